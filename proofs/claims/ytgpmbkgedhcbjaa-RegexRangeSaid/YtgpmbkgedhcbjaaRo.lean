/-
  What is shown is parsed into what matches the same: how a shown text is read again.
-/
import Derived.Test.YtgpmbkgedhcbjaaRg
namespace Go.Proofs.Ytgpmbkgedhcbjaa

/-- Bytes stand in a text, from a place on. -/
structure At (S : ByteArray) (p : Nat) (x : List UInt8) : Prop where
  at_ : ∀ i (h : i < x.length), p + i < S.size ∧ byteAt S (p + i) = x[i].toNat
theorem At.head {S : ByteArray} {p : Nat} {c : UInt8} {x : List UInt8} (h : At S p (c :: x)) : p < S.size ∧ byteAt S p = c.toNat := by
  have := h.at_ 0 (by simp)
  simpa using this
theorem At.tail {S : ByteArray} {p : Nat} {c : UInt8} {x : List UInt8} (h : At S p (c :: x)) : At S (p + 1) x := ⟨fun i hi => by
  have := h.at_ (i + 1) (by simp; omega)
  rw [show p + 1 + i = p + (i + 1) by omega]
  simpa using this⟩
theorem At.left {S : ByteArray} {p : Nat} {x y : List UInt8} (h : At S p (x ++ y)) : At S p x := ⟨fun i hi => by
  have := h.at_ i (by simp; omega)
  rw [List.getElem_append_left hi] at this
  exact this⟩
theorem At.right {S : ByteArray} {p : Nat} {x y : List UInt8} (h : At S p (x ++ y)) : At S (p + x.length) y := ⟨fun i hi => by
  have := h.at_ (x.length + i) (by simp; omega)
  rw [List.getElem_append_right (by omega)] at this
  rw [show p + x.length + i = p + (x.length + i) by omega]
  simpa using this⟩
theorem At.all (l : List UInt8) : At (bstr l) 0 l := ⟨fun i hi => by
  have h : i < (bstr l).size := by show i < l.toArray.size; simpa using hi
  rw [Nat.zero_add]
  refine ⟨h, ?_⟩
  rw [byteAt, dif_pos h]
  have e : (bstr l)[i]'h = l[i] := by
    show l.toArray[i]'(by simpa using hi) = l[i]
    exact List.getElem_toArray ..
  exact congrArg UInt8.toNat e⟩

def shownC (L : List Nat) : List UInt8 := L.flatMap fun b => [92, 120, hexB (b / 16), hexB (b % 16)]
theorem flatMap_if {α β : Type} (L : List α) (P : α → Bool) (f : α → List β) : (L.flatMap fun b => if P b then f b else []) = (L.filter P).flatMap f := by
  induction L with
  | nil => rfl
  | cons a L ih =>
    by_cases h : P a = true
    · rw [List.flatMap_cons, if_pos h, List.filter_cons_of_pos h, List.flatMap_cons, ih]
    · rw [List.flatMap_cons, if_neg h, List.filter_cons_of_neg h, ih]; rfl
theorem classS_eq (r : Rx) : classS r 256 = shownC ((List.range 256).filter r.has) := flatMap_if _ _ _
def classF (r : Rx) : Bs := ((List.range 256).filter r.has).foldl Bs.add Bs.zero
theorem digit_hex {n : Nat} (h : n < 16) : digitV (hexB n).toNat = some n := by
  have : ∀ n : Fin 16, digitV (hexB n.val).toNat = some n.val := by decide
  exact this ⟨n, h⟩
theorem char_hex {S : ByteArray} {p b : Nat} (hb : b < 256) (h : At S p [120, hexB (b / 16), hexB (b % 16)]) : charB S p = .ok (b, p + 3) := by
  obtain ⟨h0, e0⟩ := h.head
  obtain ⟨h1, e1⟩ := h.tail.head
  obtain ⟨h2, e2⟩ := h.tail.tail.head
  have n0 : nextB S p = .ok (120, p + 1) := by rw [nextB, if_pos h0, e0]; rfl
  have d1 : digitB S (p + 1) = .ok (b / 16, p + 1 + 1) := by
    rw [digitB, nextB, if_pos h1, e1]
    simp only [digit_hex (show b / 16 < 16 by omega)]
  have d2 : digitB S (p + 1 + 1) = .ok (b % 16, p + 1 + 1 + 1) := by
    rw [digitB, nextB, if_pos h2, e2]
    simp only [digit_hex (show b % 16 < 16 by omega)]
  rw [charB, n0]
  simp [namedB, d1, d2]
  omega
theorem shown_first {S : ByteArray} {p : Nat} {L : List Nat} (h : At S p (shownC L ++ [93])) : p < S.size ∧ (byteAt S p = 92 ∨ byteAt S p = 93) := by
  cases L with
  | nil =>
    have h : At S p [93] := h
    exact ⟨h.head.1, .inr h.head.2⟩
  | cons b L =>
    have h : At S p (92 :: 120 :: hexB (b / 16) :: hexB (b % 16) :: (shownC L ++ [93])) := h
    exact ⟨h.head.1, .inl h.head.2⟩
theorem class_read {S : ByteArray} : ∀ (L : List Nat) (x : Bs) (p k : Nat), (∀ b ∈ L, b < 256) → At S p (shownC L ++ [93]) → L.length < k → classL S k x p = some (.ok (L.foldl Bs.add x, p + (shownC L).length + 1)) := by
  intro L
  induction L with
  | nil =>
    intro x p k _ h hk
    obtain ⟨k, rfl⟩ : ∃ j, k = j + 1 := ⟨k - 1, by simp at hk; omega⟩
    have h : At S p [93] := h
    obtain ⟨h0, e0⟩ := h.head
    rw [classL, if_pos (by simp [isB, h0, e0])]
    rfl
  | cons b L ih =>
    intro x p k hL h hk
    obtain ⟨k, rfl⟩ : ∃ j, k = j + 1 := ⟨k - 1, by simp at hk; omega⟩
    have h : At S p (92 :: 120 :: hexB (b / 16) :: hexB (b % 16) :: (shownC L ++ [93])) := h
    obtain ⟨h0, e0⟩ := h.head
    have hc : charB S (p + 1) = .ok (b, p + 1 + 3) := char_hex (hL b (by simp)) (show At S (p + 1) ([120, hexB (b / 16), hexB (b % 16)] ++ (shownC L ++ [93])) from h.tail).left
    have hr : At S (p + 1 + 3) (shownC L ++ [93]) := h.tail.tail.tail.tail
    have n1 : isB S (p + 1 + 3) 45 = false := by
      rcases (shown_first hr).2 with e | e <;> simp [isB, e]
    have e0' : byteAt S p = 92 := e0
    have o : oneB S p = .ok (b, p + 1 + 3) := by rw [oneB, if_pos (by simp [isB, h0, e0']), hc]
    rw [classL, if_neg (by simp [isB, e0']), o]
    simp only [n1, Bool.false_eq_true, if_false, Nat.lt_irrefl]
    rw [show b + 1 - b = 1 by omega]
    show classL S k (x.add b) (p + 1 + 3) = _
    rw [ih (x.add b) _ k (fun c hc => hL c (by simp [hc])) hr (by simp at hk; omega)]
    have e : (shownC (b :: L)).length = (shownC L).length + 4 := by simp [shownC]
    rw [e]
    simp only [List.foldl_cons]
    congr 3
    omega
theorem atom_class {S : ByteArray} {p : Nat} (L : List Nat) (hL : ∀ b ∈ L, b < 256) (h : At S p ([91] ++ shownC L ++ [93])) {k : Nat} (hk : L.length + 2 ≤ k) :
    atomB S k p = some (.ok ((L.foldl Bs.add Bs.zero).rx, p + ([91] ++ shownC L ++ [93]).length)) := by
  obtain ⟨k, rfl⟩ : ∃ j, k = j + 1 := ⟨k - 1, by omega⟩
  have h : At S p (91 :: (shownC L ++ [93])) := h
  obtain ⟨h0, e0⟩ := h.head
  have e0' : byteAt S p = 91 := e0
  have hn : nextB S p = .ok (91, p + 1) := by rw [nextB, if_pos h0, e0']
  have n1 : isB S (p + 1) 94 = false := by
    rcases (shown_first h.tail).2 with e | e <;> simp [isB, e]
  rw [atomB, hn]
  simp [classB, n1, class_read L Bs.zero (p + 1) k hL h.tail (by omega)]
  omega

theorem add_has (x : Bs) (b c : Nat) (hb : b < 256) (hc : c < 256) : (x.add c).rx.has b = (x.rx.has b || decide (b = c)) := by
  have h1 : b / 64 = 0 ∨ b / 64 = 1 ∨ b / 64 = 2 ∨ b / 64 = 3 := by omega
  have h2 : c / 64 = 0 ∨ c / 64 = 1 ∨ c / 64 = 2 ∨ c / 64 = 3 := by omega
  have h3 : decide (b = c) = (decide (b / 64 = c / 64) && decide (c % 64 = b % 64)) := by
    rw [Bool.eq_iff_iff]; simp; omega
  rw [h3]
  rcases h1 with h1 | h1 | h1 | h1 <;> rcases h2 with h2 | h2 | h2 | h2 <;> simp [Bs.add, Bs.rx, Rx.has, h1, h2, Nat.testBit_or, Nat.testBit_two_pow]
theorem fold_has {b : Nat} (hb : b < 256) : ∀ (L : List Nat) (x : Bs), (∀ c ∈ L, c < 256) → (L.foldl Bs.add x).rx.has b = (x.rx.has b || decide (b ∈ L)) := by
  intro L
  induction L with
  | nil => intro x _; simp
  | cons c L ih =>
    intro x hL
    rw [List.foldl_cons, ih _ (fun d hd => hL d (by simp [hd])), add_has x b c hb (hL c (by simp)), Bool.or_assoc]
    congr 1
    rw [Bool.eq_iff_iff]; simp
theorem classF_has (r : Rx) {b : Nat} (hb : b < 256) : (classF r).rx.has b = r.has b := by
  rw [classF, fold_has hb _ _ (fun c hc => by simp at hc; exact hc.1)]
  have hz : Bs.zero.rx.has b = false := by simp [Bs.zero, Bs.rx, Rx.has]; split <;> simp
  rw [hz, Bool.false_or, Bool.eq_iff_iff]
  simp [hb]

mutual
/-- What a regex is when it was shown, and is parsed again. -/
def normR : Rx → Rx
  | .mk k b0 b1 b2 b3 kids =>
    if k = 0 then .zero else if k = 1 then (classF (.mk k b0 b1 b2 b3 [])).rx
    else if k = 4 then starR ((normL kids).headD .zero)
    else if k = 2 then ofR 2 (normL kids)
    else if k = 3 ∧ kids ≠ [] then ofR 3 (normL kids) else Bs.zero.rx
def normL : List Rx → List Rx
  | [] => []
  | r :: rs => normR r :: normL rs
end
theorem normL_eq (l : List Rx) : normL l = l.map normR := by
  induction l with
  | nil => rfl
  | cons r l ih => simp [normL, ih]
theorem ofR_small (k : Int) (l : List Rx) : (ofR k l).size ≤ 1 + Rx.sizes l := by
  match l with
  | [] => simp [ofR, Rx.zero, Rx.size, Rx.sizes]
  | [r] => simp [ofR, Rx.sizes]
  | r :: q :: l => simp [ofR, Rx.size]
theorem join_none : ∀ (xs : List (List UInt8)), Lib.join xs [] = xs.flatten := by
  intro xs
  induction xs with
  | nil => rfl
  | cons x xs ih =>
    cases xs with
    | nil => simp [Lib.join]
    | cons y l =>
      have : Lib.join (x :: y :: l) [] = x ++ Lib.join (y :: l) [] := by simp [Lib.join, List.intercalate]
      rw [this, ih]; rfl
theorem join_bar : ∀ (x : List UInt8) (xs : List (List UInt8)), Lib.join (x :: xs) [124] = x ++ xs.flatMap (fun y => 124 :: y) := by
  intro x xs
  induction xs generalizing x with
  | nil => simp [Lib.join]
  | cons y l ih =>
    have : Lib.join (x :: y :: l) [124] = x ++ 124 :: Lib.join (y :: l) [124] := by simp [Lib.join, List.intercalate]
    rw [this, ih]
    simp
/-- How a regex is shown, and what it is read as again, by its kind. -/
theorem show_cases (k : Int) (b0 b1 b2 b3 : Nat) (kids : List Rx) :
    (k = 0 ∧ showL (.mk k b0 b1 b2 b3 kids) = [40, 41] ∧ normR (.mk k b0 b1 b2 b3 kids) = .zero) ∨
    (k = 1 ∧ showL (.mk k b0 b1 b2 b3 kids) = [91] ++ classS (.mk k b0 b1 b2 b3 []) 256 ++ [93] ∧ normR (.mk k b0 b1 b2 b3 kids) = (classF (.mk k b0 b1 b2 b3 [])).rx) ∨
    (k = 4 ∧ showL (.mk k b0 b1 b2 b3 kids) = (showLs kids).headD [40, 41] ++ [42] ∧ normR (.mk k b0 b1 b2 b3 kids) = starR ((normL kids).headD .zero)) ∨
    (k = 2 ∧ showL (.mk k b0 b1 b2 b3 kids) = [40] ++ (kids.map showL).flatten ++ [41] ∧ normR (.mk k b0 b1 b2 b3 kids) = ofR 2 (kids.map normR)) ∨
    (∃ x xs, k = 3 ∧ kids = x :: xs ∧ showL (.mk k b0 b1 b2 b3 kids) = [40] ++ (showL x ++ xs.flatMap fun r => 124 :: showL r) ++ [41] ∧ normR (.mk k b0 b1 b2 b3 kids) = ofR 3 (normR x :: xs.map normR)) ∨
    (k ≠ 0 ∧ k ≠ 1 ∧ k ≠ 4 ∧ k ≠ 2 ∧ ¬ (k = 3 ∧ kids ≠ []) ∧ showL (.mk k b0 b1 b2 b3 kids) = [91, 93] ∧ normR (.mk k b0 b1 b2 b3 kids) = Bs.zero.rx) := by
  rw [showL, normR]
  by_cases h0 : k = 0
  · exact .inl ⟨h0, if_pos h0, if_pos h0⟩
  rw [if_neg h0, if_neg h0]
  by_cases h1 : k = 1
  · exact .inr (.inl ⟨h1, if_pos h1, if_pos h1⟩)
  rw [if_neg h1, if_neg h1]
  by_cases h4 : k = 4
  · exact .inr (.inr (.inl ⟨h4, if_pos h4, if_pos h4⟩))
  rw [if_neg h4, if_neg h4]
  by_cases h2 : k = 2
  · exact .inr (.inr (.inr (.inl ⟨h2, by rw [if_pos h2, join_none, showLs_eq], by rw [if_pos h2, normL_eq]⟩)))
  rw [if_neg h2, if_neg h2]
  by_cases h3 : k = 3 ∧ kids ≠ []
  · rw [if_pos h3, if_pos h3]
    cases kids with
    | nil => exact absurd rfl h3.2
    | cons x xs => exact .inr (.inr (.inr (.inr (.inl ⟨x, xs, h3.1, rfl, by rw [showLs, join_bar, showLs_eq, List.flatMap_map], by rw [normL_eq, List.map_cons]⟩))))
  · exact .inr (.inr (.inr (.inr (.inr ⟨h0, h1, h4, h2, h3, by rw [if_neg h3], by rw [if_neg h3]⟩))))
theorem flatten_size : ∀ (l : List Rx), (∀ r ∈ l, (normR r).size ≤ (showL r).length) → Rx.sizes (l.map normR) ≤ ((l.map showL).flatten).length ∧ Rx.sizes (l.map normR) ≤ (l.flatMap fun r => 124 :: showL r).length := by
  intro l
  induction l with
  | nil => intro _; simp [Rx.sizes]
  | cons r l ih =>
    intro h
    have h1 := h r (by simp)
    have h2 := ih (fun q hq => h q (by simp [hq]))
    simp only [List.map_cons, Rx.sizes, List.flatten_cons, List.length_append, List.flatMap_cons, List.length_cons]
    omega
mutual
theorem norm_size : ∀ r : Rx, (normR r).size ≤ (showL r).length
  | .mk k b0 b1 b2 b3 kids => by
    have ih := norm_sizes kids
    have hs := flatten_size kids ih
    rcases show_cases k b0 b1 b2 b3 kids with ⟨_, e, g⟩ | ⟨_, e, g⟩ | ⟨_, e, g⟩ | ⟨_, e, g⟩ | ⟨x, xs, _, hk, e, g⟩ | ⟨_, _, _, _, _, e, g⟩ <;> rw [e, g]
    · simp [Rx.zero, Rx.size, Rx.sizes]
    · simp [Bs.rx, Rx.size, Rx.sizes]
    · cases kids with
      | nil => simp [normL, showLs, starR, Rx.size, Rx.sizes, Rx.zero]
      | cons r l =>
        have := ih r (by simp)
        simp [normL, showLs, starR, Rx.size, Rx.sizes]
        omega
    · have := ofR_small 2 (kids.map normR)
      simp only [List.length_append, List.length_singleton]
      omega
    · have := ofR_small 3 (normR x :: xs.map normR)
      subst hk
      have h1 := ih x (by simp)
      have h2 := (flatten_size xs (fun q hq => ih q (by simp [hq]))).2
      simp only [Rx.sizes] at this
      simp only [List.length_append, List.length_singleton]
      omega
    · simp [Bs.rx, Rx.size, Rx.sizes]
theorem norm_sizes : ∀ (l : List Rx), ∀ r ∈ l, (normR r).size ≤ (showL r).length
  | [], r, h => absurd h (by simp)
  | x :: xs, r, h => by
    rcases List.mem_cons.1 h with e | e
    · rw [e]; exact norm_size x
    · exact norm_sizes xs r e
end

/-- What is shown begins with a bracket. -/
def Opens (x : List UInt8) : Prop := ∃ c t, x = c :: t ∧ (c = 40 ∨ c = 91)
theorem Opens.mk_ (c : UInt8) (x y : List UInt8) (h : c = 40 ∨ c = 91) : Opens ([c] ++ x ++ y) := ⟨c, x ++ y, by simp, h⟩
mutual
theorem show_opens : ∀ r : Rx, Opens (showL r)
  | .mk k b0 b1 b2 b3 kids => by
    have ih := shows_open kids
    rcases show_cases k b0 b1 b2 b3 kids with ⟨_, e, g⟩ | ⟨_, e, g⟩ | ⟨_, e, g⟩ | ⟨_, e, g⟩ | ⟨x, xs, _, hk, e, g⟩ | ⟨_, _, _, _, _, e, g⟩ <;> rw [e]
    · exact ⟨40, [41], rfl, .inl rfl⟩
    · exact Opens.mk_ _ _ _ (.inr rfl)
    · cases kids with
      | nil => exact ⟨40, [41, 42], rfl, .inl rfl⟩
      | cons r l =>
        obtain ⟨c, t, e, h⟩ := ih r (by simp)
        exact ⟨c, t ++ [42], by simp [showLs, e], h⟩
    · exact Opens.mk_ _ _ _ (.inl rfl)
    · exact Opens.mk_ _ _ _ (.inl rfl)
    · exact ⟨91, [93], rfl, .inr rfl⟩
theorem shows_open : ∀ (l : List Rx), ∀ r ∈ l, Opens (showL r)
  | [], r, h => absurd h (by simp)
  | x :: xs, r, h => by
    rcases List.mem_cons.1 h with e | e
    · rw [e]; exact show_opens x
    · exact shows_open xs r e
end

/-- A shown regex is read as one piece. -/
def Piece (S : ByteArray) (r : Rx) : Prop := ∀ p, At S p (showL r) → ∃ (r1 : Rx) (q1 k0 j : Nat), r1.size ≤ 500 ∧ (∀ k, k0 ≤ k → atomB S k p = some (.ok (r1, q1))) ∧
  (∀ k, behindB S (k + j) r1 q1 = behindB S k (normR r) (p + (showL r).length))
def Still (S : ByteArray) (q : Nat) : Prop := isB S q 42 = false ∧ isB S q 43 = false ∧ isB S q 63 = false
theorem still_of {S : ByteArray} {q : Nat} (h : byteAt S q = 40 ∨ byteAt S q = 91 ∨ byteAt S q = 41 ∨ byteAt S q = 124) : Still S q := by
  rcases h with h | h | h | h <;> simp [Still, isB, h]
theorem piece_way {S : ByteArray} {r : Rx} (hr : Piece S r) {p : Nat} (h : At S p (showL r)) (hq : Still S (p + (showL r).length)) :
    ∃ k0, ∀ k l, k0 ≤ k → wayB S (k + 1) l p = wayB S k (l ++ [normR r]) (p + (showL r).length) := by
  obtain ⟨r1, q1, k0, j, h1, h2, h3⟩ := hr p h
  refine ⟨k0 + j + 1, fun k l hk => ?_⟩
  obtain ⟨c, t, e, hc⟩ := show_opens r
  have hh := h
  rw [e] at hh
  obtain ⟨g0, g1⟩ := hh.head
  have hB : behindB S k r1 q1 = some (.ok (normR r, p + (showL r).length)) := by
    obtain ⟨i, rfl⟩ : ∃ i, k = i + 1 + j := ⟨k - 1 - j, by omega⟩
    rw [h3 (i + 1)]
    exact rbehind_none hq.1 hq.2.1 hq.2.2
  refine rway_step ?_ (h2 k (by omega)) h1 hB
  rw [g1]
  rcases hc with rfl | rfl <;> simp [g0]
theorem cat_way {S : ByteArray} : ∀ (kids : List Rx), (∀ r ∈ kids, Piece S r) → ∀ (p : Nat) (l : List Rx), At S p ((kids.map showL).flatten ++ [41]) →
    ∃ k0, ∀ k, k0 ≤ k → wayB S k l p = some (.ok (ofR 2 (l ++ kids.map normR), p + (kids.map showL).flatten.length)) := by
  intro kids
  induction kids with
  | nil =>
    intro _ p l h
    refine ⟨1, fun k hk => ?_⟩
    obtain ⟨k, rfl⟩ : ∃ j, k = j + 1 := ⟨k - 1, by omega⟩
    have h : At S p [41] := h
    rw [rway_end (.inr (.inr h.head.2))]
    simp
  | cons r kids ih =>
    intro hp p l h
    have h : At S p (showL r ++ ((kids.map showL).flatten ++ [41])) := by simpa using h
    have hn : Still S (p + (showL r).length) := by
      have hh := h.right
      cases kids with
      | nil =>
        have hh : At S (p + (showL r).length) [41] := hh
        exact still_of (.inr (.inr (.inl hh.head.2)))
      | cons q kids =>
        obtain ⟨c, t, e, hc⟩ := show_opens q
        have hh : At S (p + (showL r).length) (c :: (t ++ ((kids.map showL).flatten ++ [41]))) := by simpa [e] using hh
        have := hh.head.2
        rcases hc with rfl | rfl
        · exact still_of (.inl this)
        · exact still_of (.inr (.inl this))
    obtain ⟨k1, e1⟩ := piece_way (hp r (by simp)) h.left hn
    obtain ⟨k2, e2⟩ := ih (fun q hq => hp q (by simp [hq])) _ (l ++ [normR r]) h.right
    refine ⟨k1 + k2 + 1, fun k hk => ?_⟩
    obtain ⟨k, rfl⟩ : ∃ j, k = j + 1 := ⟨k - 1, by omega⟩
    rw [e1 k l (by omega), e2 k (by omega)]
    simp [Nat.add_assoc]
theorem alt_ways {S : ByteArray} : ∀ (kids : List Rx), (∀ r ∈ kids, Piece S r) → ∀ (p : Nat) (l : List Rx), At S p ((kids.flatMap fun r => 124 :: showL r) ++ [41]) →
    ∃ k0, ∀ k, k0 ≤ k → waysL S k l p = some (.ok (ofR 3 (l ++ kids.map normR), p + (kids.flatMap fun r => 124 :: showL r).length)) := by
  intro kids
  induction kids with
  | nil =>
    intro _ p l h
    refine ⟨1, fun k hk => ?_⟩
    obtain ⟨k, rfl⟩ : ∃ j, k = j + 1 := ⟨k - 1, by omega⟩
    have h : At S p [41] := h
    have e : byteAt S p = 41 := h.head.2
    rw [rwaysL_end (by simp [isB, e])]
    simp
  | cons r kids ih =>
    intro hp p l h
    have h : At S p (124 :: (showL r ++ ((kids.flatMap fun r => 124 :: showL r) ++ [41]))) := by simpa using h
    have hbar : byteAt S p = 124 := h.head.2
    have hh := h.tail.right
    have hend : byteAt S (p + 1 + (showL r).length) = 124 ∨ byteAt S (p + 1 + (showL r).length) = 41 := by
      cases kids with
      | nil =>
        have hh : At S (p + 1 + (showL r).length) [41] := hh
        exact .inr hh.head.2
      | cons q kids =>
        have hh : At S (p + 1 + (showL r).length) (124 :: (showL q ++ ((kids.flatMap fun r => 124 :: showL r) ++ [41]))) := by simpa using hh
        exact .inl hh.head.2
    obtain ⟨k1, e1⟩ := piece_way (hp r (by simp)) h.tail.left (still_of (by rcases hend with e | e <;> simp [e]))
    obtain ⟨k2, e2⟩ := ih (fun q hq => hp q (by simp [hq])) _ (l ++ [normR r]) hh
    refine ⟨k1 + k2 + 3, fun k hk => ?_⟩
    obtain ⟨k, rfl⟩ : ∃ j, k = j + 1 + 1 + 1 := ⟨k - 3, by omega⟩
    have hw : wayB S (k + 1 + 1) [] (p + 1) = some (.ok (normR r, p + 1 + (showL r).length)) := by
      rw [e1 (k + 1) [] (by omega), rway_end (.inr hend)]
      rfl
    rw [rwaysL_step (by simp [isB, h.head.1, hbar]) hw, e2 _ (by omega)]
    simp [Nat.add_assoc, Nat.add_comm, Nat.add_left_comm]
theorem atom_group {S : ByteArray} {p q k0 : Nat} {r : Rx} (hp : p < S.size) (hb : byteAt S p = 40) (hq : q < S.size) (hc : byteAt S q = 41) (h : ∀ k, k0 ≤ k → waysB S k (p + 1) = some (.ok (r, q))) :
    ∀ k, k0 + 1 ≤ k → atomB S k p = some (.ok (r, q + 1)) := by
  intro k hk
  obtain ⟨k, rfl⟩ : ∃ j, k = j + 1 := ⟨k - 1, by omega⟩
  have hn : nextB S p = .ok (40, p + 1) := by simp [nextB, hp, hb]
  have hc : isB S q 41 = true := by simp [isB, hq, hc]
  rw [atomB, hn]
  simp only [if_true, h k (by omega), hc]
theorem group_cat {S : ByteArray} (kids : List Rx) (hk : ∀ r ∈ kids, Piece S r) {p : Nat} (h : At S p ([40] ++ (kids.map showL).flatten ++ [41])) :
    ∃ k0, ∀ k, k0 ≤ k → atomB S k p = some (.ok (ofR 2 (kids.map normR), p + ([40] ++ (kids.map showL).flatten ++ [41]).length)) := by
  have h : At S p (40 :: ((kids.map showL).flatten ++ [41])) := h
  obtain ⟨k0, e⟩ := cat_way kids hk (p + 1) [] h.tail
  have hr := h.tail.right.head
  have hr2 : byteAt S (p + 1 + (kids.map showL).flatten.length) = 41 := hr.2
  refine ⟨k0 + 2 + 1, fun k hk => ?_⟩
  rw [atom_group (k0 := k0 + 2) (r := ofR 2 (kids.map normR)) (q := p + 1 + (kids.map showL).flatten.length) h.head.1 h.head.2 hr.1 hr2 ?_ k (by omega)]
  · simp [Nat.add_assoc, Nat.add_comm, Nat.add_left_comm]
  · intro k hk
    obtain ⟨k, rfl⟩ : ∃ j, k = j + 1 + 1 := ⟨k - 2, by omega⟩
    exact (rways_step (e (k + 1) (by omega))).trans (rwaysL_end (by simp only [isB, hr2]; simp))
theorem group_alt {S : ByteArray} (r : Rx) (kids : List Rx) (hr : Piece S r) (hk : ∀ r ∈ kids, Piece S r) {p : Nat} (h : At S p ([40] ++ (showL r ++ kids.flatMap fun r => 124 :: showL r) ++ [41])) :
    ∃ k0, ∀ k, k0 ≤ k → atomB S k p = some (.ok (ofR 3 (normR r :: kids.map normR), p + ([40] ++ (showL r ++ kids.flatMap fun r => 124 :: showL r) ++ [41]).length)) := by
  have h : At S p (40 :: (showL r ++ ((kids.flatMap fun r => 124 :: showL r) ++ [41]))) := by simpa using h
  have hh := h.tail.right
  have hend : byteAt S (p + 1 + (showL r).length) = 124 ∨ byteAt S (p + 1 + (showL r).length) = 41 := by
    cases kids with
    | nil =>
      have hh : At S (p + 1 + (showL r).length) [41] := hh
      exact .inr hh.head.2
    | cons q kids =>
      have hh : At S (p + 1 + (showL r).length) (124 :: (showL q ++ ((kids.flatMap fun r => 124 :: showL r) ++ [41]))) := by simpa using hh
      exact .inl hh.head.2
  obtain ⟨k1, e1⟩ := piece_way hr h.tail.left (still_of (by rcases hend with e | e <;> simp [e]))
  obtain ⟨k2, e2⟩ := alt_ways kids hk _ [normR r] hh
  have hr := hh.right.head
  have hr2 : byteAt S (p + 1 + (showL r).length + (kids.flatMap fun r => 124 :: showL r).length) = 41 := hr.2
  refine ⟨k1 + k2 + 4, fun k hk => ?_⟩
  rw [atom_group (k0 := k1 + k2 + 3) (r := ofR 3 (normR r :: kids.map normR)) h.head.1 h.head.2 hr.1 hr2 ?_ k (by omega)]
  · simp [Nat.add_assoc, Nat.add_comm, Nat.add_left_comm]
  · intro k hk
    obtain ⟨k, rfl⟩ : ∃ j, k = j + 1 + 1 + 1 := ⟨k - 3, by omega⟩
    have hw : wayB S (k + 1 + 1) [] (p + 1) = some (.ok (normR r, p + 1 + (showL r).length)) := by
      rw [e1 (k + 1) [] (by omega), rway_end (.inr hend)]
      rfl
    rw [rways_step hw, e2 _ (by omega)]
    rfl
mutual
theorem piece {S : ByteArray} (hS : S.size ≤ 200) : ∀ r : Rx, Piece S r
  | .mk kd b0 b1 b2 b3 kids => by
    intro p h
    have ihn := norm_size (.mk kd b0 b1 b2 b3 kids)
    have hlen : (showL (.mk kd b0 b1 b2 b3 kids)).length ≤ 200 := by
      by_cases h0 : (showL (.mk kd b0 b1 b2 b3 kids)).length = 0
      · omega
      · have := (h.at_ ((showL (.mk kd b0 b1 b2 b3 kids)).length - 1) (by omega)).1
        omega
    have ih := pieces hS kids
    rcases show_cases kd b0 b1 b2 b3 kids with ⟨_, e, g⟩ | ⟨_, e, g⟩ | ⟨_, e, g⟩ | ⟨_, e, g⟩ | ⟨x, xs, _, hk, e, g⟩ | ⟨_, _, _, _, _, e, g⟩ <;> rw [e] at h ihn hlen ⊢ <;> rw [g] at ihn ⊢
    · obtain ⟨k0, f⟩ := group_cat [] (by simp) (p := p) (S := S) h
      exact ⟨_, _, k0, 0, by simp [ofR, Rx.zero, Rx.size, Rx.sizes], f, fun k => rfl⟩
    · rw [classS_eq] at h ⊢
      exact ⟨_, _, _, 0, by simp [Bs.rx, Rx.size, Rx.sizes], fun k hk => atom_class _ (fun b hb => by simp at hb; exact hb.1) h hk, fun k => rfl⟩
    · cases kids with
      | nil =>
        have h : At S p ([40, 41] ++ [42]) := h
        obtain ⟨k0, f⟩ := group_cat [] (by simp) (p := p) (S := S) h.left
        refine ⟨_, _, k0, 1, by simp [ofR, Rx.zero, Rx.size, Rx.sizes], f, fun k => ?_⟩
        have e42 : byteAt S (p + 2) = 42 := h.right.head.2
        have e43 : p + 2 < S.size := h.right.head.1
        have hb : isB S (p + 2) 42 = true := by simp only [isB, e42, e43]; simp
        show behindB S (k + 1) .zero (p + 2) = _
        rw [behindB, if_pos hb, fitR_ok (by simp [starR, Rx.zero, Rx.size, Rx.sizes])]
        rfl
      | cons x xs =>
        have h : At S p (showL x ++ [42]) := h
        obtain ⟨r1, q1, k0, j, h1, h2, h3⟩ := ih x (by simp) p h.left
        refine ⟨r1, q1, k0, j + 1, h1, h2, fun k => ?_⟩
        have e42 : byteAt S (p + (showL x).length) = 42 := h.right.head.2
        have hb : isB S (p + (showL x).length) 42 = true := by simp [isB, e42, h.right.head.1]
        rw [show k + (j + 1) = k + 1 + j by omega, h3, behindB, if_pos hb]
        have hsz : (starR (normR x)).size ≤ 500 := by
          have : (starR ((normL (x :: xs)).headD .zero)).size = (starR (normR x)).size := rfl
          omega
        rw [fitR_ok hsz]
        show behindB S k (starR (normR x)) (p + (showL x).length + 1) = behindB S k (starR (normR x)) (p + (showL x ++ [42]).length)
        rw [List.length_append]
        rfl
    · obtain ⟨k0, f⟩ := group_cat kids ih h
      exact ⟨_, _, k0, 0, by omega, f, fun k => rfl⟩
    · subst hk
      obtain ⟨k0, f⟩ := group_alt x xs (ih x (by simp)) (fun q hq => ih q (by simp [hq])) h
      exact ⟨_, _, k0, 0, by omega, f, fun k => rfl⟩
    · exact ⟨_, _, _, 0, by simp [Bs.rx, Rx.size, Rx.sizes], fun k hk => atom_class [] (by simp) h hk, fun k => rfl⟩
theorem pieces {S : ByteArray} (hS : S.size ≤ 200) : ∀ (l : List Rx), ∀ r ∈ l, Piece S r
  | [], r, h => absurd h (by simp)
  | x :: xs, r, h => by
    rcases List.mem_cons.1 h with e | e
    · rw [e]; exact piece hS x
    · exact pieces hS xs r e
end
theorem parse_of_many {S : ByteArray} {r : Rx} (hs : S.size ≤ 200) (h : ∃ k0, ∀ k, k0 ≤ k → waysB S k 0 = some (.ok (r, S.size))) : parseM S = fitR r := by
  obtain ⟨k0, h⟩ := h
  refine parse_of hs ?_
  have h1 := h (k0 + 604) (by omega)
  rcases ways_le (s := S) (show 604 ≤ k0 + 604 by omega) 0 with e | e
  · exact absurd e ((all_total (by omega) 604).1 0 (by omega) (by omega))
  · rw [e]; exact h1
/-- What is shown is read again. -/
theorem parse_show (r : Rx) (h : (showL r).length ≤ 200) : parseM (bstr (showL r)) = .ok (normR r) := by
  have hz : (bstr (showL r)).size = (showL r).length := by show (showL r).toArray.size = _; simp
  have hs : (bstr (showL r)).size ≤ 200 := by omega
  have hA := At.all (showL r)
  have hn := norm_size r
  rw [parse_of_many (r := normR r) hs, fitR_ok (by omega)]
  obtain ⟨k0, e⟩ := piece_way (piece hs r) hA (by
    rw [Nat.zero_add]
    exact ⟨isB_out _ (by omega), isB_out _ (by omega), isB_out _ (by omega)⟩)
  refine ⟨k0 + 3, fun k hk => ?_⟩
  obtain ⟨k, rfl⟩ : ∃ j, k = j + 1 + 1 + 1 := ⟨k - 3, by omega⟩
  have hw : wayB (bstr (showL r)) (k + 1 + 1) [] 0 = some (.ok (normR r, (bstr (showL r)).size)) := by
    rw [e (k + 1) [] (by omega), Nat.zero_add, ← hz, rway_end (.inl (by omega))]
    rfl
  rw [rways_step hw, rwaysL_end (isB_out _ (by omega))]
  rfl

theorem Star.congr {P Q : List Nat → Prop} (h : ∀ s : List Nat, (∀ b ∈ s, b < 256) → (P s → Q s)) : ∀ s, (∀ b ∈ s, b < 256) → Star P s → Star Q s := by
  intro s hb hs
  induction hs with
  | nil => exact .nil
  | cons a b ha _ ih => exact .cons a b (h a (fun x hx => hb x (by simp [hx])) ha) (ih (fun x hx => hb x (by simp [hx])))
theorem Star.none {P : List Nat → Prop} (h : ∀ s, P s → s = []) (s : List Nat) : Star P s ↔ s = [] := by
  constructor
  · intro hs
    induction hs with
    | nil => rfl
    | cons a b ha _ ih => rw [h a ha, ih]; rfl
  · rintro rfl; exact .nil
theorem ofR_cat (l : List Rx) (s : List Nat) : Rx.lang (ofR 2 l) s ↔ catL l s := by
  match l with
  | [] => simp [ofR, zero_lang, catL]
  | [r] => simp [ofR, catL]
  | r :: q :: l => simp [ofR, Rx.lang]
theorem ofR_alt (l : List Rx) (hl : l ≠ []) (s : List Nat) : Rx.lang (ofR 3 l) s ↔ altL l s := by
  match l with
  | [] => exact absurd rfl hl
  | [r] => simp [ofR, altL]
  | r :: q :: l => simp [ofR, Rx.lang]
mutual
theorem norm_lang : ∀ (r : Rx) (s : List Nat), (∀ b ∈ s, b < 256) → (Rx.lang (normR r) s ↔ Rx.lang r s)
  | .mk k b0 b1 b2 b3 kids, s, hb => by
    have hc := norm_cat kids
    have ha := norm_alt kids
    have hh := norm_head kids
    rcases show_cases k b0 b1 b2 b3 kids with ⟨rfl, e, g⟩ | ⟨rfl, e, g⟩ | ⟨rfl, e, g⟩ | ⟨rfl, e, g⟩ | ⟨x, xs, rfl, rfl, e, g⟩ | ⟨n0, n1, n4, n2, n3, e, g⟩ <;> rw [g, Rx.lang]
    · simp only [if_true]; exact zero_lang s
    · simp only [Bs.rx, Rx.lang, Int.reduceEq, if_true, if_false]
      constructor
      · rintro ⟨b, rfl, h⟩
        exact ⟨b, rfl, by rw [← classF_has _ (hb b (by simp))]; exact h⟩
      · rintro ⟨b, rfl, h⟩
        refine ⟨b, rfl, ?_⟩
        have := classF_has (.mk 1 b0 b1 b2 b3 []) (hb b (by simp))
        rw [h] at this
        exact this
    · simp only [Int.reduceEq, if_true, if_false]
      rw [star_lang]
      cases kids with
      | nil =>
        show Star (Rx.lang .zero) s ↔ _
        rw [Star.none (fun s h => (zero_lang s).1 h), Star.none (P := fun t => headL [] t) (fun s h => absurd h (by simp [headL]))]
      | cons x xs =>
        exact ⟨Star.congr (fun s h => (hh s h).1) s hb, Star.congr (fun s h => (hh s h).2) s hb⟩
    · simp only [Int.reduceEq, if_true, if_false]
      rw [ofR_cat, ← normL_eq]
      exact hc s hb
    · simp only [Int.reduceEq, if_true, if_false]
      rw [ofR_alt _ (by simp), ← List.map_cons, ← normL_eq]
      exact ha s hb
    · rw [if_neg n0, if_neg n1, if_neg n2]
      by_cases h3 : k = 3
      · have hk : kids = [] := by
          cases kids with
          | nil => rfl
          | cons x xs => exact absurd ⟨h3, by simp⟩ n3
        rw [if_pos h3, hk]
        simp [altL, bzero_lang]
      · rw [if_neg h3, if_neg n4]
        simp [bzero_lang]
theorem norm_cat : ∀ (l : List Rx) (s : List Nat), (∀ b ∈ s, b < 256) → (catL (normL l) s ↔ catL l s)
  | [], s, _ => by simp [normL, catL]
  | r :: rs, s, hb => by
    simp only [normL, catL]
    constructor
    · rintro ⟨a, b, rfl, h1, h2⟩
      exact ⟨a, b, rfl, (norm_lang r a (fun x hx => hb x (by simp [hx]))).1 h1, (norm_cat rs b (fun x hx => hb x (by simp [hx]))).1 h2⟩
    · rintro ⟨a, b, rfl, h1, h2⟩
      exact ⟨a, b, rfl, (norm_lang r a (fun x hx => hb x (by simp [hx]))).2 h1, (norm_cat rs b (fun x hx => hb x (by simp [hx]))).2 h2⟩
theorem norm_alt : ∀ (l : List Rx) (s : List Nat), (∀ b ∈ s, b < 256) → (altL (normL l) s ↔ altL l s)
  | [], s, _ => by simp [normL, altL]
  | r :: rs, s, hb => by
    simp only [normL, altL]
    rw [norm_lang r s hb, norm_alt rs s hb]
theorem norm_head : ∀ (l : List Rx) (s : List Nat), (∀ b ∈ s, b < 256) → (headL (normL l) s ↔ headL l s)
  | [], s, _ => by simp [normL, headL]
  | r :: rs, s, hb => by
    simp only [normL, headL]
    exact norm_lang r s hb
end
theorem bytesN_lt (s : ByteArray) : ∀ b ∈ bytesN s, b < 256 := by
  intro b hb
  simp only [bytesN, List.mem_map] at hb
  obtain ⟨c, _, rfl⟩ := hb
  exact UInt8.toNat_lt c
theorem match_norm (r : Rx) (s : ByteArray) : matchP (normR r) s = matchP r s := by
  rw [Bool.eq_iff_iff, matchP_true, matchP_true]
  exact norm_lang r _ (bytesN_lt s)
end Go.Proofs.Ytgpmbkgedhcbjaa
