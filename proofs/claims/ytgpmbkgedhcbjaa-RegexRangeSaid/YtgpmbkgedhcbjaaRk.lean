/-
  What a range is read as.
-/
import Derived.Test.YtgpmbkgedhcbjaaRo
namespace Go.Proofs.Ytgpmbkgedhcbjaa

def rangeT (lo hi : Nat) : List UInt8 := [92, 120, hexB (lo / 16), hexB (lo % 16), 45, 92, 120, hexB (hi / 16), hexB (hi % 16)]
theorem range_class {S : ByteArray} {p k lo hi : Nat} (h1 : lo < 256) (h2 : hi < 256) (h : At S p (rangeT lo hi ++ [93])) :
    classL S (k + 2) Bs.zero p = if hi < lo then some (.error 5) else some (.ok (Bs.zero.addN lo (hi + 1 - lo), p + 10)) := by
  have h : At S p (92 :: ([120, hexB (lo / 16), hexB (lo % 16)] ++ (45 :: 92 :: ([120, hexB (hi / 16), hexB (hi % 16)] ++ [93])))) := h
  obtain ⟨g0, e0⟩ := h.head
  have e0 : byteAt S p = 92 := e0
  have c1 : charB S (p + 1) = .ok (lo, p + 1 + 3) := char_hex h1 h.tail.left
  have hr : At S (p + 1 + 3) (45 :: 92 :: ([120, hexB (hi / 16), hexB (hi % 16)] ++ [93])) := h.tail.right
  obtain ⟨g4, e4⟩ := hr.head
  have e4 : byteAt S (p + 1 + 3) = 45 := e4
  obtain ⟨g5, e5⟩ := hr.tail.head
  have e5 : byteAt S (p + 1 + 3 + 1) = 92 := e5
  have c2 : charB S (p + 1 + 3 + 1 + 1) = .ok (hi, p + 1 + 3 + 1 + 1 + 3) := char_hex h2 hr.tail.tail.left
  obtain ⟨g9, e9⟩ := (show At S (p + 1 + 3 + 1 + 1 + 3) [93] from hr.tail.tail.right).head
  have e9 : byteAt S (p + 1 + 3 + 1 + 1 + 3) = 93 := e9
  have o1 : oneB S p = .ok (lo, p + 1 + 3) := by rw [oneB, if_pos (by simp [isB, g0, e0]), c1]
  have o2 : oneB S (p + 1 + 3 + 1) = .ok (hi, p + 1 + 3 + 1 + 1 + 3) := by rw [oneB, if_pos (by simp [isB, g5, e5]), c2]
  have b4 : isB S (p + 1 + 3) 45 = true := by simp [isB, g4, e4]
  have b9 : isB S (p + 1 + 3 + 1 + 1 + 3) 93 = true := by simp [isB, g9, e9]
  rw [classL, if_neg (by simp [isB, e0]), o1]
  simp only [b4, if_true, o2]
  by_cases hlt : hi < lo
  · rw [if_pos hlt, if_pos hlt]
  · rw [if_neg hlt, if_neg hlt, classL, if_pos b9]
theorem range_read (not : Bool) {lo hi : Nat} (h1 : lo < 256) (h2 : hi < 256) :
    parseM (bstr ((if not then [91, 94] else [91]) ++ rangeT lo hi ++ [93])) = if hi < lo then .error 5 else .ok ((if not then (Bs.zero.addN lo (hi + 1 - lo)).others else Bs.zero.addN lo (hi + 1 - lo)).rx) := by
  obtain ⟨L, hL⟩ : ∃ L, (if not then [91, 94] else [91]) ++ rangeT lo hi ++ [93] = L := ⟨_, rfl⟩
  have hA := At.all L
  have hz : (bstr L).size = L.length := by show L.toArray.size = _; simp
  have hlen : L.length = (if not then 2 else 1) + 10 := by rw [← hL]; cases not <;> rfl
  rw [hL]
  obtain ⟨S, hS⟩ : ∃ S, bstr L = S := ⟨_, rfl⟩
  rw [hS] at hA hz ⊢
  have key : ∀ k, atomB S (k + 2 + 1) 0 = if hi < lo then some (.error 5) else some (.ok ((if not then (Bs.zero.addN lo (hi + 1 - lo)).others else Bs.zero.addN lo (hi + 1 - lo)).rx, S.size)) := by
    intro k
    cases not with
    | false =>
      have hA : At S 0 (91 :: (rangeT lo hi ++ [93])) := by rw [← hL] at hA; exact hA
      have e0 : byteAt S 0 = 91 := hA.head.2
      have e1 : byteAt S (0 + 1) = 92 := hA.tail.head.2
      have hn : nextB S 0 = .ok (91, 0 + 1) := by rw [nextB, if_pos hA.head.1, e0]
      have n1 : isB S (0 + 1) 94 = false := by simp only [isB, e1]; simp
      rw [atomB, hn]
      simp only [classB, n1, Bool.false_eq_true, if_false, range_class h1 h2 hA.tail]
      have hz' : S.size = 0 + 1 + 10 := by rw [hz, hlen]; rfl
      by_cases hlt : hi < lo
      · simp [hlt]
      · simp [hlt, hz']
    | true =>
      have hA : At S 0 (91 :: 94 :: (rangeT lo hi ++ [93])) := by rw [← hL] at hA; exact hA
      have e0 : byteAt S 0 = 91 := hA.head.2
      have e1 : byteAt S (0 + 1) = 94 := hA.tail.head.2
      have hn : nextB S 0 = .ok (91, 0 + 1) := by rw [nextB, if_pos hA.head.1, e0]
      have n1 : isB S (0 + 1) 94 = true := by simp only [isB, e1, hA.tail.head.1]; simp
      rw [atomB, hn]
      simp only [classB, n1, if_true, range_class h1 h2 hA.tail.tail]
      have hz' : S.size = 0 + 1 + 1 + 10 := by rw [hz, hlen]; rfl
      by_cases hlt : hi < lo
      · simp [hlt]
      · simp [hlt, hz']
  have hs : S.size ≤ 200 := by rw [hz, hlen]; cases not <;> decide
  have hp : 0 < S.size := by rw [hz, hlen]; cases not <;> decide
  have e0 : byteAt S 0 = 91 := by
    rw [← hL] at hA
    cases not <;> exact hA.head.2
  have hc : ¬ (¬ 0 < S.size ∨ byteAt S 0 = 124 ∨ byteAt S 0 = 41) := by rw [e0]; simp [hp]
  by_cases hlt : hi < lo
  · rw [if_pos hlt]
    have ha := key 599
    rw [if_pos hlt] at ha
    refine rone_err hs ?_
    rw [wayB, if_neg hc, ha]
  · rw [if_neg hlt]
    have ha := key 599
    rw [if_neg hlt] at ha
    rw [rone_way (l := [(if not then (Bs.zero.addN lo (hi + 1 - lo)).others else Bs.zero.addN lo (hi + 1 - lo)).rx]) hs ?_]
    · exact fitR_ok (by simp [ofR, Bs.rx, Rx.size, Rx.sizes])
    · have h6 := rway_step (l := []) hc ha (by simp [Bs.rx, Rx.size, Rx.sizes]) (rbehind_none (k := 601) (isB_out _ (Nat.le_refl _)) (isB_out _ (Nat.le_refl _)) (isB_out _ (Nat.le_refl _)))
      rw [h6, rway_end (.inl (Nat.lt_irrefl _)), rway_end (.inl (Nat.lt_irrefl _))]
      rfl
theorem addN_has {c : Nat} (hc : c < 256) : ∀ (n : Nat) (x : Bs) (b : Nat), b + n ≤ 256 → (x.addN b n).rx.has c = (x.rx.has c || (decide (b ≤ c) && decide (c < b + n))) := by
  intro n
  induction n with
  | zero =>
    intro x b _
    have : (decide (b ≤ c) && decide (c < b + 0)) = false := by simp
    rw [this, Bool.or_false]; rfl
  | succ n ih =>
    intro x b hb
    show ((x.add b).addN (b + 1) n).rx.has c = _
    rw [ih _ _ (by omega), add_has x c b hc (by omega), Bool.or_assoc]
    congr 1
    rw [Bool.eq_iff_iff]; simp; omega
theorem others_has (x : Bs) (hx : x.Ok) {c : Nat} (hc : c < 256) : x.others.rx.has c = !x.rx.has c := by
  have key : ∀ (y i : Nat), y < 18446744073709551616 → i < 64 → (18446744073709551615 - y).testBit i = !y.testBit i := by
    intro y i hy hi
    rw [show 18446744073709551615 - y = 2 ^ 64 - (y + 1) by omega, Nat.testBit_two_pow_sub_succ (by omega)]
    simp [hi]
  have hm : c % 64 < 64 := by omega
  have h1 : c / 64 = 0 ∨ c / 64 = 1 ∨ c / 64 = 2 ∨ c / 64 = 3 := by omega
  rcases h1 with h1 | h1 | h1 | h1 <;> simp [Bs.others, Bs.rx, Rx.has, h1, key _ _ hx.h0 hm, key _ _ hx.h1 hm, key _ _ hx.h2 hm, key _ _ hx.h3 hm]
theorem has_lang1 (x : Bs) (c : Nat) : Rx.lang x.rx [c] ↔ x.rx.has c = true := by
  simp only [Bs.rx, Rx.lang, Int.reduceEq, if_true, if_false]
  constructor
  · rintro ⟨b, h, hb⟩
    have : c = b := by simpa using h
    rw [this]; exact hb
  · intro h
    exact ⟨c, rfl, h⟩
end Go.Proofs.Ytgpmbkgedhcbjaa
