/-
  The reader's model: more rounds change nothing; a text inside a longer one is read alike.
  A text inside a longer one is read alike: classes, signs, ways.
  Texts put together of others in brackets: what they are read as.
  The law's texts: what they are read as.
  The law's other texts; what the regexes put together match.
  The last text; the contract of Parse, as the laws use it; the laws' texts as the program makes them.
-/
import Derived.Test.YtgpmbkgedhcbjaaRw
namespace Go.Proofs.Ytgpmbkgedhcbjaa

/-- None, or the same. -/
def Le {α : Type} (x y : Option α) : Prop := x = none ∨ x = y
theorem Le.refl {α : Type} (x : Option α) : Le x x := .inr rfl
theorem Le.none {α : Type} (y : Option α) : Le none y := .inl rfl
theorem Le.some {α : Type} {x y : Option α} {v : α} (h : Le x y) (hx : x = some v) : y = some v := by
  rcases h with h | h
  · rw [h] at hx; cases hx
  · rw [← h, hx]
theorem classL_le {s : ByteArray} (k : Nat) : ∀ (x : Bs) (p : Nat), Le (classL s k x p) (classL s (k + 1) x p) := by
  induction k with
  | zero => intro x p; exact .none _
  | succ k ih =>
    intro x p
    rw [classL, classL.eq_def s (k + 1 + 1)]
    simp only []
    cases h93 : isB s p 93 with
    | true => exact .refl _
    | false =>
      cases h1 : oneB s p with
      | error n => exact .refl _
      | ok z =>
        obtain ⟨lo, q1⟩ := z
        simp only [Bool.false_eq_true, if_false]
        generalize (if isB s q1 45 = true then oneB s (q1 + 1) else Except.ok (lo, q1)) = y
        cases y with
        | error n => exact .refl _
        | ok z =>
          obtain ⟨hi, q2⟩ := z
          simp only []
          split
          · exact .refl _
          · exact ih _ _
theorem classB_le {s : ByteArray} (k p : Nat) : Le (classB s k p) (classB s (k + 1) p) := by
  simp only [classB]
  rcases classL_le (s := s) k Bs.zero (if isB s p 94 = true then p + 1 else p) with h | h
  · rw [h]; exact .none _
  · rw [h]; exact .refl _
theorem behindB_le {s : ByteArray} (k : Nat) : ∀ (r : Rx) (p : Nat), Le (behindB s k r p) (behindB s (k + 1) r p) := by
  induction k with
  | zero => intro r p; exact .none _
  | succ k ih =>
    intro r p
    rw [behindB, behindB.eq_def s (k + 1 + 1)]
    simp only []
    split
    · cases fitR (starR r) with
      | error e => exact .refl _
      | ok r' => exact ih _ _
    · split
      · cases fitR (.mk 2 0 0 0 0 [r, starR r]) with
        | error e => exact .refl _
        | ok r' => exact ih _ _
      · split
        · cases fitR (.mk 3 0 0 0 0 [r, .zero]) with
          | error e => exact .refl _
          | ok r' => exact ih _ _
        · exact .refl _
theorem all_le {s : ByteArray} (k : Nat) :
    (∀ p, Le (waysB s k p) (waysB s (k + 1) p)) ∧ (∀ l p, Le (waysL s k l p) (waysL s (k + 1) l p)) ∧ (∀ l p, Le (wayB s k l p) (wayB s (k + 1) l p)) ∧ (∀ p, Le (atomB s k p) (atomB s (k + 1) p)) := by
  induction k with
  | zero => exact ⟨fun p => .inl (by simp [waysB]), fun l p => .inl (by simp [waysL]), fun l p => .inl (by simp [wayB]), fun p => .inl (by simp [atomB])⟩
  | succ k ih =>
    obtain ⟨i1, i2, i3, i4⟩ := ih
    refine ⟨?_, ?_, ?_, ?_⟩
    · intro p
      rw [waysB, waysB.eq_def s (k + 1 + 1)]
      simp only []
      rcases i3 [] p with h | h
      · rw [h]; exact .none _
      · rw [← h]
        cases wayB s k [] p with
        | none => exact .refl _
        | some z =>
          rcases z with e | ⟨r, q⟩
          · exact .refl _
          · exact i2 _ _
    · intro l p
      rw [waysL, waysL.eq_def s (k + 1 + 1)]
      simp only []
      split
      · rcases i3 [] (p + 1) with h | h
        · rw [h]; exact .none _
        · rw [← h]
          cases wayB s k [] (p + 1) with
          | none => exact .refl _
          | some z =>
            rcases z with e | ⟨r, q⟩
            · exact .refl _
            · exact i2 _ _
      · exact .refl _
    · intro l p
      rw [wayB, wayB.eq_def s (k + 1 + 1)]
      simp only []
      split
      · exact .refl _
      · rcases i4 p with h | h
        · rw [h]; exact .none _
        · rw [← h]
          cases atomB s k p with
          | none => exact .refl _
          | some z =>
            rcases z with e | ⟨r, q⟩
            · exact .refl _
            · simp only []
              cases fitR r with
              | error e => exact .refl _
              | ok r =>
                simp only []
                rcases behindB_le (s := s) k r q with h | h
                · rw [h]; exact .none _
                · rw [← h]
                  cases behindB s k r q with
                  | none => exact .refl _
                  | some z =>
                    rcases z with e | ⟨r2, q2⟩
                    · exact .refl _
                    · exact i3 _ _
    · intro p
      rw [atomB, atomB.eq_def s (k + 1 + 1)]
      simp only []
      cases nextB s p with
      | error e => exact .refl _
      | ok z =>
        obtain ⟨b, q⟩ := z
        simp only []
        split
        · rcases i1 q with h | h
          · rw [h]; exact .none _
          · rw [← h]; exact .refl _
        · split
          · exact classB_le _ _
          · exact .refl _
theorem Le.trans {α : Type} {x y z : Option α} (h : Le x y) (k : Le y z) : Le x z := by
  rcases h with h | h
  · exact .inl h
  · rw [h]; exact k
theorem ways_le {s : ByteArray} {k k' : Nat} (h : k ≤ k') (p : Nat) : Le (waysB s k p) (waysB s k' p) := by
  induction h with
  | refl => exact .refl _
  | step _ ih => exact ih.trans ((all_le _).1 p)

/-- A text that lies inside another one, a closing bracket behind it. -/
structure Inside (a S : ByteArray) (d : Nat) : Prop where
  at_ : ∀ p, p < a.size → p + d < S.size ∧ byteAt S (p + d) = byteAt a p
  end_ : a.size + d < S.size ∧ byteAt S (a.size + d) = 41
theorem Inside.is {a S : ByteArray} {d : Nat} (h : Inside a S d) {p b : Nat} (hp : p ≤ a.size) (hb : b ≠ 41) : isB S (p + d) b = isB a p b := by
  rcases Nat.lt_or_ge p a.size with hl | hl
  · obtain ⟨h1, h2⟩ := h.at_ p hl
    simp [isB, h1, h2, hl]
  · obtain rfl : p = a.size := by omega
    obtain ⟨h1, h2⟩ := h.end_
    simp [isB, h2, Ne.symm hb]
theorem Inside.close {a S : ByteArray} {d : Nat} (h : Inside a S d) {p : Nat} (hp : isB a p 41 = true) : isB S (p + d) 41 = true := by
  have hl := isB_at hp
  obtain ⟨h1, h2⟩ := h.at_ p hl
  simp only [isB, h1, h2, decide_true, Bool.true_and]
  simpa [isB, hl] using hp
theorem Inside.next {a S : ByteArray} {d : Nat} (h : Inside a S d) {p b q : Nat} (hp : nextB a p = .ok (b, q)) : nextB S (p + d) = .ok (b, q + d) := by
  obtain ⟨_, rfl, hl, rfl⟩ := nextB_at hp
  obtain ⟨h1, h2⟩ := h.at_ p hl
  simp only [nextB, h1, if_true, h2]
  congr 2
  omega
theorem Inside.digit {a S : ByteArray} {d : Nat} (h : Inside a S d) {p b q : Nat} (hp : digitB a p = .ok (b, q)) : digitB S (p + d) = .ok (b, q + d) := by
  simp only [digitB] at hp ⊢
  cases hn : nextB a p with
  | error e => rw [hn] at hp; cases hp
  | ok z =>
    obtain ⟨c, q1⟩ := z
    rw [hn] at hp
    rw [h.next hn]
    simp only [] at hp ⊢
    cases hv : digitV c with
    | none => rw [hv] at hp; cases hp
    | some n =>
      rw [hv] at hp
      simp only [Except.ok.injEq, Prod.mk.injEq] at hp ⊢
      exact ⟨hp.1, by rw [hp.2]⟩
theorem Inside.char {a S : ByteArray} {d : Nat} (h : Inside a S d) {p b q : Nat} (hp : charB a p = .ok (b, q)) : charB S (p + d) = .ok (b, q + d) := by
  simp only [charB] at hp ⊢
  cases hn : nextB a p with
  | error e => rw [hn] at hp; cases hp
  | ok z =>
    obtain ⟨c, q1⟩ := z
    rw [hn] at hp
    rw [h.next hn]
    simp only [] at hp ⊢
    cases hv : namedB c with
    | some n =>
      rw [hv] at hp
      simp only [Except.ok.injEq, Prod.mk.injEq] at hp ⊢
      exact ⟨hp.1, by rw [hp.2]⟩
    | none =>
      rw [hv] at hp
      simp only [] at hp ⊢
      split at hp
      · rename_i hc
        rw [if_pos hc]
        cases h1 : digitB a q1 with
        | error e => rw [h1] at hp; cases hp
        | ok z =>
          obtain ⟨hi, q2⟩ := z
          rw [h1] at hp
          rw [h.digit h1]
          simp only [] at hp ⊢
          cases h2 : digitB a q2 with
          | error e => rw [h2] at hp; cases hp
          | ok z =>
            obtain ⟨lo, q3⟩ := z
            rw [h2] at hp
            rw [h.digit h2]
            simp only [Except.ok.injEq, Prod.mk.injEq] at hp ⊢
            exact ⟨hp.1, by rw [hp.2]⟩
      · rename_i hc
        rw [if_neg hc]
        split at hp
        · cases hp
        · rename_i hw
          rw [if_neg hw]
          simp only [Except.ok.injEq, Prod.mk.injEq] at hp ⊢
          exact ⟨hp.1, by rw [hp.2]⟩
theorem Inside.one {a S : ByteArray} {d : Nat} (h : Inside a S d) {p b q : Nat} (hl : p ≤ a.size) (hp : oneB a p = .ok (b, q)) : oneB S (p + d) = .ok (b, q + d) := by
  simp only [oneB] at hp ⊢
  rw [h.is hl (by decide)]
  split at hp
  · rename_i hc
    rw [if_pos hc]
    have := h.char hp
    rwa [show p + 1 + d = p + d + 1 by omega] at this
  · rename_i hc
    rw [if_neg hc]
    cases hn : nextB a p with
    | error e => rw [hn] at hp; cases hp
    | ok z =>
      obtain ⟨c, q1⟩ := z
      rw [hn] at hp
      rw [h.next hn]
      simp only [] at hp ⊢
      split at hp
      · cases hp
      · rename_i hw
        rw [if_neg hw]
        simp only [Except.ok.injEq, Prod.mk.injEq] at hp ⊢
        exact ⟨hp.1, by rw [hp.2]⟩
theorem Inside.class_ {a S : ByteArray} {d : Nat} (h : Inside a S d) (k : Nat) : ∀ (x y : Bs) (p q : Nat), p ≤ a.size → classL a k x p = some (.ok (y, q)) → classL S k x (p + d) = some (.ok (y, q + d)) := by
  induction k with
  | zero => intro x y p q _ hp; cases hp
  | succ k ih =>
    intro x y p q hl hp
    rw [classL] at hp ⊢
    rw [h.is hl (by decide)]
    split at hp
    · rename_i hc
      rw [if_pos hc]
      simp only [Option.some.injEq, Except.ok.injEq, Prod.mk.injEq] at hp ⊢
      exact ⟨hp.1, by omega⟩
    · rename_i hc
      rw [if_neg hc]
      cases h1 : oneB a p with
      | error e => rw [h1] at hp; cases hp
      | ok z =>
        obtain ⟨lo, q1⟩ := z
        have g1 := oneB_at h1
        rw [h1] at hp
        rw [h.one hl h1]
        simp only [] at hp ⊢
        rw [h.is g1.2 (by decide)]
        have key : ∀ hi q2, (if isB a q1 45 = true then oneB a (q1 + 1) else Except.ok (lo, q1)) = .ok (hi, q2) → q2 ≤ a.size ∧ (if isB a q1 45 = true then oneB S (q1 + d + 1) else Except.ok (lo, q1 + d)) = .ok (hi, q2 + d) := by
          intro hi q2 he
          split at he
          · rename_i hm
            rw [if_pos hm]
            have hq := isB_at hm
            have := h.one (by omega) he
            rw [show q1 + 1 + d = q1 + d + 1 by omega] at this
            exact ⟨(oneB_at he).2, this⟩
          · rename_i hm
            rw [if_neg hm]
            simp only [Except.ok.injEq, Prod.mk.injEq] at he ⊢
            exact ⟨by omega, he.1, by omega⟩
        cases hy : (if isB a q1 45 = true then oneB a (q1 + 1) else Except.ok (lo, q1)) with
        | error e => rw [hy] at hp; cases hp
        | ok z =>
          obtain ⟨hi, q2⟩ := z
          obtain ⟨g2, g3⟩ := key hi q2 hy
          rw [hy] at hp
          rw [g3]
          simp only [] at hp ⊢
          split at hp
          · cases hp
          · rename_i hw
            rw [if_neg hw]
            exact ih _ _ _ _ g2 hp
end Go.Proofs.Ytgpmbkgedhcbjaa

namespace Go.Proofs.Ytgpmbkgedhcbjaa

theorem Inside.classB_ {a S : ByteArray} {d : Nat} (h : Inside a S d) {k p q : Nat} {r : Rx} (hl : p ≤ a.size) (hp : classB a k p = some (.ok (r, q))) : q ≤ a.size ∧ classB S k (p + d) = some (.ok (r, q + d)) := by
  refine ⟨(classB_at hl hp).2.1, ?_⟩
  simp only [classB] at hp ⊢
  rw [h.is hl (by decide)]
  have e : (if isB a p 94 = true then p + d + 1 else p + d) = (if isB a p 94 = true then p + 1 else p) + d := by split <;> omega
  rw [e]
  have hl2 : (if isB a p 94 = true then p + 1 else p) ≤ a.size := by
    split
    · rename_i hc; exact isB_at hc
    · exact hl
  generalize (if isB a p 94 = true then p + 1 else p) = p1 at *
  cases hc : classL a k Bs.zero p1 with
  | none => rw [hc] at hp; cases hp
  | some z =>
    rcases z with e | ⟨x, q1⟩
    · rw [hc] at hp; cases hp
    · rw [hc] at hp
      rw [h.class_ k _ _ _ _ hl2 hc]
      simp only [Option.some.injEq, Except.ok.injEq, Prod.mk.injEq] at hp ⊢
      exact ⟨hp.1, by rw [hp.2]⟩
theorem Inside.behind {a S : ByteArray} {d : Nat} (h : Inside a S d) (k : Nat) : ∀ (r r' : Rx) (p q : Nat), p ≤ a.size → behindB a k r p = some (.ok (r', q)) → q ≤ a.size ∧ behindB S k r (p + d) = some (.ok (r', q + d)) := by
  induction k with
  | zero => intro r r' p q _ hp; cases hp
  | succ k ih =>
    intro r r' p q hl hp
    rw [behindB] at hp ⊢
    rw [h.is hl (by decide), h.is hl (by decide), h.is hl (by decide)]
    have key : ∀ (x : Rx) (b : Nat), isB a p b = true → (match fitR x with | .error e => some (.error e) | .ok y => behindB a k y (p + 1)) = some (.ok (r', q)) →
        q ≤ a.size ∧ (match fitR x with | .error e => some (.error e) | .ok y => behindB S k y (p + d + 1)) = some (.ok (r', q + d)) := by
      intro x b hb hx
      have hpl := isB_at hb
      cases hf : fitR x with
      | error e => rw [hf] at hx; cases hx
      | ok y =>
        rw [hf] at hx
        simp only [] at hx ⊢
        have := ih _ _ _ _ (by omega) hx
        rw [show p + 1 + d = p + d + 1 by omega] at this
        exact this
    split at hp
    · rename_i hc
      rw [if_pos hc]
      exact key _ _ hc hp
    · rename_i hc
      rw [if_neg hc]
      split at hp
      · rename_i hc
        rw [if_pos hc]
        exact key _ _ hc hp
      · rename_i hc
        rw [if_neg hc]
        split at hp
        · rename_i hc
          rw [if_pos hc]
          exact key _ _ hc hp
        · rename_i hc
          rw [if_neg hc]
          simp only [Option.some.injEq, Except.ok.injEq, Prod.mk.injEq] at hp ⊢
          exact ⟨by omega, hp.1, by omega⟩
theorem Inside.all {a S : ByteArray} {d : Nat} (h : Inside a S d) (k : Nat) :
    (∀ (p q : Nat) (r : Rx), p ≤ a.size → waysB a k p = some (.ok (r, q)) → q ≤ a.size ∧ waysB S k (p + d) = some (.ok (r, q + d))) ∧
    (∀ (l : List Rx) (p q : Nat) (r : Rx), p ≤ a.size → waysL a k l p = some (.ok (r, q)) → q ≤ a.size ∧ waysL S k l (p + d) = some (.ok (r, q + d))) ∧
    (∀ (l : List Rx) (p q : Nat) (r : Rx), p ≤ a.size → wayB a k l p = some (.ok (r, q)) → q ≤ a.size ∧ wayB S k l (p + d) = some (.ok (r, q + d))) ∧
    (∀ (p q : Nat) (r : Rx), p ≤ a.size → atomB a k p = some (.ok (r, q)) → q ≤ a.size ∧ atomB S k (p + d) = some (.ok (r, q + d))) := by
  induction k with
  | zero =>
    refine ⟨?_, ?_, ?_, ?_⟩
    · intro p q r _ h; simp [waysB] at h
    · intro l p q r _ h; simp [waysL] at h
    · intro l p q r _ h; simp [wayB] at h
    · intro p q r _ h; simp [atomB] at h
  | succ k ih =>
    obtain ⟨i1, i2, i3, i4⟩ := ih
    refine ⟨?_, ?_, ?_, ?_⟩
    · intro p q r hl hp
      rw [waysB] at hp ⊢
      cases hw : wayB a k [] p with
      | none => rw [hw] at hp; cases hp
      | some z =>
        rcases z with e | ⟨r1, q1⟩
        · rw [hw] at hp; cases hp
        · rw [hw] at hp
          obtain ⟨g1, g2⟩ := i3 _ _ _ _ hl hw
          rw [g2]
          exact i2 _ _ _ _ g1 hp
    · intro l p q r hl hp
      rw [waysL] at hp ⊢
      rw [h.is hl (by decide)]
      split at hp
      · rename_i hc
        rw [if_pos hc]
        have hpl := isB_at hc
        cases hw : wayB a k [] (p + 1) with
        | none => rw [hw] at hp; cases hp
        | some z =>
          rcases z with e | ⟨r1, q1⟩
          · rw [hw] at hp; cases hp
          · rw [hw] at hp
            obtain ⟨g1, g2⟩ := i3 _ _ _ _ (by omega) hw
            rw [show p + d + 1 = p + 1 + d by omega, g2]
            exact i2 _ _ _ _ g1 hp
      · rename_i hc
        rw [if_neg hc]
        simp only [Option.some.injEq, Except.ok.injEq, Prod.mk.injEq] at hp ⊢
        exact ⟨by omega, hp.1, by omega⟩
    · intro l p q r hl hp
      rw [wayB] at hp ⊢
      split at hp
      · rename_i hc
        have hc' : ¬ p + d < S.size ∨ byteAt S (p + d) = 124 ∨ byteAt S (p + d) = 41 := by
          rcases Nat.lt_or_ge p a.size with hlt | hge
          · obtain ⟨h1, h2⟩ := h.at_ p hlt
            rw [h2]
            rcases hc with hc | hc
            · omega
            · exact .inr hc
          · obtain rfl : p = a.size := by omega
            exact .inr (.inr h.end_.2)
        rw [if_pos hc']
        simp only [Option.some.injEq, Except.ok.injEq, Prod.mk.injEq] at hp ⊢
        exact ⟨by omega, hp.1, by omega⟩
      · rename_i hc
        have hlt : p < a.size := Classical.byContradiction fun hn => hc (.inl hn)
        obtain ⟨h1, h2⟩ := h.at_ p hlt
        have hc' : ¬ (¬ p + d < S.size ∨ byteAt S (p + d) = 124 ∨ byteAt S (p + d) = 41) := by
          rw [h2]
          rintro (hn | hn)
          · exact hn h1
          · exact hc (.inr hn)
        rw [if_neg hc']
        cases hw : atomB a k p with
        | none => rw [hw] at hp; cases hp
        | some z =>
          rcases z with e | ⟨r1, q1⟩
          · rw [hw] at hp; cases hp
          · rw [hw] at hp
            obtain ⟨g1, g2⟩ := i4 _ _ _ hl hw
            rw [g2]
            simp only [] at hp ⊢
            cases hf : fitR r1 with
            | error e => rw [hf] at hp; cases hp
            | ok r2 =>
              rw [hf] at hp
              simp only [] at hp ⊢
              cases hb : behindB a k r2 q1 with
              | none => rw [hb] at hp; cases hp
              | some z =>
                rcases z with e | ⟨r3, q3⟩
                · rw [hb] at hp; cases hp
                · rw [hb] at hp
                  obtain ⟨g3, g4⟩ := h.behind k _ _ _ _ g1 hb
                  rw [g4]
                  exact i3 _ _ _ _ g3 hp
    · intro p q r hl hp
      rw [atomB] at hp ⊢
      cases hn : nextB a p with
      | error e => rw [hn] at hp; cases hp
      | ok z =>
        obtain ⟨b, q1⟩ := z
        obtain ⟨_, hq1, hpl, _⟩ := nextB_at hn
        rw [hn] at hp
        rw [h.next hn]
        simp only [] at hp ⊢
        have fin : ∀ (x : Rx) (q2 : Nat), q2 ≤ a.size → (some (Except.ok (x, q2)) : Option (Got Rx)) = some (.ok (r, q)) → q ≤ a.size ∧ (some (Except.ok (x, q2 + d)) : Option (Got Rx)) = some (.ok (r, q + d)) := by
          intro x q2 hq he
          simp only [Option.some.injEq, Except.ok.injEq, Prod.mk.injEq] at he ⊢
          exact ⟨by omega, he.1, by omega⟩
        split at hp
        · rename_i hc
          rw [if_pos hc]
          cases hw : waysB a k q1 with
          | none => rw [hw] at hp; cases hp
          | some z =>
            rcases z with e | ⟨r1, q2⟩
            · rw [hw] at hp; cases hp
            · rw [hw] at hp
              obtain ⟨g1, g2⟩ := i1 _ _ _ (by omega) hw
              rw [g2]
              simp only [] at hp ⊢
              split at hp
              · rename_i hc
                rw [if_pos (h.close hc)]
                have := fin _ _ (isB_at hc) hp
                rw [show q2 + 1 + d = q2 + d + 1 by omega] at this
                exact this
              · cases hp
        · rename_i hc
          rw [if_neg hc]
          split at hp
          · rename_i hc
            rw [if_pos hc]
            exact h.classB_ (by omega) hp
          · rename_i hc
            rw [if_neg hc]
            split at hp
            · rename_i hc
              rw [if_pos hc]
              exact fin _ _ (by omega) hp
            · rename_i hc
              rw [if_neg hc]
              split at hp
              · rename_i hc
                rw [if_pos hc]
                cases hx : charB a q1 with
                | error e => rw [hx] at hp; cases hp
                | ok z =>
                  obtain ⟨c, q2⟩ := z
                  rw [hx] at hp
                  rw [h.char hx]
                  exact fin _ _ (charB_at hx).2 hp
              · rename_i hc
                rw [if_neg hc]
                split at hp
                · cases hp
                · rename_i hc
                  rw [if_neg hc]
                  exact fin _ _ (by omega) hp
/-- What a text alone is read as, inside a longer one. -/
theorem Inside.ways {a S : ByteArray} {d : Nat} (h : Inside a S d) {r : Rx} (hs : a.size ≤ 180) (hp : parseM a = .ok r) {k : Nat} (hk : 3 * a.size + 3 ≤ k) : waysB S k d = some (.ok (r, a.size + d)) ∧ r.size ≤ 500 := by
  have hb := parseB_total a
  rw [hp] at hb
  unfold parseB at hb
  rw [if_neg (by omega)] at hb
  have hw : ∃ q, waysB a 604 0 = some (.ok (r, q)) ∧ ¬ q < a.size ∧ r.size ≤ 500 := by
    cases hw : waysB a 604 0 with
    | none => rw [hw] at hb; cases hb
    | some z =>
      rcases z with e | ⟨r1, q⟩
      · rw [hw] at hb; cases hb
      · rw [hw] at hb
        simp only [] at hb
        split at hb
        · cases hb
        · rename_i hq
          cases hf : fitR r1 with
          | error e => rw [hf] at hb; cases hb
          | ok r2 =>
            rw [hf] at hb
            simp only [Option.some.injEq, Except.ok.injEq] at hb
            obtain ⟨rfl, h5⟩ := fitR_at hf
            subst hb
            exact ⟨q, rfl, hq, h5⟩
  obtain ⟨q, hw, hq, h5⟩ := hw
  have hne := (all_total (s := a) (by omega) k).1 0 (Nat.zero_le _) (by omega)
  have hk2 : waysB a k 0 = some (.ok (r, q)) := by
    rcases Nat.le_total k 604 with hle | hle
    · rcases ways_le (s := a) hle 0 with h | h
      · exact absurd h hne
      · rw [h, hw]
    · exact (ways_le (s := a) hle 0).some hw
  obtain ⟨g1, g2⟩ := (h.all k).1 _ _ _ (Nat.zero_le _) hk2
  obtain rfl : q = a.size := by omega
  rw [Nat.zero_add] at g2
  exact ⟨g2, h5⟩
end Go.Proofs.Ytgpmbkgedhcbjaa

namespace Go.Proofs.Ytgpmbkgedhcbjaa

theorem rway_end {S : ByteArray} {k p : Nat} {l : List Rx} (hc : ¬ p < S.size ∨ byteAt S p = 124 ∨ byteAt S p = 41) : wayB S (k + 1) l p = some (.ok (ofR 2 l, p)) := by
  rw [wayB, if_pos hc]
theorem fitR_ok {r : Rx} (h : r.size ≤ 500) : fitR r = .ok r := by simp [fitR]; omega
theorem rway_step {S : ByteArray} {k p q q2 : Nat} {l : List Rx} {r r2 : Rx} (hc : ¬ (¬ p < S.size ∨ byteAt S p = 124 ∨ byteAt S p = 41)) (h1 : atomB S k p = some (.ok (r, q))) (h2 : r.size ≤ 500)
    (h3 : behindB S k r q = some (.ok (r2, q2))) : wayB S (k + 1) l p = wayB S k (l ++ [r2]) q2 := by
  rw [wayB, if_neg hc, h1]
  simp only [fitR_ok h2, h3]
theorem rway_err {S : ByteArray} {k p q : Nat} {l : List Rx} {r : Rx} {e : Int} (hc : ¬ (¬ p < S.size ∨ byteAt S p = 124 ∨ byteAt S p = 41)) (h1 : atomB S k p = some (.ok (r, q))) (h2 : r.size ≤ 500)
    (h3 : behindB S k r q = some (.error e)) : wayB S (k + 1) l p = some (.error e) := by
  rw [wayB, if_neg hc, h1]
  simp only [fitR_ok h2, h3]
theorem rbehind_none {S : ByteArray} {k q : Nat} {r : Rx} (h1 : isB S q 42 = false) (h2 : isB S q 43 = false) (h3 : isB S q 63 = false) : behindB S (k + 1) r q = some (.ok (r, q)) := by
  rw [behindB]
  simp [h1, h2, h3]
/-- One sign behind it, and no other one. -/
theorem rbehind_sign {S : ByteArray} {k q : Nat} {r x : Rx} (hx : (isB S q 42 = true ∧ x = starR r) ∨ (isB S q 42 = false ∧ isB S q 43 = true ∧ x = .mk 2 0 0 0 0 [r, starR r]) ∨ (isB S q 42 = false ∧ isB S q 43 = false ∧ isB S q 63 = true ∧ x = .mk 3 0 0 0 0 [r, .zero]))
    (h1 : isB S (q + 1) 42 = false) (h2 : isB S (q + 1) 43 = false) (h3 : isB S (q + 1) 63 = false) :
    behindB S (k + 1 + 1) r q = if x.size ≤ 500 then some (.ok (x, q + 1)) else some (.error 4) := by
  have key : (match fitR x with | .error e => some (.error e) | .ok r' => behindB S (k + 1) r' (q + 1)) = if x.size ≤ 500 then some (Except.ok (x, q + 1)) else some (.error 4) := by
    by_cases h : x.size ≤ 500
    · rw [fitR_ok h, if_pos h]; exact rbehind_none h1 h2 h3
    · rw [if_neg h, show fitR x = .error 4 by simp [fitR]; omega]
  rw [← key]
  rw [behindB]
  rcases hx with ⟨a, rfl⟩ | ⟨a, b, rfl⟩ | ⟨a, b, c, rfl⟩
  · simp only [a, if_true]
    cases fitR (starR r) <;> rfl
  · simp only [a, b, if_true, Bool.false_eq_true, if_false]
    cases fitR (.mk 2 0 0 0 0 [r, starR r]) <;> rfl
  · simp only [a, b, c, if_true, Bool.false_eq_true, if_false]
    cases fitR (.mk 3 0 0 0 0 [r, .zero]) <;> rfl
theorem rways_step {S : ByteArray} {k p q : Nat} {r : Rx} (h : wayB S k [] p = some (.ok (r, q))) : waysB S (k + 1) p = waysL S k [r] q := by
  rw [waysB, h]
theorem rways_err {S : ByteArray} {k p : Nat} {e : Int} (h : wayB S k [] p = some (.error e)) : waysB S (k + 1) p = some (.error e) := by
  rw [waysB, h]
theorem rwaysL_end {S : ByteArray} {k p : Nat} {l : List Rx} (h : isB S p 124 = false) : waysL S (k + 1) l p = some (.ok (ofR 3 l, p)) := by
  rw [waysL, if_neg (by simp [h])]
theorem rwaysL_step {S : ByteArray} {k p q : Nat} {l : List Rx} {r : Rx} (h : isB S p 124 = true) (hw : wayB S k [] (p + 1) = some (.ok (r, q))) : waysL S (k + 1) l p = waysL S k (l ++ [r]) q := by
  rw [waysL, if_pos h, hw]
/-- What is in brackets. -/
theorem ratom_group {a S : ByteArray} {k p : Nat} {r : Rx} (hp : p < S.size) (hb : byteAt S p = 40) (h : Inside a S (p + 1)) (hs : a.size ≤ 180) (ha : parseM a = .ok r) (hk : 3 * a.size + 3 ≤ k) :
    atomB S (k + 1) p = some (.ok (r, p + a.size + 2)) := by
  have h1 := (h.ways hs ha hk).1
  have hn : nextB S p = .ok (40, p + 1) := by simp [nextB, hp, hb]
  have hc : isB S (a.size + (p + 1)) 41 = true := by simp [isB, h.end_.1, h.end_.2]
  rw [atomB, hn]
  simp only [if_true, h1, hc]
  congr 3
  omega
/-- A class with nothing in it. -/
theorem ratom_none {S : ByteArray} {k p : Nat} (hp : p + 1 < S.size) (hb : byteAt S p = 91) (hc : byteAt S (p + 1) = 93) : atomB S (k + 1 + 1) p = some (.ok (Bs.zero.rx, p + 2)) := by
  have hn : nextB S p = .ok (91, p + 1) := by simp [nextB, hb]; omega
  have h1 : isB S (p + 1) 94 = false := by simp [isB, hc]
  have h2 : isB S (p + 1) 93 = true := by simp [isB, hp, hc]
  rw [atomB, hn]
  simp [classB, h1, classL, h2]
theorem parse_of {S : ByteArray} {r : Rx} (hs : S.size ≤ 200) (h : waysB S 604 0 = some (.ok (r, S.size))) : parseM S = fitR r := by
  have hb := parseB_total S
  unfold parseB at hb
  rw [if_neg (by omega), h] at hb
  simp only [Nat.lt_irrefl, if_false] at hb
  cases hf : fitR r with
  | error e => rw [hf] at hb; simp at hb; exact hb.symm
  | ok x => rw [hf] at hb; simp at hb; exact hb.symm
theorem parse_of_err {S : ByteArray} {e : Int} (hs : S.size ≤ 200) (h : waysB S 604 0 = some (.error e)) : parseM S = .error e := by
  have hb := parseB_total S
  unfold parseB at hb
  rw [if_neg (by omega), h] at hb
  simp at hb
  exact hb.symm
theorem fitR_two (r : Rx) : fitR r = .ok r ∨ fitR r = .error 4 := by
  unfold fitR
  split
  · exact .inr rfl
  · exact .inl rfl
theorem byteAt_append (x y : ByteArray) (p : Nat) : byteAt (x ++ y) p = if p < x.size then byteAt x p else byteAt y (p - x.size) := by
  unfold byteAt
  by_cases h : p < x.size
  · rw [if_pos h, dif_pos h, dif_pos (by rw [ByteArray.size_append]; omega), ByteArray.getElem_append_left h]
  · rw [if_neg h]
    by_cases h2 : p - x.size < y.size
    · rw [dif_pos h2, dif_pos (by rw [ByteArray.size_append]; omega), ByteArray.getElem_append_right (by omega)]
    · rw [dif_neg h2, dif_neg (by rw [ByteArray.size_append]; omega)]
theorem Inside.mk_ (x a y : ByteArray) (hy : 0 < y.size) (h0 : byteAt y 0 = 41) : Inside a (x ++ a ++ y) x.size := by
  constructor
  · intro p hp
    refine ⟨by simp only [ByteArray.size_append]; omega, ?_⟩
    rw [byteAt_append, if_pos (by rw [ByteArray.size_append]; omega), byteAt_append, if_neg (by omega)]
    congr 1
    omega
  · refine ⟨by simp only [ByteArray.size_append]; omega, ?_⟩
    rw [byteAt_append, if_neg (by rw [ByteArray.size_append]; omega)]
    rw [show a.size + x.size - (x ++ a).size = 0 by rw [ByteArray.size_append]; omega]
    exact h0
end Go.Proofs.Ytgpmbkgedhcbjaa

namespace Go.Proofs.Ytgpmbkgedhcbjaa

theorem isB_of {S : ByteArray} {p b : Nat} (c : Nat) (hp : p < S.size) (h : byteAt S p = b) : isB S p c = decide (b = c) := by simp [isB, hp, h]
theorem isB_out {S : ByteArray} {p : Nat} (c : Nat) (hp : S.size ≤ p) : isB S p c = false := by simp [isB]; omega
theorem group_way {a S : ByteArray} {k p : Nat} {l : List Rx} {r : Rx} (hp : p < S.size) (hb : byteAt S p = 40) (h : Inside a S (p + 1)) (hs : a.size ≤ 50) (ha : parseM a = .ok r) (hk : 200 ≤ k)
    (h1 : isB S (p + a.size + 2) 42 = false) (h2 : isB S (p + a.size + 2) 43 = false) (h3 : isB S (p + a.size + 2) 63 = false) : wayB S (k + 1 + 1) l p = wayB S (k + 1) (l ++ [r]) (p + a.size + 2) := by
  have hr := (h.ways (k := 604) (by omega) ha (by omega)).2
  refine rway_step (by rw [hb]; simp [hp]) (ratom_group hp hb h (by omega) ha (by omega)) hr (rbehind_none h1 h2 h3)
theorem sign_way {a S : ByteArray} {k p : Nat} {l : List Rx} {r x : Rx} (hp : p < S.size) (hb : byteAt S p = 40) (h : Inside a S (p + 1)) (hs : a.size ≤ 50) (ha : parseM a = .ok r) (hk : 200 ≤ k)
    (hx : (isB S (p + a.size + 2) 42 = true ∧ x = starR r) ∨ (isB S (p + a.size + 2) 42 = false ∧ isB S (p + a.size + 2) 43 = true ∧ x = .mk 2 0 0 0 0 [r, starR r]) ∨ (isB S (p + a.size + 2) 42 = false ∧ isB S (p + a.size + 2) 43 = false ∧ isB S (p + a.size + 2) 63 = true ∧ x = .mk 3 0 0 0 0 [r, .zero]))
    (h1 : isB S (p + a.size + 2 + 1) 42 = false) (h2 : isB S (p + a.size + 2 + 1) 43 = false) (h3 : isB S (p + a.size + 2 + 1) 63 = false) :
    wayB S (k + 1 + 1 + 1) l p = if x.size ≤ 500 then wayB S (k + 1 + 1) (l ++ [x]) (p + a.size + 3) else some (.error 4) := by
  have hr := (h.ways (k := 604) (by omega) ha (by omega)).2
  have hB := rbehind_sign (k := k) hx h1 h2 h3
  have hc : ¬ (¬ p < S.size ∨ byteAt S p = 124 ∨ byteAt S p = 41) := by rw [hb]; simp [hp]
  by_cases h5 : x.size ≤ 500
  · rw [if_pos h5] at hB ⊢
    exact rway_step hc (ratom_group hp hb h (by omega) ha (by omega)) hr hB
  · rw [if_neg h5] at hB ⊢
    exact rway_err hc (ratom_group hp hb h (by omega) ha (by omega)) hr hB
theorem none_way {S : ByteArray} {k p : Nat} {l : List Rx} (hp : p + 1 < S.size) (hb : byteAt S p = 91) (hc : byteAt S (p + 1) = 93)
    (h1 : isB S (p + 2) 42 = false) (h2 : isB S (p + 2) 43 = false) (h3 : isB S (p + 2) 63 = false) : wayB S (k + 1 + 1 + 1) l p = wayB S (k + 1 + 1) (l ++ [Bs.zero.rx]) (p + 2) := by
  refine rway_step (by rw [hb]; simp; omega) (ratom_none hp hb hc) (by decide) (rbehind_none h1 h2 h3)

/-- The text is one way, to its end. -/
theorem rone_way {S : ByteArray} {l : List Rx} (hs : S.size ≤ 200) (h : wayB S 603 [] 0 = wayB S 500 l S.size) : parseM S = fitR (ofR 3 [ofR 2 l]) := by
  refine parse_of hs ?_
  have h2 : wayB S 603 [] 0 = some (.ok (ofR 2 l, S.size)) := h.trans (rway_end (k := 499) (.inl (Nat.lt_irrefl _)))
  exact (rways_step h2).trans (rwaysL_end (isB_out _ (Nat.le_refl _)))
theorem rone_err {S : ByteArray} {e : Int} (hs : S.size ≤ 200) (h : wayB S 603 [] 0 = some (.error e)) : parseM S = .error e := parse_of_err hs (rways_err h)
theorem two_ways {S : ByteArray} {l m : List Rx} {q k j : Nat} (hs : S.size ≤ 200) (hq : isB S q 124 = true) (h : wayB S 603 [] 0 = wayB S (k + 1) l q) (h2 : wayB S 602 [] (q + 1) = wayB S (j + 1) m S.size) :
    parseM S = fitR (ofR 3 [ofR 2 l, ofR 2 m]) := by
  refine parse_of hs ?_
  have hb : byteAt S q = 124 := by simp [isB] at hq; exact hq.2
  have g1 : wayB S 603 [] 0 = some (.ok (ofR 2 l, q)) := h.trans (rway_end (.inr (.inl hb)))
  have g2 : wayB S 602 [] (q + 1) = some (.ok (ofR 2 m, S.size)) := h2.trans (rway_end (.inl (Nat.lt_irrefl _)))
  exact (rways_step g1).trans ((rwaysL_step hq g2).trans (rwaysL_end (isB_out _ (Nat.le_refl _))))

theorem parse_both {a b S : ByteArray} {ra rb : Rx} (ha : a.size ≤ 50) (hb : b.size ≤ 50) (hpa : parseM a = .ok ra) (hpb : parseM b = .ok rb) (hsz : S.size = a.size + b.size + 5) (h0 : byteAt S 0 = 40) (hI : Inside a S (0 + 1))
    (h2 : byteAt S (a.size + 2) = 124) (h3 : byteAt S (a.size + 3) = 40) (hJ : Inside b S (a.size + 4)) : parseM S = fitR (.mk 3 0 0 0 0 [ra, rb]) := by
  have e2 : ∀ c, isB S (0 + a.size + 2) c = decide (124 = c) := fun c => isB_of c (by omega) (by rw [Nat.zero_add]; exact h2)
  have g1 := group_way (k := 601) (l := []) (by omega) h0 hI ha hpa (by omega) (by rw [e2]; rfl) (by rw [e2]; rfl) (by rw [e2]; rfl)
  have o : ∀ c, isB S (0 + a.size + 2 + 1 + b.size + 2) c = false := fun c => isB_out c (by omega)
  have g2 := group_way (k := 600) (l := []) (p := 0 + a.size + 2 + 1) (by omega) (by rw [show 0 + a.size + 2 + 1 = a.size + 3 by omega]; exact h3) (by rw [show 0 + a.size + 2 + 1 + 1 = a.size + 4 by omega]; exact hJ) hb hpb (by omega) (o _) (o _) (o _)
  rw [show 0 + a.size + 2 + 1 + b.size + 2 = S.size by omega] at g2
  exact two_ways (by omega) (by rw [e2]; rfl) g1 g2
theorem parse_cat {a b S : ByteArray} {ra rb : Rx} (ha : a.size ≤ 50) (hb : b.size ≤ 50) (hpa : parseM a = .ok ra) (hpb : parseM b = .ok rb) (hsz : S.size = a.size + b.size + 4) (h0 : byteAt S 0 = 40) (hI : Inside a S (0 + 1))
    (h2 : byteAt S (a.size + 2) = 40) (hJ : Inside b S (a.size + 3)) : parseM S = fitR (.mk 2 0 0 0 0 [ra, rb]) := by
  have e2 : ∀ c, isB S (0 + a.size + 2) c = decide (40 = c) := fun c => isB_of c (by omega) (by rw [Nat.zero_add]; exact h2)
  have g1 := group_way (k := 601) (l := []) (by omega) h0 hI ha hpa (by omega) (by rw [e2]; rfl) (by rw [e2]; rfl) (by rw [e2]; rfl)
  have o : ∀ c, isB S (0 + a.size + 2 + b.size + 2) c = false := fun c => isB_out c (by omega)
  have g2 := group_way (k := 600) (l := [ra]) (p := 0 + a.size + 2) (by omega) (by rw [Nat.zero_add]; exact h2) (by rw [show 0 + a.size + 2 + 1 = a.size + 3 by omega]; exact hJ) hb hpb (by omega) (o _) (o _) (o _)
  rw [show 0 + a.size + 2 + b.size + 2 = S.size by omega] at g2
  refine parse_of (by omega) ?_
  have h5 : wayB S 603 [] 0 = some (.ok (ofR 2 [ra, rb], S.size)) := g1.trans (g2.trans (rway_end (.inl (Nat.lt_irrefl _))))
  exact (rways_step h5).trans (rwaysL_end (isB_out _ (Nat.le_refl _)))
/-- A sign behind brackets. -/
theorem parse_sign {a S : ByteArray} {ra x : Rx} {c : Nat} (ha : a.size ≤ 50) (hpa : parseM a = .ok ra) (hsz : S.size = a.size + 3) (h0 : byteAt S 0 = 40) (hI : Inside a S (0 + 1)) (h2 : byteAt S (a.size + 2) = c)
    (hx : (c = 42 ∧ x = starR ra) ∨ (c = 43 ∧ x = .mk 2 0 0 0 0 [ra, starR ra]) ∨ (c = 63 ∧ x = .mk 3 0 0 0 0 [ra, .zero])) : parseM S = fitR x := by
  have e2 : ∀ d, isB S (0 + a.size + 2) d = decide (c = d) := fun d => isB_of d (by omega) (by rw [Nat.zero_add]; exact h2)
  have o : ∀ c, isB S (0 + a.size + 2 + 1) c = false := fun c => isB_out c (by omega)
  have g := sign_way (k := 600) (l := []) (x := x) (by omega) h0 hI ha hpa (by omega) (by
    rw [e2, e2, e2]
    rcases hx with ⟨rfl, h⟩ | ⟨rfl, h⟩ | ⟨rfl, h⟩
    · exact .inl ⟨rfl, h⟩
    · exact .inr (.inl ⟨rfl, rfl, h⟩)
    · exact .inr (.inr ⟨rfl, rfl, rfl, h⟩)) (o _) (o _) (o _)
  by_cases h5 : x.size ≤ 500
  · rw [if_pos h5, show 0 + a.size + 3 = S.size by omega] at g
    refine parse_of (by omega) ?_
    have h6 : wayB S 603 [] 0 = some (.ok (ofR 2 [x], S.size)) := g.trans (rway_end (.inl (Nat.lt_irrefl _)))
    exact (rways_step h6).trans (rwaysL_end (isB_out _ (Nat.le_refl _)))
  · rw [if_neg h5] at g
    rw [rone_err (by omega) g]
    simp [fitR]; omega
end Go.Proofs.Ytgpmbkgedhcbjaa

namespace Go.Proofs.Ytgpmbkgedhcbjaa

/-- (a)(a)* -/
theorem parse_catstar {a b S : ByteArray} {ra rb : Rx} (ha : a.size ≤ 50) (hb : b.size ≤ 50) (hpa : parseM a = .ok ra) (hpb : parseM b = .ok rb) (hsz : S.size = a.size + b.size + 5) (h0 : byteAt S 0 = 40) (hI : Inside a S (0 + 1))
    (h2 : byteAt S (a.size + 2) = 40) (hJ : Inside b S (a.size + 3)) (h4 : byteAt S (a.size + b.size + 4) = 42) : parseM S = if (starR rb).size ≤ 500 then fitR (.mk 2 0 0 0 0 [ra, starR rb]) else .error 4 := by
  have e2 : ∀ c, isB S (0 + a.size + 2) c = decide (40 = c) := fun c => isB_of c (by omega) (by rw [Nat.zero_add]; exact h2)
  have g1 := group_way (k := 601) (l := []) (by omega) h0 hI ha hpa (by omega) (by rw [e2]; rfl) (by rw [e2]; rfl) (by rw [e2]; rfl)
  have e3 : ∀ c, isB S (0 + a.size + 2 + b.size + 2) c = decide (42 = c) := fun c => isB_of c (by omega) (by rw [show 0 + a.size + 2 + b.size + 2 = a.size + b.size + 4 by omega]; exact h4)
  have o : ∀ c, isB S (0 + a.size + 2 + b.size + 2 + 1) c = false := fun c => isB_out c (by omega)
  have g2 := sign_way (k := 599) (l := [ra]) (x := starR rb) (p := 0 + a.size + 2) (by omega) (by rw [Nat.zero_add]; exact h2) (by rw [show 0 + a.size + 2 + 1 = a.size + 3 by omega]; exact hJ) hb hpb (by omega)
    (.inl ⟨by rw [e3]; rfl, rfl⟩) (o _) (o _) (o _)
  by_cases h5 : (starR rb).size ≤ 500
  · rw [if_pos h5] at g2 ⊢
    rw [show 0 + a.size + 2 + b.size + 3 = S.size by omega] at g2
    refine parse_of (by omega) ?_
    have h6 : wayB S 603 [] 0 = some (.ok (ofR 2 [ra, starR rb], S.size)) := g1.trans (g2.trans (rway_end (.inl (Nat.lt_irrefl _))))
    exact (rways_step h6).trans (rwaysL_end (isB_out _ (Nat.le_refl _)))
  · rw [if_neg h5] at g2 ⊢
    exact rone_err (by omega) (g1.trans g2)
/-- (a)|[] -/
theorem parse_ornone {a S : ByteArray} {ra : Rx} (ha : a.size ≤ 50) (hpa : parseM a = .ok ra) (hsz : S.size = a.size + 5) (h0 : byteAt S 0 = 40) (hI : Inside a S (0 + 1))
    (h2 : byteAt S (a.size + 2) = 124) (h3 : byteAt S (a.size + 3) = 91) (h4 : byteAt S (a.size + 4) = 93) : parseM S = fitR (.mk 3 0 0 0 0 [ra, Bs.zero.rx]) := by
  have e2 : ∀ c, isB S (0 + a.size + 2) c = decide (124 = c) := fun c => isB_of c (by omega) (by rw [Nat.zero_add]; exact h2)
  have g1 := group_way (k := 601) (l := []) (by omega) h0 hI ha hpa (by omega) (by rw [e2]; rfl) (by rw [e2]; rfl) (by rw [e2]; rfl)
  have o : ∀ c, isB S (0 + a.size + 2 + 1 + 2) c = false := fun c => isB_out c (by omega)
  have g2 := none_way (k := 599) (l := []) (p := 0 + a.size + 2 + 1) (S := S) (by omega) (by rw [show 0 + a.size + 2 + 1 = a.size + 3 by omega]; exact h3) (by rw [show 0 + a.size + 2 + 1 + 1 = a.size + 4 by omega]; exact h4) (o _) (o _) (o _)
  rw [show 0 + a.size + 2 + 1 + 2 = S.size by omega] at g2
  exact two_ways (by omega) (by rw [e2]; rfl) g1 g2
/-- (a)[] -/
theorem parse_catnone {a S : ByteArray} {ra : Rx} (ha : a.size ≤ 50) (hpa : parseM a = .ok ra) (hsz : S.size = a.size + 4) (h0 : byteAt S 0 = 40) (hI : Inside a S (0 + 1))
    (h2 : byteAt S (a.size + 2) = 91) (h3 : byteAt S (a.size + 3) = 93) : parseM S = fitR (.mk 2 0 0 0 0 [ra, Bs.zero.rx]) := by
  have e2 : ∀ c, isB S (0 + a.size + 2) c = decide (91 = c) := fun c => isB_of c (by omega) (by rw [Nat.zero_add]; exact h2)
  have g1 := group_way (k := 601) (l := []) (by omega) h0 hI ha hpa (by omega) (by rw [e2]; rfl) (by rw [e2]; rfl) (by rw [e2]; rfl)
  have o : ∀ c, isB S (0 + a.size + 2 + 2) c = false := fun c => isB_out c (by omega)
  have g2 := none_way (k := 599) (l := [ra]) (p := 0 + a.size + 2) (S := S) (by omega) (by rw [Nat.zero_add]; exact h2) (by rw [show 0 + a.size + 2 + 1 = a.size + 3 by omega]; exact h3) (o _) (o _) (o _)
  rw [show 0 + a.size + 2 + 2 = S.size by omega] at g2
  refine parse_of (by omega) ?_
  have h6 : wayB S 603 [] 0 = some (.ok (ofR 2 [ra, Bs.zero.rx], S.size)) := g1.trans (g2.trans (rway_end (k := 600) (.inl (Nat.lt_irrefl _))))
  exact (rways_step h6).trans (rwaysL_end (isB_out _ (Nat.le_refl _)))
theorem bzero_lang (s : List Nat) : ¬ Rx.lang Bs.zero.rx s := by
  simp only [Bs.rx, Bs.zero, Rx.lang]
  simp only [Rx.has, Int.reduceEq, if_true, if_false, reduceIte]
  rintro ⟨b, _, hb⟩
  have e : (match b / 64 with | 0 => 0 | 1 => 0 | 2 => 0 | _ => 0 : Nat) = 0 := by split <;> rfl
  simp at hb
  revert hb
  split <;> simp
theorem zero_lang (s : List Nat) : Rx.lang .zero s ↔ s = [] := by simp [Rx.zero, Rx.lang]
theorem star_lang (r : Rx) (s : List Nat) : (starR r).lang s ↔ Star r.lang s := by simp [starR, Rx.lang, headL]
theorem two_lang (r q : Rx) (s : List Nat) : Rx.lang (.mk 2 0 0 0 0 [r, q]) s ↔ ∃ a b, s = a ++ b ∧ r.lang a ∧ q.lang b := by
  simp [Rx.lang, catL]
theorem or_lang (r q : Rx) (s : List Nat) : Rx.lang (.mk 3 0 0 0 0 [r, q]) s ↔ r.lang s ∨ q.lang s := by
  simp [Rx.lang, altL]
theorem match_or (r q : Rx) (s : ByteArray) : matchP (.mk 3 0 0 0 0 [r, q]) s = (matchP r s || matchP q s) := by
  rw [Bool.eq_iff_iff, Bool.or_eq_true, matchP_true, matchP_true, matchP_true, or_lang]
theorem match_bzero (s : ByteArray) : matchP Bs.zero.rx s = false := by
  rw [← Bool.not_eq_true, matchP_true]; exact bzero_lang _
theorem match_zero (s : ByteArray) : matchP .zero s = decide (s.size = 0) := by
  rw [Bool.eq_iff_iff, matchP_true, zero_lang, decide_eq_true_eq, ← bytesN_length s, List.length_eq_zero_iff]
theorem match_catnone (r : Rx) (s : ByteArray) : matchP (.mk 2 0 0 0 0 [r, Bs.zero.rx]) s = false := by
  rw [← Bool.not_eq_true, matchP_true, two_lang]
  rintro ⟨a, b, _, _, h⟩
  exact bzero_lang _ h
theorem star_bzero (s : List Nat) : Star (Rx.lang Bs.zero.rx) s ↔ s = [] := by
  constructor
  · intro h
    cases h with
    | nil => rfl
    | cons a b ha _ => exact absurd ha (bzero_lang a)
  · rintro rfl; exact .nil
theorem match_nonecat (r : Rx) (s : ByteArray) : matchP (.mk 2 0 0 0 0 [starR Bs.zero.rx, r, .zero]) s = matchP r s := by
  rw [Bool.eq_iff_iff, matchP_true, matchP_true]
  simp only [Rx.lang, catL]
  constructor
  · rintro ⟨a, b, h, ha, c, d, hb, hc, e, f, hd, he, hf⟩
    rw [show a = [] from (star_bzero a).1 ((star_lang _ _).1 ha)] at h
    rw [(zero_lang e).1 he, hf] at hd
    rw [h, hb, hd]
    simpa using hc
  · intro h
    exact ⟨[], _, rfl, (star_lang _ _).2 .nil, _, [], (List.append_nil _).symm, h, [], [], rfl, (zero_lang _).2 rfl, rfl⟩
end Go.Proofs.Ytgpmbkgedhcbjaa

namespace Go.Proofs.Ytgpmbkgedhcbjaa
open Go.RowKit

theorem parse_nil : parseM ⟨#[]⟩ = .ok .zero := by kernel_rfl
/-- []*(a)() -/
theorem parse_nonecat {a S : ByteArray} {ra : Rx} (ha : a.size ≤ 50) (hpa : parseM a = .ok ra) (hsz : S.size = a.size + 7) (h0 : byteAt S 0 = 91) (h1 : byteAt S 1 = 93) (h2 : byteAt S 2 = 42) (h3 : byteAt S 3 = 40) (hI : Inside a S (3 + 1))
    (h5 : byteAt S (a.size + 5) = 40) (h6 : byteAt S (a.size + 6) = 41) : parseM S = fitR (.mk 2 0 0 0 0 [starR Bs.zero.rx, ra, .zero]) := by
  have e2 : ∀ c, isB S (0 + 2) c = decide (42 = c) := fun c => isB_of c (by omega) h2
  have e3 : ∀ c, isB S (0 + 2 + 1) c = decide (40 = c) := fun c => isB_of c (by omega) h3
  have hB := rbehind_sign (S := S) (k := 600) (q := 0 + 2) (r := Bs.zero.rx) (x := starR Bs.zero.rx) (.inl ⟨by rw [e2]; rfl, rfl⟩) (by rw [e3]; rfl) (by rw [e3]; rfl) (by rw [e3]; rfl)
  rw [if_pos (by decide)] at hB
  have g1 : wayB S 603 [] 0 = wayB S 602 [starR Bs.zero.rx] 3 := rway_step (by rw [h0]; rintro (h | h | h) <;> omega) (ratom_none (k := 600) (by omega) h0 h1) (by decide) hB
  have e5 : ∀ c, isB S (3 + a.size + 2) c = decide (40 = c) := fun c => isB_of c (by omega) (by rw [show 3 + a.size + 2 = a.size + 5 by omega]; exact h5)
  have g2 := group_way (k := 600) (l := [starR Bs.zero.rx]) (p := 3) (by omega) h3 hI ha hpa (by omega) (by rw [e5]; rfl) (by rw [e5]; rfl) (by rw [e5]; rfl)
  have hE : Inside ⟨#[]⟩ S (3 + a.size + 2 + 1) := ⟨fun p hp => absurd hp (Nat.not_lt_zero _), by
    show 0 + (3 + a.size + 2 + 1) < S.size ∧ byteAt S (0 + (3 + a.size + 2 + 1)) = 41
    rw [show 0 + (3 + a.size + 2 + 1) = a.size + 6 by omega]
    exact ⟨by omega, h6⟩⟩
  have o : ∀ c, isB S (3 + a.size + 2 + (ByteArray.mk #[]).size + 2) c = false := fun c => isB_out c (by show S.size ≤ 3 + a.size + 2 + 0 + 2; omega)
  have g3 := group_way (k := 599) (l := [starR Bs.zero.rx, ra]) (p := 3 + a.size + 2) (a := ⟨#[]⟩) (by omega) (by rw [show 3 + a.size + 2 = a.size + 5 by omega]; exact h5) hE (by decide) parse_nil (by omega) (o _) (o _) (o _)
  have g4 : wayB S 600 [starR Bs.zero.rx, ra, .zero] (3 + a.size + 2 + (ByteArray.mk #[]).size + 2) = some (.ok (ofR 2 [starR Bs.zero.rx, ra, .zero], S.size)) := by
    have e : 3 + a.size + 2 + (ByteArray.mk #[]).size + 2 = S.size := by show 3 + a.size + 2 + 0 + 2 = S.size; omega
    rw [e]
    exact rway_end (k := 599) (.inl (Nat.lt_irrefl _))
  refine parse_of (by omega) ?_
  exact (rways_step (g1.trans (g2.trans (g3.trans g4)))).trans (rwaysL_end (isB_out _ (Nat.le_refl _)))

/-- What Parse's two results are. -/
def parseR (s : ByteArray) : Rx := match parseM s with | .ok r => r | .error _ => .zero
def parseN (s : ByteArray) : Int := match parseM s with | .ok _ => 0 | .error n => n
theorem parseR_size (s : ByteArray) : (parseR s).size ≤ 500 := by
  unfold parseR
  cases h : parseM s with
  | ok r => exact (parseM_size h).1
  | error n => show Rx.size .zero ≤ 500; decide
theorem parseN_of {s : ByteArray} (h : parseN s = 0) : parseM s = .ok (parseR s) := by
  unfold parseN at h
  unfold parseR
  cases h' : parseM s with
  | ok r => rfl
  | error n =>
    rw [h'] at h
    have := parseM_err h'
    simp only [] at h
    omega
theorem parseN_err {s : ByteArray} {n : Int} (h : parseM s = .error n) : parseN s = n := by simp [parseN, h]
theorem parseN_fit {s : ByteArray} {r : Rx} (h : parseM s = fitR r) : parseN s = 4 ∨ (parseN s = 0 ∧ parseR s = r) := by
  rcases fitR_two r with h2 | h2
  · rw [h2] at h; exact .inr ⟨by simp [parseN, h], by simp [parseR, h]⟩
  · rw [h2] at h; exact .inl (by simp [parseN, h])
theorem parse_un (s : ByteArray) (hs : s.size < 9223372036854775808) (w : World) :
    Calls Try.prog 14 #[.string s] w fun e w' => ∃ v, e = .returned (.tuple #[v, .int .i64 (parseN s)]) ∧ RxV (fun _ => True) w' v (parseR s) ∧ Fr none_ w w' := by
  unfold parseN parseR
  cases h : parseM s with
  | ok r =>
    refine (parse_ok s hs r h w).mono ?_
    rintro e w' ⟨v, rfl, h1, h2⟩
    exact ⟨v, rfl, h1.mono (fun _ _ => trivial), h2⟩
  | error n =>
    refine (parse_no s hs n h w).mono ?_
    rintro e w' ⟨rfl, h2⟩
    exact ⟨_, rfl, RxV.mk_ (kids := []) (Nat.le_refl _) trivial, h2⟩
theorem byteAt_head (x a y : ByteArray) (j : Nat) (h : j < x.size) : byteAt (x ++ a ++ y) j = byteAt x j := by
  rw [byteAt_append, if_pos (by rw [ByteArray.size_append]; omega), byteAt_append, if_pos h]
theorem byteAt_tail (x a y : ByteArray) (i j : Nat) (h : i = x.size + a.size + j) : byteAt (x ++ a ++ y) i = byteAt y j := by
  subst h
  rw [byteAt_append, if_neg (by rw [ByteArray.size_append]; omega)]
  congr 1
  rw [ByteArray.size_append]; omega
end Go.Proofs.Ytgpmbkgedhcbjaa
