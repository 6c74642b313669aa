/-
  The reader's model: more rounds change nothing; a text inside a longer one is read alike; texts put together of others in brackets.
  MiniTexts, in plain Lean: what is written twice, with a bar between, has the same least automaton.
  MiniTexts, in plain Lean: what mini.Of tells of both rows of texts.
-/
import Derived.Test.YtnenbihmokolpaaGreatDoorNp
import Derived.Test.YtnenbihmokolpaaGreatDoorNu
import Derived.Test.YtnenbihmokolpaaGreatDoorMD
namespace Go.Proofs.YtnenbihmokolpaaGreatDoor set_option linter.unusedVariables false set_option linter.unusedSimpArgs false

/-- None, or the same. -/
def Le {α : Type} (x y : Option α) : Prop := x = none ∨ x = y
theorem Le.refl {α : Type} (x : Option α) : Le x x := .inr rfl
theorem Le.none {α : Type} (y : Option α) : Le none y := .inl rfl
theorem Le.some {α : Type} {x y : Option α} {v : α} (h : Le x y) (hx : x = some v) : y = some v := by
  rcases h with h | h
  · rw [h] at hx; cases hx
  · rw [← h, hx]
theorem classL_le {s : ByteArray} (k : Nat) : ∀ (x : Bs) (p : Nat), Le (classL s k x p) (classL s (k + 1) x p) := by
  induction k with
  | zero => intro x p; exact .none _
  | succ k ih =>
    intro x p
    rw [classL, classL.eq_def s (k + 1 + 1)]
    simp only []
    cases h93 : isB s p 93 with
    | true => exact .refl _
    | false =>
      cases h1 : oneB s p with
      | error n => exact .refl _
      | ok z =>
        obtain ⟨lo, q1⟩ := z
        simp only [Bool.false_eq_true, if_false]
        generalize (if isB s q1 45 = true then oneB s (q1 + 1) else Except.ok (lo, q1)) = y
        cases y with
        | error n => exact .refl _
        | ok z =>
          obtain ⟨hi, q2⟩ := z
          simp only []
          split
          · exact .refl _
          · exact ih _ _
theorem classB_le {s : ByteArray} (k p : Nat) : Le (classB s k p) (classB s (k + 1) p) := by
  simp only [classB]
  rcases classL_le (s := s) k Bs.zero (if isB s p 94 = true then p + 1 else p) with h | h
  · rw [h]; exact .none _
  · rw [h]; exact .refl _
theorem behindB_le {s : ByteArray} (k : Nat) : ∀ (r : Rx) (p : Nat), Le (behindB s k r p) (behindB s (k + 1) r p) := by
  induction k with
  | zero => intro r p; exact .none _
  | succ k ih =>
    intro r p
    rw [behindB, behindB.eq_def s (k + 1 + 1)]
    simp only []
    split
    · cases fitR (starR r) with
      | error e => exact .refl _
      | ok r' => exact ih _ _
    · split
      · cases fitR (.mk 2 0 0 0 0 [r, starR r]) with
        | error e => exact .refl _
        | ok r' => exact ih _ _
      · split
        · cases fitR (.mk 3 0 0 0 0 [r, .zero]) with
          | error e => exact .refl _
          | ok r' => exact ih _ _
        · exact .refl _
theorem all_le {s : ByteArray} (k : Nat) :
    (∀ p, Le (waysB s k p) (waysB s (k + 1) p)) ∧ (∀ l p, Le (waysL s k l p) (waysL s (k + 1) l p)) ∧ (∀ l p, Le (wayB s k l p) (wayB s (k + 1) l p)) ∧ (∀ p, Le (atomB s k p) (atomB s (k + 1) p)) := by
  induction k with
  | zero => exact ⟨fun p => .inl (by simp [waysB]), fun l p => .inl (by simp [waysL]), fun l p => .inl (by simp [wayB]), fun p => .inl (by simp [atomB])⟩
  | succ k ih =>
    obtain ⟨i1, i2, i3, i4⟩ := ih
    refine ⟨?_, ?_, ?_, ?_⟩
    · intro p
      rw [waysB, waysB.eq_def s (k + 1 + 1)]
      simp only []
      rcases i3 [] p with h | h
      · rw [h]; exact .none _
      · rw [← h]
        cases wayB s k [] p with
        | none => exact .refl _
        | some z =>
          rcases z with e | ⟨r, q⟩
          · exact .refl _
          · exact i2 _ _
    · intro l p
      rw [waysL, waysL.eq_def s (k + 1 + 1)]
      simp only []
      split
      · rcases i3 [] (p + 1) with h | h
        · rw [h]; exact .none _
        · rw [← h]
          cases wayB s k [] (p + 1) with
          | none => exact .refl _
          | some z =>
            rcases z with e | ⟨r, q⟩
            · exact .refl _
            · exact i2 _ _
      · exact .refl _
    · intro l p
      rw [wayB, wayB.eq_def s (k + 1 + 1)]
      simp only []
      split
      · exact .refl _
      · rcases i4 p with h | h
        · rw [h]; exact .none _
        · rw [← h]
          cases atomB s k p with
          | none => exact .refl _
          | some z =>
            rcases z with e | ⟨r, q⟩
            · exact .refl _
            · simp only []
              cases fitR r with
              | error e => exact .refl _
              | ok r =>
                simp only []
                rcases behindB_le (s := s) k r q with h | h
                · rw [h]; exact .none _
                · rw [← h]
                  cases behindB s k r q with
                  | none => exact .refl _
                  | some z =>
                    rcases z with e | ⟨r2, q2⟩
                    · exact .refl _
                    · exact i3 _ _
    · intro p
      rw [atomB, atomB.eq_def s (k + 1 + 1)]
      simp only []
      cases nextB s p with
      | error e => exact .refl _
      | ok z =>
        obtain ⟨b, q⟩ := z
        simp only []
        split
        · rcases i1 q with h | h
          · rw [h]; exact .none _
          · rw [← h]; exact .refl _
        · split
          · exact classB_le _ _
          · exact .refl _
theorem Le.trans {α : Type} {x y z : Option α} (h : Le x y) (k : Le y z) : Le x z := by
  rcases h with h | h
  · exact .inl h
  · rw [h]; exact k
theorem ways_le {s : ByteArray} {k k' : Nat} (h : k ≤ k') (p : Nat) : Le (waysB s k p) (waysB s k' p) := by
  induction h with
  | refl => exact .refl _
  | step _ ih => exact ih.trans ((all_le _).1 p)

/-- A text that lies inside another one, a closing bracket behind it. -/
structure Inside (a S : ByteArray) (d : Nat) : Prop where
  at_ : ∀ p, p < a.size → p + d < S.size ∧ byteAt S (p + d) = byteAt a p
  end_ : a.size + d < S.size ∧ byteAt S (a.size + d) = 41
theorem Inside.is {a S : ByteArray} {d : Nat} (h : Inside a S d) {p b : Nat} (hp : p ≤ a.size) (hb : b ≠ 41) : isB S (p + d) b = isB a p b := by
  rcases Nat.lt_or_ge p a.size with hl | hl
  · obtain ⟨h1, h2⟩ := h.at_ p hl
    simp [isB, h1, h2, hl]
  · obtain rfl : p = a.size := by omega
    obtain ⟨h1, h2⟩ := h.end_
    simp [isB, h2, Ne.symm hb]
theorem Inside.close {a S : ByteArray} {d : Nat} (h : Inside a S d) {p : Nat} (hp : isB a p 41 = true) : isB S (p + d) 41 = true := by
  have hl := isB_at hp
  obtain ⟨h1, h2⟩ := h.at_ p hl
  simp only [isB, h1, h2, decide_true, Bool.true_and]
  simpa [isB, hl] using hp
theorem Inside.next {a S : ByteArray} {d : Nat} (h : Inside a S d) {p b q : Nat} (hp : nextB a p = .ok (b, q)) : nextB S (p + d) = .ok (b, q + d) := by
  obtain ⟨_, rfl, hl, rfl⟩ := nextB_at hp
  obtain ⟨h1, h2⟩ := h.at_ p hl
  simp only [nextB, h1, if_true, h2]
  congr 2
  omega
theorem Inside.digit {a S : ByteArray} {d : Nat} (h : Inside a S d) {p b q : Nat} (hp : digitB a p = .ok (b, q)) : digitB S (p + d) = .ok (b, q + d) := by
  simp only [digitB] at hp ⊢
  cases hn : nextB a p with
  | error e => rw [hn] at hp; cases hp
  | ok z =>
    obtain ⟨c, q1⟩ := z
    rw [hn] at hp
    rw [h.next hn]
    simp only [] at hp ⊢
    cases hv : digitV c with
    | none => rw [hv] at hp; cases hp
    | some n =>
      rw [hv] at hp
      simp only [Except.ok.injEq, Prod.mk.injEq] at hp ⊢
      exact ⟨hp.1, by rw [hp.2]⟩
theorem Inside.char {a S : ByteArray} {d : Nat} (h : Inside a S d) {p b q : Nat} (hp : charB a p = .ok (b, q)) : charB S (p + d) = .ok (b, q + d) := by
  simp only [charB] at hp ⊢
  cases hn : nextB a p with
  | error e => rw [hn] at hp; cases hp
  | ok z =>
    obtain ⟨c, q1⟩ := z
    rw [hn] at hp
    rw [h.next hn]
    simp only [] at hp ⊢
    cases hv : namedB c with
    | some n =>
      rw [hv] at hp
      simp only [Except.ok.injEq, Prod.mk.injEq] at hp ⊢
      exact ⟨hp.1, by rw [hp.2]⟩
    | none =>
      rw [hv] at hp
      simp only [] at hp ⊢
      split at hp
      · rename_i hc
        rw [if_pos hc]
        cases h1 : digitB a q1 with
        | error e => rw [h1] at hp; cases hp
        | ok z =>
          obtain ⟨hi, q2⟩ := z
          rw [h1] at hp
          rw [h.digit h1]
          simp only [] at hp ⊢
          cases h2 : digitB a q2 with
          | error e => rw [h2] at hp; cases hp
          | ok z =>
            obtain ⟨lo, q3⟩ := z
            rw [h2] at hp
            rw [h.digit h2]
            simp only [Except.ok.injEq, Prod.mk.injEq] at hp ⊢
            exact ⟨hp.1, by rw [hp.2]⟩
      · rename_i hc
        rw [if_neg hc]
        split at hp
        · cases hp
        · rename_i hw
          rw [if_neg hw]
          simp only [Except.ok.injEq, Prod.mk.injEq] at hp ⊢
          exact ⟨hp.1, by rw [hp.2]⟩
theorem Inside.one {a S : ByteArray} {d : Nat} (h : Inside a S d) {p b q : Nat} (hl : p ≤ a.size) (hp : oneB a p = .ok (b, q)) : oneB S (p + d) = .ok (b, q + d) := by
  simp only [oneB] at hp ⊢
  rw [h.is hl (by decide)]
  split at hp
  · rename_i hc
    rw [if_pos hc]
    have := h.char hp
    rwa [show p + 1 + d = p + d + 1 by omega] at this
  · rename_i hc
    rw [if_neg hc]
    cases hn : nextB a p with
    | error e => rw [hn] at hp; cases hp
    | ok z =>
      obtain ⟨c, q1⟩ := z
      rw [hn] at hp
      rw [h.next hn]
      simp only [] at hp ⊢
      split at hp
      · cases hp
      · rename_i hw
        rw [if_neg hw]
        simp only [Except.ok.injEq, Prod.mk.injEq] at hp ⊢
        exact ⟨hp.1, by rw [hp.2]⟩
theorem Inside.class_ {a S : ByteArray} {d : Nat} (h : Inside a S d) (k : Nat) : ∀ (x y : Bs) (p q : Nat), p ≤ a.size → classL a k x p = some (.ok (y, q)) → classL S k x (p + d) = some (.ok (y, q + d)) := by
  induction k with
  | zero => intro x y p q _ hp; cases hp
  | succ k ih =>
    intro x y p q hl hp
    rw [classL] at hp ⊢
    rw [h.is hl (by decide)]
    split at hp
    · rename_i hc
      rw [if_pos hc]
      simp only [Option.some.injEq, Except.ok.injEq, Prod.mk.injEq] at hp ⊢
      exact ⟨hp.1, by omega⟩
    · rename_i hc
      rw [if_neg hc]
      cases h1 : oneB a p with
      | error e => rw [h1] at hp; cases hp
      | ok z =>
        obtain ⟨lo, q1⟩ := z
        have g1 := oneB_at h1
        rw [h1] at hp
        rw [h.one hl h1]
        simp only [] at hp ⊢
        rw [h.is g1.2 (by decide)]
        have key : ∀ hi q2, (if isB a q1 45 = true then oneB a (q1 + 1) else Except.ok (lo, q1)) = .ok (hi, q2) → q2 ≤ a.size ∧ (if isB a q1 45 = true then oneB S (q1 + d + 1) else Except.ok (lo, q1 + d)) = .ok (hi, q2 + d) := by
          intro hi q2 he
          split at he
          · rename_i hm
            rw [if_pos hm]
            have hq := isB_at hm
            have := h.one (by omega) he
            rw [show q1 + 1 + d = q1 + d + 1 by omega] at this
            exact ⟨(oneB_at he).2, this⟩
          · rename_i hm
            rw [if_neg hm]
            simp only [Except.ok.injEq, Prod.mk.injEq] at he ⊢
            exact ⟨by omega, he.1, by omega⟩
        cases hy : (if isB a q1 45 = true then oneB a (q1 + 1) else Except.ok (lo, q1)) with
        | error e => rw [hy] at hp; cases hp
        | ok z =>
          obtain ⟨hi, q2⟩ := z
          obtain ⟨g2, g3⟩ := key hi q2 hy
          rw [hy] at hp
          rw [g3]
          simp only [] at hp ⊢
          split at hp
          · cases hp
          · rename_i hw
            rw [if_neg hw]
            exact ih _ _ _ _ g2 hp
end Go.Proofs.YtnenbihmokolpaaGreatDoor

namespace Go.Proofs.YtnenbihmokolpaaGreatDoor set_option linter.unusedVariables false set_option linter.unusedSimpArgs false

theorem Inside.classB_ {a S : ByteArray} {d : Nat} (h : Inside a S d) {k p q : Nat} {r : Rx} (hl : p ≤ a.size) (hp : classB a k p = some (.ok (r, q))) : q ≤ a.size ∧ classB S k (p + d) = some (.ok (r, q + d)) := by
  refine ⟨(classB_at hl hp).2.1, ?_⟩
  simp only [classB] at hp ⊢
  rw [h.is hl (by decide)]
  have e : (if isB a p 94 = true then p + d + 1 else p + d) = (if isB a p 94 = true then p + 1 else p) + d := by split <;> omega
  rw [e]
  have hl2 : (if isB a p 94 = true then p + 1 else p) ≤ a.size := by
    split
    · rename_i hc; exact isB_at hc
    · exact hl
  generalize (if isB a p 94 = true then p + 1 else p) = p1 at *
  cases hc : classL a k Bs.zero p1 with
  | none => rw [hc] at hp; cases hp
  | some z =>
    rcases z with e | ⟨x, q1⟩
    · rw [hc] at hp; cases hp
    · rw [hc] at hp
      rw [h.class_ k _ _ _ _ hl2 hc]
      simp only [Option.some.injEq, Except.ok.injEq, Prod.mk.injEq] at hp ⊢
      exact ⟨hp.1, by rw [hp.2]⟩
theorem Inside.behind {a S : ByteArray} {d : Nat} (h : Inside a S d) (k : Nat) : ∀ (r r' : Rx) (p q : Nat), p ≤ a.size → behindB a k r p = some (.ok (r', q)) → q ≤ a.size ∧ behindB S k r (p + d) = some (.ok (r', q + d)) := by
  induction k with
  | zero => intro r r' p q _ hp; cases hp
  | succ k ih =>
    intro r r' p q hl hp
    rw [behindB] at hp ⊢
    rw [h.is hl (by decide), h.is hl (by decide), h.is hl (by decide)]
    have key : ∀ (x : Rx) (b : Nat), isB a p b = true → (match fitR x with | .error e => some (.error e) | .ok y => behindB a k y (p + 1)) = some (.ok (r', q)) →
        q ≤ a.size ∧ (match fitR x with | .error e => some (.error e) | .ok y => behindB S k y (p + d + 1)) = some (.ok (r', q + d)) := by
      intro x b hb hx
      have hpl := isB_at hb
      cases hf : fitR x with
      | error e => rw [hf] at hx; cases hx
      | ok y =>
        rw [hf] at hx
        simp only [] at hx ⊢
        have := ih _ _ _ _ (by omega) hx
        rw [show p + 1 + d = p + d + 1 by omega] at this
        exact this
    split at hp
    · rename_i hc
      rw [if_pos hc]
      exact key _ _ hc hp
    · rename_i hc
      rw [if_neg hc]
      split at hp
      · rename_i hc
        rw [if_pos hc]
        exact key _ _ hc hp
      · rename_i hc
        rw [if_neg hc]
        split at hp
        · rename_i hc
          rw [if_pos hc]
          exact key _ _ hc hp
        · rename_i hc
          rw [if_neg hc]
          simp only [Option.some.injEq, Except.ok.injEq, Prod.mk.injEq] at hp ⊢
          exact ⟨by omega, hp.1, by omega⟩
theorem Inside.all {a S : ByteArray} {d : Nat} (h : Inside a S d) (k : Nat) :
    (∀ (p q : Nat) (r : Rx), p ≤ a.size → waysB a k p = some (.ok (r, q)) → q ≤ a.size ∧ waysB S k (p + d) = some (.ok (r, q + d))) ∧
    (∀ (l : List Rx) (p q : Nat) (r : Rx), p ≤ a.size → waysL a k l p = some (.ok (r, q)) → q ≤ a.size ∧ waysL S k l (p + d) = some (.ok (r, q + d))) ∧
    (∀ (l : List Rx) (p q : Nat) (r : Rx), p ≤ a.size → wayB a k l p = some (.ok (r, q)) → q ≤ a.size ∧ wayB S k l (p + d) = some (.ok (r, q + d))) ∧
    (∀ (p q : Nat) (r : Rx), p ≤ a.size → atomB a k p = some (.ok (r, q)) → q ≤ a.size ∧ atomB S k (p + d) = some (.ok (r, q + d))) := by
  induction k with
  | zero =>
    refine ⟨?_, ?_, ?_, ?_⟩
    · intro p q r _ h; simp [waysB] at h
    · intro l p q r _ h; simp [waysL] at h
    · intro l p q r _ h; simp [wayB] at h
    · intro p q r _ h; simp [atomB] at h
  | succ k ih =>
    obtain ⟨i1, i2, i3, i4⟩ := ih
    refine ⟨?_, ?_, ?_, ?_⟩
    · intro p q r hl hp
      rw [waysB] at hp ⊢
      cases hw : wayB a k [] p with
      | none => rw [hw] at hp; cases hp
      | some z =>
        rcases z with e | ⟨r1, q1⟩
        · rw [hw] at hp; cases hp
        · rw [hw] at hp
          obtain ⟨g1, g2⟩ := i3 _ _ _ _ hl hw
          rw [g2]
          exact i2 _ _ _ _ g1 hp
    · intro l p q r hl hp
      rw [waysL] at hp ⊢
      rw [h.is hl (by decide)]
      split at hp
      · rename_i hc
        rw [if_pos hc]
        have hpl := isB_at hc
        cases hw : wayB a k [] (p + 1) with
        | none => rw [hw] at hp; cases hp
        | some z =>
          rcases z with e | ⟨r1, q1⟩
          · rw [hw] at hp; cases hp
          · rw [hw] at hp
            obtain ⟨g1, g2⟩ := i3 _ _ _ _ (by omega) hw
            rw [show p + d + 1 = p + 1 + d by omega, g2]
            exact i2 _ _ _ _ g1 hp
      · rename_i hc
        rw [if_neg hc]
        simp only [Option.some.injEq, Except.ok.injEq, Prod.mk.injEq] at hp ⊢
        exact ⟨by omega, hp.1, by omega⟩
    · intro l p q r hl hp
      rw [wayB] at hp ⊢
      split at hp
      · rename_i hc
        have hc' : ¬ p + d < S.size ∨ byteAt S (p + d) = 124 ∨ byteAt S (p + d) = 41 := by
          rcases Nat.lt_or_ge p a.size with hlt | hge
          · obtain ⟨h1, h2⟩ := h.at_ p hlt
            rw [h2]
            rcases hc with hc | hc
            · omega
            · exact .inr hc
          · obtain rfl : p = a.size := by omega
            exact .inr (.inr h.end_.2)
        rw [if_pos hc']
        simp only [Option.some.injEq, Except.ok.injEq, Prod.mk.injEq] at hp ⊢
        exact ⟨by omega, hp.1, by omega⟩
      · rename_i hc
        have hlt : p < a.size := Classical.byContradiction fun hn => hc (.inl hn)
        obtain ⟨h1, h2⟩ := h.at_ p hlt
        have hc' : ¬ (¬ p + d < S.size ∨ byteAt S (p + d) = 124 ∨ byteAt S (p + d) = 41) := by
          rw [h2]
          rintro (hn | hn)
          · exact hn h1
          · exact hc (.inr hn)
        rw [if_neg hc']
        cases hw : atomB a k p with
        | none => rw [hw] at hp; cases hp
        | some z =>
          rcases z with e | ⟨r1, q1⟩
          · rw [hw] at hp; cases hp
          · rw [hw] at hp
            obtain ⟨g1, g2⟩ := i4 _ _ _ hl hw
            rw [g2]
            simp only [] at hp ⊢
            cases hf : fitR r1 with
            | error e => rw [hf] at hp; cases hp
            | ok r2 =>
              rw [hf] at hp
              simp only [] at hp ⊢
              cases hb : behindB a k r2 q1 with
              | none => rw [hb] at hp; cases hp
              | some z =>
                rcases z with e | ⟨r3, q3⟩
                · rw [hb] at hp; cases hp
                · rw [hb] at hp
                  obtain ⟨g3, g4⟩ := h.behind k _ _ _ _ g1 hb
                  rw [g4]
                  exact i3 _ _ _ _ g3 hp
    · intro p q r hl hp
      rw [atomB] at hp ⊢
      cases hn : nextB a p with
      | error e => rw [hn] at hp; cases hp
      | ok z =>
        obtain ⟨b, q1⟩ := z
        obtain ⟨_, hq1, hpl, _⟩ := nextB_at hn
        rw [hn] at hp
        rw [h.next hn]
        simp only [] at hp ⊢
        have fin : ∀ (x : Rx) (q2 : Nat), q2 ≤ a.size → (some (Except.ok (x, q2)) : Option (Got Rx)) = some (.ok (r, q)) → q ≤ a.size ∧ (some (Except.ok (x, q2 + d)) : Option (Got Rx)) = some (.ok (r, q + d)) := by
          intro x q2 hq he
          simp only [Option.some.injEq, Except.ok.injEq, Prod.mk.injEq] at he ⊢
          exact ⟨by omega, he.1, by omega⟩
        split at hp
        · rename_i hc
          rw [if_pos hc]
          cases hw : waysB a k q1 with
          | none => rw [hw] at hp; cases hp
          | some z =>
            rcases z with e | ⟨r1, q2⟩
            · rw [hw] at hp; cases hp
            · rw [hw] at hp
              obtain ⟨g1, g2⟩ := i1 _ _ _ (by omega) hw
              rw [g2]
              simp only [] at hp ⊢
              split at hp
              · rename_i hc
                rw [if_pos (h.close hc)]
                have := fin _ _ (isB_at hc) hp
                rw [show q2 + 1 + d = q2 + d + 1 by omega] at this
                exact this
              · cases hp
        · rename_i hc
          rw [if_neg hc]
          split at hp
          · rename_i hc
            rw [if_pos hc]
            exact h.classB_ (by omega) hp
          · rename_i hc
            rw [if_neg hc]
            split at hp
            · rename_i hc
              rw [if_pos hc]
              exact fin _ _ (by omega) hp
            · rename_i hc
              rw [if_neg hc]
              split at hp
              · rename_i hc
                rw [if_pos hc]
                cases hx : charB a q1 with
                | error e => rw [hx] at hp; cases hp
                | ok z =>
                  obtain ⟨c, q2⟩ := z
                  rw [hx] at hp
                  rw [h.char hx]
                  exact fin _ _ (charB_at hx).2 hp
              · rename_i hc
                rw [if_neg hc]
                split at hp
                · cases hp
                · rename_i hc
                  rw [if_neg hc]
                  exact fin _ _ (by omega) hp
/-- What a text alone is read as, inside a longer one. -/
theorem Inside.ways {a S : ByteArray} {d : Nat} (h : Inside a S d) {r : Rx} (hs : a.size ≤ 180) (hp : parseM a = .ok r) {k : Nat} (hk : 3 * a.size + 3 ≤ k) : waysB S k d = some (.ok (r, a.size + d)) ∧ r.size ≤ 500 := by
  have hb := parseB_total a
  rw [hp] at hb
  unfold parseB at hb
  rw [if_neg (by omega)] at hb
  have hw : ∃ q, waysB a 604 0 = some (.ok (r, q)) ∧ ¬ q < a.size ∧ r.size ≤ 500 := by
    cases hw : waysB a 604 0 with
    | none => rw [hw] at hb; cases hb
    | some z =>
      rcases z with e | ⟨r1, q⟩
      · rw [hw] at hb; cases hb
      · rw [hw] at hb
        simp only [] at hb
        split at hb
        · cases hb
        · rename_i hq
          cases hf : fitR r1 with
          | error e => rw [hf] at hb; cases hb
          | ok r2 =>
            rw [hf] at hb
            simp only [Option.some.injEq, Except.ok.injEq] at hb
            obtain ⟨rfl, h5⟩ := fitR_at hf
            subst hb
            exact ⟨q, rfl, hq, h5⟩
  obtain ⟨q, hw, hq, h5⟩ := hw
  have hne := (all_total (s := a) (by omega) k).1 0 (Nat.zero_le _) (by omega)
  have hk2 : waysB a k 0 = some (.ok (r, q)) := by
    rcases Nat.le_total k 604 with hle | hle
    · rcases ways_le (s := a) hle 0 with h | h
      · exact absurd h hne
      · rw [h, hw]
    · exact (ways_le (s := a) hle 0).some hw
  obtain ⟨g1, g2⟩ := (h.all k).1 _ _ _ (Nat.zero_le _) hk2
  obtain rfl : q = a.size := by omega
  rw [Nat.zero_add] at g2
  exact ⟨g2, h5⟩
end Go.Proofs.YtnenbihmokolpaaGreatDoor

namespace Go.Proofs.YtnenbihmokolpaaGreatDoor set_option linter.unusedVariables false set_option linter.unusedSimpArgs false

theorem rway_end {S : ByteArray} {k p : Nat} {l : List Rx} (hc : ¬ p < S.size ∨ byteAt S p = 124 ∨ byteAt S p = 41) : wayB S (k + 1) l p = some (.ok (ofR 2 l, p)) := by
  rw [wayB, if_pos hc]
theorem fitR_ok {r : Rx} (h : r.size ≤ 500) : fitR r = .ok r := by simp [fitR]; omega
theorem rway_step {S : ByteArray} {k p q q2 : Nat} {l : List Rx} {r r2 : Rx} (hc : ¬ (¬ p < S.size ∨ byteAt S p = 124 ∨ byteAt S p = 41)) (h1 : atomB S k p = some (.ok (r, q))) (h2 : r.size ≤ 500)
    (h3 : behindB S k r q = some (.ok (r2, q2))) : wayB S (k + 1) l p = wayB S k (l ++ [r2]) q2 := by
  rw [wayB, if_neg hc, h1]
  simp only [fitR_ok h2, h3]
theorem rbehind_none {S : ByteArray} {k q : Nat} {r : Rx} (h1 : isB S q 42 = false) (h2 : isB S q 43 = false) (h3 : isB S q 63 = false) : behindB S (k + 1) r q = some (.ok (r, q)) := by
  rw [behindB]
  simp [h1, h2, h3]
theorem rways_step {S : ByteArray} {k p q : Nat} {r : Rx} (h : wayB S k [] p = some (.ok (r, q))) : waysB S (k + 1) p = waysL S k [r] q := by
  rw [waysB, h]
theorem rwaysL_end {S : ByteArray} {k p : Nat} {l : List Rx} (h : isB S p 124 = false) : waysL S (k + 1) l p = some (.ok (ofR 3 l, p)) := by
  rw [waysL, if_neg (by simp [h])]
theorem rwaysL_step {S : ByteArray} {k p q : Nat} {l : List Rx} {r : Rx} (h : isB S p 124 = true) (hw : wayB S k [] (p + 1) = some (.ok (r, q))) : waysL S (k + 1) l p = waysL S k (l ++ [r]) q := by
  rw [waysL, if_pos h, hw]
/-- What is in brackets. -/
theorem ratom_group {a S : ByteArray} {k p : Nat} {r : Rx} (hp : p < S.size) (hb : byteAt S p = 40) (h : Inside a S (p + 1)) (hs : a.size ≤ 180) (ha : parseM a = .ok r) (hk : 3 * a.size + 3 ≤ k) :
    atomB S (k + 1) p = some (.ok (r, p + a.size + 2)) := by
  have h1 := (h.ways hs ha hk).1
  have hn : nextB S p = .ok (40, p + 1) := by simp [nextB, hp, hb]
  have hc : isB S (a.size + (p + 1)) 41 = true := by simp [isB, h.end_.1, h.end_.2]
  rw [atomB, hn]
  simp only [if_true, h1, hc]
  congr 3
  omega
theorem parse_of {S : ByteArray} {r : Rx} (hs : S.size ≤ 200) (h : waysB S 604 0 = some (.ok (r, S.size))) : parseM S = fitR r := by
  have hb := parseB_total S
  unfold parseB at hb
  rw [if_neg (by omega), h] at hb
  simp only [Nat.lt_irrefl, if_false] at hb
  cases hf : fitR r with
  | error e => rw [hf] at hb; simp at hb; exact hb.symm
  | ok x => rw [hf] at hb; simp at hb; exact hb.symm
theorem fitR_two (r : Rx) : fitR r = .ok r ∨ fitR r = .error 4 := by
  unfold fitR
  split
  · exact .inr rfl
  · exact .inl rfl
theorem byteAt_append (x y : ByteArray) (p : Nat) : byteAt (x ++ y) p = if p < x.size then byteAt x p else byteAt y (p - x.size) := by
  unfold byteAt
  by_cases h : p < x.size
  · rw [if_pos h, dif_pos h, dif_pos (by rw [ByteArray.size_append]; omega), ByteArray.getElem_append_left h]
  · rw [if_neg h]
    by_cases h2 : p - x.size < y.size
    · rw [dif_pos h2, dif_pos (by rw [ByteArray.size_append]; omega), ByteArray.getElem_append_right (by omega)]
    · rw [dif_neg h2, dif_neg (by rw [ByteArray.size_append]; omega)]
theorem Inside.mk_ (x a y : ByteArray) (hy : 0 < y.size) (h0 : byteAt y 0 = 41) : Inside a (x ++ a ++ y) x.size := by
  constructor
  · intro p hp
    refine ⟨by simp only [ByteArray.size_append]; omega, ?_⟩
    rw [byteAt_append, if_pos (by rw [ByteArray.size_append]; omega), byteAt_append, if_neg (by omega)]
    congr 1
    omega
  · refine ⟨by simp only [ByteArray.size_append]; omega, ?_⟩
    rw [byteAt_append, if_neg (by rw [ByteArray.size_append]; omega)]
    rw [show a.size + x.size - (x ++ a).size = 0 by rw [ByteArray.size_append]; omega]
    exact h0
end Go.Proofs.YtnenbihmokolpaaGreatDoor

namespace Go.Proofs.YtnenbihmokolpaaGreatDoor set_option linter.unusedVariables false set_option linter.unusedSimpArgs false

theorem isB_of {S : ByteArray} {p b : Nat} (c : Nat) (hp : p < S.size) (h : byteAt S p = b) : isB S p c = decide (b = c) := by simp [isB, hp, h]
theorem isB_out {S : ByteArray} {p : Nat} (c : Nat) (hp : S.size ≤ p) : isB S p c = false := by simp [isB]; omega
theorem group_way {a S : ByteArray} {k p : Nat} {l : List Rx} {r : Rx} (hp : p < S.size) (hb : byteAt S p = 40) (h : Inside a S (p + 1)) (hs : a.size ≤ 50) (ha : parseM a = .ok r) (hk : 200 ≤ k)
    (h1 : isB S (p + a.size + 2) 42 = false) (h2 : isB S (p + a.size + 2) 43 = false) (h3 : isB S (p + a.size + 2) 63 = false) : wayB S (k + 1 + 1) l p = wayB S (k + 1) (l ++ [r]) (p + a.size + 2) := by
  have hr := (h.ways (k := 604) (by omega) ha (by omega)).2
  refine rway_step (by rw [hb]; simp [hp]) (ratom_group hp hb h (by omega) ha (by omega)) hr (rbehind_none h1 h2 h3)
theorem two_ways {S : ByteArray} {l m : List Rx} {q k j : Nat} (hs : S.size ≤ 200) (hq : isB S q 124 = true) (h : wayB S 603 [] 0 = wayB S (k + 1) l q) (h2 : wayB S 602 [] (q + 1) = wayB S (j + 1) m S.size) :
    parseM S = fitR (ofR 3 [ofR 2 l, ofR 2 m]) := by
  refine parse_of hs ?_
  have hb : byteAt S q = 124 := by simp [isB] at hq; exact hq.2
  have g1 : wayB S 603 [] 0 = some (.ok (ofR 2 l, q)) := h.trans (rway_end (.inr (.inl hb)))
  have g2 : wayB S 602 [] (q + 1) = some (.ok (ofR 2 m, S.size)) := h2.trans (rway_end (.inl (Nat.lt_irrefl _)))
  exact (rways_step g1).trans ((rwaysL_step hq g2).trans (rwaysL_end (isB_out _ (Nat.le_refl _))))

theorem parse_both {a b S : ByteArray} {ra rb : Rx} (ha : a.size ≤ 50) (hb : b.size ≤ 50) (hpa : parseM a = .ok ra) (hpb : parseM b = .ok rb) (hsz : S.size = a.size + b.size + 5) (h0 : byteAt S 0 = 40) (hI : Inside a S (0 + 1))
    (h2 : byteAt S (a.size + 2) = 124) (h3 : byteAt S (a.size + 3) = 40) (hJ : Inside b S (a.size + 4)) : parseM S = fitR (.mk 3 0 0 0 0 [ra, rb]) := by
  have e2 : ∀ c, isB S (0 + a.size + 2) c = decide (124 = c) := fun c => isB_of c (by omega) (by rw [Nat.zero_add]; exact h2)
  have g1 := group_way (k := 601) (l := []) (by omega) h0 hI ha hpa (by omega) (by rw [e2]; rfl) (by rw [e2]; rfl) (by rw [e2]; rfl)
  have o : ∀ c, isB S (0 + a.size + 2 + 1 + b.size + 2) c = false := fun c => isB_out c (by omega)
  have g2 := group_way (k := 600) (l := []) (p := 0 + a.size + 2 + 1) (by omega) (by rw [show 0 + a.size + 2 + 1 = a.size + 3 by omega]; exact h3) (by rw [show 0 + a.size + 2 + 1 + 1 = a.size + 4 by omega]; exact hJ) hb hpb (by omega) (o _) (o _) (o _)
  rw [show 0 + a.size + 2 + 1 + b.size + 2 = S.size by omega] at g2
  exact two_ways (by omega) (by rw [e2]; rfl) g1 g2
theorem or_lang (r q : Rx) (s : List Nat) : Rx.lang (.mk 3 0 0 0 0 [r, q]) s ↔ r.lang s ∨ q.lang s := by
  simp [Rx.lang, altL]
theorem byteAt_head (x a y : ByteArray) (j : Nat) (h : j < x.size) : byteAt (x ++ a ++ y) j = byteAt x j := by
  rw [byteAt_append, if_pos (by rw [ByteArray.size_append]; omega), byteAt_append, if_pos h]
theorem byteAt_tail (x a y : ByteArray) (i j : Nat) (h : i = x.size + a.size + j) : byteAt (x ++ a ++ y) i = byteAt y j := by
  subst h
  rw [byteAt_append, if_neg (by rw [ByteArray.size_append]; omega)]
  congr 1
  rw [ByteArray.size_append]; omega
end Go.Proofs.YtnenbihmokolpaaGreatDoor

namespace Go.Proofs.YtnenbihmokolpaaGreatDoor set_option linter.unusedVariables false set_option linter.unusedSimpArgs false

/-! ### Classes -/
def Fine (cls : List Nat) (q : Rx) : Prop := ∀ b c, b < 256 → c < 256 → cls.getD b 0 = cls.getD c 0 → q.has b = q.has c
theorem numsM_same {α : Type} [DecidableEq α] (f : Nat → α) {cls : List Nat} (hN : Normal cls) (hf : ∀ b c, b < 256 → c < 256 → (f b = f c ↔ cls.getD b 0 = cls.getD c 0)) :
    ∀ n, n ≤ 256 → (numsM f n).1 = (firstsM cls n).map f ∧ (numsM f n).2 = cls.take n := by
  intro n
  induction n with
  | zero => exact fun _ => ⟨rfl, rfl⟩
  | succ n ih =>
    intro hn
    obtain ⟨h1, h2⟩ := ih (by omega)
    have hcn := hN.2 n (by omega)
    have hat : cls[n]? = some (cls.getD n 0) := by
      rw [List.getD, List.getElem?_eq_getElem (show n < cls.length by rw [hN.1]; omega)]; rfl
    have htk : cls.take (n + 1) = cls.take n ++ [cls.getD n 0] := by rw [List.take_add_one, hat]; rfl
    by_cases he : cls.getD n 0 = (firstsM cls n).length
    · have hno : f n ∉ (firstsM cls n).map f := by
        intro hm
        obtain ⟨b, hb, e⟩ := List.mem_map.1 hm
        obtain ⟨i, hi, e2⟩ := List.getElem_of_mem hb
        have h3 := firsts_at cls n i hi
        rw [List.getD, List.getElem?_eq_getElem hi, Option.getD_some, e2] at h3
        have := (hf b n (by omega) (by omega)).1 e
        omega
      have hk : keyM (numsM f n).1 (f n) = ((firstsM cls n).map f ++ [f n], (firstsM cls n).length) := by rw [h1, keyM, if_neg hno, List.length_map]
      have hff : firstsM cls (n + 1) = firstsM cls n ++ [n] := by rw [firstsM, if_pos he]
      exact ⟨by rw [numsM, hk, hff, List.map_append]; rfl, by rw [numsM, hk, h2, htk, he]⟩
    · have hlt : cls.getD n 0 < (firstsM cls n).length := by omega
      obtain ⟨h3, h4⟩ := firsts_at cls n _ hlt
      have hk : (firstsM cls n).getD (cls.getD n 0) 0 = (firstsM cls n)[cls.getD n 0] := by rw [List.getD, List.getElem?_eq_getElem hlt]; rfl
      rw [hk] at h3 h4
      have hfe : f (firstsM cls n)[cls.getD n 0] = f n := (hf _ _ (by omega) (by omega)).2 h4
      have hyes : f n ∈ (firstsM cls n).map f := List.mem_map.2 ⟨_, List.getElem_mem hlt, hfe⟩
      have hidx : ((firstsM cls n).map f).idxOf (f n) = cls.getD n 0 := by
        have hl := List.idxOf_lt_length_of_mem hyes
        have hg : ((firstsM cls n).map f)[((firstsM cls n).map f).idxOf (f n)] = f n := List.getElem_idxOf hl
        rw [List.getElem_map] at hg
        have hl2 : ((firstsM cls n).map f).idxOf (f n) < (firstsM cls n).length := by rw [List.length_map] at hl; exact hl
        obtain ⟨h5, h6⟩ := firsts_at cls n _ hl2
        have hk2 : (firstsM cls n).getD (((firstsM cls n).map f).idxOf (f n)) 0 = (firstsM cls n)[((firstsM cls n).map f).idxOf (f n)] := by rw [List.getD, List.getElem?_eq_getElem hl2]; rfl
        rw [hk2] at h5 h6
        have := (hf _ _ (by omega) (by omega)).1 hg
        omega
      have hk : keyM (numsM f n).1 (f n) = ((firstsM cls n).map f, cls.getD n 0) := by rw [h1, keyM, if_pos hyes, hidx]
      have hff : firstsM cls (n + 1) = firstsM cls n := by rw [firstsM, if_neg he]
      exact ⟨by rw [numsM, hk, hff], by rw [numsM, hk, h2, htk]⟩
theorem split_same {cls : List Nat} (hN : Normal cls) {r : Rx} (h : Fine cls r) : splitB cls r = cls := by
  have h1 := (numsM_same (pairOf cls r) hN (fun b c hb hc => by
    simp only [pairOf, Prod.mk.injEq]
    exact ⟨fun e => e.1, fun e => ⟨e, h b c hb hc e⟩⟩) 256 (Nat.le_refl _)).2
  rw [splitB, h1, List.take_of_length_le (by rw [hN.1]; exact Nat.le_refl _)]
mutual
theorem split_id : ∀ (r : Rx) (cls : List Nat), Normal cls → (∀ q, Leaf q r → Fine cls q) → splitM cls r = cls
  | .mk k b0 b1 b2 b3 kids, cls, hN, h => by
    rw [splitM]
    by_cases hk : k = 1
    · rw [if_pos hk]
      exact split_same hN (h _ (by rw [Leaf]; exact .inl ⟨hk, rfl⟩))
    · rw [if_neg hk]
      exact splits_id kids cls hN (fun q hq => h q (by rw [Leaf]; exact .inr ⟨hk, hq⟩))
theorem splits_id : ∀ (l : List Rx) (cls : List Nat), Normal cls → (∀ q, LeafL q l → Fine cls q) → splitsM cls l = cls
  | [], cls, _, _ => rfl
  | r :: rs, cls, hN, h => by
    rw [splitsM, split_id r cls hN (fun q hq => h q (by rw [LeafL]; exact .inl hq))]
    exact splits_id rs cls hN (fun q hq => h q (by rw [LeafL]; exact .inr hq))
end
def alt2 (r : Rx) : Rx := .mk 3 0 0 0 0 [r, r]
theorem split_alt2 (r : Rx) {cls : List Nat} (hN : Normal cls) : splitM cls (alt2 r) = splitM cls r := by
  rw [alt2, splitM, if_neg (by decide)]
  show splitM (splitM cls r) r = _
  exact split_id r _ (normal_splitM r cls hN) (fun q hq b c hb hc he => (split_fine r cls b c hb hc he).2 q hq)
/-- One by one the same, or the same twice. -/
inductive Twin : List Rx → List Rx → Prop
  | nil : Twin [] []
  | same (r : Rx) {l m : List Rx} : Twin l m → Twin (r :: l) (r :: m)
  | alt (r : Rx) {l m : List Rx} : Twin l m → Twin (r :: l) (alt2 r :: m)
theorem Twin.length {l m : List Rx} (h : Twin l m) : l.length = m.length := by
  induction h with
  | nil => rfl
  | same _ _ ih => simp [ih]
  | alt _ _ ih => simp [ih]
theorem Twin.splits {l m : List Rx} (h : Twin l m) : ∀ cls, Normal cls → splitsM cls m = splitsM cls l := by
  induction h with
  | nil => exact fun _ _ => rfl
  | same r _ ih => exact fun cls hN => ih _ (normal_splitM r cls hN)
  | alt r _ ih =>
    intro cls hN
    show splitsM (splitM cls (alt2 r)) _ = splitsM (splitM cls r) _
    rw [split_alt2 r hN]
    exact ih _ (normal_splitM r cls hN)
theorem Twin.classes {l m : List Rx} (h : Twin l m) : classesM m = classesM l := h.splits _ normal_zero
theorem alt2_lang (r : Rx) (s : List Nat) : (alt2 r).lang s ↔ r.lang s := by rw [alt2, or_lang]; exact or_self_iff
theorem Twin.lang {l m : List Rx} (h : Twin l m) (s : List Nat) : ∀ t : Nat, (∃ r, m[t]? = some r ∧ r.lang s) ↔ ∃ r, l[t]? = some r ∧ r.lang s := by
  induction h with
  | nil => exact fun t => Iff.rfl
  | same r _ ih =>
    intro t
    cases t with
    | zero => exact Iff.rfl
    | succ t => simpa using ih t
  | alt r _ ih =>
    intro t
    cases t with
    | zero =>
      simp only [List.getElem?_cons_zero, Option.some.injEq, exists_eq_left']
      exact alt2_lang r s
    | succ t => simpa using ih t

/-! ### Automata -/
theorem dfaX_width {rs : List Rx} {D : Dfa} (h : dfaX rs = some D) : ∃ n, DV D n (firstsM (classesM rs) 256).length ∧ n ≤ 2002 ∧ (∀ t ∈ D.tags, t < 18446744073709551616) ∧ D.cls = ints (classesM rs) := by
  obtain ⟨n, k, hv, hn, hk, ht, hc⟩ := dfaX_dv h
  have hw : (D.next.getD 0 []).length = (firstsM (classesM rs) 256).length := by
    unfold dfaX at h
    split at h
    · cases h
    · unfold dfaM dfaOf at h
      split at h
      · rename_i hb
        obtain rfl := built_closed_ne hb
        obtain rfl := Option.some.inj h
        have : (firstsM (classesM []) 256).length = 1 := by decide +kernel
        rw [this]; rfl
      · rename_i hb
        cases he : endD (buildM rs 0 [] []).1 (firstsM (classesM rs) 256) (closedM (buildM rs 0 [] []).1 (ints (buildM rs 0 [] []).2)) 2002 0 with
        | none => rw [he] at h; simp at h
        | some m =>
          rw [he] at h
          have hD := Option.some.inj h
          subst hD
          obtain ⟨hr, hm⟩ := endD_some hb 2002 0 m (rounds_zero _ _ _ hb) he
          have hpos : 0 < m := by
            obtain ⟨m2, hm2⟩ := rounds_begin (buildM rs 0 [] []).1 (firstsM (classesM rs) 256) (closedM (buildM rs 0 [] []).1 (ints (buildM rs 0 [] []).2)) m
            rw [hm2] at hm
            simp at hm; omega
          exact hr.row 0 hpos
  have := (hv.rowAt hv.pos).1
  rw [hw] at this
  rw [this]
  exact ⟨n, hv, hn, ht, hc⟩
theorem beh_wide {D : Dfa} {n k : Nat} (hv : DV D n k) : ∀ (cs : List Nat) (q : Int), q < n → (∃ c ∈ cs, k ≤ c) → behD D q cs = 0 := by
  intro cs
  induction cs with
  | nil => intro q _ h; obtain ⟨c, hc, _⟩ := h; cases hc
  | cons c cs ih =>
    intro q hq h
    rw [beh_cons]
    by_cases hc : k ≤ c
    · refine beh_neg D cs ?_
      unfold toD
      split
      · omega
      · rename_i h0
        obtain ⟨i, rfl⟩ := Int.eq_ofNat_of_zero_le (show 0 ≤ q by omega)
        rw [Int.toNat_natCast, getD_ge (by rw [(hv.rowAt (show i < n by omega)).1]; exact hc)]
        decide
    · refine ih _ (hv.to_lt hq c).2 ?_
      obtain ⟨d, hd, hk⟩ := h
      rcases List.mem_cons.1 hd with rfl | hd
      · exact absurd hk hc
      · exact ⟨d, hd, hk⟩
theorem eqd_of_run {D E : Dfa} {n m : Nat} {cls : List Nat} (hD : DV D n (firstsM cls 256).length) (hE : DV E m (firstsM cls 256).length) (hl : cls.length = 256) (cD : D.cls = ints cls) (cE : E.cls = ints cls)
    (h : ∀ bs : List Nat, (∀ b ∈ bs, b < 256) → runD D bs = runD E bs) : EqD D 0 E 0 := by
  intro cs
  by_cases hw : ∃ c ∈ cs, (firstsM cls 256).length ≤ c
  · rw [beh_wide hD cs 0 (by have := hD.pos; omega) hw, beh_wide hE cs 0 (by have := hE.pos; omega) hw]
  · have hsmall : ∀ c ∈ cs, c < (firstsM cls 256).length := fun c hc => Nat.lt_of_not_le fun hge => hw ⟨c, hc, hge⟩
    obtain ⟨bs, hb1, hb2⟩ : ∃ bs : List Nat, (∀ b ∈ bs, b < 256) ∧ (bs.map fun b => (((ints cls).getD b 0).toNat)) = cs := by
      refine ⟨cs.map fun c => (firstsM cls 256).getD c 0, fun b hb => ?_, ?_⟩
      · obtain ⟨c, hc, rfl⟩ := List.mem_map.1 hb
        exact (firsts_at cls 256 c (hsmall c hc)).1
      · rw [List.map_map]
        refine (List.map_congr_left fun c hc => ?_).trans (List.map_id cs)
        obtain ⟨h1, h2⟩ := firsts_at cls 256 c (hsmall c hc)
        show ((ints cls).getD ((firstsM cls 256).getD c 0) 0).toNat = c
        have e : (ints cls).getD ((firstsM cls 256).getD c 0) 0 = ((cls.getD ((firstsM cls 256).getD c 0) 0 : Nat) : Int) := by
          have hx : (firstsM cls 256).getD c 0 < cls.length := by omega
          obtain ⟨j, hj⟩ : ∃ j, (firstsM cls 256).getD c 0 = j := ⟨_, rfl⟩
          rw [hj] at hx ⊢
          simp [ints, List.getD, List.getElem?_eq_getElem hx]
        rw [e, h2]; rfl
    have h1 := hD.run (by rw [cD, ints_length]; exact hl) bs hb1
    have h2 := hE.run (by rw [cE, ints_length]; exact hl) bs hb1
    rw [cD, hb2] at h1
    rw [cE, hb2] at h2
    rw [← h1, ← h2, h bs hb1]
theorem Twin.least {l m : List Rx} (h : Twin l m) {D E : Dfa} (hD : dfaX l = some D) (hE : dfaX m = some E) : leastM E = leastM D := by
  obtain ⟨n, v1, _, _, c1⟩ := dfaX_width hD
  obtain ⟨n', v2, _, _, c2⟩ := dfaX_width hE
  rw [h.classes] at v2 c2
  have hN := normal_classes l
  refine (least_canon v1 v2 (eqd_of_run v1 v2 hN.1 c1 c2 fun bs hb => ?_) (by rw [c1, c2])).symm
  have d1 : dfaM l = some D := by
    unfold dfaX at hD
    split at hD
    · cases hD
    · exact hD
  have d2 : dfaM m = some E := by
    unfold dfaX at hE
    split at hE
    · cases hE
    · exact hE
  have h60 : l.length ≤ 64 := by
    unfold dfaX at hD
    split at hD
    · cases hD
    · omega
  rw [dfa_run l d1 bs hb, dfa_run m d2 bs hb]
  apply Nat.eq_of_testBit_eq
  intro t
  rw [Bool.eq_iff_iff, run_lang l h60, run_lang m (by rw [← h.length]; exact h60)]
  exact (h.lang bs t).symm

/-! ### Texts -/
def twiceS (z : ByteArray) : ByteArray := ⟨#[40]⟩ ++ z ++ ⟨#[41, 124, 40]⟩ ++ z ++ ⟨#[41]⟩
theorem parse_twice {z : ByteArray} {r : Rx} (hz : z.size ≤ 50) (hp : parseM z = .ok r) : parseM (twiceS z) = fitR (alt2 r) := by
  have hsz : (twiceS z).size = z.size + z.size + 5 := by
    simp only [twiceS, ByteArray.size_append]
    show 1 + z.size + 3 + z.size + 1 = _
    omega
  have e1 : twiceS z = ⟨#[40]⟩ ++ z ++ (⟨#[41, 124, 40]⟩ ++ z ++ ⟨#[41]⟩) := by simp only [twiceS, ByteArray.append_assoc]
  have e2 : twiceS z = (⟨#[40]⟩ ++ z ++ ⟨#[41, 124, 40]⟩) ++ z ++ ⟨#[41]⟩ := rfl
  have s1 : (⟨#[40]⟩ ++ z ++ ⟨#[41, 124, 40]⟩ : ByteArray).size = z.size + 4 := by
    simp only [ByteArray.size_append]
    show 1 + z.size + 3 = _
    omega
  have b41 : byteAt (⟨#[41, 124, 40]⟩ ++ z ++ ⟨#[41]⟩) 0 = 41 := by
    rw [byteAt_head _ _ _ _ (by decide)]; rfl
  have hI : Inside z (twiceS z) (0 + 1) := by
    rw [e1]
    exact Inside.mk_ ⟨#[40]⟩ z _ (by simp only [ByteArray.size_append]; show 0 < 3 + z.size + 1; omega) b41
  have hJ : Inside z (twiceS z) (z.size + 4) := by
    rw [e2]
    have := Inside.mk_ (⟨#[40]⟩ ++ z ++ ⟨#[41, 124, 40]⟩) z ⟨#[41]⟩ (by decide) rfl
    rw [s1] at this
    exact this
  refine parse_both (a := z) (b := z) hz hz hp hp hsz ?_ hI ?_ ?_ hJ
  · rw [e1, byteAt_head _ _ _ _ (by decide)]; rfl
  · rw [e1, byteAt_tail ⟨#[40]⟩ z _ (z.size + 2) 1 (by show z.size + 2 = 1 + z.size + 1; omega), byteAt_head _ _ _ _ (by decide)]; rfl
  · rw [e1, byteAt_tail ⟨#[40]⟩ z _ (z.size + 3) 2 (by show z.size + 3 = 1 + z.size + 2; omega), byteAt_head _ _ _ _ (by decide)]; rfl
/-- The second row of texts, made of the first. -/
inductive TwinS : List ByteArray → List ByteArray → Prop
  | nil : TwinS [] []
  | same (z : ByteArray) {l m : List ByteArray} : TwinS l m → TwinS (l ++ [z]) (m ++ [z])
  | alt (z : ByteArray) {l m : List ByteArray} : TwinS l m → TwinS (l ++ [z]) (m ++ [twiceS z])
end Go.Proofs.YtnenbihmokolpaaGreatDoor

namespace Go.Proofs.YtnenbihmokolpaaGreatDoor set_option linter.unusedVariables false set_option linter.unusedSimpArgs false

theorem Twin.snoc_same {l m : List Rx} (h : Twin l m) (r : Rx) : Twin (l ++ [r]) (m ++ [r]) := by
  induction h with
  | nil => exact .same r .nil
  | same q _ ih => exact .same q ih
  | alt q _ ih => exact .alt q ih
theorem Twin.snoc_alt {l m : List Rx} (h : Twin l m) (r : Rx) : Twin (l ++ [r]) (m ++ [alt2 r]) := by
  induction h with
  | nil => exact .alt r .nil
  | same q _ ih => exact .same q ih
  | alt q _ ih => exact .alt q ih
theorem parsedM_ok (zs : List ByteArray) {z : ByteArray} {r : Rx} (h : parseM z = .ok r) : parsedM (zs ++ [z]) = parsedM zs ++ [r] := by
  rw [parsedM_snoc, okM, h]
theorem firstE_ok (zs : List ByteArray) {z : ByteArray} {r : Rx} (h : parseM z = .ok r) : firstE (zs ++ [z]) = firstE zs := by
  rw [firstE_append]
  cases h1 : firstE zs with
  | some n => rfl
  | none => simp only [firstE, h]
theorem TwinS.parsed {zs tw : List ByteArray} (h : TwinS zs tw) : (∀ z ∈ zs, z.size ≤ 50 ∧ ∃ r, parseM z = .ok r) → firstE zs = none ∧ (firstE tw = some 4 ∨ (firstE tw = none ∧ Twin (parsedM zs) (parsedM tw))) := by
  induction h with
  | nil => exact fun _ => ⟨rfl, .inr ⟨rfl, .nil⟩⟩
  | same z _ ih =>
    intro hz
    obtain ⟨h1, h2⟩ := ih (fun y hy => hz y (List.mem_append_left _ hy))
    obtain ⟨_, r, hr⟩ := hz z (by simp)
    refine ⟨by rw [firstE_ok _ hr]; exact h1, ?_⟩
    rw [firstE_ok _ hr, parsedM_ok _ hr, parsedM_ok _ hr]
    exact h2.imp id fun q => ⟨q.1, q.2.snoc_same r⟩
  | alt z _ ih =>
    intro hz
    obtain ⟨h1, h2⟩ := ih (fun y hy => hz y (List.mem_append_left _ hy))
    obtain ⟨hs, r, hr⟩ := hz z (by simp)
    refine ⟨by rw [firstE_ok _ hr]; exact h1, ?_⟩
    have h3 := parse_twice hs hr
    rcases fitR_two (alt2 r) with h4 | h4
    · rw [h4] at h3
      rw [firstE_ok _ h3, parsedM_ok _ hr, parsedM_ok _ h3]
      exact h2.imp id fun q => ⟨q.1, q.2.snoc_alt r⟩
    · rw [h4] at h3
      refine .inl ?_
      rw [firstE_append]
      rcases h2 with h2 | ⟨h2, _⟩
      · rw [h2]
      · rw [h2]
        simp only [firstE, h3]
/-- What both come to. -/
theorem TwinS.of {zs tw : List ByteArray} (h : TwinS zs tw) (hz : ∀ z ∈ zs, z.size ≤ 50 ∧ ∃ r, parseM z = .ok r) :
    ofM zs = .error 4 ∨ ∃ D, ofM zs = .ok D ∧ (ofM tw = .error 4 ∨ ofM tw = .ok D) := by
  obtain ⟨h1, h2⟩ := h.parsed hz
  unfold ofM
  rw [h1]
  cases hD : dfaX (parsedM zs) with
  | none => exact .inl rfl
  | some D =>
    refine .inr ⟨leastM D, rfl, ?_⟩
    rcases h2 with h2 | ⟨h2, h3⟩
    · rw [h2]; exact .inl rfl
    · rw [h2]
      cases hE : dfaX (parsedM tw) with
      | none => exact .inl rfl
      | some E => exact .inr (by show Except.ok (leastM E) = _; rw [h3.least hD hE])
theorem TwinS.length {zs tw : List ByteArray} (h : TwinS zs tw) : zs.length = tw.length := by
  induction h with
  | nil => rfl
  | same _ _ ih => simp [ih]
  | alt _ _ ih => simp [ih]
theorem TwinS.sizes {zs tw : List ByteArray} (h : TwinS zs tw) {m : Nat} : (∀ z ∈ zs, z.size ≤ m) → ∀ z ∈ tw, z.size ≤ m + m + 5 := by
  induction h with
  | nil => exact fun _ z hz => by cases hz
  | same y _ ih =>
    intro hz z h1
    rcases List.mem_append.1 h1 with h1 | h1
    · exact ih (fun x hx => hz x (List.mem_append_left _ hx)) z h1
    · have e : z = y := by simpa using h1
      have := hz y (by simp)
      rw [e]; omega
  | alt y _ ih =>
    intro hz z h1
    rcases List.mem_append.1 h1 with h1 | h1
    · exact ih (fun x hx => hz x (List.mem_append_left _ hx)) z h1
    · have e : z = twiceS y := by simpa using h1
      have := hz y (by simp)
      have h2 : (twiceS y).size = y.size + y.size + 5 := by
        simp only [twiceS, ByteArray.size_append]
        show 1 + y.size + 3 + y.size + 1 = _
        omega
      rw [e, h2]; omega
/-- What mini.Of makes is the least one. -/
theorem ofM_least {zs : List ByteArray} {D : Dfa} (h : ofM zs = .ok D) : ∃ n k, DV D n k ∧ n ≤ 2002 ∧ k ≤ 256 ∧ (∀ t ∈ D.tags, t < 18446744073709551616) ∧ D.cls.length = 256 ∧ leastM D = D := by
  unfold ofM at h
  split at h
  · cases h
  · split at h
    · cases h
    · rename_i D0 hD
      have h := Except.ok.inj h
      obtain ⟨n, k, hv, hn, hk, ht, hc⟩ := dfaX_dv hD
      obtain ⟨N, S, hm⟩ := least_ok hv (by omega)
      have h3 := least_least hv (by omega)
      have h4 := least_tags hv (by omega) (by decide) ht
      rw [h] at hm h3 h4
      refine ⟨N, k, hm.dv, by have := hm.le; omega, hk, h4, ?_, h3⟩
      rw [hm.cls, hc, ints_length]
      exact (normal_classes _).1
end Go.Proofs.YtnenbihmokolpaaGreatDoor
