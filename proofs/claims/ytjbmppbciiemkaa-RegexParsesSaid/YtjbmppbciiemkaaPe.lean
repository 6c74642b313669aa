/-
  Plain facts on the reader's model: enough rounds are enough.
  Plain facts on the reader's model: which errors there are.
-/
import Derived.Test.YtjbmppbciiemkaaPl
namespace Go.Proofs.Ytjbmppbciiemkaa set_option linter.unusedVariables false set_option linter.unusedSimpArgs false

theorem classL_total {s : ByteArray} (k : Nat) : ∀ (x : Bs) (p : Nat), p ≤ s.size → s.size - p + 1 ≤ k → classL s k x p ≠ none := by
  induction k with
  | zero => intro x p _ h; omega
  | succ k ih =>
    intro x p hp hk
    simp only [classL]
    cases h93 : isB s p 93 with
    | true => simp
    | false =>
      simp only [Bool.false_eq_true, if_false]
      cases h1 : oneB s p with
      | error n => simp
      | ok z =>
        obtain ⟨lo, q1⟩ := z
        have g1 := oneB_at h1
        cases h45 : isB s q1 45 with
        | true =>
          simp only [h45, if_true]
          cases h2 : oneB s (q1 + 1) with
          | error n => simp
          | ok z =>
            obtain ⟨hi, q2⟩ := z
            have g2 := oneB_at h2
            simp only []
            split
            · simp
            · exact ih _ _ (by omega) (by omega)
        | false =>
          simp only [h45, Bool.false_eq_true, if_false, Nat.lt_irrefl]
          exact ih _ _ (by omega) (by omega)
theorem classB_total {s : ByteArray} {k p : Nat} (hp : p ≤ s.size) (hk : s.size - p + 1 ≤ k) : classB s k p ≠ none := by
  simp only [classB]
  cases hn : isB s p 94 with
  | true =>
    have := isB_at hn
    have h := classL_total (s := s) k Bs.zero (p + 1) (by omega) (by omega)
    simp only [if_true]
    split
    · contradiction
    · simp
    · simp
  | false =>
    have h := classL_total (s := s) k Bs.zero p hp hk
    simp only [Bool.false_eq_true, if_false]
    split
    · contradiction
    · simp
    · simp
theorem behindB_total {s : ByteArray} (k : Nat) : ∀ (r : Rx) (p : Nat), p ≤ s.size → s.size - p + 1 ≤ k → behindB s k r p ≠ none := by
  induction k with
  | zero => intro r p _ h; omega
  | succ k ih =>
    intro r p hp hk
    have key : ∀ (x : Rx) (b : Nat), isB s p b = true → (match fitR x with | .error e => some (.error e) | .ok y => behindB s k y (p + 1)) ≠ none := by
      intro x b hb
      have := isB_at hb
      cases hf : fitR x with
      | error e => simp
      | ok y => exact ih y (p + 1) (by omega) (by omega)
    simp only [behindB]
    split
    · exact key _ 42 (by assumption)
    · split
      · exact key _ 43 (by assumption)
      · split
        · exact key _ 63 (by assumption)
        · simp
theorem all_total {s : ByteArray} (hs : s.size ≤ 1000) (k : Nat) :
    (∀ (p : Nat), p ≤ s.size → 3 * (s.size - p) + 3 ≤ k → waysB s k p ≠ none) ∧
    (∀ (l : List Rx) (p : Nat), p ≤ s.size → 3 * (s.size - p) + 1 ≤ k → l.length ≤ p + 1 → (∀ x ∈ l, Rx.size x ≤ 500001) → waysL s k l p ≠ none) ∧
    (∀ (l : List Rx) (p : Nat), p ≤ s.size → 3 * (s.size - p) + 2 ≤ k → l.length ≤ p → (∀ x ∈ l, Rx.size x ≤ 500) → wayB s k l p ≠ none) ∧
    (∀ (p : Nat), p ≤ s.size → 3 * (s.size - p) + 1 ≤ k → atomB s k p ≠ none) := by
  induction k with
  | zero =>
    refine ⟨?_, ?_, ?_, ?_⟩
    · intro p _ h; omega
    · intro l p _ h; omega
    · intro l p _ h; omega
    · intro p _ h; omega
  | succ k ih =>
    obtain ⟨ih1, ih2, ih3, ih4⟩ := ih
    obtain ⟨a1, a2, a3, a4⟩ := all_at hs k
    refine ⟨?_, ?_, ?_, ?_⟩
    · intro p hp hk
      simp only [waysB]
      split
      · rename_i hw
        exact absurd hw (ih3 [] p hp (by omega) (by simp) (by simp))
      · simp
      · rename_i r1 q1 hw
        have g1 := a3 [] p q1 r1 hp (by simp) (by simp) hw
        exact ih2 [r1] q1 (by omega) (by omega) (by simp) (by simp; omega)
    · intro l p hp hk hl hx
      simp only [waysL]
      cases h124 : isB s p 124 with
      | true =>
        have hlt := isB_at h124
        simp only [if_true]
        split
        · rename_i hw
          exact absurd hw (ih3 [] (p + 1) (by omega) (by omega) (by simp) (by simp))
        · simp
        · rename_i r1 q1 hw
          have g1 := a3 [] (p + 1) q1 r1 (by omega) (by simp) (by simp) hw
          exact ih2 (l ++ [r1]) q1 (by omega) (by omega) (by simp; omega) (by
            intro x hx'
            rcases List.mem_append.1 hx' with h' | h'
            · exact hx x h'
            · simp at h'; subst h'; exact g1.2.2)
      | false => simp
    · intro l p hp hk hl hx
      simp only [wayB]
      split
      · simp
      · rename_i hex
        split
        · rename_i hw
          exact absurd hw (ih4 p hp (by omega))
        · simp
        · rename_i r1 q1 hw
          have g1 := a4 p q1 r1 hp hw
          split
          · simp
          · rename_i r2 hf
            have gf := fitR_at hf
            split
            · rename_i hb
              exact absurd hb (behindB_total k r2 q1 (by omega) (by omega))
            · simp
            · rename_i r3 q3 hb
              have gb := behindB_at k r2 r3 q1 q3 (by omega) (by rw [gf.1]; exact gf.2) hb
              exact ih3 (l ++ [r3]) q3 (by omega) (by omega) (by simp; omega) (by
                intro x hx'
                rcases List.mem_append.1 hx' with h' | h'
                · exact hx x h'
                · simp at h'; subst h'; exact gb.2.2)
    · intro p hp hk
      simp only [atomB]
      cases hn : nextB s p with
      | error n => simp
      | ok y =>
        obtain ⟨b, q0⟩ := y
        have g0 := nextB_at hn
        simp only []
        split
        · split
          · rename_i hw
            exact absurd hw (ih1 q0 (by omega) (by omega))
          · simp
          · split
            · simp
            · simp
        · split
          · exact classB_total (by omega) (by omega)
          · split
            · simp
            · split
              · cases hc : charB s q0 with
                | error n => simp
                | ok z => simp
              · split
                · simp
                · simp
/-- Parse's model with rounds enough. -/
def parseM (s : ByteArray) : Except Int Rx := (parseB s 604).getD (.error 0)
theorem parseB_total (s : ByteArray) : parseB s 604 = some (parseM s) := by
  have : parseB s 604 ≠ none := by
    unfold parseB
    split
    · simp
    · have hw := (all_total (s := s) (by omega) 604).1 0 (Nat.zero_le _) (by omega)
      split
      · contradiction
      · simp
      · split
        · simp
        · split
          · simp
          · simp
  unfold parseM
  cases h : parseB s 604 with
  | none => exact absurd h this
  | some m => rfl
end Go.Proofs.Ytjbmppbciiemkaa

namespace Go.Proofs.Ytjbmppbciiemkaa set_option linter.unusedVariables false set_option linter.unusedSimpArgs false

theorem nextB_err {s : ByteArray} {p : Nat} {n : Int} (h : nextB s p = .error n) : n = 5 := by
  unfold nextB at h
  split at h <;> cases h
  rfl
theorem digitB_err {s : ByteArray} {p : Nat} {n : Int} (h : digitB s p = .error n) : n = 5 := by
  unfold digitB at h
  split at h
  · rename_i e he; cases h; exact nextB_err he
  · split at h <;> cases h
    rfl
theorem charB_err {s : ByteArray} {p : Nat} {n : Int} (h : charB s p = .error n) : n = 5 := by
  unfold charB at h
  split at h
  · rename_i e he; cases h; exact nextB_err he
  · split at h
    · cases h
    · split at h
      · split at h
        · rename_i e he; cases h; exact digitB_err he
        · split at h
          · rename_i e he; cases h; exact digitB_err he
          · cases h
      · split at h <;> cases h
        rfl
theorem oneB_err {s : ByteArray} {p : Nat} {n : Int} (h : oneB s p = .error n) : n = 5 := by
  unfold oneB at h
  split at h
  · exact charB_err h
  · split at h
    · rename_i e he; cases h; exact nextB_err he
    · split at h <;> cases h
      rfl
theorem classL_err {s : ByteArray} (k : Nat) : ∀ (x : Bs) (p : Nat) (n : Int), classL s k x p = some (.error n) → n = 5 := by
  induction k with
  | zero => intro x p n h; simp [classL] at h
  | succ k ih =>
    intro x p n h
    simp only [classL] at h
    split at h
    · simp at h
    · split at h
      · rename_i e he; simp at h; subst h; exact oneB_err he
      · rename_i lo q he
        split at h
        · rename_i e he2
          simp at h; subst h
          split at he2
          · exact oneB_err he2
          · cases he2
        · split at h
          · simp at h; exact h.symm
          · exact ih _ _ _ h
theorem classB_err {s : ByteArray} {k p : Nat} {n : Int} (h : classB s k p = some (.error n)) : n = 5 := by
  simp only [classB] at h
  split at h
  · cases h
  · rename_i e he; simp at h; subst h; exact classL_err k _ _ _ he
  · simp at h
theorem fitR_err {r : Rx} {n : Int} (h : fitR r = .error n) : n = 4 := by
  unfold fitR at h
  split at h <;> cases h
  rfl
theorem behindB_err {s : ByteArray} (k : Nat) : ∀ (r : Rx) (p : Nat) (n : Int), behindB s k r p = some (.error n) → n = 4 := by
  induction k with
  | zero => intro r p n h; simp [behindB] at h
  | succ k ih =>
    intro r p n h
    simp only [behindB] at h
    split at h
    · split at h
      · rename_i e he; simp at h; subst h; exact fitR_err he
      · exact ih _ _ _ h
    · split at h
      · split at h
        · rename_i e he; simp at h; subst h; exact fitR_err he
        · exact ih _ _ _ h
      · split at h
        · split at h
          · rename_i e he; simp at h; subst h; exact fitR_err he
          · exact ih _ _ _ h
        · simp at h
theorem all_err {s : ByteArray} (k : Nat) : (∀ p n, waysB s k p = some (.error n) → n = 4 ∨ n = 5) ∧ (∀ l p n, waysL s k l p = some (.error n) → n = 4 ∨ n = 5) ∧
    (∀ l p n, wayB s k l p = some (.error n) → n = 4 ∨ n = 5) ∧ (∀ p n, atomB s k p = some (.error n) → n = 4 ∨ n = 5) := by
  induction k with
  | zero => exact ⟨fun p n h => by simp [waysB] at h, fun l p n h => by simp [waysL] at h, fun l p n h => by simp [wayB] at h, fun p n h => by simp [atomB] at h⟩
  | succ k ih =>
    obtain ⟨i1, i2, i3, i4⟩ := ih
    refine ⟨fun p n h => ?_, fun l p n h => ?_, fun l p n h => ?_, fun p n h => ?_⟩
    · simp only [waysB] at h
      split at h
      · cases h
      · rename_i e he; simp at h; subst h; exact i3 _ _ _ he
      · exact i2 _ _ _ h
    · simp only [waysL] at h
      split at h
      · split at h
        · cases h
        · rename_i e he; simp at h; subst h; exact i3 _ _ _ he
        · exact i2 _ _ _ h
      · simp at h
    · simp only [wayB] at h
      split at h
      · simp at h
      · split at h
        · cases h
        · rename_i e he; simp at h; subst h; exact i4 _ _ he
        · split at h
          · rename_i e he; simp at h; subst h; exact .inl (fitR_err he)
          · split at h
            · cases h
            · rename_i e he; simp at h; subst h; exact .inl (behindB_err k _ _ _ he)
            · exact i3 _ _ _ h
    · simp only [atomB] at h
      split at h
      · rename_i e he; simp at h; subst h; exact .inr (nextB_err he)
      · split at h
        · split at h
          · cases h
          · rename_i e he; simp at h; subst h; exact i1 _ _ he
          · split at h
            · simp at h
            · simp at h; exact .inr h.symm
        · split at h
          · exact .inr (classB_err h)
          · split at h
            · simp at h
            · split at h
              · split at h
                · rename_i e he; simp at h; subst h; exact .inr (charB_err he)
                · simp at h
              · split at h
                · simp at h; exact .inr h.symm
                · simp at h
theorem parseM_err {s : ByteArray} {n : Int} (h : parseM s = .error n) : n = 4 ∨ n = 5 := by
  have hb := parseB_total s
  rw [h] at hb
  unfold parseB at hb
  split at hb
  · simp at hb; exact .inl hb.symm
  · split at hb
    · cases hb
    · rename_i e he; simp at hb; subst hb; exact (all_err 604).1 _ _ he
    · split at hb
      · simp at hb; exact .inr hb.symm
      · split at hb
        · rename_i e he; simp at hb; subst hb; exact .inl (fitR_err he)
        · simp at hb
theorem parseM_size {s : ByteArray} {r : Rx} (h : parseM s = .ok r) : r.size ≤ 500 ∧ s.size ≤ 200 := by
  have hb := parseB_total s
  rw [h] at hb
  unfold parseB at hb
  split at hb
  · simp at hb
  · split at hb
    · cases hb
    · simp at hb
    · split at hb
      · simp at hb
      · split at hb
        · simp at hb
        · rename_i r' hf
          have := fitR_at hf
          simp at hb
          subst hb
          rw [this.1]
          exact ⟨this.2, by omega⟩
end Go.Proofs.Ytjbmppbciiemkaa
