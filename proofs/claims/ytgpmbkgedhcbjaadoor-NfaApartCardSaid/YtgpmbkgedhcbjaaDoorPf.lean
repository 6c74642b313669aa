/-
  Plain facts on the reader's model: enough rounds are enough.
-/
import Derived.Test.YtgpmbkgedhcbjaaDoorPl
namespace Go.Proofs.YtgpmbkgedhcbjaaDoor

theorem classL_total {s : ByteArray} (k : Nat) : ∀ (x : Bs) (p : Nat), p ≤ s.size → s.size - p + 1 ≤ k → classL s k x p ≠ none := by
  induction k with
  | zero => intro x p _ h; omega
  | succ k ih =>
    intro x p hp hk
    simp only [classL]
    cases h93 : isB s p 93 with
    | true => simp
    | false =>
      simp only [Bool.false_eq_true, if_false]
      cases h1 : oneB s p with
      | error n => simp
      | ok z =>
        obtain ⟨lo, q1⟩ := z
        have g1 := oneB_at h1
        cases h45 : isB s q1 45 with
        | true =>
          simp only [h45, if_true]
          cases h2 : oneB s (q1 + 1) with
          | error n => simp
          | ok z =>
            obtain ⟨hi, q2⟩ := z
            have g2 := oneB_at h2
            simp only []
            split
            · simp
            · exact ih _ _ (by omega) (by omega)
        | false =>
          simp only [h45, Bool.false_eq_true, if_false, Nat.lt_irrefl]
          exact ih _ _ (by omega) (by omega)
theorem classB_total {s : ByteArray} {k p : Nat} (hp : p ≤ s.size) (hk : s.size - p + 1 ≤ k) : classB s k p ≠ none := by
  simp only [classB]
  cases hn : isB s p 94 with
  | true =>
    have := isB_at hn
    have h := classL_total (s := s) k Bs.zero (p + 1) (by omega) (by omega)
    simp only [if_true]
    split
    · contradiction
    · simp
    · simp
  | false =>
    have h := classL_total (s := s) k Bs.zero p hp hk
    simp only [Bool.false_eq_true, if_false]
    split
    · contradiction
    · simp
    · simp
theorem behindB_total {s : ByteArray} (k : Nat) : ∀ (r : Rx) (p : Nat), p ≤ s.size → s.size - p + 1 ≤ k → behindB s k r p ≠ none := by
  induction k with
  | zero => intro r p _ h; omega
  | succ k ih =>
    intro r p hp hk
    have key : ∀ (x : Rx) (b : Nat), isB s p b = true → (match fitR x with | .error e => some (.error e) | .ok y => behindB s k y (p + 1)) ≠ none := by
      intro x b hb
      have := isB_at hb
      cases hf : fitR x with
      | error e => simp
      | ok y => exact ih y (p + 1) (by omega) (by omega)
    simp only [behindB]
    split
    · exact key _ 42 (by assumption)
    · split
      · exact key _ 43 (by assumption)
      · split
        · exact key _ 63 (by assumption)
        · simp
theorem all_total {s : ByteArray} (hs : s.size ≤ 1000) (k : Nat) :
    (∀ (p : Nat), p ≤ s.size → 3 * (s.size - p) + 3 ≤ k → waysB s k p ≠ none) ∧
    (∀ (l : List Rx) (p : Nat), p ≤ s.size → 3 * (s.size - p) + 1 ≤ k → l.length ≤ p + 1 → (∀ x ∈ l, Rx.size x ≤ 500001) → waysL s k l p ≠ none) ∧
    (∀ (l : List Rx) (p : Nat), p ≤ s.size → 3 * (s.size - p) + 2 ≤ k → l.length ≤ p → (∀ x ∈ l, Rx.size x ≤ 500) → wayB s k l p ≠ none) ∧
    (∀ (p : Nat), p ≤ s.size → 3 * (s.size - p) + 1 ≤ k → atomB s k p ≠ none) := by
  induction k with
  | zero =>
    refine ⟨?_, ?_, ?_, ?_⟩
    · intro p _ h; omega
    · intro l p _ h; omega
    · intro l p _ h; omega
    · intro p _ h; omega
  | succ k ih =>
    obtain ⟨ih1, ih2, ih3, ih4⟩ := ih
    obtain ⟨a1, a2, a3, a4⟩ := all_at hs k
    refine ⟨?_, ?_, ?_, ?_⟩
    · intro p hp hk
      simp only [waysB]
      split
      · rename_i hw
        exact absurd hw (ih3 [] p hp (by omega) (by simp) (by simp))
      · simp
      · rename_i r1 q1 hw
        have g1 := a3 [] p q1 r1 hp (by simp) (by simp) hw
        exact ih2 [r1] q1 (by omega) (by omega) (by simp) (by simp; omega)
    · intro l p hp hk hl hx
      simp only [waysL]
      cases h124 : isB s p 124 with
      | true =>
        have hlt := isB_at h124
        simp only [if_true]
        split
        · rename_i hw
          exact absurd hw (ih3 [] (p + 1) (by omega) (by omega) (by simp) (by simp))
        · simp
        · rename_i r1 q1 hw
          have g1 := a3 [] (p + 1) q1 r1 (by omega) (by simp) (by simp) hw
          exact ih2 (l ++ [r1]) q1 (by omega) (by omega) (by simp; omega) (by
            intro x hx'
            rcases List.mem_append.1 hx' with h' | h'
            · exact hx x h'
            · simp at h'; subst h'; exact g1.2.2)
      | false => simp
    · intro l p hp hk hl hx
      simp only [wayB]
      split
      · simp
      · rename_i hex
        split
        · rename_i hw
          exact absurd hw (ih4 p hp (by omega))
        · simp
        · rename_i r1 q1 hw
          have g1 := a4 p q1 r1 hp hw
          split
          · simp
          · rename_i r2 hf
            have gf := fitR_at hf
            split
            · rename_i hb
              exact absurd hb (behindB_total k r2 q1 (by omega) (by omega))
            · simp
            · rename_i r3 q3 hb
              have gb := behindB_at k r2 r3 q1 q3 (by omega) (by rw [gf.1]; exact gf.2) hb
              exact ih3 (l ++ [r3]) q3 (by omega) (by omega) (by simp; omega) (by
                intro x hx'
                rcases List.mem_append.1 hx' with h' | h'
                · exact hx x h'
                · simp at h'; subst h'; exact gb.2.2)
    · intro p hp hk
      simp only [atomB]
      cases hn : nextB s p with
      | error n => simp
      | ok y =>
        obtain ⟨b, q0⟩ := y
        have g0 := nextB_at hn
        simp only []
        split
        · split
          · rename_i hw
            exact absurd hw (ih1 q0 (by omega) (by omega))
          · simp
          · split
            · simp
            · simp
        · split
          · exact classB_total (by omega) (by omega)
          · split
            · simp
            · split
              · cases hc : charB s q0 with
                | error n => simp
                | ok z => simp
              · split
                · simp
                · simp
/-- Parse's model with rounds enough. -/
def parseM (s : ByteArray) : Except Int Rx := (parseB s 604).getD (.error 0)
theorem parseB_total (s : ByteArray) : parseB s 604 = some (parseM s) := by
  have : parseB s 604 ≠ none := by
    unfold parseB
    split
    · simp
    · have hw := (all_total (s := s) (by omega) 604).1 0 (Nat.zero_le _) (by omega)
      split
      · contradiction
      · simp
      · split
        · simp
        · split
          · simp
          · simp
  unfold parseM
  cases h : parseB s 604 with
  | none => exact absurd h this
  | some m => rfl
end Go.Proofs.YtgpmbkgedhcbjaaDoor
