/-
  Plain facts on the reader's model: which errors there are.
-/
import Derived.Test.YtgpmbkgedhcbjaaDoorPf
namespace Go.Proofs.YtgpmbkgedhcbjaaDoor

theorem nextB_err {s : ByteArray} {p : Nat} {n : Int} (h : nextB s p = .error n) : n = 5 := by
  unfold nextB at h
  split at h <;> cases h
  rfl
theorem digitB_err {s : ByteArray} {p : Nat} {n : Int} (h : digitB s p = .error n) : n = 5 := by
  unfold digitB at h
  split at h
  · rename_i e he; cases h; exact nextB_err he
  · split at h <;> cases h
    rfl
theorem charB_err {s : ByteArray} {p : Nat} {n : Int} (h : charB s p = .error n) : n = 5 := by
  unfold charB at h
  split at h
  · rename_i e he; cases h; exact nextB_err he
  · split at h
    · cases h
    · split at h
      · split at h
        · rename_i e he; cases h; exact digitB_err he
        · split at h
          · rename_i e he; cases h; exact digitB_err he
          · cases h
      · split at h <;> cases h
        rfl
theorem oneB_err {s : ByteArray} {p : Nat} {n : Int} (h : oneB s p = .error n) : n = 5 := by
  unfold oneB at h
  split at h
  · exact charB_err h
  · split at h
    · rename_i e he; cases h; exact nextB_err he
    · split at h <;> cases h
      rfl
theorem classL_err {s : ByteArray} (k : Nat) : ∀ (x : Bs) (p : Nat) (n : Int), classL s k x p = some (.error n) → n = 5 := by
  induction k with
  | zero => intro x p n h; simp [classL] at h
  | succ k ih =>
    intro x p n h
    simp only [classL] at h
    split at h
    · simp at h
    · split at h
      · rename_i e he; simp at h; subst h; exact oneB_err he
      · rename_i lo q he
        split at h
        · rename_i e he2
          simp at h; subst h
          split at he2
          · exact oneB_err he2
          · cases he2
        · split at h
          · simp at h; exact h.symm
          · exact ih _ _ _ h
theorem classB_err {s : ByteArray} {k p : Nat} {n : Int} (h : classB s k p = some (.error n)) : n = 5 := by
  simp only [classB] at h
  split at h
  · cases h
  · rename_i e he; simp at h; subst h; exact classL_err k _ _ _ he
  · simp at h
theorem fitR_err {r : Rx} {n : Int} (h : fitR r = .error n) : n = 4 := by
  unfold fitR at h
  split at h <;> cases h
  rfl
theorem behindB_err {s : ByteArray} (k : Nat) : ∀ (r : Rx) (p : Nat) (n : Int), behindB s k r p = some (.error n) → n = 4 := by
  induction k with
  | zero => intro r p n h; simp [behindB] at h
  | succ k ih =>
    intro r p n h
    simp only [behindB] at h
    split at h
    · split at h
      · rename_i e he; simp at h; subst h; exact fitR_err he
      · exact ih _ _ _ h
    · split at h
      · split at h
        · rename_i e he; simp at h; subst h; exact fitR_err he
        · exact ih _ _ _ h
      · split at h
        · split at h
          · rename_i e he; simp at h; subst h; exact fitR_err he
          · exact ih _ _ _ h
        · simp at h
theorem all_err {s : ByteArray} (k : Nat) : (∀ p n, waysB s k p = some (.error n) → n = 4 ∨ n = 5) ∧ (∀ l p n, waysL s k l p = some (.error n) → n = 4 ∨ n = 5) ∧
    (∀ l p n, wayB s k l p = some (.error n) → n = 4 ∨ n = 5) ∧ (∀ p n, atomB s k p = some (.error n) → n = 4 ∨ n = 5) := by
  induction k with
  | zero => exact ⟨fun p n h => by simp [waysB] at h, fun l p n h => by simp [waysL] at h, fun l p n h => by simp [wayB] at h, fun p n h => by simp [atomB] at h⟩
  | succ k ih =>
    obtain ⟨i1, i2, i3, i4⟩ := ih
    refine ⟨fun p n h => ?_, fun l p n h => ?_, fun l p n h => ?_, fun p n h => ?_⟩
    · simp only [waysB] at h
      split at h
      · cases h
      · rename_i e he; simp at h; subst h; exact i3 _ _ _ he
      · exact i2 _ _ _ h
    · simp only [waysL] at h
      split at h
      · split at h
        · cases h
        · rename_i e he; simp at h; subst h; exact i3 _ _ _ he
        · exact i2 _ _ _ h
      · simp at h
    · simp only [wayB] at h
      split at h
      · simp at h
      · split at h
        · cases h
        · rename_i e he; simp at h; subst h; exact i4 _ _ he
        · split at h
          · rename_i e he; simp at h; subst h; exact .inl (fitR_err he)
          · split at h
            · cases h
            · rename_i e he; simp at h; subst h; exact .inl (behindB_err k _ _ _ he)
            · exact i3 _ _ _ h
    · simp only [atomB] at h
      split at h
      · rename_i e he; simp at h; subst h; exact .inr (nextB_err he)
      · split at h
        · split at h
          · cases h
          · rename_i e he; simp at h; subst h; exact i1 _ _ he
          · split at h
            · simp at h
            · simp at h; exact .inr h.symm
        · split at h
          · exact .inr (classB_err h)
          · split at h
            · simp at h
            · split at h
              · split at h
                · rename_i e he; simp at h; subst h; exact .inr (charB_err he)
                · simp at h
              · split at h
                · simp at h; exact .inr h.symm
                · simp at h
theorem parseM_err {s : ByteArray} {n : Int} (h : parseM s = .error n) : n = 4 ∨ n = 5 := by
  have hb := parseB_total s
  rw [h] at hb
  unfold parseB at hb
  split at hb
  · simp at hb; exact .inl hb.symm
  · split at hb
    · cases hb
    · rename_i e he; simp at hb; subst hb; exact (all_err 604).1 _ _ he
    · split at hb
      · simp at hb; exact .inr hb.symm
      · split at hb
        · rename_i e he; simp at hb; subst hb; exact .inl (fitR_err he)
        · simp at hb
theorem parseM_size {s : ByteArray} {r : Rx} (h : parseM s = .ok r) : r.size ≤ 500 ∧ s.size ≤ 200 := by
  have hb := parseB_total s
  rw [h] at hb
  unfold parseB at hb
  split at hb
  · simp at hb
  · split at hb
    · cases hb
    · simp at hb
    · split at hb
      · simp at hb
      · split at hb
        · simp at hb
        · rename_i r' hf
          have := fitR_at hf
          simp at hb
          subst hb
          rw [this.1]
          exact ⟨this.2, by omega⟩
end Go.Proofs.YtgpmbkgedhcbjaaDoor
