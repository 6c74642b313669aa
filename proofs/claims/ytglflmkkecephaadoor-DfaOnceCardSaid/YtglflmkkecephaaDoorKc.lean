/-
  The key of a set of states: its numbers, each with a blank behind it; two sets of one key are one.
-/
import Derived.Test.YtglflmkkecephaaDoorKb
import Derived.Lib.ItoaNum
namespace Go.Proofs.YtglflmkkecephaaDoor

def keyS (A : List Nat) : List UInt8 := A.flatMap fun n => Lib.decDigits n ++ [32]
def valD (l : List UInt8) : Nat := l.foldl (fun a c => a * 10 + (c.toNat - 48)) 0
theorem digits_facts (u : Nat) : valD (Lib.decDigits u) = u ∧ ∀ c ∈ Lib.decDigits u, c ≠ 32 := by
  induction u using Nat.strongRecOn with
  | _ u ih =>
    have hd : ∀ k, k < 10 → (UInt8.ofNat (48 + k)).toNat = 48 + k := by intro k hk; simp; omega
    have hn : ∀ k, k < 10 → UInt8.ofNat (48 + k) ≠ 32 := by
      intro k hk e
      have := hd k hk
      rw [e] at this
      have : (32 : UInt8).toNat = 48 + k := this
      have h32 : (32 : UInt8).toNat = 32 := rfl
      omega
    rw [Lib.decDigits]
    by_cases h : u < 10
    · rw [dif_pos h]
      refine ⟨?_, fun c hc => ?_⟩
      · simp only [valD, List.foldl_cons, List.foldl_nil]
        rw [hd u h]; omega
      · have : c = UInt8.ofNat (48 + u) := by simpa using hc
        rw [this]; exact hn u h
    · rw [dif_neg h]
      obtain ⟨h1, h2⟩ := ih (u / 10) (by omega)
      refine ⟨?_, fun c hc => ?_⟩
      · unfold valD at h1 ⊢
        rw [List.foldl_append, h1]
        simp only [List.foldl_cons, List.foldl_nil]
        rw [hd (u % 10) (by omega)]; omega
      · rcases List.mem_append.1 hc with hc | hc
        · exact h2 c hc
        · have : c = UInt8.ofNat (48 + u % 10) := by simpa using hc
          rw [this]; exact hn _ (by omega)
theorem digits_inj {a b : Nat} (h : Lib.decDigits a = Lib.decDigits b) : a = b := by
  rw [← (digits_facts a).1, ← (digits_facts b).1, h]
theorem split_sep {c : UInt8} : ∀ {x y s t : List UInt8}, (∀ d ∈ x, d ≠ c) → (∀ d ∈ y, d ≠ c) → x ++ c :: s = y ++ c :: t → x = y ∧ s = t := by
  intro x
  induction x with
  | nil =>
    intro y s t _ hy h
    cases y with
    | nil => simpa using h
    | cons d y =>
      have : c = d := by simp at h; exact h.1
      exact absurd this.symm (hy d (by simp))
  | cons d x ih =>
    intro y s t hx hy h
    cases y with
    | nil =>
      have : d = c := by simp at h; exact h.1
      exact absurd this (hx d (by simp))
    | cons e y =>
      simp only [List.cons_append, List.cons.injEq] at h
      obtain ⟨h1, h2⟩ := ih (fun z hz => hx z (by simp [hz])) (fun z hz => hy z (by simp [hz])) h.2
      exact ⟨by rw [h.1, h1], h2⟩
theorem keyS_inj : ∀ {A B : List Nat}, keyS A = keyS B → A = B := by
  intro A
  induction A with
  | nil =>
    intro B h
    cases B with
    | nil => rfl
    | cons b B => simp [keyS] at h
  | cons a A ih =>
    intro B h
    cases B with
    | nil => simp [keyS] at h
    | cons b B =>
      have h : Lib.decDigits a ++ 32 :: keyS A = Lib.decDigits b ++ 32 :: keyS B := by
        simpa [keyS] using h
      obtain ⟨h1, h2⟩ := split_sep (digits_facts a).2 (digits_facts b).2 h
      rw [digits_inj h1, ih h2]
theorem keyS_snoc (A : List Nat) (n : Nat) : keyS (A ++ [n]) = keyS A ++ (Lib.decDigits n ++ [32]) := by
  simp [keyS]
end Go.Proofs.YtglflmkkecephaaDoor
