/-
  Words that are laid bit by bit, from the greatest one.
-/
import Derived.Test.YtjbmppbciiemkaaPy
namespace Go.Proofs.Ytjbmppbciiemkaa set_option linter.unusedVariables false set_option linter.unusedSimpArgs false

def wordT (A : Nat → Bool) (j : Nat) : Nat → Nat
  | 0 => 0
  | n + 1 => wordT A j n * 2 + (A (64 * j + (63 - n))).toNat
theorem wordT_bit (A : Nat → Bool) (j : Nat) : ∀ (n : Nat), n ≤ 64 → ∀ i, (wordT A j n).testBit i = (decide (i < n) && A (64 * j + (64 - n) + i))
  | 0, _, i => by simp [wordT]
  | n + 1, h, 0 => by
    rw [Nat.testBit_zero]
    have h1 : 64 * j + (64 - (n + 1)) + 0 = 64 * j + (63 - n) := by omega
    rw [h1]
    obtain ⟨x, hx⟩ : ∃ x, A (64 * j + (63 - n)) = x := ⟨_, rfl⟩
    simp only [wordT, hx]
    cases x
    · have : (wordT A j n * 2 + false.toNat) % 2 = 0 := by simp
      simp [this]
    · have : (wordT A j n * 2 + true.toNat) % 2 = 1 := by simp
      simp [this]
  | n + 1, h, i + 1 => by
    rw [Nat.testBit_succ]
    have h1 : (wordT A j (n + 1)) / 2 = wordT A j n := by
      simp only [wordT]
      cases A (64 * j + (63 - n)) <;> simp <;> omega
    rw [h1, wordT_bit A j n (by omega) i]
    have h2 : 64 * j + (64 - n) + i = 64 * j + (64 - (n + 1)) + (i + 1) := by omega
    rw [h2]
    congr 1
    simp
theorem wordT_lt (A : Nat → Bool) (j : Nat) : ∀ n, wordT A j n < 2 ^ n
  | 0 => by simp [wordT]
  | n + 1 => by
    have := wordT_lt A j n
    simp only [wordT]
    cases A (64 * j + (63 - n)) <;> simp [Nat.pow_succ] <;> omega

def Bs.word (x : Bs) : Nat → Nat
  | 0 => x.b0
  | 1 => x.b1
  | 2 => x.b2
  | _ => x.b3
def Bs.has (x : Bs) (b : Nat) : Bool := (x.word (b / 64)).testBit (b % 64)
theorem Bs.Ok.word {x : Bs} (h : x.Ok) (j : Nat) : x.word j < 2 ^ 64 := by
  obtain ⟨h0, h1, h2, h3⟩ := h
  match j with
  | 0 => exact h0
  | 1 => exact h1
  | 2 => exact h2
  | n + 3 => exact h3
theorem Bs.has_zero (b : Nat) : Bs.zero.has b = false := by
  have : Bs.zero.word (b / 64) = 0 := by
    match b / 64 with
    | 0 => rfl
    | 1 => rfl
    | 2 => rfl
    | n + 3 => rfl
  rw [Bs.has, this, Nat.zero_testBit]
theorem Bs.word_add (x : Bs) (c j : Nat) (hc : c < 256) (hj : j < 4) : (x.add c).word j = if c / 64 = j then x.word j ||| 2 ^ (c % 64) else x.word j := by
  have h1 : c / 64 = 0 ∨ c / 64 = 1 ∨ c / 64 = 2 ∨ c / 64 = 3 := by omega
  have h2 : j = 0 ∨ j = 1 ∨ j = 2 ∨ j = 3 := by omega
  rcases h1 with h1 | h1 | h1 | h1 <;> rcases h2 with rfl | rfl | rfl | rfl <;> simp [Bs.add, Bs.word, h1]
theorem Bs.has_add (x : Bs) (c b : Nat) (hc : c < 256) (hb : b < 256) : (x.add c).has b = (x.has b || decide (b = c)) := by
  rw [Bs.has, Bs.word_add x c _ hc (by omega), Bs.has]
  by_cases h : c / 64 = b / 64
  · rw [if_pos h, Nat.testBit_or, Nat.testBit_two_pow]
    congr 1
    exact decide_eq_decide.2 ⟨fun e => by omega, fun e => by rw [e]⟩
  · rw [if_neg h, decide_eq_false (fun e => h (by rw [e])), Bool.or_false]
theorem Bs.has_addN (n : Nat) : ∀ (x : Bs) (c b : Nat), c + n ≤ 256 → b < 256 → (x.addN c n).has b = (x.has b || (decide (c ≤ b) && decide (b < c + n))) := by
  induction n with
  | zero =>
    intro x c b _ _
    have : (decide (c ≤ b) && decide (b < c + 0)) = false := by
      cases h : (decide (c ≤ b) && decide (b < c + 0)) with
      | false => rfl
      | true => simp at h; omega
    simp only [Bs.addN, this, Bool.or_false]
  | succ n ih =>
    intro x c b h1 h2
    rw [Bs.addN, ih (x.add c) (c + 1) b (by omega) h2, Bs.has_add x c b (by omega) h2, Bool.or_assoc]
    congr 1
    rw [Bool.eq_iff_iff]
    simp
    omega
theorem sub_bit (n i : Nat) (hn : n < 2 ^ 64) (hi : i < 64) : (18446744073709551615 - n).testBit i = !n.testBit i := by
  have := Nat.testBit_two_pow_sub_succ (x := n) (n := 64) hn i
  rw [show 2 ^ 64 - (n + 1) = 18446744073709551615 - n by omega] at this
  rw [this, decide_eq_true hi, Bool.true_and]
theorem Bs.has_others {x : Bs} (h : x.Ok) (b : Nat) : x.others.has b = !x.has b := by
  have : x.others.word (b / 64) = 18446744073709551615 - x.word (b / 64) := by
    match b / 64 with
    | 0 => rfl
    | 1 => rfl
    | 2 => rfl
    | n + 3 => rfl
  rw [Bs.has, this, sub_bit _ _ (h.word _) (by omega), Bs.has]
theorem word_eq {A : Nat → Bool} {x : Bs} (hx : x.Ok) (h : ∀ b, b < 256 → A b = x.has b) (j : Nat) (hj : j < 4) : wordT A j 64 = x.word j := by
  refine Nat.eq_of_testBit_eq (fun i => ?_)
  rw [wordT_bit A j 64 (Nat.le_refl _) i]
  by_cases hi : i < 64
  · rw [decide_eq_true hi, Bool.true_and, show 64 * j + (64 - 64) + i = 64 * j + i by omega, h _ (by omega), Bs.has, show (64 * j + i) / 64 = j by omega, show (64 * j + i) % 64 = i by omega]
  · rw [decide_eq_false hi, Bool.false_and]
    exact (Nat.testBit_lt_two_pow (Nat.lt_of_lt_of_le (hx.word j) (Nat.pow_le_pow_right (by decide) (by omega)))).symm
end Go.Proofs.Ytjbmppbciiemkaa
