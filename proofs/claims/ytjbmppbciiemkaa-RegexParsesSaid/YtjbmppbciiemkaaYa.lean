/-
  The reference of layer 3: is, digit, plain.
-/
import Derived.Test.YtjbmppbciiemkaaPx
namespace Go.Proofs.Ytjbmppbciiemkaa set_option linter.unusedVariables false set_option linter.unusedSimpArgs false
open Go.RowKit

/-- The reference's reader: its text, its place, and whether it is wrong, and too great. -/
def rrObj (s : ByteArray) (p : Nat) (bad many : Bool) : Obj := .cells #[.string s, .int .i64 p, .bool bad, .bool many] 48 (0, 0)

theorem rr_step {w : World} {s : ByteArray} {p d : Nat} {bad many : Bool} (hb : w.heap[d]? = some (rrObj s p bad many)) (q : Nat) : (w.setCell ⟨d, 1, none⟩ (.int .i64 q)).heap[d]? = some (rrObj s q bad many) := by
  have := heap_setCell w hb 1 (.int .i64 q)
  simpa [rrObj] using this
theorem rr_bad {w : World} {s : ByteArray} {p d : Nat} {bad many : Bool} (hb : w.heap[d]? = some (rrObj s p bad many)) (x : Bool) : (w.setCell ⟨d, 2, none⟩ (.bool x)).heap[d]? = some (rrObj s p x many) := by
  have := heap_setCell w hb 2 (.bool x)
  simpa [rrObj] using this
theorem rr_many {w : World} {s : ByteArray} {p d : Nat} {bad many : Bool} (hb : w.heap[d]? = some (rrObj s p bad many)) (x : Bool) : (w.setCell ⟨d, 3, none⟩ (.bool x)).heap[d]? = some (rrObj s p bad x) := by
  have := heap_setCell w hb 3 (.bool x)
  simpa [rrObj] using this

theorem beq_cast (a b : Nat) : ((a : Int) == (b : Int)) = decide (a = b) := by
  by_cases h : a = b
  · subst h; simp
  · rw [decide_eq_false h]
    exact beq_eq_false_iff_ne.2 (by omega)

set_option maxRecDepth 100000 in
set_option maxHeartbeats 1000000 in
theorem ris_any (s : ByteArray) (p d b : Nat) (bad many : Bool) (w : World) (hs : s.size ≤ 1000) (hb : w.heap[d]? = some (rrObj s p bad many)) :
    Calls Try.prog 31 #[.pointer (some ⟨d, 0, none⟩), .int .u8 b] w fun e w' => e = .returned (.bool (isB s p b)) ∧ Fr none_ w w' := by
  have c0 : w.drew.cell? ⟨d, 0, none⟩ = some (.string s) := cell_of_block (w := w.drew) hb rfl
  have c1 : w.drew.cell? ⟨d, 1, none⟩ = some (.int .i64 p) := cell_of_block (w := w.drew) hb rfl
  have d0 : w.cell? ⟨d, 0, none⟩ = some (.string s) := cell_of_block hb rfl
  have d1 : w.cell? ⟨d, 1, none⟩ = some (.int .i64 p) := cell_of_block hb rfl
  have hp3 : (0 : Int) ≤ (p : Int) := by omega
  clear hb
  by_cases hp : p < s.size
  · have hp2 : (p : Int) < (s.size : Int) := by omega
    have hlt : decide ((p : Int) < (s.size : Int)) = true := by simp; omega
    go_enter Try.func31, Try.ntmps31
    go_wp2_with fail
    go_quiet (fail)
    go_wp2_with fail
    go_ret
    exact ⟨by simp [isB, hp, byteAt_eq s p hp, beq_cast], by repeat (first | exact Fr.refl _ _ | apply Fr.drewN)⟩
  · have hlt : decide ((p : Int) < (s.size : Int)) = false := by simp; omega
    go_enter Try.func31, Try.ntmps31
    go_wp2_with fail
    go_quiet (fail)
    go_wp2_with fail
    go_ret
    exact ⟨by simp [isB, hp], by repeat (first | exact Fr.refl _ _ | apply Fr.drewN)⟩

def digitI (b : Nat) : Int := match digitV b with | some n => n | none => -1
set_option maxRecDepth 100000 in
set_option maxHeartbeats 2000000 in
theorem rdigit_any (b : Nat) (hb : b < 256) (w : World) :
    Calls Try.prog 64 #[.int .u8 b] w fun e w' => e = .returned (.int .i64 (digitI b)) ∧ w' = w := by
  by_cases h1 : (48 : Int) ≤ (b : Int)
  · by_cases h2 : (b : Int) ≤ 57
    · have e1 : digitI b = (b : Int) - 48 := by
        have : 48 ≤ b ∧ b ≤ 57 := by omega
        simp only [digitI, digitV, if_pos this]; omega
      rw [e1]; clear e1
      go_enter Try.func64, Try.ntmps64
      go_wp2_with fail
      go_ret
      exact ⟨by first | rfl | (congr 2; omega) | (simp; omega), rfl⟩
    · by_cases h3 : (97 : Int) ≤ (b : Int)
      · by_cases h4 : (b : Int) ≤ 102
        · have e1 : digitI b = (b : Int) - 87 := by
            have h5 : ¬ (48 ≤ b ∧ b ≤ 57) := by omega
            have : 97 ≤ b ∧ b ≤ 102 := by omega
            simp only [digitI, digitV, if_neg h5, if_pos this]; omega
          rw [e1]; clear e1
          go_enter Try.func64, Try.ntmps64
          go_wp2_with fail
          go_ret
          exact ⟨by first | rfl | (congr 2; omega) | (simp; omega), rfl⟩
        · have e1 : digitI b = -1 := by
            have h5 : ¬ (48 ≤ b ∧ b ≤ 57) := by omega
            have : ¬ (97 ≤ b ∧ b ≤ 102) := by omega
            simp only [digitI, digitV, if_neg h5, if_neg this]
          rw [e1]; clear e1
          go_enter Try.func64, Try.ntmps64
          go_wp2_with fail
          go_ret
          exact ⟨rfl, rfl⟩
      · have e1 : digitI b = -1 := by
          have h5 : ¬ (48 ≤ b ∧ b ≤ 57) := by omega
          have : ¬ (97 ≤ b ∧ b ≤ 102) := by omega
          simp only [digitI, digitV, if_neg h5, if_neg this]
        rw [e1]; clear e1
        go_enter Try.func64, Try.ntmps64
        go_wp2_with fail
        go_ret
        exact ⟨rfl, rfl⟩
  · have e1 : digitI b = -1 := by
      have h5 : ¬ (48 ≤ b ∧ b ≤ 57) := by omega
      have : ¬ (97 ≤ b ∧ b ≤ 102) := by omega
      simp only [digitI, digitV, if_neg h5, if_neg this]
    rw [e1]; clear e1
    have h3 : ¬ (97 : Int) ≤ (b : Int) := by omega
    go_enter Try.func64, Try.ntmps64
    go_wp2_with fail
    go_ret
    exact ⟨rfl, rfl⟩

set_option maxRecDepth 100000 in
set_option maxHeartbeats 4000000 in
theorem rplain_any (b : Nat) (hb : b < 256) (w : World) :
    Calls Try.prog 65 #[.int .u8 b] w fun e w' => e = .returned (.bool (!wordB b)) ∧ w' = w := by
  by_cases h1 : (97 : Int) ≤ (b : Int) <;> by_cases h2 : (b : Int) ≤ 122 <;> by_cases h3 : (65 : Int) ≤ (b : Int) <;> by_cases h4 : (b : Int) ≤ 90 <;> by_cases h5 : (48 : Int) ≤ (b : Int) <;> by_cases h6 : (b : Int) ≤ 57 <;> (first | (exfalso; omega) | skip)
  all_goals
    obtain ⟨x, hx⟩ : ∃ x, wordB b = x := ⟨_, rfl⟩
    have HX := Lib.hid hx
    rw [hx]
    clear hx
    go_enter Try.func65, Try.ntmps65
    go_wp2_with fail
    go_ret
    exact ⟨by rw [← HX.out]; simp [wordB]; omega, rfl⟩
end Go.Proofs.Ytjbmppbciiemkaa
