/-
  The reference of layer 3: character.
  The reference of layer 3: character, further on.
  The reference of layer 3: character, all of it.
-/
import Derived.Test.YtjbmppbciiemkaaYa
namespace Go.Proofs.Ytjbmppbciiemkaa set_option linter.unusedVariables false set_option linter.unusedSimpArgs false
open Go.RowKit

set_option maxRecDepth 100000 in
set_option maxHeartbeats 2000000 in
theorem rchar_out (s : ByteArray) (p d : Nat) (bad many : Bool) (w : World) (hs : s.size ≤ 1000) (hb : w.heap[d]? = some (rrObj s p bad many)) (hp : p ≤ 2000) (h : ¬ p + 1 < s.size) :
    Calls Try.prog 55 #[.pointer (some ⟨d, 0, none⟩)] w fun e w' => e = .returned (.int .u8 0) ∧ w'.heap[d]? = some (rrObj s (p + 1) true many) ∧ Fr (at1 d) w w' := by
  have c1 : w.cell? ⟨d, 1, none⟩ = some (.int .i64 p) := cell_of_block hb rfl
  have f1 : w.frozen? ⟨d, 1, none⟩ = false := free_of_block hb
  have HB1 := rr_step hb (p + 1)
  have HF1 := Lib.hid ((Fr.refl (at1 d) w).setCell (p := ⟨d, 1, none⟩) (.inl rfl) (.int .i64 ((p + 1 : Nat) : Int)))
  obtain ⟨w1, hw1⟩ : ∃ x, w.setCell ⟨d, 1, none⟩ (.int .i64 ((p + 1 : Nat) : Int)) = x := ⟨_, rfl⟩
  have HW1 := Lib.hid hw1
  rw [hw1] at HB1 HF1
  have g0 : w1.drew.cell? ⟨d, 0, none⟩ = some (.string s) := cell_of_block (w := w1.drew) HB1 rfl
  have g1 : w1.drew.cell? ⟨d, 1, none⟩ = some (.int .i64 ((p + 1 : Nat) : Int)) := cell_of_block (w := w1.drew) HB1 rfl
  have e0 : w1.cell? ⟨d, 0, none⟩ = some (.string s) := cell_of_block HB1 rfl
  have e1 : w1.cell? ⟨d, 1, none⟩ = some (.int .i64 ((p + 1 : Nat) : Int)) := cell_of_block HB1 rfl
  have hge : decide ((s.size : Int) ≤ ((p + 1 : Nat) : Int)) = true := by simp; omega
  clear hb hw1
  go_enter Try.func55, Try.ntmps55
  go_wp2_with fail
  try rw [show ((p : Int) + 1) = ((p + 1 : Nat) : Int) by omega]
  rw [HW1.out]
  go_quiet (fail)
  have HB2 := Lib.hid (rr_bad HB1 true)
  have f2 : w1.frozen? ⟨d, 2, none⟩ = false := free_of_block HB1
  have e2 : w1.cell? ⟨d, 2, none⟩ = some (.bool bad) := cell_of_block HB1 rfl
  go_wp2_with fail
  go_ret
  exact ⟨rfl, HB2.out, (HF1.out.drewN nq).setCell (p := ⟨d, 2, none⟩) (.inl rfl) _⟩

-- GEN

set_option maxRecDepth 100000 in
set_option maxHeartbeats 2000000 in
theorem rchar_110 (s : ByteArray) (p d : Nat) (bad many : Bool) (w : World) (hs : s.size ≤ 1000) (hb : w.heap[d]? = some (rrObj s p bad many)) (hp : p ≤ 2000) (h : p + 1 < s.size) (hv : (s[p + 1]'h).toNat = 110) :
    Calls Try.prog 55 #[.pointer (some ⟨d, 0, none⟩)] w fun e w' => e = .returned (.int .u8 10) ∧ w'.heap[d]? = some (rrObj s (p + 2) bad many) ∧ Fr (at1 d) w w' := by
  have HB1 := rr_step hb (p + 1)
  have HB2 := Lib.hid (rr_step HB1 (p + 2))
  have c1 : w.cell? ⟨d, 1, none⟩ = some (.int .i64 p) := cell_of_block hb rfl
  have f1 : w.frozen? ⟨d, 1, none⟩ = false := free_of_block hb
  have HF1 := Lib.hid ((Fr.refl (at1 d) w).setCell (p := ⟨d, 1, none⟩) (.inl rfl) (.int .i64 ((p + 1 : Nat) : Int)))
  obtain ⟨w1, hw1⟩ : ∃ x, w.setCell ⟨d, 1, none⟩ (.int .i64 ((p + 1 : Nat) : Int)) = x := ⟨_, rfl⟩
  have HW1 := Lib.hid hw1
  rw [hw1] at HB1 HB2 HF1
  have e0 : w1.cell? ⟨d, 0, none⟩ = some (.string s) := cell_of_block HB1 rfl
  have e1 : w1.cell? ⟨d, 1, none⟩ = some (.int .i64 ((p + 1 : Nat) : Int)) := cell_of_block HB1 rfl
  have e2 : w1.cell? ⟨d, 2, none⟩ = some (.bool bad) := cell_of_block HB1 rfl
  have g1 : w1.frozen? ⟨d, 1, none⟩ = false := free_of_block HB1
  have hp3 : (0 : Int) ≤ ((p + 1 : Nat) : Int) := by omega
  have hp4 : ((p + 1 : Nat) : Int) < (s.size : Int) := by omega
  have hge : decide ((s.size : Int) ≤ ((p + 1 : Nat) : Int)) = false := by simp; omega
  clear hb hw1
  go_enter Try.func55, Try.ntmps55
  go_wp2_with fail
  try rw [show ((p : Int) + 1) = ((p + 1 : Nat) : Int) by omega]
  rw [HW1.out]
  go_quiet (fail)
  go_wp2_with fail
  go_quiet (fail)
  go_wp2_with fail
  go_ret
  try rw [show ((p : Int) + 1 + 1) = ((p + 2 : Nat) : Int) by omega]
  exact ⟨rfl, HB2.out, (HF1.out.drewN _).setCell (p := ⟨d, 1, none⟩) (.inl rfl) _⟩

set_option maxRecDepth 100000 in
set_option maxHeartbeats 2000000 in
theorem rchar_116 (s : ByteArray) (p d : Nat) (bad many : Bool) (w : World) (hs : s.size ≤ 1000) (hb : w.heap[d]? = some (rrObj s p bad many)) (hp : p ≤ 2000) (h : p + 1 < s.size) (hv : (s[p + 1]'h).toNat = 116) :
    Calls Try.prog 55 #[.pointer (some ⟨d, 0, none⟩)] w fun e w' => e = .returned (.int .u8 9) ∧ w'.heap[d]? = some (rrObj s (p + 2) bad many) ∧ Fr (at1 d) w w' := by
  have HB1 := rr_step hb (p + 1)
  have HB2 := Lib.hid (rr_step HB1 (p + 2))
  have c1 : w.cell? ⟨d, 1, none⟩ = some (.int .i64 p) := cell_of_block hb rfl
  have f1 : w.frozen? ⟨d, 1, none⟩ = false := free_of_block hb
  have HF1 := Lib.hid ((Fr.refl (at1 d) w).setCell (p := ⟨d, 1, none⟩) (.inl rfl) (.int .i64 ((p + 1 : Nat) : Int)))
  obtain ⟨w1, hw1⟩ : ∃ x, w.setCell ⟨d, 1, none⟩ (.int .i64 ((p + 1 : Nat) : Int)) = x := ⟨_, rfl⟩
  have HW1 := Lib.hid hw1
  rw [hw1] at HB1 HB2 HF1
  have e0 : w1.cell? ⟨d, 0, none⟩ = some (.string s) := cell_of_block HB1 rfl
  have e1 : w1.cell? ⟨d, 1, none⟩ = some (.int .i64 ((p + 1 : Nat) : Int)) := cell_of_block HB1 rfl
  have e2 : w1.cell? ⟨d, 2, none⟩ = some (.bool bad) := cell_of_block HB1 rfl
  have g1 : w1.frozen? ⟨d, 1, none⟩ = false := free_of_block HB1
  have hp3 : (0 : Int) ≤ ((p + 1 : Nat) : Int) := by omega
  have hp4 : ((p + 1 : Nat) : Int) < (s.size : Int) := by omega
  have hge : decide ((s.size : Int) ≤ ((p + 1 : Nat) : Int)) = false := by simp; omega
  clear hb hw1
  go_enter Try.func55, Try.ntmps55
  go_wp2_with fail
  try rw [show ((p : Int) + 1) = ((p + 1 : Nat) : Int) by omega]
  rw [HW1.out]
  go_quiet (fail)
  go_wp2_with fail
  go_quiet (fail)
  go_wp2_with fail
  go_ret
  try rw [show ((p : Int) + 1 + 1) = ((p + 2 : Nat) : Int) by omega]
  exact ⟨rfl, HB2.out, (HF1.out.drewN _).setCell (p := ⟨d, 1, none⟩) (.inl rfl) _⟩

set_option maxRecDepth 100000 in
set_option maxHeartbeats 2000000 in
theorem rchar_114 (s : ByteArray) (p d : Nat) (bad many : Bool) (w : World) (hs : s.size ≤ 1000) (hb : w.heap[d]? = some (rrObj s p bad many)) (hp : p ≤ 2000) (h : p + 1 < s.size) (hv : (s[p + 1]'h).toNat = 114) :
    Calls Try.prog 55 #[.pointer (some ⟨d, 0, none⟩)] w fun e w' => e = .returned (.int .u8 13) ∧ w'.heap[d]? = some (rrObj s (p + 2) bad many) ∧ Fr (at1 d) w w' := by
  have HB1 := rr_step hb (p + 1)
  have HB2 := Lib.hid (rr_step HB1 (p + 2))
  have c1 : w.cell? ⟨d, 1, none⟩ = some (.int .i64 p) := cell_of_block hb rfl
  have f1 : w.frozen? ⟨d, 1, none⟩ = false := free_of_block hb
  have HF1 := Lib.hid ((Fr.refl (at1 d) w).setCell (p := ⟨d, 1, none⟩) (.inl rfl) (.int .i64 ((p + 1 : Nat) : Int)))
  obtain ⟨w1, hw1⟩ : ∃ x, w.setCell ⟨d, 1, none⟩ (.int .i64 ((p + 1 : Nat) : Int)) = x := ⟨_, rfl⟩
  have HW1 := Lib.hid hw1
  rw [hw1] at HB1 HB2 HF1
  have e0 : w1.cell? ⟨d, 0, none⟩ = some (.string s) := cell_of_block HB1 rfl
  have e1 : w1.cell? ⟨d, 1, none⟩ = some (.int .i64 ((p + 1 : Nat) : Int)) := cell_of_block HB1 rfl
  have e2 : w1.cell? ⟨d, 2, none⟩ = some (.bool bad) := cell_of_block HB1 rfl
  have g1 : w1.frozen? ⟨d, 1, none⟩ = false := free_of_block HB1
  have hp3 : (0 : Int) ≤ ((p + 1 : Nat) : Int) := by omega
  have hp4 : ((p + 1 : Nat) : Int) < (s.size : Int) := by omega
  have hge : decide ((s.size : Int) ≤ ((p + 1 : Nat) : Int)) = false := by simp; omega
  clear hb hw1
  go_enter Try.func55, Try.ntmps55
  go_wp2_with fail
  try rw [show ((p : Int) + 1) = ((p + 1 : Nat) : Int) by omega]
  rw [HW1.out]
  go_quiet (fail)
  go_wp2_with fail
  go_quiet (fail)
  go_wp2_with fail
  go_ret
  try rw [show ((p : Int) + 1 + 1) = ((p + 2 : Nat) : Int) by omega]
  exact ⟨rfl, HB2.out, (HF1.out.drewN _).setCell (p := ⟨d, 1, none⟩) (.inl rfl) _⟩

set_option maxRecDepth 100000 in
set_option maxHeartbeats 2000000 in
theorem rchar_115 (s : ByteArray) (p d : Nat) (bad many : Bool) (w : World) (hs : s.size ≤ 1000) (hb : w.heap[d]? = some (rrObj s p bad many)) (hp : p ≤ 2000) (h : p + 1 < s.size) (hv : (s[p + 1]'h).toNat = 115) :
    Calls Try.prog 55 #[.pointer (some ⟨d, 0, none⟩)] w fun e w' => e = .returned (.int .u8 32) ∧ w'.heap[d]? = some (rrObj s (p + 2) bad many) ∧ Fr (at1 d) w w' := by
  have HB1 := rr_step hb (p + 1)
  have HB2 := Lib.hid (rr_step HB1 (p + 2))
  have c1 : w.cell? ⟨d, 1, none⟩ = some (.int .i64 p) := cell_of_block hb rfl
  have f1 : w.frozen? ⟨d, 1, none⟩ = false := free_of_block hb
  have HF1 := Lib.hid ((Fr.refl (at1 d) w).setCell (p := ⟨d, 1, none⟩) (.inl rfl) (.int .i64 ((p + 1 : Nat) : Int)))
  obtain ⟨w1, hw1⟩ : ∃ x, w.setCell ⟨d, 1, none⟩ (.int .i64 ((p + 1 : Nat) : Int)) = x := ⟨_, rfl⟩
  have HW1 := Lib.hid hw1
  rw [hw1] at HB1 HB2 HF1
  have e0 : w1.cell? ⟨d, 0, none⟩ = some (.string s) := cell_of_block HB1 rfl
  have e1 : w1.cell? ⟨d, 1, none⟩ = some (.int .i64 ((p + 1 : Nat) : Int)) := cell_of_block HB1 rfl
  have e2 : w1.cell? ⟨d, 2, none⟩ = some (.bool bad) := cell_of_block HB1 rfl
  have g1 : w1.frozen? ⟨d, 1, none⟩ = false := free_of_block HB1
  have hp3 : (0 : Int) ≤ ((p + 1 : Nat) : Int) := by omega
  have hp4 : ((p + 1 : Nat) : Int) < (s.size : Int) := by omega
  have hge : decide ((s.size : Int) ≤ ((p + 1 : Nat) : Int)) = false := by simp; omega
  clear hb hw1
  go_enter Try.func55, Try.ntmps55
  go_wp2_with fail
  try rw [show ((p : Int) + 1) = ((p + 1 : Nat) : Int) by omega]
  rw [HW1.out]
  go_quiet (fail)
  go_wp2_with fail
  go_quiet (fail)
  go_wp2_with fail
  go_ret
  try rw [show ((p : Int) + 1 + 1) = ((p + 2 : Nat) : Int) by omega]
  exact ⟨rfl, HB2.out, (HF1.out.drewN _).setCell (p := ⟨d, 1, none⟩) (.inl rfl) _⟩

/-- What a read of a byte comes to, in the reference: its flag in the place of a panic. -/
def RGotN (d : Nat) (s : ByteArray) (bad many : Bool) (w : World) (m : Got Nat) (e : Ending) (w' : World) : Prop :=
  match m with
  | .ok (b, q) => e = .returned (.int .u8 b) ∧ w'.heap[d]? = some (rrObj s q bad many) ∧ Fr (at1 d) w w'
  | .error _ => ∃ b q : Nat, b < 256 ∧ q ≤ s.size ∧ e = .returned (.int .u8 b) ∧ w'.heap[d]? = some (rrObj s q true many) ∧ Fr (at1 d) w w'
end Go.Proofs.Ytjbmppbciiemkaa

namespace Go.Proofs.Ytjbmppbciiemkaa set_option linter.unusedVariables false set_option linter.unusedSimpArgs false
open Go.RowKit

theorem wrap_sm (n : Int) (h0 : 0 ≤ n) (h1 : n < 9223372036854775808) : IntKind.i64.wrap n = n := by
  have e : IntKind.i64.wrap n = if (n % 18446744073709551616) ≥ 9223372036854775808 then n % 18446744073709551616 - 18446744073709551616 else n % 18446744073709551616 := by
    simp [IntKind.wrap, IntKind.bits, IntKind.signed]
  rw [e, Int.emod_eq_of_lt h0 (by omega), if_neg (by omega)]
theorem wrap_8 (n : Int) (h0 : 0 ≤ n) (h1 : n < 256) : IntKind.u8.wrap n = n := by
  have e : IntKind.u8.wrap n = n % 256 := by simp [IntKind.wrap, IntKind.bits, IntKind.signed]
  rw [e, Int.emod_eq_of_lt h0 h1]
theorem rlit0 {α : Type} {x0 : α} {l : List α} : (x0 :: l).toArray[0]? = some x0 := rfl
theorem rlit1 {α : Type} {x0 x1 : α} {l : List α} : (x0 :: x1 :: l).toArray[1]? = some x1 := rfl
theorem rlit2 {α : Type} {x0 x1 x2 : α} {l : List α} : (x0 :: x1 :: x2 :: l).toArray[2]? = some x2 := rfl
theorem rlit3 {α : Type} {x0 x1 x2 x3 : α} {l : List α} : (x0 :: x1 :: x2 :: x3 :: l).toArray[3]? = some x3 := rfl
theorem rlit4 {α : Type} {x0 x1 x2 x3 x4 : α} {l : List α} : (x0 :: x1 :: x2 :: x3 :: x4 :: l).toArray[4]? = some x4 := rfl
theorem rlit5 {α : Type} {x0 x1 x2 x3 x4 x5 : α} {l : List α} : (x0 :: x1 :: x2 :: x3 :: x4 :: x5 :: l).toArray[5]? = some x5 := rfl
theorem rlit6 {α : Type} {x0 x1 x2 x3 x4 x5 x6 : α} {l : List α} : (x0 :: x1 :: x2 :: x3 :: x4 :: x5 :: x6 :: l).toArray[6]? = some x6 := rfl
theorem rlit7 {α : Type} {x0 x1 x2 x3 x4 x5 x6 x7 : α} {l : List α} : (x0 :: x1 :: x2 :: x3 :: x4 :: x5 :: x6 :: x7 :: l).toArray[7]? = some x7 := rfl
theorem rlit8 {α : Type} {x0 x1 x2 x3 x4 x5 x6 x7 x8 : α} {l : List α} : (x0 :: x1 :: x2 :: x3 :: x4 :: x5 :: x6 :: x7 :: x8 :: l).toArray[8]? = some x8 := rfl
theorem rlit9 {α : Type} {x0 x1 x2 x3 x4 x5 x6 x7 x8 x9 : α} {l : List α} : (x0 :: x1 :: x2 :: x3 :: x4 :: x5 :: x6 :: x7 :: x8 :: x9 :: l).toArray[9]? = some x9 := rfl
theorem rlit10 {α : Type} {x0 x1 x2 x3 x4 x5 x6 x7 x8 x9 x10 : α} {l : List α} : (x0 :: x1 :: x2 :: x3 :: x4 :: x5 :: x6 :: x7 :: x8 :: x9 :: x10 :: l).toArray[10]? = some x10 := rfl
theorem rlit11 {α : Type} {x0 x1 x2 x3 x4 x5 x6 x7 x8 x9 x10 x11 : α} {l : List α} : (x0 :: x1 :: x2 :: x3 :: x4 :: x5 :: x6 :: x7 :: x8 :: x9 :: x10 :: x11 :: l).toArray[11]? = some x11 := rfl
theorem rlit12 {α : Type} {x0 x1 x2 x3 x4 x5 x6 x7 x8 x9 x10 x11 x12 : α} {l : List α} : (x0 :: x1 :: x2 :: x3 :: x4 :: x5 :: x6 :: x7 :: x8 :: x9 :: x10 :: x11 :: x12 :: l).toArray[12]? = some x12 := rfl
theorem rlit13 {α : Type} {x0 x1 x2 x3 x4 x5 x6 x7 x8 x9 x10 x11 x12 x13 : α} {l : List α} : (x0 :: x1 :: x2 :: x3 :: x4 :: x5 :: x6 :: x7 :: x8 :: x9 :: x10 :: x11 :: x12 :: x13 :: l).toArray[13]? = some x13 := rfl
theorem rlit14 {α : Type} {x0 x1 x2 x3 x4 x5 x6 x7 x8 x9 x10 x11 x12 x13 x14 : α} {l : List α} : (x0 :: x1 :: x2 :: x3 :: x4 :: x5 :: x6 :: x7 :: x8 :: x9 :: x10 :: x11 :: x12 :: x13 :: x14 :: l).toArray[14]? = some x14 := rfl
theorem rlit15 {α : Type} {x0 x1 x2 x3 x4 x5 x6 x7 x8 x9 x10 x11 x12 x13 x14 x15 : α} {l : List α} : (x0 :: x1 :: x2 :: x3 :: x4 :: x5 :: x6 :: x7 :: x8 :: x9 :: x10 :: x11 :: x12 :: x13 :: x14 :: x15 :: l).toArray[15]? = some x15 := rfl
theorem rlit16 {α : Type} {x0 x1 x2 x3 x4 x5 x6 x7 x8 x9 x10 x11 x12 x13 x14 x15 x16 : α} {l : List α} : (x0 :: x1 :: x2 :: x3 :: x4 :: x5 :: x6 :: x7 :: x8 :: x9 :: x10 :: x11 :: x12 :: x13 :: x14 :: x15 :: x16 :: l).toArray[16]? = some x16 := rfl
theorem rlit17 {α : Type} {x0 x1 x2 x3 x4 x5 x6 x7 x8 x9 x10 x11 x12 x13 x14 x15 x16 x17 : α} {l : List α} : (x0 :: x1 :: x2 :: x3 :: x4 :: x5 :: x6 :: x7 :: x8 :: x9 :: x10 :: x11 :: x12 :: x13 :: x14 :: x15 :: x16 :: x17 :: l).toArray[17]? = some x17 := rfl
theorem rlit18 {α : Type} {x0 x1 x2 x3 x4 x5 x6 x7 x8 x9 x10 x11 x12 x13 x14 x15 x16 x17 x18 : α} {l : List α} : (x0 :: x1 :: x2 :: x3 :: x4 :: x5 :: x6 :: x7 :: x8 :: x9 :: x10 :: x11 :: x12 :: x13 :: x14 :: x15 :: x16 :: x17 :: x18 :: l).toArray[18]? = some x18 := rfl
theorem rlit19 {α : Type} {x0 x1 x2 x3 x4 x5 x6 x7 x8 x9 x10 x11 x12 x13 x14 x15 x16 x17 x18 x19 : α} {l : List α} : (x0 :: x1 :: x2 :: x3 :: x4 :: x5 :: x6 :: x7 :: x8 :: x9 :: x10 :: x11 :: x12 :: x13 :: x14 :: x15 :: x16 :: x17 :: x18 :: x19 :: l).toArray[19]? = some x19 := rfl
theorem rlit20 {α : Type} {x0 x1 x2 x3 x4 x5 x6 x7 x8 x9 x10 x11 x12 x13 x14 x15 x16 x17 x18 x19 x20 : α} {l : List α} : (x0 :: x1 :: x2 :: x3 :: x4 :: x5 :: x6 :: x7 :: x8 :: x9 :: x10 :: x11 :: x12 :: x13 :: x14 :: x15 :: x16 :: x17 :: x18 :: x19 :: x20 :: l).toArray[20]? = some x20 := rfl
theorem rlit21 {α : Type} {x0 x1 x2 x3 x4 x5 x6 x7 x8 x9 x10 x11 x12 x13 x14 x15 x16 x17 x18 x19 x20 x21 : α} {l : List α} : (x0 :: x1 :: x2 :: x3 :: x4 :: x5 :: x6 :: x7 :: x8 :: x9 :: x10 :: x11 :: x12 :: x13 :: x14 :: x15 :: x16 :: x17 :: x18 :: x19 :: x20 :: x21 :: l).toArray[21]? = some x21 := rfl
theorem rlit22 {α : Type} {x0 x1 x2 x3 x4 x5 x6 x7 x8 x9 x10 x11 x12 x13 x14 x15 x16 x17 x18 x19 x20 x21 x22 : α} {l : List α} : (x0 :: x1 :: x2 :: x3 :: x4 :: x5 :: x6 :: x7 :: x8 :: x9 :: x10 :: x11 :: x12 :: x13 :: x14 :: x15 :: x16 :: x17 :: x18 :: x19 :: x20 :: x21 :: x22 :: l).toArray[22]? = some x22 := rfl
theorem rlit23 {α : Type} {x0 x1 x2 x3 x4 x5 x6 x7 x8 x9 x10 x11 x12 x13 x14 x15 x16 x17 x18 x19 x20 x21 x22 x23 : α} {l : List α} : (x0 :: x1 :: x2 :: x3 :: x4 :: x5 :: x6 :: x7 :: x8 :: x9 :: x10 :: x11 :: x12 :: x13 :: x14 :: x15 :: x16 :: x17 :: x18 :: x19 :: x20 :: x21 :: x22 :: x23 :: l).toArray[23]? = some x23 := rfl
theorem rlit24 {α : Type} {x0 x1 x2 x3 x4 x5 x6 x7 x8 x9 x10 x11 x12 x13 x14 x15 x16 x17 x18 x19 x20 x21 x22 x23 x24 : α} {l : List α} : (x0 :: x1 :: x2 :: x3 :: x4 :: x5 :: x6 :: x7 :: x8 :: x9 :: x10 :: x11 :: x12 :: x13 :: x14 :: x15 :: x16 :: x17 :: x18 :: x19 :: x20 :: x21 :: x22 :: x23 :: x24 :: l).toArray[24]? = some x24 := rfl
theorem rlit25 {α : Type} {x0 x1 x2 x3 x4 x5 x6 x7 x8 x9 x10 x11 x12 x13 x14 x15 x16 x17 x18 x19 x20 x21 x22 x23 x24 x25 : α} {l : List α} : (x0 :: x1 :: x2 :: x3 :: x4 :: x5 :: x6 :: x7 :: x8 :: x9 :: x10 :: x11 :: x12 :: x13 :: x14 :: x15 :: x16 :: x17 :: x18 :: x19 :: x20 :: x21 :: x22 :: x23 :: x24 :: x25 :: l).toArray[25]? = some x25 := rfl
theorem rlit26 {α : Type} {x0 x1 x2 x3 x4 x5 x6 x7 x8 x9 x10 x11 x12 x13 x14 x15 x16 x17 x18 x19 x20 x21 x22 x23 x24 x25 x26 : α} {l : List α} : (x0 :: x1 :: x2 :: x3 :: x4 :: x5 :: x6 :: x7 :: x8 :: x9 :: x10 :: x11 :: x12 :: x13 :: x14 :: x15 :: x16 :: x17 :: x18 :: x19 :: x20 :: x21 :: x22 :: x23 :: x24 :: x25 :: x26 :: l).toArray[26]? = some x26 := rfl
theorem rlit27 {α : Type} {x0 x1 x2 x3 x4 x5 x6 x7 x8 x9 x10 x11 x12 x13 x14 x15 x16 x17 x18 x19 x20 x21 x22 x23 x24 x25 x26 x27 : α} {l : List α} : (x0 :: x1 :: x2 :: x3 :: x4 :: x5 :: x6 :: x7 :: x8 :: x9 :: x10 :: x11 :: x12 :: x13 :: x14 :: x15 :: x16 :: x17 :: x18 :: x19 :: x20 :: x21 :: x22 :: x23 :: x24 :: x25 :: x26 :: x27 :: l).toArray[27]? = some x27 := rfl
theorem rlit28 {α : Type} {x0 x1 x2 x3 x4 x5 x6 x7 x8 x9 x10 x11 x12 x13 x14 x15 x16 x17 x18 x19 x20 x21 x22 x23 x24 x25 x26 x27 x28 : α} {l : List α} : (x0 :: x1 :: x2 :: x3 :: x4 :: x5 :: x6 :: x7 :: x8 :: x9 :: x10 :: x11 :: x12 :: x13 :: x14 :: x15 :: x16 :: x17 :: x18 :: x19 :: x20 :: x21 :: x22 :: x23 :: x24 :: x25 :: x26 :: x27 :: x28 :: l).toArray[28]? = some x28 := rfl
theorem rlit29 {α : Type} {x0 x1 x2 x3 x4 x5 x6 x7 x8 x9 x10 x11 x12 x13 x14 x15 x16 x17 x18 x19 x20 x21 x22 x23 x24 x25 x26 x27 x28 x29 : α} {l : List α} : (x0 :: x1 :: x2 :: x3 :: x4 :: x5 :: x6 :: x7 :: x8 :: x9 :: x10 :: x11 :: x12 :: x13 :: x14 :: x15 :: x16 :: x17 :: x18 :: x19 :: x20 :: x21 :: x22 :: x23 :: x24 :: x25 :: x26 :: x27 :: x28 :: x29 :: l).toArray[29]? = some x29 := rfl
theorem rlit30 {α : Type} {x0 x1 x2 x3 x4 x5 x6 x7 x8 x9 x10 x11 x12 x13 x14 x15 x16 x17 x18 x19 x20 x21 x22 x23 x24 x25 x26 x27 x28 x29 x30 : α} {l : List α} : (x0 :: x1 :: x2 :: x3 :: x4 :: x5 :: x6 :: x7 :: x8 :: x9 :: x10 :: x11 :: x12 :: x13 :: x14 :: x15 :: x16 :: x17 :: x18 :: x19 :: x20 :: x21 :: x22 :: x23 :: x24 :: x25 :: x26 :: x27 :: x28 :: x29 :: x30 :: l).toArray[30]? = some x30 := rfl
theorem rlit31 {α : Type} {x0 x1 x2 x3 x4 x5 x6 x7 x8 x9 x10 x11 x12 x13 x14 x15 x16 x17 x18 x19 x20 x21 x22 x23 x24 x25 x26 x27 x28 x29 x30 x31 : α} {l : List α} : (x0 :: x1 :: x2 :: x3 :: x4 :: x5 :: x6 :: x7 :: x8 :: x9 :: x10 :: x11 :: x12 :: x13 :: x14 :: x15 :: x16 :: x17 :: x18 :: x19 :: x20 :: x21 :: x22 :: x23 :: x24 :: x25 :: x26 :: x27 :: x28 :: x29 :: x30 :: x31 :: l).toArray[31]? = some x31 := rfl
theorem rlit32 {α : Type} {x0 x1 x2 x3 x4 x5 x6 x7 x8 x9 x10 x11 x12 x13 x14 x15 x16 x17 x18 x19 x20 x21 x22 x23 x24 x25 x26 x27 x28 x29 x30 x31 x32 : α} {l : List α} : (x0 :: x1 :: x2 :: x3 :: x4 :: x5 :: x6 :: x7 :: x8 :: x9 :: x10 :: x11 :: x12 :: x13 :: x14 :: x15 :: x16 :: x17 :: x18 :: x19 :: x20 :: x21 :: x22 :: x23 :: x24 :: x25 :: x26 :: x27 :: x28 :: x29 :: x30 :: x31 :: x32 :: l).toArray[32]? = some x32 := rfl
theorem rlit33 {α : Type} {x0 x1 x2 x3 x4 x5 x6 x7 x8 x9 x10 x11 x12 x13 x14 x15 x16 x17 x18 x19 x20 x21 x22 x23 x24 x25 x26 x27 x28 x29 x30 x31 x32 x33 : α} {l : List α} : (x0 :: x1 :: x2 :: x3 :: x4 :: x5 :: x6 :: x7 :: x8 :: x9 :: x10 :: x11 :: x12 :: x13 :: x14 :: x15 :: x16 :: x17 :: x18 :: x19 :: x20 :: x21 :: x22 :: x23 :: x24 :: x25 :: x26 :: x27 :: x28 :: x29 :: x30 :: x31 :: x32 :: x33 :: l).toArray[33]? = some x33 := rfl
theorem rlit34 {α : Type} {x0 x1 x2 x3 x4 x5 x6 x7 x8 x9 x10 x11 x12 x13 x14 x15 x16 x17 x18 x19 x20 x21 x22 x23 x24 x25 x26 x27 x28 x29 x30 x31 x32 x33 x34 : α} {l : List α} : (x0 :: x1 :: x2 :: x3 :: x4 :: x5 :: x6 :: x7 :: x8 :: x9 :: x10 :: x11 :: x12 :: x13 :: x14 :: x15 :: x16 :: x17 :: x18 :: x19 :: x20 :: x21 :: x22 :: x23 :: x24 :: x25 :: x26 :: x27 :: x28 :: x29 :: x30 :: x31 :: x32 :: x33 :: x34 :: l).toArray[34]? = some x34 := rfl
theorem rlit35 {α : Type} {x0 x1 x2 x3 x4 x5 x6 x7 x8 x9 x10 x11 x12 x13 x14 x15 x16 x17 x18 x19 x20 x21 x22 x23 x24 x25 x26 x27 x28 x29 x30 x31 x32 x33 x34 x35 : α} {l : List α} : (x0 :: x1 :: x2 :: x3 :: x4 :: x5 :: x6 :: x7 :: x8 :: x9 :: x10 :: x11 :: x12 :: x13 :: x14 :: x15 :: x16 :: x17 :: x18 :: x19 :: x20 :: x21 :: x22 :: x23 :: x24 :: x25 :: x26 :: x27 :: x28 :: x29 :: x30 :: x31 :: x32 :: x33 :: x34 :: x35 :: l).toArray[35]? = some x35 := rfl
theorem rlit36 {α : Type} {x0 x1 x2 x3 x4 x5 x6 x7 x8 x9 x10 x11 x12 x13 x14 x15 x16 x17 x18 x19 x20 x21 x22 x23 x24 x25 x26 x27 x28 x29 x30 x31 x32 x33 x34 x35 x36 : α} {l : List α} : (x0 :: x1 :: x2 :: x3 :: x4 :: x5 :: x6 :: x7 :: x8 :: x9 :: x10 :: x11 :: x12 :: x13 :: x14 :: x15 :: x16 :: x17 :: x18 :: x19 :: x20 :: x21 :: x22 :: x23 :: x24 :: x25 :: x26 :: x27 :: x28 :: x29 :: x30 :: x31 :: x32 :: x33 :: x34 :: x35 :: x36 :: l).toArray[36]? = some x36 := rfl
theorem rlit37 {α : Type} {x0 x1 x2 x3 x4 x5 x6 x7 x8 x9 x10 x11 x12 x13 x14 x15 x16 x17 x18 x19 x20 x21 x22 x23 x24 x25 x26 x27 x28 x29 x30 x31 x32 x33 x34 x35 x36 x37 : α} {l : List α} : (x0 :: x1 :: x2 :: x3 :: x4 :: x5 :: x6 :: x7 :: x8 :: x9 :: x10 :: x11 :: x12 :: x13 :: x14 :: x15 :: x16 :: x17 :: x18 :: x19 :: x20 :: x21 :: x22 :: x23 :: x24 :: x25 :: x26 :: x27 :: x28 :: x29 :: x30 :: x31 :: x32 :: x33 :: x34 :: x35 :: x36 :: x37 :: l).toArray[37]? = some x37 := rfl

set_option maxRecDepth 100000 in
set_option maxHeartbeats 2000000 in
theorem rchar_x1 (s : ByteArray) (p d : Nat) (bad many : Bool) (w : World) (hs : s.size ≤ 1000) (hb : w.heap[d]? = some (rrObj s p bad many)) (h : p + 1 < s.size) (hv : (s[p + 1]'h).toNat = 120) (h3 : ¬ p + 3 < s.size) :
    Calls Try.prog 55 #[.pointer (some ⟨d, 0, none⟩)] w fun e w' => e = .returned (.int .u8 0) ∧ w'.heap[d]? = some (rrObj s (p + 2) true many) ∧ Fr (at1 d) w w' := by
  obtain ⟨q, hq⟩ : ∃ q, p + 2 = q := ⟨_, rfl⟩
  try rw [hq]
  have HB1 := rr_step hb (p + 1)
  have c1 : w.cell? ⟨d, 1, none⟩ = some (.int .i64 p) := cell_of_block hb rfl
  have f1 : w.frozen? ⟨d, 1, none⟩ = false := free_of_block hb
  have HF1 := ((Fr.refl (at1 d) w).setCell (p := ⟨d, 1, none⟩) (.inl rfl) (.int .i64 ((p + 1 : Nat) : Int)))
  obtain ⟨w1, hw1⟩ : ∃ x, w.setCell ⟨d, 1, none⟩ (.int .i64 ((p + 1 : Nat) : Int)) = x := ⟨_, rfl⟩
  have HW1 := Lib.hid hw1
  rw [hw1] at HB1 HF1
  have HF2 := fun n => (HF1.drewN n).setCell (p := ⟨d, 1, none⟩) (.inl rfl) (.int .i64 (q : Int))
  have HB2 : ∀ n, ((w1.drewN n).setCell ⟨d, 1, none⟩ (.int .i64 (q : Int))).heap[d]? = some (rrObj s q bad many) := fun n => rr_step (w := w1.drewN n) HB1 q
  have e0 : w1.cell? ⟨d, 0, none⟩ = some (.string s) := cell_of_block HB1 rfl
  have e1 : w1.cell? ⟨d, 1, none⟩ = some (.int .i64 ((p + 1 : Nat) : Int)) := cell_of_block HB1 rfl
  have g1 : w1.frozen? ⟨d, 1, none⟩ = false := free_of_block HB1
  have hp3 : (0 : Int) ≤ ((p + 1 : Nat) : Int) := by omega
  have hp4 : ((p + 1 : Nat) : Int) < (s.size : Int) := by omega
  have hge : decide ((s.size : Int) ≤ ((p + 1 : Nat) : Int)) = false := by simp; omega
  clear hb hw1 HF1
  go_enter Try.func55, Try.ntmps55
  go_wp2_with fail
  try rw [show ((p : Int) + 1) = ((p + 1 : Nat) : Int) by omega]
  rw [HW1.out]
  go_quiet (fail)
  obtain ⟨n0, rfl⟩ : ∃ n, n = nq := ⟨_, rfl⟩
  go_wp2_with fail
  go_quiet (fail)
  go_wp2_with fail
  rw [show ((p : Int) + 1 + 1) = (q : Int) by omega]
  replace HF2 := Lib.hid (HF2 (n0 + nq))
  replace HB2 := HB2 (n0 + nq)
  generalize hw2 : (w1.drewN (n0 + nq)).setCell ⟨d, 1, none⟩ (.int .i64 (q : Int)) = w2
  rw [hw2] at HF2 HB2
  have a0 : w2.cell? ⟨d, 0, none⟩ = some (.string s) := cell_of_block HB2 rfl
  have a1 : w2.cell? ⟨d, 1, none⟩ = some (.int .i64 (q : Int)) := cell_of_block HB2 rfl
  have a2 : w2.cell? ⟨d, 2, none⟩ = some (.bool bad) := cell_of_block HB2 rfl
  have a3 : w2.frozen? ⟨d, 2, none⟩ = false := free_of_block HB2
  clear hw2
  have hwr : IntKind.i64.wrap ((q : Int) + 1) = (q : Int) + 1 := wrap_sm _ (by omega) (by omega)
  have hlt : decide ((q : Int) + 1 < (s.size : Int)) = false := by simp; omega
  refine wp_region_held_drew (S := (fun w' => w'.cell? ⟨d, 0, none⟩ = some (.string s) ∧ w'.cell? ⟨d, 1, none⟩ = some (.int .i64 (q : Int)))) (by kernel_rfl) ⟨a0, a1⟩ (fun hHeld => ?_)
  refine wpAnyH_take (i := 0) (v := ?_) rlit0 (by kernel_rfl) (by kernel_rfl) (by kernel_rfl) (fun _ _ _ h => h) (Or.inl ⟨by rfl, ?_⟩) (by assumption) ?_
  rotate_left
  · (intro w hSw; (try dsimp only at hSw); go_simp) <;> with_reducible rfl
  try simp only [Act.put, List.setIfInBounds_toArray, List.set_cons_zero, List.set_cons_succ]
  refine wpAnyH_take (i := 1) (v := ?_) rlit1 (by kernel_rfl) (by kernel_rfl) (by kernel_rfl) (fun _ _ _ h => h) (Or.inl ⟨by rfl, ?_⟩) (by assumption) ?_
  rotate_left
  · (intro w hSw; (try dsimp only at hSw); go_simp) <;> with_reducible rfl
  try simp only [Act.put, List.setIfInBounds_toArray, List.set_cons_zero, List.set_cons_succ]
  refine wpAnyH_take (i := 2) (v := ?_) rlit2 (by kernel_rfl) (by kernel_rfl) (by kernel_rfl) (fun _ _ _ h => h) (Or.inl ⟨by rfl, ?_⟩) (by assumption) ?_
  rotate_left
  · (intro w hSw; (try dsimp only at hSw); go_simp) <;> with_reducible rfl
  try simp only [Act.put, List.setIfInBounds_toArray, List.set_cons_zero, List.set_cons_succ]
  refine wpAnyH_take (i := 3) (v := ?_) rlit3 (by kernel_rfl) (by kernel_rfl) (by kernel_rfl) (fun _ _ _ h => h) (Or.inl ⟨by rfl, ?_⟩) (by assumption) ?_
  rotate_left
  · (intro w hSw; (try dsimp only at hSw); go_simp) <;> with_reducible rfl
  try simp only [Act.put, List.setIfInBounds_toArray, List.set_cons_zero, List.set_cons_succ]
  refine wpAnyH_take (i := 4) (v := ?_) rlit4 (by kernel_rfl) (by kernel_rfl) (by kernel_rfl) (fun _ _ _ h => h) (Or.inl ⟨by rfl, ?_⟩) (by assumption) ?_
  rotate_left
  · (intro w hSw; (try dsimp only at hSw); go_simp) <;> with_reducible rfl
  try simp only [Act.put, List.setIfInBounds_toArray, List.set_cons_zero, List.set_cons_succ]
  refine wpAnyH_take (i := 5) (v := ?_) rlit5 (by kernel_rfl) (by kernel_rfl) (by kernel_rfl) (fun _ _ _ h => h) (Or.inl ⟨by rfl, ?_⟩) (by assumption) ?_
  rotate_left
  · (intro w hSw; (try dsimp only at hSw); go_simp) <;> with_reducible rfl
  try simp only [Act.put, List.setIfInBounds_toArray, List.set_cons_zero, List.set_cons_succ]
  refine wpAnyH_take (i := 6) (v := ?_) rlit6 (by kernel_rfl) (by kernel_rfl) (by kernel_rfl) (fun _ _ _ h => h) (Or.inl ⟨by rfl, ?_⟩) (by assumption) ?_
  rotate_left
  · (intro w hSw; (try dsimp only at hSw); go_simp) <;> with_reducible rfl
  try simp only [Act.put, List.setIfInBounds_toArray, List.set_cons_zero, List.set_cons_succ]
  refine wpAnyH_take (i := 7) (v := ?_) rlit7 (by kernel_rfl) (by kernel_rfl) (by kernel_rfl) (fun _ _ _ h => h) (Or.inl ⟨by rfl, ?_⟩) (by assumption) ?_
  rotate_left
  · (intro w hSw; (try dsimp only at hSw); go_simp) <;> with_reducible rfl
  try simp only [Act.put, List.setIfInBounds_toArray, List.set_cons_zero, List.set_cons_succ]
  refine wpAnyH_take (i := 8) (v := ?_) rlit8 (by kernel_rfl) (by kernel_rfl) (by kernel_rfl) (fun _ _ _ h => h) (Or.inl ⟨by rfl, ?_⟩) (by assumption) ?_
  rotate_left
  · (intro w hSw; (try dsimp only at hSw); go_simp) <;> with_reducible rfl
  try simp only [Act.put, List.setIfInBounds_toArray, List.set_cons_zero, List.set_cons_succ]
  refine wpAnyH_take (i := 9) (v := ?_) rlit9 (by kernel_rfl) (by kernel_rfl) (by kernel_rfl) (fun _ _ _ h => h) (Or.inl ⟨by rfl, ?_⟩) (by assumption) ?_
  rotate_left
  · (intro w hSw; (try dsimp only at hSw); go_simp) <;> with_reducible rfl
  try simp only [Act.put, List.setIfInBounds_toArray, List.set_cons_zero, List.set_cons_succ]
  refine wpAnyH_take (i := 10) (v := ?_) rlit10 (by kernel_rfl) (by kernel_rfl) (by kernel_rfl) (fun _ _ _ h => h) (Or.inl ⟨by rfl, ?_⟩) (by assumption) ?_
  rotate_left
  · (intro w hSw; (try dsimp only at hSw); go_simp) <;> with_reducible rfl
  try simp only [Act.put, List.setIfInBounds_toArray, List.set_cons_zero, List.set_cons_succ]
  refine wpAnyH_take (i := 11) (v := ?_) rlit11 (by kernel_rfl) (by kernel_rfl) (by kernel_rfl) (fun _ _ _ h => h) (Or.inl ⟨by rfl, ?_⟩) (by assumption) ?_
  rotate_left
  · (intro w hSw; (try dsimp only at hSw); go_simp) <;> with_reducible rfl
  try simp only [Act.put, List.setIfInBounds_toArray, List.set_cons_zero, List.set_cons_succ]
  refine wpAnyH_take (i := 12) rlit12 (by kernel_rfl) (by kernel_rfl) (by kernel_rfl) (fun _ _ _ h => h) (Or.inr ⟨by rfl, rfl⟩) (by assumption) ?_
  try simp only [Act.put, List.setIfInBounds_toArray, List.set_cons_zero, List.set_cons_succ]
  refine wpAnyH_take (i := 13) rlit13 (by kernel_rfl) (by kernel_rfl) (by kernel_rfl) (fun _ _ _ h => h) (Or.inr ⟨by rfl, rfl⟩) (by assumption) ?_
  try simp only [Act.put, List.setIfInBounds_toArray, List.set_cons_zero, List.set_cons_succ]
  refine wpAnyH_take (i := 14) rlit14 (by kernel_rfl) (by kernel_rfl) (by kernel_rfl) (fun _ _ _ h => h) (Or.inr ⟨by rfl, rfl⟩) (by assumption) ?_
  try simp only [Act.put, List.setIfInBounds_toArray, List.set_cons_zero, List.set_cons_succ]
  refine wpAnyH_take (i := 15) rlit15 (by kernel_rfl) (by kernel_rfl) (by kernel_rfl) (fun _ _ _ h => h) (Or.inr ⟨by rfl, rfl⟩) (by assumption) ?_
  try simp only [Act.put, List.setIfInBounds_toArray, List.set_cons_zero, List.set_cons_succ]
  refine wpAnyH_take (i := 16) rlit16 (by kernel_rfl) (by kernel_rfl) (by kernel_rfl) (fun _ _ _ h => h) (Or.inr ⟨by rfl, rfl⟩) (by assumption) ?_
  try simp only [Act.put, List.setIfInBounds_toArray, List.set_cons_zero, List.set_cons_succ]
  refine wpAnyH_take (i := 17) rlit17 (by kernel_rfl) (by kernel_rfl) (by kernel_rfl) (fun _ _ _ h => h) (Or.inr ⟨by rfl, rfl⟩) (by assumption) ?_
  try simp only [Act.put, List.setIfInBounds_toArray, List.set_cons_zero, List.set_cons_succ]
  refine wpAnyH_take (i := 18) rlit18 (by kernel_rfl) (by kernel_rfl) (by kernel_rfl) (fun _ _ _ h => h) (Or.inr ⟨by rfl, rfl⟩) (by assumption) ?_
  try simp only [Act.put, List.setIfInBounds_toArray, List.set_cons_zero, List.set_cons_succ]
  refine wpAnyH_take (i := 19) rlit19 (by kernel_rfl) (by kernel_rfl) (by kernel_rfl) (fun _ _ _ h => h) (Or.inr ⟨by rfl, rfl⟩) (by assumption) ?_
  try simp only [Act.put, List.setIfInBounds_toArray, List.set_cons_zero, List.set_cons_succ]
  refine wpAnyH_take (i := 20) rlit20 (by kernel_rfl) (by kernel_rfl) (by kernel_rfl) (fun _ _ _ h => h) (Or.inr ⟨by rfl, rfl⟩) (by assumption) ?_
  try simp only [Act.put, List.setIfInBounds_toArray, List.set_cons_zero, List.set_cons_succ]
  refine wpAnyH_take (i := 21) rlit21 (by kernel_rfl) (by kernel_rfl) (by kernel_rfl) (fun _ _ _ h => h) (Or.inr ⟨by rfl, rfl⟩) (by assumption) ?_
  try simp only [Act.put, List.setIfInBounds_toArray, List.set_cons_zero, List.set_cons_succ]
  refine wpAnyH_take (i := 22) rlit22 (by kernel_rfl) (by kernel_rfl) (by kernel_rfl) (fun _ _ _ h => h) (Or.inr ⟨by rfl, rfl⟩) (by assumption) ?_
  try simp only [Act.put, List.setIfInBounds_toArray, List.set_cons_zero, List.set_cons_succ]
  refine wpAnyH_take (i := 23) (v := ?_) rlit23 (by kernel_rfl) (by kernel_rfl) (by kernel_rfl) (fun _ _ _ h => h) (Or.inl ⟨by rfl, ?_⟩) (by assumption) ?_
  rotate_left
  · (intro w hSw; (try dsimp only at hSw); go_simp) <;> with_reducible rfl
  try simp only [Act.put, List.setIfInBounds_toArray, List.set_cons_zero, List.set_cons_succ]
  refine wpAnyH_take (i := 24) (v := ?_) rlit24 (by kernel_rfl) (by kernel_rfl) (by kernel_rfl) (fun _ _ _ h => h) (Or.inl ⟨by rfl, ?_⟩) (by assumption) ?_
  rotate_left
  · (intro w hSw; (try dsimp only at hSw); go_simp) <;> with_reducible rfl
  try simp only [Act.put, List.setIfInBounds_toArray, List.set_cons_zero, List.set_cons_succ]
  refine wpAnyH_take (i := 25) rlit25 (by kernel_rfl) (by kernel_rfl) (by kernel_rfl) (fun _ _ _ h => h) (Or.inr ⟨by rfl, rfl⟩) (by assumption) ?_
  try simp only [Act.put, List.setIfInBounds_toArray, List.set_cons_zero, List.set_cons_succ]
  refine wpAnyH_take (i := 26) rlit26 (by kernel_rfl) (by kernel_rfl) (by kernel_rfl) (fun _ _ _ h => h) (Or.inr ⟨by rfl, rfl⟩) (by assumption) ?_
  try simp only [Act.put, List.setIfInBounds_toArray, List.set_cons_zero, List.set_cons_succ]
  refine wpAnyH_take (i := 27) rlit27 (by kernel_rfl) (by kernel_rfl) (by kernel_rfl) (fun _ _ _ h => h) (Or.inr ⟨by rfl, rfl⟩) (by assumption) ?_
  try simp only [Act.put, List.setIfInBounds_toArray, List.set_cons_zero, List.set_cons_succ]
  refine wpAnyH_take (i := 28) rlit28 (by kernel_rfl) (by kernel_rfl) (by kernel_rfl) (fun _ _ _ h => h) (Or.inr ⟨by rfl, rfl⟩) (by assumption) ?_
  try simp only [Act.put, List.setIfInBounds_toArray, List.set_cons_zero, List.set_cons_succ]
  refine wpAnyH_take (i := 29) rlit29 (by kernel_rfl) (by kernel_rfl) (by kernel_rfl) (fun _ _ _ h => h) (Or.inr ⟨by rfl, rfl⟩) (by assumption) ?_
  try simp only [Act.put, List.setIfInBounds_toArray, List.set_cons_zero, List.set_cons_succ]
  refine wpAnyH_take (i := 30) rlit30 (by kernel_rfl) (by kernel_rfl) (by kernel_rfl) (fun _ _ _ h => h) (Or.inr ⟨by rfl, rfl⟩) (by assumption) ?_
  try simp only [Act.put, List.setIfInBounds_toArray, List.set_cons_zero, List.set_cons_succ]
  refine wpAnyH_take (i := 31) rlit31 (by kernel_rfl) (by kernel_rfl) (by kernel_rfl) (fun _ _ _ h => h) (Or.inr ⟨by rfl, rfl⟩) (by assumption) ?_
  try simp only [Act.put, List.setIfInBounds_toArray, List.set_cons_zero, List.set_cons_succ]
  refine wpAnyH_take (i := 32) rlit32 (by kernel_rfl) (by kernel_rfl) (by kernel_rfl) (fun _ _ _ h => h) (Or.inr ⟨by rfl, rfl⟩) (by assumption) ?_
  try simp only [Act.put, List.setIfInBounds_toArray, List.set_cons_zero, List.set_cons_succ]
  refine wpAnyH_take (i := 33) rlit33 (by kernel_rfl) (by kernel_rfl) (by kernel_rfl) (fun _ _ _ h => h) (Or.inr ⟨by rfl, rfl⟩) (by assumption) ?_
  try simp only [Act.put, List.setIfInBounds_toArray, List.set_cons_zero, List.set_cons_succ]
  refine wpAnyH_take (i := 34) rlit34 (by kernel_rfl) (by kernel_rfl) (by kernel_rfl) (fun _ _ _ h => h) (Or.inr ⟨by rfl, rfl⟩) (by assumption) ?_
  try simp only [Act.put, List.setIfInBounds_toArray, List.set_cons_zero, List.set_cons_succ]
  refine wpAnyH_take (i := 35) rlit35 (by kernel_rfl) (by kernel_rfl) (by kernel_rfl) (fun _ _ _ h => h) (Or.inr ⟨by rfl, rfl⟩) (by assumption) ?_
  try simp only [Act.put, List.setIfInBounds_toArray, List.set_cons_zero, List.set_cons_succ]
  refine wpAnyH_take (i := 36) rlit36 (by kernel_rfl) (by kernel_rfl) (by kernel_rfl) (fun _ _ _ h => h) (Or.inr ⟨by rfl, rfl⟩) (by assumption) ?_
  try simp only [Act.put, List.setIfInBounds_toArray, List.set_cons_zero, List.set_cons_succ]
  refine wpAnyH_take (i := 37) (v := ?_) rlit37 (by kernel_rfl) (by kernel_rfl) (by kernel_rfl) (fun _ _ _ h => h) (Or.inl ⟨by rfl, ?_⟩) (by assumption) ?_
  rotate_left
  · (intro w hSw; (try dsimp only at hSw); go_simp) <;> with_reducible rfl
  try simp only [Act.put, List.setIfInBounds_toArray, List.set_cons_zero, List.set_cons_succ]
  refine wpAnyH_done (by kernel_rfl) ?_ _
  go_wp2_with fail
  go_ret
  exact ⟨rfl, rr_bad HB2 true, (HF2.out.drewN 1).setCell (p := ⟨d, 2, none⟩) (.inl rfl) _⟩

set_option maxRecDepth 100000 in
set_option maxHeartbeats 2000000 in
theorem rchar_x2 (s : ByteArray) (p d : Nat) (bad many : Bool) (w : World) (hs : s.size ≤ 1000) (hb : w.heap[d]? = some (rrObj s p bad many)) (h : p + 1 < s.size) (hv : (s[p + 1]'h).toNat = 120) (h3 : p + 3 < s.size) (hd : digitV (byteAt s (p + 2)) = none) :
    Calls Try.prog 55 #[.pointer (some ⟨d, 0, none⟩)] w fun e w' => e = .returned (.int .u8 0) ∧ w'.heap[d]? = some (rrObj s (p + 2) true many) ∧ Fr (at1 d) w w' := by
  obtain ⟨q, hq⟩ : ∃ q, p + 2 = q := ⟨_, rfl⟩
  try rw [hq]
  have HB1 := rr_step hb (p + 1)
  have c1 : w.cell? ⟨d, 1, none⟩ = some (.int .i64 p) := cell_of_block hb rfl
  have f1 : w.frozen? ⟨d, 1, none⟩ = false := free_of_block hb
  have HF1 := ((Fr.refl (at1 d) w).setCell (p := ⟨d, 1, none⟩) (.inl rfl) (.int .i64 ((p + 1 : Nat) : Int)))
  obtain ⟨w1, hw1⟩ : ∃ x, w.setCell ⟨d, 1, none⟩ (.int .i64 ((p + 1 : Nat) : Int)) = x := ⟨_, rfl⟩
  have HW1 := Lib.hid hw1
  rw [hw1] at HB1 HF1
  have HF2 := fun n => (HF1.drewN n).setCell (p := ⟨d, 1, none⟩) (.inl rfl) (.int .i64 (q : Int))
  have HB2 : ∀ n, ((w1.drewN n).setCell ⟨d, 1, none⟩ (.int .i64 (q : Int))).heap[d]? = some (rrObj s q bad many) := fun n => rr_step (w := w1.drewN n) HB1 q
  have e0 : w1.cell? ⟨d, 0, none⟩ = some (.string s) := cell_of_block HB1 rfl
  have e1 : w1.cell? ⟨d, 1, none⟩ = some (.int .i64 ((p + 1 : Nat) : Int)) := cell_of_block HB1 rfl
  have g1 : w1.frozen? ⟨d, 1, none⟩ = false := free_of_block HB1
  have hp3 : (0 : Int) ≤ ((p + 1 : Nat) : Int) := by omega
  have hp4 : ((p + 1 : Nat) : Int) < (s.size : Int) := by omega
  have hge : decide ((s.size : Int) ≤ ((p + 1 : Nat) : Int)) = false := by simp; omega
  clear hb hw1 HF1
  go_enter Try.func55, Try.ntmps55
  go_wp2_with fail
  try rw [show ((p : Int) + 1) = ((p + 1 : Nat) : Int) by omega]
  rw [HW1.out]
  go_quiet (fail)
  obtain ⟨n0, rfl⟩ : ∃ n, n = nq := ⟨_, rfl⟩
  go_wp2_with fail
  go_quiet (fail)
  go_wp2_with fail
  rw [show ((p : Int) + 1 + 1) = (q : Int) by omega]
  replace HF2 := Lib.hid (HF2 (n0 + nq))
  replace HB2 := HB2 (n0 + nq)
  generalize hw2 : (w1.drewN (n0 + nq)).setCell ⟨d, 1, none⟩ (.int .i64 (q : Int)) = w2
  rw [hw2] at HF2 HB2
  have a0 : w2.cell? ⟨d, 0, none⟩ = some (.string s) := cell_of_block HB2 rfl
  have a1 : w2.cell? ⟨d, 1, none⟩ = some (.int .i64 (q : Int)) := cell_of_block HB2 rfl
  have a2 : w2.cell? ⟨d, 2, none⟩ = some (.bool bad) := cell_of_block HB2 rfl
  have a3 : w2.frozen? ⟨d, 2, none⟩ = false := free_of_block HB2
  clear hw2
  have hwr : IntKind.i64.wrap ((q : Int) + 1) = (q : Int) + 1 := wrap_sm _ (by omega) (by omega)
  have b0 : (0 : Int) ≤ (q : Int) := by omega
  have b1 : (q : Int) < (s.size : Int) := by omega
  have b2 : (0 : Int) ≤ (q : Int) + 1 := by omega
  have b3 : (q : Int) + 1 < (s.size : Int) := by omega
  have hlt : decide ((q : Int) + 1 < (s.size : Int)) = true := by simp; omega
  have HE1 := Lib.hid (byteAt_eq s q (by omega))
  have HE2 := Lib.hid (byteAt_eq s (q + 1) (by omega))
  have HD := Lib.hid (show digitI (byteAt s q) = -1 by rw [← hq, digitI, hd])
  clear hd
  refine wp_region_held_drew (S := (fun w' => w'.cell? ⟨d, 0, none⟩ = some (.string s) ∧ w'.cell? ⟨d, 1, none⟩ = some (.int .i64 (q : Int)))) (by kernel_rfl) ⟨a0, a1⟩ (fun hHeld => ?_)
  refine wpAnyH_take (i := 0) (v := ?_) rlit0 (by kernel_rfl) (by kernel_rfl) (by kernel_rfl) (fun _ _ _ h => h) (Or.inl ⟨by rfl, ?_⟩) (by assumption) ?_
  rotate_left
  · (intro w hSw; (try dsimp only at hSw); go_simp) <;> with_reducible rfl
  try simp only [Act.put, List.setIfInBounds_toArray, List.set_cons_zero, List.set_cons_succ]
  refine wpAnyH_take (i := 1) (v := ?_) rlit1 (by kernel_rfl) (by kernel_rfl) (by kernel_rfl) (fun _ _ _ h => h) (Or.inl ⟨by rfl, ?_⟩) (by assumption) ?_
  rotate_left
  · (intro w hSw; (try dsimp only at hSw); go_simp) <;> with_reducible rfl
  try simp only [Act.put, List.setIfInBounds_toArray, List.set_cons_zero, List.set_cons_succ]
  refine wpAnyH_take (i := 2) (v := ?_) rlit2 (by kernel_rfl) (by kernel_rfl) (by kernel_rfl) (fun _ _ _ h => h) (Or.inl ⟨by rfl, ?_⟩) (by assumption) ?_
  rotate_left
  · (intro w hSw; (try dsimp only at hSw); go_simp) <;> with_reducible rfl
  try simp only [Act.put, List.setIfInBounds_toArray, List.set_cons_zero, List.set_cons_succ]
  refine wpAnyH_take (i := 3) (v := ?_) rlit3 (by kernel_rfl) (by kernel_rfl) (by kernel_rfl) (fun _ _ _ h => h) (Or.inl ⟨by rfl, ?_⟩) (by assumption) ?_
  rotate_left
  · (intro w hSw; (try dsimp only at hSw); go_simp) <;> with_reducible rfl
  try simp only [Act.put, List.setIfInBounds_toArray, List.set_cons_zero, List.set_cons_succ]
  refine wpAnyH_take (i := 4) (v := ?_) rlit4 (by kernel_rfl) (by kernel_rfl) (by kernel_rfl) (fun _ _ _ h => h) (Or.inl ⟨by rfl, ?_⟩) (by assumption) ?_
  rotate_left
  · (intro w hSw; (try dsimp only at hSw); go_simp) <;> with_reducible rfl
  try simp only [Act.put, List.setIfInBounds_toArray, List.set_cons_zero, List.set_cons_succ]
  refine wpAnyH_take (i := 5) (v := ?_) rlit5 (by kernel_rfl) (by kernel_rfl) (by kernel_rfl) (fun _ _ _ h => h) (Or.inl ⟨by rfl, ?_⟩) (by assumption) ?_
  rotate_left
  · (intro w hSw; (try dsimp only at hSw); go_simp) <;> with_reducible rfl
  try simp only [Act.put, List.setIfInBounds_toArray, List.set_cons_zero, List.set_cons_succ]
  refine wpAnyH_take (i := 6) (v := ?_) rlit6 (by kernel_rfl) (by kernel_rfl) (by kernel_rfl) (fun _ _ _ h => h) (Or.inl ⟨by rfl, ?_⟩) (by assumption) ?_
  rotate_left
  · (intro w hSw; (try dsimp only at hSw); go_simp) <;> with_reducible rfl
  try simp only [Act.put, List.setIfInBounds_toArray, List.set_cons_zero, List.set_cons_succ]
  refine wpAnyH_take (i := 7) (v := ?_) rlit7 (by kernel_rfl) (by kernel_rfl) (by kernel_rfl) (fun _ _ _ h => h) (Or.inl ⟨by rfl, ?_⟩) (by assumption) ?_
  rotate_left
  · (intro w hSw; (try dsimp only at hSw); go_simp) <;> with_reducible rfl
  try simp only [Act.put, List.setIfInBounds_toArray, List.set_cons_zero, List.set_cons_succ]
  refine wpAnyH_take (i := 8) (v := ?_) rlit8 (by kernel_rfl) (by kernel_rfl) (by kernel_rfl) (fun _ _ _ h => h) (Or.inl ⟨by rfl, ?_⟩) (by assumption) ?_
  rotate_left
  · (intro w hSw; (try dsimp only at hSw); go_simp) <;> with_reducible rfl
  try simp only [Act.put, List.setIfInBounds_toArray, List.set_cons_zero, List.set_cons_succ]
  refine wpAnyH_take (i := 9) (v := ?_) rlit9 (by kernel_rfl) (by kernel_rfl) (by kernel_rfl) (fun _ _ _ h => h) (Or.inl ⟨by rfl, ?_⟩) (by assumption) ?_
  rotate_left
  · (intro w hSw; (try dsimp only at hSw); go_simp) <;> with_reducible rfl
  try simp only [Act.put, List.setIfInBounds_toArray, List.set_cons_zero, List.set_cons_succ]
  refine wpAnyH_take (i := 10) (v := ?_) rlit10 (by kernel_rfl) (by kernel_rfl) (by kernel_rfl) (fun _ _ _ h => h) (Or.inl ⟨by rfl, ?_⟩) (by assumption) ?_
  rotate_left
  · (intro w hSw; (try dsimp only at hSw); go_simp) <;> with_reducible rfl
  try simp only [Act.put, List.setIfInBounds_toArray, List.set_cons_zero, List.set_cons_succ]
  refine wpAnyH_take (i := 11) (v := ?_) rlit11 (by kernel_rfl) (by kernel_rfl) (by kernel_rfl) (fun _ _ _ h => h) (Or.inl ⟨by rfl, ?_⟩) (by assumption) ?_
  rotate_left
  · (intro w hSw; (try dsimp only at hSw); go_simp) <;> with_reducible rfl
  try simp only [Act.put, List.setIfInBounds_toArray, List.set_cons_zero, List.set_cons_succ]
  refine wpAnyH_take (i := 12) (v := ?_) rlit12 (by kernel_rfl) (by kernel_rfl) (by kernel_rfl) (fun _ _ _ h => h) (Or.inl ⟨by rfl, ?_⟩) (by assumption) ?_
  rotate_left
  · (intro w hSw; (try dsimp only at hSw); go_simp) <;> with_reducible rfl
  try simp only [Act.put, List.setIfInBounds_toArray, List.set_cons_zero, List.set_cons_succ]
  refine wpAnyH_take (i := 13) (v := ?_) rlit13 (by kernel_rfl) (by kernel_rfl) (by kernel_rfl) (fun _ _ _ h => h) (Or.inl ⟨by rfl, ?_⟩) (by assumption) ?_
  rotate_left
  · (intro w hSw; (try dsimp only at hSw); go_simp) <;> with_reducible rfl
  try simp only [Act.put, List.setIfInBounds_toArray, List.set_cons_zero, List.set_cons_succ]
  refine wpAnyH_take (i := 14) (v := ?_) rlit14 (by kernel_rfl) (by kernel_rfl) (by kernel_rfl) (fun _ _ _ h => h) (Or.inl ⟨by rfl, ?_⟩) (by assumption) ?_
  rotate_left
  · (intro w hSw; (try dsimp only at hSw); go_simp) <;> with_reducible rfl
  try simp only [Act.put, List.setIfInBounds_toArray, List.set_cons_zero, List.set_cons_succ]
  refine wpAnyH_take (i := 15) (v := ?_) rlit15 (by kernel_rfl) (by kernel_rfl) (by kernel_rfl) (fun _ _ _ h => h) (Or.inl ⟨by rfl, ?_⟩) (by assumption) ?_
  rotate_left
  · (intro w hSw; (try dsimp only at hSw); go_simp) <;> with_reducible rfl
  try simp only [Act.put, List.setIfInBounds_toArray, List.set_cons_zero, List.set_cons_succ]
  refine wpAnyH_take (i := 16) (v := ?_) rlit16 (by kernel_rfl) (by kernel_rfl) (by kernel_rfl) (fun _ _ _ h => h) (Or.inl ⟨by rfl, ?_⟩) (by assumption) ?_
  rotate_left
  · (intro w hSw; (try dsimp only at hSw); go_simp) <;> with_reducible rfl
  try simp only [Act.put, List.setIfInBounds_toArray, List.set_cons_zero, List.set_cons_succ]
  refine wpAnyH_take (i := 17) (v := ?_) rlit17 (by kernel_rfl) (by kernel_rfl) (by kernel_rfl) (fun _ _ _ h => h) (Or.inl ⟨by rfl, ?_⟩) (by assumption) ?_
  rotate_left
  · (intro w hSw; (try dsimp only at hSw); go_simp) <;> with_reducible rfl
  try simp only [Act.put, List.setIfInBounds_toArray, List.set_cons_zero, List.set_cons_succ]
  refine wpAnyH_take (i := 18) (v := ?_) rlit18 (by kernel_rfl) (by kernel_rfl) (by kernel_rfl) (fun _ _ _ h => h) (Or.inl ⟨by rfl, ?_⟩) (by assumption) ?_
  rotate_left
  · (intro w hSw; (try dsimp only at hSw); go_simp) <;> with_reducible rfl
  try simp only [Act.put, List.setIfInBounds_toArray, List.set_cons_zero, List.set_cons_succ]
  refine wpAnyH_take (i := 19) (v := ?_) rlit19 (by kernel_rfl) (by kernel_rfl) (by kernel_rfl) (fun _ _ _ h => h) (Or.inl ⟨by rfl, ?_⟩) (by assumption) ?_
  rotate_left
  · (intro w hSw; (try dsimp only at hSw); go_simp) <;> with_reducible rfl
  try simp only [Act.put, List.setIfInBounds_toArray, List.set_cons_zero, List.set_cons_succ]
  refine wpAnyH_take (i := 20) (v := ?_) rlit20 (by kernel_rfl) (by kernel_rfl) (by kernel_rfl) (fun _ _ _ h => h) (Or.inl ⟨by rfl, ?_⟩) (by assumption) ?_
  rotate_left
  · (intro w hSw; (try dsimp only at hSw); go_simp) <;> with_reducible rfl
  try simp only [Act.put, List.setIfInBounds_toArray, List.set_cons_zero, List.set_cons_succ]
  refine wpAnyH_ready (rs := [21]) (by kernel_rfl) (by simp) ?_
  refine AllReadyH.cons rlit21 (fun K hK => ?_) AllReadyH.nil
  go_simp
  go_at_call 64
  rw [HE1.out]
  refine (rdigit_any _ (byteAt_lt _ _) _).mono ?_
  rintro e wx ⟨rfl, rfl⟩
  rw [HD.out]
  refine hK.out _ _ ⟨a0, a1⟩ (fun hHeld => ?_)
  clear hK K
  try simp only [Act.put, List.setIfInBounds_toArray, List.set_cons_zero, List.set_cons_succ]
  refine wpAnyH_take (i := 22) (v := ?_) rlit22 (by kernel_rfl) (by kernel_rfl) (by kernel_rfl) (fun _ _ _ h => h) (Or.inl ⟨by rfl, ?_⟩) (by assumption) ?_
  rotate_left
  · (intro w hSw; (try dsimp only at hSw); go_simp) <;> with_reducible rfl
  try simp only [Act.put, List.setIfInBounds_toArray, List.set_cons_zero, List.set_cons_succ]
  refine wpAnyH_take (i := 23) (v := ?_) rlit23 (by kernel_rfl) (by kernel_rfl) (by kernel_rfl) (fun _ _ _ h => h) (Or.inl ⟨by rfl, ?_⟩) (by assumption) ?_
  rotate_left
  · (intro w hSw; (try dsimp only at hSw); go_simp) <;> with_reducible rfl
  try simp only [Act.put, List.setIfInBounds_toArray, List.set_cons_zero, List.set_cons_succ]
  refine wpAnyH_take (i := 24) (v := ?_) rlit24 (by kernel_rfl) (by kernel_rfl) (by kernel_rfl) (fun _ _ _ h => h) (Or.inl ⟨by rfl, ?_⟩) (by assumption) ?_
  rotate_left
  · (intro w hSw; (try dsimp only at hSw); go_simp) <;> with_reducible rfl
  try simp only [Act.put, List.setIfInBounds_toArray, List.set_cons_zero, List.set_cons_succ]
  refine wpAnyH_take (i := 25) rlit25 (by kernel_rfl) (by kernel_rfl) (by kernel_rfl) (fun _ _ _ h => h) (Or.inr ⟨by rfl, rfl⟩) (by assumption) ?_
  try simp only [Act.put, List.setIfInBounds_toArray, List.set_cons_zero, List.set_cons_succ]
  refine wpAnyH_take (i := 26) rlit26 (by kernel_rfl) (by kernel_rfl) (by kernel_rfl) (fun _ _ _ h => h) (Or.inr ⟨by rfl, rfl⟩) (by assumption) ?_
  try simp only [Act.put, List.setIfInBounds_toArray, List.set_cons_zero, List.set_cons_succ]
  refine wpAnyH_take (i := 27) rlit27 (by kernel_rfl) (by kernel_rfl) (by kernel_rfl) (fun _ _ _ h => h) (Or.inr ⟨by rfl, rfl⟩) (by assumption) ?_
  try simp only [Act.put, List.setIfInBounds_toArray, List.set_cons_zero, List.set_cons_succ]
  refine wpAnyH_take (i := 28) rlit28 (by kernel_rfl) (by kernel_rfl) (by kernel_rfl) (fun _ _ _ h => h) (Or.inr ⟨by rfl, rfl⟩) (by assumption) ?_
  try simp only [Act.put, List.setIfInBounds_toArray, List.set_cons_zero, List.set_cons_succ]
  refine wpAnyH_take (i := 29) rlit29 (by kernel_rfl) (by kernel_rfl) (by kernel_rfl) (fun _ _ _ h => h) (Or.inr ⟨by rfl, rfl⟩) (by assumption) ?_
  try simp only [Act.put, List.setIfInBounds_toArray, List.set_cons_zero, List.set_cons_succ]
  refine wpAnyH_take (i := 30) rlit30 (by kernel_rfl) (by kernel_rfl) (by kernel_rfl) (fun _ _ _ h => h) (Or.inr ⟨by rfl, rfl⟩) (by assumption) ?_
  try simp only [Act.put, List.setIfInBounds_toArray, List.set_cons_zero, List.set_cons_succ]
  refine wpAnyH_take (i := 31) rlit31 (by kernel_rfl) (by kernel_rfl) (by kernel_rfl) (fun _ _ _ h => h) (Or.inr ⟨by rfl, rfl⟩) (by assumption) ?_
  try simp only [Act.put, List.setIfInBounds_toArray, List.set_cons_zero, List.set_cons_succ]
  refine wpAnyH_take (i := 32) rlit32 (by kernel_rfl) (by kernel_rfl) (by kernel_rfl) (fun _ _ _ h => h) (Or.inr ⟨by rfl, rfl⟩) (by assumption) ?_
  try simp only [Act.put, List.setIfInBounds_toArray, List.set_cons_zero, List.set_cons_succ]
  refine wpAnyH_take (i := 33) rlit33 (by kernel_rfl) (by kernel_rfl) (by kernel_rfl) (fun _ _ _ h => h) (Or.inr ⟨by rfl, rfl⟩) (by assumption) ?_
  try simp only [Act.put, List.setIfInBounds_toArray, List.set_cons_zero, List.set_cons_succ]
  refine wpAnyH_take (i := 34) rlit34 (by kernel_rfl) (by kernel_rfl) (by kernel_rfl) (fun _ _ _ h => h) (Or.inr ⟨by rfl, rfl⟩) (by assumption) ?_
  try simp only [Act.put, List.setIfInBounds_toArray, List.set_cons_zero, List.set_cons_succ]
  refine wpAnyH_take (i := 35) rlit35 (by kernel_rfl) (by kernel_rfl) (by kernel_rfl) (fun _ _ _ h => h) (Or.inr ⟨by rfl, rfl⟩) (by assumption) ?_
  try simp only [Act.put, List.setIfInBounds_toArray, List.set_cons_zero, List.set_cons_succ]
  refine wpAnyH_take (i := 36) rlit36 (by kernel_rfl) (by kernel_rfl) (by kernel_rfl) (fun _ _ _ h => h) (Or.inr ⟨by rfl, rfl⟩) (by assumption) ?_
  try simp only [Act.put, List.setIfInBounds_toArray, List.set_cons_zero, List.set_cons_succ]
  refine wpAnyH_take (i := 37) (v := ?_) rlit37 (by kernel_rfl) (by kernel_rfl) (by kernel_rfl) (fun _ _ _ h => h) (Or.inl ⟨by rfl, ?_⟩) (by assumption) ?_
  rotate_left
  · (intro w hSw; (try dsimp only at hSw); go_simp) <;> with_reducible rfl
  try simp only [Act.put, List.setIfInBounds_toArray, List.set_cons_zero, List.set_cons_succ]
  refine wpAnyH_done (by kernel_rfl) ?_ _
  go_wp2_with fail
  go_ret
  exact ⟨rfl, rr_bad HB2 true, (HF2.out.drewN 1).setCell (p := ⟨d, 2, none⟩) (.inl rfl) _⟩

set_option maxRecDepth 100000 in
set_option maxHeartbeats 2000000 in
theorem rchar_x3 (s : ByteArray) (p d : Nat) (bad many : Bool) (w : World) (hs : s.size ≤ 1000) (hb : w.heap[d]? = some (rrObj s p bad many)) (h : p + 1 < s.size) (hv : (s[p + 1]'h).toNat = 120) (h3 : p + 3 < s.size) (a : Nat) (hd : digitV (byteAt s (p + 2)) = some a) (he : digitV (byteAt s (p + 3)) = none) :
    Calls Try.prog 55 #[.pointer (some ⟨d, 0, none⟩)] w fun e w' => e = .returned (.int .u8 0) ∧ w'.heap[d]? = some (rrObj s (p + 2) true many) ∧ Fr (at1 d) w w' := by
  obtain ⟨q, hq⟩ : ∃ q, p + 2 = q := ⟨_, rfl⟩
  try rw [hq]
  have HB1 := rr_step hb (p + 1)
  have c1 : w.cell? ⟨d, 1, none⟩ = some (.int .i64 p) := cell_of_block hb rfl
  have f1 : w.frozen? ⟨d, 1, none⟩ = false := free_of_block hb
  have HF1 := ((Fr.refl (at1 d) w).setCell (p := ⟨d, 1, none⟩) (.inl rfl) (.int .i64 ((p + 1 : Nat) : Int)))
  obtain ⟨w1, hw1⟩ : ∃ x, w.setCell ⟨d, 1, none⟩ (.int .i64 ((p + 1 : Nat) : Int)) = x := ⟨_, rfl⟩
  have HW1 := Lib.hid hw1
  rw [hw1] at HB1 HF1
  have HF2 := fun n => (HF1.drewN n).setCell (p := ⟨d, 1, none⟩) (.inl rfl) (.int .i64 (q : Int))
  have HB2 : ∀ n, ((w1.drewN n).setCell ⟨d, 1, none⟩ (.int .i64 (q : Int))).heap[d]? = some (rrObj s q bad many) := fun n => rr_step (w := w1.drewN n) HB1 q
  have e0 : w1.cell? ⟨d, 0, none⟩ = some (.string s) := cell_of_block HB1 rfl
  have e1 : w1.cell? ⟨d, 1, none⟩ = some (.int .i64 ((p + 1 : Nat) : Int)) := cell_of_block HB1 rfl
  have g1 : w1.frozen? ⟨d, 1, none⟩ = false := free_of_block HB1
  have hp3 : (0 : Int) ≤ ((p + 1 : Nat) : Int) := by omega
  have hp4 : ((p + 1 : Nat) : Int) < (s.size : Int) := by omega
  have hge : decide ((s.size : Int) ≤ ((p + 1 : Nat) : Int)) = false := by simp; omega
  clear hb hw1 HF1
  go_enter Try.func55, Try.ntmps55
  go_wp2_with fail
  try rw [show ((p : Int) + 1) = ((p + 1 : Nat) : Int) by omega]
  rw [HW1.out]
  go_quiet (fail)
  obtain ⟨n0, rfl⟩ : ∃ n, n = nq := ⟨_, rfl⟩
  go_wp2_with fail
  go_quiet (fail)
  go_wp2_with fail
  rw [show ((p : Int) + 1 + 1) = (q : Int) by omega]
  replace HF2 := Lib.hid (HF2 (n0 + nq))
  replace HB2 := HB2 (n0 + nq)
  generalize hw2 : (w1.drewN (n0 + nq)).setCell ⟨d, 1, none⟩ (.int .i64 (q : Int)) = w2
  rw [hw2] at HF2 HB2
  have a0 : w2.cell? ⟨d, 0, none⟩ = some (.string s) := cell_of_block HB2 rfl
  have a1 : w2.cell? ⟨d, 1, none⟩ = some (.int .i64 (q : Int)) := cell_of_block HB2 rfl
  have a2 : w2.cell? ⟨d, 2, none⟩ = some (.bool bad) := cell_of_block HB2 rfl
  have a3 : w2.frozen? ⟨d, 2, none⟩ = false := free_of_block HB2
  clear hw2
  have hwr : IntKind.i64.wrap ((q : Int) + 1) = (q : Int) + 1 := wrap_sm _ (by omega) (by omega)
  have b0 : (0 : Int) ≤ (q : Int) := by omega
  have b1 : (q : Int) < (s.size : Int) := by omega
  have b2 : (0 : Int) ≤ (q : Int) + 1 := by omega
  have b3 : (q : Int) + 1 < (s.size : Int) := by omega
  have hlt : decide ((q : Int) + 1 < (s.size : Int)) = true := by simp; omega
  have HE1 := Lib.hid (byteAt_eq s q (by omega))
  have HE2 := Lib.hid (byteAt_eq s (q + 1) (by omega))
  have HD := Lib.hid (show digitI (byteAt s q) = (a : Int) by rw [← hq, digitI, hd])
  have ha0 : (0 : Int) ≤ (a : Int) := by omega
  have hal := digitV_lt hd
  clear hd
  have HD2 := Lib.hid (show digitI (byteAt s (q + 1)) = -1 by rw [← hq, digitI, he])
  clear he
  refine wp_region_held_drew (S := (fun w' => w'.cell? ⟨d, 0, none⟩ = some (.string s) ∧ w'.cell? ⟨d, 1, none⟩ = some (.int .i64 (q : Int)))) (by kernel_rfl) ⟨a0, a1⟩ (fun hHeld => ?_)
  refine wpAnyH_take (i := 0) (v := ?_) rlit0 (by kernel_rfl) (by kernel_rfl) (by kernel_rfl) (fun _ _ _ h => h) (Or.inl ⟨by rfl, ?_⟩) (by assumption) ?_
  rotate_left
  · (intro w hSw; (try dsimp only at hSw); go_simp) <;> with_reducible rfl
  try simp only [Act.put, List.setIfInBounds_toArray, List.set_cons_zero, List.set_cons_succ]
  refine wpAnyH_take (i := 1) (v := ?_) rlit1 (by kernel_rfl) (by kernel_rfl) (by kernel_rfl) (fun _ _ _ h => h) (Or.inl ⟨by rfl, ?_⟩) (by assumption) ?_
  rotate_left
  · (intro w hSw; (try dsimp only at hSw); go_simp) <;> with_reducible rfl
  try simp only [Act.put, List.setIfInBounds_toArray, List.set_cons_zero, List.set_cons_succ]
  refine wpAnyH_take (i := 2) (v := ?_) rlit2 (by kernel_rfl) (by kernel_rfl) (by kernel_rfl) (fun _ _ _ h => h) (Or.inl ⟨by rfl, ?_⟩) (by assumption) ?_
  rotate_left
  · (intro w hSw; (try dsimp only at hSw); go_simp) <;> with_reducible rfl
  try simp only [Act.put, List.setIfInBounds_toArray, List.set_cons_zero, List.set_cons_succ]
  refine wpAnyH_take (i := 3) (v := ?_) rlit3 (by kernel_rfl) (by kernel_rfl) (by kernel_rfl) (fun _ _ _ h => h) (Or.inl ⟨by rfl, ?_⟩) (by assumption) ?_
  rotate_left
  · (intro w hSw; (try dsimp only at hSw); go_simp) <;> with_reducible rfl
  try simp only [Act.put, List.setIfInBounds_toArray, List.set_cons_zero, List.set_cons_succ]
  refine wpAnyH_take (i := 4) (v := ?_) rlit4 (by kernel_rfl) (by kernel_rfl) (by kernel_rfl) (fun _ _ _ h => h) (Or.inl ⟨by rfl, ?_⟩) (by assumption) ?_
  rotate_left
  · (intro w hSw; (try dsimp only at hSw); go_simp) <;> with_reducible rfl
  try simp only [Act.put, List.setIfInBounds_toArray, List.set_cons_zero, List.set_cons_succ]
  refine wpAnyH_take (i := 5) (v := ?_) rlit5 (by kernel_rfl) (by kernel_rfl) (by kernel_rfl) (fun _ _ _ h => h) (Or.inl ⟨by rfl, ?_⟩) (by assumption) ?_
  rotate_left
  · (intro w hSw; (try dsimp only at hSw); go_simp) <;> with_reducible rfl
  try simp only [Act.put, List.setIfInBounds_toArray, List.set_cons_zero, List.set_cons_succ]
  refine wpAnyH_take (i := 6) (v := ?_) rlit6 (by kernel_rfl) (by kernel_rfl) (by kernel_rfl) (fun _ _ _ h => h) (Or.inl ⟨by rfl, ?_⟩) (by assumption) ?_
  rotate_left
  · (intro w hSw; (try dsimp only at hSw); go_simp) <;> with_reducible rfl
  try simp only [Act.put, List.setIfInBounds_toArray, List.set_cons_zero, List.set_cons_succ]
  refine wpAnyH_take (i := 7) (v := ?_) rlit7 (by kernel_rfl) (by kernel_rfl) (by kernel_rfl) (fun _ _ _ h => h) (Or.inl ⟨by rfl, ?_⟩) (by assumption) ?_
  rotate_left
  · (intro w hSw; (try dsimp only at hSw); go_simp) <;> with_reducible rfl
  try simp only [Act.put, List.setIfInBounds_toArray, List.set_cons_zero, List.set_cons_succ]
  refine wpAnyH_take (i := 8) (v := ?_) rlit8 (by kernel_rfl) (by kernel_rfl) (by kernel_rfl) (fun _ _ _ h => h) (Or.inl ⟨by rfl, ?_⟩) (by assumption) ?_
  rotate_left
  · (intro w hSw; (try dsimp only at hSw); go_simp) <;> with_reducible rfl
  try simp only [Act.put, List.setIfInBounds_toArray, List.set_cons_zero, List.set_cons_succ]
  refine wpAnyH_take (i := 9) (v := ?_) rlit9 (by kernel_rfl) (by kernel_rfl) (by kernel_rfl) (fun _ _ _ h => h) (Or.inl ⟨by rfl, ?_⟩) (by assumption) ?_
  rotate_left
  · (intro w hSw; (try dsimp only at hSw); go_simp) <;> with_reducible rfl
  try simp only [Act.put, List.setIfInBounds_toArray, List.set_cons_zero, List.set_cons_succ]
  refine wpAnyH_take (i := 10) (v := ?_) rlit10 (by kernel_rfl) (by kernel_rfl) (by kernel_rfl) (fun _ _ _ h => h) (Or.inl ⟨by rfl, ?_⟩) (by assumption) ?_
  rotate_left
  · (intro w hSw; (try dsimp only at hSw); go_simp) <;> with_reducible rfl
  try simp only [Act.put, List.setIfInBounds_toArray, List.set_cons_zero, List.set_cons_succ]
  refine wpAnyH_take (i := 11) (v := ?_) rlit11 (by kernel_rfl) (by kernel_rfl) (by kernel_rfl) (fun _ _ _ h => h) (Or.inl ⟨by rfl, ?_⟩) (by assumption) ?_
  rotate_left
  · (intro w hSw; (try dsimp only at hSw); go_simp) <;> with_reducible rfl
  try simp only [Act.put, List.setIfInBounds_toArray, List.set_cons_zero, List.set_cons_succ]
  refine wpAnyH_take (i := 12) (v := ?_) rlit12 (by kernel_rfl) (by kernel_rfl) (by kernel_rfl) (fun _ _ _ h => h) (Or.inl ⟨by rfl, ?_⟩) (by assumption) ?_
  rotate_left
  · (intro w hSw; (try dsimp only at hSw); go_simp) <;> with_reducible rfl
  try simp only [Act.put, List.setIfInBounds_toArray, List.set_cons_zero, List.set_cons_succ]
  refine wpAnyH_take (i := 13) (v := ?_) rlit13 (by kernel_rfl) (by kernel_rfl) (by kernel_rfl) (fun _ _ _ h => h) (Or.inl ⟨by rfl, ?_⟩) (by assumption) ?_
  rotate_left
  · (intro w hSw; (try dsimp only at hSw); go_simp) <;> with_reducible rfl
  try simp only [Act.put, List.setIfInBounds_toArray, List.set_cons_zero, List.set_cons_succ]
  refine wpAnyH_take (i := 14) (v := ?_) rlit14 (by kernel_rfl) (by kernel_rfl) (by kernel_rfl) (fun _ _ _ h => h) (Or.inl ⟨by rfl, ?_⟩) (by assumption) ?_
  rotate_left
  · (intro w hSw; (try dsimp only at hSw); go_simp) <;> with_reducible rfl
  try simp only [Act.put, List.setIfInBounds_toArray, List.set_cons_zero, List.set_cons_succ]
  refine wpAnyH_take (i := 15) (v := ?_) rlit15 (by kernel_rfl) (by kernel_rfl) (by kernel_rfl) (fun _ _ _ h => h) (Or.inl ⟨by rfl, ?_⟩) (by assumption) ?_
  rotate_left
  · (intro w hSw; (try dsimp only at hSw); go_simp) <;> with_reducible rfl
  try simp only [Act.put, List.setIfInBounds_toArray, List.set_cons_zero, List.set_cons_succ]
  refine wpAnyH_take (i := 16) (v := ?_) rlit16 (by kernel_rfl) (by kernel_rfl) (by kernel_rfl) (fun _ _ _ h => h) (Or.inl ⟨by rfl, ?_⟩) (by assumption) ?_
  rotate_left
  · (intro w hSw; (try dsimp only at hSw); go_simp) <;> with_reducible rfl
  try simp only [Act.put, List.setIfInBounds_toArray, List.set_cons_zero, List.set_cons_succ]
  refine wpAnyH_take (i := 17) (v := ?_) rlit17 (by kernel_rfl) (by kernel_rfl) (by kernel_rfl) (fun _ _ _ h => h) (Or.inl ⟨by rfl, ?_⟩) (by assumption) ?_
  rotate_left
  · (intro w hSw; (try dsimp only at hSw); go_simp) <;> with_reducible rfl
  try simp only [Act.put, List.setIfInBounds_toArray, List.set_cons_zero, List.set_cons_succ]
  refine wpAnyH_take (i := 18) (v := ?_) rlit18 (by kernel_rfl) (by kernel_rfl) (by kernel_rfl) (fun _ _ _ h => h) (Or.inl ⟨by rfl, ?_⟩) (by assumption) ?_
  rotate_left
  · (intro w hSw; (try dsimp only at hSw); go_simp) <;> with_reducible rfl
  try simp only [Act.put, List.setIfInBounds_toArray, List.set_cons_zero, List.set_cons_succ]
  refine wpAnyH_take (i := 19) (v := ?_) rlit19 (by kernel_rfl) (by kernel_rfl) (by kernel_rfl) (fun _ _ _ h => h) (Or.inl ⟨by rfl, ?_⟩) (by assumption) ?_
  rotate_left
  · (intro w hSw; (try dsimp only at hSw); go_simp) <;> with_reducible rfl
  try simp only [Act.put, List.setIfInBounds_toArray, List.set_cons_zero, List.set_cons_succ]
  refine wpAnyH_take (i := 20) (v := ?_) rlit20 (by kernel_rfl) (by kernel_rfl) (by kernel_rfl) (fun _ _ _ h => h) (Or.inl ⟨by rfl, ?_⟩) (by assumption) ?_
  rotate_left
  · (intro w hSw; (try dsimp only at hSw); go_simp) <;> with_reducible rfl
  try simp only [Act.put, List.setIfInBounds_toArray, List.set_cons_zero, List.set_cons_succ]
  refine wpAnyH_ready (rs := [21]) (by kernel_rfl) (by simp) ?_
  refine AllReadyH.cons rlit21 (fun K hK => ?_) AllReadyH.nil
  go_simp
  go_at_call 64
  rw [HE1.out]
  refine (rdigit_any _ (byteAt_lt _ _) _).mono ?_
  rintro e wx ⟨rfl, rfl⟩
  rw [HD.out]
  refine hK.out _ _ ⟨a0, a1⟩ (fun hHeld => ?_)
  clear hK K
  try simp only [Act.put, List.setIfInBounds_toArray, List.set_cons_zero, List.set_cons_succ]
  refine wpAnyH_take (i := 22) (v := ?_) rlit22 (by kernel_rfl) (by kernel_rfl) (by kernel_rfl) (fun _ _ _ h => h) (Or.inl ⟨by rfl, ?_⟩) (by assumption) ?_
  rotate_left
  · (intro w hSw; (try dsimp only at hSw); go_simp) <;> with_reducible rfl
  try simp only [Act.put, List.setIfInBounds_toArray, List.set_cons_zero, List.set_cons_succ]
  refine wpAnyH_take (i := 23) (v := ?_) rlit23 (by kernel_rfl) (by kernel_rfl) (by kernel_rfl) (fun _ _ _ h => h) (Or.inl ⟨by rfl, ?_⟩) (by assumption) ?_
  rotate_left
  · (intro w hSw; (try dsimp only at hSw); go_simp) <;> with_reducible rfl
  try simp only [Act.put, List.setIfInBounds_toArray, List.set_cons_zero, List.set_cons_succ]
  refine wpAnyH_take (i := 24) (v := ?_) rlit24 (by kernel_rfl) (by kernel_rfl) (by kernel_rfl) (fun _ _ _ h => h) (Or.inl ⟨by rfl, ?_⟩) (by assumption) ?_
  rotate_left
  · (intro w hSw; (try dsimp only at hSw); go_simp) <;> with_reducible rfl
  try simp only [Act.put, List.setIfInBounds_toArray, List.set_cons_zero, List.set_cons_succ]
  refine wpAnyH_take (i := 25) (v := ?_) rlit25 (by kernel_rfl) (by kernel_rfl) (by kernel_rfl) (fun _ _ _ h => h) (Or.inl ⟨by rfl, ?_⟩) (by assumption) ?_
  rotate_left
  · (intro w hSw; (try dsimp only at hSw); go_simp) <;> with_reducible rfl
  try simp only [Act.put, List.setIfInBounds_toArray, List.set_cons_zero, List.set_cons_succ]
  refine wpAnyH_take (i := 26) (v := ?_) rlit26 (by kernel_rfl) (by kernel_rfl) (by kernel_rfl) (fun _ _ _ h => h) (Or.inl ⟨by rfl, ?_⟩) (by assumption) ?_
  rotate_left
  · (intro w hSw; (try dsimp only at hSw); go_simp) <;> with_reducible rfl
  try simp only [Act.put, List.setIfInBounds_toArray, List.set_cons_zero, List.set_cons_succ]
  refine wpAnyH_take (i := 27) (v := ?_) rlit27 (by kernel_rfl) (by kernel_rfl) (by kernel_rfl) (fun _ _ _ h => h) (Or.inl ⟨by rfl, ?_⟩) (by assumption) ?_
  rotate_left
  · (intro w hSw; (try dsimp only at hSw); go_simp) <;> with_reducible rfl
  try simp only [Act.put, List.setIfInBounds_toArray, List.set_cons_zero, List.set_cons_succ]
  refine wpAnyH_take (i := 28) (v := ?_) rlit28 (by kernel_rfl) (by kernel_rfl) (by kernel_rfl) (fun _ _ _ h => h) (Or.inl ⟨by rfl, ?_⟩) (by assumption) ?_
  rotate_left
  · (intro w hSw; (try dsimp only at hSw); go_simp) <;> with_reducible rfl
  try simp only [Act.put, List.setIfInBounds_toArray, List.set_cons_zero, List.set_cons_succ]
  refine wpAnyH_take (i := 29) (v := ?_) rlit29 (by kernel_rfl) (by kernel_rfl) (by kernel_rfl) (fun _ _ _ h => h) (Or.inl ⟨by rfl, ?_⟩) (by assumption) ?_
  rotate_left
  · (intro w hSw; (try dsimp only at hSw); go_simp) <;> with_reducible rfl
  try simp only [Act.put, List.setIfInBounds_toArray, List.set_cons_zero, List.set_cons_succ]
  refine wpAnyH_take (i := 30) (v := ?_) rlit30 (by kernel_rfl) (by kernel_rfl) (by kernel_rfl) (fun _ _ _ h => h) (Or.inl ⟨by rfl, ?_⟩) (by assumption) ?_
  rotate_left
  · (intro w hSw; (try dsimp only at hSw); go_simp) <;> with_reducible rfl
  try simp only [Act.put, List.setIfInBounds_toArray, List.set_cons_zero, List.set_cons_succ]
  refine wpAnyH_take (i := 31) (v := ?_) rlit31 (by kernel_rfl) (by kernel_rfl) (by kernel_rfl) (fun _ _ _ h => h) (Or.inl ⟨by rfl, ?_⟩) (by assumption) ?_
  rotate_left
  · (intro w hSw; (try dsimp only at hSw); go_simp) <;> with_reducible rfl
  try simp only [Act.put, List.setIfInBounds_toArray, List.set_cons_zero, List.set_cons_succ]
  refine wpAnyH_take (i := 32) (v := ?_) rlit32 (by kernel_rfl) (by kernel_rfl) (by kernel_rfl) (fun _ _ _ h => h) (Or.inl ⟨by rfl, ?_⟩) (by assumption) ?_
  rotate_left
  · (intro w hSw; (try dsimp only at hSw); go_simp) <;> with_reducible rfl
  try simp only [Act.put, List.setIfInBounds_toArray, List.set_cons_zero, List.set_cons_succ]
  refine wpAnyH_take (i := 33) (v := ?_) rlit33 (by kernel_rfl) (by kernel_rfl) (by kernel_rfl) (fun _ _ _ h => h) (Or.inl ⟨by rfl, ?_⟩) (by assumption) ?_
  rotate_left
  · (intro w hSw; (try dsimp only at hSw); go_simp) <;> with_reducible rfl
  try simp only [Act.put, List.setIfInBounds_toArray, List.set_cons_zero, List.set_cons_succ]
  refine wpAnyH_take (i := 34) (v := ?_) rlit34 (by kernel_rfl) (by kernel_rfl) (by kernel_rfl) (fun _ _ _ h => h) (Or.inl ⟨by rfl, ?_⟩) (by assumption) ?_
  rotate_left
  · (intro w hSw; (try dsimp only at hSw); go_simp) <;> with_reducible rfl
  try simp only [Act.put, List.setIfInBounds_toArray, List.set_cons_zero, List.set_cons_succ]
  refine wpAnyH_ready (rs := [35]) (by kernel_rfl) (by simp) ?_
  refine AllReadyH.cons rlit35 (fun K hK => ?_) AllReadyH.nil
  go_simp
  go_at_call 64
  rw [HE2.out]
  refine (rdigit_any _ (byteAt_lt _ _) _).mono ?_
  rintro e wx ⟨rfl, rfl⟩
  rw [HD2.out]
  refine hK.out _ _ ⟨a0, a1⟩ (fun hHeld => ?_)
  clear hK K
  try simp only [Act.put, List.setIfInBounds_toArray, List.set_cons_zero, List.set_cons_succ]
  refine wpAnyH_take (i := 36) (v := ?_) rlit36 (by kernel_rfl) (by kernel_rfl) (by kernel_rfl) (fun _ _ _ h => h) (Or.inl ⟨by rfl, ?_⟩) (by assumption) ?_
  rotate_left
  · (intro w hSw; (try dsimp only at hSw); go_simp) <;> with_reducible rfl
  try simp only [Act.put, List.setIfInBounds_toArray, List.set_cons_zero, List.set_cons_succ]
  refine wpAnyH_take (i := 37) (v := ?_) rlit37 (by kernel_rfl) (by kernel_rfl) (by kernel_rfl) (fun _ _ _ h => h) (Or.inl ⟨by rfl, ?_⟩) (by assumption) ?_
  rotate_left
  · (intro w hSw; (try dsimp only at hSw); go_simp) <;> with_reducible rfl
  try simp only [Act.put, List.setIfInBounds_toArray, List.set_cons_zero, List.set_cons_succ]
  refine wpAnyH_done (by kernel_rfl) ?_ _
  go_wp2_with fail
  go_ret
  exact ⟨rfl, rr_bad HB2 true, (HF2.out.drewN 1).setCell (p := ⟨d, 2, none⟩) (.inl rfl) _⟩

set_option maxRecDepth 100000 in
set_option maxHeartbeats 2000000 in
theorem rchar_x4 (s : ByteArray) (p d : Nat) (bad many : Bool) (w : World) (hs : s.size ≤ 1000) (hb : w.heap[d]? = some (rrObj s p bad many)) (h : p + 1 < s.size) (hv : (s[p + 1]'h).toNat = 120) (h3 : p + 3 < s.size) (a b : Nat) (hd : digitV (byteAt s (p + 2)) = some a) (he : digitV (byteAt s (p + 3)) = some b) :
    Calls Try.prog 55 #[.pointer (some ⟨d, 0, none⟩)] w fun e w' => e = .returned (.int .u8 (a * 16 + b : Nat)) ∧ w'.heap[d]? = some (rrObj s (p + 4) bad many) ∧ Fr (at1 d) w w' := by
  obtain ⟨q, hq⟩ : ∃ q, p + 2 = q := ⟨_, rfl⟩
  try rw [hq]
  have HB1 := rr_step hb (p + 1)
  have c1 : w.cell? ⟨d, 1, none⟩ = some (.int .i64 p) := cell_of_block hb rfl
  have f1 : w.frozen? ⟨d, 1, none⟩ = false := free_of_block hb
  have HF1 := ((Fr.refl (at1 d) w).setCell (p := ⟨d, 1, none⟩) (.inl rfl) (.int .i64 ((p + 1 : Nat) : Int)))
  obtain ⟨w1, hw1⟩ : ∃ x, w.setCell ⟨d, 1, none⟩ (.int .i64 ((p + 1 : Nat) : Int)) = x := ⟨_, rfl⟩
  have HW1 := Lib.hid hw1
  rw [hw1] at HB1 HF1
  have HF2 := fun n => (HF1.drewN n).setCell (p := ⟨d, 1, none⟩) (.inl rfl) (.int .i64 (q : Int))
  have HB2 : ∀ n, ((w1.drewN n).setCell ⟨d, 1, none⟩ (.int .i64 (q : Int))).heap[d]? = some (rrObj s q bad many) := fun n => rr_step (w := w1.drewN n) HB1 q
  have e0 : w1.cell? ⟨d, 0, none⟩ = some (.string s) := cell_of_block HB1 rfl
  have e1 : w1.cell? ⟨d, 1, none⟩ = some (.int .i64 ((p + 1 : Nat) : Int)) := cell_of_block HB1 rfl
  have g1 : w1.frozen? ⟨d, 1, none⟩ = false := free_of_block HB1
  have hp3 : (0 : Int) ≤ ((p + 1 : Nat) : Int) := by omega
  have hp4 : ((p + 1 : Nat) : Int) < (s.size : Int) := by omega
  have hge : decide ((s.size : Int) ≤ ((p + 1 : Nat) : Int)) = false := by simp; omega
  clear hb hw1 HF1
  go_enter Try.func55, Try.ntmps55
  go_wp2_with fail
  try rw [show ((p : Int) + 1) = ((p + 1 : Nat) : Int) by omega]
  rw [HW1.out]
  go_quiet (fail)
  obtain ⟨n0, rfl⟩ : ∃ n, n = nq := ⟨_, rfl⟩
  go_wp2_with fail
  go_quiet (fail)
  go_wp2_with fail
  rw [show ((p : Int) + 1 + 1) = (q : Int) by omega]
  replace HF2 := Lib.hid (HF2 (n0 + nq))
  replace HB2 := HB2 (n0 + nq)
  generalize hw2 : (w1.drewN (n0 + nq)).setCell ⟨d, 1, none⟩ (.int .i64 (q : Int)) = w2
  rw [hw2] at HF2 HB2
  have a0 : w2.cell? ⟨d, 0, none⟩ = some (.string s) := cell_of_block HB2 rfl
  have a1 : w2.cell? ⟨d, 1, none⟩ = some (.int .i64 (q : Int)) := cell_of_block HB2 rfl
  have a2 : w2.cell? ⟨d, 2, none⟩ = some (.bool bad) := cell_of_block HB2 rfl
  have a3 : w2.frozen? ⟨d, 2, none⟩ = false := free_of_block HB2
  clear hw2
  have hwr : IntKind.i64.wrap ((q : Int) + 1) = (q : Int) + 1 := wrap_sm _ (by omega) (by omega)
  have b0 : (0 : Int) ≤ (q : Int) := by omega
  have b1 : (q : Int) < (s.size : Int) := by omega
  have b2 : (0 : Int) ≤ (q : Int) + 1 := by omega
  have b3 : (q : Int) + 1 < (s.size : Int) := by omega
  have hlt : decide ((q : Int) + 1 < (s.size : Int)) = true := by simp; omega
  have HE1 := Lib.hid (byteAt_eq s q (by omega))
  have HE2 := Lib.hid (byteAt_eq s (q + 1) (by omega))
  have HD := Lib.hid (show digitI (byteAt s q) = (a : Int) by rw [← hq, digitI, hd])
  have ha0 : (0 : Int) ≤ (a : Int) := by omega
  have hal := digitV_lt hd
  clear hd
  have HD2 := Lib.hid (show digitI (byteAt s (q + 1)) = (b : Int) by rw [← hq, digitI, he])
  have hb0 : (0 : Int) ≤ (b : Int) := by omega
  have hbl := digitV_lt he
  clear he
  refine wp_region_held_drew (S := (fun w' => w'.cell? ⟨d, 0, none⟩ = some (.string s) ∧ w'.cell? ⟨d, 1, none⟩ = some (.int .i64 (q : Int)))) (by kernel_rfl) ⟨a0, a1⟩ (fun hHeld => ?_)
  refine wpAnyH_take (i := 0) (v := ?_) rlit0 (by kernel_rfl) (by kernel_rfl) (by kernel_rfl) (fun _ _ _ h => h) (Or.inl ⟨by rfl, ?_⟩) (by assumption) ?_
  rotate_left
  · (intro w hSw; (try dsimp only at hSw); go_simp) <;> with_reducible rfl
  try simp only [Act.put, List.setIfInBounds_toArray, List.set_cons_zero, List.set_cons_succ]
  refine wpAnyH_take (i := 1) (v := ?_) rlit1 (by kernel_rfl) (by kernel_rfl) (by kernel_rfl) (fun _ _ _ h => h) (Or.inl ⟨by rfl, ?_⟩) (by assumption) ?_
  rotate_left
  · (intro w hSw; (try dsimp only at hSw); go_simp) <;> with_reducible rfl
  try simp only [Act.put, List.setIfInBounds_toArray, List.set_cons_zero, List.set_cons_succ]
  refine wpAnyH_take (i := 2) (v := ?_) rlit2 (by kernel_rfl) (by kernel_rfl) (by kernel_rfl) (fun _ _ _ h => h) (Or.inl ⟨by rfl, ?_⟩) (by assumption) ?_
  rotate_left
  · (intro w hSw; (try dsimp only at hSw); go_simp) <;> with_reducible rfl
  try simp only [Act.put, List.setIfInBounds_toArray, List.set_cons_zero, List.set_cons_succ]
  refine wpAnyH_take (i := 3) (v := ?_) rlit3 (by kernel_rfl) (by kernel_rfl) (by kernel_rfl) (fun _ _ _ h => h) (Or.inl ⟨by rfl, ?_⟩) (by assumption) ?_
  rotate_left
  · (intro w hSw; (try dsimp only at hSw); go_simp) <;> with_reducible rfl
  try simp only [Act.put, List.setIfInBounds_toArray, List.set_cons_zero, List.set_cons_succ]
  refine wpAnyH_take (i := 4) (v := ?_) rlit4 (by kernel_rfl) (by kernel_rfl) (by kernel_rfl) (fun _ _ _ h => h) (Or.inl ⟨by rfl, ?_⟩) (by assumption) ?_
  rotate_left
  · (intro w hSw; (try dsimp only at hSw); go_simp) <;> with_reducible rfl
  try simp only [Act.put, List.setIfInBounds_toArray, List.set_cons_zero, List.set_cons_succ]
  refine wpAnyH_take (i := 5) (v := ?_) rlit5 (by kernel_rfl) (by kernel_rfl) (by kernel_rfl) (fun _ _ _ h => h) (Or.inl ⟨by rfl, ?_⟩) (by assumption) ?_
  rotate_left
  · (intro w hSw; (try dsimp only at hSw); go_simp) <;> with_reducible rfl
  try simp only [Act.put, List.setIfInBounds_toArray, List.set_cons_zero, List.set_cons_succ]
  refine wpAnyH_take (i := 6) (v := ?_) rlit6 (by kernel_rfl) (by kernel_rfl) (by kernel_rfl) (fun _ _ _ h => h) (Or.inl ⟨by rfl, ?_⟩) (by assumption) ?_
  rotate_left
  · (intro w hSw; (try dsimp only at hSw); go_simp) <;> with_reducible rfl
  try simp only [Act.put, List.setIfInBounds_toArray, List.set_cons_zero, List.set_cons_succ]
  refine wpAnyH_take (i := 7) (v := ?_) rlit7 (by kernel_rfl) (by kernel_rfl) (by kernel_rfl) (fun _ _ _ h => h) (Or.inl ⟨by rfl, ?_⟩) (by assumption) ?_
  rotate_left
  · (intro w hSw; (try dsimp only at hSw); go_simp) <;> with_reducible rfl
  try simp only [Act.put, List.setIfInBounds_toArray, List.set_cons_zero, List.set_cons_succ]
  refine wpAnyH_take (i := 8) (v := ?_) rlit8 (by kernel_rfl) (by kernel_rfl) (by kernel_rfl) (fun _ _ _ h => h) (Or.inl ⟨by rfl, ?_⟩) (by assumption) ?_
  rotate_left
  · (intro w hSw; (try dsimp only at hSw); go_simp) <;> with_reducible rfl
  try simp only [Act.put, List.setIfInBounds_toArray, List.set_cons_zero, List.set_cons_succ]
  refine wpAnyH_take (i := 9) (v := ?_) rlit9 (by kernel_rfl) (by kernel_rfl) (by kernel_rfl) (fun _ _ _ h => h) (Or.inl ⟨by rfl, ?_⟩) (by assumption) ?_
  rotate_left
  · (intro w hSw; (try dsimp only at hSw); go_simp) <;> with_reducible rfl
  try simp only [Act.put, List.setIfInBounds_toArray, List.set_cons_zero, List.set_cons_succ]
  refine wpAnyH_take (i := 10) (v := ?_) rlit10 (by kernel_rfl) (by kernel_rfl) (by kernel_rfl) (fun _ _ _ h => h) (Or.inl ⟨by rfl, ?_⟩) (by assumption) ?_
  rotate_left
  · (intro w hSw; (try dsimp only at hSw); go_simp) <;> with_reducible rfl
  try simp only [Act.put, List.setIfInBounds_toArray, List.set_cons_zero, List.set_cons_succ]
  refine wpAnyH_take (i := 11) (v := ?_) rlit11 (by kernel_rfl) (by kernel_rfl) (by kernel_rfl) (fun _ _ _ h => h) (Or.inl ⟨by rfl, ?_⟩) (by assumption) ?_
  rotate_left
  · (intro w hSw; (try dsimp only at hSw); go_simp) <;> with_reducible rfl
  try simp only [Act.put, List.setIfInBounds_toArray, List.set_cons_zero, List.set_cons_succ]
  refine wpAnyH_take (i := 12) (v := ?_) rlit12 (by kernel_rfl) (by kernel_rfl) (by kernel_rfl) (fun _ _ _ h => h) (Or.inl ⟨by rfl, ?_⟩) (by assumption) ?_
  rotate_left
  · (intro w hSw; (try dsimp only at hSw); go_simp) <;> with_reducible rfl
  try simp only [Act.put, List.setIfInBounds_toArray, List.set_cons_zero, List.set_cons_succ]
  refine wpAnyH_take (i := 13) (v := ?_) rlit13 (by kernel_rfl) (by kernel_rfl) (by kernel_rfl) (fun _ _ _ h => h) (Or.inl ⟨by rfl, ?_⟩) (by assumption) ?_
  rotate_left
  · (intro w hSw; (try dsimp only at hSw); go_simp) <;> with_reducible rfl
  try simp only [Act.put, List.setIfInBounds_toArray, List.set_cons_zero, List.set_cons_succ]
  refine wpAnyH_take (i := 14) (v := ?_) rlit14 (by kernel_rfl) (by kernel_rfl) (by kernel_rfl) (fun _ _ _ h => h) (Or.inl ⟨by rfl, ?_⟩) (by assumption) ?_
  rotate_left
  · (intro w hSw; (try dsimp only at hSw); go_simp) <;> with_reducible rfl
  try simp only [Act.put, List.setIfInBounds_toArray, List.set_cons_zero, List.set_cons_succ]
  refine wpAnyH_take (i := 15) (v := ?_) rlit15 (by kernel_rfl) (by kernel_rfl) (by kernel_rfl) (fun _ _ _ h => h) (Or.inl ⟨by rfl, ?_⟩) (by assumption) ?_
  rotate_left
  · (intro w hSw; (try dsimp only at hSw); go_simp) <;> with_reducible rfl
  try simp only [Act.put, List.setIfInBounds_toArray, List.set_cons_zero, List.set_cons_succ]
  refine wpAnyH_take (i := 16) (v := ?_) rlit16 (by kernel_rfl) (by kernel_rfl) (by kernel_rfl) (fun _ _ _ h => h) (Or.inl ⟨by rfl, ?_⟩) (by assumption) ?_
  rotate_left
  · (intro w hSw; (try dsimp only at hSw); go_simp) <;> with_reducible rfl
  try simp only [Act.put, List.setIfInBounds_toArray, List.set_cons_zero, List.set_cons_succ]
  refine wpAnyH_take (i := 17) (v := ?_) rlit17 (by kernel_rfl) (by kernel_rfl) (by kernel_rfl) (fun _ _ _ h => h) (Or.inl ⟨by rfl, ?_⟩) (by assumption) ?_
  rotate_left
  · (intro w hSw; (try dsimp only at hSw); go_simp) <;> with_reducible rfl
  try simp only [Act.put, List.setIfInBounds_toArray, List.set_cons_zero, List.set_cons_succ]
  refine wpAnyH_take (i := 18) (v := ?_) rlit18 (by kernel_rfl) (by kernel_rfl) (by kernel_rfl) (fun _ _ _ h => h) (Or.inl ⟨by rfl, ?_⟩) (by assumption) ?_
  rotate_left
  · (intro w hSw; (try dsimp only at hSw); go_simp) <;> with_reducible rfl
  try simp only [Act.put, List.setIfInBounds_toArray, List.set_cons_zero, List.set_cons_succ]
  refine wpAnyH_take (i := 19) (v := ?_) rlit19 (by kernel_rfl) (by kernel_rfl) (by kernel_rfl) (fun _ _ _ h => h) (Or.inl ⟨by rfl, ?_⟩) (by assumption) ?_
  rotate_left
  · (intro w hSw; (try dsimp only at hSw); go_simp) <;> with_reducible rfl
  try simp only [Act.put, List.setIfInBounds_toArray, List.set_cons_zero, List.set_cons_succ]
  refine wpAnyH_take (i := 20) (v := ?_) rlit20 (by kernel_rfl) (by kernel_rfl) (by kernel_rfl) (fun _ _ _ h => h) (Or.inl ⟨by rfl, ?_⟩) (by assumption) ?_
  rotate_left
  · (intro w hSw; (try dsimp only at hSw); go_simp) <;> with_reducible rfl
  try simp only [Act.put, List.setIfInBounds_toArray, List.set_cons_zero, List.set_cons_succ]
  refine wpAnyH_ready (rs := [21]) (by kernel_rfl) (by simp) ?_
  refine AllReadyH.cons rlit21 (fun K hK => ?_) AllReadyH.nil
  go_simp
  go_at_call 64
  rw [HE1.out]
  refine (rdigit_any _ (byteAt_lt _ _) _).mono ?_
  rintro e wx ⟨rfl, rfl⟩
  rw [HD.out]
  refine hK.out _ _ ⟨a0, a1⟩ (fun hHeld => ?_)
  clear hK K
  try simp only [Act.put, List.setIfInBounds_toArray, List.set_cons_zero, List.set_cons_succ]
  refine wpAnyH_take (i := 22) (v := ?_) rlit22 (by kernel_rfl) (by kernel_rfl) (by kernel_rfl) (fun _ _ _ h => h) (Or.inl ⟨by rfl, ?_⟩) (by assumption) ?_
  rotate_left
  · (intro w hSw; (try dsimp only at hSw); go_simp) <;> with_reducible rfl
  try simp only [Act.put, List.setIfInBounds_toArray, List.set_cons_zero, List.set_cons_succ]
  refine wpAnyH_take (i := 23) (v := ?_) rlit23 (by kernel_rfl) (by kernel_rfl) (by kernel_rfl) (fun _ _ _ h => h) (Or.inl ⟨by rfl, ?_⟩) (by assumption) ?_
  rotate_left
  · (intro w hSw; (try dsimp only at hSw); go_simp) <;> with_reducible rfl
  try simp only [Act.put, List.setIfInBounds_toArray, List.set_cons_zero, List.set_cons_succ]
  refine wpAnyH_take (i := 24) (v := ?_) rlit24 (by kernel_rfl) (by kernel_rfl) (by kernel_rfl) (fun _ _ _ h => h) (Or.inl ⟨by rfl, ?_⟩) (by assumption) ?_
  rotate_left
  · (intro w hSw; (try dsimp only at hSw); go_simp) <;> with_reducible rfl
  try simp only [Act.put, List.setIfInBounds_toArray, List.set_cons_zero, List.set_cons_succ]
  refine wpAnyH_take (i := 25) (v := ?_) rlit25 (by kernel_rfl) (by kernel_rfl) (by kernel_rfl) (fun _ _ _ h => h) (Or.inl ⟨by rfl, ?_⟩) (by assumption) ?_
  rotate_left
  · (intro w hSw; (try dsimp only at hSw); go_simp) <;> with_reducible rfl
  try simp only [Act.put, List.setIfInBounds_toArray, List.set_cons_zero, List.set_cons_succ]
  refine wpAnyH_take (i := 26) (v := ?_) rlit26 (by kernel_rfl) (by kernel_rfl) (by kernel_rfl) (fun _ _ _ h => h) (Or.inl ⟨by rfl, ?_⟩) (by assumption) ?_
  rotate_left
  · (intro w hSw; (try dsimp only at hSw); go_simp) <;> with_reducible rfl
  try simp only [Act.put, List.setIfInBounds_toArray, List.set_cons_zero, List.set_cons_succ]
  refine wpAnyH_take (i := 27) (v := ?_) rlit27 (by kernel_rfl) (by kernel_rfl) (by kernel_rfl) (fun _ _ _ h => h) (Or.inl ⟨by rfl, ?_⟩) (by assumption) ?_
  rotate_left
  · (intro w hSw; (try dsimp only at hSw); go_simp) <;> with_reducible rfl
  try simp only [Act.put, List.setIfInBounds_toArray, List.set_cons_zero, List.set_cons_succ]
  refine wpAnyH_take (i := 28) (v := ?_) rlit28 (by kernel_rfl) (by kernel_rfl) (by kernel_rfl) (fun _ _ _ h => h) (Or.inl ⟨by rfl, ?_⟩) (by assumption) ?_
  rotate_left
  · (intro w hSw; (try dsimp only at hSw); go_simp) <;> with_reducible rfl
  try simp only [Act.put, List.setIfInBounds_toArray, List.set_cons_zero, List.set_cons_succ]
  refine wpAnyH_take (i := 29) (v := ?_) rlit29 (by kernel_rfl) (by kernel_rfl) (by kernel_rfl) (fun _ _ _ h => h) (Or.inl ⟨by rfl, ?_⟩) (by assumption) ?_
  rotate_left
  · (intro w hSw; (try dsimp only at hSw); go_simp) <;> with_reducible rfl
  try simp only [Act.put, List.setIfInBounds_toArray, List.set_cons_zero, List.set_cons_succ]
  refine wpAnyH_take (i := 30) (v := ?_) rlit30 (by kernel_rfl) (by kernel_rfl) (by kernel_rfl) (fun _ _ _ h => h) (Or.inl ⟨by rfl, ?_⟩) (by assumption) ?_
  rotate_left
  · (intro w hSw; (try dsimp only at hSw); go_simp) <;> with_reducible rfl
  try simp only [Act.put, List.setIfInBounds_toArray, List.set_cons_zero, List.set_cons_succ]
  refine wpAnyH_take (i := 31) (v := ?_) rlit31 (by kernel_rfl) (by kernel_rfl) (by kernel_rfl) (fun _ _ _ h => h) (Or.inl ⟨by rfl, ?_⟩) (by assumption) ?_
  rotate_left
  · (intro w hSw; (try dsimp only at hSw); go_simp) <;> with_reducible rfl
  try simp only [Act.put, List.setIfInBounds_toArray, List.set_cons_zero, List.set_cons_succ]
  refine wpAnyH_take (i := 32) (v := ?_) rlit32 (by kernel_rfl) (by kernel_rfl) (by kernel_rfl) (fun _ _ _ h => h) (Or.inl ⟨by rfl, ?_⟩) (by assumption) ?_
  rotate_left
  · (intro w hSw; (try dsimp only at hSw); go_simp) <;> with_reducible rfl
  try simp only [Act.put, List.setIfInBounds_toArray, List.set_cons_zero, List.set_cons_succ]
  refine wpAnyH_take (i := 33) (v := ?_) rlit33 (by kernel_rfl) (by kernel_rfl) (by kernel_rfl) (fun _ _ _ h => h) (Or.inl ⟨by rfl, ?_⟩) (by assumption) ?_
  rotate_left
  · (intro w hSw; (try dsimp only at hSw); go_simp) <;> with_reducible rfl
  try simp only [Act.put, List.setIfInBounds_toArray, List.set_cons_zero, List.set_cons_succ]
  refine wpAnyH_take (i := 34) (v := ?_) rlit34 (by kernel_rfl) (by kernel_rfl) (by kernel_rfl) (fun _ _ _ h => h) (Or.inl ⟨by rfl, ?_⟩) (by assumption) ?_
  rotate_left
  · (intro w hSw; (try dsimp only at hSw); go_simp) <;> with_reducible rfl
  try simp only [Act.put, List.setIfInBounds_toArray, List.set_cons_zero, List.set_cons_succ]
  refine wpAnyH_ready (rs := [35]) (by kernel_rfl) (by simp) ?_
  refine AllReadyH.cons rlit35 (fun K hK => ?_) AllReadyH.nil
  go_simp
  go_at_call 64
  rw [HE2.out]
  refine (rdigit_any _ (byteAt_lt _ _) _).mono ?_
  rintro e wx ⟨rfl, rfl⟩
  rw [HD2.out]
  refine hK.out _ _ ⟨a0, a1⟩ (fun hHeld => ?_)
  clear hK K
  try simp only [Act.put, List.setIfInBounds_toArray, List.set_cons_zero, List.set_cons_succ]
  refine wpAnyH_take (i := 36) (v := ?_) rlit36 (by kernel_rfl) (by kernel_rfl) (by kernel_rfl) (fun _ _ _ h => h) (Or.inl ⟨by rfl, ?_⟩) (by assumption) ?_
  rotate_left
  · (intro w hSw; (try dsimp only at hSw); go_simp) <;> with_reducible rfl
  try simp only [Act.put, List.setIfInBounds_toArray, List.set_cons_zero, List.set_cons_succ]
  refine wpAnyH_take (i := 37) (v := ?_) rlit37 (by kernel_rfl) (by kernel_rfl) (by kernel_rfl) (fun _ _ _ h => h) (Or.inl ⟨by rfl, ?_⟩) (by assumption) ?_
  rotate_left
  · (intro w hSw; (try dsimp only at hSw); go_simp) <;> with_reducible rfl
  try simp only [Act.put, List.setIfInBounds_toArray, List.set_cons_zero, List.set_cons_succ]
  refine wpAnyH_done (by kernel_rfl) ?_ _
  have z0 := wrap_sm ((a : Int) * 16) (by omega) (by omega)
  have z1 := wrap_sm ((a : Int) * 16 + (b : Int)) (by omega) (by omega)
  have z2 := wrap_sm ((q : Int) + 2) (by omega) (by omega)
  have z3 := wrap_8 ((a : Int) * 16 + (b : Int)) (by omega) (by omega)
  go_wp2_with fail
  refine wp_region_held_drew (S := (fun w' => w'.cell? ⟨d, 0, none⟩ = some (.string s) ∧ w'.cell? ⟨d, 1, none⟩ = some (.int .i64 (q : Int)))) (by kernel_rfl) ⟨a0, a1⟩ (fun hHeld => ?_)
  refine wpAnyH_take (i := 0) (v := ?_) rlit0 (by kernel_rfl) (by kernel_rfl) (by kernel_rfl) (fun _ _ _ h => h) (Or.inl ⟨by rfl, ?_⟩) (by assumption) ?_
  rotate_left
  · (intro w hSw; (try dsimp only at hSw); go_simp) <;> with_reducible rfl
  try simp only [Act.put, List.setIfInBounds_toArray, List.set_cons_zero, List.set_cons_succ]
  refine wpAnyH_take (i := 1) (v := ?_) rlit1 (by kernel_rfl) (by kernel_rfl) (by kernel_rfl) (fun _ _ _ h => h) (Or.inl ⟨by rfl, ?_⟩) (by assumption) ?_
  rotate_left
  · (intro w hSw; (try dsimp only at hSw); go_simp) <;> with_reducible rfl
  try simp only [Act.put, List.setIfInBounds_toArray, List.set_cons_zero, List.set_cons_succ]
  refine wpAnyH_take (i := 2) (v := ?_) rlit2 (by kernel_rfl) (by kernel_rfl) (by kernel_rfl) (fun _ _ _ h => h) (Or.inl ⟨by rfl, ?_⟩) (by assumption) ?_
  rotate_left
  · (intro w hSw; (try dsimp only at hSw); go_simp) <;> with_reducible rfl
  try simp only [Act.put, List.setIfInBounds_toArray, List.set_cons_zero, List.set_cons_succ]
  refine wpAnyH_take (i := 3) (v := ?_) rlit3 (by kernel_rfl) (by kernel_rfl) (by kernel_rfl) (fun _ _ _ h => h) (Or.inl ⟨by rfl, ?_⟩) (by assumption) ?_
  rotate_left
  · (intro w hSw; (try dsimp only at hSw); go_simp) <;> with_reducible rfl
  try simp only [Act.put, List.setIfInBounds_toArray, List.set_cons_zero, List.set_cons_succ]
  refine wpAnyH_take (i := 4) (v := ?_) rlit4 (by kernel_rfl) (by kernel_rfl) (by kernel_rfl) (fun _ _ _ h => h) (Or.inl ⟨by rfl, ?_⟩) (by assumption) ?_
  rotate_left
  · (intro w hSw; (try dsimp only at hSw); go_simp) <;> with_reducible rfl
  try simp only [Act.put, List.setIfInBounds_toArray, List.set_cons_zero, List.set_cons_succ]
  refine wpAnyH_take (i := 5) (v := ?_) rlit5 (by kernel_rfl) (by kernel_rfl) (by kernel_rfl) (fun _ _ _ h => h) (Or.inl ⟨by rfl, ?_⟩) (by assumption) ?_
  rotate_left
  · (intro w hSw; (try dsimp only at hSw); go_simp) <;> with_reducible rfl
  try simp only [Act.put, List.setIfInBounds_toArray, List.set_cons_zero, List.set_cons_succ]
  refine wpAnyH_take (i := 6) (v := ?_) rlit6 (by kernel_rfl) (by kernel_rfl) (by kernel_rfl) (fun _ _ _ h => h) (Or.inl ⟨by rfl, ?_⟩) (by assumption) ?_
  rotate_left
  · (intro w hSw; (try dsimp only at hSw); go_simp) <;> with_reducible rfl
  try simp only [Act.put, List.setIfInBounds_toArray, List.set_cons_zero, List.set_cons_succ]
  refine wpAnyH_take (i := 7) (v := ?_) rlit7 (by kernel_rfl) (by kernel_rfl) (by kernel_rfl) (fun _ _ _ h => h) (Or.inl ⟨by rfl, ?_⟩) (by assumption) ?_
  rotate_left
  · (intro w hSw; (try dsimp only at hSw); go_simp) <;> with_reducible rfl
  try simp only [Act.put, List.setIfInBounds_toArray, List.set_cons_zero, List.set_cons_succ]
  refine wpAnyH_take (i := 8) (v := ?_) rlit8 (by kernel_rfl) (by kernel_rfl) (by kernel_rfl) (fun _ _ _ h => h) (Or.inl ⟨by rfl, ?_⟩) (by assumption) ?_
  rotate_left
  · (intro w hSw; (try dsimp only at hSw); go_simp) <;> with_reducible rfl
  try simp only [Act.put, List.setIfInBounds_toArray, List.set_cons_zero, List.set_cons_succ]
  refine wpAnyH_take (i := 11) (v := ?_) rlit11 (by kernel_rfl) (by kernel_rfl) (by kernel_rfl) (fun _ _ _ h => h) (Or.inl ⟨by rfl, ?_⟩) (by assumption) ?_
  rotate_left
  · (intro w hSw; (try dsimp only at hSw); go_simp) <;> with_reducible rfl
  try simp only [Act.put, List.setIfInBounds_toArray, List.set_cons_zero, List.set_cons_succ]
  refine wpAnyH_take (i := 12) (v := ?_) rlit12 (by kernel_rfl) (by kernel_rfl) (by kernel_rfl) (fun _ _ _ h => h) (Or.inl ⟨by rfl, ?_⟩) (by assumption) ?_
  rotate_left
  · (intro w hSw; (try dsimp only at hSw); go_simp) <;> with_reducible rfl
  try simp only [Act.put, List.setIfInBounds_toArray, List.set_cons_zero, List.set_cons_succ]
  refine wpAnyH_take (i := 13) (v := ?_) rlit13 (by kernel_rfl) (by kernel_rfl) (by kernel_rfl) (fun _ _ _ h => h) (Or.inl ⟨by rfl, ?_⟩) (by assumption) ?_
  rotate_left
  · (intro w hSw; (try dsimp only at hSw); go_simp) <;> with_reducible rfl
  try simp only [Act.put, List.setIfInBounds_toArray, List.set_cons_zero, List.set_cons_succ]
  refine wpAnyH_take (i := 14) (v := ?_) rlit14 (by kernel_rfl) (by kernel_rfl) (by kernel_rfl) (fun _ _ _ h => h) (Or.inl ⟨by rfl, ?_⟩) (by assumption) ?_
  rotate_left
  · (intro w hSw; (try dsimp only at hSw); go_simp) <;> with_reducible rfl
  try simp only [Act.put, List.setIfInBounds_toArray, List.set_cons_zero, List.set_cons_succ]
  refine wpAnyH_take (i := 15) (v := ?_) rlit15 (by kernel_rfl) (by kernel_rfl) (by kernel_rfl) (fun _ _ _ h => h) (Or.inl ⟨by rfl, ?_⟩) (by assumption) ?_
  rotate_left
  · (intro w hSw; (try dsimp only at hSw); go_simp) <;> with_reducible rfl
  try simp only [Act.put, List.setIfInBounds_toArray, List.set_cons_zero, List.set_cons_succ]
  refine wpAnyH_take (i := 16) (v := ?_) rlit16 (by kernel_rfl) (by kernel_rfl) (by kernel_rfl) (fun _ _ _ h => h) (Or.inl ⟨by rfl, ?_⟩) (by assumption) ?_
  rotate_left
  · (intro w hSw; (try dsimp only at hSw); go_simp) <;> with_reducible rfl
  try simp only [Act.put, List.setIfInBounds_toArray, List.set_cons_zero, List.set_cons_succ]
  refine wpAnyH_take (i := 17) (v := ?_) rlit17 (by kernel_rfl) (by kernel_rfl) (by kernel_rfl) (fun _ _ _ h => h) (Or.inl ⟨by rfl, ?_⟩) (by assumption) ?_
  rotate_left
  · (intro w hSw; (try dsimp only at hSw); go_simp) <;> with_reducible rfl
  try simp only [Act.put, List.setIfInBounds_toArray, List.set_cons_zero, List.set_cons_succ]
  refine wpAnyH_take (i := 18) (v := ?_) rlit18 (by kernel_rfl) (by kernel_rfl) (by kernel_rfl) (fun _ _ _ h => h) (Or.inl ⟨by rfl, ?_⟩) (by assumption) ?_
  rotate_left
  · (intro w hSw; (try dsimp only at hSw); go_simp) <;> with_reducible rfl
  try simp only [Act.put, List.setIfInBounds_toArray, List.set_cons_zero, List.set_cons_succ]
  refine wpAnyH_take (i := 19) (v := ?_) rlit19 (by kernel_rfl) (by kernel_rfl) (by kernel_rfl) (fun _ _ _ h => h) (Or.inl ⟨by rfl, ?_⟩) (by assumption) ?_
  rotate_left
  · (intro w hSw; (try dsimp only at hSw); go_simp) <;> with_reducible rfl
  try simp only [Act.put, List.setIfInBounds_toArray, List.set_cons_zero, List.set_cons_succ]
  refine wpAnyH_take (i := 20) (v := ?_) rlit20 (by kernel_rfl) (by kernel_rfl) (by kernel_rfl) (fun _ _ _ h => h) (Or.inl ⟨by rfl, ?_⟩) (by assumption) ?_
  rotate_left
  · (intro w hSw; (try dsimp only at hSw); go_simp) <;> with_reducible rfl
  try simp only [Act.put, List.setIfInBounds_toArray, List.set_cons_zero, List.set_cons_succ]
  refine wpAnyH_ready (rs := [9]) (by kernel_rfl) (by simp) ?_
  refine AllReadyH.cons rlit9 (fun K hK => ?_) AllReadyH.nil
  go_simp
  go_at_call 64
  rw [HE1.out]
  refine (rdigit_any _ (byteAt_lt _ _) _).mono ?_
  rintro e wx ⟨rfl, rfl⟩
  rw [HD.out]
  refine hK.out _ _ ⟨a0, a1⟩ (fun hHeld => ?_)
  clear hK K
  try simp only [Act.put, List.setIfInBounds_toArray, List.set_cons_zero, List.set_cons_succ]
  refine wpAnyH_take (i := 10) (v := ?_) rlit10 (by kernel_rfl) (by kernel_rfl) (by kernel_rfl) (fun _ _ _ h => h) (Or.inl ⟨by rfl, ?_⟩) (by assumption) ?_
  rotate_left
  · (intro w hSw; (try dsimp only at hSw); go_simp) <;> with_reducible rfl
  try simp only [Act.put, List.setIfInBounds_toArray, List.set_cons_zero, List.set_cons_succ]
  refine wpAnyH_ready (rs := [21]) (by kernel_rfl) (by simp) ?_
  refine AllReadyH.cons rlit21 (fun K hK => ?_) AllReadyH.nil
  go_simp
  go_at_call 64
  rw [HE2.out]
  refine (rdigit_any _ (byteAt_lt _ _) _).mono ?_
  rintro e wx ⟨rfl, rfl⟩
  rw [HD2.out]
  refine hK.out _ _ ⟨a0, a1⟩ (fun hHeld => ?_)
  clear hK K
  try simp only [Act.put, List.setIfInBounds_toArray, List.set_cons_zero, List.set_cons_succ]
  refine wpAnyH_take (i := 22) (v := ?_) rlit22 (by kernel_rfl) (by kernel_rfl) (by kernel_rfl) (fun _ _ _ h => h) (Or.inl ⟨by rfl, ?_⟩) (by assumption) ?_
  rotate_left
  · (intro w hSw; (try dsimp only at hSw); go_simp) <;> with_reducible rfl
  try simp only [Act.put, List.setIfInBounds_toArray, List.set_cons_zero, List.set_cons_succ]
  refine wpAnyH_take (i := 23) (v := ?_) rlit23 (by kernel_rfl) (by kernel_rfl) (by kernel_rfl) (fun _ _ _ h => h) (Or.inl ⟨by rfl, ?_⟩) (by assumption) ?_
  rotate_left
  · (intro w hSw; (try dsimp only at hSw); go_simp) <;> with_reducible rfl
  try simp only [Act.put, List.setIfInBounds_toArray, List.set_cons_zero, List.set_cons_succ]
  refine wpAnyH_done (by kernel_rfl) ?_ _
  have HB3 := rr_step (w := w2.drewN 2) HB2 (p + 4)
  have a4 : w2.frozen? ⟨d, 1, none⟩ = false := free_of_block HB2
  go_wp2_with fail
  go_ret
  refine ⟨by rw [show ((a * 16 + b : Nat) : Int) = (a : Int) * 16 + (b : Int) by omega]; rfl, ?_, (HF2.out.drewN 2).setCell (p := ⟨d, 1, none⟩) (.inl rfl) _⟩
  rw [show ((p + 4 : Nat) : Int) = (q : Int) + 2 by omega] at HB3
  exact HB3

set_option maxRecDepth 100000 in
set_option maxHeartbeats 2000000 in
theorem rchar_w (s : ByteArray) (p d c : Nat) (bad many : Bool) (w : World) (hs : s.size ≤ 1000) (hb : w.heap[d]? = some (rrObj s p bad many)) (h : p + 1 < s.size) (hv : (s[p + 1]'h).toNat = c) (hn : namedB c = none) (hx : c ≠ 120) (hw : wordB c = true) :
    Calls Try.prog 55 #[.pointer (some ⟨d, 0, none⟩)] w fun e w' => e = .returned (.int .u8 c) ∧ w'.heap[d]? = some (rrObj s (p + 2) true many) ∧ Fr (at1 d) w w' := by
  have hcl : c < 256 := by rw [← hv]; exact UInt8.toNat_lt _
  have hnn : c ≠ 110 ∧ c ≠ 116 ∧ c ≠ 114 ∧ c ≠ 115 := by
    refine ⟨?_, ?_, ?_, ?_⟩ <;> (rintro rfl; simp [namedB] at hn)
  obtain ⟨n1, n2, n3, n4⟩ := hnn
  have m1 : ((c : Int) == 110) = false := by rw [beq_eq_false_iff_ne]; omega
  have m2 : ((c : Int) == 116) = false := by rw [beq_eq_false_iff_ne]; omega
  have m3 : ((c : Int) == 114) = false := by rw [beq_eq_false_iff_ne]; omega
  have m4 : ((c : Int) == 115) = false := by rw [beq_eq_false_iff_ne]; omega
  have m5 : ((c : Int) == 120) = false := by rw [beq_eq_false_iff_ne]; omega
  clear n1 n2 n3 n4 hn hx
  have HWD := Lib.hid hw
  clear hw
  obtain ⟨q, hq⟩ : ∃ q, p + 2 = q := ⟨_, rfl⟩
  try rw [hq]
  have HB1 := rr_step hb (p + 1)
  have c1 : w.cell? ⟨d, 1, none⟩ = some (.int .i64 p) := cell_of_block hb rfl
  have f1 : w.frozen? ⟨d, 1, none⟩ = false := free_of_block hb
  have HF1 := ((Fr.refl (at1 d) w).setCell (p := ⟨d, 1, none⟩) (.inl rfl) (.int .i64 ((p + 1 : Nat) : Int)))
  obtain ⟨w1, hw1⟩ : ∃ x, w.setCell ⟨d, 1, none⟩ (.int .i64 ((p + 1 : Nat) : Int)) = x := ⟨_, rfl⟩
  have HW1 := Lib.hid hw1
  rw [hw1] at HB1 HF1
  have HF2 := fun n => (HF1.drewN n).setCell (p := ⟨d, 1, none⟩) (.inl rfl) (.int .i64 (q : Int))
  have HB2 : ∀ n, ((w1.drewN n).setCell ⟨d, 1, none⟩ (.int .i64 (q : Int))).heap[d]? = some (rrObj s q bad many) := fun n => rr_step (w := w1.drewN n) HB1 q
  have e0 : w1.cell? ⟨d, 0, none⟩ = some (.string s) := cell_of_block HB1 rfl
  have e1 : w1.cell? ⟨d, 1, none⟩ = some (.int .i64 ((p + 1 : Nat) : Int)) := cell_of_block HB1 rfl
  have g1 : w1.frozen? ⟨d, 1, none⟩ = false := free_of_block HB1
  have hp3 : (0 : Int) ≤ ((p + 1 : Nat) : Int) := by omega
  have hp4 : ((p + 1 : Nat) : Int) < (s.size : Int) := by omega
  have hge : decide ((s.size : Int) ≤ ((p + 1 : Nat) : Int)) = false := by simp; omega
  clear hb hw1 HF1
  go_enter Try.func55, Try.ntmps55
  go_wp2_with fail
  try rw [show ((p : Int) + 1) = ((p + 1 : Nat) : Int) by omega]
  rw [HW1.out]
  go_quiet (fail)
  obtain ⟨n0, rfl⟩ : ∃ n, n = nq := ⟨_, rfl⟩
  go_wp2_with fail
  go_quiet (fail)
  go_wp2_with fail
  rw [show ((p : Int) + 1 + 1) = (q : Int) by omega]
  replace HF2 := Lib.hid (HF2 (n0 + nq))
  replace HB2 := HB2 (n0 + nq)
  generalize hw2 : (w1.drewN (n0 + nq)).setCell ⟨d, 1, none⟩ (.int .i64 (q : Int)) = w2
  rw [hw2] at HF2 HB2
  have a0 : w2.cell? ⟨d, 0, none⟩ = some (.string s) := cell_of_block HB2 rfl
  have a1 : w2.cell? ⟨d, 1, none⟩ = some (.int .i64 (q : Int)) := cell_of_block HB2 rfl
  have a2 : w2.cell? ⟨d, 2, none⟩ = some (.bool bad) := cell_of_block HB2 rfl
  have a3 : w2.frozen? ⟨d, 2, none⟩ = false := free_of_block HB2
  clear hw2
  refine (rplain_any c hcl _).mono ?_
  rintro e wx ⟨rfl, rfl⟩
  rw [HWD.out]
  go_wp2_with fail
  go_ret
  exact ⟨rfl, rr_bad HB2 true, HF2.out.setCell (p := ⟨d, 2, none⟩) (.inl rfl) _⟩

set_option maxRecDepth 100000 in
set_option maxHeartbeats 2000000 in
theorem rchar_o (s : ByteArray) (p d c : Nat) (bad many : Bool) (w : World) (hs : s.size ≤ 1000) (hb : w.heap[d]? = some (rrObj s p bad many)) (h : p + 1 < s.size) (hv : (s[p + 1]'h).toNat = c) (hn : namedB c = none) (hx : c ≠ 120) (hw : wordB c = false) :
    Calls Try.prog 55 #[.pointer (some ⟨d, 0, none⟩)] w fun e w' => e = .returned (.int .u8 c) ∧ w'.heap[d]? = some (rrObj s (p + 2) bad many) ∧ Fr (at1 d) w w' := by
  have hcl : c < 256 := by rw [← hv]; exact UInt8.toNat_lt _
  have hnn : c ≠ 110 ∧ c ≠ 116 ∧ c ≠ 114 ∧ c ≠ 115 := by
    refine ⟨?_, ?_, ?_, ?_⟩ <;> (rintro rfl; simp [namedB] at hn)
  obtain ⟨n1, n2, n3, n4⟩ := hnn
  have m1 : ((c : Int) == 110) = false := by rw [beq_eq_false_iff_ne]; omega
  have m2 : ((c : Int) == 116) = false := by rw [beq_eq_false_iff_ne]; omega
  have m3 : ((c : Int) == 114) = false := by rw [beq_eq_false_iff_ne]; omega
  have m4 : ((c : Int) == 115) = false := by rw [beq_eq_false_iff_ne]; omega
  have m5 : ((c : Int) == 120) = false := by rw [beq_eq_false_iff_ne]; omega
  clear n1 n2 n3 n4 hn hx
  have HWD := Lib.hid hw
  clear hw
  obtain ⟨q, hq⟩ : ∃ q, p + 2 = q := ⟨_, rfl⟩
  try rw [hq]
  have HB1 := rr_step hb (p + 1)
  have c1 : w.cell? ⟨d, 1, none⟩ = some (.int .i64 p) := cell_of_block hb rfl
  have f1 : w.frozen? ⟨d, 1, none⟩ = false := free_of_block hb
  have HF1 := ((Fr.refl (at1 d) w).setCell (p := ⟨d, 1, none⟩) (.inl rfl) (.int .i64 ((p + 1 : Nat) : Int)))
  obtain ⟨w1, hw1⟩ : ∃ x, w.setCell ⟨d, 1, none⟩ (.int .i64 ((p + 1 : Nat) : Int)) = x := ⟨_, rfl⟩
  have HW1 := Lib.hid hw1
  rw [hw1] at HB1 HF1
  have HF2 := fun n => (HF1.drewN n).setCell (p := ⟨d, 1, none⟩) (.inl rfl) (.int .i64 (q : Int))
  have HB2 : ∀ n, ((w1.drewN n).setCell ⟨d, 1, none⟩ (.int .i64 (q : Int))).heap[d]? = some (rrObj s q bad many) := fun n => rr_step (w := w1.drewN n) HB1 q
  have e0 : w1.cell? ⟨d, 0, none⟩ = some (.string s) := cell_of_block HB1 rfl
  have e1 : w1.cell? ⟨d, 1, none⟩ = some (.int .i64 ((p + 1 : Nat) : Int)) := cell_of_block HB1 rfl
  have g1 : w1.frozen? ⟨d, 1, none⟩ = false := free_of_block HB1
  have hp3 : (0 : Int) ≤ ((p + 1 : Nat) : Int) := by omega
  have hp4 : ((p + 1 : Nat) : Int) < (s.size : Int) := by omega
  have hge : decide ((s.size : Int) ≤ ((p + 1 : Nat) : Int)) = false := by simp; omega
  clear hb hw1 HF1
  go_enter Try.func55, Try.ntmps55
  go_wp2_with fail
  try rw [show ((p : Int) + 1) = ((p + 1 : Nat) : Int) by omega]
  rw [HW1.out]
  go_quiet (fail)
  obtain ⟨n0, rfl⟩ : ∃ n, n = nq := ⟨_, rfl⟩
  go_wp2_with fail
  go_quiet (fail)
  go_wp2_with fail
  rw [show ((p : Int) + 1 + 1) = (q : Int) by omega]
  replace HF2 := Lib.hid (HF2 (n0 + nq))
  replace HB2 := HB2 (n0 + nq)
  generalize hw2 : (w1.drewN (n0 + nq)).setCell ⟨d, 1, none⟩ (.int .i64 (q : Int)) = w2
  rw [hw2] at HF2 HB2
  have a0 : w2.cell? ⟨d, 0, none⟩ = some (.string s) := cell_of_block HB2 rfl
  have a1 : w2.cell? ⟨d, 1, none⟩ = some (.int .i64 (q : Int)) := cell_of_block HB2 rfl
  have a2 : w2.cell? ⟨d, 2, none⟩ = some (.bool bad) := cell_of_block HB2 rfl
  have a3 : w2.frozen? ⟨d, 2, none⟩ = false := free_of_block HB2
  clear hw2
  refine (rplain_any c hcl _).mono ?_
  rintro e wx ⟨rfl, rfl⟩
  rw [HWD.out]
  go_wp2_with fail
  go_ret
  exact ⟨rfl, HB2, HF2.out⟩
end Go.Proofs.Ytjbmppbciiemkaa

namespace Go.Proofs.Ytjbmppbciiemkaa set_option linter.unusedVariables false set_option linter.unusedSimpArgs false
open Go.RowKit

theorem digitB_eq (s : ByteArray) (q : Nat) : digitB s q = if q < s.size then (match digitV (byteAt s q) with | none => .error 5 | some n => .ok (n, q + 1)) else .error 5 := by
  by_cases h : q < s.size
  · simp only [digitB, nextB, if_pos h]
    cases digitV (byteAt s q) <;> rfl
  · simp only [digitB, nextB, if_neg h]

theorem rchar_any (s : ByteArray) (p d : Nat) (bad many : Bool) (w : World) (hs : s.size ≤ 1000) (hb : w.heap[d]? = some (rrObj s p bad many)) (hp : p < s.size) :
    Calls Try.prog 55 #[.pointer (some ⟨d, 0, none⟩)] w (RGotN d s bad many w (charB s (p + 1))) := by
  by_cases h : p + 1 < s.size
  · have hn : nextB s (p + 1) = .ok (byteAt s (p + 1), p + 2) := by simp [nextB, h]
    have hv := byteAt_eq s (p + 1) h
    obtain ⟨c, hc⟩ : ∃ c, byteAt s (p + 1) = c := ⟨_, rfl⟩
    rw [hc] at hv hn
    have hchar : charB s (p + 1) = (match namedB c with
      | some c => .ok (c, p + 2)
      | none => if c = 120 then
          match digitB s (p + 2) with
          | .error e => .error e
          | .ok (hi, q1) => match digitB s q1 with
            | .error e => .error e
            | .ok (lo, q2) => .ok (hi * 16 + lo, q2)
        else if wordB c then .error 5 else .ok (c, p + 2)) := by
      simp only [charB, hn]
      rfl
    have bad0 : ∀ {x : Got Nat} {e : Ending} {w' : World} (n : Int) (b : Nat), x = .error n → b < 256 → (e = .returned (.int .u8 b) ∧ w'.heap[d]? = some (rrObj s (p + 2) true many) ∧ Fr (at1 d) w w') → RGotN d s bad many w x e w' := by
      rintro x e w' n b rfl hb ⟨h1, h2, h3⟩
      exact ⟨b, p + 2, hb, by omega, h1, h2, h3⟩
    cases hnm : namedB c with
    | some c' =>
      rw [hchar, hnm]
      have : (c = 110 ∧ c' = 10) ∨ (c = 116 ∧ c' = 9) ∨ (c = 114 ∧ c' = 13) ∨ (c = 115 ∧ c' = 32) := by
        unfold namedB at hnm
        (repeat' split at hnm) <;> simp_all
      rcases this with ⟨rfl, rfl⟩ | ⟨rfl, rfl⟩ | ⟨rfl, rfl⟩ | ⟨rfl, rfl⟩
      · exact rchar_110 s p d bad many w hs hb (by omega) h hv
      · exact rchar_116 s p d bad many w hs hb (by omega) h hv
      · exact rchar_114 s p d bad many w hs hb (by omega) h hv
      · exact rchar_115 s p d bad many w hs hb (by omega) h hv
    | none =>
      rw [hnm] at hchar
      dsimp only at hchar
      by_cases hx : c = 120
      · subst hx
        rw [if_pos rfl] at hchar
        have dd := digitB_eq s
        by_cases h3 : p + 3 < s.size
        · have e2 := dd (p + 2)
          rw [if_pos (by omega)] at e2
          have e3 := dd (p + 3)
          rw [if_pos h3] at e3
          cases h4 : digitV (byteAt s (p + 2)) with
          | none =>
            rw [h4] at e2
            rw [e2] at hchar
            exact (rchar_x2 s p d bad many w hs hb h hv h3 h4).mono fun e w' hh => bad0 5 0 hchar (by decide) hh
          | some a =>
            rw [h4] at e2
            rw [e2] at hchar
            dsimp only at hchar
            rw [e3] at hchar
            cases h5 : digitV (byteAt s (p + 3)) with
            | none =>
              rw [h5] at hchar
              exact (rchar_x3 s p d bad many w hs hb h hv h3 a h4 h5).mono fun e w' hh => bad0 5 0 hchar (by decide) hh
            | some b =>
              rw [h5] at hchar
              rw [hchar]
              exact rchar_x4 s p d bad many w hs hb h hv h3 a b h4 h5
        · refine (rchar_x1 s p d bad many w hs hb h hv h3).mono fun e w' hh => bad0 5 0 ?_ (by decide) hh
          rw [hchar, dd (p + 2)]
          by_cases h4 : p + 2 < s.size
          · rw [if_pos h4]
            cases digitV (byteAt s (p + 2)) with
            | none => rfl
            | some a =>
              dsimp only
              rw [dd (p + 2 + 1), if_neg (by omega)]
          · rw [if_neg h4]
      · rw [if_neg hx] at hchar
        cases hw : wordB c with
        | true =>
          rw [hw, if_pos rfl] at hchar
          exact (rchar_w s p d c bad many w hs hb h hv hnm hx hw).mono fun e w' hh => bad0 5 c hchar (by rw [← hc]; exact byteAt_lt _ _) hh
        | false =>
          rw [hw] at hchar
          rw [hchar]
          exact rchar_o s p d c bad many w hs hb h hv hnm hx hw
  · have hn : charB s (p + 1) = .error 5 := by simp [charB, nextB, h]
    rw [hn]
    exact (rchar_out s p d bad many w hs hb (by omega) h).mono fun e w' hh => ⟨0, p + 1, by decide, by omega, hh.1, hh.2.1, hh.2.2⟩
end Go.Proofs.Ytjbmppbciiemkaa
