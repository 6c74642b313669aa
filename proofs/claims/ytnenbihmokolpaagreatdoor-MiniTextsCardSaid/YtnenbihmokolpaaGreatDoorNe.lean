/-
  The walks over bits and regex.Has.
-/
import Derived.Test.YtnenbihmokolpaaGreatDoorNc
namespace Go.Proofs.YtnenbihmokolpaaGreatDoor set_option linter.unusedVariables false set_option linter.unusedSimpArgs false
open Go.RowKit

set_option maxRecDepth 100000 in
theorem bit_in (n : Nat) (w : World) (h : n < 64) :
    Calls Tryz.prog 79 #[.int .i64 n] w fun e w' => e = .returned (.int .u64 (2 ^ n : Nat)) ∧ w = w' := by
  have h0 : ((n : Int) < 64) := by omega
  have h1 : (0 : Int) ≤ (n : Int) := by omega
  have HW := Lib.hid (wrap_pow n h)
  go_enter Tryz.func79, Tryz.ntmps79
  go_wp2_with fail
  go_ret
  exact ⟨by rw [HW.out]; rfl, rfl⟩
set_option maxRecDepth 100000 in
theorem bit_out (n : Int) (w : World) (h : n < 0 ∨ 64 ≤ n) :
    Calls Tryz.prog 79 #[.int .i64 n] w fun e w' => e = .returned (.int .u64 0) ∧ w = w' := by
  rcases h with h | h
  · go_enter Tryz.func79, Tryz.ntmps79
    go_wp2_with fail
    go_ret
    exact ⟨rfl, rfl⟩
  · have h1 : (0 : Int) ≤ n := by omega
    go_enter Tryz.func79, Tryz.ntmps79
    go_wp2_with fail
    go_ret
    exact ⟨rfl, rfl⟩
theorem bit_any (n : Int) (w : World) :
    Calls Tryz.prog 79 #[.int .i64 n] w fun e w' => e = .returned (.int .u64 (bitM n : Nat)) ∧ w = w' := by
  unfold bitM
  by_cases h : 0 ≤ n ∧ n < 64
  · obtain ⟨m, rfl⟩ := Int.eq_ofNat_of_zero_le h.1
    rw [if_pos h, Int.toNat_natCast]
    exact bit_in m w (by omega)
  · rw [if_neg h]
    exact bit_out n w (by omega)
theorem bitM_lt (n : Int) : bitM n < 18446744073709551616 := by
  unfold bitM
  split
  · exact pow_lt _ (by omega)
  · omega
set_option maxRecDepth 100000 in
theorem with_any (s : Nat) (n : Int) (w : World) (hs : s < 18446744073709551616) :
    Calls Tryz.prog 51 #[.int .u64 s, .int .i64 n] w fun e w' => e = .returned (.int .u64 (s ||| bitM n : Nat)) ∧ w = w' := by
  have HO := Lib.hid (bits_or_u64_nat s (bitM n) hs (bitM_lt n))
  go_enter Tryz.func51, Tryz.ntmps51
  go_wp2_with fail
  refine (bit_any _ _).mono ?_
  rintro e w' ⟨rfl, rfl⟩
  go_wp2_with fail
  go_ret
  exact ⟨by rw [HO.out]; rfl, rfl⟩
theorem and_one (x : Nat) : bits BinOp.and IntKind.u64 (x : Int) 1 = ((x % 2 : Nat) : Int) := by
  have h1 : (BitVec.ofInt 64 (x : Int)).toNat = x % 2 ^ 64 := by
    rw [BitVec.ofInt_natCast, BitVec.toNat_ofNat]
  show IntKind.u64.wrap ((BitVec.ofInt 64 (x : Int) &&& BitVec.ofInt 64 1).toNat : Int) = _
  have h2 : (BitVec.ofInt 64 1).toNat = 1 := by decide
  rw [BitVec.toNat_and, h1, h2, IntKind.wrap_u64, Nat.and_one_is_mod]
  omega
theorem tb_of_div (x k : Nat) : ((bits BinOp.and IntKind.u64 ((x / 2 ^ k : Nat) : Int) 1) == 1) = x.testBit k := by
  rw [and_one, Nat.testBit_eq_decide_div_mod_eq]
  rcases Nat.mod_two_eq_zero_or_one (x / 2 ^ k) with h | h <;> rw [h] <;> rfl
set_option maxRecDepth 100000 in
theorem has_0 (b : Nat) (b0 b1 b2 b3 : Nat) (kids : List Rx) (a : Option Addr) (cap : Nat) (w : World) (hb : b < 256) (h4 : b / 64 = 0) :
    Calls Tryz.prog 34 #[.agg #[.int .i64 1, .int .u64 b0, .int .u64 b1, .int .u64 b2, .int .u64 b3, .slice a kids.length cap], .int .u8 b] w fun e w' => e = .returned (.bool ((Rx.mk 1 b0 b1 b2 b3 kids).has b)) ∧ Fr none_ w w' := by
  have hb' : (b : Int) < 256 := by omega
  have e63 : bits BinOp.and IntKind.u8 (b : Int) 63 = ((b % 64 : Nat) : Int) := and63 b hb
  have HH := Lib.hid (show (Rx.mk 1 b0 b1 b2 b3 kids).has b = (bits BinOp.and IntKind.u64 ((b0 / 2 ^ (b % 64) : Nat) : Int) 1 == 1) by rw [tb_of_div]; simp [Rx.has, h4])
  have hz : ((w.alloc (.cells #[.int .i64 1, .int .u64 b0, .int .u64 b1, .int .u64 b2, .int .u64 b3, .slice a kids.length cap] 53))).cell? ⟨w.heap.size, 1 + b / 64, none⟩ = some (.int .u64 b0) := by rw [h4]; exact cell_of_block (alloc_new _ _) rfl
  have H4 := Lib.hid h4
  clear h4
  go_enter Tryz.func34, Tryz.ntmps34
  go_wp2_with fail
  go_ret
  exact ⟨by rw [HH.out]; simp, (Fr.refl none_ w).alloc _⟩
set_option maxRecDepth 100000 in
theorem has_1 (b : Nat) (b0 b1 b2 b3 : Nat) (kids : List Rx) (a : Option Addr) (cap : Nat) (w : World) (hb : b < 256) (h4 : b / 64 = 1) :
    Calls Tryz.prog 34 #[.agg #[.int .i64 1, .int .u64 b0, .int .u64 b1, .int .u64 b2, .int .u64 b3, .slice a kids.length cap], .int .u8 b] w fun e w' => e = .returned (.bool ((Rx.mk 1 b0 b1 b2 b3 kids).has b)) ∧ Fr none_ w w' := by
  have hb' : (b : Int) < 256 := by omega
  have e63 : bits BinOp.and IntKind.u8 (b : Int) 63 = ((b % 64 : Nat) : Int) := and63 b hb
  have HH := Lib.hid (show (Rx.mk 1 b0 b1 b2 b3 kids).has b = (bits BinOp.and IntKind.u64 ((b1 / 2 ^ (b % 64) : Nat) : Int) 1 == 1) by rw [tb_of_div]; simp [Rx.has, h4])
  have hz : ((w.alloc (.cells #[.int .i64 1, .int .u64 b0, .int .u64 b1, .int .u64 b2, .int .u64 b3, .slice a kids.length cap] 53))).cell? ⟨w.heap.size, 1 + b / 64, none⟩ = some (.int .u64 b1) := by rw [h4]; exact cell_of_block (alloc_new _ _) rfl
  have H4 := Lib.hid h4
  clear h4
  go_enter Tryz.func34, Tryz.ntmps34
  go_wp2_with fail
  go_ret
  exact ⟨by rw [HH.out]; simp, (Fr.refl none_ w).alloc _⟩
set_option maxRecDepth 100000 in
theorem has_2 (b : Nat) (b0 b1 b2 b3 : Nat) (kids : List Rx) (a : Option Addr) (cap : Nat) (w : World) (hb : b < 256) (h4 : b / 64 = 2) :
    Calls Tryz.prog 34 #[.agg #[.int .i64 1, .int .u64 b0, .int .u64 b1, .int .u64 b2, .int .u64 b3, .slice a kids.length cap], .int .u8 b] w fun e w' => e = .returned (.bool ((Rx.mk 1 b0 b1 b2 b3 kids).has b)) ∧ Fr none_ w w' := by
  have hb' : (b : Int) < 256 := by omega
  have e63 : bits BinOp.and IntKind.u8 (b : Int) 63 = ((b % 64 : Nat) : Int) := and63 b hb
  have HH := Lib.hid (show (Rx.mk 1 b0 b1 b2 b3 kids).has b = (bits BinOp.and IntKind.u64 ((b2 / 2 ^ (b % 64) : Nat) : Int) 1 == 1) by rw [tb_of_div]; simp [Rx.has, h4])
  have hz : ((w.alloc (.cells #[.int .i64 1, .int .u64 b0, .int .u64 b1, .int .u64 b2, .int .u64 b3, .slice a kids.length cap] 53))).cell? ⟨w.heap.size, 1 + b / 64, none⟩ = some (.int .u64 b2) := by rw [h4]; exact cell_of_block (alloc_new _ _) rfl
  have H4 := Lib.hid h4
  clear h4
  go_enter Tryz.func34, Tryz.ntmps34
  go_wp2_with fail
  go_ret
  exact ⟨by rw [HH.out]; simp, (Fr.refl none_ w).alloc _⟩
set_option maxRecDepth 100000 in
theorem has_3 (b : Nat) (b0 b1 b2 b3 : Nat) (kids : List Rx) (a : Option Addr) (cap : Nat) (w : World) (hb : b < 256) (h4 : b / 64 = 3) :
    Calls Tryz.prog 34 #[.agg #[.int .i64 1, .int .u64 b0, .int .u64 b1, .int .u64 b2, .int .u64 b3, .slice a kids.length cap], .int .u8 b] w fun e w' => e = .returned (.bool ((Rx.mk 1 b0 b1 b2 b3 kids).has b)) ∧ Fr none_ w w' := by
  have hb' : (b : Int) < 256 := by omega
  have e63 : bits BinOp.and IntKind.u8 (b : Int) 63 = ((b % 64 : Nat) : Int) := and63 b hb
  have HH := Lib.hid (show (Rx.mk 1 b0 b1 b2 b3 kids).has b = (bits BinOp.and IntKind.u64 ((b3 / 2 ^ (b % 64) : Nat) : Int) 1 == 1) by rw [tb_of_div]; simp [Rx.has, h4])
  have hz : ((w.alloc (.cells #[.int .i64 1, .int .u64 b0, .int .u64 b1, .int .u64 b2, .int .u64 b3, .slice a kids.length cap] 53))).cell? ⟨w.heap.size, 1 + b / 64, none⟩ = some (.int .u64 b3) := by rw [h4]; exact cell_of_block (alloc_new _ _) rfl
  have H4 := Lib.hid h4
  clear h4
  go_enter Tryz.func34, Tryz.ntmps34
  go_wp2_with fail
  go_ret
  exact ⟨by rw [HH.out]; simp, (Fr.refl none_ w).alloc _⟩
set_option maxRecDepth 100000 in
theorem rhas_any (r : Rx) (b : Nat) (v : Value) (ok : Nat → Prop) (w : World) (hv : RxV ok w v r) (hb : b < 256) :
    Calls Tryz.prog 34 #[v, .int .u8 b] w fun e w' => e = .returned (.bool (r.has b)) ∧ Fr none_ w w' := by
  obtain ⟨k, b0, b1, b2, b3, kids⟩ := r
  obtain ⟨a, cap, rfl, hc, hl⟩ := hv.open_
  clear hv hl
  by_cases hk : k = 1
  · subst hk
    have : b / 64 = 0 ∨ b / 64 = 1 ∨ b / 64 = 2 ∨ b / 64 = 3 := by omega
    rcases this with h4 | h4 | h4 | h4
    · exact has_0 b b0 b1 b2 b3 kids a cap w hb h4
    · exact has_1 b b0 b1 b2 b3 kids a cap w hb h4
    · exact has_2 b b0 b1 b2 b3 kids a cap w hb h4
    · exact has_3 b b0 b1 b2 b3 kids a cap w hb h4
  · have hk' : (k == 1) = false := by simpa using hk
    have HH := Lib.hid (show (Rx.mk k b0 b1 b2 b3 kids).has b = false by simp [Rx.has, hk])
    clear hk
    go_enter Tryz.func34, Tryz.ntmps34
    go_wp2_with fail
    go_ret
    exact ⟨by rw [HH.out]; rfl, (Fr.refl none_ w).alloc _⟩
end Go.Proofs.YtnenbihmokolpaaGreatDoor
