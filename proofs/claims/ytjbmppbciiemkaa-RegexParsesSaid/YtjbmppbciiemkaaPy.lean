/-
  The walks over regex's reader: bytes, classes.
-/
import Derived.Test.YtjbmppbciiemkaaPx
import Derived.StillTailTactics
namespace Go.Proofs.Ytjbmppbciiemkaa set_option linter.unusedVariables false set_option linter.unusedSimpArgs false
open Go.RowKit

theorem and63 (b : Nat) (h : b < 256) : bits BinOp.and IntKind.u8 (b : Int) 63 = ((b % 64 : Nat) : Int) := by
  have : ∀ a : Fin 256, bits BinOp.and IntKind.u8 (a.val : Int) 63 = ((a.val % 64 : Nat) : Int) := by decide +kernel
  exact this ⟨b, h⟩
theorem wrap_pow (c : Nat) (h : c < 64) : IntKind.u64.wrap ((2 : Int) ^ c) = ((2 ^ c : Nat) : Int) := by
  have : ∀ a : Fin 64, IntKind.u64.wrap ((2 : Int) ^ a.val) = ((2 ^ a.val : Nat) : Int) := by decide +kernel
  exact this ⟨c, h⟩
theorem pow_lt (c : Nat) (h : c < 64) : 2 ^ c < 18446744073709551616 := by
  have : ∀ a : Fin 64, 2 ^ a.val < 18446744073709551616 := by decide +kernel
  exact this ⟨c, h⟩
theorem or_pow (x b : Nat) (hx : x < 18446744073709551616) : bits BinOp.or IntKind.u64 (x : Int) (IntKind.u64.wrap ((2 : Int) ^ (b % 64))) = ((x ||| 2 ^ (b % 64) : Nat) : Int) := by
  rw [wrap_pow (b % 64) (by omega), bits_or_u64_nat x (2 ^ (b % 64)) hx (pow_lt _ (by omega))]

theorem not_u64 (x : Nat) (hx : x < 18446744073709551616) : bits BinOp.xor IntKind.u64 IntKind.u64.max (x : Int) = ((18446744073709551615 - x : Nat) : Int) := by
  have hm : IntKind.u64.max = ((18446744073709551615 : Nat) : Int) := by decide
  rw [hm, bits_xor_u64_nat _ x (by decide) hx]
  congr 1
  apply Nat.eq_of_testBit_eq
  intro i
  have h1 : (18446744073709551615 : Nat) = 2 ^ 64 - 1 := by decide
  have h2 : 18446744073709551615 - x = 2 ^ 64 - (x + 1) := by omega
  rw [h2, Nat.testBit_xor, Nat.testBit_two_pow_sub_succ hx, h1, Nat.testBit_two_pow_sub_one]
  by_cases hi : i < 64
  · simp [hi]
  · have hl : x.testBit i = false := Nat.testBit_lt_two_pow (Nat.lt_of_lt_of_le hx (Nat.pow_le_pow_right (show 2 > 0 by decide) (show 64 ≤ i by omega)))
    simp [hi, hl]
structure Bs.Ok (x : Bs) : Prop where
  h0 : x.b0 < 18446744073709551616
  h1 : x.b1 < 18446744073709551616
  h2 : x.b2 < 18446744073709551616
  h3 : x.b3 < 18446744073709551616
theorem or_lt {x y : Nat} (hx : x < 18446744073709551616) (hy : y < 18446744073709551616) : x ||| y < 18446744073709551616 :=
  Nat.or_lt_two_pow (n := 64) hx hy
theorem Bs.Ok.zero : Bs.zero.Ok := ⟨by decide, by decide, by decide, by decide⟩
theorem Bs.Ok.add {x : Bs} (h : x.Ok) (b : Nat) : (x.add b).Ok := by
  have hp := pow_lt (b % 64) (by omega)
  unfold Bs.add
  split
  · exact ⟨or_lt h.h0 hp, h.h1, h.h2, h.h3⟩
  · exact ⟨h.h0, or_lt h.h1 hp, h.h2, h.h3⟩
  · exact ⟨h.h0, h.h1, or_lt h.h2 hp, h.h3⟩
  · exact ⟨h.h0, h.h1, h.h2, or_lt h.h3 hp⟩
theorem Bs.Ok.others {x : Bs} (_h : x.Ok) : x.others.Ok := ⟨by simp only [Bs.others]; omega, by simp only [Bs.others]; omega, by simp only [Bs.others]; omega, by simp only [Bs.others]; omega⟩
theorem Bs.Ok.addN {x : Bs} (h : x.Ok) (b n : Nat) : (x.addN b n).Ok := by
  induction n generalizing x b with
  | zero => exact h
  | succ n ih => exact ih (h.add b) (b + 1)

/-- A regex of some bytes, in a block. -/
def bsObj (k : Int) (x : Bs) : Obj := .cells #[.int .i64 k, .int .u64 x.b0, .int .u64 x.b1, .int .u64 x.b2, .int .u64 x.b3, .slice none 0 0] 28 (0, 0)

set_option maxRecDepth 100000 in
theorem add_0 (b r : Nat) (k : Int) (x : Bs) (hx : x.Ok) (w : World) (hb : b < 256) (h : w.heap[r]? = some (bsObj k x)) (h4 : b / 64 = 0) :
    Calls Try.prog 50 #[.pointer (some ⟨r, 0, none⟩), .int .u8 b] w fun e w' => e = .returned (.tuple #[]) ∧ w'.heap[r]? = some (bsObj k (x.add b)) ∧ Fr (at1 r) w w' := by
  have c1 : w.cell? ⟨r, 1, none⟩ = some (.int .u64 x.b0) := cell_of_block h rfl
  have f1 : ∀ o, w.frozen? ⟨r, o, none⟩ = false := fun o => free_of_block h
  have e63 := and63 b hb
  have e6 : (b : Int) / 64 = 0 := by omega
  have m1 : (0 : Int) ≤ ((b % 64 : Nat) : Int) := by omega
  have m2 : ((b % 64 : Nat) : Int) < 64 := by omega
  have HB := Lib.hid h
  have H4 := Lib.hid h4
  clear h h4
  go_enter Try.func50, Try.ntmps50
  go_wp2_with fail
  go_still_tail 14, (by kernel_rfl)
  change wpList _ _ _ _ _ w.drew
  go_wp2
  go_end0
  have ho := or_pow x.b0 b hx.h0
  refine ⟨rfl, ?_, (rd_set (Fr.refl _ _) 1 _).drew⟩
  have := heap_setCell w HB.out 1 (.int .u64 (bits BinOp.or IntKind.u64 (x.b0 : Int) (IntKind.u64.wrap ((2 : Int) ^ (b % 64)))))
  rw [ho] at this
  show (w.setCell ⟨r, 1, none⟩ _).heap[r]? = _
  rw [ho, this]
  simp [bsObj, Bs.add, H4.out]

set_option maxRecDepth 100000 in
theorem add_1 (b r : Nat) (k : Int) (x : Bs) (hx : x.Ok) (w : World) (hb : b < 256) (h : w.heap[r]? = some (bsObj k x)) (h4 : b / 64 = 1) :
    Calls Try.prog 50 #[.pointer (some ⟨r, 0, none⟩), .int .u8 b] w fun e w' => e = .returned (.tuple #[]) ∧ w'.heap[r]? = some (bsObj k (x.add b)) ∧ Fr (at1 r) w w' := by
  have c1 : w.cell? ⟨r, 2, none⟩ = some (.int .u64 x.b1) := cell_of_block h rfl
  have f1 : ∀ o, w.frozen? ⟨r, o, none⟩ = false := fun o => free_of_block h
  have e63 := and63 b hb
  have e6 : (b : Int) / 64 = 1 := by omega
  have m1 : (0 : Int) ≤ ((b % 64 : Nat) : Int) := by omega
  have m2 : ((b % 64 : Nat) : Int) < 64 := by omega
  have HB := Lib.hid h
  have H4 := Lib.hid h4
  clear h h4
  go_enter Try.func50, Try.ntmps50
  go_wp2_with fail
  go_still_tail 14, (by kernel_rfl)
  change wpList _ _ _ _ _ w.drew
  go_wp2
  go_end0
  have ho := or_pow x.b1 b hx.h1
  refine ⟨rfl, ?_, (rd_set (Fr.refl _ _) 2 _).drew⟩
  have := heap_setCell w HB.out 2 (.int .u64 (bits BinOp.or IntKind.u64 (x.b1 : Int) (IntKind.u64.wrap ((2 : Int) ^ (b % 64)))))
  rw [ho] at this
  show (w.setCell ⟨r, 2, none⟩ _).heap[r]? = _
  rw [ho, this]
  simp [bsObj, Bs.add, H4.out]

set_option maxRecDepth 100000 in
theorem add_2 (b r : Nat) (k : Int) (x : Bs) (hx : x.Ok) (w : World) (hb : b < 256) (h : w.heap[r]? = some (bsObj k x)) (h4 : b / 64 = 2) :
    Calls Try.prog 50 #[.pointer (some ⟨r, 0, none⟩), .int .u8 b] w fun e w' => e = .returned (.tuple #[]) ∧ w'.heap[r]? = some (bsObj k (x.add b)) ∧ Fr (at1 r) w w' := by
  have c1 : w.cell? ⟨r, 3, none⟩ = some (.int .u64 x.b2) := cell_of_block h rfl
  have f1 : ∀ o, w.frozen? ⟨r, o, none⟩ = false := fun o => free_of_block h
  have e63 := and63 b hb
  have e6 : (b : Int) / 64 = 2 := by omega
  have m1 : (0 : Int) ≤ ((b % 64 : Nat) : Int) := by omega
  have m2 : ((b % 64 : Nat) : Int) < 64 := by omega
  have HB := Lib.hid h
  have H4 := Lib.hid h4
  clear h h4
  go_enter Try.func50, Try.ntmps50
  go_wp2_with fail
  go_still_tail 14, (by kernel_rfl)
  change wpList _ _ _ _ _ w.drew
  go_wp2
  go_end0
  have ho := or_pow x.b2 b hx.h2
  refine ⟨rfl, ?_, (rd_set (Fr.refl _ _) 3 _).drew⟩
  have := heap_setCell w HB.out 3 (.int .u64 (bits BinOp.or IntKind.u64 (x.b2 : Int) (IntKind.u64.wrap ((2 : Int) ^ (b % 64)))))
  rw [ho] at this
  show (w.setCell ⟨r, 3, none⟩ _).heap[r]? = _
  rw [ho, this]
  simp [bsObj, Bs.add, H4.out]

set_option maxRecDepth 100000 in
theorem add_3 (b r : Nat) (k : Int) (x : Bs) (hx : x.Ok) (w : World) (hb : b < 256) (h : w.heap[r]? = some (bsObj k x)) (h4 : b / 64 = 3) :
    Calls Try.prog 50 #[.pointer (some ⟨r, 0, none⟩), .int .u8 b] w fun e w' => e = .returned (.tuple #[]) ∧ w'.heap[r]? = some (bsObj k (x.add b)) ∧ Fr (at1 r) w w' := by
  have c1 : w.cell? ⟨r, 4, none⟩ = some (.int .u64 x.b3) := cell_of_block h rfl
  have f1 : ∀ o, w.frozen? ⟨r, o, none⟩ = false := fun o => free_of_block h
  have e63 := and63 b hb
  have e6 : (b : Int) / 64 = 3 := by omega
  have m1 : (0 : Int) ≤ ((b % 64 : Nat) : Int) := by omega
  have m2 : ((b % 64 : Nat) : Int) < 64 := by omega
  have HB := Lib.hid h
  have H4 := Lib.hid h4
  clear h h4
  go_enter Try.func50, Try.ntmps50
  go_wp2_with fail
  go_still_tail 14, (by kernel_rfl)
  change wpList _ _ _ _ _ w.drew
  go_wp2
  go_end0
  have ho := or_pow x.b3 b hx.h3
  refine ⟨rfl, ?_, (rd_set (Fr.refl _ _) 4 _).drew⟩
  have := heap_setCell w HB.out 4 (.int .u64 (bits BinOp.or IntKind.u64 (x.b3 : Int) (IntKind.u64.wrap ((2 : Int) ^ (b % 64)))))
  rw [ho] at this
  show (w.setCell ⟨r, 4, none⟩ _).heap[r]? = _
  rw [ho, this]
  simp [bsObj, Bs.add, H4.out]

theorem add_any (b r : Nat) (k : Int) (x : Bs) (hx : x.Ok) (w : World) (hb : b < 256) (h : w.heap[r]? = some (bsObj k x)) :
    Calls Try.prog 50 #[.pointer (some ⟨r, 0, none⟩), .int .u8 b] w fun e w' => e = .returned (.tuple #[]) ∧ w'.heap[r]? = some (bsObj k (x.add b)) ∧ Fr (at1 r) w w' := by
  have : b / 64 = 0 ∨ b / 64 = 1 ∨ b / 64 = 2 ∨ b / 64 = 3 := by omega
  rcases this with h4 | h4 | h4 | h4
  · exact add_0 b r k x hx w hb h h4
  · exact add_1 b r k x hx w hb h h4
  · exact add_2 b r k x hx w hb h h4
  · exact add_3 b r k x hx w hb h h4

theorem others_any (k : Int) (x : Bs) (hx : x.Ok) (w : World) :
    Calls Try.prog 51 #[.agg #[.int .i64 k, .int .u64 x.b0, .int .u64 x.b1, .int .u64 x.b2, .int .u64 x.b3, .slice none 0 0]] w fun e w' =>
      e = .returned (.agg #[.int .i64 k, .int .u64 x.others.b0, .int .u64 x.others.b1, .int .u64 x.others.b2, .int .u64 x.others.b3, .slice none 0 0]) ∧ Fr none_ w w' := by
  have hs : IntKind.u64.signed = false := rfl
  go_enter Try.func51, Try.ntmps51
  go_wp2_with fail
  refine wp_loop_rounds 5 ?_
  rw [rounds_succ]
  go_wp2_with fail
  rw [rounds_succ]
  go_wp2_with fail
  rw [rounds_succ]
  go_wp2_with fail
  rw [rounds_succ]
  go_wp2_with fail
  rw [rounds_succ]
  go_wp2_with fail
  have t := not_u64
  exact bodyPost_ret (v := .agg #[.int .i64 k, .int .u64 x.others.b0, .int .u64 x.others.b1, .int .u64 x.others.b2, .int .u64 x.others.b3, .slice none 0 0])
    (by simp [results, Try.results51, go_sem, Bs.others, t _ hx.h0, t _ hx.h1, t _ hx.h2, t _ hx.h3]) rfl ⟨rfl, ((Fr.refl _ _).alloc _).alloc _⟩
end Go.Proofs.Ytjbmppbciiemkaa
