/-
  Sets of small numbers: the least one; all of a row.
  A set's numbers: bits.List, a range over a function that keeps its own state.
  How many a set has: OnesCount64; Has, Meet, In of bits.
  OnesCount64, Count; Has, Meet, In of bits: the walks.
-/
import Derived.Test.YtglflmkkecephaaGreatDoorNp
import Derived.Test.YtglflmkkecephaaGreatDoorNu
import Derived.Shelf.Spec.TrailingZeros
import Derived.RangeFuncNested
import Derived.RangeFuncBound
import Derived.RangeFuncCalls
import Derived.RangeFuncLeaves
import Derived.Shelf.Abstract
import Derived.Shelf.RegionOpen
import Derived.WalkKit
import Derived.OwnWalkIn
import Derived.TacticsInMore
import Derived.LoopNIn
import Derived.LoopIn
import Derived.RangeFuncBox
namespace Go.Proofs.YtglflmkkecephaaGreatDoor
open Go.RowKit

/-- The table of math/bits, where the program has it. -/
def TabOk (w : World) : Prop := TabAt 0 Lib.deBruijn64tab w
theorem TabOk.move {w w' : World} (h : TabOk w) (hf : Fr none_ w w') : TabOk w' := fun j hj => hf.cell (h j hj) (fun h => h)

set_option maxHeartbeats 1000000 in
theorem tz_core (x k idx : Nat) (w : World) (hx0 : ((x : Int) == 0) = false)
    (key : IntKind.u64.wrap (bits BinOp.and IntKind.u64 (x : Int) (IntKind.u64.wrap (-(x : Int))) * 285870213051353865) / 288230376151711744 = (idx : Int))
    (hi : idx < 64) (hk : k < 64) (hcell : w.cell? ⟨0, idx, none⟩ = some (.int .u8 k)) :
    Calls Tryz.prog 51 #[.int .u64 x] w fun e w' => e = .returned (.int .i64 k) ∧ w = w' := by
  go_enter Tryz.func51, Tryz.ntmps51
  go_wp2_with (simp only [key])
  go_ret
  exact ⟨rfl, rfl⟩
theorem tz_any (x : Nat) (hx : x < 18446744073709551616) (hx0 : x ≠ 0) (w : World) (hT : TabOk w) :
    Calls Tryz.prog 51 #[.int .u64 x] w fun e w' => e = .returned (.int .i64 (Lib.ctz 64 x)) ∧ w = w' := by
  obtain ⟨hlow, hk⟩ := Lib.lowest_bit 64 x hx0 hx
  obtain ⟨hi, htab⟩ := Lib.deBruijn64_at _ hk
  have hcell := hT _ hi
  rw [htab] at hcell
  exact tz_core x _ _ w (by simp; omega) (tz64_key x _ hx hx0 hlow) hi hk hcell
set_option maxHeartbeats 1000000 in
theorem first_any (x : Nat) (hx : x < 18446744073709551616) (hx0 : x ≠ 0) (w : World) (hT : TabOk w) :
    Calls Tryz.prog 27 #[.int .u64 x] w fun e w' => e = .returned (.int .i64 (Lib.ctz 64 x)) ∧ w = w' := by
  have h0 : ((x : Int) == 0) = false := by simp; omega
  have HT := Lib.hid hT
  clear hT
  go_enter Tryz.func27, Tryz.ntmps27
  go_wp2_with fail
  refine (tz_any x hx hx0 _ HT.out).mono ?_
  rintro e w' ⟨rfl, rfl⟩
  go_wp2_with fail
  go_ret
  exact ⟨rfl, rfl⟩

/-- A set's numbers, rising. -/
def bitsL (s : Nat) : List Nat := (List.range 64).filter fun i => s.testBit i
theorem low_form (x : Nat) (hx : x < 18446744073709551616) (h0 : x ≠ 0) : ∃ m, x = 2 ^ Lib.ctz 64 x * (2 * m + 1) ∧ Lib.ctz 64 x < 64 := by
  have e : Lib.ctz 64 x = Lib.ctzFrom 64 x := by simp [Lib.ctz, h0]
  rw [e]
  exact Lib.ctzFrom_spec 64 x (by omega) hx
theorem testBit_low (k m i : Nat) : (2 ^ k * (2 * m + 1)).testBit i = (decide (i = k) || (decide (k < i) && (2 ^ k * (2 * m)).testBit i)) := by
  rw [Nat.mul_comm (2 ^ k), Nat.mul_comm (2 ^ k), Nat.testBit_mul_two_pow, Nat.testBit_mul_two_pow]
  rcases Nat.lt_trichotomy i k with h | h | h
  · have h1 : ¬ k ≤ i := by omega
    have h2 : ¬ i = k := by omega
    have h3 : ¬ k < i := by omega
    simp [h1, h2, h3]
  · subst h; simp [Nat.testBit_zero]
  · obtain ⟨j, rfl⟩ : ∃ j, i = k + (j + 1) := ⟨i - k - 1, by omega⟩
    have e3 : k + (j + 1) - k = j + 1 := by omega
    have h1 : k ≤ k + (j + 1) := by omega
    have h2 : ¬ k + (j + 1) = k := by omega
    have h3 : k < k + (j + 1) := by omega
    simp only [h1, h2, h3, decide_true, decide_false, Bool.true_and, Bool.false_or, e3]
    rw [Nat.testBit_succ, Nat.testBit_succ]
    congr 1
    omega
/-- Without its least number. -/
theorem drop_low (x : Nat) (hx : x < 18446744073709551616) (h0 : x ≠ 0) (i : Nat) : (x &&& (x - 1)).testBit i = (x.testBit i && !decide (i = Lib.ctz 64 x)) := by
  obtain ⟨m, hm, hk⟩ := low_form x hx h0
  generalize Lib.ctz 64 x = k at *
  have hp : 0 < 2 ^ k := Nat.pow_pos (by decide)
  have e1 : x - 1 = 2 ^ k * (2 * m) + (2 ^ k - 1) := by rw [hm, Nat.mul_add, Nat.mul_one]; omega
  rw [Nat.testBit_and, e1, Nat.testBit_two_pow_mul_add _ (by omega)]
  rw [hm, testBit_low]
  rcases Nat.lt_trichotomy i k with h | h | h
  · have h2 : ¬ i = k := by omega
    have h3 : ¬ k < i := by omega
    simp [h2, h3]
  · subst h
    simp [Nat.testBit_zero]
  · have h2 : ¬ i = k := by omega
    have h1 : ¬ i < k := by omega
    simp only [h2, h, h1, decide_true, decide_false, Bool.false_or, Bool.true_and, if_false, Bool.not_false, Bool.and_true]
    rw [Nat.mul_comm (2 ^ k), Nat.testBit_mul_two_pow]
    have : k ≤ i := by omega
    simp [this]
theorem bitsL_zero : bitsL 0 = [] := by simp [bitsL]
theorem bitsL_step (x : Nat) (hx : x < 18446744073709551616) (h0 : x ≠ 0) : bitsL x = Lib.ctz 64 x :: bitsL (x &&& (x - 1)) := by
  obtain ⟨m, hm, hk⟩ := low_form x hx h0
  have hd := drop_low x hx h0
  generalize Lib.ctz 64 x = k at *
  have hlow : ∀ i, i < k → x.testBit i = false := by
    intro i hi
    rw [hm, testBit_low]
    have h2 : ¬ i = k := by omega
    have h3 : ¬ k < i := by omega
    simp [h2, h3]
  have hat : x.testBit k = true := by
    rw [hm, testBit_low]; simp
  unfold bitsL
  have hr : List.range 64 = List.range k ++ (k :: List.range' (k + 1) (63 - k)) := by
    rw [← List.range'_succ, List.range_eq_range', List.range_eq_range']
    have : (64 : Nat) = k + (63 - k + 1) := by omega
    conv => lhs; rw [this]
    rw [← List.range'_append_1]
    simp
  have z1 : (List.range k).filter (fun i => x.testBit i) = [] := List.filter_eq_nil_iff.2 fun i hi => by rw [hlow i (List.mem_range.1 hi)]; simp
  have z2 : (List.range k).filter (fun i => (x &&& (x - 1)).testBit i) = [] := List.filter_eq_nil_iff.2 fun i hi => by rw [hd, hlow i (List.mem_range.1 hi)]; simp
  rw [hr, List.filter_append, List.filter_append, z1, z2, List.nil_append, List.nil_append, List.filter_cons, List.filter_cons, hat, hd k]
  simp only [if_true, decide_true, Bool.not_true, Bool.and_false, Bool.false_eq_true, if_false]
  congr 1
  refine List.filter_congr fun i hi => ?_
  rw [hd]
  have : ¬ i = k := by have := (List.mem_range'_1.1 hi).1; omega
  simp [this]
theorem mem_bitsL {s : Nat} (hs : s < 18446744073709551616) (i : Nat) : i ∈ bitsL s ↔ s.testBit i = true := by
  unfold bitsL
  rw [List.mem_filter, List.mem_range]
  constructor
  · exact fun h => h.2
  · intro h
    refine ⟨Nat.lt_of_not_le fun hge => ?_, h⟩
    have : s.testBit i = false := Nat.testBit_lt_two_pow (Nat.lt_of_lt_of_le hs (Nat.pow_le_pow_right (show 2 > 0 by decide) hge))
    rw [this] at h
    cases h
theorem bitsL_length (s : Nat) : (bitsL s).length ≤ 64 := by
  unfold bitsL
  have := List.length_filter_le (fun i => s.testBit i) (List.range 64)
  simpa using this

/-- A set of some numbers. -/
def setM (l : List Int) : Nat := l.foldl (fun s n => s ||| bitM n) 0
theorem setM_snoc (l : List Int) (n : Int) : setM (l ++ [n]) = setM l ||| bitM n := by simp [setM]
theorem setM_lt (l : List Int) : setM l < 18446744073709551616 := by
  have key : ∀ (l : List Int) (s : Nat), s < 18446744073709551616 → l.foldl (fun s n => s ||| bitM n) s < 18446744073709551616 := by
    intro l
    induction l with
    | nil => exact fun s hs => hs
    | cons a l ih => exact fun s hs => ih _ (or_lt hs (bitM_lt _))
  exact key l 0 (by decide)
theorem testBit_setM (t : Nat) : ∀ (l : List Int), (setM l).testBit t = true ↔ t < 64 ∧ (t : Int) ∈ l := by
  have key : ∀ (l : List Int) (s : Nat), (l.foldl (fun s n => s ||| bitM n) s).testBit t = true ↔ s.testBit t = true ∨ (t < 64 ∧ (t : Int) ∈ l) := by
    intro l
    induction l with
    | nil => intro s; simp
    | cons a l ih =>
      intro s
      rw [List.foldl_cons, ih, Nat.testBit_or, Bool.or_eq_true, testBit_bitM, decide_eq_true_iff]
      simp only [List.mem_cons]
      constructor
      · rintro ((h | ⟨rfl, h⟩) | ⟨h1, h2⟩)
        · exact .inl h
        · exact .inr ⟨h, .inl rfl⟩
        · exact .inr ⟨h1, .inr h2⟩
      · rintro (h | ⟨h1, h2 | h2⟩)
        · exact .inl (.inl h)
        · exact .inl (.inr ⟨h2.symm, h1⟩)
        · exact .inr ⟨h1, h2⟩
  intro l
  refine (key l 0).trans ?_
  simp
set_option maxHeartbeats 1000000 in
theorem bitsOf_any (a : Option Addr) (n cap : Nat) (A : List Int) (w : World) (h : IntsAt w (.slice a n cap) A) (hn : A.length = n) (hl : n ≤ 1000000) :
    Calls Tryz.prog 24 #[.slice a n cap] w fun e w' => e = .returned (.int .u64 (setM A : Nat)) ∧ w = w' := by
  have H := Lib.hid h
  have HN := Lib.hid hn
  clear h hn
  go_enter Tryz.func24, Tryz.ntmps24
  go_wp2_with fail
  go_loop [3, 8] (fun x3 x8 => ∃ i : Nat, i ≤ n ∧ x8 = .int .i64 i ∧ x3 = .int .u64 (setM (A.take i) : Nat)) (fun _ x8 => n - (intOf x8).toNat)
  case atStart => exact ⟨0, Nat.zero_le _, rfl, rfl⟩
  case round =>
    obtain ⟨i, hi, rfl, rfl⟩ := hrel
    by_cases hlt : i < n
    · have hil : (i : Int) < (n : Int) := by omega
      obtain ⟨z, hz⟩ : ∃ z, A[i]? = some z := ⟨A[i]'(by rw [HN.out]; exact hlt), List.getElem?_eq_getElem _⟩
      obtain ⟨g, rfl, hc⟩ := H.out.cell hz
      have HT := Lib.hid (show setM (A.take (i + 1)) = setM (A.take i) ||| bitM z by rw [List.take_add_one, hz]; exact setM_snoc _ _)
      have HO := Lib.hid (bits_or_u64_nat (setM (A.take i)) (bitM z) (setM_lt _) (bitM_lt _))
      obtain ⟨T, hT⟩ : ∃ T, setM (A.take i) = T := ⟨_, rfl⟩
      rw [hT] at HT HO ⊢
      clear hz hT
      go_wp2_with fail
      refine (bit_any _ _).mono ?_
      rintro e w' ⟨rfl, rfl⟩
      go_wp2_with fail
      go_round
      case rel => exact ⟨i + 1, by omega, by go_num, by rw [HT.out, HO.out]⟩
      case measure => simp [intOf]; omega
    · obtain rfl : i = n := by omega
      have ht : A.take i = A := List.take_of_length_le (by rw [HN.out]; exact Nat.le_refl _)
      rw [ht]
      go_wp2_with fail
      go_ret
      exact ⟨rfl, rfl⟩
end Go.Proofs.YtglflmkkecephaaGreatDoor

namespace Go.Proofs.YtglflmkkecephaaGreatDoor
open Go.RowKit Go.Shelf
attribute [local go_sem] Oper.semAt_some

/-- How many numbers are left in the set that block b holds. -/
def leftIn (b : Nat) (w : World) : Nat := match w.cell? ⟨b, 0, none⟩ with
  | some (.int _ t) => (bitsL t.toNat).length
  | _ => 0
theorem and_pred (t : Nat) (ht : t < 18446744073709551616) (h0 : t ≠ 0) : bits BinOp.and IntKind.u64 (t : Int) ((t : Int) - 1) = ((t &&& (t - 1) : Nat) : Int) := by
  have e : (t : Int) - 1 = ((t - 1 : Nat) : Int) := by omega
  rw [e, bits_and_u64_nat t (t - 1) ht (by omega)]

set_option maxRecDepth 100000 in
set_option maxHeartbeats 2000000 in
theorem each_in (n : Nat) (hn : 1 ≤ n) (l b : Nat) (s : Nat) (hs : s < 18446744073709551616) (J : List Nat → World → Prop)
    (hJ : ∀ pre A v, J pre A → J pre (A.setCell ⟨b, 0, none⟩ v)) (hJd : ∀ pre A, J pre A → J pre A.drew) (hT : ∀ pre A, J pre A → TabOk A)
    (hY : ∀ pre x W, J pre W → pre.length < 64 → YieldAt Fence.wide (n - 1) Tryz.prog l #[.int .i64 (x : Nat)] W fun e W' => e = .returned (.bool true) ∧ J (pre ++ [x]) W' ∧ W'.heap[b]? = W.heap[b]?)
    (W : World) (hb : W.heap[b]? = some (.cells #[.int .u64 s] 39 (0, 0))) (h0 : J [] W) :
    CallsIn Fence.wide n Tryz.prog 81 #[.func (.yield l) #[] #[], .pointer (some ⟨b, 0, none⟩)] W fun e W' => (∃ v, e = .returned v) ∧ J (bitsL s) W' := by
  refine callsIn_of_wp Tryz.func81 rfl trivial ?_ rfl
  simp only [Tryz.ntmps81, List.size_toArray, List.length_cons, List.length_nil, Nat.reduceAdd, Nat.reduceSub, Array.replicate_succ, Array.replicate_zero, List.push_toArray, List.append_toArray, List.nil_append, List.cons_append]
  have HJ := Lib.hid hJ
  have HJD := Lib.hid hJd
  have HT := Lib.hid hT
  have HY := Lib.hid hY
  have HB := Lib.hid hb
  have H0 := Lib.hid h0
  clear hJ hJd hT hY hb h0
  gi_wp2_with fail
  gi_loopw [] (fun wr => ∃ (pre : List Nat) (t : Nat), Aside (t < 18446744073709551616 ∧ bitsL s = pre ++ bitsL t ∧ J pre wr ∧ wr.heap[b]? = some (.cells #[.int .u64 t] 39 (0, 0)))) (fun wr => leftIn b wr)
  case atStart => exact ⟨[], s, hs, rfl, H0.out, HB.out⟩
  case round =>
    obtain ⟨pre, t, hrel'⟩ := hrel
    have HR := Lib.hid hrel'.out
    clear hrel' HB H0
    have ht := HR.out.1
    have c0 : wr.cell? ⟨b, 0, none⟩ = some (.int .u64 t) := cell_of_block HR.out.2.2.2 rfl
    by_cases h0 : t = 0
    · subst h0
      gi_wp2_with fail
      go_end0
      refine ⟨⟨_, rfl⟩, ?_⟩
      have h := HR.out
      rw [bitsL_zero, List.append_nil] at h
      rw [h.2.1]
      exact h.2.2.1
    · have h0' : ((t : Int) != 0) = true := by simp; omega
      have h1 : 1 ≤ (t : Int) := by omega
      have hd := Lib.hid h0
      clear h0
      gi_wp2_with fail
      refine ⟨trivial, ?_⟩
      refine (callsIn_wide.2 (first_any t ht hd.out _ (HT.out _ _ HR.out.2.2.1))).mono ?_
      rintro e w' ⟨rfl, rfl⟩
      obtain ⟨fn, tmps, assign, body, hy, hR⟩ := HY.out pre (Lib.ctz 64 t) wr HR.out.2.2.1 (by
        have h1 := bitsL_length s
        rw [HR.out.2.1, bitsL_step t ht hd.out] at h1
        simp at h1
        omega)
      have HRR := Lib.hid hR
      clear hR
      gi_wp2_with fail
      refine HRR.out.mono ?_
      rintro e W3 ⟨rfl, hJ3, hb3⟩
      have HB3 := Lib.hid (hb3.trans HR.out.2.2.2)
      have HJ3 := Lib.hid hJ3
      clear hJ3 hb3 hy
      have c3 : W3.cell? ⟨b, 0, none⟩ = some (.int .u64 t) := cell_of_block HB3.out rfl
      have f3 : W3.frozen? ⟨b, 0, none⟩ = false := free_of_block HB3.out
      have HA := Lib.hid (and_pred t ht hd.out)
      gi_wp2_with fail
      rw [HA.out]
      have hst := heap_setCell W3 HB3.out 0 (.int .u64 ((t &&& (t - 1) : Nat) : Int))
      have hlt2 : t &&& (t - 1) < 18446744073709551616 := Nat.lt_of_le_of_lt Nat.and_le_left ht
      refine ⟨⟨pre ++ [Lib.ctz 64 t], t &&& (t - 1), hlt2, ?_, HJ.out _ _ _ HJ3.out, hst⟩, ?_⟩
      · rw [HR.out.2.1, bitsL_step t ht hd.out]; simp
      · have e1 : (W3.setCell ⟨b, 0, none⟩ (.int .u64 ((t &&& (t - 1) : Nat) : Int))).cell? ⟨b, 0, none⟩ = some (.int .u64 ((t &&& (t - 1) : Nat) : Int)) := cell_of_block hst rfl
        unfold leftIn
        rw [e1, c0]
        simp only [Int.toNat_natCast]
        rw [bitsL_step t ht hd.out]
        simp

set_option maxRecDepth 100000 in
theorem each_val (s : Nat) (w : World) :
    Calls Tryz.prog 64 #[.int .u64 s] w fun e w' => e = .returned (.func (.func 81) #[] #[.pointer (some ⟨w.heap.size, 0, none⟩)]) ∧ w.alloc (.cells #[.int .u64 s] 39) = w' := by
  have hmf : ∀ (fn : Fn) (first cap : Array Value) (w : World), (Instr.makeFunc fn first cap).run Tryz.prog w = .ok (.func fn first cap) w := fun _ _ _ _ => rfl
  go_enter Tryz.func64, Tryz.ntmps64
  go_wp2_with fail
  go_ret
  exact ⟨rfl, rfl⟩

section
variable {P : Program}
theorem resolve_range {a : Act} {g : Operand} {gf : Nat} {lb : Array Value} (hg : a.eval g = .func (.func gf) #[] lb) (l : Nat) (W : World) :
    (resolve a.eval (rangeCall g l) 0).run P W = .ok { target := .fn (.func gf) lb, args := #[.func (.yield l) #[] #[]] } W := by
  simp only [resolve, hg]
  simp [go_sem]
theorem invoke_range {gf : Nat} {lb : Array Value} (eg : ∀ args w, (callFunc gf args).run P w = .ok (.enter gf args) w) (l : Nat) (W : World) :
    (invoke (.fn (.func gf) lb) #[.func (.yield l) #[] #[]]).run P W = .ok (.enter gf (#[.func (.yield l) #[] #[]] ++ lb)) W := by
  simp [invoke, go_sem, eg]
theorem leads_range {gf : Nat} {lb : Array Value} (l : Nat) (W : World) : ∀ f', Target.leads P W (.fn (.func gf) lb) #[.func (.yield l) #[] #[]] = some f' → Fence.wide.fn f' := fun _ _ => trivial
end
/-- Between two rounds of bits.List: what has been collected, and the loop's own blocks. -/
def ListJ (w w2 : World) (rec : Loop) (pre : List Nat) (W : World) : Prop :=
  ∃ v, W.heap[w.heap.size]? = some (.cells #[v] 70 (0, 0)) ∧ W.ownsRow (w2.heap.size + 2) 3 1 v pre.length (nums pre) ∧ W.heap[w2.heap.size + 1]? = some (.loop rec) ∧
    W.heap[w2.heap.size]? = some (.deferred (some [])) ∧ Fr none_ w W ∧ w2.heap.size + 2 ≤ W.heap.size
theorem listJ_start {w w2 : World} (rec : Loop) (h1 : w2.heap[w.heap.size]? = some (.cells #[.slice none 0 0] 70 (0, 0))) (hf : Fr none_ w w2) :
    ListJ w w2 rec [] ((w2.alloc (.deferred (some []))).alloc (.loop rec)) := by
  have n := alloc_new2 w2 (.deferred (some [])) (.loop rec)
  exact ⟨_, ((((Fr.refl none_ w2).alloc (.deferred (some []))).alloc (.loop rec)).at_ h1 (fun h => h)), World.ownsRow_nil _ _ _ _, n.2, n.1, (hf.alloc _).alloc _, by simp⟩
theorem listJ_set {w w2 : World} {rec : Loop} {pre : List Nat} {W : World} (h : ListJ w w2 rec pre W) (hs : w2.heap.size = w.heap.size + 2) (v : Value) : ListJ w w2 rec pre (W.setCell ⟨w.heap.size + 1, 0, none⟩ v) := by
  obtain ⟨x, h1, h2, h3, h4, h5, h6⟩ := h
  have hh : ∀ k, k ≠ w.heap.size + 1 → (W.setCell ⟨w.heap.size + 1, 0, none⟩ v).heap[k]? = W.heap[k]? := fun k hk => Below.heap_setCell _ _ _ _ hk
  exact ⟨x, (hh _ (by omega)).trans h1, ownsRow_same h2 (fun b hb => hh b (by have := (h2.lt b hb).1; omega)), (hh _ (by omega)).trans h3, (hh _ (by omega)).trans h4, h5.setCell (.inr (by simp only []; omega)) v, by simpa using h6⟩
theorem fr_put {S : Nat → Prop} {a w : World} (h : Fr S a w) {l : Nat} (o : Obj) (hl : S l ∨ a.heap.size ≤ l) : Fr S a (w.putObj l o) :=
  ⟨h.os, h.tape, h.output, by simpa using h.size, fun k hk hn => (World.putObj_heap_other (by
    rintro rfl
    rcases hl with hl | hl
    · exact hn hl
    · omega)).trans (h.block k hk hn)⟩
/-- A world with one block put anew, by what is known of it. -/
theorem with_put {C : World → Prop} {W : World} {l : Nat} {o : Obj} (h : ∀ Wb, (∀ k, k ≠ l → Wb.heap[k]? = W.heap[k]?) → Wb.heap[l]? = some o → (∀ (S : Nat → Prop) (a : World), Fr S a W → (S l ∨ a.heap.size ≤ l) → Fr S a Wb) → Wb.heap.size = W.heap.size → C Wb) (hl : l < W.heap.size) : C (W.putObj l o) :=
  h _ (fun k hk => World.putObj_heap_other hk) (World.putObj_heap_same hl) (fun S a hf hs => fr_put hf o hs) (by simp)

set_option maxRecDepth 100000 in
set_option maxHeartbeats 2000000 in
theorem list_any (s : Nat) (hs : s < 18446744073709551616) (w : World) (hT : TabOk w) :
    Calls Tryz.prog 45 #[.int .u64 s] w fun e w' => ∃ v base, e = .returned v ∧ w'.ownsRow base 3 1 v (bitsL s).length (nums (bitsL s)) ∧ w.heap.size ≤ base ∧ base ≤ w'.heap.size ∧ Fr none_ w w' := by
  obtain ⟨i0, hi, hz0, hz1, hz2⟩ := info_parts int_info
  have HT := Lib.hid hT
  clear hT
  refine (callsIn_wide (n := 5)).1 ?_
  refine callsIn_of_wp_marks Tryz.func45 rfl trivial ?_ rfl
  simp only [Tryz.ntmps45, List.size_toArray, List.length_cons, List.length_nil, Nat.reduceAdd, Nat.reduceSub, Array.replicate_succ, Array.replicate_zero, List.push_toArray, List.append_toArray, List.nil_append, List.cons_append]
  gi_wp2_with fail
  refine ⟨trivial, ?_⟩
  refine (callsIn_wide.2 (each_val s _)).mono ?_
  rintro e w' ⟨rfl, rfl⟩
  gi_wp2_with fail
  refine wpIn_rangeFunc ?_
  intro fn hfn
  refine ⟨_, _, _, _, _, _, _, _, run_enterLoop_outer fn _ _ _ _, resolve_range rfl _ _, leads_range _ _, invoke_range (enters_of Tryz.func81 (by kernel_rfl) rfl) _ _, fun _ => by omega, ?_⟩
  have hsz : ((w.alloc (.cells #[.slice none 0 0] 70)).alloc (.cells #[.int .u64 s] 39)).heap.size = w.heap.size + 2 := by simp
  have hbb := alloc_new2 w (.cells #[.slice none 0 0] 70) (.cells #[.int .u64 s] 39)
  have hfw : Fr none_ w ((w.alloc (.cells #[.slice none 0 0] 70)).alloc (.cells #[.int .u64 s] 39)) := ((Fr.refl none_ w).alloc _).alloc _
  generalize hw2 : (w.alloc (.cells #[.slice none 0 0] 70)).alloc (.cells #[.int .u64 s] 39) = w2 at *
  have HFW := Lib.hid hfw
  have HSZ := Lib.hid hsz
  have HB1 := Lib.hid hbb.1
  have HB2 := Lib.hid hbb.2
  clear hw2 hbb hfw hsz
  refine (each_in 4 (by omega) (w2.heap.size + 1) (w.heap.size + 1) s hs (ListJ w w2 _) (fun pre A v h => listJ_set h HSZ.out v) ?hd ?ht ?hy _ ?hb (listJ_start _ HB1.out HFW.out)).mono ?_
  case hd =>
    rintro pre A ⟨x, h1, h2, h3, h4, h5, h6⟩
    exact ⟨x, h1, h2, h3, h4, h5.drew, h6⟩
  case ht =>
    rintro pre A ⟨x, h1, h2, h3, h4, h5, h6⟩
    exact HT.out.move h5
  case hb => exact ((((Fr.refl none_ w2).alloc (.deferred (some []))).alloc (.loop _)).at_ HB2.out (fun h => h))
  case hy =>
    rintro pre x W ⟨v, h1, h2, h3, h4, h5, h6⟩ hlen
    have hle1 : w2.heap.size ≤ w.heap.size + 2 := by have := HSZ.out; omega
    have hle2 : w.heap.size + 2 ≤ w2.heap.size := by have := HSZ.out; omega
    refine ⟨fn, _, _, _, run_yield h3 rfl, roundIn_of_wpIn hfn ?_⟩
    gi_wp2_with fail
    refine ⟨_, run_beginRound h3 rfl, ?_⟩
    refine with_put (C := fun Wb => Code.wpIn _ _ _ _ _ _ Wb) ?_ (lt_of_block h3)
    intro Wb hne hat hfr hsb
    have KB := Lib.hid ((hne w.heap.size (by omega)).trans h1)
    have KR := Lib.hid (ownsRow_same h2 (fun b hb => hne b (by have := (h2.lt b hb).1; omega)))
    have KL := Lib.hid hat
    have KD := Lib.hid ((hne w2.heap.size (by omega)).trans h4)
    have KF := Lib.hid (hfr _ _ h5 (.inr (by omega)))
    have KS := Lib.hid (hne (w.heap.size + 1) (by omega))
    have hsb' : w2.heap.size + 2 ≤ Wb.heap.size := by omega
    clear h1 h2 h3 h4 h5 h6 hne hat hfr hsb
    have c0 : Wb.cell? ⟨w.heap.size, 0, none⟩ = some v := cell_of_block KB.out rfl
    gi_wp2_with (gi_at_builtin; refine wpListIn_append_own _ rfl (.tmp 8) (.tmp 10) 70 rfl (w2.heap.size + 2) 3 i0 _ 1 8 Tryz.underlying70 hi hz0 hz1 hz2 rfl (by decide) _ pre.length (nums pre) rfl (KR.out.alloc _) ⟨Wb.heap.size, 0, none⟩ 1 1 [.int .i64 x] rfl rfl (getElem_block (alloc_new _ _)) ?c1 ?c2 ?c3 ?c4 ?_)
    case c1 => simp [Value.oneCell']
    case c2 => unfold maxLen; omega
    case c3 => omega
    case c4 => first | omega | (simp; omega)
    intro v1 w1 hown1 hgrow1 _
    obtain ⟨g1, cap1, rfl, hg1, hg1'⟩ := hown1.form (by omega)
    have hub : ∀ b, v.ownBlock = some b → w2.heap.size + 2 ≤ b := fun b hb => (KR.out.lt b hb).1
    have hk : ∀ b o, Wb.heap[b]? = some o → b < w2.heap.size + 2 → w1.heap[b]? = some o := fun b o hb hlt => by
      rw [hgrow1.block b (by have := lt_of_block hb; simp; omega) (fun e => by have := hub b e.symm; omega)]
      exact (Below.heap_alloc _ _ _ (lt_of_block hb)).trans hb
    have K1 := Lib.hid (hk _ _ KB.out (by omega))
    have K2 := Lib.hid (hk _ _ KL.out (by omega))
    have K3 := Lib.hid (hk _ _ KD.out (by omega))
    have K4 := Lib.hid ((KF.out.alloc (.cells #[.int .i64 x] 3)).grown hgrow1 (fun b hb => .inr (by have := hub b hb; omega)))
    have K5 := Lib.hid hown1
    have K6 := Lib.hid (show w1.heap[w.heap.size + 1]? = W.heap[w.heap.size + 1]? by
      rw [hgrow1.block (w.heap.size + 1) (by simp; omega) (fun e => by have := hub _ e.symm; omega), Below.heap_alloc _ _ _ (by omega)]
      exact KS.out)
    have K7 : w2.heap.size + 2 ≤ w1.heap.size := by have := hgrow1.size; simp at this; omega
    have d0 : w1.cell? ⟨w.heap.size, 0, none⟩ = some v := cell_of_block K1.out rfl
    have df : w1.frozen? ⟨w.heap.size, 0, none⟩ = false := free_of_block K1.out
    clear hown1 hgrow1 hub hk c0 KB KR KL KD KF KS
    gi_wp2_with fail
    have e0 := heap_setCell w1 K1.out 0 (.slice (some ⟨g1, 0, none⟩) (pre.length + 1) cap1)
    have eh : ∀ k, k ≠ w.heap.size → (w1.setCell ⟨w.heap.size, 0, none⟩ (.slice (some ⟨g1, 0, none⟩) (pre.length + 1) cap1)).heap[k]? = w1.heap[k]? := fun k hk => Below.heap_setCell _ _ _ _ hk
    have e2 := (eh (w2.heap.size + 1) (by omega)).trans K2.out
    have e3 := (eh w2.heap.size (by omega)).trans K3.out
    have e4 := K4.out.setCell (p := ⟨w.heap.size, 0, none⟩) (.inr (Nat.le_refl _)) (.slice (some ⟨g1, 0, none⟩) (pre.length + 1) cap1)
    have e5 := ownsRow_same (w' := w1.setCell ⟨w.heap.size, 0, none⟩ (.slice (some ⟨g1, 0, none⟩) (pre.length + 1) cap1)) K5.out (fun b hb => eh b (by have := (K5.out.lt b hb).1; omega))
    have e6 := (eh (w.heap.size + 1) (by omega)).trans K6.out
    have e7 : w2.heap.size + 2 ≤ (w1.setCell ⟨w.heap.size, 0, none⟩ (.slice (some ⟨g1, 0, none⟩) (pre.length + 1) cap1)).heap.size := by simpa using K7
    generalize w1.setCell ⟨w.heap.size, 0, none⟩ (.slice (some ⟨g1, 0, none⟩) (pre.length + 1) cap1) = wz at *
    refine ⟨_, _, run_endRound none e2, rfl, ⟨_, (World.putObj_heap_other (by omega)).trans e0, ?_, World.putObj_heap_same (lt_of_block e2), (World.putObj_heap_other (by omega)).trans e3, fr_put e4 _ (.inr (by omega)), by simpa using e7⟩, (World.putObj_heap_other (by omega)).trans e6⟩
    rw [List.length_append, nums_snoc]
    exact ownsRow_same e5 (fun b hb => World.putObj_heap_other (by have := (e5.lt b hb).1; omega))
  rintro e W2 ⟨⟨v, rfl⟩, x, h1, h2, h3, h4, h5, h6⟩
  have hle1 : w2.heap.size ≤ w.heap.size + 2 := by have := HSZ.out; omega
  have hle2 : w.heap.size + 2 ≤ w2.heap.size := by have := HSZ.out; omega
  refine ⟨none, _, run_endLoop h3 (by simp), ?_⟩
  dsimp only
  refine with_put (C := fun Wb => Exit.inBlock _ (Exit.then _ _) .normal _ Wb) ?_ (lt_of_block h3)
  intro Wb hne hat hfr hsb
  have KB := Lib.hid ((hne w.heap.size (by omega)).trans h1)
  have KR := Lib.hid (ownsRow_same h2 (fun b hb => hne b (by have := (h2.lt b hb).1; omega)))
  have KD := Lib.hid ((hne w2.heap.size (by omega)).trans h4)
  have KF := Lib.hid (hfr _ _ h5 (.inr (by omega)))
  have KS6 : w2.heap.size + 2 ≤ Wb.heap.size := by omega
  clear h1 h2 h3 h4 h5 h6 hne hat hfr hsb
  have c0 : Wb.cell? ⟨w.heap.size, 0, none⟩ = some x := cell_of_block KB.out rfl
  gi_wp2_with fail
  refine ⟨by simp, .inl ⟨_, _, rfl, run_takeDeferred KD.out, ?_⟩⟩
  refine ⟨_, results_tmp rfl _ _ _, _, _, rfl, (ownsRow_same KR.out (fun b hb => World.putObj_heap_other (by have := (KR.out.lt b hb).1; omega))), by omega, by simpa using KS6, fr_put KF.out _ (.inr (by omega))⟩
end Go.Proofs.YtglflmkkecephaaGreatDoor

namespace Go.Proofs.YtglflmkkecephaaGreatDoor
open Go.RowKit

/-! ### Bytes -/
theorem land256 (a c M m : Nat) (hc : c < 256) (hm : m < 256) : (256 * a + c) &&& (256 * M + m) = 256 * (a &&& M) + (c &&& m) := by
  have hl : c &&& m < 256 := Nat.lt_of_le_of_lt Nat.and_le_left hc
  apply Nat.eq_of_testBit_eq
  intro i
  rw [Nat.testBit_and]
  have e : ∀ (x y : Nat), y < 256 → (256 * x + y).testBit i = if i < 8 then y.testBit i else x.testBit (i - 8) := fun x y hy => by
    rw [show 256 * x + y = 2 ^ 8 * x + y from rfl, Nat.testBit_two_pow_mul_add x (by exact hy)]
  rw [e a c hc, e M m hm, e _ _ hl]
  split
  · rw [Nat.testBit_and]
  · rw [Nat.testBit_and]
def p1 (M x : Nat) : Nat := ((x / 2) &&& M) + (x &&& M)
def p2 (M x : Nat) : Nat := ((x / 4) &&& M) + (x &&& M)
def p3 (M x : Nat) : Nat := (x / 16 + x) &&& M
/-- A mask of j bytes. -/
def mk (m : Nat) : Nat → Nat
  | 0 => 0
  | j + 1 => 256 * mk m j + m
def pg (r : Nat) : Nat := p3 15 (p2 51 (p1 85 r))
theorem byte_tab : ∀ r, r < 256 → (((r / 2) &&& 85) = ((128 + r / 2) &&& 85)) ∧ p1 85 r < 256 ∧ (((p1 85 r / 4) &&& 51) = ((64 + p1 85 r / 4) &&& 51) ∧ ((p1 85 r / 4) &&& 51) = ((128 + p1 85 r / 4) &&& 51) ∧ ((p1 85 r / 4) &&& 51) = ((192 + p1 85 r / 4) &&& 51)) ∧ p2 51 (p1 85 r) ≤ 68 ∧ p2 51 (p1 85 r) % 16 ≤ 4 ∧ pg r = ((List.range 8).filter fun i => r.testBit i).length ∧ pg r ≤ 8 := by decide +kernel
theorem p1_step (M q r : Nat) (hr : r < 256) : p1 (256 * M + 85) (256 * q + r) = 256 * p1 M q + p1 85 r := by
  have h1 : (256 * q + r) / 2 = 256 * (q / 2) + (128 * (q % 2) + r / 2) := by omega
  unfold p1
  rw [h1, land256 _ _ _ _ (by omega) (by decide), land256 _ _ _ _ hr (by decide)]
  have h2 : (128 * (q % 2) + r / 2) &&& 85 = (r / 2) &&& 85 := by
    rcases Nat.mod_two_eq_zero_or_one q with h | h
    · rw [h]; simp
    · rw [h]; exact (byte_tab r hr).1.symm
  rw [h2]
  omega
theorem p2_step (M q r : Nat) (hr : r < 256) : p2 (256 * M + 51) (256 * q + p1 85 r) = 256 * p2 M q + p2 51 (p1 85 r) := by
  obtain ⟨_, hb, ⟨k1, k2, k3⟩, _⟩ := byte_tab r hr
  obtain ⟨s, hs⟩ : ∃ s, p1 85 r = s := ⟨_, rfl⟩
  rw [hs] at hb k1 k2 k3 ⊢
  have h1 : (256 * q + s) / 4 = 256 * (q / 4) + (64 * (q % 4) + s / 4) := by omega
  unfold p2
  rw [h1, land256 _ _ _ _ (by omega) (by decide), land256 _ _ _ _ hb (by decide)]
  have h2 : (64 * (q % 4) + s / 4) &&& 51 = (s / 4) &&& 51 := by
    have : q % 4 = 0 ∨ q % 4 = 1 ∨ q % 4 = 2 ∨ q % 4 = 3 := by omega
    rcases this with h | h | h | h
    · rw [h]; simp
    · rw [h]; exact k1.symm
    · rw [h]; exact k2.symm
    · rw [h]; exact k3.symm
  rw [h2]
  omega
theorem nib_tab : ∀ s, s ≤ 68 → ∀ d, d ≤ 4 → ((16 * d + s / 16 + s) &&& 15) = ((s / 16 + s) &&& 15) := by decide +kernel
theorem p3_step (M q r : Nat) (hr : r < 256) (hq : q % 16 ≤ 4) : p3 (256 * M + 15) (256 * q + p2 51 (p1 85 r)) = 256 * p3 M q + pg r := by
  obtain ⟨_, _, _, hb, _, _⟩ := byte_tab r hr
  unfold pg
  obtain ⟨s, hs⟩ : ∃ s, p2 51 (p1 85 r) = s := ⟨_, rfl⟩
  rw [hs] at hb ⊢
  have h1 : (256 * q + s) / 16 + (256 * q + s) = 256 * (q / 16 + q) + (16 * (q % 16) + s / 16 + s) := by omega
  unfold p3
  rw [h1, land256 _ _ _ _ (by omega) (by decide), nib_tab s hb _ hq]
def pop : Nat → Nat → Nat
  | 0, _ => 0
  | j + 1, x => 256 * pop j (x / 256) + pg (x % 256)
theorem p_all : ∀ (j x : Nat), x < 256 ^ j → p3 (mk 15 j) (p2 (mk 51 j) (p1 (mk 85 j) x)) = pop j x ∧ p2 (mk 51 j) (p1 (mk 85 j) x) % 16 ≤ 4
  | 0, x, h => by
    obtain rfl : x = 0 := by simpa using h
    decide
  | j + 1, x, h => by
    have hx : x = 256 * (x / 256) + x % 256 := by omega
    have hr : x % 256 < 256 := by omega
    have hq : x / 256 < 256 ^ j := by
      rw [Nat.pow_succ] at h
      exact Nat.div_lt_of_lt_mul (by omega)
    obtain ⟨h1, h2⟩ := p_all j (x / 256) hq
    obtain ⟨_, _, _, _, hb5, _⟩ := byte_tab _ hr
    have e1 : p1 (mk 85 (j + 1)) x = 256 * p1 (mk 85 j) (x / 256) + p1 85 (x % 256) := by
      rw [mk]
      conv => lhs; rw [hx]
      exact p1_step _ _ _ hr
    have e2 : p2 (mk 51 (j + 1)) (p1 (mk 85 (j + 1)) x) = 256 * p2 (mk 51 j) (p1 (mk 85 j) (x / 256)) + p2 51 (p1 85 (x % 256)) := by
      rw [e1, mk]; exact p2_step _ _ _ hr
    rw [e2]
    refine ⟨?_, by omega⟩
    rw [mk, p3_step _ _ _ hr h2, h1, pop]
theorem filter_byte (x : Nat) : ∀ j, ((List.range (8 * (j + 1))).filter fun i => x.testBit i).length = ((List.range 8).filter fun i => (x % 256).testBit i).length + ((List.range (8 * j)).filter fun i => (x / 256).testBit i).length := by
  intro j
  rw [show 8 * (j + 1) = 8 + 8 * j by omega, List.range_add, List.filter_append, List.length_append]
  congr 1
  · congr 1
    refine List.filter_congr fun i hi => ?_
    have hi : i < 8 := List.mem_range.1 hi
    rw [show x % 256 = x % 2 ^ 8 from rfl, Nat.testBit_mod_two_pow]
    simp [hi]
  · rw [List.filter_map, List.length_map]
    congr 1
    refine List.filter_congr fun i _ => ?_
    show x.testBit (8 + i) = _
    rw [show x / 256 = x / 2 ^ 8 from rfl, Nat.testBit_div_two_pow, Nat.add_comm]
def sumB : Nat → Nat → Nat
  | 0, _ => 0
  | j + 1, x => sumB j (x / 256) + pg (x % 256)
theorem sumB_eq : ∀ (j x : Nat), sumB j x = ((List.range (8 * j)).filter fun i => x.testBit i).length
  | 0, x => by simp [sumB]
  | j + 1, x => by
    rw [sumB, filter_byte, sumB_eq j, (byte_tab (x % 256) (by omega)).2.2.2.2.2.1]
    omega
/-- What the last steps make of it. -/
def ones (x : Nat) : Nat :=
  let y := p3 (mk 15 8) (p2 (mk 51 8) (p1 (mk 85 8) x))
  let y := y + y / 256
  let y := y + y / 65536
  let y := y + y / 4294967296
  y % 128
theorem pop_eq (x : Nat) : ∃ g0 g1 g2 g3 g4 g5 g6 g7, g0 ≤ 8 ∧ g1 ≤ 8 ∧ g2 ≤ 8 ∧ g3 ≤ 8 ∧ g4 ≤ 8 ∧ g5 ≤ 8 ∧ g6 ≤ 8 ∧ g7 ≤ 8 ∧ pop 8 x = g0 + 256 * (g1 + 256 * (g2 + 256 * (g3 + 256 * (g4 + 256 * (g5 + 256 * (g6 + 256 * g7)))))) ∧ sumB 8 x = g0 + g1 + g2 + g3 + g4 + g5 + g6 + g7 := by
  have hg : ∀ y, pg (y % 256) ≤ 8 := fun y => (byte_tab (y % 256) (by omega)).2.2.2.2.2.2
  refine ⟨_, _, _, _, _, _, _, _, hg x, hg (x / 256), hg (x / 256 / 256), hg (x / 256 / 256 / 256), hg (x / 256 / 256 / 256 / 256), hg (x / 256 / 256 / 256 / 256 / 256), hg (x / 256 / 256 / 256 / 256 / 256 / 256), hg (x / 256 / 256 / 256 / 256 / 256 / 256 / 256), ?_, ?_⟩
  · simp only [pop]; omega
  · simp only [sumB]; omega
theorem pow_8 : (256 : Nat) ^ 8 = 18446744073709551616 := by decide
theorem q_256 (g Q y : Nat) (k : g ≤ 8) (h : y = g + 256 * Q) : y / 256 = Q := by omega
theorem q_65536 (g A y : Nat) (k : g < 65536) (h : y = g + 65536 * A) : y / 65536 = A := by omega
theorem q_2_32 (g A y : Nat) (k : g < 4294967296) (h : y = g + 4294967296 * A) : y / 4294967296 = A := by omega
theorem q_128 (S T y : Nat) (k : S ≤ 64) (h : y = S + 256 * T) : y % 128 = S := by omega
theorem y_low (g0 g1 g2 g3 g4 g5 g6 g7 n : Nat) (k0 : g0 ≤ 8) (k1 : g1 ≤ 8) (k2 : g2 ≤ 8) (k3 : g3 ≤ 8) (k4 : g4 ≤ 8) (k5 : g5 ≤ 8) (k6 : g6 ≤ 8) (k7 : g7 ≤ 8) (hn : n = g0 + 256 * (g1 + 256 * (g2 + 256 * (g3 + 256 * (g4 + 256 * (g5 + 256 * (g6 + 256 * g7))))))) :
    (n + n / 256 + (n + n / 256) / 65536 + (n + n / 256 + (n + n / 256) / 65536) / 4294967296) % 128 = g0 + g1 + g2 + g3 + g4 + g5 + g6 + g7 := by
  have d1 := q_256 _ _ _ k0 hn
  rw [d1]
  have e2 : n + (g1 + 256 * (g2 + 256 * (g3 + 256 * (g4 + 256 * (g5 + 256 * (g6 + 256 * g7)))))) = (g0 + g1 + 256 * (g1 + g2)) + 65536 * ((g2 + g3) + 256 * (g3 + g4) + 65536 * ((g4 + g5) + 256 * (g5 + g6)) + 4294967296 * ((g6 + g7) + 256 * g7)) := by rw [hn]; clear d1 hn k0 k1 k2 k3 k4 k5 k6 k7; omega
  have d2 := q_65536 _ _ _ (by omega) e2
  rw [d2, e2]
  obtain ⟨y, hy⟩ : ∃ y, (g0 + g1 + 256 * (g1 + g2)) + 65536 * ((g2 + g3) + 256 * (g3 + g4) + 65536 * ((g4 + g5) + 256 * (g5 + g6)) + 4294967296 * ((g6 + g7) + 256 * g7)) + ((g2 + g3) + 256 * (g3 + g4) + 65536 * ((g4 + g5) + 256 * (g5 + g6)) + 4294967296 * ((g6 + g7) + 256 * g7)) = y := ⟨_, rfl⟩
  rw [hy]
  have e3 : y = ((g0 + g1 + g2 + g3) + 256 * (g1 + g2 + g3 + g4) + 65536 * (g2 + g3 + g4 + g5) + 16777216 * (g3 + g4 + g5 + g6)) + 4294967296 * ((g4 + g5 + g6 + g7) + 256 * (g5 + g6 + g7) + 65536 * (g6 + g7) + 16777216 * g7) := by rw [← hy]; clear d1 d2 e2 hn hy k0 k1 k2 k3 k4 k5 k6 k7; omega
  clear d1 d2 e2 hn hy
  have b3 : (g0 + g1 + g2 + g3) + 256 * (g1 + g2 + g3 + g4) + 65536 * (g2 + g3 + g4 + g5) + 16777216 * (g3 + g4 + g5 + g6) < 4294967296 := by clear e3; omega
  have d3 := q_2_32 _ _ _ b3 e3
  have b4 : g0 + g1 + g2 + g3 + g4 + g5 + g6 + g7 ≤ 64 := by clear e3 d3 b3; omega
  rw [d3]
  refine q_128 _ ((g1 + g2 + g3 + g4) + 256 * (g2 + g3 + g4 + g5) + 65536 * (g3 + g4 + g5 + g6) + 16777216 * ((g4 + g5 + g6 + g7) + 256 * (g5 + g6 + g7) + 65536 * (g6 + g7) + 16777216 * g7) + ((g5 + g6 + g7) + 256 * (g6 + g7) + 65536 * g7)) _ b4 ?_
  rw [e3]
  clear d3 e3 b3 b4 k0 k1 k2 k3 k4 k5 k6 k7
  omega
theorem ones_eq (x : Nat) (hx : x < 18446744073709551616) : ones x = (bitsL x).length := by
  have h1 := (p_all 8 x (by rw [pow_8]; exact hx)).1
  obtain ⟨g0, g1, g2, g3, g4, g5, g6, g7, k0, k1, k2, k3, k4, k5, k6, k7, e1, e2⟩ := pop_eq x
  rw [bitsL, show (64 : Nat) = 8 * 8 from rfl, ← sumB_eq, e2]
  unfold ones
  simp only [h1, e1]
  exact y_low g0 g1 g2 g3 g4 g5 g6 g7 _ k0 k1 k2 k3 k4 k5 k6 k7 rfl
end Go.Proofs.YtglflmkkecephaaGreatDoor

namespace Go.Proofs.YtglflmkkecephaaGreatDoor
open Go.RowKit

theorem bits_and_i64_127 (a : Nat) (ha : a < 9223372036854775808) : bits .and .i64 (a : Int) 127 = ((a % 128 : Nat) : Int) := by
  have hx : a &&& 127 < 2 ^ 7 := Nat.and_lt_two_pow _ (by decide)
  have h1 : (BitVec.ofInt 64 (a : Int)).toNat = a := by
    rw [BitVec.ofInt_natCast, BitVec.toNat_ofNat]; exact Nat.mod_eq_of_lt (by omega)
  have h2 : (BitVec.ofInt 64 127).toNat = 127 := by decide
  show IntKind.i64.wrap ((BitVec.ofInt 64 (a : Int) &&& BitVec.ofInt 64 127).toNat : Int) = _
  rw [BitVec.toNat_and, h1, h2, IntKind.wrap_i64]
  have h3 : a &&& 127 = a % 128 := Nat.and_two_pow_sub_one_eq_mod a 7
  rw [h3]
  rw [h3] at hx
  omega
theorem mk_85 : mk 85 8 = 6148914691236517205 := by decide
theorem mk_51 : mk 51 8 = 3689348814741910323 := by decide
theorem mk_15 : mk 15 8 = 1085102592571150095 := by decide
theorem sum_u64 {a b y : Nat} (h : a + b = y) (hy : y < 18446744073709551616) : IntKind.u64.wrap ((a : Int) + (b : Int)) = (y : Int) := by
  rw [IntKind.wrap_u64]; omega

set_option maxRecDepth 100000 in
theorem ones_any (x : Nat) (hx : x < 18446744073709551616) (w : World) :
    Calls Tryz.prog 63 #[.int .u64 x] w fun e w' => e = .returned (.int .i64 (ones x : Nat)) ∧ w = w' := by
  have HO : Hid (ones x = ((((p3 (mk 15 8) (p2 (mk 51 8) (p1 (mk 85 8) x))) + (p3 (mk 15 8) (p2 (mk 51 8) (p1 (mk 85 8) x))) / 256) + ((p3 (mk 15 8) (p2 (mk 51 8) (p1 (mk 85 8) x))) + (p3 (mk 15 8) (p2 (mk 51 8) (p1 (mk 85 8) x))) / 256) / 65536) + (((p3 (mk 15 8) (p2 (mk 51 8) (p1 (mk 85 8) x))) + (p3 (mk 15 8) (p2 (mk 51 8) (p1 (mk 85 8) x))) / 256) + ((p3 (mk 15 8) (p2 (mk 51 8) (p1 (mk 85 8) x))) + (p3 (mk 15 8) (p2 (mk 51 8) (p1 (mk 85 8) x))) / 256) / 65536) / 4294967296) % 128) := Lib.hid rfl
  obtain ⟨a1, ha1⟩ : ∃ a, (x / 2) &&& 6148914691236517205 = a := ⟨_, rfl⟩
  obtain ⟨b1, hb1⟩ : ∃ a, x &&& 6148914691236517205 = a := ⟨_, rfl⟩
  have l1 : a1 ≤ 6148914691236517205 := by rw [← ha1]; exact Nat.and_le_right
  have l2 : b1 ≤ 6148914691236517205 := by rw [← hb1]; exact Nat.and_le_right
  obtain ⟨y1, hy1⟩ : ∃ y, a1 + b1 = y := ⟨_, rfl⟩
  have Y1 : p1 (mk 85 8) x = y1 := by rw [mk_85, p1, ha1, hb1, hy1]
  have f1 : bits BinOp.and IntKind.u64 ((x : Int) / 2) 6148914691236517205 = (a1 : Int) := by
    have := bits_and_u64_nat (x / 2) 6148914691236517205 (by omega) (by decide)
    rw [ha1] at this
    rw [← this]; rfl
  have f2 : bits BinOp.and IntKind.u64 (x : Int) 6148914691236517205 = (b1 : Int) := by
    have := bits_and_u64_nat x 6148914691236517205 hx (by decide)
    rw [hb1] at this
    rw [← this]; rfl
  have f3 := sum_u64 hy1 (by omega)
  have ly1 : y1 < 18446744073709551616 := by omega
  obtain ⟨a2, ha2⟩ : ∃ a, (y1 / 4) &&& 3689348814741910323 = a := ⟨_, rfl⟩
  obtain ⟨b2, hb2⟩ : ∃ a, y1 &&& 3689348814741910323 = a := ⟨_, rfl⟩
  have l3 : a2 ≤ 3689348814741910323 := by rw [← ha2]; exact Nat.and_le_right
  have l4 : b2 ≤ 3689348814741910323 := by rw [← hb2]; exact Nat.and_le_right
  obtain ⟨y2, hy2⟩ : ∃ y, a2 + b2 = y := ⟨_, rfl⟩
  have Y2 : p2 (mk 51 8) y1 = y2 := by rw [mk_51, p2, ha2, hb2, hy2]
  have f4 : bits BinOp.and IntKind.u64 ((y1 : Int) / 4) 3689348814741910323 = (a2 : Int) := by
    have := bits_and_u64_nat (y1 / 4) 3689348814741910323 (by omega) (by decide)
    rw [ha2] at this
    rw [← this]; rfl
  have f5 : bits BinOp.and IntKind.u64 (y1 : Int) 3689348814741910323 = (b2 : Int) := by
    have := bits_and_u64_nat y1 3689348814741910323 ly1 (by decide)
    rw [hb2] at this
    rw [← this]; rfl
  have f6 := sum_u64 hy2 (by omega)
  have ly2 : y2 ≤ 7378697629483820646 := by omega
  obtain ⟨s3, hs3⟩ : ∃ y, y2 / 16 + y2 = y := ⟨_, rfl⟩
  have f7 : IntKind.u64.wrap ((y2 : Int) / 16 + (y2 : Int)) = (s3 : Int) := by
    have := sum_u64 hs3 (by omega)
    rw [← this]; rfl
  obtain ⟨y3, hy3⟩ : ∃ a, s3 &&& 1085102592571150095 = a := ⟨_, rfl⟩
  have l5 : y3 ≤ 1085102592571150095 := by rw [← hy3]; exact Nat.and_le_right
  have Y3 : p3 (mk 15 8) y2 = y3 := by rw [mk_15, p3, hs3, hy3]
  have f8 : bits BinOp.and IntKind.u64 (s3 : Int) 1085102592571150095 = (y3 : Int) := by
    have := bits_and_u64_nat s3 1085102592571150095 (by omega) (by decide)
    rw [hy3] at this
    rw [← this]; rfl
  obtain ⟨y4, hy4⟩ : ∃ y, y3 + y3 / 256 = y := ⟨_, rfl⟩
  have f9 : IntKind.u64.wrap ((y3 : Int) + (y3 : Int) / 256) = (y4 : Int) := by
    have := sum_u64 hy4 (by omega)
    rw [← this]; rfl
  obtain ⟨y5, hy5⟩ : ∃ y, y4 + y4 / 65536 = y := ⟨_, rfl⟩
  have f10 : IntKind.u64.wrap ((y4 : Int) + (y4 : Int) / 65536) = (y5 : Int) := by
    have := sum_u64 hy5 (by omega)
    rw [← this]; rfl
  obtain ⟨y6, hy6⟩ : ∃ y, y5 + y5 / 4294967296 = y := ⟨_, rfl⟩
  have f11 : IntKind.u64.wrap ((y5 : Int) + (y5 : Int) / 4294967296) = (y6 : Int) := by
    have := sum_u64 hy6 (by omega)
    rw [← this]; rfl
  have ly6 : y6 < 9223372036854775808 := by omega
  have f12 := bits_and_i64_127 y6 ly6
  obtain ⟨z, hz⟩ : ∃ z, y6 % 128 = z := ⟨_, rfl⟩
  rw [hz] at f12
  have HZ := Lib.hid (show ones x = z by rw [HO.out, Y1, Y2, Y3, hy4, hy5, hy6, hz])
  clear HO ha1 hb1 ha2 hb2 hs3 hy1 hy2 hy3 hy4 hy5 hy6 Y1 Y2 Y3 hz
  go_enter Tryz.func63, Tryz.ntmps63
  go_wp2_with fail
  go_ret
  exact ⟨by rw [HZ.out]; rfl, rfl⟩
theorem count_any (x : Nat) (hx : x < 18446744073709551616) (w : World) :
    Calls Tryz.prog 42 #[.int .u64 x] w fun e w' => e = .returned (.int .i64 ((bitsL x).length : Nat)) ∧ w = w' := by
  have HO := Lib.hid (ones_eq x hx)
  go_enter Tryz.func42, Tryz.ntmps42
  go_wp2_with fail
  refine (ones_any x hx _).mono ?_
  rintro e w' ⟨rfl, rfl⟩
  go_wp2_with fail
  go_ret
  exact ⟨by rw [HO.out]; rfl, rfl⟩
theorem bhas_any (s : Nat) (n : Int) (w : World) (hs : s < 18446744073709551616) :
    Calls Tryz.prog 26 #[.int .u64 s, .int .i64 n] w fun e w' => e = .returned (.bool (decide (0 ≤ n) && s.testBit n.toNat)) ∧ w = w' := by
  have HO := Lib.hid (and_bit_ne s n hs)
  go_enter Tryz.func26, Tryz.ntmps26
  go_wp2_with fail
  refine (bit_any _ _).mono ?_
  rintro e w' ⟨rfl, rfl⟩
  go_wp2_with fail
  go_ret
  exact ⟨by rw [HO.out]; rfl, rfl⟩
theorem meet_any (a b : Nat) (w : World) (ha : a < 18446744073709551616) (hb : b < 18446744073709551616) :
    Calls Tryz.prog 29 #[.int .u64 a, .int .u64 b] w fun e w' => e = .returned (.int .u64 (a &&& b : Nat)) ∧ w = w' := by
  have HO := Lib.hid (bits_and_u64_nat a b ha hb)
  go_enter Tryz.func29, Tryz.ntmps29
  go_wp2_with fail
  go_ret
  exact ⟨by rw [← HO.out]; rfl, rfl⟩
end Go.Proofs.YtglflmkkecephaaGreatDoor
