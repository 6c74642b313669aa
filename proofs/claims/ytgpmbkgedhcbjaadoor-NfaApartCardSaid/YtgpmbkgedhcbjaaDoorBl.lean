/-
  A set's numbers: bits.List, a range over a function that keeps its own state.
-/
import Derived.RangeFuncNested
import Derived.RangeFuncBound
import Derived.RangeFuncCalls
import Derived.RangeFuncLeaves
import Derived.Shelf.Abstract
import Derived.Shelf.RegionOpen
import Derived.WalkKit
import Derived.OwnWalkIn
import Derived.TacticsInMore
import Derived.LoopNIn
import Derived.LoopIn
import Derived.RangeFuncBox
import Derived.Test.YtgpmbkgedhcbjaaDoorBt
namespace Go.Proofs.YtgpmbkgedhcbjaaDoor
open Go.RowKit Go.Shelf
attribute [local go_sem] Oper.semAt_some

/-- How many numbers are left in the set that block b holds. -/
def leftIn (b : Nat) (w : World) : Nat := match w.cell? ⟨b, 0, none⟩ with
  | some (.int _ t) => (bitsL t.toNat).length
  | _ => 0
theorem and_pred (t : Nat) (ht : t < 18446744073709551616) (h0 : t ≠ 0) : bits BinOp.and IntKind.u64 (t : Int) ((t : Int) - 1) = ((t &&& (t - 1) : Nat) : Int) := by
  have e : (t : Int) - 1 = ((t - 1 : Nat) : Int) := by omega
  rw [e, bits_and_u64_nat t (t - 1) ht (by omega)]

set_option maxRecDepth 100000 in
set_option maxHeartbeats 2000000 in
theorem each_in (n : Nat) (hn : 1 ≤ n) (l b : Nat) (s : Nat) (hs : s < 18446744073709551616) (J : List Nat → World → Prop)
    (hJ : ∀ pre A v, J pre A → J pre (A.setCell ⟨b, 0, none⟩ v)) (hJd : ∀ pre A, J pre A → J pre A.drew) (hT : ∀ pre A, J pre A → TabOk A)
    (hY : ∀ pre x W, J pre W → pre.length < 64 → YieldAt Fence.wide (n - 1) Tryd.prog l #[.int .i64 (x : Nat)] W fun e W' => e = .returned (.bool true) ∧ J (pre ++ [x]) W' ∧ W'.heap[b]? = W.heap[b]?)
    (W : World) (hb : W.heap[b]? = some (.cells #[.int .u64 s] 35 (0, 0))) (h0 : J [] W) :
    CallsIn Fence.wide n Tryd.prog 31 #[.func (.yield l) #[] #[], .pointer (some ⟨b, 0, none⟩)] W fun e W' => (∃ v, e = .returned v) ∧ J (bitsL s) W' := by
  refine callsIn_of_wp Tryd.func31 rfl trivial ?_ rfl
  simp only [Tryd.ntmps31, List.size_toArray, List.length_cons, List.length_nil, Nat.reduceAdd, Nat.reduceSub, Array.replicate_succ, Array.replicate_zero, List.push_toArray, List.append_toArray, List.nil_append, List.cons_append]
  have HJ := Lib.hid hJ
  have HJD := Lib.hid hJd
  have HT := Lib.hid hT
  have HY := Lib.hid hY
  have HB := Lib.hid hb
  have H0 := Lib.hid h0
  clear hJ hJd hT hY hb h0
  gi_wp2_with fail
  gi_loopw [] (fun wr => ∃ (pre : List Nat) (t : Nat), Aside (t < 18446744073709551616 ∧ bitsL s = pre ++ bitsL t ∧ J pre wr ∧ wr.heap[b]? = some (.cells #[.int .u64 t] 35 (0, 0)))) (fun wr => leftIn b wr)
  case atStart => exact ⟨[], s, hs, rfl, H0.out, HB.out⟩
  case round =>
    obtain ⟨pre, t, hrel'⟩ := hrel
    have HR := Lib.hid hrel'.out
    clear hrel' HB H0
    have ht := HR.out.1
    have c0 : wr.cell? ⟨b, 0, none⟩ = some (.int .u64 t) := cell_of_block HR.out.2.2.2 rfl
    by_cases h0 : t = 0
    · subst h0
      gi_wp2_with fail
      go_end0
      refine ⟨⟨_, rfl⟩, ?_⟩
      have h := HR.out
      rw [bitsL_zero, List.append_nil] at h
      rw [h.2.1]
      exact h.2.2.1
    · have h0' : ((t : Int) != 0) = true := by simp; omega
      have h1 : 1 ≤ (t : Int) := by omega
      have hd := Lib.hid h0
      clear h0
      gi_wp2_with fail
      refine ⟨trivial, ?_⟩
      refine (callsIn_wide.2 (first_any t ht hd.out _ (HT.out _ _ HR.out.2.2.1))).mono ?_
      rintro e w' ⟨rfl, rfl⟩
      obtain ⟨fn, tmps, assign, body, hy, hR⟩ := HY.out pre (Lib.ctz 64 t) wr HR.out.2.2.1 (by
        have h1 := bitsL_length s
        rw [HR.out.2.1, bitsL_step t ht hd.out] at h1
        simp at h1
        omega)
      have HRR := Lib.hid hR
      clear hR
      gi_wp2_with fail
      refine HRR.out.mono ?_
      rintro e W3 ⟨rfl, hJ3, hb3⟩
      have HB3 := Lib.hid (hb3.trans HR.out.2.2.2)
      have HJ3 := Lib.hid hJ3
      clear hJ3 hb3 hy
      have c3 : W3.cell? ⟨b, 0, none⟩ = some (.int .u64 t) := cell_of_block HB3.out rfl
      have f3 : W3.frozen? ⟨b, 0, none⟩ = false := free_of_block HB3.out
      have HA := Lib.hid (and_pred t ht hd.out)
      gi_wp2_with fail
      rw [HA.out]
      have hst := heap_setCell W3 HB3.out 0 (.int .u64 ((t &&& (t - 1) : Nat) : Int))
      have hlt2 : t &&& (t - 1) < 18446744073709551616 := Nat.lt_of_le_of_lt Nat.and_le_left ht
      refine ⟨⟨pre ++ [Lib.ctz 64 t], t &&& (t - 1), hlt2, ?_, HJ.out _ _ _ HJ3.out, hst⟩, ?_⟩
      · rw [HR.out.2.1, bitsL_step t ht hd.out]; simp
      · have e1 : (W3.setCell ⟨b, 0, none⟩ (.int .u64 ((t &&& (t - 1) : Nat) : Int))).cell? ⟨b, 0, none⟩ = some (.int .u64 ((t &&& (t - 1) : Nat) : Int)) := cell_of_block hst rfl
        unfold leftIn
        rw [e1, c0]
        simp only [Int.toNat_natCast]
        rw [bitsL_step t ht hd.out]
        simp

set_option maxRecDepth 100000 in
theorem each_val (s : Nat) (w : World) :
    Calls Tryd.prog 20 #[.int .u64 s] w fun e w' => e = .returned (.func (.func 31) #[] #[.pointer (some ⟨w.heap.size, 0, none⟩)]) ∧ w.alloc (.cells #[.int .u64 s] 35) = w' := by
  have hmf : ∀ (fn : Fn) (first cap : Array Value) (w : World), (Instr.makeFunc fn first cap).run Tryd.prog w = .ok (.func fn first cap) w := fun _ _ _ _ => rfl
  go_enter Tryd.func20, Tryd.ntmps20
  go_wp2_with fail
  go_ret
  exact ⟨rfl, rfl⟩

section
variable {P : Program}
theorem resolve_range {a : Act} {g : Operand} {gf : Nat} {lb : Array Value} (hg : a.eval g = .func (.func gf) #[] lb) (l : Nat) (W : World) :
    (resolve a.eval (rangeCall g l) 0).run P W = .ok { target := .fn (.func gf) lb, args := #[.func (.yield l) #[] #[]] } W := by
  simp only [resolve, hg]
  simp [go_sem]
theorem invoke_range {gf : Nat} {lb : Array Value} (eg : ∀ args w, (callFunc gf args).run P w = .ok (.enter gf args) w) (l : Nat) (W : World) :
    (invoke (.fn (.func gf) lb) #[.func (.yield l) #[] #[]]).run P W = .ok (.enter gf (#[.func (.yield l) #[] #[]] ++ lb)) W := by
  simp [invoke, go_sem, eg]
theorem leads_range {gf : Nat} {lb : Array Value} (l : Nat) (W : World) : ∀ f', Target.leads P W (.fn (.func gf) lb) #[.func (.yield l) #[] #[]] = some f' → Fence.wide.fn f' := fun _ _ => trivial
end
/-- Between two rounds of bits.List: what has been collected, and the loop's own blocks. -/
def ListJ (w w2 : World) (rec : Loop) (pre : List Nat) (W : World) : Prop :=
  ∃ v, W.heap[w.heap.size]? = some (.cells #[v] 32 (0, 0)) ∧ W.ownsRow (w2.heap.size + 2) 3 1 v pre.length (nums pre) ∧ W.heap[w2.heap.size + 1]? = some (.loop rec) ∧
    W.heap[w2.heap.size]? = some (.deferred (some [])) ∧ Fr none_ w W ∧ w2.heap.size + 2 ≤ W.heap.size
theorem listJ_start {w w2 : World} (rec : Loop) (h1 : w2.heap[w.heap.size]? = some (.cells #[.slice none 0 0] 32 (0, 0))) (hf : Fr none_ w w2) :
    ListJ w w2 rec [] ((w2.alloc (.deferred (some []))).alloc (.loop rec)) := by
  have n := alloc_new2 w2 (.deferred (some [])) (.loop rec)
  exact ⟨_, ((((Fr.refl none_ w2).alloc (.deferred (some []))).alloc (.loop rec)).at_ h1 (fun h => h)), World.ownsRow_nil _ _ _ _, n.2, n.1, (hf.alloc _).alloc _, by simp⟩
theorem listJ_set {w w2 : World} {rec : Loop} {pre : List Nat} {W : World} (h : ListJ w w2 rec pre W) (hs : w2.heap.size = w.heap.size + 2) (v : Value) : ListJ w w2 rec pre (W.setCell ⟨w.heap.size + 1, 0, none⟩ v) := by
  obtain ⟨x, h1, h2, h3, h4, h5, h6⟩ := h
  have hh : ∀ k, k ≠ w.heap.size + 1 → (W.setCell ⟨w.heap.size + 1, 0, none⟩ v).heap[k]? = W.heap[k]? := fun k hk => Below.heap_setCell _ _ _ _ hk
  exact ⟨x, (hh _ (by omega)).trans h1, ownsRow_same h2 (fun b hb => hh b (by have := (h2.lt b hb).1; omega)), (hh _ (by omega)).trans h3, (hh _ (by omega)).trans h4, h5.setCell (.inr (by simp only []; omega)) v, by simpa using h6⟩
theorem fr_put {S : Nat → Prop} {a w : World} (h : Fr S a w) {l : Nat} (o : Obj) (hl : S l ∨ a.heap.size ≤ l) : Fr S a (w.putObj l o) :=
  ⟨h.os, h.tape, h.output, by simpa using h.size, fun k hk hn => (World.putObj_heap_other (by
    rintro rfl
    rcases hl with hl | hl
    · exact hn hl
    · omega)).trans (h.block k hk hn)⟩
/-- A world with one block put anew, by what is known of it. -/
theorem with_put {C : World → Prop} {W : World} {l : Nat} {o : Obj} (h : ∀ Wb, (∀ k, k ≠ l → Wb.heap[k]? = W.heap[k]?) → Wb.heap[l]? = some o → (∀ (S : Nat → Prop) (a : World), Fr S a W → (S l ∨ a.heap.size ≤ l) → Fr S a Wb) → Wb.heap.size = W.heap.size → C Wb) (hl : l < W.heap.size) : C (W.putObj l o) :=
  h _ (fun k hk => World.putObj_heap_other hk) (World.putObj_heap_same hl) (fun S a hf hs => fr_put hf o hs) (by simp)

set_option maxRecDepth 100000 in
set_option maxHeartbeats 2000000 in
theorem list_any (s : Nat) (hs : s < 18446744073709551616) (w : World) (hT : TabOk w) :
    Calls Tryd.prog 9 #[.int .u64 s] w fun e w' => ∃ v base, e = .returned v ∧ w'.ownsRow base 3 1 v (bitsL s).length (nums (bitsL s)) ∧ w.heap.size ≤ base ∧ base ≤ w'.heap.size ∧ Fr none_ w w' := by
  obtain ⟨i0, hi, hz0, hz1, hz2⟩ := info_parts int_info
  have HT := Lib.hid hT
  clear hT
  refine (callsIn_wide (n := 5)).1 ?_
  refine callsIn_of_wp_marks Tryd.func9 rfl trivial ?_ rfl
  simp only [Tryd.ntmps9, List.size_toArray, List.length_cons, List.length_nil, Nat.reduceAdd, Nat.reduceSub, Array.replicate_succ, Array.replicate_zero, List.push_toArray, List.append_toArray, List.nil_append, List.cons_append]
  gi_wp2_with fail
  refine ⟨trivial, ?_⟩
  refine (callsIn_wide.2 (each_val s _)).mono ?_
  rintro e w' ⟨rfl, rfl⟩
  gi_wp2_with fail
  refine wpIn_rangeFunc ?_
  intro fn hfn
  refine ⟨_, _, _, _, _, _, _, _, run_enterLoop_outer fn _ _ _ _, resolve_range rfl _ _, leads_range _ _, invoke_range (enters_of Tryd.func31 (by kernel_rfl) rfl) _ _, fun _ => by omega, ?_⟩
  have hsz : ((w.alloc (.cells #[.slice none 0 0] 32)).alloc (.cells #[.int .u64 s] 35)).heap.size = w.heap.size + 2 := by simp
  have hbb := alloc_new2 w (.cells #[.slice none 0 0] 32) (.cells #[.int .u64 s] 35)
  have hfw : Fr none_ w ((w.alloc (.cells #[.slice none 0 0] 32)).alloc (.cells #[.int .u64 s] 35)) := ((Fr.refl none_ w).alloc _).alloc _
  generalize hw2 : (w.alloc (.cells #[.slice none 0 0] 32)).alloc (.cells #[.int .u64 s] 35) = w2 at *
  have HFW := Lib.hid hfw
  have HSZ := Lib.hid hsz
  have HB1 := Lib.hid hbb.1
  have HB2 := Lib.hid hbb.2
  clear hw2 hbb hfw hsz
  refine (each_in 4 (by omega) (w2.heap.size + 1) (w.heap.size + 1) s hs (ListJ w w2 _) (fun pre A v h => listJ_set h HSZ.out v) ?hd ?ht ?hy _ ?hb (listJ_start _ HB1.out HFW.out)).mono ?_
  case hd =>
    rintro pre A ⟨x, h1, h2, h3, h4, h5, h6⟩
    exact ⟨x, h1, h2, h3, h4, h5.drew, h6⟩
  case ht =>
    rintro pre A ⟨x, h1, h2, h3, h4, h5, h6⟩
    exact HT.out.move h5
  case hb => exact ((((Fr.refl none_ w2).alloc (.deferred (some []))).alloc (.loop _)).at_ HB2.out (fun h => h))
  case hy =>
    rintro pre x W ⟨v, h1, h2, h3, h4, h5, h6⟩ hlen
    have hle1 : w2.heap.size ≤ w.heap.size + 2 := by have := HSZ.out; omega
    have hle2 : w.heap.size + 2 ≤ w2.heap.size := by have := HSZ.out; omega
    refine ⟨fn, _, _, _, run_yield h3 rfl, roundIn_of_wpIn hfn ?_⟩
    gi_wp2_with fail
    refine ⟨_, run_beginRound h3 rfl, ?_⟩
    refine with_put (C := fun Wb => Code.wpIn _ _ _ _ _ _ Wb) ?_ (lt_of_block h3)
    intro Wb hne hat hfr hsb
    have KB := Lib.hid ((hne w.heap.size (by omega)).trans h1)
    have KR := Lib.hid (ownsRow_same h2 (fun b hb => hne b (by have := (h2.lt b hb).1; omega)))
    have KL := Lib.hid hat
    have KD := Lib.hid ((hne w2.heap.size (by omega)).trans h4)
    have KF := Lib.hid (hfr _ _ h5 (.inr (by omega)))
    have KS := Lib.hid (hne (w.heap.size + 1) (by omega))
    have hsb' : w2.heap.size + 2 ≤ Wb.heap.size := by omega
    clear h1 h2 h3 h4 h5 h6 hne hat hfr hsb
    have c0 : Wb.cell? ⟨w.heap.size, 0, none⟩ = some v := cell_of_block KB.out rfl
    gi_wp2_with (gi_at_builtin; refine wpListIn_append_own _ rfl (.tmp 8) (.tmp 10) 32 rfl (w2.heap.size + 2) 3 i0 _ 1 8 Tryd.underlying32 hi hz0 hz1 hz2 rfl (by decide) _ pre.length (nums pre) rfl (KR.out.alloc _) ⟨Wb.heap.size, 0, none⟩ 1 1 [.int .i64 x] rfl rfl (getElem_block (alloc_new _ _)) ?c1 ?c2 ?c3 ?c4 ?_)
    case c1 => simp [Value.oneCell']
    case c2 => unfold maxLen; omega
    case c3 => omega
    case c4 => first | omega | (simp; omega)
    intro v1 w1 hown1 hgrow1 _
    obtain ⟨g1, cap1, rfl, hg1, hg1'⟩ := hown1.form (by omega)
    have hub : ∀ b, v.ownBlock = some b → w2.heap.size + 2 ≤ b := fun b hb => (KR.out.lt b hb).1
    have hk : ∀ b o, Wb.heap[b]? = some o → b < w2.heap.size + 2 → w1.heap[b]? = some o := fun b o hb hlt => by
      rw [hgrow1.block b (by have := lt_of_block hb; simp; omega) (fun e => by have := hub b e.symm; omega)]
      exact (Below.heap_alloc _ _ _ (lt_of_block hb)).trans hb
    have K1 := Lib.hid (hk _ _ KB.out (by omega))
    have K2 := Lib.hid (hk _ _ KL.out (by omega))
    have K3 := Lib.hid (hk _ _ KD.out (by omega))
    have K4 := Lib.hid ((KF.out.alloc (.cells #[.int .i64 x] 3)).grown hgrow1 (fun b hb => .inr (by have := hub b hb; omega)))
    have K5 := Lib.hid hown1
    have K6 := Lib.hid (show w1.heap[w.heap.size + 1]? = W.heap[w.heap.size + 1]? by
      rw [hgrow1.block (w.heap.size + 1) (by simp; omega) (fun e => by have := hub _ e.symm; omega), Below.heap_alloc _ _ _ (by omega)]
      exact KS.out)
    have K7 : w2.heap.size + 2 ≤ w1.heap.size := by have := hgrow1.size; simp at this; omega
    have d0 : w1.cell? ⟨w.heap.size, 0, none⟩ = some v := cell_of_block K1.out rfl
    have df : w1.frozen? ⟨w.heap.size, 0, none⟩ = false := free_of_block K1.out
    clear hown1 hgrow1 hub hk c0 KB KR KL KD KF KS
    gi_wp2_with fail
    have e0 := heap_setCell w1 K1.out 0 (.slice (some ⟨g1, 0, none⟩) (pre.length + 1) cap1)
    have eh : ∀ k, k ≠ w.heap.size → (w1.setCell ⟨w.heap.size, 0, none⟩ (.slice (some ⟨g1, 0, none⟩) (pre.length + 1) cap1)).heap[k]? = w1.heap[k]? := fun k hk => Below.heap_setCell _ _ _ _ hk
    have e2 := (eh (w2.heap.size + 1) (by omega)).trans K2.out
    have e3 := (eh w2.heap.size (by omega)).trans K3.out
    have e4 := K4.out.setCell (p := ⟨w.heap.size, 0, none⟩) (.inr (Nat.le_refl _)) (.slice (some ⟨g1, 0, none⟩) (pre.length + 1) cap1)
    have e5 := ownsRow_same (w' := w1.setCell ⟨w.heap.size, 0, none⟩ (.slice (some ⟨g1, 0, none⟩) (pre.length + 1) cap1)) K5.out (fun b hb => eh b (by have := (K5.out.lt b hb).1; omega))
    have e6 := (eh (w.heap.size + 1) (by omega)).trans K6.out
    have e7 : w2.heap.size + 2 ≤ (w1.setCell ⟨w.heap.size, 0, none⟩ (.slice (some ⟨g1, 0, none⟩) (pre.length + 1) cap1)).heap.size := by simpa using K7
    generalize w1.setCell ⟨w.heap.size, 0, none⟩ (.slice (some ⟨g1, 0, none⟩) (pre.length + 1) cap1) = wz at *
    refine ⟨_, _, run_endRound none e2, rfl, ⟨_, (World.putObj_heap_other (by omega)).trans e0, ?_, World.putObj_heap_same (lt_of_block e2), (World.putObj_heap_other (by omega)).trans e3, fr_put e4 _ (.inr (by omega)), by simpa using e7⟩, (World.putObj_heap_other (by omega)).trans e6⟩
    rw [List.length_append, nums_snoc]
    exact ownsRow_same e5 (fun b hb => World.putObj_heap_other (by have := (e5.lt b hb).1; omega))
  rintro e W2 ⟨⟨v, rfl⟩, x, h1, h2, h3, h4, h5, h6⟩
  have hle1 : w2.heap.size ≤ w.heap.size + 2 := by have := HSZ.out; omega
  have hle2 : w.heap.size + 2 ≤ w2.heap.size := by have := HSZ.out; omega
  refine ⟨none, _, run_endLoop h3 (by simp), ?_⟩
  dsimp only
  refine with_put (C := fun Wb => Exit.inBlock _ (Exit.then _ _) .normal _ Wb) ?_ (lt_of_block h3)
  intro Wb hne hat hfr hsb
  have KB := Lib.hid ((hne w.heap.size (by omega)).trans h1)
  have KR := Lib.hid (ownsRow_same h2 (fun b hb => hne b (by have := (h2.lt b hb).1; omega)))
  have KD := Lib.hid ((hne w2.heap.size (by omega)).trans h4)
  have KF := Lib.hid (hfr _ _ h5 (.inr (by omega)))
  have KS6 : w2.heap.size + 2 ≤ Wb.heap.size := by omega
  clear h1 h2 h3 h4 h5 h6 hne hat hfr hsb
  have c0 : Wb.cell? ⟨w.heap.size, 0, none⟩ = some x := cell_of_block KB.out rfl
  gi_wp2_with fail
  refine ⟨by simp, .inl ⟨_, _, rfl, run_takeDeferred KD.out, ?_⟩⟩
  refine ⟨_, results_tmp rfl _ _ _, _, _, rfl, (ownsRow_same KR.out (fun b hb => World.putObj_heap_other (by have := (KR.out.lt b hb).1; omega))), by omega, by simpa using KS6, fr_put KF.out _ (.inr (by omega))⟩
end Go.Proofs.YtgpmbkgedhcbjaaDoor
