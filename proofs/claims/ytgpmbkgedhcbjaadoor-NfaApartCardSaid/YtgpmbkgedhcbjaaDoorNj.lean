/-
  The document's example of layer 4 answers true.
-/
import Derived.Test.YtgpmbkgedhcbjaaDoorNi
import Derived.Test.YtgpmbkgedhcbjaaDoorNb2
import Derived.Test.YtgpmbkgedhcbjaaDoorPf
import Derived.Test.YtgpmbkgedhcbjaaDoorPq
namespace Go.Proofs.YtgpmbkgedhcbjaaDoor
open Go.RowKit

def rA : Rx := .mk 4 0 0 0 0 [.mk 1 0 8589934592 0 0 []]
def rB : Rx := .mk 2 0 0 0 0 [.mk 1 0 8589934592 0 0 [], .mk 1 0 17179869184 0 0 []]
theorem parse_A : parseM ⟨#[97, 42]⟩ = .ok rA := by kernel_rfl
theorem parse_B : parseM ⟨#[97, 98]⟩ = .ok rB := by kernel_rfl
def gAB : List St := (buildM [rA, rB] 0 [] []).1
def sAB : List Nat := (buildM [rA, rB] 0 [] []).2
theorem run_1 : runM gAB sAB [97] = 1 := by decide +kernel
theorem run_2 : runM gAB sAB [97, 98] = 2 := by decide +kernel
theorem run_3 : runM gAB sAB [] = 1 := by decide +kernel
theorem run_4 : tagsM gAB (ints (stepM gAB (ints (stepM gAB (ints (closedM gAB (ints sAB))) 97)) 98)) = 2 := by decide +kernel
theorem size_AB : rA.size = 2 := by decide +kernel
theorem fit_build (rs : List Rx) (h : Rx.sizes rs ≤ 3000) : Fit (buildM rs 0 [] []).1 := by
  obtain ⟨h1, h2, h3⟩ := buildM_facts rs 0 [] []
  have hs := h3 0 (fun s h => by simp at h)
  simp only [List.length_nil, Nat.zero_add] at h1 hs
  refine ⟨by omega, ?_⟩
  have key : ∀ n, ((List.range n).map fun i => if i ∈ ([] : List Nat) then 0 else 1 + (freeOf (buildM rs 0 [] []).1 i).length).sum ≤ n * 12001 := by
    intro n
    induction n with
    | zero => simp
    | succ n ih =>
      rw [List.range_succ, List.map_append, List.sum_append]
      have : (freeOf (buildM rs 0 [] []).1 n).length ≤ 12000 := by
        unfold freeOf
        cases hn : (buildM rs 0 [] []).1[n]? with
        | none => simp
        | some s =>
          have := hs s (List.mem_of_getElem? hn)
          simp only []
          omega
      simp only [List.map_cons, List.map_nil, List.sum_cons, List.sum_nil, List.not_mem_nil, if_false] at ih ⊢
      omega
  have := key (buildM rs 0 [] []).1.length
  unfold todo
  omega

theorem parse_ok (s : ByteArray) (hs : s.size < 9223372036854775808) (r : Rx) (hm : parseM s = .ok r) (w : World) :
    Calls Tryd.prog 12 #[.string s] w fun e w' => ∃ v, e = .returned (.tuple #[v, .int .i64 0]) ∧ RxV (fun k => w.heap.size ≤ k) w' v r ∧ Fr none_ w w' :=
  (parse_any s hs 604 (.ok r) (by rw [parseB_total, hm]) w).mono fun e w' h => h
theorem parse_no (s : ByteArray) (hs : s.size < 9223372036854775808) (n : Int) (hm : parseM s = .error n) (w : World) :
    Calls Tryd.prog 12 #[.string s] w fun e w' => e = .returned (.tuple #[.agg #[.int .i64 0, .int .u64 0, .int .u64 0, .int .u64 0, .int .u64 0, .slice none 0 0], .int .i64 n]) ∧ Fr none_ w w' :=
  (parse_any s hs 604 (.error n) (by rw [parseB_total, hm]) w).mono fun e w' h => h

/-- A machine at work, in a world that may grow: what each of its methods answers. -/
def MachG (dm : Nat) (w : World) (l : List St) (starts : List Nat) : Prop := ∃ S, Mach dm S w l starts
theorem MachG.move {dm : Nat} {w w' : World} {l : List St} {starts : List Nat} (h : MachG dm w l starts) (hf : Fr none_ w w') : MachG dm w' l starts := by
  obtain ⟨S, h⟩ := h
  exact ⟨S, h.move hf (fun _ h => h.elim)⟩
/-- A row of whole numbers in memory. -/
def IntsAt (w : World) (v : Value) (A : List Int) : Prop := ∃ base, w.ownsRow base 3 1 v A.length (intsV A)
theorem IntsAt.nil (w : World) : IntsAt w (.slice none 0 0) [] := ⟨0, World.ownsRow_nil _ _ _ _⟩
theorem IntsAt.move {w w' : World} {v : Value} {A : List Int} (h : IntsAt w v A) (hf : Fr none_ w w') : IntsAt w' v A := by
  obtain ⟨b, h⟩ := h
  exact ⟨b, ownsRow_same h (fun b' hb => hf.block b' (h.lt b' hb).2 (fun h => h))⟩
theorem IntsAt.of {w : World} {v : Value} {l : List Nat} {base : Nat} (h : w.ownsRow base 3 1 v l.length (nums l)) : IntsAt w v (ints l) := by
  refine ⟨base, ?_⟩
  rw [ints_length, ← nums_eq]; exact h
theorem IntsAt.slice {w : World} {v : Value} {A : List Int} (h : IntsAt w v A) : ∃ a cap, v = .slice a A.length cap ∧ A.length ≤ cap := by
  obtain ⟨b, h⟩ := h
  exact ownsRow_slice h
theorem run_val (dm : Nat) (w : World) (l : List St) (starts : List Nat) (s : ByteArray) (v : Nat) (h : MachG dm w l starts) (hf : Fit l) (hs : starts.length ≤ 1000) (hsz : s.size ≤ 100000) (hv : runM l starts (bytesN s) = v) :
    Calls Tryd.prog 10 #[.pointer (some ⟨dm, 0, none⟩), .string s] w fun e w' => e = .returned (.int .u64 v) ∧ Fr none_ w w' := by
  obtain ⟨S, h⟩ := h
  subst hv
  exact run_any dm S w l starts s h hf hs hsz
theorem begin_val (dm : Nat) (w : World) (l : List St) (starts : List Nat) (h : MachG dm w l starts) (hf : Fit l) (hs : starts.length ≤ 1000) :
    Calls Tryd.prog 15 #[.pointer (some ⟨dm, 0, none⟩)] w fun e w' => ∃ v', e = .returned v' ∧ IntsAt w' v' (ints (closedM l (ints starts))) ∧ Fr none_ w w' := by
  obtain ⟨S, h⟩ := h
  refine (begin_any dm S w l starts h hf hs).mono ?_
  rintro e w' ⟨v', he, h1, h2⟩
  exact ⟨v', he, .of h1, h2⟩
theorem step_val (dm : Nat) (w : World) (l : List St) (starts : List Nat) (av : Value) (A : List Int) (b : Nat) (h : MachG dm w l starts) (hf : Fit l) (ha : IntsAt w av A) (hA : A.length ≤ 1000000) (hb : b < 256) :
    Calls Tryd.prog 14 #[.pointer (some ⟨dm, 0, none⟩), av, .int .u8 b] w fun e w' => ∃ v', e = .returned v' ∧ IntsAt w' v' (ints (stepM l A b)) ∧ Fr none_ w w' := by
  obtain ⟨S, h⟩ := h
  obtain ⟨base, ha⟩ := ha
  refine (step_any dm S w l starts base av A b h hf ha hA hb).mono ?_
  rintro e w' ⟨v', he, h1, h2⟩
  exact ⟨v', he, .of h1, h2⟩
theorem tags_val (dm : Nat) (w : World) (l : List St) (starts : List Nat) (av : Value) (A : List Int) (v : Nat) (h : MachG dm w l starts) (hf : Fit l) (ha : IntsAt w av A) (hA : A.length ≤ 1000000) (hv : tagsM l A = v) :
    Calls Tryd.prog 13 #[.pointer (some ⟨dm, 0, none⟩), av] w fun e w' => e = .returned (.int .u64 v) ∧ w = w' := by
  obtain ⟨S, h⟩ := h
  obtain ⟨base, ha⟩ := ha
  subst hv
  exact tags_any dm S w l starts base av A h hf.len ha hA
theorem closedM_length (l : List St) (W : List Int) : (closedM l W).length ≤ l.length := by
  unfold closedM
  have := List.length_filter_le (fun i => decide (i ∈ visit l W)) (List.range l.length)
  simpa using this
/-- Build of regexes in memory. -/
theorem build_val (rs : List Rx) (a : Option Addr) (n cap : Nat) (w : World) (ok : Nat → Prop) (hn : rs.length = n) (hl : RxL ok w a 0 rs) (hm1 : rs.length ≤ 60) (hm2 : Rx.sizes rs ≤ 3000) :
    Calls Tryd.prog 8 #[.slice a n cap] w fun e w' => ∃ dm, e = .returned (.tuple #[.pointer (some ⟨dm, 0, none⟩), .int .i64 0]) ∧
      MachG dm w' (buildM rs 0 [] []).1 (buildM rs 0 [] []).2 ∧ Fr none_ w w' := by
  subst hn
  refine (build_made rs a cap w ok hl hm1 hm2).mono ?_
  rintro e w' ⟨dm, _, he, h1, h2⟩
  exact ⟨dm, he, ⟨_, h1⟩, h2⟩

theorem sizes_AB : Rx.sizes [rA, rB] ≤ 3000 := by decide +kernel
set_option maxRecDepth 100000 in
set_option maxHeartbeats 4000000 in
theorem works_any (w : World) :
    Calls Tryd.prog 4 #[] w fun e w' => e = .returned (.bool true) ∧ Fr none_ w w' := by
  have HP1 := Lib.hid parse_A
  have HP2 := Lib.hid parse_B
  have HR1 := Lib.hid (show runM (buildM [rA, rB] 0 [] []).1 (buildM [rA, rB] 0 [] []).2 (bytesN ⟨#[97]⟩) = 1 by decide +kernel)
  have HR2 := Lib.hid (show runM (buildM [rA, rB] 0 [] []).1 (buildM [rA, rB] 0 [] []).2 (bytesN ⟨#[97, 98]⟩) = 2 by decide +kernel)
  have HR3 := Lib.hid (show runM (buildM [rA, rB] 0 [] []).1 (buildM [rA, rB] 0 [] []).2 (bytesN ⟨#[]⟩) = 1 by decide +kernel)
  have HR4 := Lib.hid (show tagsM (buildM [rA, rB] 0 [] []).1 (ints (stepM (buildM [rA, rB] 0 [] []).1 (ints (stepM (buildM [rA, rB] 0 [] []).1 (ints (closedM (buildM [rA, rB] 0 [] []).1 (ints (buildM [rA, rB] 0 [] []).2))) 97)) 98)) = 2 by decide +kernel)
  have HFIT := Lib.hid (fit_build [rA, rB] sizes_AB)
  have HST := Lib.hid (show (buildM [rA, rB] 0 [] []).2.length ≤ 1000 by decide +kernel)
  have HSZ := Lib.hid size_AB
  have HSS := Lib.hid sizes_AB
  generalize rA = ra at *
  generalize rB = rb at *
  obtain ⟨k, b0, b1, b2, b3, kids⟩ := ra
  obtain ⟨x, x0, x1, x2, x3, xids⟩ := rb
  go_enter Tryd.func4, Tryd.ntmps4
  go_wp2_with fail
  refine (parse_ok ⟨#[97, 42]⟩ (by decide) _ HP1.out _).mono ?_
  rintro e wa ⟨va, rfl, hva, Fa⟩
  obtain ⟨aa, acap, rfl, hac, hal⟩ := hva.open_
  have HLA := Lib.hid hal
  have FA := Lib.hid (Fa.alloc (.cells #[.int .i64 k, .int .u64 b0, .int .u64 b1, .int .u64 b2, .int .u64 b3, .slice aa kids.length acap] 42))
  have NA := Lib.hid (alloc_new wa (.cells #[.int .i64 k, .int .u64 b0, .int .u64 b1, .int .u64 b2, .int .u64 b3, .slice aa kids.length acap] 42))
  clear hal hva Fa
  go_wp2_with fail
  refine (parse_ok ⟨#[97, 98]⟩ (by decide) _ HP2.out _).mono ?_
  rintro e wb ⟨vb, rfl, hvb, Fb⟩
  obtain ⟨ba, bcap, rfl, hbc, hbl⟩ := hvb.open_
  have NAb := Fb.at_ NA.out (fun h => h)
  obtain ⟨z0, z1, z2, z3, z4, z5⟩ := six (((Fr.refl none_ wb).alloc (.cells #[.int .i64 x, .int .u64 x0, .int .u64 x1, .int .u64 x2, .int .u64 x3, .slice ba xids.length bcap] 42)).at_ NAb (fun h => h))
  have HLB := Lib.hid hbl
  have HLAb := Lib.hid (RxL.move (w' := wb) (fun i hi hlt => (Fb.block i (by simp; omega) (fun h => h)).trans (Below.heap_alloc wa _ _ hlt)) _ _ _ HLA.out)
  have NAB := Lib.hid NAb
  have FB := Lib.hid (FA.out.tr Fb)
  have hsb : wa.heap.size + 1 ≤ wb.heap.size := by have := Fb.size; simp at this; omega
  have hne1 : ¬ wa.heap.size = wb.heap.size := by omega
  have hne2 : ¬ wb.heap.size = wa.heap.size := by omega
  clear hbl hvb Fb NAb
  go_wp2_with fail
  have HLC : Hid (RxL (fun _ => True) ((wb.alloc (.cells #[.int .i64 x, .int .u64 x0, .int .u64 x1, .int .u64 x2, .int .u64 x3, .slice ba xids.length bcap] 42)).alloc (.cells #[.int .i64 k, .int .u64 b0, .int .u64 b1, .int .u64 b2, .int .u64 b3, .slice aa kids.length acap, .int .i64 x, .int .u64 x0, .int .u64 x1, .int .u64 x2, .int .u64 x3, .slice ba xids.length bcap] 42)) (some ⟨wb.heap.size + 1, 0, none⟩) 0 [.mk k b0 b1 b2 b3 kids, .mk x x0 x1 x2 x3 xids]) := by
    refine Lib.hid (RxL.two (g := wb.heap.size + 1) (alloc_new2 wb _ _).2 trivial hac ?_ hbc ?_)
    · exact RxL.mono (fun _ _ => trivial) _ _ _ (RxL.move (fun i _ hlt => (Below.heap_alloc _ _ _ (by simp; omega)).trans (Below.heap_alloc _ _ _ hlt)) _ _ _ HLAb.out)
    · exact RxL.mono (fun _ _ => trivial) _ _ _ (RxL.move (fun i _ hlt => (Below.heap_alloc _ _ _ (by simp; omega)).trans (Below.heap_alloc _ _ _ hlt)) _ _ _ HLB.out)
  have FC := Lib.hid ((FB.out.alloc (.cells #[.int .i64 x, .int .u64 x0, .int .u64 x1, .int .u64 x2, .int .u64 x3, .slice ba xids.length bcap] 42)).alloc (.cells #[.int .i64 k, .int .u64 b0, .int .u64 b1, .int .u64 b2, .int .u64 b3, .slice aa kids.length acap, .int .i64 x, .int .u64 x0, .int .u64 x1, .int .u64 x2, .int .u64 x3, .slice ba xids.length bcap] 42))
  have NAC := Lib.hid ((((Fr.refl none_ wb).alloc (.cells #[.int .i64 x, .int .u64 x0, .int .u64 x1, .int .u64 x2, .int .u64 x3, .slice ba xids.length bcap] 42)).alloc (.cells #[.int .i64 k, .int .u64 b0, .int .u64 b1, .int .u64 b2, .int .u64 b3, .slice aa kids.length acap, .int .i64 x, .int .u64 x0, .int .u64 x1, .int .u64 x2, .int .u64 x3, .slice ba xids.length bcap] 42)).at_ NAB.out (fun h => h))
  have HLAc := Lib.hid (RxL.move (w' := (wb.alloc (.cells #[.int .i64 x, .int .u64 x0, .int .u64 x1, .int .u64 x2, .int .u64 x3, .slice ba xids.length bcap] 42)).alloc (.cells #[.int .i64 k, .int .u64 b0, .int .u64 b1, .int .u64 b2, .int .u64 b3, .slice aa kids.length acap, .int .i64 x, .int .u64 x0, .int .u64 x1, .int .u64 x2, .int .u64 x3, .slice ba xids.length bcap] 42)) (fun i _ hlt => (Below.heap_alloc _ _ _ (by simp; omega)).trans (Below.heap_alloc _ _ _ hlt)) _ _ _ HLAb.out)
  refine (build_val [.mk k b0 b1 b2 b3 kids, .mk x x0 x1 x2 x3 xids] _ 2 2 _ (fun _ => True) rfl HLC.out (by simp) HSS.out).mono ?_
  rintro e wd ⟨dm, rfl, hmd, Fd⟩
  have MD := Lib.hid hmd
  have FD := Lib.hid (FC.out.tr Fd)
  have NAD := Lib.hid (Fd.at_ NAC.out (fun h => h))
  have HLAd := Lib.hid (RxL.move (fun i _ hlt => Fd.block i hlt (fun h => h)) _ _ _ HLAc.out)
  clear hmd Fd z0 z1 z2 z3 z4 z5 hne1 hne2 hsb NAB HLB HLAb NA HLA FA FB NAC HLAc FC HLC
  generalize (buildM [Rx.mk k b0 b1 b2 b3 kids, Rx.mk x x0 x1 x2 x3 xids] 0 [] []).1 = G at *
  generalize (buildM [Rx.mk k b0 b1 b2 b3 kids, Rx.mk x x0 x1 x2 x3 xids] 0 [] []).2 = ST at *
  go_wp2_with fail
  refine (run_val dm _ G ST ⟨#[97]⟩ 1 MD.out HFIT.out HST.out (by decide) HR1.out).mono ?_
  rintro e we ⟨rfl, Fe⟩
  have ME := Lib.hid (MD.out.move Fe)
  have FE := Lib.hid (FD.out.tr Fe)
  have NAE := Lib.hid (Fe.at_ NAD.out (fun h => h))
  have HLAe := Lib.hid (RxL.move (fun i _ hlt => Fe.block i hlt (fun h => h)) _ _ _ HLAd.out)
  clear Fe MD FD NAD HLAd
  go_wp2_with fail
  refine (run_val dm _ G ST ⟨#[97, 98]⟩ 2 ME.out HFIT.out HST.out (by decide) HR2.out).mono ?_
  rintro e wf ⟨rfl, Ff⟩
  have MF := Lib.hid (ME.out.move Ff)
  have FF := Lib.hid (FE.out.tr Ff)
  have NAF := Lib.hid (Ff.at_ NAE.out (fun h => h))
  have HLAf := Lib.hid (RxL.move (fun i _ hlt => Ff.block i hlt (fun h => h)) _ _ _ HLAe.out)
  clear Ff ME FE NAE HLAe
  go_wp2_with fail
  refine (run_val dm _ G ST ⟨#[]⟩ 1 MF.out HFIT.out HST.out (by decide) HR3.out).mono ?_
  rintro e wg ⟨rfl, Fg⟩
  have MG := Lib.hid (MF.out.move Fg)
  have FG := Lib.hid (FF.out.tr Fg)
  have NAG := Lib.hid (Fg.at_ NAF.out (fun h => h))
  have HLAg := Lib.hid (RxL.move (fun i _ hlt => Fg.block i hlt (fun h => h)) _ _ _ HLAf.out)
  clear Fg MF FF NAF HLAf
  go_wp2_with fail
  have HG := Lib.hid HFIT.out.len
  refine (begin_val dm _ G ST MG.out HFIT.out HST.out).mono ?_
  rintro e wh ⟨v1, rfl, h1, Fh⟩
  have I1 := Lib.hid h1
  have MH := Lib.hid (MG.out.move Fh)
  have FH := Lib.hid (FG.out.tr Fh)
  have NAH := Lib.hid (Fh.at_ NAG.out (fun h => h))
  have HLAh := Lib.hid (RxL.move (fun i _ hlt => Fh.block i hlt (fun h => h)) _ _ _ HLAg.out)
  clear Fh MG FG NAG HLAg h1
  go_wp2_with fail
  refine (step_val dm _ G ST v1 _ 97 MH.out HFIT.out I1.out (by have := closedM_length G (ints ST); have := HG.out; rw [ints_length]; omega) (by decide)).mono ?_
  rintro e wi ⟨v2, rfl, h2, Fi⟩
  have I2 := Lib.hid h2
  have MI := Lib.hid (MH.out.move Fi)
  have FI := Lib.hid (FH.out.tr Fi)
  have NAI := Lib.hid (Fi.at_ NAH.out (fun h => h))
  have HLAi := Lib.hid (RxL.move (fun i _ hlt => Fi.block i hlt (fun h => h)) _ _ _ HLAh.out)
  clear Fi MH FH NAH HLAh h2 I1
  go_wp2_with fail
  refine (step_val dm _ G ST v2 _ 98 MI.out HFIT.out I2.out (by have := closedM_length G (stepW G (ints (closedM G (ints ST))) 97); have := HG.out; rw [ints_length]; unfold stepM; omega) (by decide)).mono ?_
  rintro e wj ⟨v3, rfl, h3, Fj⟩
  have I3 := Lib.hid h3
  have MJ := Lib.hid (MI.out.move Fj)
  have FJ := Lib.hid (FI.out.tr Fj)
  have NAJ := Lib.hid (Fj.at_ NAI.out (fun h => h))
  have HLAj := Lib.hid (RxL.move (fun i _ hlt => Fj.block i hlt (fun h => h)) _ _ _ HLAi.out)
  clear Fj MI FI NAI HLAi h3 I2
  go_wp2_with fail
  refine (tags_val dm _ G ST v3 _ 2 MJ.out HFIT.out I3.out (by have := closedM_length G (stepW G (ints (stepM G (ints (closedM G (ints ST))) 97)) 98); have := HG.out; rw [ints_length]; unfold stepM at *; omega) HR4.out).mono ?_
  rintro e wk ⟨rfl, rfl⟩
  obtain ⟨z0, z1, z2, z3, z4, z5⟩ := six NAJ.out
  go_wp2_with fail
  refine (nsize_any 2 (.mk k b0 b1 b2 b3 kids) _ _ (fun i => w.heap.size ≤ i) (by rw [HSZ.out]; exact Nat.le_refl _) (by rw [HSZ.out]; decide) (RxV.mk_ hac HLAj.out)).mono ?_
  rw [HSZ.out]
  rintro e wl ⟨rfl, Fl⟩
  have FL := Lib.hid (FJ.out.tr Fl)
  clear Fl
  go_wp2_with fail
  go_ret
  exact ⟨rfl, FL.out⟩
end Go.Proofs.YtgpmbkgedhcbjaaDoor
