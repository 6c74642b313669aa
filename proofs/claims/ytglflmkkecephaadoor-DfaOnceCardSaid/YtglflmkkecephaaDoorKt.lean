/-
  works of syntagmlaw05: the document's example; an automaton that is stored.
-/
import Derived.Test.YtglflmkkecephaaDoorKs
namespace Go.Proofs.YtglflmkkecephaaDoor
open Go.RowKit

theorem DfaIn.cells {w : World} {v : Value} {D : Dfa} (h : DfaIn w v D) : ∃ C : List Value, v = .agg C.toArray ∧ C.length = 258 ∧ C.toArray.all (·.oneCell') = true := by
  obtain ⟨nv, tv, rfl, hn, ht⟩ := h.ex
  obtain ⟨na, ncap, rfl, _⟩ := hn
  obtain ⟨ta, tcap, rfl, _⟩ := ht
  exact ⟨_, rfl, dfaC_length _ _ _ h.len, all_oneCell_toArray (fun v hv => by
    simp only [dfaC, intsV, List.mem_append, List.mem_map, List.mem_cons, List.not_mem_nil, or_false] at hv
    rcases hv with ⟨n, _, rfl⟩ | rfl | rfl <;> rfl)⟩
theorem laid_row (w : World) (o : Array Value) (t : TypeId) (cs : Array Value) :
    Fr none_ w ((w.alloc (.cells o t)).setRow w.heap.size cs) ∧ ((w.alloc (.cells o t)).setRow w.heap.size cs).heap[w.heap.size]? = some (.cells cs t (0, 0)) :=
  ⟨Fr.setRow ((Fr.refl none_ w).alloc _) (.inr (Nat.le_refl _)) cs, setRow_heap _ _ _ _ _ _ (alloc_new w _)⟩
theorem tags_in {w : World} {v : Value} {D : Dfa} (h : DfaIn w v D) : ∃ C : List Value, v = .agg C.toArray ∧ ∃ ta tcap, C[257]? = some (.slice ta D.tags.length tcap) ∧ ∀ (j : Nat) (z : Nat), D.tags[j]? = some z → ∃ ad, ta = some ad ∧ w.cell? (ad.add j) = some (.int .u64 (z : Int)) := by
  obtain ⟨nv, tv, rfl, hn, ht⟩ := h.ex
  obtain ⟨ta, tcap, rfl, hc⟩ := ht
  exact ⟨_, rfl, ta, tcap, (dfaC_at h.len nv _).2, hc⟩
theorem classes_at {cls : List Nat} {b c : Nat} (hl : cls.length = 256) (hb : b < 256) (h : cls.getD b 0 = c) : (arrV cls).toArray[b]? = some (.int .i64 (c : Int)) := by
  have := arr_at (cls := cls) (b := b) (by omega)
  rw [h] at this
  simpa [arrV] using this

set_option maxRecDepth 100000 in
set_option maxHeartbeats 4000000 in
theorem works5_gen (w : World) (rb : Rx) (hr : parseM ⟨#[97, 98]⟩ = .ok rb) (hz : Rx.sizes [rb] ≤ 3000) (D : Dfa) (hd : dfaX [rb] = some D) (h1 : validM D = true) (h2 : runD D [97, 98] = 1) (h3 : runD D [97] = 0) (h4 : runD D [98] = 0) (h5 : 0 ≤ goM D 0 97)
    (c0 : (classesM [rb]).getD 0 0 = 0) (c1 : (classesM [rb]).getD 97 0 = 1) (c2 : (classesM [rb]).getD 98 0 = 2) (c3 : (classesM [rb]).getD 99 0 = 0) (hp : PowOk w) :
    Calls Tryd.prog 9 #[] w fun e w' => e = .returned (.bool true) ∧ Fr none_ w w' := by
  have HP := Lib.hid hp
  have HR := Lib.hid hr
  have HZ := Lib.hid hz
  have HD := Lib.hid hd
  have V1 := Lib.hid h1
  have V2 := Lib.hid h2
  have V3 := Lib.hid h3
  have V4 := Lib.hid h4
  have V5 := h5
  have hcl := (normal_classes [rb]).1
  have C0 := Lib.hid (classes_at hcl (by decide) c0)
  have C1 := Lib.hid (classes_at hcl (by decide) c1)
  have C2 := Lib.hid (classes_at hcl (by decide) c2)
  have C3 := Lib.hid (classes_at hcl (by decide) c3)
  have hcsz := arrV_size (normal_classes [rb])
  have hcone := arrV_one (classesM [rb])
  clear hp hr hz hd h1 h2 h3 h4 h5 c0 c1 c2 c3 hcl
  obtain ⟨CL, hCL⟩ : ∃ x, (arrV (classesM [rb])).toArray = x := ⟨_, rfl⟩
  rw [hCL] at C0 C1 C2 C3 hcsz hcone
  have HCL := Lib.hid hCL
  clear hCL
  obtain ⟨k, b0, b1, b2, b3, kids⟩ := rb
  go_enter Tryd.func9, Tryd.ntmps9
  go_wp2_with fail
  refine (parse_ok ⟨#[97, 98]⟩ (by decide) _ HR.out _).mono ?_
  rintro e wa ⟨va, rfl, hva, Fa⟩
  obtain ⟨aa, acap, rfl, hac, hal⟩ := hva.open_
  have HLA := Lib.hid hal
  have FA := Lib.hid ((Fa.alloc (.cells #[.int .i64 k, .int .u64 b0, .int .u64 b1, .int .u64 b2, .int .u64 b3, .slice aa kids.length acap] 46)).alloc (.cells #[.int .i64 k, .int .u64 b0, .int .u64 b1, .int .u64 b2, .int .u64 b3, .slice aa kids.length acap] 46))
  clear hal hva Fa
  go_wp2_with fail
  have HLC := RxL.one (ok := fun _ => True) (g := wa.heap.size + 1) (alloc_new2 wa (.cells #[.int .i64 k, .int .u64 b0, .int .u64 b1, .int .u64 b2, .int .u64 b3, .slice aa kids.length acap] 46) (.cells #[.int .i64 k, .int .u64 b0, .int .u64 b1, .int .u64 b2, .int .u64 b3, .slice aa kids.length acap] 46)).2 trivial hac
    (RxL.mono (fun _ _ => trivial) _ _ _ (RxL.move (fun i _ hlt => (Below.heap_alloc _ _ _ (by simp; omega)).trans (Below.heap_alloc _ _ _ hlt)) _ _ _ HLA.out))
  generalize hwb : (wa.alloc (.cells #[.int .i64 k, .int .u64 b0, .int .u64 b1, .int .u64 b2, .int .u64 b3, .slice aa kids.length acap] 46)).alloc (.cells #[.int .i64 k, .int .u64 b0, .int .u64 b1, .int .u64 b2, .int .u64 b3, .slice aa kids.length acap] 46) = wb at *
  have HL := Lib.hid HLC
  clear hwb HLC HLA
  refine (classes_any [.mk k b0 b1 b2 b3 kids] _ 1 (fun _ => True) _ (by simp) HL.out (by have := HZ.out; omega)).mono ?_
  rintro e wc ⟨rfl, Fc⟩
  rw [HCL.out]
  have HL2 := Lib.hid (RxL.move (fun i _ hlt => Fc.block i hlt (fun h => h)) _ _ _ HL.out)
  have FC := Lib.hid (FA.out.tr Fc)
  clear HL Fc FA
  have LR := laid_row wc Tryd.zeroCells25 25 CL
  have LF := Lib.hid LR.1
  have LB := Lib.hid LR.2
  clear LR
  go_wp2_with (refine wpList_store_row rfl 25 _ _ rfl wc.heap.size 25 Tryd.zeroCells25 CL rfl rfl (alloc_new wc _) (by rw [hcsz]; exact arr_info) (by rw [zero_size, hcsz]) hcone ?_)
  generalize hwd : (wc.alloc (.cells Tryd.zeroCells25 25)).setRow wc.heap.size CL = wd at *
  have FD := Lib.hid (FC.out.tr LF.out)
  refine (dbuild_any [.mk k b0 b1 b2 b3 kids] _ 1 wd (fun _ => True) (by simp) (by have := HZ.out; omega) (RxL.move (fun i _ hlt => LF.out.block i hlt (fun h => h)) _ _ _ HL2.out) (HP.out.move FD.out)).mono ?_
  rintro e we ⟨hB, Fe⟩
  rw [HD.out] at hB
  obtain ⟨v, rfl, hD⟩ := hB
  obtain ⟨C, rfl, hz, hone⟩ := hD.cells
  have HDI := Lib.hid hD
  have FE := Lib.hid (FD.out.tr Fe)
  have LBe := Lib.hid (Fe.at_ LB.out (fun h => h))
  clear Fe hD LF LB HL2 hwd FC FD
  have LR := laid_row we Tryd.zeroCells29 29 C.toArray
  have LF := Lib.hid LR.1
  have LB := Lib.hid LR.2
  clear LR
  have LBf := Lib.hid (LF.out.at_ LBe.out (fun h => h))
  have m0 := cell_of_block LBf.out C0.out
  have m1 := cell_of_block LBf.out C1.out
  have m2 := cell_of_block LBf.out C2.out
  have m3 := cell_of_block LBf.out C3.out
  go_wp2_with (refine wpList_store_row rfl 29 _ _ rfl we.heap.size 29 Tryd.zeroCells29 C.toArray rfl rfl (alloc_new we _) (by rw [List.size_toArray, hz]; exact dfa_info) (by rw [zeroD_size, List.size_toArray, hz]) hone ?_)
  refine wp_load_mid 29 _ rfl we.heap.size 0 rfl C _ (range_of LB.out) Tryd.underlying29 rfl (by rw [hz]; exact dfa_info) ?_
  generalize hwf : (we.alloc (.cells Tryd.zeroCells29 29)).setRow we.heap.size C.toArray = wf at *
  have HDF := Lib.hid (HDI.out.move LF.out)
  have FF := Lib.hid (FE.out.tr LF.out)
  clear hwf m0 m1 m2 m3 HDI
  go_wp2_with fail
  refine (valid_any D _ _ HDF.out).mono ?_
  rintro e wg ⟨rfl, Fg⟩
  rw [V1.out]
  have BG := Lib.hid (Fg.at_ LB.out (fun h => h))
  have DG := Lib.hid (HDF.out.move Fg)
  have FG := Lib.hid (FF.out.tr Fg)
  clear Fg
  go_wp2_with fail
  refine wp_load_mid 29 _ rfl we.heap.size 0 rfl C _ (range_of BG.out) Tryd.underlying29 rfl (by rw [hz]; exact dfa_info) ?_
  go_wp2_with fail
  refine (drun_any D _ ⟨#[97, 98]⟩ _ DG.out (by decide)).mono ?_
  rintro e wh ⟨rfl, Fh⟩
  rw [show runD D (bytesN ⟨#[97, 98]⟩) = 1 from V2.out]
  have BH := Lib.hid (Fh.at_ BG.out (fun h => h))
  have DH := Lib.hid (DG.out.move Fh)
  have FH := Lib.hid (FG.out.tr Fh)
  clear Fh
  go_wp2_with fail
  refine wp_load_mid 29 _ rfl we.heap.size 0 rfl C _ (range_of BH.out) Tryd.underlying29 rfl (by rw [hz]; exact dfa_info) ?_
  go_wp2_with fail
  refine (drun_any D _ ⟨#[97]⟩ _ DH.out (by decide)).mono ?_
  rintro e wi ⟨rfl, Fi⟩
  rw [show runD D (bytesN ⟨#[97]⟩) = 0 from V3.out]
  have BI := Lib.hid (Fi.at_ BH.out (fun h => h))
  have DI := Lib.hid (DH.out.move Fi)
  have FI := Lib.hid (FH.out.tr Fi)
  clear Fi
  go_wp2_with fail
  refine wp_load_mid 29 _ rfl we.heap.size 0 rfl C _ (range_of BI.out) Tryd.underlying29 rfl (by rw [hz]; exact dfa_info) ?_
  go_wp2_with fail
  refine (drun_any D _ ⟨#[98]⟩ _ DI.out (by decide)).mono ?_
  rintro e wj ⟨rfl, Fj⟩
  rw [show runD D (bytesN ⟨#[98]⟩) = 0 from V4.out]
  have BJ := Lib.hid (Fj.at_ BI.out (fun h => h))
  have DJ := Lib.hid (DI.out.move Fj)
  have FJ := Lib.hid (FI.out.tr Fj)
  clear Fj
  go_wp2_with fail
  refine wp_load_mid 29 _ rfl we.heap.size 0 rfl C _ (range_of BJ.out) Tryd.underlying29 rfl (by rw [hz]; exact dfa_info) ?_
  go_wp2_with fail
  refine (dgo_any D _ 0 97 _ DJ.out (by decide)).mono ?_
  rintro e wk ⟨rfl, Fk⟩
  have FK := Lib.hid (FJ.out.tr Fk)
  clear Fk
  go_wp2_with fail
  go_ret
  exact ⟨rfl, FK.out⟩
theorem works5_any (w : World) (hp : PowOk w) : Calls Tryd.prog 9 #[] w fun e w' => e = .returned (.bool true) ∧ Fr none_ w w' := by
  obtain ⟨D, hd, h1, h2, h3, h4, h5⟩ := dfa_B2
  exact works5_gen w rB parse_B size_B D hd h1 h2 h3 h4 h5 cls_B.1 cls_B.2.1 cls_B.2.2.1 cls_B.2.2.2 hp
end Go.Proofs.YtglflmkkecephaaDoor
