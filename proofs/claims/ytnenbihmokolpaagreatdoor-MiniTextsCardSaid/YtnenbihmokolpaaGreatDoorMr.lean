/-
  The document's example of layer 6: the walk.
-/
import Derived.Test.YtnenbihmokolpaaGreatDoorMq
namespace Go.Proofs.YtnenbihmokolpaaGreatDoor set_option linter.unusedVariables false set_option linter.unusedSimpArgs false
open Go.RowKit

theorem StrsAt.lit {w : World} {g : Nat} {l : List ByteArray} {t : TypeId} (h : w.heap[g]? = some (.cells (l.map Value.string).toArray t (0, 0))) (h1 : l.length ≤ 100) (h2 : ∀ z ∈ l, z.size ≤ 100) : StrsAt w (some ⟨g, 0, none⟩) l.length l := by
  refine ⟨rfl, by unfold maxLen; omega, fun i z hz => ⟨_, rfl, ?_⟩, fun z hz => by have := h2 z hz; unfold maxLen; omega⟩
  have e : w.cell? ⟨g, i, none⟩ = some (.string z) := cell_of_block h (by simp [hz])
  by_cases h0 : i = 0
  · subst h0; simpa [Addr.add] using e
  · simpa [Addr.add, h0] using e
theorem StrsAt.lit2 {w : World} {g : Nat} {l : List ByteArray} {t : TypeId} (hg : g = w.heap.size) (h1 : l.length ≤ 100) (h2 : ∀ z ∈ l, z.size ≤ 100) : StrsAt (w.alloc (.cells (l.map Value.string).toArray t)) (some ⟨g, 0, none⟩) l.length l := by
  subst hg
  exact StrsAt.lit (alloc_new w _) h1 h2
theorem setRow_size (w : World) (o : Array Value) (t : TypeId) (cs : Array Value) : ((w.alloc (.cells o t)).setRow w.heap.size cs).heap.size = w.heap.size + 1 := by simp [World.setRow]
theorem DfaIn.cells2 {w : World} {v : Value} {D : Dfa} (h : DfaIn w v D) : ∃ (C : List Value) (na : Option Addr) (ncap : Nat), v = .agg C.toArray ∧ C.length = 258 ∧ C.toArray.all (·.oneCell') = true ∧ C[256]? = some (.slice na D.next.length ncap) := by
  obtain ⟨C, rfl, hz, hone⟩ := h.cells
  obtain ⟨E, na, ta, ncap, tcap, e, _, h256, _⟩ := h.all
  have e2 : C = E := by injection e with e; injection e
  subst e2
  exact ⟨C, na, ncap, rfl, hz, hone, h256⟩

set_option maxRecDepth 100000 in
set_option maxHeartbeats 8000000 in
theorem works6_any (w : World) (hp : PowOk w) : Calls Tryz.prog 10 #[] w fun e w' => e = .returned (.bool true) ∧ Fr none_ w w' := by
  obtain ⟨a, b, hA, hB, hC, hv, hab, haa, hn, ht, hbt, hlt, hl0, hl2, hrun, hrow, htag⟩ := works6_parts
  have HP := Lib.hid hp
  have HA := Lib.hid hA
  have HB := Lib.hid hB
  have HC := Lib.hid hC
  have HV := Lib.hid hv
  have HDV := Lib.hid (valid_dv hv)
  have HAB := Lib.hid hab
  have HAA := Lib.hid haa
  have HN := Lib.hid hn
  have HT := Lib.hid ht
  have HL0 := Lib.hid hl0
  have HL2 := Lib.hid hl2
  have HRUN := Lib.hid hrun
  have HTG := Lib.hid htag
  have HROW := Lib.hid hrow
  clear hp hA hB hC hv hab haa hn hl0 hl2 hrun htag ht hrow
  go_enter Tryz.func10, Tryz.ntmps10
  go_wp2_with fail
  have FA := Lib.hid ((Fr.refl none_ w).alloc (.cells #[.string ⟨#[97, 124, 98]⟩] 9))
  refine (miniof_any _ _ _ zsA _ (StrsAt.lit (l := zsA) (alloc_new w _) (by decide) (by decide)) (by decide) (by decide) (HP.out.move FA.out)).mono ?_
  rintro e w1 ⟨hO, F1⟩
  rw [HA.out] at hO
  obtain ⟨v1, rfl, hD1⟩ := hO
  obtain ⟨C1, na, ncap, rfl, hz1, hone1, h256⟩ := hD1.cells2
  rw [HN.out] at h256
  have H256 := Lib.hid h256
  have HD1 := Lib.hid hD1
  have FB := Lib.hid (FA.out.tr F1)
  clear hD1 F1 FA h256
  have LR := laid_row w1 Tryz.zeroCells26 26 C1.toArray
  have LF := Lib.hid LR.1
  have LB := Lib.hid LR.2
  clear LR
  go_wp2_with (refine wpList_store_row rfl 26 (.tmp 1) (.tmp 12) rfl w1.heap.size 26 Tryz.zeroCells26 C1.toArray rfl rfl (alloc_new w1 _) (by rw [List.size_toArray, hz1]; exact dfa_info) (by rw [zeroD_size, List.size_toArray, hz1]) hone1 ?_)
  obtain ⟨b1, hb1⟩ : ∃ x, w1.heap.size = x := ⟨_, rfl⟩
  have hsza := setRow_size w1 Tryz.zeroCells26 26 C1.toArray
  generalize hwa : (w1.alloc (.cells Tryz.zeroCells26 26)).setRow w1.heap.size C1.toArray = wa at *
  rw [hb1] at hsza
  rw [hb1] at LB ⊢
  have DA := Lib.hid (HD1.out.move LF.out)
  have FC := Lib.hid (FB.out.tr LF.out)
  clear hwa LF HD1 FB
  have FA := Lib.hid ((Fr.refl none_ wa).alloc (.cells #[.string ⟨#[91, 97, 93, 124, 91, 98, 93]⟩] 9))
  refine (miniof_any _ _ _ zsB _ (StrsAt.lit2 (l := zsB) hsza.symm (by decide) (by decide)) (by decide) (by decide) (HP.out.move (FC.out.tr FA.out))).mono ?_
  rintro e w2 ⟨hO, F1⟩
  rw [HB.out] at hO
  obtain ⟨v2, rfl, hD2⟩ := hO
  obtain ⟨C2, na2, ncap2, rfl, hz2, hone2, hbad⟩ := hD2.cells2
  clear hbad
  have HD2 := Lib.hid hD2
  have FX := Lib.hid (FA.out.tr F1)
  have FB := Lib.hid (FC.out.tr FX.out)
  clear hD2 F1 FA
  have LR := laid_row w2 Tryz.zeroCells26 26 C2.toArray
  have LF := Lib.hid LR.1
  have LB2 := Lib.hid LR.2
  clear LR
  go_wp2_with (refine wpList_store_row rfl 26 (.tmp 3) (.tmp 17) rfl w2.heap.size 26 Tryz.zeroCells26 C2.toArray rfl rfl (alloc_new w2 _) (by rw [List.size_toArray, hz2]; exact dfa_info) (by rw [zeroD_size, List.size_toArray, hz2]) hone2 ?_)
  obtain ⟨b2, hb2⟩ : ∃ x, w2.heap.size = x := ⟨_, rfl⟩
  have hszb := setRow_size w2 Tryz.zeroCells26 26 C2.toArray
  generalize hwb : (w2.alloc (.cells Tryz.zeroCells26 26)).setRow w2.heap.size C2.toArray = wb at *
  rw [hb2] at hszb
  rw [hb2] at LB2 ⊢
  have GX := Lib.hid (FX.out.tr LF.out)
  have DB := Lib.hid (DA.out.move GX.out)
  have BB := Lib.hid (GX.out.at_ LB.out (fun h => h))
  have EB := Lib.hid (HD2.out.move LF.out)
  have FD := Lib.hid (FC.out.tr GX.out)
  clear hwb LF HD2 FB FX GX LB DA FC
  have FA := Lib.hid ((Fr.refl none_ wb).alloc (.cells #[.string ⟨#[97]⟩, .string ⟨#[40]⟩] 9))
  refine (miniof_any _ _ _ zsC _ (StrsAt.lit2 (l := zsC) hszb.symm (by decide) (by decide)) (by decide) (by decide) (HP.out.move (FD.out.tr FA.out))).mono ?_
  rintro e w3 ⟨hO, F1⟩
  rw [HC.out] at hO
  obtain rfl := hO
  have FX := Lib.hid (FA.out.tr F1)
  clear F1 FA
  have LR := laid_row w3 Tryz.zeroCells26 26 Tryz.zeroCells26
  have LF := Lib.hid LR.1
  clear LR
  have GX := Lib.hid (FX.out.tr LF.out)
  have BC := Lib.hid (GX.out.at_ BB.out (fun h => h))
  go_wp2_with (first
    | (refine wpList_store_row rfl 26 (.tmp 5) (.tmp 22) rfl w3.heap.size 26 Tryz.zeroCells26 Tryz.zeroCells26 rfl rfl (alloc_new w3 _) (by rw [zeroD_size]; exact dfa_info) rfl zeroD_one ?_)
    | (refine wpList_load_row rfl 26 (.tmp 1) rfl b1 26 C1 _ rfl BC.out Tryz.underlying26 rfl (by rw [hz1]; exact dfa_info) ?_))
  generalize hwc : (w3.alloc (.cells Tryz.zeroCells26 26)).setRow w3.heap.size Tryz.zeroCells26 = wc at *
  have DC := Lib.hid (DB.out.move GX.out)
  have CC := Lib.hid (GX.out.at_ LB2.out (fun h => h))
  have EC := Lib.hid (EB.out.move GX.out)
  have FE := Lib.hid (FD.out.tr GX.out)
  clear hwc LF FX GX BB DB EB FD LB2
  refine (least_yes a _ _ _ _ DC.out HDV.out HV.out (by rw [HN.out]; decide) (by have := HROW.out; omega) HTG.out (HP.out.move FE.out)).mono ?_
  rintro e w4 ⟨v4, rfl, hD4, F1⟩
  obtain ⟨C4, na4, ncap4, rfl, hz4, hone4, hbad⟩ := hD4.cells2
  clear hbad
  have HD4 := Lib.hid hD4
  have FX := Lib.hid F1
  clear hD4 F1
  have LR := laid_row w4 Tryz.zeroCells26 26 C4.toArray
  have LF := Lib.hid LR.1
  have LB4 := Lib.hid LR.2
  clear LR
  have GX := Lib.hid (FX.out.tr LF.out)
  have B1 := Lib.hid (GX.out.at_ BC.out (fun h => h))
  have B2 := Lib.hid (GX.out.at_ CC.out (fun h => h))
  go_wp2_with (refine wpList_store_row rfl 26 (.tmp 7) (.tmp 27) rfl w4.heap.size 26 Tryz.zeroCells26 C4.toArray rfl rfl (alloc_new w4 _) (by rw [List.size_toArray, hz4]; exact dfa_info) (by rw [zeroD_size, List.size_toArray, hz4]) hone4 ?_)
  obtain ⟨b4, hb4⟩ : ∃ x, w4.heap.size = x := ⟨_, rfl⟩
  generalize hwd : (w4.alloc (.cells Tryz.zeroCells26 26)).setRow w4.heap.size C4.toArray = wd at *
  rw [hb4] at LB4 ⊢
  have B3 := LB4
  have D1 := Lib.hid (DC.out.move GX.out)
  have D2 := Lib.hid (EC.out.move GX.out)
  have D3 := Lib.hid (HD4.out.move LF.out)
  have FF := Lib.hid (FE.out.tr GX.out)
  clear hwd LF FX GX DC EC HD4 FE BC CC LB4
  refine wp_load_mid 26 _ rfl b1 0 rfl C1 _ (range_of B1.out) Tryz.underlying26 rfl (by rw [hz1]; exact dfa_info) ?_
  go_wp2_with fail
  refine wp_load_mid 26 _ rfl b2 0 rfl C2 _ (range_of B2.out) Tryz.underlying26 rfl (by rw [hz2]; exact dfa_info) ?_
  go_wp2_with fail
  refine (same_any a b _ _ _ D1.out D2.out (by rw [HT.out]; decide) (by omega)).mono ?_
  rintro e w5 ⟨rfl, F1⟩
  rw [HAB.out]
  have B1 := Lib.hid (F1.at_ B1.out (fun h => h))
  have B2 := Lib.hid (F1.at_ B2.out (fun h => h))
  have B3 := Lib.hid (F1.at_ B3.out (fun h => h))
  have D1 := Lib.hid (D1.out.move F1)
  have D2 := Lib.hid (D2.out.move F1)
  have D3 := Lib.hid (D3.out.move F1)
  have FF := Lib.hid (FF.out.tr F1)
  clear F1
  go_wp2_with fail
  refine wp_load_mid 26 _ rfl b1 0 rfl C1 _ (range_of B1.out) Tryz.underlying26 rfl (by rw [hz1]; exact dfa_info) ?_
  go_wp2_with fail
  refine wp_load_mid 26 _ rfl b4 0 rfl C4 _ (range_of B3.out) Tryz.underlying26 rfl (by rw [hz4]; exact dfa_info) ?_
  go_wp2_with fail
  refine (same_any a (leastM a) _ _ _ D1.out D3.out (by rw [HT.out]; decide) (by omega)).mono ?_
  rintro e w6 ⟨rfl, F1⟩
  rw [HAA.out]
  have B1 := Lib.hid (F1.at_ B1.out (fun h => h))
  have B2 := Lib.hid (F1.at_ B2.out (fun h => h))
  have B3 := Lib.hid (F1.at_ B3.out (fun h => h))
  have D1 := Lib.hid (D1.out.move F1)
  have D2 := Lib.hid (D2.out.move F1)
  have D3 := Lib.hid (D3.out.move F1)
  have FF := Lib.hid (FF.out.tr F1)
  have f6 := cell_of_block B1.out (show C1.toArray[256]? = some (.slice na 2 ncap) by simpa using H256.out)
  clear F1
  go_wp2_with fail
  refine wp_load_mid 26 _ rfl b1 0 rfl C1 _ (range_of B1.out) Tryz.underlying26 rfl (by rw [hz1]; exact dfa_info) ?_
  go_wp2_with fail
  refine (live_any a _ 0 _ D1.out (WalkArith.wf_i64 (by decide)) (by rw [HN.out]; decide) (by have := HROW.out; omega)).mono ?_
  rintro e w7 ⟨rfl, F1⟩
  rw [HL0.out]
  have B1 := Lib.hid (F1.at_ B1.out (fun h => h))
  have B2 := Lib.hid (F1.at_ B2.out (fun h => h))
  have B3 := Lib.hid (F1.at_ B3.out (fun h => h))
  have D1 := Lib.hid (D1.out.move F1)
  have D2 := Lib.hid (D2.out.move F1)
  have D3 := Lib.hid (D3.out.move F1)
  have FF := Lib.hid (FF.out.tr F1)
  clear f6
  clear F1
  go_wp2_with fail
  refine wp_load_mid 26 _ rfl b1 0 rfl C1 _ (range_of B1.out) Tryz.underlying26 rfl (by rw [hz1]; exact dfa_info) ?_
  go_wp2_with fail
  refine (live_any a _ 2 _ D1.out (WalkArith.wf_i64 (by decide)) (by rw [HN.out]; decide) (by have := HROW.out; omega)).mono ?_
  rintro e w8 ⟨rfl, F1⟩
  rw [HL2.out]
  have B1 := Lib.hid (F1.at_ B1.out (fun h => h))
  have B2 := Lib.hid (F1.at_ B2.out (fun h => h))
  have B3 := Lib.hid (F1.at_ B3.out (fun h => h))
  have D1 := Lib.hid (D1.out.move F1)
  have D2 := Lib.hid (D2.out.move F1)
  have D3 := Lib.hid (D3.out.move F1)
  have FF := Lib.hid (FF.out.tr F1)
  clear F1
  go_wp2_with fail
  refine wp_load_mid 26 _ rfl b1 0 rfl C1 _ (range_of B1.out) Tryz.underlying26 rfl (by rw [hz1]; exact dfa_info) ?_
  go_wp2_with fail
  refine (drun_any a _ ⟨#[98]⟩ _ D1.out (by decide)).mono ?_
  rintro e w9 ⟨rfl, F1⟩
  rw [show runD a (bytesN ⟨#[98]⟩) = 1 from HRUN.out]
  have FG := Lib.hid (FF.out.tr F1)
  clear F1
  go_wp2_with fail
  go_ret
  exact ⟨rfl, FG.out⟩
end Go.Proofs.YtnenbihmokolpaaGreatDoor
