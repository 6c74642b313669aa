/-
  Classes of bytes: split by a regex of bytes.
-/
import Derived.Test.YtglflmkkecephaaDoorKh
namespace Go.Proofs.YtglflmkkecephaaDoor
open Go.RowKit
open Go.Maps

theorem ownsMap_at {w w' : World} {k : TypeId} {Rd : Value → Option (DataW Unit × List MemPlace)} {b n : Nat} {D : DataW Unit} (h : w.ownsMap Tryd.prog k Rd b n D) (he : w'.heap[b]? = w.heap[b]?) : w'.ownsMap Tryd.prog k Rd b n D := by
  obtain ⟨es, clock, hb, F, hs, hD⟩ := h
  exact ⟨es, clock, he.trans hb, F, hs, hD⟩
theorem zeroI (w : World) : (zeroValue 3).run Tryd.prog w = .ok (.int .i64 0) w := by kernel_rfl
/-- Numbers so far, and classes as they were. -/
def mixM (cls : List Nat) (f : Nat → Nat × Bool) (i : Nat) : List Nat := (numsM f i).2 ++ cls.drop i
theorem mix_zero (cls : List Nat) (f : Nat → Nat × Bool) : mixM cls f 0 = cls := by simp [mixM, numsM]
theorem mix_end (cls : List Nat) (f : Nat → Nat × Bool) (h : cls.length = 256) : mixM cls f 256 = (numsM f 256).2 := by
  rw [mixM, List.drop_eq_nil_of_le (by omega), List.append_nil]
theorem mix_length (cls : List Nat) (f : Nat → Nat × Bool) (h : cls.length = 256) (i : Nat) (hi : i ≤ 256) : (mixM cls f i).length = 256 := by
  rw [mixM, List.length_append, numsM_length, List.length_drop, h]; omega
theorem mix_set (cls : List Nat) (f : Nat → Nat × Bool) (h : cls.length = 256) (i : Nat) (hi : i < 256) : (arrV (mixM cls f i)).toArray.setIfInBounds i (.int .i64 ((keyM (numsM f i).1 (f i)).2 : Nat)) = (arrV (mixM cls f (i + 1))).toArray := by
  have hd : cls.drop i = cls[i]'(by omega) :: cls.drop (i + 1) := List.drop_eq_getElem_cons (by omega)
  have hl : (arrV (numsM f i).2).length = i := by rw [arrV, intsV_length, ints_length, numsM_length]
  have e1 : arrV (mixM cls f i) = arrV (numsM f i).2 ++ (.int .i64 ((cls[i]'(by omega) : Nat) : Int)) :: arrV (cls.drop (i + 1)) := by
    rw [mixM, hd]; simp only [arrV, intsV, ints, List.map_append, List.map_cons]
  have e2 : arrV (mixM cls f (i + 1)) = arrV (numsM f i).2 ++ (.int .i64 (((keyM (numsM f i).1 (f i)).2 : Nat) : Int)) :: arrV (cls.drop (i + 1)) := by
    rw [mixM]; simp only [arrV, intsV, ints, numsM, List.map_append, List.map_cons, List.map_nil, List.append_assoc, List.cons_append, List.nil_append]
  rw [e1, e2]
  simp only [List.setIfInBounds_toArray]
  congr 1
  rw [List.set_append_right _ _ (by omega), hl, Nat.sub_self]
  rfl
theorem keys_le (f : Nat → Nat × Bool) : ∀ n, (numsM f n).1.length ≤ n
  | 0 => Nat.le_refl _
  | n + 1 => by
    have := keys_le f n
    simp only [numsM, keyM]
    split
    · show (numsM f n).1.length ≤ n + 1; omega
    · simp; omega

set_option maxRecDepth 100000 in
set_option maxHeartbeats 2000000 in
theorem split_bytes (b0 b1 b2 b3 : Nat) (kids : List Rx) : SplitC (.mk 1 b0 b1 b2 b3 kids) := by
  intro cls hn v ok w hv
  obtain ⟨a, cap, rfl, hc, hl⟩ := hv.open_
  have HL := Lib.hid hl
  have HN := Lib.hid hn
  have HE := Lib.hid (show splitM cls (.mk 1 b0 b1 b2 b3 kids) = (numsM (pairOf cls (.mk 1 b0 b1 b2 b3 kids)) 256).2 by rw [splitM, if_pos rfl]; rfl)
  obtain ⟨f, hf⟩ : ∃ f, pairOf cls (.mk 1 b0 b1 b2 b3 kids) = f := ⟨_, rfl⟩
  have HFd := Lib.hid (show ∀ i, f i = (cls.getD i 0, (Rx.mk 1 b0 b1 b2 b3 kids).has i) by intro i; rw [← hf]; rfl)
  rw [hf] at HE
  have HAt := Lib.hid (fun i (hi : i < 256) => arr_at (cls := cls) (b := i) (by rw [hn.1]; exact hi))
  have HLe := Lib.hid (show ∀ i, i < 256 → cls.getD i 0 ≤ 1000 by intro i hi; have := hn.2 i hi; have := firsts_le cls i; omega)
  have hz0 := arrV_len hn
  clear hv hl hn hf
  obtain ⟨C, hC⟩ : ∃ C, arrV cls = C := ⟨_, rfl⟩
  have HC := Lib.hid hC
  rw [hC] at hz0 ⊢
  have HAt2 := Lib.hid (show ∀ i, i < 256 → C[i]? = some (.int .i64 ((cls.getD i 0 : Nat) : Int)) by rw [← hC]; exact HAt.out)
  clear hC HAt
  obtain ⟨W, hW⟩ : ∃ W, ((w.alloc (.cells C.toArray 25)).alloc (.cells #[.int .i64 1, .int .u64 b0, .int .u64 b1, .int .u64 b2, .int .u64 b3, .slice a kids.length cap] 46)).alloc (.cells Tryd.zeroCells25 25) = W := ⟨_, rfl⟩
  have hsz : W.heap.size = w.heap.size + 1 + 1 + 1 := by rw [← hW]; simp
  have HF0 := Lib.hid (show Fr none_ w (W.alloc (.map #[] 0)) by rw [← hW]; exact ((((Fr.refl none_ w).alloc (.cells C.toArray 25)).alloc (.cells #[.int .i64 1, .int .u64 b0, .int .u64 b1, .int .u64 b2, .int .u64 b3, .slice a kids.length cap] 46)).alloc (.cells Tryd.zeroCells25 25)).alloc _)
  have HB0 := Lib.hid (show (W.alloc (.map #[] 0)).heap[w.heap.size]? = some (.cells C.toArray 25 (0, 0)) by
    rw [← hW]
    exact ((((Fr.refl none_ (w.alloc (.cells C.toArray 25))).alloc (.cells #[.int .i64 1, .int .u64 b0, .int .u64 b1, .int .u64 b2, .int .u64 b3, .slice a kids.length cap] 46)).alloc (.cells Tryd.zeroCells25 25)).alloc _).at_ (alloc_new w _) (fun h => h))
  have HB1 := Lib.hid (show (W.alloc (.map #[] 0)).heap[w.heap.size + 1]? = some (.cells #[.int .i64 1, .int .u64 b0, .int .u64 b1, .int .u64 b2, .int .u64 b3, .slice a kids.length cap] 46 (0, 0)) by
    have h := alloc_new (w.alloc (.cells C.toArray 25)) (.cells #[.int .i64 1, .int .u64 b0, .int .u64 b1, .int .u64 b2, .int .u64 b3, .slice a kids.length cap] 46)
    rw [show (w.alloc (.cells C.toArray 25)).heap.size = w.heap.size + 1 by simp] at h
    rw [← hW]
    exact (((Fr.refl none_ ((w.alloc (.cells C.toArray 25)).alloc (.cells #[.int .i64 1, .int .u64 b0, .int .u64 b1, .int .u64 b2, .int .u64 b3, .slice a kids.length cap] 46))).alloc (.cells Tryd.zeroCells25 25)).alloc _).at_ h (fun h => h))
  have HB2 := Lib.hid (show (W.alloc (.map #[] 0)).heap[w.heap.size + 1 + 1]? = some (.cells Tryd.zeroCells25 25 (0, 0)) by
    have h := alloc_new ((w.alloc (.cells C.toArray 25)).alloc (.cells #[.int .i64 1, .int .u64 b0, .int .u64 b1, .int .u64 b2, .int .u64 b3, .slice a kids.length cap] 46)) (.cells Tryd.zeroCells25 25)
    rw [show ((w.alloc (.cells C.toArray 25)).alloc (.cells #[.int .i64 1, .int .u64 b0, .int .u64 b1, .int .u64 b2, .int .u64 b3, .slice a kids.length cap] 46)).heap.size = w.heap.size + 1 + 1 by simp] at h
    rw [← hW]
    exact ((Fr.refl none_ (((w.alloc (.cells C.toArray 25)).alloc (.cells #[.int .i64 1, .int .u64 b0, .int .u64 b1, .int .u64 b2, .int .u64 b3, .slice a kids.length cap] 46)).alloc (.cells Tryd.zeroCells25 25))).alloc _).at_ h (fun h => h))
  have HB3 := Lib.hid (show (W.alloc (.map #[] 0)).ownsMap Tryd.prog 111 (plainElem (H := Unit) Tryd.prog 3) (w.heap.size + 1 + 1 + 1) 0 (.map []) by
    have h := World.ownsMap_made W Tryd.prog 111 (plainElem (H := Unit) Tryd.prog 3)
    rw [hsz] at h
    exact h)
  have HSW := Lib.hid hsz
  have hmm := @run_makeMap Tryd.prog
  have HW := Lib.hid hW
  clear hsz hW
  go_enter Tryd.func43, Tryd.ntmps43
  go_wp2_with (refine wpList_load_row rfl 25 _ rfl w.heap.size 25 C _ rfl (by have h := HB0.out; rw [← HW.out] at h; exact h) Tryd.underlying25 rfl (by rw [hz0]; exact arr_info) ?_)
  go_loopw [30] (fun x30 wr => ∃ i : Nat, i ≤ 256 ∧ x30 = .int .i64 i ∧ Aside (wr.heap[w.heap.size]? = some (.cells (arrV (mixM cls f i)).toArray 25 (0, 0))) ∧ Aside (wr.heap[w.heap.size + 1]? = some (.cells #[.int .i64 1, .int .u64 b0, .int .u64 b1, .int .u64 b2, .int .u64 b3, .slice a kids.length cap] 46 (0, 0))) ∧ Aside (wr.heap[w.heap.size + 1 + 1]? = some (.cells Tryd.zeroCells25 25 (0, 0))) ∧ Aside (∃ D, wr.ownsMap Tryd.prog 111 (plainElem (H := Unit) Tryd.prog 3) (w.heap.size + 1 + 1 + 1) i D ∧ MapIs pairL (fun k => k.1 ≤ 1000) D (numsM f i).1) ∧ Aside (Fr none_ w wr)) (fun x30 _ => 256 - (intOf x30).toNat)
  case atStart =>
    rw [HW.out]
    exact ⟨0, Nat.zero_le _, rfl, (by have h0 := HB0.out; rw [mix_zero, HC.out]; exact h0), HB1.out, HB2.out, ⟨_, HB3.out, MapIs.nil _ _⟩, HF0.out⟩
  case round =>
    obtain ⟨i, hi', rfl, hb0, hb1, hb2, hmap, hfr⟩ := hrel
    have H0 := Lib.hid hb0.out
    have H1 := Lib.hid hb1.out
    have H2 := Lib.hid hb2.out
    have HFr := Lib.hid hfr.out
    obtain ⟨D, hown, hmi⟩ := hmap.out
    have HO := Lib.hid hown
    have HM := Lib.hid hmi
    clear hb0 hb1 hb2 hmap hfr hown hmi HW HB0 HB1 HB2 HB3 HF0 HSW
    by_cases hlt : i < 256
    · have hil : (i : Int) < 256 := by omega
      have hi0 : (0 : Int) ≤ (i : Int) := by omega
      obtain ⟨c, hcd⟩ : ∃ c, cls.getD i 0 = c := ⟨_, rfl⟩
      obtain ⟨h, hhd⟩ : ∃ h, (Rx.mk 1 b0 b1 b2 b3 kids).has i = h := ⟨_, rfl⟩
      have hfi : f i = (c, h) := by rw [HFd.out, hcd, hhd]
      have hcle : c ≤ 1000 := by rw [← hcd]; exact HLe.out i hlt
      have hat := HAt2.out i hlt
      rw [hcd] at hat
      have hrun := fun (w : World) => run_arr C.toArray i (.int .i64 (c : Int)) hlt (by simpa using hat) w
      have HFI := Lib.hid hfi
      have HHD := Lib.hid hhd
      obtain ⟨z0, z1, z2, z3, z4, z5⟩ := six (Fr.at_ (Fr.alloc (Fr.refl none_ wr) (.cells #[.int .i64 (c : Int), .int .i64 0] 111)) H1.out (fun h => h))
      have FN := Lib.hid (Fr.alloc (Fr.refl none_ wr) (.cells #[.int .i64 (c : Int), .int .i64 0] 111))
      have BN := Lib.hid (alloc_new wr (.cells #[.int .i64 (c : Int), .int .i64 0] 111))
      clear hcd hhd hfi hat
      go_wp2_with fail
      refine (rhas_any (.mk 1 b0 b1 b2 b3 kids) i _ ok _ (RxV.mk_ hc (RxL.move (fun k _ hlt => (HFr.out.tr FN.out).block k hlt (fun h => h)) _ _ _ HL.out)) hlt).mono ?_
      rintro e w1 ⟨rfl, F1⟩
      rw [HHD.out]
      have y0 : w1.cell? ⟨wr.heap.size, 0, none⟩ = some (.int .i64 (c : Int)) := cell_of_block (F1.at_ BN.out (fun h => h)) rfl
      have y1 : w1.cell? ⟨wr.heap.size, 1, none⟩ = some (.int .i64 0) := cell_of_block (F1.at_ BN.out (fun h => h)) rfl
      have y2 : w1.frozen? ⟨wr.heap.size, 1, none⟩ = false := free_of_block (F1.at_ BN.out (fun h => h))
      have K0 := Lib.hid ((FN.out.tr F1).at_ H0.out (fun h => h))
      have K1 := Lib.hid ((FN.out.tr F1).at_ H1.out (fun h => h))
      have K2 := Lib.hid ((FN.out.tr F1).at_ H2.out (fun h => h))
      have KO := Lib.hid (ownsMap_at HO.out ((FN.out.tr F1).block _ HO.out.lt (fun h => h)))
      have KF := Lib.hid ((HFr.out.tr FN.out).tr F1)
      have H0lt := Lib.hid (show w.heap.size + 1 + 1 + 1 < wr.heap.size from HO.out.lt)
      obtain ⟨ox, hox⟩ : ∃ x, (arrV (mixM cls f i)).toArray[i]? = some x := by
        have : i < (arrV (mixM cls f i)).toArray.size := by
          have : (arrV (mixM cls f i)).length = 256 := by rw [arrV, intsV_length, ints_length, mix_length cls f HN.out.1 i hi']
          simpa [this] using hlt
        exact ⟨_, Array.getElem?_eq_getElem this⟩
      have HOX := Lib.hid hox
      obtain ⟨ks, hks⟩ : ∃ ks, (numsM f i).1 = ks := ⟨_, rfl⟩
      have hkle : ks.length ≤ 256 := by rw [← hks]; have := keys_le f i; omega
      have HKS := Lib.hid hks
      rw [hks] at HM
      clear F1 hox hks z0 z1 z2 z3 z4 z5 BN FN
      cases h
      ·
        have HK := Lib.hid (show Go.keyOf Tryd.prog 111 (.agg #[.int .i64 (c : Int), .int .i64 0]) = some (pairL (c, false)) by have := key2_some (c, false) hcle; simpa [pairV] using this)
        have HHas := Lib.hid (HM.out.has (c, false) hcle)
        have HAtK := Lib.hid (HM.out.at_ (c, false) hcle)
        have HPut := Lib.hid (fun hn => HM.out.put (k := (c, false)) hcle hn (fun a b ha hb => pairL_inj a b ha hb) (pairL_key _ hcle))
        obtain ⟨kl, hkl⟩ : ∃ l, pairL (c, false) = l := ⟨_, rfl⟩
        rw [hkl] at HK HHas HAtK HPut
        clear hkl
        have Q0 := Lib.hid (show w1.heap[w.heap.size]? = some (.cells (arrV (mixM cls f i)).toArray 25 (0, 0)) from K0.out)
        have Q1 := Lib.hid (show w1.heap[w.heap.size + 1]? = some (.cells #[.int .i64 1, .int .u64 b0, .int .u64 b1, .int .u64 b2, .int .u64 b3, .slice a kids.length cap] 46 (0, 0)) from K1.out)
        have Q2 := Lib.hid (show w1.heap[w.heap.size + 1 + 1]? = some (.cells Tryd.zeroCells25 25 (0, 0)) from K2.out)
        have QO := Lib.hid (show w1.ownsMap Tryd.prog 111 (plainElem (H := Unit) Tryd.prog 3) (w.heap.size + 1 + 1 + 1) i D from KO.out)
        have QF := Lib.hid (show Fr none_ w w1 from KF.out)
        have fc0 : w1.cell? ⟨w.heap.size, i, none⟩ = some ox := by rw [Lib.cell_of_heap Q0.out]; exact HOX.out
        have ff0 : w1.frozen? ⟨w.heap.size, i, none⟩ = false := free_of_block Q0.out
        by_cases hm : (c, false) ∈ ks
        · have hhas : Maps.has D kl = true := by rw [HHas.out]; simp [hm]
          have HKM := Lib.hid (show keyM ks (c, false) = (ks, idxM ks (c, false)) by rw [keyM, if_pos hm]; rfl)
          go_wp2_with (at_lookup; refine wpList_lookup_own_ok_int _ rfl (.tmp 42) (.tmp 43) 110 rfl 111 3 .i64 key2_law Tryd.underlying110 Tryd.underlying3 (zeroI _) (w.heap.size + 1 + 1 + 1) i D rfl QO.out (.agg #[.int .i64 (c : Int), .int .i64 0]) kl rfl HK.out ?_; intro v hat hwc; (have hv2 : v = (idxM ks (c, false) : Int) := (by rw [HAtK.out hm] at hat; simpa using hat.symm)); clear hat hwc; subst hv2)
          go_roundw
          case rel =>
            refine ⟨i + 1, by omega, by go_num, ?_, ?_, ?_, ⟨D, ?_, ?_⟩, ?_⟩
            · have h1 := heap_setCell _ Q0.out i (.int .i64 (idxM ks (c, false) : Int))
              have h2 := mix_set cls f HN.out.1 i hlt
              rw [HKS.out, HFI.out, HKM.out] at h2
              rw [h2] at h1
              exact h1
            · exact (Below.heap_setCell _ ⟨w.heap.size, i, none⟩ _ _ (by simp only []; omega)).trans Q1.out
            · exact (Below.heap_setCell _ ⟨w.heap.size, i, none⟩ _ _ (by simp only []; omega)).trans Q2.out
            · exact World.ownsMap.mono (ownsMap_at QO.out (Below.heap_setCell _ ⟨w.heap.size, i, none⟩ _ _ (by simp only []; omega))) (by omega)
            · show MapIs pairL _ D (keyM (numsM f i).1 (f i)).1
              rw [HKS.out, HFI.out, HKM.out]
              exact HM.out
            · exact Fr.setCell QF.out (p := ⟨w.heap.size, i, none⟩) (.inr (Nat.le_refl _)) _
          case measure => simp [intOf]; omega
        · have hhas : Maps.has D kl = false := by rw [HHas.out]; simp [hm]
          have HKM := Lib.hid (show keyM ks (c, false) = (ks ++ [(c, false)], ks.length) by rw [keyM, if_neg hm])
          have hsz : Maps.size D = ks.length := HM.out.size
          go_wp2_with (first
            | (at_lookup; refine wpList_lookup_own_ok_int _ rfl (.tmp 42) (.tmp 43) 110 rfl 111 3 .i64 key2_law Tryd.underlying110 Tryd.underlying3 (zeroI _) (w.heap.size + 1 + 1 + 1) i D rfl QO.out (.agg #[.int .i64 (c : Int), .int .i64 0]) kl rfl HK.out ?_; intro v hat hwc; clear hat hwc)
            | (at_len; refine wpList_len_own _ rfl (.tmp 49) 110 rfl 111 3 Tryd.underlying110 _ (w.heap.size + 1 + 1 + 1) i D rfl QO.out ?_)
            | (at_mapUpdate; refine wpList_mapUpdate_own _ rfl (.tmp 51) (.tmp 52) (.tmp 53) 110 rfl 111 3 key2_law Tryd.underlying110 _ (w.heap.size + 1 + 1 + 1) i D rfl QO.out (by unfold maxLen; omega) (.agg #[.int .i64 (c : Int), .int .i64 0]) (.int .i64 (ks.length : Int)) kl rfl rfl HK.out (.lit (.int .i64 (ks.length : Int))) [] (plainElem_int Tryd.underlying3 (WalkArith.wf_i64 (by omega))) ?_; intro w3 hown3 hgrow3; (have R0 := Lib.hid ((hgrow3.block w.heap.size (lt_of_block Q0.out) (by intro e; injection e with e; omega)).trans Q0.out)); (have R1 := Lib.hid ((hgrow3.block (w.heap.size + 1) (lt_of_block Q1.out) (by intro e; injection e with e; omega)).trans Q1.out)); (have R2 := Lib.hid ((hgrow3.block (w.heap.size + 1 + 1) (lt_of_block Q2.out) (by intro e; injection e with e; omega)).trans Q2.out)); (have RO := Lib.hid hown3); (have RF := Lib.hid (QF.out.grown hgrow3 (fun k hk => .inr (by injection hk with hk; omega)))); (have fc3 : w3.cell? ⟨w.heap.size, i, none⟩ = some ox := (by rw [Lib.cell_of_heap R0.out]; exact HOX.out)); (have ff3 : w3.frozen? ⟨w.heap.size, i, none⟩ = false := free_of_block R0.out); clear hown3 hgrow3))
          go_roundw
          case rel =>
            refine ⟨i + 1, by omega, by go_num, ?_, ?_, ?_, ⟨D.put kl (.lit (.int .i64 (ks.length : Int))), ?_, ?_⟩, ?_⟩
            · have h1 := heap_setCell _ R0.out i (.int .i64 (ks.length : Int))
              have h2 := mix_set cls f HN.out.1 i hlt
              rw [HKS.out, HFI.out, HKM.out] at h2
              rw [h2] at h1
              exact h1
            · exact (Below.heap_setCell _ ⟨w.heap.size, i, none⟩ _ _ (by simp only []; omega)).trans R1.out
            · exact (Below.heap_setCell _ ⟨w.heap.size, i, none⟩ _ _ (by simp only []; omega)).trans R2.out
            · exact ownsMap_at RO.out (Below.heap_setCell _ ⟨w.heap.size, i, none⟩ _ _ (by simp only []; omega))
            · show MapIs pairL _ _ (keyM (numsM f i).1 (f i)).1
              rw [HKS.out, HFI.out, HKM.out]
              exact HPut.out hm
            · exact Fr.setCell RF.out (p := ⟨w.heap.size, i, none⟩) (.inr (Nat.le_refl _)) _
          case measure => simp [intOf]; omega
      ·
        have HK := Lib.hid (show Go.keyOf Tryd.prog 111 (.agg #[.int .i64 (c : Int), .int .i64 1]) = some (pairL (c, true)) by have := key2_some (c, true) hcle; simpa [pairV] using this)
        have HHas := Lib.hid (HM.out.has (c, true) hcle)
        have HAtK := Lib.hid (HM.out.at_ (c, true) hcle)
        have HPut := Lib.hid (fun hn => HM.out.put (k := (c, true)) hcle hn (fun a b ha hb => pairL_inj a b ha hb) (pairL_key _ hcle))
        obtain ⟨kl, hkl⟩ : ∃ l, pairL (c, true) = l := ⟨_, rfl⟩
        rw [hkl] at HK HHas HAtK HPut
        clear hkl
        have Q0 := Lib.hid (show (w1.setCell ⟨wr.heap.size, 1, none⟩ (.int .i64 1)).heap[w.heap.size]? = some (.cells (arrV (mixM cls f i)).toArray 25 (0, 0)) from (Below.heap_setCell w1 ⟨wr.heap.size, 1, none⟩ (.int .i64 1) _ (by have := lt_of_block K0.out; have := H0lt.out; simp only []; omega)).trans K0.out)
        have Q1 := Lib.hid (show (w1.setCell ⟨wr.heap.size, 1, none⟩ (.int .i64 1)).heap[w.heap.size + 1]? = some (.cells #[.int .i64 1, .int .u64 b0, .int .u64 b1, .int .u64 b2, .int .u64 b3, .slice a kids.length cap] 46 (0, 0)) from (Below.heap_setCell w1 ⟨wr.heap.size, 1, none⟩ (.int .i64 1) _ (by have := lt_of_block K1.out; have := H0lt.out; simp only []; omega)).trans K1.out)
        have Q2 := Lib.hid (show (w1.setCell ⟨wr.heap.size, 1, none⟩ (.int .i64 1)).heap[w.heap.size + 1 + 1]? = some (.cells Tryd.zeroCells25 25 (0, 0)) from (Below.heap_setCell w1 ⟨wr.heap.size, 1, none⟩ (.int .i64 1) _ (by have := lt_of_block K2.out; have := H0lt.out; simp only []; omega)).trans K2.out)
        have QO := Lib.hid (show (w1.setCell ⟨wr.heap.size, 1, none⟩ (.int .i64 1)).ownsMap Tryd.prog 111 (plainElem (H := Unit) Tryd.prog 3) (w.heap.size + 1 + 1 + 1) i D from ownsMap_at KO.out (Below.heap_setCell w1 ⟨wr.heap.size, 1, none⟩ (.int .i64 1) _ (by have := KO.out.lt; have := H0lt.out; simp only []; omega)))
        have QF := Lib.hid (show Fr none_ w (w1.setCell ⟨wr.heap.size, 1, none⟩ (.int .i64 1)) from Fr.setCell KF.out (p := ⟨wr.heap.size, 1, none⟩) (.inr (by have := H0lt.out; simp only []; omega)) _)
        have fc0 : (w1.setCell ⟨wr.heap.size, 1, none⟩ (.int .i64 1)).cell? ⟨w.heap.size, i, none⟩ = some ox := by rw [Lib.cell_of_heap Q0.out]; exact HOX.out
        have ff0 : (w1.setCell ⟨wr.heap.size, 1, none⟩ (.int .i64 1)).frozen? ⟨w.heap.size, i, none⟩ = false := free_of_block Q0.out
        by_cases hm : (c, true) ∈ ks
        · have hhas : Maps.has D kl = true := by rw [HHas.out]; simp [hm]
          have HKM := Lib.hid (show keyM ks (c, true) = (ks, idxM ks (c, true)) by rw [keyM, if_pos hm]; rfl)
          go_wp2_with (at_lookup; refine wpList_lookup_own_ok_int _ rfl (.tmp 42) (.tmp 43) 110 rfl 111 3 .i64 key2_law Tryd.underlying110 Tryd.underlying3 (zeroI _) (w.heap.size + 1 + 1 + 1) i D rfl QO.out (.agg #[.int .i64 (c : Int), .int .i64 1]) kl rfl HK.out ?_; intro v hat hwc; (have hv2 : v = (idxM ks (c, true) : Int) := (by rw [HAtK.out hm] at hat; simpa using hat.symm)); clear hat hwc; subst hv2)
          go_roundw
          case rel =>
            refine ⟨i + 1, by omega, by go_num, ?_, ?_, ?_, ⟨D, ?_, ?_⟩, ?_⟩
            · have h1 := heap_setCell _ Q0.out i (.int .i64 (idxM ks (c, true) : Int))
              have h2 := mix_set cls f HN.out.1 i hlt
              rw [HKS.out, HFI.out, HKM.out] at h2
              rw [h2] at h1
              exact h1
            · exact (Below.heap_setCell _ ⟨w.heap.size, i, none⟩ _ _ (by simp only []; omega)).trans Q1.out
            · exact (Below.heap_setCell _ ⟨w.heap.size, i, none⟩ _ _ (by simp only []; omega)).trans Q2.out
            · exact World.ownsMap.mono (ownsMap_at QO.out (Below.heap_setCell _ ⟨w.heap.size, i, none⟩ _ _ (by simp only []; omega))) (by omega)
            · show MapIs pairL _ D (keyM (numsM f i).1 (f i)).1
              rw [HKS.out, HFI.out, HKM.out]
              exact HM.out
            · exact Fr.setCell QF.out (p := ⟨w.heap.size, i, none⟩) (.inr (Nat.le_refl _)) _
          case measure => simp [intOf]; omega
        · have hhas : Maps.has D kl = false := by rw [HHas.out]; simp [hm]
          have HKM := Lib.hid (show keyM ks (c, true) = (ks ++ [(c, true)], ks.length) by rw [keyM, if_neg hm])
          have hsz : Maps.size D = ks.length := HM.out.size
          go_wp2_with (first
            | (at_lookup; refine wpList_lookup_own_ok_int _ rfl (.tmp 42) (.tmp 43) 110 rfl 111 3 .i64 key2_law Tryd.underlying110 Tryd.underlying3 (zeroI _) (w.heap.size + 1 + 1 + 1) i D rfl QO.out (.agg #[.int .i64 (c : Int), .int .i64 1]) kl rfl HK.out ?_; intro v hat hwc; clear hat hwc)
            | (at_len; refine wpList_len_own _ rfl (.tmp 49) 110 rfl 111 3 Tryd.underlying110 _ (w.heap.size + 1 + 1 + 1) i D rfl QO.out ?_)
            | (at_mapUpdate; refine wpList_mapUpdate_own _ rfl (.tmp 51) (.tmp 52) (.tmp 53) 110 rfl 111 3 key2_law Tryd.underlying110 _ (w.heap.size + 1 + 1 + 1) i D rfl QO.out (by unfold maxLen; omega) (.agg #[.int .i64 (c : Int), .int .i64 1]) (.int .i64 (ks.length : Int)) kl rfl rfl HK.out (.lit (.int .i64 (ks.length : Int))) [] (plainElem_int Tryd.underlying3 (WalkArith.wf_i64 (by omega))) ?_; intro w3 hown3 hgrow3; (have R0 := Lib.hid ((hgrow3.block w.heap.size (lt_of_block Q0.out) (by intro e; injection e with e; omega)).trans Q0.out)); (have R1 := Lib.hid ((hgrow3.block (w.heap.size + 1) (lt_of_block Q1.out) (by intro e; injection e with e; omega)).trans Q1.out)); (have R2 := Lib.hid ((hgrow3.block (w.heap.size + 1 + 1) (lt_of_block Q2.out) (by intro e; injection e with e; omega)).trans Q2.out)); (have RO := Lib.hid hown3); (have RF := Lib.hid (QF.out.grown hgrow3 (fun k hk => .inr (by injection hk with hk; omega)))); (have fc3 : w3.cell? ⟨w.heap.size, i, none⟩ = some ox := (by rw [Lib.cell_of_heap R0.out]; exact HOX.out)); (have ff3 : w3.frozen? ⟨w.heap.size, i, none⟩ = false := free_of_block R0.out); clear hown3 hgrow3))
          go_roundw
          case rel =>
            refine ⟨i + 1, by omega, by go_num, ?_, ?_, ?_, ⟨D.put kl (.lit (.int .i64 (ks.length : Int))), ?_, ?_⟩, ?_⟩
            · have h1 := heap_setCell _ R0.out i (.int .i64 (ks.length : Int))
              have h2 := mix_set cls f HN.out.1 i hlt
              rw [HKS.out, HFI.out, HKM.out] at h2
              rw [h2] at h1
              exact h1
            · exact (Below.heap_setCell _ ⟨w.heap.size, i, none⟩ _ _ (by simp only []; omega)).trans R1.out
            · exact (Below.heap_setCell _ ⟨w.heap.size, i, none⟩ _ _ (by simp only []; omega)).trans R2.out
            · exact ownsMap_at RO.out (Below.heap_setCell _ ⟨w.heap.size, i, none⟩ _ _ (by simp only []; omega))
            · show MapIs pairL _ _ (keyM (numsM f i).1 (f i)).1
              rw [HKS.out, HFI.out, HKM.out]
              exact HPut.out hm
            · exact Fr.setCell RF.out (p := ⟨w.heap.size, i, none⟩) (.inr (Nat.le_refl _)) _
          case measure => simp [intOf]; omega
    · obtain rfl : i = 256 := by omega
      have hend := mix_end cls f HN.out.1
      have HE3 := Lib.hid (show splitM cls (.mk 1 b0 b1 b2 b3 kids) = mixM cls f 256 by rw [HE.out, hend])
      have hz : (arrV (mixM cls f 256)).length = 256 := by rw [arrV, intsV_length, ints_length, mix_length cls f HN.out.1 256 (Nat.le_refl _)]
      have hsz : (arrV (mixM cls f 256)).toArray.size = 256 := by simpa using hz
      obtain ⟨cl, hcl⟩ : ∃ x, mixM cls f 256 = x := ⟨_, rfl⟩
      rw [hcl] at hz hsz HE3 H0
      have hk0 := H0.out
      have hk2 := H2.out
      have hone := arrV_one cl
      clear hcl hend HM
      go_wp2_with (first
        | (refine wpList_load_row rfl 25 _ rfl w.heap.size 25 (arrV cl) _ rfl hk0 Tryd.underlying25 rfl (by rw [hz]; exact arr_info) ?_)
        | (refine wpList_store_row rfl 25 _ _ rfl (w.heap.size + 1 + 1) 25 Tryd.zeroCells25 (arrV cl).toArray rfl rfl hk2 (by rw [hsz]; exact arr_info) (by rw [zero_size, hsz]) hone ?_))
      refine bodyPost_ret (results_arr rfl rfl (setRow_heap _ _ _ _ _ _ hk2) hz) rfl ?_
      exact ⟨by rw [HE3.out], Fr.setRow HFr.out (.inr (by omega)) _⟩
end Go.Proofs.YtglflmkkecephaaDoor
