/-
  Classes of bytes: split and Classes.
-/
import Derived.Test.YtglflmkkecephaaDoorKg
namespace Go.Proofs.YtglflmkkecephaaDoor
open Go.RowKit
open Go.Maps

def arrV (cls : List Nat) : List Value := intsV (ints cls)
theorem arrV_len {cls : List Nat} (h : Normal cls) : (arrV cls).length = 256 := by rw [arrV, intsV_length, ints_length, h.1]
theorem arrV_size {cls : List Nat} (h : Normal cls) : (arrV cls).toArray.size = 256 := by simpa using arrV_len h
theorem arrV_one (cls : List Nat) : (arrV cls).toArray.all (·.oneCell') = true := all_oneCell_toArray (fun v hv => by
  simp only [arrV, intsV, List.mem_map] at hv
  obtain ⟨n, _, rfl⟩ := hv
  rfl)
theorem zero_size : (Tryd.zeroCells25).size = 256 := by kernel_rfl
theorem splitsM_snoc : ∀ (l : List Rx) (cls : List Nat) (r : Rx), splitsM cls (l ++ [r]) = splitM (splitsM cls l) r
  | [], cls, r => by simp [splitsM]
  | x :: l, cls, r => by simp only [List.cons_append, splitsM]; exact splitsM_snoc l _ r
/-- What split of a regex answers. -/
def SplitC (r : Rx) : Prop := ∀ (cls : List Nat), Normal cls → ∀ (v : Value) (ok : Nat → Prop) (w : World), RxV ok w v r →
  Calls Tryd.prog 43 #[.agg (arrV cls).toArray, v] w fun e w' => e = .returned (.agg (arrV (splitM cls r)).toArray) ∧ Fr none_ w w'

set_option maxRecDepth 100000 in
set_option maxHeartbeats 1000000 in
theorem split_kids (k : Int) (hk : k ≠ 1) (b0 b1 b2 b3 : Nat) (kids : List Rx) (hsub : ∀ r ∈ kids, SplitC r) (hkl : kids.length ≤ 1000000) : SplitC (.mk k b0 b1 b2 b3 kids) := by
  intro cls hn v ok w hv
  obtain ⟨a, cap, rfl, hc, hl⟩ := hv.open_
  have HL := Lib.hid hl
  have HS := Lib.hid hsub
  have HN := Lib.hid hn
  have HE := Lib.hid (show splitM cls (.mk k b0 b1 b2 b3 kids) = splitsM cls kids by rw [splitM, if_neg hk])
  have hk' : (k != 1) = true := by simpa using hk
  clear hk hv hl hsub hn
  obtain ⟨C, hC⟩ : ∃ C, arrV cls = C := ⟨_, rfl⟩
  have HC := Lib.hid hC
  rw [hC]
  clear hC
  have HF0 := Lib.hid ((((Fr.refl none_ w).alloc (.cells C.toArray 25)).alloc (.cells #[.int .i64 k, .int .u64 b0, .int .u64 b1, .int .u64 b2, .int .u64 b3, .slice a kids.length cap] 46)).alloc (.cells Tryd.zeroCells25 25))
  have HB0 := Lib.hid ((((Fr.refl none_ (w.alloc (.cells C.toArray 25))).alloc (.cells #[.int .i64 k, .int .u64 b0, .int .u64 b1, .int .u64 b2, .int .u64 b3, .slice a kids.length cap] 46)).alloc (.cells Tryd.zeroCells25 25)).at_ (alloc_new w (.cells C.toArray 25)) (fun h => h))
  have hb2 := alloc_new ((w.alloc (.cells C.toArray 25)).alloc (.cells #[.int .i64 k, .int .u64 b0, .int .u64 b1, .int .u64 b2, .int .u64 b3, .slice a kids.length cap] 46)) (.cells Tryd.zeroCells25 25)
  have e2 : ((w.alloc (.cells C.toArray 25)).alloc (.cells #[.int .i64 k, .int .u64 b0, .int .u64 b1, .int .u64 b2, .int .u64 b3, .slice a kids.length cap] 46)).heap.size = w.heap.size + 1 + 1 := by simp
  rw [e2] at hb2
  have HB2 := Lib.hid hb2
  clear hb2 e2
  go_enter Tryd.func43, Tryd.ntmps43
  go_wp2_with fail
  clear hk'
  go_loopw [19] (fun x19 wr => ∃ i : Nat, i ≤ kids.length ∧ x19 = .int .i64 i ∧ Aside (wr.heap[w.heap.size]? = some (.cells (arrV (splitsM cls (kids.take i))).toArray 25 (0, 0))) ∧ Aside (wr.heap[w.heap.size + 1 + 1]? = some (.cells Tryd.zeroCells25 25 (0, 0))) ∧ Aside (Fr none_ w wr)) (fun x19 _ => kids.length - (intOf x19).toNat)
  case atStart => exact ⟨0, Nat.zero_le _, rfl, (by have h0 := HB0.out; rw [← HC.out]; rw [← HC.out] at h0; exact h0), HB2.out, HF0.out⟩
  case round =>
    obtain ⟨i, hi', rfl, hb0, hb2, hfr⟩ := hrel
    have H0 := Lib.hid hb0.out
    have H2 := Lib.hid hb2.out
    have HFr := Lib.hid hfr.out
    clear hb0 hb2 hfr
    obtain ⟨cl, hcl⟩ : ∃ x, splitsM cls (kids.take i) = x := ⟨_, rfl⟩
    have hnc : Normal cl := by rw [← hcl]; exact normal_splitsM _ _ HN.out
    have hz := arrV_len hnc
    have hsz := arrV_size hnc
    have HNC := Lib.hid hnc
    have HCL := Lib.hid hcl
    rw [hcl] at H0
    clear hcl hnc
    by_cases hlt : i < kids.length
    · have hlt' : (i : Int) < (kids.length : Int) := by omega
      obtain ⟨⟨k', x0, x1, x2, x3, kids'⟩, hki⟩ : ∃ r, kids[i]? = some r := ⟨kids[i]'hlt, List.getElem?_eq_getElem hlt⟩
      have hmv : RxL ok wr a 0 kids := RxL.move (fun k _ hlt => HFr.out.block k hlt (fun h => h)) kids a 0 HL.out
      obtain ⟨ad, a', cap', rfl, hok, c0, c1, c2, c3, c4, c5, hc', hl'⟩ := hmv.elem hki
      have HL' := Lib.hid hl'
      have HKC := Lib.hid (HS.out _ (List.mem_of_getElem? hki))
      have FK := Lib.hid (Fr.alloc (Fr.refl none_ wr) (.cells #[.int .i64 k', .int .u64 x0, .int .u64 x1, .int .u64 x2, .int .u64 x3, .slice a' kids'.length cap'] 46))
      have htake : kids.take (i + 1) = kids.take i ++ [.mk k' x0 x1 x2 x3 kids'] := by rw [List.take_add_one, hki]; rfl
      obtain ⟨z0, z1, z2, z3, z4, z5⟩ := six (alloc_new wr (.cells #[.int .i64 k', .int .u64 x0, .int .u64 x1, .int .u64 x2, .int .u64 x3, .slice a' kids'.length cap'] 46))
      have HTK := Lib.hid htake
      have HK0 := FK.out.at_ H0.out (fun h => h)
      clear hki hmv hl' htake
      go_wp2_with (refine wpList_load_row rfl 25 _ rfl w.heap.size 25 (arrV cl) _ rfl HK0 Tryd.underlying25 rfl (by rw [hz]; exact arr_info) ?_)
      refine (HKC.out cl HNC.out _ ok _ (RxV.mk_ hc' (RxL.move (fun k _ hlt => FK.out.block k hlt (fun h => h)) _ _ _ HL'.out))).mono ?_
      rintro e w2 ⟨rfl, h4⟩
      have K0 := h4.at_ HK0 (fun h => h)
      have K2 := Lib.hid ((FK.out.tr h4).at_ H2.out (fun h => h))
      have K4 := Lib.hid ((HFr.out.tr FK.out).tr h4)
      have hn2 : Normal (splitM cl (.mk k' x0 x1 x2 x3 kids')) := normal_splitM _ _ HNC.out
      have HE2 := Lib.hid (show splitsM cls (kids.take (i + 1)) = splitM cl (.mk k' x0 x1 x2 x3 kids') by rw [HTK.out, splitsM_snoc, HCL.out])
      obtain ⟨cl2, hcl2⟩ : ∃ x, splitM cl (.mk k' x0 x1 x2 x3 kids') = x := ⟨_, rfl⟩
      rw [hcl2] at hn2 HE2 ⊢
      have hsz2 := arrV_size hn2
      have hone := arrV_one cl2
      clear h4 z0 z1 z2 z3 z4 z5 c0 c1 c2 c3 c4 c5 HK0 hcl2
      go_wp2_with (refine wpList_store_row rfl 25 _ _ rfl w.heap.size 25 (arrV cl).toArray (arrV cl2).toArray rfl rfl K0 (by rw [hsz2]; exact arr_info) (by rw [hsz, hsz2]) hone ?_)
      go_roundw
      case rel => exact ⟨i + 1, by omega, by go_num, (by rw [HE2.out]; exact setRow_heap _ _ _ _ _ _ K0), (by exact (setRow_other _ _ _ _ (by omega)).trans K2.out), Fr.setRow K4.out (.inr (Nat.le_refl _)) _⟩
      case measure => simp [intOf]; omega
    · obtain rfl : i = kids.length := by omega
      have HE3 := Lib.hid (show splitM cls (.mk k b0 b1 b2 b3 kids) = cl by rw [HE.out, ← HCL.out, List.take_length])
      have hk0 := H0.out
      have hk2 := H2.out
      have hone := arrV_one cl
      go_wp2_with (first
        | (refine wpList_load_row rfl 25 _ rfl w.heap.size 25 (arrV cl) _ rfl hk0 Tryd.underlying25 rfl (by rw [hz]; exact arr_info) ?_)
        | (refine wpList_store_row rfl 25 _ _ rfl (w.heap.size + 1 + 1) 25 Tryd.zeroCells25 (arrV cl).toArray rfl rfl hk2 (by rw [hsz]; exact arr_info) (by rw [zero_size, hsz]) hone ?_))
      refine bodyPost_ret (results_arr rfl rfl (setRow_heap _ _ _ _ _ _ hk2) hz) rfl ?_
      exact ⟨by rw [HE3.out], Fr.setRow HFr.out (.inr (by omega)) _⟩
end Go.Proofs.YtglflmkkecephaaDoor
