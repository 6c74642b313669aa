/-
  Classes of bytes: Classes.
-/
import Derived.Test.YtglflmkkecephaaDoorKi
namespace Go.Proofs.YtglflmkkecephaaDoor
open Go.RowKit
open Go.Maps

theorem size_mem : ∀ {l : List Rx} {q : Rx}, q ∈ l → q.size ≤ Rx.sizes l
  | [], q, h => absurd h (by simp)
  | x :: xs, q, h => by
    rcases List.mem_cons.1 h with e | e
    · rw [e]; simp [Rx.sizes]
    · have := size_mem e; simp [Rx.sizes]; omega
theorem split_all : ∀ (n : Nat) (r : Rx), r.size ≤ n → r.size ≤ 1000000 → SplitC r := by
  intro n
  induction n with
  | zero => intro r h; have := r.size_pos; omega
  | succ n ih =>
    rintro ⟨k, b0, b1, b2, b3, kids⟩ hn hm
    simp only [Rx.size] at hn hm
    by_cases hk : k = 1
    · subst hk; exact split_bytes b0 b1 b2 b3 kids
    · exact split_kids k hk b0 b1 b2 b3 kids (fun q hq => by have := size_mem hq; exact ih q (by omega) (by omega)) (by have := Rx.length_le kids; omega)
theorem split_any (r : Rx) (h : r.size ≤ 1000000) : SplitC r := split_all r.size r (Nat.le_refl _) h
theorem zero_arr : Tryd.zeroCells25 = (arrV (List.replicate 256 0)).toArray := by kernel_rfl

set_option maxRecDepth 100000 in
set_option maxHeartbeats 1000000 in
theorem classes_any (kids : List Rx) (a : Option Addr) (cap : Nat) (ok : Nat → Prop) (w : World) (hc : kids.length ≤ cap) (hl : RxL ok w a 0 kids) (hs : Rx.sizes kids ≤ 1000000) :
    Calls Tryd.prog 22 #[.slice a kids.length cap] w fun e w' => e = .returned (.agg (arrV (classesM kids)).toArray) ∧ Fr none_ w w' := by
  have HL := Lib.hid hl
  have HS := Lib.hid (show ∀ r ∈ kids, SplitC r from fun r hr => split_any r (by have := size_mem hr; omega))
  have hkl : kids.length ≤ 1000000 := by have := Rx.length_le kids; omega
  clear hl hs
  have HF0 := Lib.hid (((Fr.refl none_ w).alloc (.cells Tryd.zeroCells25 25)).alloc (.cells Tryd.zeroCells25 25))
  have HB0 := Lib.hid (((Fr.refl none_ (w.alloc (.cells Tryd.zeroCells25 25))).alloc (.cells Tryd.zeroCells25 25)).at_ (alloc_new w (.cells Tryd.zeroCells25 25)) (fun h => h))
  have hb1 := alloc_new (w.alloc (.cells Tryd.zeroCells25 25)) (.cells Tryd.zeroCells25 25)
  have e1 : (w.alloc (.cells Tryd.zeroCells25 25)).heap.size = w.heap.size + 1 := by simp
  rw [e1] at hb1
  have HB1 := Lib.hid hb1
  clear hb1 e1
  go_enter Tryd.func22, Tryd.ntmps22
  go_wp2_with fail
  go_loopw [8] (fun x8 wr => ∃ i : Nat, i ≤ kids.length ∧ x8 = .int .i64 i ∧ Aside (wr.heap[w.heap.size + 1]? = some (.cells (arrV (classesM (kids.take i))).toArray 25 (0, 0))) ∧ Aside (wr.heap[w.heap.size]? = some (.cells Tryd.zeroCells25 25 (0, 0))) ∧ Aside (Fr none_ w wr)) (fun x8 _ => kids.length - (intOf x8).toNat)
  case atStart => exact ⟨0, Nat.zero_le _, rfl, (by have h0 := HB1.out; rw [zero_arr] at h0 ⊢; exact h0), HB0.out, HF0.out⟩
  case round =>
    obtain ⟨i, hi', rfl, hb0, hb2, hfr⟩ := hrel
    have H0 := Lib.hid hb0.out
    have H2 := Lib.hid hb2.out
    have HFr := Lib.hid hfr.out
    clear hb0 hb2 hfr
    obtain ⟨cl, hcl⟩ : ∃ x, classesM (kids.take i) = x := ⟨_, rfl⟩
    have hnc : Normal cl := by rw [← hcl]; exact normal_classes _
    have hz := arrV_len hnc
    have hsz := arrV_size hnc
    have HNC := Lib.hid hnc
    have HCL := Lib.hid hcl
    rw [hcl] at H0
    clear hcl hnc
    by_cases hlt : i < kids.length
    · have hlt' : (i : Int) < (kids.length : Int) := by omega
      obtain ⟨⟨k', x0, x1, x2, x3, kids'⟩, hki⟩ : ∃ r, kids[i]? = some r := ⟨kids[i]'hlt, List.getElem?_eq_getElem hlt⟩
      have hmv : RxL ok wr a 0 kids := RxL.move (fun k _ hlt => HFr.out.block k hlt (fun h => h)) kids a 0 HL.out
      obtain ⟨ad, a', cap', rfl, hok, c0, c1, c2, c3, c4, c5, hc', hl'⟩ := hmv.elem hki
      have HL' := Lib.hid hl'
      have HKC := Lib.hid (HS.out _ (List.mem_of_getElem? hki))
      have FK := Lib.hid (Fr.alloc (Fr.refl none_ wr) (.cells #[.int .i64 k', .int .u64 x0, .int .u64 x1, .int .u64 x2, .int .u64 x3, .slice a' kids'.length cap'] 46))
      have htake : kids.take (i + 1) = kids.take i ++ [.mk k' x0 x1 x2 x3 kids'] := by rw [List.take_add_one, hki]; rfl
      obtain ⟨z0, z1, z2, z3, z4, z5⟩ := six (alloc_new wr (.cells #[.int .i64 k', .int .u64 x0, .int .u64 x1, .int .u64 x2, .int .u64 x3, .slice a' kids'.length cap'] 46))
      have HTK := Lib.hid htake
      have HK0 := FK.out.at_ H0.out (fun h => h)
      clear hki hmv hl' htake
      go_wp2_with (refine wpList_load_row rfl 25 _ rfl (w.heap.size + 1) 25 (arrV cl) _ rfl HK0 Tryd.underlying25 rfl (by rw [hz]; exact arr_info) ?_)
      refine (HKC.out cl HNC.out _ ok _ (RxV.mk_ hc' (RxL.move (fun k _ hlt => FK.out.block k hlt (fun h => h)) _ _ _ HL'.out))).mono ?_
      rintro e w2 ⟨rfl, h4⟩
      have K0 := h4.at_ HK0 (fun h => h)
      have K2 := Lib.hid ((FK.out.tr h4).at_ H2.out (fun h => h))
      have K4 := Lib.hid ((HFr.out.tr FK.out).tr h4)
      have hn2 : Normal (splitM cl (.mk k' x0 x1 x2 x3 kids')) := normal_splitM _ _ HNC.out
      have HE2 := Lib.hid (show classesM (kids.take (i + 1)) = splitM cl (.mk k' x0 x1 x2 x3 kids') by rw [HTK.out, classesM, splitsM_snoc]; rw [← HCL.out]; rfl)
      obtain ⟨cl2, hcl2⟩ : ∃ x, splitM cl (.mk k' x0 x1 x2 x3 kids') = x := ⟨_, rfl⟩
      rw [hcl2] at hn2 HE2 ⊢
      have hsz2 := arrV_size hn2
      have hone := arrV_one cl2
      clear h4 z0 z1 z2 z3 z4 z5 c0 c1 c2 c3 c4 c5 HK0 hcl2
      go_wp2_with (refine wpList_store_row rfl 25 _ _ rfl (w.heap.size + 1) 25 (arrV cl).toArray (arrV cl2).toArray rfl rfl K0 (by rw [hsz2]; exact arr_info) (by rw [hsz, hsz2]) hone ?_)
      go_roundw
      case rel => exact ⟨i + 1, by omega, by go_num, (by rw [HE2.out]; exact setRow_heap _ _ _ _ _ _ K0), (by exact (setRow_other _ _ _ _ (by omega)).trans K2.out), Fr.setRow K4.out (.inr (by omega)) _⟩
      case measure => simp [intOf]; omega
    · obtain rfl : i = kids.length := by omega
      have HE3 := Lib.hid (show classesM kids = cl by rw [← HCL.out, List.take_length])
      have hk0 := H0.out
      have hk2 := H2.out
      have hone := arrV_one cl
      go_wp2_with (first
        | (refine wpList_load_row rfl 25 _ rfl (w.heap.size + 1) 25 (arrV cl) _ rfl hk0 Tryd.underlying25 rfl (by rw [hz]; exact arr_info) ?_)
        | (refine wpList_store_row rfl 25 _ _ rfl w.heap.size 25 Tryd.zeroCells25 (arrV cl).toArray rfl rfl hk2 (by rw [hsz]; exact arr_info) (by rw [zero_size, hsz]) hone ?_))
      refine bodyPost_ret (results_arr rfl rfl (setRow_heap _ _ _ _ _ _ hk2) hz) rfl ?_
      exact ⟨by rw [HE3.out], Fr.setRow HFr.out (.inr (by omega)) _⟩
end Go.Proofs.YtglflmkkecephaaDoor
