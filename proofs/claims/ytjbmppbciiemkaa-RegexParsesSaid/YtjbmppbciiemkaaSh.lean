/-
  The walk over regex.Show.
-/
import Derived.Test.YtjbmppbciiemkaaRb
import Derived.Test.YtjbmppbciiemkaaRk
namespace Go.Proofs.Ytjbmppbciiemkaa set_option linter.unusedVariables false set_option linter.unusedSimpArgs false
open Go.RowKit

theorem str_info : (Try.prog.info? 9).map (fun i => (i.zero, i.size, i.bytes)) = some (some (.string ⟨#[]⟩), 1, 16) := by kernel_rfl
def ShowC (r : Rx) : Prop := ∀ (v : Value) (w : World) (ok : Nat → Prop), RxV ok w v r →
  Calls Try.prog 8 #[v] w fun e w' => e = .returned (.string (bstr (showL r))) ∧ Fr none_ w w'

set_option maxRecDepth 100000 in
set_option maxHeartbeats 4000000 in
theorem show_0 (b0 b1 b2 b3 : Nat) (kids : List Rx) (hk : kids.length ≤ 1000) (hsz : Rx.sizes kids ≤ 1000) (hsub : ∀ r ∈ kids, ShowC r) : ShowC (.mk 0 b0 b1 b2 b3 kids) := by
  intro v w ok hrv
  obtain ⟨a, cap, rfl, hc, hl⟩ := hrv.open_
  obtain ⟨i0, hi, hz0, hz1, hz2⟩ := info_parts str_info
  have F0 := Lib.hid ((Fr.refl none_ w).alloc (.cells #[.int .i64 0, .int .u64 b0, .int .u64 b1, .int .u64 b2, .int .u64 b3, .slice a kids.length cap] 28))
  have NX := Lib.hid (alloc_new w (.cells #[.int .i64 0, .int .u64 b0, .int .u64 b1, .int .u64 b2, .int .u64 b3, .slice a kids.length cap] 28))
  have HL := Lib.hid hl
  have HS := Lib.hid hsub
  have HSZ := Lib.hid hsz
  have h1w : (w.alloc (.cells #[.int .i64 0, .int .u64 b0, .int .u64 b1, .int .u64 b2, .int .u64 b3, .slice a kids.length cap] 28)).heap.size = w.heap.size + 1 := by simp
  clear hrv hl hsub hsz
  go_enter Try.func8, Try.ntmps8
  go_wp2_with fail
  generalize hw1 : w.alloc (.cells #[.int .i64 0, .int .u64 b0, .int .u64 b1, .int .u64 b2, .int .u64 b3, .slice a kids.length cap] 28) = w1
  rw [hw1] at F0 NX h1w
  clear hw1
  go_loopw [3, 11] (fun x3 x11 wr => ∃ i : Nat, i ≤ kids.length ∧ x11 = .int .i64 i ∧ Aside (wr.ownsRow (w.heap.size + 1) 9 1 x3 i (strsV (kids.take i))) ∧ Aside (Fr none_ w1 wr)) (fun _ x11 _ => kids.length - (intOf x11).toNat)
  case atStart => exact ⟨0, Nat.zero_le _, rfl, World.ownsRow_nil _ _ _ _, Fr.refl _ _⟩
  case round =>
    obtain ⟨i, hi', rfl, how, hfr⟩ := hrel
    have HO := Lib.hid how.out
    have HFr := Lib.hid hfr.out
    have NXr := Lib.hid (HFr.out.at_ NX.out (fun h => h))
    obtain ⟨z0, z1, z2, z3, z4, z5⟩ := six NXr.out
    have hwr := lt_of_block NXr.out
    clear how hfr
    by_cases hlt : i < kids.length
    · have hlt' : (i : Int) < (kids.length : Int) := by omega
      obtain ⟨⟨k', x0, x1, x2, x3, kids'⟩, hki⟩ : ∃ r, kids[i]? = some r := ⟨kids[i]'hlt, List.getElem?_eq_getElem hlt⟩
      have hmv : RxL ok wr a 0 kids := RxL.move (fun k _ hlt => ((F0.out.tr HFr.out).block k hlt (fun h => h))) kids a 0 HL.out
      obtain ⟨ad, a', cap', rfl, hok, c0, c1, c2, c3, c4, c5, hc', hl'⟩ := hmv.elem hki
      have HL' := Lib.hid hl'
      have HKC := Lib.hid (HS.out _ (List.mem_of_getElem? hki))
      have FK := Lib.hid (Fr.alloc (Fr.refl none_ wr) (.cells #[.int .i64 k', .int .u64 x0, .int .u64 x1, .int .u64 x2, .int .u64 x3, .slice a' kids'.length cap'] 28))
      have htake : kids.take (i + 1) = kids.take i ++ [.mk k' x0 x1 x2 x3 kids'] := by rw [List.take_add_one, hki]; rfl
      have HTK := Lib.hid (show strsV (kids.take (i + 1)) = strsV (kids.take i) ++ [.string (bstr (showL (.mk k' x0 x1 x2 x3 kids')))] by rw [htake, strsV_append]; rfl)
      obtain ⟨y0, y1, y2, y3, y4, y5⟩ := six (alloc_new wr (.cells #[.int .i64 k', .int .u64 x0, .int .u64 x1, .int .u64 x2, .int .u64 x3, .slice a' kids'.length cap'] 28))
      clear hki hmv hl' htake
      go_wp2_with fail
      refine (HKC.out _ _ ok (RxV.mk_ hc' (RxL.move (fun k _ hlt => FK.out.block k hlt (fun h => h)) _ _ _ HL'.out))).mono ?_
      rintro e w2 ⟨rfl, h4⟩
      have K4 := Lib.hid (FK.out.tr h4)
      have HO2 := Lib.hid (ownsRow_same HO.out (fun b hb => K4.out.block b (HO.out.lt b hb).2 (fun h => h)))
      have hs2 := K4.out.size
      generalize showL (.mk k' x0 x1 x2 x3 kids') = sh at *
      clear h4 z0 z1 z2 z3 z4 z5 c0 c1 c2 c3 c4 c5 y0 y1 y2 y3 y4 y5
      go_wp2_with (at_builtin; refine wpList_append_lies _ rfl (.tmp 15) (.tmp 18) 50 rfl (w.heap.size + 1) 9 i0 _ 1 16 Try.underlying50 hi hz0 hz1 hz2 rfl (by decide) _ i (strsV (kids.take i)) rfl (HO2.out.alloc _) ⟨w2.heap.size, 0, none⟩ 1 1 [.string (bstr sh)] rfl rfl (getElem_block (alloc_new _ _)) ?c1 (by decide) ?c2 ?c3 ?c4 (w2.heap.size + 1) (by simp) ?_)
      case c1 => simp [Value.oneCell']
      case c2 => unfold maxLen; omega
      case c3 => omega
      case c4 => first | omega | (simp; omega)
      intro g3 cap3 w3 hown3 hgrow3 hat3 hlt3
      have FN := Lib.hid (((HFr.out.tr K4.out).alloc (.cells #[.string (bstr sh)] 9)).grown hgrow3 (fun k hk => .inr (by have := (HO2.out.lt k hk).1; omega)))
      have HN3 := Lib.hid hown3
      clear hown3 hgrow3 hat3 hlt3
      go_wp2_with fail
      go_roundw
      case rel => exact ⟨i + 1, by omega, by go_num, by rw [HTK.out]; exact HN3.out, FN.out⟩
      case measure => simp [intOf]; omega
    · obtain rfl : i = kids.length := by omega
      have htk : kids.take kids.length = kids := List.take_length
      rw [htk] at HO
      have FW := Lib.hid (F0.out.tr HFr.out)
      clear htk hlt HS
      go_wp2_with fail
      go_ret
      exact ⟨by simp [showL, bstr], FW.out⟩

set_option maxRecDepth 100000 in
set_option maxHeartbeats 4000000 in
theorem show_other (k : Int) (h0 : k ≠ 0) (h1 : k ≠ 1) (h2 : k ≠ 2) (h3 : k ≠ 3) (h4 : k ≠ 4) (b0 b1 b2 b3 : Nat) (kids : List Rx) (hk : kids.length ≤ 1000) (hsz : Rx.sizes kids ≤ 1000) (hsub : ∀ r ∈ kids, ShowC r) : ShowC (.mk k b0 b1 b2 b3 kids) := by
  intro v w ok hrv
  obtain ⟨a, cap, rfl, hc, hl⟩ := hrv.open_
  obtain ⟨i0, hi, hz0, hz1, hz2⟩ := info_parts str_info
  have e0 : (k == 0) = false := by rw [beq_eq_false_iff_ne]; exact h0
  have e1 : (k == 1) = false := by rw [beq_eq_false_iff_ne]; exact h1
  have e2 : (k == 2) = false := by rw [beq_eq_false_iff_ne]; exact h2
  have e3 : (k == 3) = false := by rw [beq_eq_false_iff_ne]; exact h3
  have e4 : (k == 4) = false := by rw [beq_eq_false_iff_ne]; exact h4
  have HLA := Lib.hid (show showL (.mk k b0 b1 b2 b3 kids) = [91, 93] by simp [showL, h0, h1, h2, h3, h4])
  clear h0 h1 h2 h3 h4
  have F0 := Lib.hid ((Fr.refl none_ w).alloc (.cells #[.int .i64 k, .int .u64 b0, .int .u64 b1, .int .u64 b2, .int .u64 b3, .slice a kids.length cap] 28))
  have NX := Lib.hid (alloc_new w (.cells #[.int .i64 k, .int .u64 b0, .int .u64 b1, .int .u64 b2, .int .u64 b3, .slice a kids.length cap] 28))
  have HL := Lib.hid hl
  have HS := Lib.hid hsub
  have HSZ := Lib.hid hsz
  have h1w : (w.alloc (.cells #[.int .i64 k, .int .u64 b0, .int .u64 b1, .int .u64 b2, .int .u64 b3, .slice a kids.length cap] 28)).heap.size = w.heap.size + 1 := by simp
  clear hrv hl hsub hsz
  go_enter Try.func8, Try.ntmps8
  go_wp2_with fail
  generalize hw1 : w.alloc (.cells #[.int .i64 k, .int .u64 b0, .int .u64 b1, .int .u64 b2, .int .u64 b3, .slice a kids.length cap] 28) = w1
  rw [hw1] at F0 NX h1w
  clear hw1
  go_loopw [3, 11] (fun x3 x11 wr => ∃ i : Nat, i ≤ kids.length ∧ x11 = .int .i64 i ∧ Aside (wr.ownsRow (w.heap.size + 1) 9 1 x3 i (strsV (kids.take i))) ∧ Aside (Fr none_ w1 wr)) (fun _ x11 _ => kids.length - (intOf x11).toNat)
  case atStart => exact ⟨0, Nat.zero_le _, rfl, World.ownsRow_nil _ _ _ _, Fr.refl _ _⟩
  case round =>
    obtain ⟨i, hi', rfl, how, hfr⟩ := hrel
    have HO := Lib.hid how.out
    have HFr := Lib.hid hfr.out
    have NXr := Lib.hid (HFr.out.at_ NX.out (fun h => h))
    obtain ⟨z0, z1, z2, z3, z4, z5⟩ := six NXr.out
    have hwr := lt_of_block NXr.out
    clear how hfr
    by_cases hlt : i < kids.length
    · have hlt' : (i : Int) < (kids.length : Int) := by omega
      obtain ⟨⟨k', x0, x1, x2, x3, kids'⟩, hki⟩ : ∃ r, kids[i]? = some r := ⟨kids[i]'hlt, List.getElem?_eq_getElem hlt⟩
      have hmv : RxL ok wr a 0 kids := RxL.move (fun k _ hlt => ((F0.out.tr HFr.out).block k hlt (fun h => h))) kids a 0 HL.out
      obtain ⟨ad, a', cap', rfl, hok, c0, c1, c2, c3, c4, c5, hc', hl'⟩ := hmv.elem hki
      have HL' := Lib.hid hl'
      have HKC := Lib.hid (HS.out _ (List.mem_of_getElem? hki))
      have FK := Lib.hid (Fr.alloc (Fr.refl none_ wr) (.cells #[.int .i64 k', .int .u64 x0, .int .u64 x1, .int .u64 x2, .int .u64 x3, .slice a' kids'.length cap'] 28))
      have htake : kids.take (i + 1) = kids.take i ++ [.mk k' x0 x1 x2 x3 kids'] := by rw [List.take_add_one, hki]; rfl
      have HTK := Lib.hid (show strsV (kids.take (i + 1)) = strsV (kids.take i) ++ [.string (bstr (showL (.mk k' x0 x1 x2 x3 kids')))] by rw [htake, strsV_append]; rfl)
      obtain ⟨y0, y1, y2, y3, y4, y5⟩ := six (alloc_new wr (.cells #[.int .i64 k', .int .u64 x0, .int .u64 x1, .int .u64 x2, .int .u64 x3, .slice a' kids'.length cap'] 28))
      clear hki hmv hl' htake
      go_wp2_with fail
      refine (HKC.out _ _ ok (RxV.mk_ hc' (RxL.move (fun k _ hlt => FK.out.block k hlt (fun h => h)) _ _ _ HL'.out))).mono ?_
      rintro e w2 ⟨rfl, h4⟩
      have K4 := Lib.hid (FK.out.tr h4)
      have HO2 := Lib.hid (ownsRow_same HO.out (fun b hb => K4.out.block b (HO.out.lt b hb).2 (fun h => h)))
      have hs2 := K4.out.size
      generalize showL (.mk k' x0 x1 x2 x3 kids') = sh at *
      clear h4 z0 z1 z2 z3 z4 z5 c0 c1 c2 c3 c4 c5 y0 y1 y2 y3 y4 y5
      go_wp2_with (at_builtin; refine wpList_append_lies _ rfl (.tmp 15) (.tmp 18) 50 rfl (w.heap.size + 1) 9 i0 _ 1 16 Try.underlying50 hi hz0 hz1 hz2 rfl (by decide) _ i (strsV (kids.take i)) rfl (HO2.out.alloc _) ⟨w2.heap.size, 0, none⟩ 1 1 [.string (bstr sh)] rfl rfl (getElem_block (alloc_new _ _)) ?c1 (by decide) ?c2 ?c3 ?c4 (w2.heap.size + 1) (by simp) ?_)
      case c1 => simp [Value.oneCell']
      case c2 => unfold maxLen; omega
      case c3 => omega
      case c4 => first | omega | (simp; omega)
      intro g3 cap3 w3 hown3 hgrow3 hat3 hlt3
      have FN := Lib.hid (((HFr.out.tr K4.out).alloc (.cells #[.string (bstr sh)] 9)).grown hgrow3 (fun k hk => .inr (by have := (HO2.out.lt k hk).1; omega)))
      have HN3 := Lib.hid hown3
      clear hown3 hgrow3 hat3 hlt3
      go_wp2_with fail
      go_roundw
      case rel => exact ⟨i + 1, by omega, by go_num, by rw [HTK.out]; exact HN3.out, FN.out⟩
      case measure => simp [intOf]; omega
    · obtain rfl : i = kids.length := by omega
      have htk : kids.take kids.length = kids := List.take_length
      rw [htk] at HO
      have FW := Lib.hid (F0.out.tr HFr.out)
      clear htk hlt HS
      go_wp2_with fail
      go_ret
      exact ⟨by rw [HLA.out]; rfl, FW.out⟩

theorem bstr_size (l : List UInt8) : (bstr l).size = l.length := by simp [bstr, ByteArray.size]
theorem row_slice {w : World} {B n : Nat} {e : TypeId} {v : Value} {xs : List Value} (h : w.ownsRow B e 1 v n xs) : ∃ a cap, v = .slice a n cap ∧ n ≤ cap := by
  rcases h.2 with ⟨rfl, rfl⟩ | ⟨g, cap, cur, rfl, _, _, hc, _⟩
  · exact ⟨_, _, rfl, Nat.le_refl _⟩
  · exact ⟨_, _, rfl, hc⟩
theorem join_any (B : Nat) (v : Value) (kids : List Rx) (sep : List UInt8) (w : World) (h : w.ownsRow B 9 1 v kids.length (strsV kids)) (hk : kids.length ≤ 1000) (hsz : Rx.sizes kids ≤ 1000) (hs : sep.length ≤ 1) :
    Calls Try.prog 22 #[v, .string (bstr sep)] w fun e w' => e = .returned (.string (bstr (Lib.join (showLs kids) sep))) ∧ Fr none_ w w' := by
  have hlen := join_length (showLs kids) sep hs
  have hl2 := showLs_length kids
  rcases h.2 with ⟨rfl, h0⟩ | ⟨g, cap, cur, rfl, _, hg, hc, _⟩
  · have : kids = [] := List.length_eq_zero_iff.1 h0
    subst this
    refine (Try.strings_Join_none none 0 (bstr sep) w).mono ?_
    rintro e w' ⟨rfl, rfl⟩
    exact ⟨rfl, Fr.refl _ _⟩
  · have hln : ((showLs kids).map bstr).length = kids.length := by simp [showLs_eq]
    have hmm : ((showLs kids).map bstr).map (fun x : ByteArray => x.data.toList) = showLs kids := by
      rw [List.map_map]
      exact (List.map_congr_left (fun x _ => bstr_toList x)).trans (List.map_id _)
    have hj := Try.strings_Join g 0 cap ((showLs kids).map bstr) (bstr sep) w (fun j x hx => by
      have hj : j < kids.length := by rw [← hln]; exact (List.getElem?_eq_some_iff.1 hx).1
      rw [Nat.zero_add, h.cellAt j (by omega)]
      rw [List.getElem?_map] at hx
      rw [strsV, List.getElem?_map]
      cases hq : (showLs kids)[j]? with
      | none => rw [hq] at hx; simp at hx
      | some y => rw [hq] at hx; simp at hx; subst hx; rfl) (lt_of_block hg) (by omega) (by omega) (by rw [hmm, bstr_toList]; omega)
    rw [hln] at hj
    refine hj.mono ?_
    rintro e w' ⟨rfl, hb⟩
    exact ⟨by rw [hmm, bstr_toList]; rfl, Fr.of_below hb⟩

set_option maxRecDepth 100000 in
set_option maxHeartbeats 4000000 in
theorem show_4 (b0 b1 b2 b3 : Nat) (kids : List Rx) (hk : kids.length ≤ 1000) (hsz : Rx.sizes kids ≤ 1000) (hsub : ∀ r ∈ kids, ShowC r) : ShowC (.mk 4 b0 b1 b2 b3 kids) := by
  intro v w ok hrv
  obtain ⟨a, cap, rfl, hc, hl⟩ := hrv.open_
  obtain ⟨i0, hi, hz0, hz1, hz2⟩ := info_parts str_info
  have F0 := Lib.hid ((Fr.refl none_ w).alloc (.cells #[.int .i64 4, .int .u64 b0, .int .u64 b1, .int .u64 b2, .int .u64 b3, .slice a kids.length cap] 28))
  have NX := Lib.hid (alloc_new w (.cells #[.int .i64 4, .int .u64 b0, .int .u64 b1, .int .u64 b2, .int .u64 b3, .slice a kids.length cap] 28))
  have HL := Lib.hid hl
  have HS := Lib.hid hsub
  have HSZ := Lib.hid hsz
  have h1w : (w.alloc (.cells #[.int .i64 4, .int .u64 b0, .int .u64 b1, .int .u64 b2, .int .u64 b3, .slice a kids.length cap] 28)).heap.size = w.heap.size + 1 := by simp
  clear hrv hl hsub hsz
  go_enter Try.func8, Try.ntmps8
  go_wp2_with fail
  generalize hw1 : w.alloc (.cells #[.int .i64 4, .int .u64 b0, .int .u64 b1, .int .u64 b2, .int .u64 b3, .slice a kids.length cap] 28) = w1
  rw [hw1] at F0 NX h1w
  clear hw1
  go_loopw [3, 11] (fun x3 x11 wr => ∃ i : Nat, i ≤ kids.length ∧ x11 = .int .i64 i ∧ Aside (wr.ownsRow (w.heap.size + 1) 9 1 x3 i (strsV (kids.take i))) ∧ Aside (Fr none_ w1 wr)) (fun _ x11 _ => kids.length - (intOf x11).toNat)
  case atStart => exact ⟨0, Nat.zero_le _, rfl, World.ownsRow_nil _ _ _ _, Fr.refl _ _⟩
  case round =>
    obtain ⟨i, hi', rfl, how, hfr⟩ := hrel
    have HO := Lib.hid how.out
    have HFr := Lib.hid hfr.out
    have NXr := Lib.hid (HFr.out.at_ NX.out (fun h => h))
    obtain ⟨z0, z1, z2, z3, z4, z5⟩ := six NXr.out
    have hwr := lt_of_block NXr.out
    clear how hfr
    by_cases hlt : i < kids.length
    · have hlt' : (i : Int) < (kids.length : Int) := by omega
      obtain ⟨⟨k', x0, x1, x2, x3, kids'⟩, hki⟩ : ∃ r, kids[i]? = some r := ⟨kids[i]'hlt, List.getElem?_eq_getElem hlt⟩
      have hmv : RxL ok wr a 0 kids := RxL.move (fun k _ hlt => ((F0.out.tr HFr.out).block k hlt (fun h => h))) kids a 0 HL.out
      obtain ⟨ad, a', cap', rfl, hok, c0, c1, c2, c3, c4, c5, hc', hl'⟩ := hmv.elem hki
      have HL' := Lib.hid hl'
      have HKC := Lib.hid (HS.out _ (List.mem_of_getElem? hki))
      have FK := Lib.hid (Fr.alloc (Fr.refl none_ wr) (.cells #[.int .i64 k', .int .u64 x0, .int .u64 x1, .int .u64 x2, .int .u64 x3, .slice a' kids'.length cap'] 28))
      have htake : kids.take (i + 1) = kids.take i ++ [.mk k' x0 x1 x2 x3 kids'] := by rw [List.take_add_one, hki]; rfl
      have HTK := Lib.hid (show strsV (kids.take (i + 1)) = strsV (kids.take i) ++ [.string (bstr (showL (.mk k' x0 x1 x2 x3 kids')))] by rw [htake, strsV_append]; rfl)
      obtain ⟨y0, y1, y2, y3, y4, y5⟩ := six (alloc_new wr (.cells #[.int .i64 k', .int .u64 x0, .int .u64 x1, .int .u64 x2, .int .u64 x3, .slice a' kids'.length cap'] 28))
      clear hki hmv hl' htake
      go_wp2_with fail
      refine (HKC.out _ _ ok (RxV.mk_ hc' (RxL.move (fun k _ hlt => FK.out.block k hlt (fun h => h)) _ _ _ HL'.out))).mono ?_
      rintro e w2 ⟨rfl, h4⟩
      have K4 := Lib.hid (FK.out.tr h4)
      have HO2 := Lib.hid (ownsRow_same HO.out (fun b hb => K4.out.block b (HO.out.lt b hb).2 (fun h => h)))
      have hs2 := K4.out.size
      generalize showL (.mk k' x0 x1 x2 x3 kids') = sh at *
      clear h4 z0 z1 z2 z3 z4 z5 c0 c1 c2 c3 c4 c5 y0 y1 y2 y3 y4 y5
      go_wp2_with (at_builtin; refine wpList_append_lies _ rfl (.tmp 15) (.tmp 18) 50 rfl (w.heap.size + 1) 9 i0 _ 1 16 Try.underlying50 hi hz0 hz1 hz2 rfl (by decide) _ i (strsV (kids.take i)) rfl (HO2.out.alloc _) ⟨w2.heap.size, 0, none⟩ 1 1 [.string (bstr sh)] rfl rfl (getElem_block (alloc_new _ _)) ?c1 (by decide) ?c2 ?c3 ?c4 (w2.heap.size + 1) (by simp) ?_)
      case c1 => simp [Value.oneCell']
      case c2 => unfold maxLen; omega
      case c3 => omega
      case c4 => first | omega | (simp; omega)
      intro g3 cap3 w3 hown3 hgrow3 hat3 hlt3
      have FN := Lib.hid (((HFr.out.tr K4.out).alloc (.cells #[.string (bstr sh)] 9)).grown hgrow3 (fun k hk => .inr (by have := (HO2.out.lt k hk).1; omega)))
      have HN3 := Lib.hid hown3
      clear hown3 hgrow3 hat3 hlt3
      go_wp2_with fail
      go_roundw
      case rel => exact ⟨i + 1, by omega, by go_num, by rw [HTK.out]; exact HN3.out, FN.out⟩
      case measure => simp [intOf]; omega
    · obtain rfl : i = kids.length := by omega
      have htk : kids.take kids.length = kids := List.take_length
      rw [htk] at HO
      have FW := Lib.hid (F0.out.tr HFr.out)
      clear htk hlt HS
      obtain ⟨sa, sc, rfl, hsc⟩ := row_slice HO.out
      go_wp2_with (at_builtin; refine wpList_append_lies _ rfl (.tmp 48) (.tmp 49) 50 rfl (w.heap.size + 1) 9 i0 _ 1 16 Try.underlying50 hi hz0 hz1 hz2 rfl (by decide) _ kids.length (strsV kids) rfl (HO.out.alloc _) ⟨wr.heap.size, 0, none⟩ 1 1 [.string (bstr [40, 41])] rfl rfl (getElem_block (alloc_new _ _)) ?c1 (by decide) ?c2 ?c3 ?c4 (wr.heap.size + 1) (by simp) ?_)
      case c1 => simp [Value.oneCell']
      case c2 => unfold maxLen; omega
      case c3 => omega
      case c4 => first | omega | (simp; omega)
      intro g3 cap3 w3 hown3 hgrow3 hat3 hlt3
      have FN := Lib.hid ((FW.out.alloc (.cells #[.string (bstr [40, 41])] 9)).grown hgrow3 (fun k hk => .inr (by have := (HO.out.lt k hk).1; omega)))
      have d0 : w3.cell? ⟨g3, 0, none⟩ = some (.string (bstr ((showLs kids).headD [40, 41]))) := by
        rw [hown3.cellAt 0 (by omega), strsV]
        cases showLs kids <;> rfl
      clear hown3 hgrow3 hat3 hlt3
      have hq : (bstr ((showLs kids).headD [40, 41])).size ≤ 1100000 := by
        have h2 := showLs_length kids
        have h3 := HSZ.out
        rw [bstr_size]
        cases hq : showLs kids with
        | nil => simp
        | cons x xs => rw [hq] at h2; simp at h2 ⊢; omega
      generalize hhd : (showLs kids).headD [40, 41] = hd at *
      have q1 : (bstr hd).size + 1 ≤ 9223372036854775807 := by omega
      have q2 : (bstr hd).size + (ByteArray.mk #[42]).size ≤ 9223372036854775807 := q1
      have HD := Lib.hid hhd
      clear hhd
      go_wp2_with fail
      go_ret
      exact ⟨congrArg (fun x => Ending.returned (.string x)) ((bstr_append hd [42]).trans (by simp [showL, ← HD.out])), FN.out⟩

set_option maxRecDepth 100000 in
set_option maxHeartbeats 4000000 in
theorem show_2 (b0 b1 b2 b3 : Nat) (kids : List Rx) (hk : kids.length ≤ 1000) (hsz : Rx.sizes kids ≤ 1000) (hsub : ∀ r ∈ kids, ShowC r) : ShowC (.mk 2 b0 b1 b2 b3 kids) := by
  intro v w ok hrv
  obtain ⟨a, cap, rfl, hc, hl⟩ := hrv.open_
  obtain ⟨i0, hi, hz0, hz1, hz2⟩ := info_parts str_info
  have F0 := Lib.hid ((Fr.refl none_ w).alloc (.cells #[.int .i64 2, .int .u64 b0, .int .u64 b1, .int .u64 b2, .int .u64 b3, .slice a kids.length cap] 28))
  have NX := Lib.hid (alloc_new w (.cells #[.int .i64 2, .int .u64 b0, .int .u64 b1, .int .u64 b2, .int .u64 b3, .slice a kids.length cap] 28))
  have HL := Lib.hid hl
  have HS := Lib.hid hsub
  have HSZ := Lib.hid hsz
  have h1w : (w.alloc (.cells #[.int .i64 2, .int .u64 b0, .int .u64 b1, .int .u64 b2, .int .u64 b3, .slice a kids.length cap] 28)).heap.size = w.heap.size + 1 := by simp
  clear hrv hl hsub hsz
  go_enter Try.func8, Try.ntmps8
  go_wp2_with fail
  generalize hw1 : w.alloc (.cells #[.int .i64 2, .int .u64 b0, .int .u64 b1, .int .u64 b2, .int .u64 b3, .slice a kids.length cap] 28) = w1
  rw [hw1] at F0 NX h1w
  clear hw1
  go_loopw [3, 11] (fun x3 x11 wr => ∃ i : Nat, i ≤ kids.length ∧ x11 = .int .i64 i ∧ Aside (wr.ownsRow (w.heap.size + 1) 9 1 x3 i (strsV (kids.take i))) ∧ Aside (Fr none_ w1 wr)) (fun _ x11 _ => kids.length - (intOf x11).toNat)
  case atStart => exact ⟨0, Nat.zero_le _, rfl, World.ownsRow_nil _ _ _ _, Fr.refl _ _⟩
  case round =>
    obtain ⟨i, hi', rfl, how, hfr⟩ := hrel
    have HO := Lib.hid how.out
    have HFr := Lib.hid hfr.out
    have NXr := Lib.hid (HFr.out.at_ NX.out (fun h => h))
    obtain ⟨z0, z1, z2, z3, z4, z5⟩ := six NXr.out
    have hwr := lt_of_block NXr.out
    clear how hfr
    by_cases hlt : i < kids.length
    · have hlt' : (i : Int) < (kids.length : Int) := by omega
      obtain ⟨⟨k', x0, x1, x2, x3, kids'⟩, hki⟩ : ∃ r, kids[i]? = some r := ⟨kids[i]'hlt, List.getElem?_eq_getElem hlt⟩
      have hmv : RxL ok wr a 0 kids := RxL.move (fun k _ hlt => ((F0.out.tr HFr.out).block k hlt (fun h => h))) kids a 0 HL.out
      obtain ⟨ad, a', cap', rfl, hok, c0, c1, c2, c3, c4, c5, hc', hl'⟩ := hmv.elem hki
      have HL' := Lib.hid hl'
      have HKC := Lib.hid (HS.out _ (List.mem_of_getElem? hki))
      have FK := Lib.hid (Fr.alloc (Fr.refl none_ wr) (.cells #[.int .i64 k', .int .u64 x0, .int .u64 x1, .int .u64 x2, .int .u64 x3, .slice a' kids'.length cap'] 28))
      have htake : kids.take (i + 1) = kids.take i ++ [.mk k' x0 x1 x2 x3 kids'] := by rw [List.take_add_one, hki]; rfl
      have HTK := Lib.hid (show strsV (kids.take (i + 1)) = strsV (kids.take i) ++ [.string (bstr (showL (.mk k' x0 x1 x2 x3 kids')))] by rw [htake, strsV_append]; rfl)
      obtain ⟨y0, y1, y2, y3, y4, y5⟩ := six (alloc_new wr (.cells #[.int .i64 k', .int .u64 x0, .int .u64 x1, .int .u64 x2, .int .u64 x3, .slice a' kids'.length cap'] 28))
      clear hki hmv hl' htake
      go_wp2_with fail
      refine (HKC.out _ _ ok (RxV.mk_ hc' (RxL.move (fun k _ hlt => FK.out.block k hlt (fun h => h)) _ _ _ HL'.out))).mono ?_
      rintro e w2 ⟨rfl, h4⟩
      have K4 := Lib.hid (FK.out.tr h4)
      have HO2 := Lib.hid (ownsRow_same HO.out (fun b hb => K4.out.block b (HO.out.lt b hb).2 (fun h => h)))
      have hs2 := K4.out.size
      generalize showL (.mk k' x0 x1 x2 x3 kids') = sh at *
      clear h4 z0 z1 z2 z3 z4 z5 c0 c1 c2 c3 c4 c5 y0 y1 y2 y3 y4 y5
      go_wp2_with (at_builtin; refine wpList_append_lies _ rfl (.tmp 15) (.tmp 18) 50 rfl (w.heap.size + 1) 9 i0 _ 1 16 Try.underlying50 hi hz0 hz1 hz2 rfl (by decide) _ i (strsV (kids.take i)) rfl (HO2.out.alloc _) ⟨w2.heap.size, 0, none⟩ 1 1 [.string (bstr sh)] rfl rfl (getElem_block (alloc_new _ _)) ?c1 (by decide) ?c2 ?c3 ?c4 (w2.heap.size + 1) (by simp) ?_)
      case c1 => simp [Value.oneCell']
      case c2 => unfold maxLen; omega
      case c3 => omega
      case c4 => first | omega | (simp; omega)
      intro g3 cap3 w3 hown3 hgrow3 hat3 hlt3
      have FN := Lib.hid (((HFr.out.tr K4.out).alloc (.cells #[.string (bstr sh)] 9)).grown hgrow3 (fun k hk => .inr (by have := (HO2.out.lt k hk).1; omega)))
      have HN3 := Lib.hid hown3
      clear hown3 hgrow3 hat3 hlt3
      go_wp2_with fail
      go_roundw
      case rel => exact ⟨i + 1, by omega, by go_num, by rw [HTK.out]; exact HN3.out, FN.out⟩
      case measure => simp [intOf]; omega
    · obtain rfl : i = kids.length := by omega
      have htk : kids.take kids.length = kids := List.take_length
      rw [htk] at HO
      have FW := Lib.hid (F0.out.tr HFr.out)
      clear htk hlt HS
      obtain ⟨sa, sc, rfl, hsc⟩ := row_slice HO.out
      have hJ : Calls Try.prog 22 #[.slice sa kids.length sc, .string (bstr [])] wr fun e w' => e = .returned (.string (bstr (Lib.join (showLs kids) []))) ∧ Fr none_ wr w' := join_any _ _ kids [] wr HO.out hk HSZ.out (by simp)
      have HJ := Lib.hid hJ
      clear hJ
      go_wp2_with fail
      refine HJ.out.mono ?_
      rintro e w2 ⟨rfl, h2⟩
      have K2 := Lib.hid (FW.out.tr h2)
      clear h2 HJ
      have hq : (bstr (Lib.join (showLs kids) [])).size ≤ 1100000 := by
        have h1 := join_length (showLs kids) [] (by simp)
        have h2 := showLs_length kids
        have h3 := HSZ.out
        rw [bstr_size]
        omega
      generalize hjn : Lib.join (showLs kids) [] = jn at *
      have q1 : 1 + (bstr jn).size ≤ 9223372036854775807 := by omega
      have q2 : (ByteArray.mk #[40]).size + (bstr jn).size ≤ 9223372036854775807 := q1
      have q3 : 1 + (bstr jn).size + 1 ≤ 9223372036854775807 := by omega
      have q4 : (ByteArray.mk #[40] ++ bstr jn).size + (ByteArray.mk #[41]).size ≤ 9223372036854775807 := by rw [ByteArray.size_append]; exact q3
      have HJN := Lib.hid hjn
      clear hjn
      go_wp2_with fail
      go_ret
      exact ⟨congrArg (fun x => Ending.returned (.string x)) (((congrArg (· ++ bstr [41]) (bstr_append [40] jn)).trans (bstr_append ([40] ++ jn) [41])).trans (by simp [showL, ← HJN.out])), K2.out⟩

set_option maxRecDepth 100000 in
set_option maxHeartbeats 4000000 in
theorem show_3 (b0 b1 b2 b3 : Nat) (kids : List Rx) (hk : kids.length ≤ 1000) (hsz : Rx.sizes kids ≤ 1000) (hsub : ∀ r ∈ kids, ShowC r) : ShowC (.mk 3 b0 b1 b2 b3 kids) := by
  intro v w ok hrv
  obtain ⟨a, cap, rfl, hc, hl⟩ := hrv.open_
  obtain ⟨i0, hi, hz0, hz1, hz2⟩ := info_parts str_info
  have F0 := Lib.hid ((Fr.refl none_ w).alloc (.cells #[.int .i64 3, .int .u64 b0, .int .u64 b1, .int .u64 b2, .int .u64 b3, .slice a kids.length cap] 28))
  have NX := Lib.hid (alloc_new w (.cells #[.int .i64 3, .int .u64 b0, .int .u64 b1, .int .u64 b2, .int .u64 b3, .slice a kids.length cap] 28))
  have HL := Lib.hid hl
  have HS := Lib.hid hsub
  have HSZ := Lib.hid hsz
  have h1w : (w.alloc (.cells #[.int .i64 3, .int .u64 b0, .int .u64 b1, .int .u64 b2, .int .u64 b3, .slice a kids.length cap] 28)).heap.size = w.heap.size + 1 := by simp
  clear hrv hl hsub hsz
  go_enter Try.func8, Try.ntmps8
  go_wp2_with fail
  generalize hw1 : w.alloc (.cells #[.int .i64 3, .int .u64 b0, .int .u64 b1, .int .u64 b2, .int .u64 b3, .slice a kids.length cap] 28) = w1
  rw [hw1] at F0 NX h1w
  clear hw1
  go_loopw [3, 11] (fun x3 x11 wr => ∃ i : Nat, i ≤ kids.length ∧ x11 = .int .i64 i ∧ Aside (wr.ownsRow (w.heap.size + 1) 9 1 x3 i (strsV (kids.take i))) ∧ Aside (Fr none_ w1 wr)) (fun _ x11 _ => kids.length - (intOf x11).toNat)
  case atStart => exact ⟨0, Nat.zero_le _, rfl, World.ownsRow_nil _ _ _ _, Fr.refl _ _⟩
  case round =>
    obtain ⟨i, hi', rfl, how, hfr⟩ := hrel
    have HO := Lib.hid how.out
    have HFr := Lib.hid hfr.out
    have NXr := Lib.hid (HFr.out.at_ NX.out (fun h => h))
    obtain ⟨z0, z1, z2, z3, z4, z5⟩ := six NXr.out
    have hwr := lt_of_block NXr.out
    clear how hfr
    by_cases hlt : i < kids.length
    · have hlt' : (i : Int) < (kids.length : Int) := by omega
      obtain ⟨⟨k', x0, x1, x2, x3, kids'⟩, hki⟩ : ∃ r, kids[i]? = some r := ⟨kids[i]'hlt, List.getElem?_eq_getElem hlt⟩
      have hmv : RxL ok wr a 0 kids := RxL.move (fun k _ hlt => ((F0.out.tr HFr.out).block k hlt (fun h => h))) kids a 0 HL.out
      obtain ⟨ad, a', cap', rfl, hok, c0, c1, c2, c3, c4, c5, hc', hl'⟩ := hmv.elem hki
      have HL' := Lib.hid hl'
      have HKC := Lib.hid (HS.out _ (List.mem_of_getElem? hki))
      have FK := Lib.hid (Fr.alloc (Fr.refl none_ wr) (.cells #[.int .i64 k', .int .u64 x0, .int .u64 x1, .int .u64 x2, .int .u64 x3, .slice a' kids'.length cap'] 28))
      have htake : kids.take (i + 1) = kids.take i ++ [.mk k' x0 x1 x2 x3 kids'] := by rw [List.take_add_one, hki]; rfl
      have HTK := Lib.hid (show strsV (kids.take (i + 1)) = strsV (kids.take i) ++ [.string (bstr (showL (.mk k' x0 x1 x2 x3 kids')))] by rw [htake, strsV_append]; rfl)
      obtain ⟨y0, y1, y2, y3, y4, y5⟩ := six (alloc_new wr (.cells #[.int .i64 k', .int .u64 x0, .int .u64 x1, .int .u64 x2, .int .u64 x3, .slice a' kids'.length cap'] 28))
      clear hki hmv hl' htake
      go_wp2_with fail
      refine (HKC.out _ _ ok (RxV.mk_ hc' (RxL.move (fun k _ hlt => FK.out.block k hlt (fun h => h)) _ _ _ HL'.out))).mono ?_
      rintro e w2 ⟨rfl, h4⟩
      have K4 := Lib.hid (FK.out.tr h4)
      have HO2 := Lib.hid (ownsRow_same HO.out (fun b hb => K4.out.block b (HO.out.lt b hb).2 (fun h => h)))
      have hs2 := K4.out.size
      generalize showL (.mk k' x0 x1 x2 x3 kids') = sh at *
      clear h4 z0 z1 z2 z3 z4 z5 c0 c1 c2 c3 c4 c5 y0 y1 y2 y3 y4 y5
      go_wp2_with (at_builtin; refine wpList_append_lies _ rfl (.tmp 15) (.tmp 18) 50 rfl (w.heap.size + 1) 9 i0 _ 1 16 Try.underlying50 hi hz0 hz1 hz2 rfl (by decide) _ i (strsV (kids.take i)) rfl (HO2.out.alloc _) ⟨w2.heap.size, 0, none⟩ 1 1 [.string (bstr sh)] rfl rfl (getElem_block (alloc_new _ _)) ?c1 (by decide) ?c2 ?c3 ?c4 (w2.heap.size + 1) (by simp) ?_)
      case c1 => simp [Value.oneCell']
      case c2 => unfold maxLen; omega
      case c3 => omega
      case c4 => first | omega | (simp; omega)
      intro g3 cap3 w3 hown3 hgrow3 hat3 hlt3
      have FN := Lib.hid (((HFr.out.tr K4.out).alloc (.cells #[.string (bstr sh)] 9)).grown hgrow3 (fun k hk => .inr (by have := (HO2.out.lt k hk).1; omega)))
      have HN3 := Lib.hid hown3
      clear hown3 hgrow3 hat3 hlt3
      go_wp2_with fail
      go_roundw
      case rel => exact ⟨i + 1, by omega, by go_num, by rw [HTK.out]; exact HN3.out, FN.out⟩
      case measure => simp [intOf]; omega
    · obtain rfl : i = kids.length := by omega
      have htk : kids.take kids.length = kids := List.take_length
      rw [htk] at HO
      have FW := Lib.hid (F0.out.tr HFr.out)
      clear htk hlt HS
      obtain ⟨sa, sc, rfl, hsc⟩ := row_slice HO.out
      by_cases hne : kids = []
      · have h0 : kids.length = 0 := by rw [hne]; rfl
        have HE := Lib.hid hne
        clear hne
        have hp : decide ((0 : Int) < (kids.length : Int)) = false := by rw [decide_eq_false_iff_not]; omega
        go_wp2_with fail
        go_ret
        exact ⟨by rw [HE.out]; simp [showL, bstr], FW.out⟩
      · have h0 : 0 < kids.length := List.length_pos_iff.2 hne
        have HE := Lib.hid hne
        clear hne
        have hJ : Calls Try.prog 22 #[.slice sa kids.length sc, .string (bstr [124])] wr fun e w' => e = .returned (.string (bstr (Lib.join (showLs kids) [124]))) ∧ Fr none_ wr w' := join_any _ _ kids [124] wr HO.out hk HSZ.out (by simp)
        have HJ := Lib.hid hJ
        clear hJ
        go_wp2_with fail
        refine HJ.out.mono ?_
        rintro e w2 ⟨rfl, h2⟩
        have K2 := Lib.hid (FW.out.tr h2)
        clear h2 HJ
        have hq : (bstr (Lib.join (showLs kids) [124])).size ≤ 1100000 := by
          have h1 := join_length (showLs kids) [124] (by simp)
          have h2 := showLs_length kids
          have h3 := HSZ.out
          rw [bstr_size]
          omega
        generalize hjn : Lib.join (showLs kids) [124] = jn at *
        have q1 : 1 + (bstr jn).size ≤ 9223372036854775807 := by omega
        have q2 : (ByteArray.mk #[40]).size + (bstr jn).size ≤ 9223372036854775807 := q1
        have q3 : 1 + (bstr jn).size + 1 ≤ 9223372036854775807 := by omega
        have q4 : (ByteArray.mk #[40] ++ bstr jn).size + (ByteArray.mk #[41]).size ≤ 9223372036854775807 := by rw [ByteArray.size_append]; exact q3
        have HJN := Lib.hid hjn
        clear hjn
        go_wp2_with fail
        go_ret
        exact ⟨congrArg (fun x => Ending.returned (.string x)) (((congrArg (· ++ bstr [41]) (bstr_append [40] jn)).trans (bstr_append ([40] ++ jn) [41])).trans (by simp [showL, ← HJN.out, HE.out])), K2.out⟩

theorem builder_move {B b : Nat} {bs : List Value} {w w' : World} (h : Lib.IsBuilder 54 5 B b bs w) (hf : Fr none_ w w') : Lib.IsBuilder 54 5 B b bs w' := by
  have g : ∀ p, Lib.BuilderAt 54 5 B b p bs w → Lib.BuilderAt 54 5 B b p bs w' := by
    rintro p ⟨hB, v, hb, how, hne⟩
    exact ⟨hB, v, hf.at_ hb (fun h => h), ownsRow_same how (fun k hk => hf.block k (how.lt k hk).2 (fun h => h)), hne⟩
  rcases h with h | h
  · exact .inl (g _ h)
  · exact .inr (g _ h)
theorem builder_lt {B b : Nat} {bs : List Value} {w : World} (h : Lib.IsBuilder 54 5 B b bs w) : b < w.heap.size := by
  rcases h with h | h
  · exact h.lt
  · exact h.lt
theorem Fr.below_tr {w w1 w2 : World} {B : Nat} (h : Fr none_ w w1) (hb : w.heap.size ≤ B) (k : Below B w1 w2) : Fr none_ w w2 :=
  ⟨k.os.trans h.os, k.tape.trans h.tape, k.output.trans h.output, Nat.le_trans h.size k.size, fun j hj hn => (k.block j (by omega)).trans (h.block j hj hn)⟩
theorem wrap8 (j : Nat) (h : j < 256) : IntKind.u8.wrap (j : Int) = (j : Int) := by
  have e : IntKind.u8.wrap (j : Int) = (j : Int) % 256 := by first | rfl | (simp [IntKind.wrap, IntKind.bits, IntKind.signed]; done)
  rw [e]; omega
theorem and15 (b : Nat) (h : b < 256) : bits BinOp.and IntKind.i64 (b : Int) 15 = ((b % 16 : Nat) : Int) := by
  have : ∀ b : Fin 256, bits BinOp.and IntKind.i64 (b.val : Int) 15 = ((b.val % 16 : Nat) : Int) := by decide +kernel
  exact this ⟨b, h⟩
theorem write_cells (B b g : Nat) (bs : List Value) (cs : Array Value) (w : World) (h : Lib.IsBuilder 54 5 B b bs w) (hg : w.heap[g]? = some (.cells cs 5 (0, 0))) (hgb : g ≠ b)
    (hn : cs.toList.length = 4) (h1 : ∀ u ∈ cs.toList, u.oneCell' = true) (hlen : bs.length ≤ 100000) (hBw : B ≤ w.heap.size) :
    Calls Try.prog 20 #[.pointer (some ⟨b, 0, none⟩), .slice (some ⟨g, 0, none⟩) 4 4] w fun e w' => e = .returned (.tuple #[.int .i64 4, .nilIface]) ∧ Lib.BuilderAt 54 5 B b (.pointer (some ⟨b, 0, none⟩)) (bs ++ cs.toList) w' ∧ Below B w w' :=
  write_any B b g bs cs.toList w h (by simpa using hg) hgb hn h1 hlen hBw
theorem Fr.below_tr' {w w1 w2 : World} {B : Nat} {o : Obj} (h : Fr none_ w w1) (hb : w.heap.size ≤ B) (k : Below B (w1.alloc o).drew w2) : Fr none_ w w2 :=
  Fr.below_tr ((h.alloc o).drew) hb k
theorem size_le_drew (w : World) (o : Obj) (B : Nat) (h : B ≤ w.heap.size) : B ≤ (w.alloc o).drew.heap.size := by
  show B ≤ (w.alloc o).heap.size
  simp; omega
def hexS : ByteArray := ⟨#[48, 49, 50, 51, 52, 53, 54, 55, 56, 57, 97, 98, 99, 100, 101, 102]⟩
theorem hex_at (n : Nat) (h : n < 16) : ∃ hh : n < hexS.size, hexS[n].toNat = (hexB n).toNat := by
  have hh : n < hexS.size := h
  refine ⟨hh, ?_⟩
  have : n = 0 ∨ n = 1 ∨ n = 2 ∨ n = 3 ∨ n = 4 ∨ n = 5 ∨ n = 6 ∨ n = 7 ∨ n = 8 ∨ n = 9 ∨ n = 10 ∨ n = 11 ∨ n = 12 ∨ n = 13 ∨ n = 14 ∨ n = 15 := by omega
  rcases this with h | h | h | h | h | h | h | h | h | h | h | h | h | h | h | h <;> subst h <;> rfl
theorem builder_hex {B b : Nat} {cl : List UInt8} {p q : Nat} {w : World} (hp : p < hexS.size) (hq : q < hexS.size)
    (h : Lib.BuilderAt 54 5 B b (.pointer (some ⟨b, 0, none⟩)) (Lib.byteCells cl ++ [.int .u8 92, .int .u8 120, .int .u8 ((hexS[p]'hp).toNat : Nat), .int .u8 ((hexS[q]'hq).toNat : Nat)]) w) :
    Lib.IsBuilder 54 5 B b (Lib.byteCells (cl ++ [92, 120, hexB p, hexB q])) w := by
  obtain ⟨_, e1⟩ := hex_at p hp
  obtain ⟨_, e2⟩ := hex_at q hq
  rw [e1, e2] at h
  refine .inr ?_
  have e : Lib.byteCells (cl ++ [92, 120, hexB p, hexB q]) = Lib.byteCells cl ++ [.int .u8 92, .int .u8 120, .int .u8 ((hexB p).toNat : Nat), .int .u8 ((hexB q).toNat : Nat)] := by simp [Lib.byteCells]
  rw [e]
  exact h

set_option maxRecDepth 100000 in
set_option maxHeartbeats 4000000 in
theorem show_1 (b0 b1 b2 b3 : Nat) (kids : List Rx) (hk : kids.length ≤ 1000) (hsz : Rx.sizes kids ≤ 1000) (hsub : ∀ r ∈ kids, ShowC r) : ShowC (.mk 1 b0 b1 b2 b3 kids) := by
  intro v w ok hrv
  obtain ⟨a, cap, rfl, hc, hl⟩ := hrv.open_
  obtain ⟨i0, hi, hz0, hz1, hz2⟩ := info_parts str_info
  have F0 := Lib.hid ((Fr.refl none_ w).alloc (.cells #[.int .i64 1, .int .u64 b0, .int .u64 b1, .int .u64 b2, .int .u64 b3, .slice a kids.length cap] 28))
  have NX := Lib.hid (alloc_new w (.cells #[.int .i64 1, .int .u64 b0, .int .u64 b1, .int .u64 b2, .int .u64 b3, .slice a kids.length cap] 28))
  have HL := Lib.hid hl
  have HS := Lib.hid hsub
  have HSZ := Lib.hid hsz
  have h1w : (w.alloc (.cells #[.int .i64 1, .int .u64 b0, .int .u64 b1, .int .u64 b2, .int .u64 b3, .slice a kids.length cap] 28)).heap.size = w.heap.size + 1 := by simp
  clear hrv hl hsub hsz
  go_enter Try.func8, Try.ntmps8
  go_wp2_with fail
  generalize hw1 : w.alloc (.cells #[.int .i64 1, .int .u64 b0, .int .u64 b1, .int .u64 b2, .int .u64 b3, .slice a kids.length cap] 28) = w1
  rw [hw1] at F0 NX h1w
  clear hw1
  go_loopw [3, 11] (fun x3 x11 wr => ∃ i : Nat, i ≤ kids.length ∧ x11 = .int .i64 i ∧ Aside (wr.ownsRow (w.heap.size + 1) 9 1 x3 i (strsV (kids.take i))) ∧ Aside (Fr none_ w1 wr)) (fun _ x11 _ => kids.length - (intOf x11).toNat)
  case atStart => exact ⟨0, Nat.zero_le _, rfl, World.ownsRow_nil _ _ _ _, Fr.refl _ _⟩
  case round =>
    obtain ⟨i, hi', rfl, how, hfr⟩ := hrel
    have HO := Lib.hid how.out
    have HFr := Lib.hid hfr.out
    have NXr := Lib.hid (HFr.out.at_ NX.out (fun h => h))
    obtain ⟨z0, z1, z2, z3, z4, z5⟩ := six NXr.out
    have hwr := lt_of_block NXr.out
    clear how hfr
    by_cases hlt : i < kids.length
    · have hlt' : (i : Int) < (kids.length : Int) := by omega
      obtain ⟨⟨k', x0, x1, x2, x3, kids'⟩, hki⟩ : ∃ r, kids[i]? = some r := ⟨kids[i]'hlt, List.getElem?_eq_getElem hlt⟩
      have hmv : RxL ok wr a 0 kids := RxL.move (fun k _ hlt => ((F0.out.tr HFr.out).block k hlt (fun h => h))) kids a 0 HL.out
      obtain ⟨ad, a', cap', rfl, hok, c0, c1, c2, c3, c4, c5, hc', hl'⟩ := hmv.elem hki
      have HL' := Lib.hid hl'
      have HKC := Lib.hid (HS.out _ (List.mem_of_getElem? hki))
      have FK := Lib.hid (Fr.alloc (Fr.refl none_ wr) (.cells #[.int .i64 k', .int .u64 x0, .int .u64 x1, .int .u64 x2, .int .u64 x3, .slice a' kids'.length cap'] 28))
      have htake : kids.take (i + 1) = kids.take i ++ [.mk k' x0 x1 x2 x3 kids'] := by rw [List.take_add_one, hki]; rfl
      have HTK := Lib.hid (show strsV (kids.take (i + 1)) = strsV (kids.take i) ++ [.string (bstr (showL (.mk k' x0 x1 x2 x3 kids')))] by rw [htake, strsV_append]; rfl)
      obtain ⟨y0, y1, y2, y3, y4, y5⟩ := six (alloc_new wr (.cells #[.int .i64 k', .int .u64 x0, .int .u64 x1, .int .u64 x2, .int .u64 x3, .slice a' kids'.length cap'] 28))
      clear hki hmv hl' htake
      go_wp2_with fail
      refine (HKC.out _ _ ok (RxV.mk_ hc' (RxL.move (fun k _ hlt => FK.out.block k hlt (fun h => h)) _ _ _ HL'.out))).mono ?_
      rintro e w2 ⟨rfl, h4⟩
      have K4 := Lib.hid (FK.out.tr h4)
      have HO2 := Lib.hid (ownsRow_same HO.out (fun b hb => K4.out.block b (HO.out.lt b hb).2 (fun h => h)))
      have hs2 := K4.out.size
      generalize showL (.mk k' x0 x1 x2 x3 kids') = sh at *
      clear h4 z0 z1 z2 z3 z4 z5 c0 c1 c2 c3 c4 c5 y0 y1 y2 y3 y4 y5
      go_wp2_with (at_builtin; refine wpList_append_lies _ rfl (.tmp 15) (.tmp 18) 50 rfl (w.heap.size + 1) 9 i0 _ 1 16 Try.underlying50 hi hz0 hz1 hz2 rfl (by decide) _ i (strsV (kids.take i)) rfl (HO2.out.alloc _) ⟨w2.heap.size, 0, none⟩ 1 1 [.string (bstr sh)] rfl rfl (getElem_block (alloc_new _ _)) ?c1 (by decide) ?c2 ?c3 ?c4 (w2.heap.size + 1) (by simp) ?_)
      case c1 => simp [Value.oneCell']
      case c2 => unfold maxLen; omega
      case c3 => omega
      case c4 => first | omega | (simp; omega)
      intro g3 cap3 w3 hown3 hgrow3 hat3 hlt3
      have FN := Lib.hid (((HFr.out.tr K4.out).alloc (.cells #[.string (bstr sh)] 9)).grown hgrow3 (fun k hk => .inr (by have := (HO2.out.lt k hk).1; omega)))
      have HN3 := Lib.hid hown3
      clear hown3 hgrow3 hat3 hlt3
      go_wp2_with fail
      go_roundw
      case rel => exact ⟨i + 1, by omega, by go_num, by rw [HTK.out]; exact HN3.out, FN.out⟩
      case measure => simp [intOf]; omega
    · obtain rfl : i = kids.length := by omega
      have htk : kids.take kids.length = kids := List.take_length
      rw [htk] at HO
      have FW := Lib.hid (F0.out.tr HFr.out)
      clear htk hlt HS
      clear hi hz0 hz1 hz2
      obtain ⟨wb, hwb⟩ : ∃ x, x = wr := ⟨_, rfl⟩
      subst hwb
      have hall : (wb.alloc (.cells #[.pointer none, .slice none 0 0] 54)).heap[wb.heap.size]? = some (.cells #[.pointer none, .slice none 0 0] 54 (0, 0)) := alloc_new wb _
      have HB0 := Lib.hid (show Lib.IsBuilder 54 5 wb.heap.size wb.heap.size (Lib.byteCells (classS (.mk 1 b0 b1 b2 b3 []) 0)) (wb.alloc (.cells #[.pointer none, .slice none 0 0] 54)) from .inl ⟨Nat.le_refl _, .slice none 0 0, hall, World.ownsRow_nil _ _ _ _, by simp [Value.ownBlock]⟩)
      clear hall
      have FB0 := Lib.hid ((Fr.refl none_ wb).alloc (.cells #[.pointer none, .slice none 0 0] 54))
      go_wp2_with fail
      clear z0 z1 z2 z3 z4 z5
      go_loopw [27] (fun x27 wr => ∃ j : Nat, j ≤ 256 ∧ x27 = .int .i64 j ∧ Aside (Lib.IsBuilder 54 5 wb.heap.size wb.heap.size (Lib.byteCells (classS (.mk 1 b0 b1 b2 b3 []) j)) wr) ∧ Aside (Fr none_ wb wr)) (fun x27 _ => 256 - (intOf x27).toNat)
      case atStart => exact ⟨0, by omega, rfl, HB0.out, FB0.out⟩
      case round =>
        obtain ⟨j, hj, rfl, hb, hfq⟩ := hrel
        have HB := Lib.hid hb.out
        have HFq := Lib.hid hfq.out
        have hwq := HFq.out.size
        obtain ⟨z0, z1, z2, z3, z4, z5⟩ := six (HFq.out.at_ NXr.out (fun h => h))
        clear hb hfq
        by_cases hj2 : j < 256
        · have hj3 : (j : Int) < 256 := by omega
          have hw8 : IntKind.u8.wrap (j : Int) = (j : Int) := wrap8 j hj2
          have HAS := Lib.hid (rhas_any (.mk 1 b0 b1 b2 b3 kids) j _ ok wr (RxV.mk_ hc (RxL.move (fun k _ hlt => ((FW.out.tr HFq.out).block k hlt (fun h => h))) _ _ _ HL.out)) hj2)
          go_wp2_with fail
          refine HAS.out.mono ?_
          rintro e w2 ⟨rfl, h2⟩
          have K2 := Lib.hid (HFq.out.tr h2)
          have HB2 := Lib.hid (builder_move HB.out h2)
          have HB2s := Lib.hid (builder_lt HB2.out)
          clear h2 z0 z1 z2 z3 z4 z5
          cases hh : (Rx.mk 1 b0 b1 b2 b3 kids).has j
          · have HSU := Lib.hid (show classS (.mk 1 b0 b1 b2 b3 []) (j + 1) = classS (.mk 1 b0 b1 b2 b3 []) j by rw [classS_succ, has_kids 1 b0 b1 b2 b3 [] kids j, hh]; simp)
            clear hh
            go_wp2_with fail
            go_roundw
            case rel => exact ⟨j + 1, by omega, by go_num, by rw [HSU.out]; exact HB2.out, K2.out⟩
            case measure => simp [intOf]; omega
          · have HSU := Lib.hid (show classS (.mk 1 b0 b1 b2 b3 []) (j + 1) = classS (.mk 1 b0 b1 b2 b3 []) j ++ [92, 120, hexB (j / 16), hexB (j % 16)] by rw [classS_succ, has_kids 1 b0 b1 b2 b3 [] kids j, hh]; simp)
            clear hh
            have hcl := classS_length (.mk 1 b0 b1 b2 b3 []) j
            generalize classS (.mk 1 b0 b1 b2 b3 []) j = cl at *
            have hA : bits BinOp.and IntKind.i64 (j : Int) 15 = ((j % 16 : Nat) : Int) := and15 j hj2
            obtain ⟨p, hp⟩ : ∃ p : Nat, j / 16 = p := ⟨_, rfl⟩
            obtain ⟨q, hq⟩ : ∃ q : Nat, j % 16 = q := ⟨_, rfl⟩
            rw [hq] at hA
            have hS1 : (j : Int) / 16 = (p : Int) := by omega
            have hS2 : (j : Int) / 2 ^ 4 = (p : Int) := by rw [show (2 : Int) ^ 4 = 16 by decide]; exact hS1
            have hp16 : p < 16 := by omega
            have hq16 : q < 16 := by omega
            have hpi : (p : Int) < 16 := by omega
            have hqi : (q : Int) < 16 := by omega
            rw [hp, hq] at HSU
            clear hp hq
            go_wp2_with fail
            go_region_held3 (fun _ => True) (trivial) (first
              | (go_at_call 20; refine (write_cells wb.heap.size wb.heap.size w2.heap.size (Lib.byteCells cl) _ _ (builder_move HB2.out ((Fr.refl none_ w2).alloc _).drew) (show (World.drew (w2.alloc _)).heap[w2.heap.size]? = _ from alloc_new w2 _) (by have h1 := K2.out.size; have h2 := HB2s.out; omega) rfl (by simp [Value.oneCell']) (by rw [Lib.byteCells_length]; omega) (size_le_drew w2 _ _ (by have := K2.out.size; omega))).mono ?_; rintro e wx ⟨rfl, hb1, hb2⟩; have Gx := (Lib.hid (K2.out.below_tr' (by omega) hb2)); have GB := (Lib.hid hb1); clear hb1 hb2))
            all_goals
              have GC := Lib.hid (builder_hex hp16 hq16 GB.out)
              clear GB HB2 HB HB0
              go_wp2_with fail
              go_roundw
              case rel => exact ⟨j + 1, by omega, by go_num, by rw [HSU.out]; exact GC.out, Gx.out⟩
              case measure => simp [intOf]; omega
        · obtain rfl : j = 256 := by omega
          have hcl := classS_length (.mk 1 b0 b1 b2 b3 []) 256
          have HSH := Lib.hid (show showL (.mk 1 b0 b1 b2 b3 kids) = [91] ++ classS (.mk 1 b0 b1 b2 b3 []) 256 ++ [93] by simp [showL])
          generalize classS (.mk 1 b0 b1 b2 b3 []) 256 = cl at *
          go_wp2_with fail
          refine (Try.Builder_String_any wb.heap.size wb.heap.size cl _ HB.out HFq.out.size).mono ?_
          rintro e w2 ⟨rfl, hb2⟩
          have K2 := Lib.hid (FW.out.tr (HFq.out.below_tr (Nat.le_refl _) hb2))
          have hq : (bstr cl).size ≤ 1100000 := by rw [bstr_size]; omega
          have q1 : 1 + (bstr cl).size ≤ 9223372036854775807 := by omega
          have q2 : (ByteArray.mk #[91]).size + (bstr cl).size ≤ 9223372036854775807 := q1
          have q3 : 1 + (bstr cl).size + 1 ≤ 9223372036854775807 := by omega
          have q4 : (ByteArray.mk #[91] ++ bstr cl).size + (ByteArray.mk #[93]).size ≤ 9223372036854775807 := by rw [ByteArray.size_append]; exact q3
          have e : (ByteArray.mk cl.toArray) = bstr cl := rfl
          rw [e]
          clear hb2 HB e
          go_wp2_with fail
          go_ret
          exact ⟨congrArg (fun x => Ending.returned (.string x)) (((congrArg (· ++ bstr [93]) (bstr_append [91] cl)).trans (bstr_append ([91] ++ cl) [93])).trans (by rw [HSH.out])), K2.out⟩

theorem show_all : ∀ (n : Nat) (r : Rx), r.size ≤ n → r.size ≤ 1000 → ShowC r
  | 0, r, h, _ => by have := r.size_pos; omega
  | n + 1, .mk k b0 b1 b2 b3 kids, h, hr => by
    have hsub : ∀ r ∈ kids, ShowC r := fun r hrm => by
      have := Rx.size_kid (k := k) (b0 := b0) (b1 := b1) (b2 := b2) (b3 := b3) hrm
      exact show_all n r (by omega) (by omega)
    have hsz : Rx.sizes kids ≤ 1000 := by simp only [Rx.size] at hr; omega
    have hk : kids.length ≤ 1000 := by have := Rx.length_le kids; omega
    by_cases h0 : k = 0
    · subst h0; exact show_0 b0 b1 b2 b3 kids hk hsz hsub
    by_cases h1 : k = 1
    · subst h1; exact show_1 b0 b1 b2 b3 kids hk hsz hsub
    by_cases h2 : k = 2
    · subst h2; exact show_2 b0 b1 b2 b3 kids hk hsz hsub
    by_cases h3 : k = 3
    · subst h3; exact show_3 b0 b1 b2 b3 kids hk hsz hsub
    by_cases h4 : k = 4
    · subst h4; exact show_4 b0 b1 b2 b3 kids hk hsz hsub
    exact show_other k h0 h1 h2 h3 h4 b0 b1 b2 b3 kids hk hsz hsub
theorem show_any (r : Rx) (v : Value) (ok : Nat → Prop) (w : World) (hr : r.size ≤ 1000) (hv : RxV ok w v r) :
    Calls Try.prog 8 #[v] w fun e w' => e = .returned (.string (bstr (showL r))) ∧ Fr none_ w w' := show_all r.size r (Nat.le_refl _) hr v w ok hv
end Go.Proofs.Ytjbmppbciiemkaa
