/-
  The walks over regex.ends and regex.stars.
-/
import Derived.Test.YtgpmbkgedhcbjaaRp
namespace Go.Proofs.Ytgpmbkgedhcbjaa
open Go.RowKit

/-- What ends comes to. -/
def EndsP (s : ByteArray) (P : List Nat → Prop) (F : List Int) (w : World) (e : Ending) (w' : World) : Prop :=
  ∃ v' L, e = .returned v' ∧ IntsAt w' v' L ∧ Places s.size L ∧ EndsR P (bytesN s) F L ∧ Fr none_ w w'
def EndsC (s : ByteArray) (r : Rx) : Prop := ∀ (F : List Int) (rv v : Value) (w : World) (ok : Nat → Prop), RxV ok w rv r → IntsAt w v F → Places s.size F →
  Calls Try.prog 52 #[rv, .string s, v] w (EndsP s r.lang F w)
theorem EndsP.from_ {s : ByteArray} {P Q : List Nat → Prop} {F : List Int} {w0 w : World} {e : Ending} {w' : World} (h : EndsP s P F w e w') (hpq : ∀ x, P x ↔ Q x) (hf : Fr none_ w0 w) : EndsP s Q F w0 e w' := by
  obtain ⟨v', L, h1, h2, h3, h4, h5⟩ := h
  exact ⟨v', L, h1, h2, h3, h4.congr hpq, hf.tr h5⟩
theorem bytesN_at {s : ByteArray} {i : Nat} (h : i < s.size) : (bytesN s)[i]? = some (byteAt s i) := by
  have := bytesN_take s i h
  have h2 : ((bytesN s).take (i + 1))[i]? = (bytesN s)[i]? := List.getElem?_take_of_lt (by omega)
  rw [← h2, this]
  have hl : ((bytesN s).take i).length = i := by rw [List.length_take, bytesN_length]; omega
  rw [List.getElem?_append_right (by omega), hl]
  simp

set_option maxRecDepth 100000 in
set_option maxHeartbeats 4000000 in
theorem ends_0 (s : ByteArray) (hs : s.size ≤ 1000) (b0 b1 b2 b3 : Nat) (kids : List Rx) : EndsC s (.mk 0 b0 b1 b2 b3 kids) := by
  intro F rv v w ok hrv hv hF
  obtain ⟨a, cap, rfl, hc, hl⟩ := hrv.open_
  have F0 := Lib.hid ((Fr.refl none_ w).alloc (.cells #[.int .i64 0, .int .u64 b0, .int .u64 b1, .int .u64 b2, .int .u64 b3, .slice a kids.length cap] 28))
  have NX := Lib.hid (alloc_new w (.cells #[.int .i64 0, .int .u64 b0, .int .u64 b1, .int .u64 b2, .int .u64 b3, .slice a kids.length cap] 28))
  have HV := Lib.hid hv
  have HL := Lib.hid hl
  have HF := Lib.hid hF
  have hFl := hF.length
  have hbl : (bytesN s).length = s.size := bytesN_length s
  have HBL := Lib.hid hbl
  clear hrv hv hl hF hbl
  go_enter Try.func52, Try.ntmps52
  go_wp2_with fail
  go_ret
  refine ⟨_, F, rfl, HV.out.move F0.out, HF.out, ?_, F0.out⟩
  exact (ends_empty (by rw [HBL.out]; exact HF.out)).congr (fun x => by simp [Rx.lang])

set_option maxRecDepth 100000 in
set_option maxHeartbeats 4000000 in
theorem ends_other (s : ByteArray) (hs : s.size ≤ 1000) (k : Int) (b0 b1 b2 b3 : Nat) (kids : List Rx) (h0 : k ≠ 0) (h1 : k ≠ 1) (h2 : k ≠ 2) (h3 : k ≠ 3) (h4 : k ≠ 4) : EndsC s (.mk k b0 b1 b2 b3 kids) := by
  intro F rv v w ok hrv hv hF
  obtain ⟨a, cap, rfl, hc, hl⟩ := hrv.open_
  have F0 := Lib.hid ((Fr.refl none_ w).alloc (.cells #[.int .i64 k, .int .u64 b0, .int .u64 b1, .int .u64 b2, .int .u64 b3, .slice a kids.length cap] 28))
  have NX := Lib.hid (alloc_new w (.cells #[.int .i64 k, .int .u64 b0, .int .u64 b1, .int .u64 b2, .int .u64 b3, .slice a kids.length cap] 28))
  have HV := Lib.hid hv
  have HL := Lib.hid hl
  have HF := Lib.hid hF
  have hFl := hF.length
  have hbl : (bytesN s).length = s.size := bytesN_length s
  have HBL := Lib.hid hbl
  clear hrv hv hl hF hbl
  have e0 : (k == 0) = false := by rw [beq_eq_false_iff_ne]; exact h0
  have e1 : (k == 1) = false := by rw [beq_eq_false_iff_ne]; exact h1
  have e2 : (k == 2) = false := by rw [beq_eq_false_iff_ne]; exact h2
  have e3 : (k == 3) = false := by rw [beq_eq_false_iff_ne]; exact h3
  have e4 : (k == 4) = false := by rw [beq_eq_false_iff_ne]; exact h4
  have HLA := Lib.hid (show ∀ x, (fun _ => False) x ↔ (Rx.mk k b0 b1 b2 b3 kids).lang x from fun x => by simp [Rx.lang, h0, h1, h2, h3, h4])
  clear h0 h1 h2 h3 h4
  go_enter Try.func52, Try.ntmps52
  go_wp2_with fail
  go_ret
  exact ⟨_, [], rfl, IntsAt.nil _, ⟨List.Pairwise.nil, by simp⟩, ends_none.congr HLA.out, F0.out⟩

set_option maxRecDepth 100000 in
set_option maxHeartbeats 4000000 in
theorem ends_1 (s : ByteArray) (hs : s.size ≤ 1000) (b0 b1 b2 b3 : Nat) (kids : List Rx) : EndsC s (.mk 1 b0 b1 b2 b3 kids) := by
  intro F rv v w ok hrv hv hF
  obtain ⟨a, cap, rfl, hc, hl⟩ := hrv.open_
  have F0 := Lib.hid ((Fr.refl none_ w).alloc (.cells #[.int .i64 1, .int .u64 b0, .int .u64 b1, .int .u64 b2, .int .u64 b3, .slice a kids.length cap] 28))
  have NX := Lib.hid (alloc_new w (.cells #[.int .i64 1, .int .u64 b0, .int .u64 b1, .int .u64 b2, .int .u64 b3, .slice a kids.length cap] 28))
  have HV := Lib.hid hv
  have HL := Lib.hid hl
  have HF := Lib.hid hF
  have hFl := hF.length
  have hbl : (bytesN s).length = s.size := bytesN_length s
  have HBL := Lib.hid hbl
  clear hrv hv hl hF hbl
  obtain ⟨i0, hi, hz0, hz1, hz2⟩ := info_parts int_info
  obtain ⟨fa, fc, rfl, hfc⟩ := HV.out.slice
  obtain ⟨N, hN⟩ : ∃ N : Nat, F.length = N := ⟨_, rfl⟩
  rw [hN] at HV hFl hfc ⊢
  have HN := Lib.hid hN
  clear hN
  go_enter Try.func52, Try.ntmps52
  go_wp2_with fail
  go_loopw [7, 23] (fun x7 x23 wr => ∃ i : Nat, i ≤ N ∧ x23 = .int .i64 i ∧ Aside (wr.ownsRow (w.heap.size + 1) 3 1 x7 (byteM (.mk 1 b0 b1 b2 b3 kids) (bytesN s) (F.take i)).length (intsV (byteM (.mk 1 b0 b1 b2 b3 kids) (bytesN s) (F.take i)))) ∧ Aside (wr.heap[w.heap.size]? = some (.cells #[.int .i64 1, .int .u64 b0, .int .u64 b1, .int .u64 b2, .int .u64 b3, .slice a kids.length cap] 28 (0, 0))) ∧ Aside (Fr none_ w wr)) (fun _ x23 _ => N - (intOf x23).toNat)
  case atStart => exact ⟨0, Nat.zero_le _, rfl, World.ownsRow_nil _ _ _ _, NX.out, F0.out⟩
  case round =>
    obtain ⟨i, hi', rfl, how, hnx, hfr⟩ := hrel
    have HO := Lib.hid how.out
    have NXr := Lib.hid hnx.out
    have HFr := Lib.hid hfr.out
    have hwr := lt_of_block NXr.out
    clear how hnx hfr
    by_cases hlt : i < N
    · have hil : (i : Int) < (N : Int) := by omega
      obtain ⟨x, hx⟩ : ∃ x, F[i]? = some x := ⟨F[i]'(by rw [HN.out]; exact hlt), List.getElem?_eq_getElem _⟩
      obtain ⟨g, rfl, cx⟩ := (HV.out.move HFr.out).cell hx
      have hxr := HF.out.range x (List.mem_of_getElem? hx)
      obtain ⟨xi, rfl⟩ := Int.eq_ofNat_of_zero_le hxr.1
      have HT := Lib.hid (show byteM (.mk 1 b0 b1 b2 b3 kids) (bytesN s) (F.take (i + 1)) = byteM (.mk 1 b0 b1 b2 b3 kids) (bytesN s) (F.take i) ++ byteM (.mk 1 b0 b1 b2 b3 kids) (bytesN s) [(xi : Int)] by
        rw [List.take_add_one, hx]; exact byteM_snoc _ _ _ _)
      have hol : (byteM (.mk 1 b0 b1 b2 b3 kids) (bytesN s) (F.take i)).length ≤ 2000 := by
        have := byteM_length (.mk 1 b0 b1 b2 b3 kids) (bytesN s) (F.take i)
        simp only [List.length_take] at this
        omega
      obtain ⟨M, hM⟩ : ∃ M, byteM (.mk 1 b0 b1 b2 b3 kids) (bytesN s) (F.take i) = M := ⟨_, rfl⟩
      rw [hM] at HO HT hol
      clear hx hM
      by_cases hxs : xi < s.size
      · have hxs' : (xi : Int) < (s.size : Int) := by omega
        have hx0 : (0 : Int) ≤ (xi : Int) := by omega
        have hbl := byteAt_lt s xi
        have HBE := Lib.hid (byteAt_eq s xi hxs)
        have HAT := Lib.hid (bytesN_at hxs)
        obtain ⟨z0, z1, z2, z3, z4, z5⟩ := six NXr.out
        have G0 : Fr none_ wr wr.drew := (Fr.refl none_ wr).drew
        have HCALL := Lib.hid (fun (wx : World) (hx : Fr none_ wr wx) => rhas_any (.mk 1 b0 b1 b2 b3 kids) (byteAt s xi) _ ok wx (RxV.mk_ hc (RxL.move (fun k _ hlt => (hx.block k (Nat.lt_of_lt_of_le hlt HFr.out.size) (fun h => h)).trans (HFr.out.block k hlt (fun h => h))) _ _ _ HL.out)) hbl)
        cases hh : (Rx.mk 1 b0 b1 b2 b3 kids).has (byteAt s xi)
        · rw [hh] at HCALL
          have HSK := Lib.hid (show byteM (.mk 1 b0 b1 b2 b3 kids) (bytesN s) [(xi : Int)] = [] by simp [byteM, HAT.out, hh])
          clear hh
          go_wp2_with fail
          go_region_held3 (fun w' => w'.cell? ⟨w.heap.size, 0, none⟩ = some (.int .i64 1) ∧ w'.cell? ⟨w.heap.size, 1, none⟩ = some (.int .u64 b0) ∧ w'.cell? ⟨w.heap.size, 2, none⟩ = some (.int .u64 b1) ∧ w'.cell? ⟨w.heap.size, 3, none⟩ = some (.int .u64 b2) ∧ w'.cell? ⟨w.heap.size, 4, none⟩ = some (.int .u64 b3) ∧ w'.cell? ⟨w.heap.size, 5, none⟩ = some (.slice a kids.length cap)) ((refine ⟨?_, ?_, ?_, ?_, ?_, ?_⟩ <;> go_simp)) (first
            | (go_at_call 31; rw [HBE.out]; refine (HCALL.out _ (by assumption)).mono ?_; rintro e wx ⟨rfl, Fx⟩; have Gx := Fr.tr (a := wr) (by assumption) Fx; obtain ⟨z0, z1, z2, z3, z4, z5⟩ := six (Gx.at_ NXr.out (fun h => h)); clear Fx))
          have FX := Lib.hid (HFr.out.tr (by assumption))
          have NXx := Lib.hid (Fr.at_ (by assumption) NXr.out (fun h => h))
          have HOx := Lib.hid (ownsRow_same HO.out (fun b' hb' => Fr.block (by assumption) b' (HO.out.lt b' hb').2 (fun h => h)))
          clear G0 z0 z1 z2 z3 z4 z5
          go_wp2_with fail
          go_roundw
          case rel => exact ⟨i + 1, by omega, by go_num, by rw [HT.out, HSK.out, List.append_nil]; exact HOx.out, NXx.out, FX.out⟩
          case measure => simp [intOf]; omega
        · rw [hh] at HCALL
          have HSK := Lib.hid (show byteM (.mk 1 b0 b1 b2 b3 kids) (bytesN s) [(xi : Int)] = [(xi : Int) + 1] by simp [byteM, HAT.out, hh])
          clear hh
          go_wp2_with fail
          go_region_held3 (fun w' => w'.cell? ⟨w.heap.size, 0, none⟩ = some (.int .i64 1) ∧ w'.cell? ⟨w.heap.size, 1, none⟩ = some (.int .u64 b0) ∧ w'.cell? ⟨w.heap.size, 2, none⟩ = some (.int .u64 b1) ∧ w'.cell? ⟨w.heap.size, 3, none⟩ = some (.int .u64 b2) ∧ w'.cell? ⟨w.heap.size, 4, none⟩ = some (.int .u64 b3) ∧ w'.cell? ⟨w.heap.size, 5, none⟩ = some (.slice a kids.length cap)) ((refine ⟨?_, ?_, ?_, ?_, ?_, ?_⟩ <;> go_simp)) (first
            | (go_at_call 31; rw [HBE.out]; refine (HCALL.out _ (by assumption)).mono ?_; rintro e wx ⟨rfl, Fx⟩; have Gx := Fr.tr (a := wr) (by assumption) Fx; obtain ⟨z0, z1, z2, z3, z4, z5⟩ := six (Gx.at_ NXr.out (fun h => h)); clear Fx))
          have FX := Lib.hid (HFr.out.tr (by assumption))
          have NXx := Lib.hid (Fr.at_ (by assumption) NXr.out (fun h => h))
          have HOx := Lib.hid (ownsRow_same HO.out (fun b' hb' => Fr.block (by assumption) b' (HO.out.lt b' hb').2 (fun h => h)))
          have hxw : w.heap.size + 1 ≤ wx.heap.size := by have := lt_of_block NXx.out; omega
          clear G0 z0 z1 z2 z3 z4 z5
          go_wp2_with (at_builtin; refine wpList_append_lies _ rfl (.tmp 38) (.tmp 41) 39 rfl (w.heap.size + 1) 3 i0 _ 1 8 Try.underlying39 hi hz0 hz1 hz2 rfl (by decide) _ M.length (intsV M) rfl (HOx.out.alloc _) ⟨wx.heap.size, 0, none⟩ 1 1 [.int .i64 ((xi : Int) + 1)] rfl rfl (getElem_block (alloc_new _ _)) ?c1 (by decide) ?c2 ?c3 ?c4 (wx.heap.size + 1) (by simp) ?_)
          case c1 => simp [Value.oneCell']
          case c2 => unfold maxLen; omega
          case c3 => omega
          case c4 => first | omega | (simp; omega)
          intro g2 cap2 w2 hown2 hgrow2 hat2 hlt2
          have FN := Lib.hid ((FX.out.alloc (.cells #[.int .i64 ((xi : Int) + 1)] 3)).grown hgrow2 (fun k hk => .inr (by have := (HOx.out.lt k hk).1; omega)))
          have NX2 := Lib.hid (show w2.heap[w.heap.size]? = some (.cells #[.int .i64 1, .int .u64 b0, .int .u64 b1, .int .u64 b2, .int .u64 b3, .slice a kids.length cap] 28 (0, 0)) from (by
            rw [hgrow2.block w.heap.size (by simp; omega) (fun e => by have := (HOx.out.lt _ e.symm).1; omega)]
            exact (Below.heap_alloc _ _ _ (by omega)).trans NXx.out))
          have HN2 := Lib.hid hown2
          clear hown2 hgrow2 hat2 hlt2
          go_wp2_with fail
          go_roundw
          case rel =>
            refine ⟨i + 1, by omega, by go_num, ?_, NX2.out, FN.out⟩
            rw [HT.out, HSK.out, List.length_append]
            have e2 : intsV (M ++ [(xi : Int) + 1]) = intsV M ++ [.int .i64 ((xi : Int) + 1)] := by simp [intsV]
            rw [e2]
            exact HN2.out
          case measure => simp [intOf]; omega
      · obtain rfl : xi = s.size := by omega
        have HSK := Lib.hid (show byteM (.mk 1 b0 b1 b2 b3 kids) (bytesN s) [((s.size : Nat) : Int)] = [] by
          have : (bytesN s)[s.size]? = none := List.getElem?_eq_none (by rw [HBL.out]; exact Nat.le_refl _)
          simp [byteM, this])
        have hd : decide ((s.size : Int) < (s.size : Int)) = false := by simp
        go_wp2_with fail
        go_quiet (fail)
        go_wp2_with fail
        go_roundw
        case rel => exact ⟨i + 1, by omega, by go_num, by rw [HT.out, HSK.out, List.append_nil]; exact HO.out, NXr.out, HFr.out.drewN _⟩
        case measure => simp [intOf]; omega
    · obtain rfl : i = N := by omega
      have htk : F.take i = F := List.take_of_length_le (by rw [HN.out]; exact Nat.le_refl _)
      rw [htk] at HO
      go_wp2_with fail
      go_ret
      refine ⟨_, _, rfl, ⟨_, HO.out⟩, by have := byteM_places (r := .mk 1 b0 b1 b2 b3 kids) (bs := bytesN s) (F := F) (by rw [HBL.out]; exact HF.out); rw [HBL.out] at this; exact this, ?_, HFr.out⟩
      exact ends_bytes.congr (fun x => by simp [Rx.lang, Rx.has])

set_option maxRecDepth 100000 in
set_option maxHeartbeats 4000000 in
theorem ends_2 (s : ByteArray) (hs : s.size ≤ 1000) (b0 b1 b2 b3 : Nat) (kids : List Rx) (hk : kids.length ≤ 1000) (hsub : ∀ r ∈ kids, EndsC s r) : EndsC s (.mk 2 b0 b1 b2 b3 kids) := by
  intro F rv v w ok hrv hv hF
  obtain ⟨a, cap, rfl, hc, hl⟩ := hrv.open_
  have F0 := Lib.hid ((Fr.refl none_ w).alloc (.cells #[.int .i64 2, .int .u64 b0, .int .u64 b1, .int .u64 b2, .int .u64 b3, .slice a kids.length cap] 28))
  have NX := Lib.hid (alloc_new w (.cells #[.int .i64 2, .int .u64 b0, .int .u64 b1, .int .u64 b2, .int .u64 b3, .slice a kids.length cap] 28))
  have HV := Lib.hid hv
  have HL := Lib.hid hl
  have HF := Lib.hid hF
  have hFl := hF.length
  have hbl : (bytesN s).length = s.size := bytesN_length s
  have HBL := Lib.hid hbl
  clear hrv hv hl hF hbl
  have HS := Lib.hid hsub
  clear hsub
  go_enter Try.func52, Try.ntmps52
  go_wp2_with fail
  go_loopw [7, 50] (fun x7 x50 wr => ∃ i : Nat, i ≤ kids.length ∧ x50 = .int .i64 i ∧ Aside (∃ M, IntsAt wr x7 M ∧ Places s.size M ∧ EndsR (catL (kids.take i)) (bytesN s) F M) ∧ Aside (Fr none_ w wr)) (fun _ x50 _ => kids.length - (intOf x50).toNat)
  case atStart => exact ⟨0, Nat.zero_le _, rfl, ⟨F, HV.out.move F0.out, HF.out, (ends_empty (by rw [HBL.out]; exact HF.out)).congr (fun x => by simp [catL])⟩, F0.out⟩
  case round =>
    obtain ⟨i, hi', rfl, hM', hfr⟩ := hrel
    have HFr := Lib.hid hfr.out
    obtain ⟨M, hM1, hM2, hM3⟩ := hM'.out
    have HM1 := Lib.hid hM1
    have HM2 := Lib.hid hM2
    have HM3 := Lib.hid hM3
    clear hfr hM' hM1 hM2 hM3
    by_cases hlt : i < kids.length
    · have hlt' : (i : Int) < (kids.length : Int) := by omega
      obtain ⟨⟨k', x0, x1, x2, x3, kids'⟩, hki⟩ : ∃ r, kids[i]? = some r := ⟨kids[i]'hlt, List.getElem?_eq_getElem hlt⟩
      have hmv : RxL ok wr a 0 kids := RxL.move (fun k _ hlt => HFr.out.block k hlt (fun h => h)) kids a 0 HL.out
      obtain ⟨ad, a', cap', rfl, hok, c0, c1, c2, c3, c4, c5, hc', hl'⟩ := hmv.elem hki
      have HL' := Lib.hid hl'
      have HKC := Lib.hid (HS.out _ (List.mem_of_getElem? hki))
      have FK := Lib.hid (Fr.alloc (Fr.refl none_ wr) (.cells #[.int .i64 k', .int .u64 x0, .int .u64 x1, .int .u64 x2, .int .u64 x3, .slice a' kids'.length cap'] 28))
      have htake : kids.take (i + 1) = kids.take i ++ [.mk k' x0 x1 x2 x3 kids'] := by rw [List.take_add_one, hki]; rfl
      obtain ⟨z0, z1, z2, z3, z4, z5⟩ := six (alloc_new wr (.cells #[.int .i64 k', .int .u64 x0, .int .u64 x1, .int .u64 x2, .int .u64 x3, .slice a' kids'.length cap'] 28))
      have HTK := Lib.hid htake
      clear hki hmv hl' htake
      go_wp2_with fail
      refine (HKC.out M _ u7 _ ok (RxV.mk_ hc' (RxL.move (fun k _ hlt => FK.out.block k hlt (fun h => h)) _ _ _ HL'.out)) (HM1.out.move FK.out) HM2.out).mono ?_
      rintro e w2 ⟨v2, L, rfl, h1, h2, h3, h4⟩
      have K1 := Lib.hid h1
      have K2 := Lib.hid h2
      have K3 := Lib.hid ((ends_cat HM3.out h3).congr (Q := catL (kids.take (i + 1))) (fun x => by rw [HTK.out, catL_snoc]))
      have K4 := Lib.hid ((HFr.out.tr FK.out).tr h4)
      clear h1 h2 h3 h4 z0 z1 z2 z3 z4 z5 c0 c1 c2 c3 c4 c5
      go_wp2_with fail
      go_roundw
      case rel => exact ⟨i + 1, by omega, by go_num, ⟨L, K1.out, K2.out, K3.out⟩, K4.out⟩
      case measure => simp [intOf]; omega
    · obtain rfl : i = kids.length := by omega
      have htk : kids.take kids.length = kids := List.take_length
      rw [htk] at HM3
      go_wp2_with fail
      go_ret
      exact ⟨_, M, rfl, HM1.out, HM2.out, HM3.out.congr (fun x => by simp [Rx.lang]), HFr.out⟩

set_option maxRecDepth 100000 in
set_option maxHeartbeats 4000000 in
theorem ends_3 (s : ByteArray) (hs : s.size ≤ 1000) (b0 b1 b2 b3 : Nat) (kids : List Rx) (hk : kids.length ≤ 1000) (hsub : ∀ r ∈ kids, EndsC s r) : EndsC s (.mk 3 b0 b1 b2 b3 kids) := by
  intro F rv v w ok hrv hv hF
  obtain ⟨a, cap, rfl, hc, hl⟩ := hrv.open_
  have F0 := Lib.hid ((Fr.refl none_ w).alloc (.cells #[.int .i64 3, .int .u64 b0, .int .u64 b1, .int .u64 b2, .int .u64 b3, .slice a kids.length cap] 28))
  have NX := Lib.hid (alloc_new w (.cells #[.int .i64 3, .int .u64 b0, .int .u64 b1, .int .u64 b2, .int .u64 b3, .slice a kids.length cap] 28))
  have HV := Lib.hid hv
  have HL := Lib.hid hl
  have HF := Lib.hid hF
  have hFl := hF.length
  have hbl : (bytesN s).length = s.size := bytesN_length s
  have HBL := Lib.hid hbl
  clear hrv hv hl hF hbl
  have HS := Lib.hid hsub
  clear hsub
  go_enter Try.func52, Try.ntmps52
  go_wp2_with fail
  go_loopw [7, 64] (fun x7 x64 wr => ∃ i : Nat, i ≤ kids.length ∧ x64 = .int .i64 i ∧ Aside (∃ M, IntsAt wr x7 M ∧ Places s.size M ∧ EndsR (altL (kids.take i)) (bytesN s) F M) ∧ Aside (Fr none_ w wr)) (fun _ x64 _ => kids.length - (intOf x64).toNat)
  case atStart => exact ⟨0, Nat.zero_le _, rfl, ⟨[], IntsAt.nil _, ⟨List.Pairwise.nil, by simp⟩, ends_none.congr (fun x => by simp [altL])⟩, F0.out⟩
  case round =>
    obtain ⟨i, hi', rfl, hM', hfr⟩ := hrel
    have HFr := Lib.hid hfr.out
    obtain ⟨M, hM1, hM2, hM3⟩ := hM'.out
    have HM1 := Lib.hid hM1
    have HM2 := Lib.hid hM2
    have HM3 := Lib.hid hM3
    clear hfr hM' hM1 hM2 hM3
    by_cases hlt : i < kids.length
    · have hlt' : (i : Int) < (kids.length : Int) := by omega
      obtain ⟨⟨k', x0, x1, x2, x3, kids'⟩, hki⟩ : ∃ r, kids[i]? = some r := ⟨kids[i]'hlt, List.getElem?_eq_getElem hlt⟩
      have hmv : RxL ok wr a 0 kids := RxL.move (fun k _ hlt => HFr.out.block k hlt (fun h => h)) kids a 0 HL.out
      obtain ⟨ad, a', cap', rfl, hok, c0, c1, c2, c3, c4, c5, hc', hl'⟩ := hmv.elem hki
      have HL' := Lib.hid hl'
      have HKC := Lib.hid (HS.out _ (List.mem_of_getElem? hki))
      have FK := Lib.hid (Fr.alloc (Fr.refl none_ wr) (.cells #[.int .i64 k', .int .u64 x0, .int .u64 x1, .int .u64 x2, .int .u64 x3, .slice a' kids'.length cap'] 28))
      have htake : kids.take (i + 1) = kids.take i ++ [.mk k' x0 x1 x2 x3 kids'] := by rw [List.take_add_one, hki]; rfl
      obtain ⟨z0, z1, z2, z3, z4, z5⟩ := six (alloc_new wr (.cells #[.int .i64 k', .int .u64 x0, .int .u64 x1, .int .u64 x2, .int .u64 x3, .slice a' kids'.length cap'] 28))
      have HTK := Lib.hid htake
      clear hki hmv hl' htake
      go_wp2_with fail
      refine (HKC.out F _ v _ ok (RxV.mk_ hc' (RxL.move (fun k _ hlt => FK.out.block k hlt (fun h => h)) _ _ _ HL'.out)) (HV.out.move (HFr.out.tr FK.out)) HF.out).mono ?_
      rintro e w2 ⟨v2, L, rfl, h1, h2, h3, h4⟩
      have K1 := Lib.hid h1
      have K2 := Lib.hid h2
      have K3 := Lib.hid ((ends_alt HM3.out h3).congr (Q := altL (kids.take (i + 1))) (fun x => by rw [HTK.out, altL_snoc]))
      have K4 := Lib.hid ((HFr.out.tr FK.out).tr h4)
      have K5 := Lib.hid (HM1.out.move (FK.out.tr h4))
      clear h1 h2 h3 h4 z0 z1 z2 z3 z4 z5 c0 c1 c2 c3 c4 c5
      obtain ⟨ma, mc, rfl, hmc⟩ := HM1.out.slice
      obtain ⟨la, lc, rfl, hlc⟩ := K1.out.slice
      go_wp2_with fail
      have FB := Lib.hid ((Fr.refl none_ w2).alloc (.cells #[.slice ma M.length mc, .slice la L.length lc] 39))
      refine (union_any w2.heap.size _ _ M L _ (alloc_new w2 _) (K5.out.move FB.out) (K1.out.move FB.out) (by have := HM2.out.length; omega) (by have := K2.out.length; omega)).mono ?_
      rintro e w3 ⟨v3, rfl, h1, h2⟩
      have Q1 := Lib.hid h1
      have Q2 := Lib.hid ((K4.out.tr FB.out).tr h2)
      clear h1 h2
      go_wp2_with fail
      go_roundw
      case rel => exact ⟨i + 1, by omega, by go_num, ⟨_, Q1.out, union_places HM2.out.range K2.out.range, K3.out⟩, Q2.out⟩
      case measure => simp [intOf]; omega
    · obtain rfl : i = kids.length := by omega
      have htk : kids.take kids.length = kids := List.take_length
      rw [htk] at HM3
      go_wp2_with fail
      go_ret
      exact ⟨_, M, rfl, HM1.out, HM2.out, HM3.out.congr (fun x => by simp [Rx.lang]), HFr.out⟩

end Go.Proofs.Ytgpmbkgedhcbjaa
