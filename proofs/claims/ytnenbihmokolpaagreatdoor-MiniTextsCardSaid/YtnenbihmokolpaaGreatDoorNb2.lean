/-
  The walk over nfa.Build: a machine is made.
-/
import Derived.Test.YtnenbihmokolpaaGreatDoorNb
import Derived.Test.YtnenbihmokolpaaGreatDoorNw
namespace Go.Proofs.YtnenbihmokolpaaGreatDoor set_option linter.unusedVariables false set_option linter.unusedSimpArgs false
open Go.RowKit

theorem RxC_low {ok : Nat → Prop} {w wr : World} {l : List Rx} {a : Option Addr} (hf : Fr none_ w wr) (h : RxL ok w a 0 l) : RxL (fun k => k < wr.heap.size) wr a 0 l :=
  RxL.mono (fun k hk => hk.2) l a 0 (RxL.bound l a 0 (RxL.move (fun k _ hlt => hf.block k hlt (fun h => h)) l a 0 h))

set_option maxRecDepth 100000 in
set_option maxHeartbeats 8000000 in
theorem build_made (rs : List Rx) (a : Option Addr) (cap : Nat) (w : World) (ok : Nat → Prop) (hl : RxL ok w a 0 rs) (hm1 : rs.length ≤ 60) (hm2 : Rx.sizes rs ≤ 3000) :
    Calls Tryz.prog 62 #[.slice a rs.length cap] w fun e w' => ∃ dm, w.heap.size ≤ dm ∧ e = .returned (.tuple #[.pointer (some ⟨dm, 0, none⟩), .int .i64 0]) ∧
      Mach dm (fun k => dm < k) w' (buildM rs 0 [] []).1 (buildM rs 0 [] []).2 ∧ Fr none_ w w' := by
  have hsz : Rx.sizes rs < 4611686018427387904 := by omega
  have hlen := Rx.length_le rs
  have HL := Lib.hid hl
  have F0 := Lib.hid (Fr.refl none_ w)
  clear hl
  go_enter Tryz.func62, Tryz.ntmps62
  go_wp2_with fail
  go_loopw [4, 14] (fun t x wr => ∃ i : Nat, i ≤ rs.length ∧ x = .int .i64 i ∧ t = .int .i64 (Rx.sizes (rs.take i)) ∧ Aside (Fr none_ w wr)) (fun _ x _ => rs.length - (intOf x).toNat)
  case atStart => exact ⟨0, Nat.zero_le _, rfl, by simp [Rx.sizes], F0.out⟩
  case round =>
    obtain ⟨i, hi, rfl, rfl, hf'⟩ := hrel
    have hf := Lib.hid hf'.out
    clear hf'
    by_cases hlt : i < rs.length
    · obtain ⟨k', x0, x1, x2, x3, kids', hk'⟩ : ∃ k' x0 x1 x2 x3 kids', rs[i] = Rx.mk k' x0 x1 x2 x3 kids' := by
        cases rs[i]; exact ⟨_, _, _, _, _, _, rfl⟩
      have hki : rs[i]? = some (Rx.mk k' x0 x1 x2 x3 kids') := by rw [List.getElem?_eq_getElem hlt, hk']
      have hmv : RxL ok wr a 0 rs := RxL.move (fun k _ hlt => hf.out.block k hlt (fun h => h)) rs a 0 HL.out
      obtain ⟨ad, a', cap', rfl, hok, c0, c1, c2, c3, c4, c5, hc', hl'⟩ := hmv.elem hki
      have hsum := Rx.sizes_take_succ rs i _ hki
      have hle := Rx.sizes_le rs (i + 1)
      have HL' := Lib.hid hl'
      have HSUM := Lib.hid hsum
      have hle2 : Rx.sizes (rs.take i) + (Rx.mk k' x0 x1 x2 x3 kids').size < 4611686018427387904 := by omega
      clear hk' hki hmv hl' hsum hle
      go_wp2_with fail
      have F1 : Fr none_ wr _ := Fr.alloc (Fr.refl none_ wr) (.cells #[.int .i64 k', .int .u64 x0, .int .u64 x1, .int .u64 x2, .int .u64 x3, .slice a' kids'.length cap'] 53)
      refine (nsize_any _ _ _ _ ok (Nat.le_refl _) (by omega) ((RxV.mk_ hc' HL'.out).move F1 (fun _ _ _ h => h))).mono ?_
      rintro e w' ⟨rfl, F2⟩
      have F3 := Lib.hid ((hf.out.tr F1).tr F2)
      clear F2 F1
      go_wp2_with fail
      go_roundw
      case rel => exact ⟨i + 1, by omega, rfl, congrArg (Value.int .i64) (by rw [HSUM.out]; omega), F3.out⟩
      case measure => simp [intOf]; omega
    · obtain rfl : i = rs.length := by omega
      have H : rs.take rs.length = rs := List.take_length
      rw [H]
      clear H
      have h60' : (rs.length : Int) ≤ 60 := by omega
      have h3000 : (Rx.sizes rs : Int) ≤ 3000 := by omega
      have HLr := Lib.hid (RxC_low hf.out HL.out)
      go_wp2_with fail
      have nx := alloc_new wr (.cells #[.slice none 0 0, .slice none 0 0] 151)
      have M0 := Lib.hid (show Mach wr.heap.size (fun k => wr.heap.size < k) (wr.alloc (.cells #[.slice none 0 0, .slice none 0 0] 151)) [] [] from ⟨_, _, _, _, MachD.empty nx⟩)
      have F1 := Lib.hid (hf.out.alloc (.cells #[.slice none 0 0, .slice none 0 0] 151))
      clear nx
      have hsz0 : (wr.alloc (.cells #[.slice none 0 0, .slice none 0 0] 151)).heap.size = wr.heap.size + 1 := by simp
      have HLr1 := Lib.hid (RxL.move (w' := wr.alloc (.cells #[.slice none 0 0, .slice none 0 0] 151)) (fun k _ hlt => Below.heap_alloc _ _ _ hlt) _ _ _ HLr.out)
      have HDM := Lib.hid hf.out.size
      generalize hdm : wr.heap.size = dm at *
      generalize wr.alloc (.cells #[.slice none 0 0, .slice none 0 0] 151) = wm at *
      clear hdm hf HLr
      obtain ⟨i0, hi', hz0, hz1, hz2⟩ := info_parts int_info
      go_loopw [34] (fun x wr => ∃ i : Nat, i ≤ rs.length ∧ x = .int .i64 i ∧ Aside (Mach dm (fun k => dm < k) wr (buildM (rs.take i) 0 [] []).1 (buildM (rs.take i) 0 [] []).2) ∧ Aside (Fr none_ w wr) ∧ Aside (RxL (fun k => k < dm) wr a 0 rs)) (fun x _ => rs.length - (intOf x).toNat)
      case atStart => exact ⟨0, Nat.zero_le _, rfl, M0.out, F1.out, HLr1.out⟩
      case round =>
        obtain ⟨i, hi, rfl, hM, hF, hK⟩ := hrel
        have MR := Lib.hid hM.out
        have FR := Lib.hid hF.out
        have HKr := Lib.hid hK.out
        clear hM hF hK M0 F1 HLr1
        by_cases hlt : i < rs.length
        · obtain ⟨k', x0, x1, x2, x3, kids', hk'⟩ : ∃ k' x0 x1 x2 x3 kids', rs[i] = Rx.mk k' x0 x1 x2 x3 kids' := by
            cases rs[i]; exact ⟨_, _, _, _, _, _, rfl⟩
          have hki : rs[i]? = some (Rx.mk k' x0 x1 x2 x3 kids') := by rw [List.getElem?_eq_getElem hlt, hk']
          have htake : rs.take (i + 1) = rs.take i ++ [Rx.mk k' x0 x1 x2 x3 kids'] := by
            rw [List.take_add_one, hki]; rfl
          have HTAKE := Lib.hid htake
          obtain ⟨ad, a', cap', rfl, hok, c0, c1, c2, c3, c4, c5, hc', hl'⟩ := HKr.out.elem hki
          have hsum := Rx.sizes_take_succ rs i _ hki
          have hle := Rx.sizes_le rs (i + 1)
          have hsz2 : Rx.sizes (rs.take i) + (Rx.mk k' x0 x1 x2 x3 kids').size ≤ Rx.sizes rs := by omega
          have HSZ := Lib.hid hsz2
          have HL' := Lib.hid hl'
          have HBF := Lib.hid (buildM_facts (rs.take i) 0 [] [])
          clear hk' hki hl' hsum hle htake hsz2
          obtain ⟨B1, hB1⟩ : ∃ B, (buildM (rs.take i) 0 [] []).1 = B := ⟨_, rfl⟩
          obtain ⟨B2, hB2⟩ : ∃ B, (buildM (rs.take i) 0 [] []).2 = B := ⟨_, rfl⟩
          rw [hB1, hB2] at MR
          have HB1 := Lib.hid hB1
          have HB2 := Lib.hid hB2
          have hbf := HBF.out
          rw [hB1, hB2] at hbf
          simp only [List.length_nil, Nat.zero_add, List.length_take] at hbf
          have hb1 : B1.length ≤ 9000 := by have := HSZ.out; omega
          have hb2 : B2.length ≤ 60 := by omega
          have HSH := Lib.hid (hbf.2.2 0 (fun s h => by simp at h))
          clear hB1 hB2 hbf HBF
          go_wp2_with fail
          have hdmr := MR.out.dlt
          have NY := Lib.hid (alloc_new wr (.cells #[.int .i64 k', .int .u64 x0, .int .u64 x1, .int .u64 x2, .int .u64 x3, .slice a' kids'.length cap'] 53))
          have HMy := Lib.hid (MR.out.apart (.cells #[.int .i64 k', .int .u64 x0, .int .u64 x1, .int .u64 x2, .int .u64 x3, .slice a' kids'.length cap'] 53))
          have BX := Lib.hid (keepB_x (S := fun k => dm < k) hdmr)
          have BSEP := Lib.hid (show ∀ k, keepB (fun k => dm < k) wr k → dm < k from HMy.out.sep)
          have hs0 : (wr.alloc (.cells #[.int .i64 k', .int .u64 x0, .int .u64 x1, .int .u64 x2, .int .u64 x3, .slice a' kids'.length cap'] 53)).heap.size = wr.heap.size + 1 := by simp
          obtain ⟨frm, hfrm⟩ : ∃ F : Nat, B1.length = F := ⟨_, rfl⟩
          have HFRM := Lib.hid hfrm
          refine (add_stN dm (keepB (fun k => dm < k) wr) _ B1 B2 frm HMy.out (by omega) hfrm).mono ?_
          clear hfrm
          rintro e wa ⟨rfl, Ma, Fa⟩
          have hsa : wr.heap.size + 1 ≤ wa.heap.size := by have := Fa.size; omega
          have MA := Lib.hid (Ma.keep (fun k hk => by rw [hs0] at hk; exact .inr hk) BSEP.out)
          have NYa := Lib.hid (Fa.at_ NY.out BX.out)
          have HLOW := Lib.hid (show ∀ k, (k = dm ∨ keepB (fun k => dm < k) wr k) → w.heap.size ≤ k ∧ dm ≤ k from fun k hk => by
            have := HDM.out
            rcases hk with hk | hk | hk
            · omega
            · have := hk.1; omega
            · omega)
          have HFa := Lib.hid ((FR.out.alloc (.cells #[.int .i64 k', .int .u64 x0, .int .u64 x1, .int .u64 x2, .int .u64 x3, .slice a' kids'.length cap'] 53)).fresh Fa (fun k hk => (HLOW.out k hk).1))
          have HLa := Lib.hid (RxL.move (fun k hk hlt => Fa.block k hlt (fun h => by have := (HLOW.out k h).2; omega)) _ _ _ (RxL.move (w' := wr.alloc (.cells #[.int .i64 k', .int .u64 x0, .int .u64 x1, .int .u64 x2, .int .u64 x3, .slice a' kids'.length cap'] 53)) (fun k _ hlt => Below.heap_alloc _ _ _ hlt) _ _ _ HL'.out))
          have HKa := Lib.hid (RxL.move (fun k hk hlt => Fa.block k hlt (fun h => by have := (HLOW.out k h).2; omega)) _ _ _ (RxL.move (w' := wr.alloc (.cells #[.int .i64 k', .int .u64 x0, .int .u64 x1, .int .u64 x2, .int .u64 x3, .slice a' kids'.length cap'] 53)) (fun k _ hlt => Below.heap_alloc _ _ _ hlt) _ _ _ HKr.out))
          clear Ma Fa hs0 HL' HKr
          obtain ⟨vs, vt, fv, cells, hm⟩ := MA.out
          have d1 : wa.cell? ⟨dm, 1, none⟩ = some vt := cell_of_block hm.head rfl
          have HM := Lib.hid hm
          clear hm
          go_wp2_with (at_builtin; refine wpList_append_lies _ rfl (.tmp 45) (.tmp 47) 100 rfl (dm + 1) 3 i0 _ 1 8 Tryz.underlying100 hi' hz0 hz1 hz2 rfl (by decide) _ B2.length (nums B2) rfl (HM.out.begins.alloc _) ⟨wa.heap.size, 0, none⟩ 1 1 [.int .i64 frm] rfl rfl (getElem_block (alloc_new _ _)) ?c1 (by decide) ?c2 ?c3 ?c4 (wa.heap.size + 1) (by simp) ?_)
          case c1 => simp [Value.oneCell']
          case c2 => unfold maxLen; omega
          case c3 => omega
          case c4 => simp; omega
          intro g gcap w1 hown1 hgrow hat hlt1
          have LAW := (HM.out.alloc _).begun hown1 hgrow (by simpa using hat)
          obtain ⟨L1, L2⟩ := LAW
          have hvt := HM.out.begins.lt
          have hb1 : w1.heap[dm]? = some (.cells #[vs, vt] 151 (0, 0)) := by
            rw [hgrow.block dm (by have := lt_of_block HM.out.head; simp; omega) (fun e => by have := (hvt dm e.symm).1; omega)]
            exact ((Fr.refl none_ wa).alloc _).at_ HM.out.head (fun h => h)
          have hby : w1.heap[wr.heap.size]? = some (.cells #[.int .i64 k', .int .u64 x0, .int .u64 x1, .int .u64 x2, .int .u64 x3, .slice a' kids'.length cap'] 53 (0, 0)) := by
            rw [hgrow.block wr.heap.size (by simp; omega) (fun e => BX.out (.inr (HM.out.in2 _ e.symm)))]
            exact ((Fr.refl none_ wa).alloc _).at_ NYa.out (fun h => h)
          have e1 : w1.cell? ⟨dm, 1, none⟩ = some vt := cell_of_block hb1 rfl
          have ef : w1.frozen? ⟨dm, 1, none⟩ = false := free_of_block hb1
          obtain ⟨z0, z1, z2, z3, z4, z5⟩ := six hby
          have hyd : ¬ wr.heap.size = dm := by omega
          have hyd' : ¬ dm = wr.heap.size := by omega
          have M2 := Lib.hid (show Mach dm (fun k => keepB (fun k => dm < k) wr k ∨ (wa.alloc (.cells #[.int .i64 frm] 3)).heap.size ≤ k) _ _ _ from ⟨_, _, _, _, L1⟩)
          have F2 := Lib.hid ((HFa.out.alloc (.cells #[.int .i64 frm] 3)).fresh L2 (fun k hk => (HLOW.out k hk).1))
          have HL2 := Lib.hid (RxL.move (fun k hk hlt => L2.block k hlt (fun h => by have := (HLOW.out k h).2; omega)) _ _ _ (RxL.move (w' := wa.alloc (.cells #[.int .i64 frm] 3)) (fun k _ hlt => Below.heap_alloc _ _ _ hlt) _ _ _ HLa.out))
          have HK2 := Lib.hid (RxL.move (fun k hk hlt => L2.block k hlt (fun h => by have := (HLOW.out k h).2; omega)) _ _ _ (RxL.move (w' := wa.alloc (.cells #[.int .i64 frm] 3)) (fun k _ hlt => Below.heap_alloc _ _ _ hlt) _ _ _ HKa.out))
          clear L1 L2 hb1 hby hvt hown1 hgrow hat hlt1 HLa HKa HFa MA NYa HM d1 c0 c1 c2 c3 c4 c5
          go_wp2_with fail
          have M3 := M2.out.keep (P := keepB (fun k => dm < k) wr) (fun k hk => .inr (by simp at hk; omega)) BSEP.out
          obtain ⟨fin, hfin⟩ : ∃ N : Nat, (B1 ++ [St.none]).length = N := ⟨_, rfl⟩
          have HFIN := Lib.hid hfin
          have HLAY := Lib.hid (layM_facts (.mk k' x0 x1 x2 x3 kids') (B1 ++ [St.none]) frm)
          have hfr1 := HFRM.out
          have hszk := HSZ.out
          refine (LayC.call (lay_any (.mk k' x0 x1 x2 x3 kids')) fin hfin M3 (RxV.mk_ hc' HL2.out) (by simp; omega) (by simp; omega) HSH.out.snoc (by omega)).mono ?_
          clear hfin M3
          rintro e wc ⟨rfl, Mc, Fc⟩
          have hsc := Fc.size
          have M4 := Mc.mono (S' := fun k => dm < k) (fun k _ hk => by
            rcases hk with hk | hk
            · exact BSEP.out k hk
            · have := M2.out.dlt; omega) (fun k hk => hk)
          have F4 := Lib.hid (F2.out.fresh Fc (fun k hk => (HLOW.out k hk).1))
          have HK4 := Lib.hid (RxL.move (fun k hk hlt => Fc.block k hlt (fun h => by have := (HLOW.out k h).2; omega)) _ _ _ HK2.out)
          obtain ⟨vs4, vt4, fv4, cells4, hm4⟩ := M4
          obtain ⟨g4, cap4, rfl, hg41, hg42⟩ := hm4.form (by have := HLAY.out; omega)
          have hfl : fin < (layM (.mk k' x0 x1 x2 x3 kids') (B1 ++ [St.none]) frm).1.length := by have g1 := HLAY.out; have g2 := HFIN.out; omega
          have d0 : wc.cell? ⟨dm, 0, none⟩ = some (.slice (some ⟨g4, 0, none⟩) (layM (.mk k' x0 x1 x2 x3 kids') (B1 ++ [St.none]) frm).1.length cap4) := cell_of_block hm4.head rfl
          have df : ∀ o, wc.frozen? ⟨g4, o, none⟩ = false := fun o => hm4.rows.frozenAt o
          obtain ⟨tv, htv⟩ : ∃ tv, wc.cell? ⟨g4, fin * 9 + 8, none⟩ = some tv := by
            rw [hm4.rows.cellAt _ (by omega)]
            have : fin * 9 + 8 < cells4.length := by rw [hm4.rows.1]; omega
            exact ⟨_, List.getElem?_eq_getElem this⟩
          have hfl2 : (fin : Int) < ((layM (.mk k' x0 x1 x2 x3 kids') (B1 ++ [St.none]) frm).1.length : Int) := by omega
          have hfl3 : (0 : Int) ≤ (fin : Int) := by omega
          have HM4 := Lib.hid hm4
          generalize hL4 : (layM (.mk k' x0 x1 x2 x3 kids') (B1 ++ [St.none]) frm).1 = L4 at *
          have HL4 := Lib.hid hL4
          clear hm4 Mc Fc hL4 z0 z1 z2 z3 z4 z5 e1 ef hyd hyd'
          obtain ⟨T1, T2⟩ := HM4.out.tagged hfl i
          have T3 := Lib.hid (T1.mono (S' := fun k => dm < k) (fun k _ hk => by
            rcases hk with hk | hk
            · exact hk
            · omega) (fun k hk => hk))
          have T4 := Lib.hid (F4.out.fresh T2 (fun k hk => by
            have := HDM.out
            rcases hk with hk | hk <;> omega))
          have T5 := Lib.hid (RxL.move (fun k hk hlt => T2.block k hlt (fun h => by rcases h with h | h <;> omega)) _ _ _ HK4.out)
          clear T1 T2
          go_wp2_with fail
          have hnext : buildM (rs.take (i + 1)) 0 [] [] = (tagM L4 fin i, B2 ++ [frm]) := by
            rw [HTAKE.out, buildM_snoc, HB1.out, HB2.out, HFRM.out, HL4.out, List.length_take]
            have : (layM (.mk k' x0 x1 x2 x3 kids') (B1 ++ [St.none]) frm).2 = fin := by rw [HLAY.out.2.2.1, HFIN.out]
            rw [this, Nat.min_eq_left (by omega), Nat.zero_add]
          have HNEXT := Lib.hid hnext
          clear hnext
          go_roundw
          case rel =>
            refine ⟨i + 1, by omega, rfl, ?_, T4.out, T5.out⟩
            show Mach dm (fun k => dm < k) _ _ _
            rw [HNEXT.out]
            exact T3.out
          case measure => simp [intOf]; omega
        · obtain rfl : i = rs.length := by omega
          have H : rs.take rs.length = rs := List.take_length
          rw [H] at MR
          clear H
          go_wp2_with fail
          go_ret2
          exact ⟨dm, HDM.out, rfl, MR.out, FR.out⟩
end Go.Proofs.YtnenbihmokolpaaGreatDoor
