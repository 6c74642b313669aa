/-
  mini.Least: the walk.
-/
import Derived.Test.YtnenbihmokolpaaGreatDoorMB
import Derived.Test.YtnenbihmokolpaaGreatDoorKo
namespace Go.Proofs.YtnenbihmokolpaaGreatDoor set_option linter.unusedVariables false set_option linter.unusedSimpArgs false
open Go.RowKit
open Go.Maps

theorem alloc_at3 (w : World) (a b c d : Obj) : ((((w.alloc a).alloc b).alloc c).alloc d).heap[w.heap.size + 1 + 1 + 1]? = some d := by
  have h := alloc_new (((w.alloc a).alloc b).alloc c) d
  rw [show (((w.alloc a).alloc b).alloc c).heap.size = w.heap.size + 1 + 1 + 1 by simp] at h
  exact h

set_option maxRecDepth 100000 in
set_option maxHeartbeats 8000000 in
theorem least_high (D : Dfa) (n k : Nat) (v : Value) (w : World) (h : DfaIn w v D) (hv : DV D n k) (hvt : validM D = true) (hn : n ≤ 10000) (hk : k ≤ 1000000) (ht : ∀ t ∈ D.tags, t < 18446744073709551616) (hp : PowOk w) :
    Calls Tryz.prog 27 #[v] w fun e w' => ∃ u, e = .returned (.tuple #[u, .int .i64 0]) ∧ (∀ wz, Fr (fun k => k < w.heap.size) w' wz → DfaIn wz u (leastM D)) ∧ Fr none_ w w' := by
  obtain ⟨C0, hC0, hz0, hone0⟩ := h.cells
  have HD0 := h
  obtain ⟨nv0, tv0, rfl, hn0, ht0⟩ := h.ex
  obtain ⟨na, ncap, rfl, hrow⟩ := hn0
  obtain ⟨ta, tcap, rfl, htag⟩ := ht0
  have hCe : C0 = dfaC D.cls (.slice na D.next.length ncap) (.slice ta D.tags.length tcap) := by
    injection hC0 with h1
    injection h1 with h1
    exact h1.symm
  obtain ⟨h256, h257⟩ := dfaC_at h.len (.slice na D.next.length ncap) (.slice ta D.tags.length tcap)
  rw [hCe] at hz0 hone0
  have hq : (intsV D.cls).length = 256 := by rw [intsV_length, h.len]
  have hqm : ∀ v ∈ intsV D.cls, v.oneCell' = true := fun v hv => by
    simp only [intsV, List.mem_map] at hv
    obtain ⟨m, _, rfl⟩ := hv
    rfl
  obtain ⟨C, hC⟩ : ∃ C, dfaC D.cls (.slice na D.next.length ncap) (.slice ta D.tags.length tcap) = C := ⟨_, rfl⟩
  have hCQ : C = intsV D.cls ++ [.slice na D.next.length ncap, .slice ta D.tags.length tcap] := hC.symm
  rw [hC] at hz0 hone0 h256 h257 HD0 ⊢
  obtain ⟨Q, hQ⟩ : ∃ Q, intsV D.cls = Q := ⟨_, rfl⟩
  rw [hQ] at hq hqm hCQ
  have HQ := Lib.hid hQ
  have HCQ := Lib.hid hCQ
  have hz := hz0
  have hone := hone0
  have HROW := Lib.hid hrow
  have HTAG := Lib.hid htag
  rw [hv.hn] at h256
  rw [hv.ht] at h257
  have H256 := Lib.hid h256
  have H257 := Lib.hid h257
  have HD := Lib.hid HD0
  have HVT := Lib.hid hvt
  have HV := Lib.hid hv
  have HT := Lib.hid ht
  have HP := Lib.hid hp
  have hpos := hv.pos
  have HLEN := Lib.hid h.len
  have B0 := Lib.hid (((Fr.refl none_ (w.alloc (.cells C.toArray 26))).alloc (.cells Tryz.zeroCells26 26)).at_ (alloc_new w (.cells C.toArray 26)) (fun h => h))
  have hb1 := alloc_new (w.alloc (.cells C.toArray 26)) (.cells Tryz.zeroCells26 26)
  rw [show (w.alloc (.cells C.toArray 26)).heap.size = w.heap.size + 1 by simp] at hb1
  have B1 := Lib.hid hb1
  have F0 := Lib.hid (((Fr.refl none_ w).alloc (.cells C.toArray 26)).alloc (.cells Tryz.zeroCells26 26))
  clear h hv hb1 hvt ht hp hC0 hCe hC hCQ hQ hrow htag h256 h257 hz0 hone0 HD0
  go_enter Tryz.func27, Tryz.ntmps27
  go_wp2_with (refine wpList_load_row rfl 26 _ rfl w.heap.size 26 C _ rfl B0.out Tryz.underlying26 rfl (by rw [hz]; exact dfa_info) ?_)
  refine (valid_any D _ _ (HD.out.move F0.out)).mono ?_
  rintro e w1 ⟨rfl, F1⟩
  rw [HVT.out]
  have B2 := Lib.hid (F1.at_ B1.out (fun h => h))
  have B3 := Lib.hid (F1.at_ B0.out (fun h => h))
  have FF := Lib.hid (F0.out.tr F1)
  clear F1
  go_wp2_with fail
  rename_i K0 hK0
  have key : ∀ (gL g cap b4 : Nat) (w4 : World), Fr none_ w1 w4 → w4.heap[b4]? = some (.cells #[.slice (some ⟨g, 0, none⟩) n cap] 100 (0, 0)) → IRow w4 g (blocksM D) → K0 { tmps := #[.agg C.toArray, .pointer (some ⟨w.heap.size, 0, none⟩), .pointer (some ⟨w.heap.size + 1, 0, none⟩), .int .i64 0, .pointer (some ⟨b4, 0, none⟩), undef, undef, undef, undef, undef, undef, undef, undef, .agg C.toArray, .bool true, .bool false, undef, .agg C.toArray, .agg C.toArray, .slice (some ⟨gL, 0, none⟩) n n, .slice (some ⟨g, 0, none⟩) n cap, undef, undef, undef, undef, undef, undef, undef, undef, undef, undef, undef, undef, undef, undef, undef, undef, undef, undef, undef, undef, undef, undef, undef, undef, undef, undef, undef, undef, undef, undef, undef, undef, undef, undef, undef, undef, undef, undef, undef, undef, undef, undef, undef, undef, undef, undef, undef, undef, undef, undef, undef, undef, undef, undef, undef, undef], defers := [] } w4 := by
    intro gL g cap b4 w4 F4 HB4 HR4
    have F4 := Lib.hid F4
    have HB4 := Lib.hid HB4
    have HR4 := Lib.hid HR4
    refine hK0 _ _ ?_
    clear hK0
    obtain ⟨Bk, hBk⟩ : ∃ x, blocksM D = x := ⟨_, rfl⟩
    have HBK := Lib.hid hBk
    have hbl : Bk.length = n := by rw [← hBk]; exact (blocks_spec HV.out).len
    have HLOW := Lib.hid (show Low n Bk by rw [← hBk]; exact blocks_low HV.out.hn)
    have HBQ := Lib.hid (show BQ D n Bk by rw [← hBk]; exact blocks_bq HV.out)
    rw [hBk] at HR4
    obtain ⟨c, hc⟩ : ∃ c, Bk.getD 0 0 = c := ⟨_, rfl⟩
    have hcl : -1 ≤ c ∧ c ≤ n := by have := HLOW.out.at_ 0; rw [hc] at this; exact this
    have HC0 := Lib.hid hc
    have FW := Lib.hid (FF.out.tr F4.out)
    have hwf : intDom c := WalkArith.wf_i64 (by omega)
    have hkey := intL_some c hwf
    have HK0 := Lib.hid hkey
    have FM := (Fr.refl none_ w4).alloc (.map #[] 0)
    have e1 : (w4.alloc (.map #[] 0)).cell? ⟨b4, 0, none⟩ = some (.slice (some ⟨g, 0, none⟩) n cap) := cell_of_block (FM.at_ HB4.out (fun h => h)) rfl
    have e2 : (w4.alloc (.map #[] 0)).cell? ⟨g, 0, none⟩ = some (.int .i64 c) := by rw [← hc]; exact (HR4.out.move FM).cell (by omega)
    have HM := Lib.hid (World.ownsMap_made w4 Tryz.prog 3 (plainElem (H := Unit) Tryz.prog 3))
    have HFM := Lib.hid FM
    have hpos' : (0 : Int) < (n : Int) := by omega
    have hb1 := fold_class Q hq
    have hone2 := cls_one Q hqm (.slice none 0 0) (.slice none 0 0) rfl rfl
    have hz2 : (Q ++ [Value.slice none 0 0, Value.slice none 0 0]).toArray.size = 258 := by simp [hq]
    have hmm := @run_makeMap Tryz.prog
    clear hBk hc FM hkey
    go_wp2_with (first
      | (refine wpList_insert_own _ rfl (.tmp 21) (.tmp 24) (.const (.int .i64 0)) 119 rfl 3 3 int_law Tryz.underlying119 _ w4.heap.size 0 (.map []) rfl HM.out (by unfold maxLen; omega) (.int .i64 c) (.int .i64 0) (intL c) rfl rfl HK0.out (.lit (.int .i64 0)) [] (plainElem_int Tryz.underlying3 (by decide)) ?_; intro w5 hown5 hgrow5; (have HO5 := Lib.hid hown5); (have F5 := Lib.hid (HFM.out.grown hgrow5 (fun k hk => .inr (by injection hk with hk; omega)))); (have HRG := Lib.hid (show ∀ x y z, (((w5.alloc x).alloc y).alloc z).rangeAt w.heap.size 0 Q from fun x y z => range_pre (D := [.slice na D.next.length ncap, .slice ta D.tags.length tcap]) (by rw [← HCQ.out]; exact range_of (((((F4.out.tr F5.out).alloc x).alloc y).alloc z).at_ B3.out (fun h => h))))); clear hown5 hgrow5)
      | (refine wpList_load_mid rfl 22 (.tmp 28) rfl w.heap.size 0 rfl Q _ ?_ Tryz.underlying22 rfl ?_ ?_; exact HRG.out _ _ _; (rw [hq]; exact arr_info))
      | (refine wpList_store_row rfl 26 (.tmp 8) (.tmp 30) rfl (w5.heap.size + 1 + 1 + 1) 26 Tryz.zeroCells26 (Q ++ [Value.slice none 0 0, Value.slice none 0 0]).toArray rfl rfl ?_ ?_ ?_ hone2 ?_; exact alloc_at3 w5 _ _ _ _; (rw [hz2]; exact dfa_info); (rw [hz2]; exact zeroD_size)))
    obtain ⟨W7, hW7⟩ : ∃ x, ((((w5.alloc (.cells #[.map (some w4.heap.size)] 119)).alloc (.cells #[.int .i64 0] 3)).alloc (.cells #[.slice (some ⟨w5.heap.size + 1, 0, none⟩) 1 1] 100)).alloc (.cells Tryz.zeroCells26 26)).setRow (w5.heap.size + 1 + 1 + 1) (Q ++ [Value.slice none 0 0, Value.slice none 0 0]).toArray = x := ⟨_, rfl⟩
    obtain ⟨hp0, ho0, hf0⟩ := least_start (w1 := w1) F4.out HB4.out HR4.out HC0.out hwf F5.out HO5.out hW7
    have HP0 := Lib.hid hp0
    have HL0 := Lib.hid ho0
    have HW7 := Lib.hid ((F4.out.tr F5.out).tr hf0)
    rw [hW7]
    obtain ⟨mb, hmb⟩ : ∃ x, w4.heap.size = x := ⟨_, rfl⟩
    obtain ⟨b5, hb5⟩ : ∃ x, w5.heap.size = x := ⟨_, rfl⟩
    rw [hmb] at HP0 ⊢
    rw [hb5] at HP0 HL0 ⊢
    obtain ⟨b6, hb6⟩ : ∃ x, b5 + 1 + 1 = x := ⟨_, rfl⟩
    obtain ⟨cb, hcb⟩ : ∃ x, b5 + 1 + 1 + 1 = x := ⟨_, rfl⟩
    have hcb1 : w1.heap.size ≤ cb := by have := F4.out.size; have := F5.out.size; omega
    rw [hb6] at HP0 ⊢
    rw [show b6 + 1 = cb by omega] 
    rw [hcb] at HL0
    obtain ⟨sv0, hsv0⟩ : ∃ x, Value.slice (some ⟨b5 + 1, 0, none⟩) 1 1 = x := ⟨_, rfl⟩
    rw [hsv0] at HP0 HL0
    have HBN := Lib.hid (show Beneath W7.heap.size g b4 b5 b6 mb from HP0.out.beneath)
    obtain ⟨BB, hBB⟩ : ∃ x, W7.heap.size = x := ⟨_, rfl⟩
    rw [hBB] at HL0 HBN
    have HSB := Lib.hid hBB
    have HBB1 := Lib.hid (show w1.heap.size ≤ BB by have := HW7.out.size; omega)
    have HCB1 := Lib.hid hcb1
    have HLR := Lib.hid (lround_zero HV.out HBQ.out)
    obtain ⟨E, hE⟩ : ∃ E, lend D Bk 100000 0 = E := ⟨_, rfl⟩
    have HE := Lib.hid hE
    have HEE := Lib.hid hE
    clear hW7 hp0 ho0 hf0 hcb1 e1 e2 hb1 hone2 hz2 hmm HRG HM HFM hmb hb5 hb6 hcb hsv0 hBB hE
    go_loopw [9] (fun x9 wr => ∃ i : Nat, x9 = .int .i64 i ∧ Aside (LR D n k Bk i (lround D Bk i) ∧ E = lend D Bk (100000 - i) i) ∧ Aside (∃ sv nv vals tv, PlSt wr w1.heap.size n Bk g cap b4 b5 b6 mb sv (lround D Bk i).states ∧ OutL wr BB cb Q sv nv vals tv (lround D Bk i).next (lround D Bk i).tags ∧ Fr none_ w1 wr ∧ BB ≤ wr.heap.size)) (fun x9 _ => n - (intOf x9).toNat)
    case atStart => exact ⟨0, rfl, ⟨HLR.out, HE.out.symm⟩, ⟨sv0, _, _, _, HP0.out, HL0.out, HW7.out, by have := HSB.out; omega⟩⟩
    case round =>
      obtain ⟨i, rfl, h1', h2'⟩ := hrel
      obtain ⟨hlr, hend⟩ := h1'.out
      obtain ⟨sv, nv, vals, tv, hpl, hol, hfr, hbb⟩ := h2'.out
      have HLRi := Lib.hid hlr
      have HEND := Lib.hid hend
      have HPL := Lib.hid hpl
      have HOL := Lib.hid hol
      have HFR := Lib.hid hfr
      have hSn := sts_len HV.out HBQ.out hlr.st
      clear h1' h2' hlr hend hol hfr HP0 HL0 HW7 HLR HE
      obtain ⟨x, hx⟩ : ∃ x, lround D Bk i = x := ⟨_, rfl⟩
      have HX := Lib.hid hx
      rw [hx] at HLRi HPL HOL hpl hSn
      clear hx
      have hi0 : (0 : Int) ≤ (i : Int) := by omega
      obtain ⟨sa, scap, hsv, hscp⟩ := ownsRow_slice hpl.own
      subst hsv
      obtain ⟨L, hL⟩ : ∃ L, x.states.length = L := ⟨_, rfl⟩
      have HLL := Lib.hid hL
      have c6 := cell_of_block (o := 0) hpl.stv rfl
      rw [hL] at HPL HOL hSn hscp hpl c6
      clear hpl
      by_cases hlt : i < L
      case neg =>
        have hiL : i = L := by have := HLRi.out.le; rw [HLL.out] at this; omega
        have hlt' : (L : Int) ≤ (i : Int) := by omega
        have HFIN := Lib.hid (show leastM D = ⟨D.cls, x.next, x.tags⟩ by
          have h1 := HEND.out
          obtain ⟨f, hf⟩ : ∃ f, 100000 - i = f + 1 := ⟨99999 - i, by omega⟩
          rw [hf, lend, HX.out, HLL.out, if_neg hlt] at h1
          rw [leastM, leastOf, HBK.out, show lend D Bk 100000 0 = i by rw [← h1]; exact HEE.out, HX.out])
        have hone3 := HOL.out.ones
        have hone4 := cls_one Q hqm nv tv hone3.1 hone3.2
        have hz3 : (Q ++ [nv, tv]).toArray.size = 258 := by simp [hq]
        have hz4 : (Q ++ [nv, tv]).length = 258 := by simp [hq]
        have hb := HOL.out.blk
        have hr := HFR.out.at_ B2.out (fun h => h)
        clear hone3
        go_wp2_with (first
          | (refine wpList_load_row rfl 26 (.tmp 8) rfl cb 26 (Q ++ [nv, tv]) _ rfl hb Tryz.underlying26 rfl ?_ ?_; (rw [hz4]; exact dfa_info))
          | (refine wpList_store_row rfl 26 (.tmp 2) (.tmp 76) rfl (w.heap.size + 1) 26 Tryz.zeroCells26 (Q ++ [nv, tv]).toArray rfl rfl hr ?_ ?_ hone4 ?_; (rw [hz3]; exact dfa_info); (rw [hz3]; exact zeroD_size)))
        refine bodyPost_ret (results_dfa rfl rfl (setRow_heap _ _ _ _ _ _ hr) hz4) rfl ?_
        have hfw : Fr none_ w (wr.setRow (w.heap.size + 1) (Q ++ [nv, tv]).toArray) := Fr.setRow (FF.out.tr HFR.out) (.inr (by omega)) _
        refine ⟨_, rfl, fun wz FZ => ?_, hfw⟩
        rw [HFIN.out]
        have hbb1 := HBB1.out
        have hb2 := lt_of_block B2.out
        have hdn := HOL.out.high ((Fr.setRow (S := fun k => k < BB) (Fr.refl _ wr) (.inl (by show w.heap.size + 1 < BB; omega)) (Q ++ [nv, tv]).toArray).trans FZ (fun i _ h1 => by show i < BB; have h2 : i < w.heap.size := h1; omega))
        refine ⟨⟨nv, tv, by rw [dfaC]; show _ = Value.agg (intsV D.cls ++ _).toArray; rw [HQ.out], hdn.1, hdn.2⟩, HLEN.out, ?_, ?_⟩
        · show x.next.length ≤ _
          rw [HLRi.out.hn]; omega
        · intro r hr2
          obtain ⟨j, hj, rfl⟩ := List.getElem_of_mem hr2
          have h1 := HLRi.out.row j (by rw [← HLRi.out.hn]; exact hj)
          have h2 : x.next.getD j [] = x.next[j] := by simp [List.getD, List.getElem?_eq_getElem hj]
          rw [h2] at h1
          show x.next[j].length ≤ _
          omega
      case pos =>
        have hil : (i : Int) < (L : Int) := by omega
        have hqs := HLRi.out.st.lt _ (getD_mem (show i < x.states.length by rw [HLL.out]; exact hlt) 0)
        obtain ⟨p, hp⟩ := Int.eq_ofNat_of_zero_le hqs.1
        have hsx : x.states[i]? = some (p : Int) := by
          rw [← hp, List.getD, List.getElem?_eq_getElem (by rw [HLL.out]; exact hlt)]; rfl
        have hpn : p < n := by rw [hp] at hqs; omega
        have HQS := Lib.hid hp
        obtain ⟨r, hr⟩ : ∃ r, D.next[p]? = some r := ⟨_, List.getElem?_eq_getElem (by rw [HV.out.hn]; exact hpn)⟩
        obtain ⟨z, hzz⟩ : ∃ z, D.tags[p]? = some z := ⟨_, List.getElem?_eq_getElem (by rw [HV.out.ht]; exact hpn)⟩
        obtain ⟨ad, rv, rfl, hc1, ra, rcap, rfl, hrc⟩ := HROW.out p r hr
        obtain ⟨td, rfl, hc2⟩ := HTAG.out p z hzz
        have hzl : z < 18446744073709551616 := HT.out z (List.mem_of_getElem? hzz)
        have HRT := Lib.hid (show ∀ t ∈ r, -1 ≤ t ∧ t < n from (HV.out.row r (List.mem_of_getElem? hr)).2)
        have hrk : r.length = k := (HV.out.row r (List.mem_of_getElem? hr)).1
        have HRC := Lib.hid hrc
        have HGR := Lib.hid (show D.next.getD p [] = r by rw [List.getD, hr]; rfl)
        have HGT := Lib.hid (show D.tags.getD p 0 = z by rw [List.getD, hzz]; rfl)
        have f1 : wr.cell? ⟨w.heap.size, 256, none⟩ = some (.slice (some ad) n ncap) := cell_of_block (HFR.out.at_ B3.out (fun h => h)) (by simpa using H256.out)
        obtain ⟨sg, rfl, f3⟩ := row_at0 HPL.out.own (i := i) (x := .int .i64 (p : Int)) (by simp [intsV, hsx])
        have f4 := cell_move (FF.out.tr HFR.out) hc1
        have hp0 : (0 : Int) ≤ (p : Int) := by omega
        have hp1 : (p : Int) < (n : Int) := by omega
        have HC2 := Lib.hid hc2
        clear hr hzz hc1 hc2 hrc hp hsx hqs
        go_wp2_with fail
        go_quiet (fail)
        have FQ := Lib.hid ((Fr.refl none_ wr).drewN nq)
        have HPLb := Lib.hid (HPL.out.move FQ.out)
        have HOLb := Lib.hid (HOL.out.move FQ.out)
        have HFRb := Lib.hid (HFR.out.tr FQ.out)
        have hbb2 : BB ≤ (wr.drewN nq).heap.size := hbb
        obtain ⟨wb, hwb⟩ : ∃ y, wr.drewN nq = y := ⟨_, rfl⟩
        rw [hwb] at HPLb HOLb HFRb hbb2 ⊢
        have HRL := Lib.hid hrk
        have HBNb := Lib.hid (show Beneath wb.heap.size g b4 b5 b6 mb from HPLb.out.beneath)
        clear f1 f3 f4 c6 FQ hwb hrk hbb
        have HST0 := Lib.hid (fun (j : Nat) (hj : j ≤ r.length) => lrow_ok HBQ.out (row := r) (fun c hc => HRT.out _ (getD_mem hc 0)) HLRi.out.st j hj)
        go_wp2_with fail
        go_loopw [10, 46] (fun x10 x46 wr => ∃ j : Nat, j ≤ k ∧ x46 = .int .i64 j ∧ Aside (RowL wb wr w1.heap.size n Bk g cap b4 b5 b6 mb (.slice (some ⟨sg, 0, none⟩) L scap) (lrow Bk r x.states j).1 x10 (lrow Bk r x.states j).2)) (fun _ x46 _ => k - (intOf x46).toNat)
        case atStart => exact ⟨0, Nat.zero_le _, rfl, RowL.start HPLb.out⟩
        case round =>
          obtain ⟨j, hj', rfl, hrow⟩ := hrel
          obtain ⟨⟨sv', hp', ho', ha'⟩, hr', hf'⟩ := hrow.out
          obtain ⟨hst, _, hln, _⟩ := HST0.out j (by rw [HRL.out]; exact hj')
          have hsl := sts_len HV.out HBQ.out hst
          have HP' := Lib.hid hp'
          have HO' := Lib.hid ho'
          have HA' := Lib.hid ha'
          have HR' := Lib.hid hr'
          have HF' := Lib.hid hf'
          have HF1 := Lib.hid (HPLb.out.fresh HFRb.out (Nat.le_refl _) hf')
          clear hrow hp' ho' ha' hr' hf' hst
          have HNX := Lib.hid (show lrow Bk r x.states (j + 1) = ((plM Bk (lrow Bk r x.states j).1 (r.getD j 0)).1, (lrow Bk r x.states j).2 ++ [(plM Bk (lrow Bk r x.states j).1 (r.getD j 0)).2]) from rfl)
          obtain ⟨y, hy⟩ : ∃ y, lrow Bk r x.states j = y := ⟨_, rfl⟩
          have HY := Lib.hid hy
          rw [hy] at HP' HR' HNX hln hsl
          obtain ⟨xa, xcap, hxv, hxc⟩ := ownsRow_slice HR'.out
          rw [hln] at hxv hxc
          subst hxv
          have hj0 : (0 : Int) ≤ (j : Int) := by omega
          clear hy
          by_cases hlt2 : j < k
          case pos =>
            have hjl : (j : Int) < (k : Int) := by omega
            obtain ⟨t, ht⟩ : ∃ t, r[j]? = some t := ⟨_, List.getElem?_eq_getElem (by rw [HRL.out]; exact hlt2)⟩
            have htr := HRT.out t (List.mem_of_getElem? ht)
            have htg : r.getD j 0 = t := by simp [List.getD, ht]
            rw [htg] at HNX
            obtain ⟨xd, rfl, hcx⟩ := HRC.out j t ht
            have g1 := cell_move (FF.out.tr HF1.out) hcx
            clear ht htg hcx
            go_wp2_with fail
            refine (place_any t w1.heap.size n Bk g cap b4 b5 b6 mb sv' y.1 wr HP'.out hbl HLOW.out htr (by omega) (by omega)).mono ?_
            rintro e w8 ⟨rfl, sv2, hp2, f2, ho2⟩
            obtain ⟨Z, hZ⟩ : ∃ Z, (plM Bk y.1 t).2 = Z := ⟨_, rfl⟩
            obtain ⟨S2, hS2⟩ : ∃ S2, (plM Bk y.1 t).1 = S2 := ⟨_, rfl⟩
            rw [hZ, hS2] at HNX
            rw [hS2] at hp2
            rw [hZ]
            have HP2 := Lib.hid hp2
            have HF2 := Lib.hid f2
            have HO2 := Lib.hid ho2
            have HRZ := Lib.hid (show w8.ownsRow wb.heap.size 3 1 (.slice xa j xcap) j (intsV y.2) by
              have h1 := row_keep HR'.out f2 (by
                obtain ⟨_, _, _, q4, q5⟩ := HBNb.out
                rintro k hk (rfl | rfl | h3)
                · have := (HR'.out.lt k hk).1; omega
                · have := (HR'.out.lt k hk).1; omega
                · exact HA'.out k hk h3)
              rw [hln] at h1
              exact h1)
            have hwb8 : wb.heap.size ≤ w8.heap.size := by have := HF'.out.size; have := f2.size; omega
            clear hp2 f2 ho2 hZ hS2 g1
            obtain ⟨i0, hi, hz0, hz1, hz2⟩ := info_parts int_info
            go_wp2_with (at_builtin; refine wpList_append_lies _ rfl (.tmp 50) (.tmp 54) 100 rfl wb.heap.size 3 i0 _ 1 8 Tryz.underlying100 hi hz0 hz1 hz2 rfl (by decide) _ j (intsV y.2) rfl (HRZ.out.alloc _) ⟨w8.heap.size, 0, none⟩ 1 1 [.int .i64 Z] rfl rfl (getElem_block (alloc_new _ _)) ?c1 (by decide) ?c2 ?c3 ?c4 (w8.heap.size + 1) (by simp) ?_)
            case c1 => simp [Value.oneCell']
            case c2 => unfold maxLen; omega
            case c3 => omega
            case c4 => first | omega | (simp; omega)
            intro g2 cap2 w9 hown9 hgrow9 hat9 hlt9
            have HNEW := Lib.hid (show RowL wb w9 w1.heap.size n Bk g cap b4 b5 b6 mb (.slice (some ⟨sg, 0, none⟩) L scap) S2 (.slice (some ⟨g2, 0, none⟩) (j + 1) cap2) (y.2 ++ [Z]) from by
              have h1 := RowL.step (g2 := g2) (cap2 := cap2) (xv := .slice xa j xcap) (row := y.2) (z := Z) HBNb.out HP'.out HO'.out HA'.out HR'.out HF'.out HP2.out HF2.out HO2.out hgrow9 (by rw [hln]; exact hown9) hat9
              rw [hln] at h1
              exact h1)
            clear hown9 hgrow9 hat9 hlt9
            go_wp2_with fail
            go_roundw
            case rel => exact ⟨j + 1, by omega, by go_num, by rw [HNX.out]; exact HNEW.out⟩
            case measure => simp [intOf]; omega
          case neg =>
            obtain rfl : j = k := by omega
            have HLRn := Lib.hid (lround_succ HV.out HBQ.out (i := i) (by rw [HX.out]; exact HLRi.out) (by rw [HX.out, HLL.out]; exact hlt))
            have HSTR := Lib.hid (HST0.out j (by rw [HRL.out]; exact Nat.le_refl _)).2.1
            rw [HY.out] at HSTR
            have HNXT := Lib.hid (show lround D Bk (i + 1) = ⟨y.1, x.next ++ [y.2], x.tags ++ [z]⟩ by
              simp only [lround, HX.out, HQS.out, Int.toNat_natCast, HGR.out, HGT.out, HRL.out, HY.out])
            have hOo := HOLb.out.over HPLb.out HBN.out HF'.out HO'.out
            obtain ⟨na2, ncap2, hnv, hncp⟩ := ownsRow_slice hOo.row
            obtain ⟨ta2, tcap2, htv, htcp⟩ := ownsRow_slice hOo.tgs
            rw [HLRi.out.hn] at hnv hncp
            rw [HLRi.out.ht] at htv htcp
            subst hnv
            subst htv
            have HOO := Lib.hid hOo
            have e256 : wr.cell? ⟨cb, 256, none⟩ = some (.slice na2 i ncap2) := cell_of_block hOo.blk (at_256 Q hq _ _)
            obtain ⟨i0, hi, hz0, hz1, hz2⟩ := info_parts row_info
            have HNR := Lib.hid (show wr.ownsRow BB 100 1 (.slice na2 i ncap2) i vals by have h1 := hOo.row; rw [HLRi.out.hn] at h1; exact h1)
            have HCB := Lib.hid (show ∀ (wn : World), (wr.alloc (.cells #[.slice xa j xcap] 100)).grownBy wn (Value.slice na2 i ncap2).ownBlock → wn.heap[cb]? = some (.cells (Q ++ [Value.slice na2 i ncap2, Value.slice ta2 i tcap2]).toArray 26 (0, 0)) from fun wn hg =>
              (((Fr.refl _ wr).alloc _).grown hg (fun k hk => .inl hk) : Fr (fun k => (Value.slice na2 i ncap2).ownBlock = some k) wr wn).at_ hOo.blk (row_off hOo.row hOo.blk (by decide)))
            have hbw : BB ≤ wr.heap.size := by have := HF'.out.size; omega
            clear hOo
            go_wp2_with (at_builtin; refine wpList_append_lies _ rfl (.tmp 58) (.tmp 60) 23 rfl BB 100 i0 _ 1 24 Tryz.underlying23 hi hz0 hz1 hz2 rfl (by decide) _ i vals rfl (HNR.out.alloc _) ⟨wr.heap.size, 0, none⟩ 1 1 [.slice xa j xcap] rfl rfl (getElem_block (alloc_new _ _)) (by simp [Value.oneCell']) (by decide) (by unfold maxLen; omega) (by omega) (by first | omega | (simp; omega)) (wr.heap.size + 1) (by simp) ?_; intro g2 cap2 w9 hown9 hgrow9 hat9 hlt9; (have HB9 := Lib.hid (HCB.out w9 hgrow9)); (have c256 : w9.cell? ⟨cb, 256, none⟩ = some (.slice na2 i ncap2) := cell_of_block HB9.out (at_256 Q hq _ _)); (have f256 : w9.frozen? ⟨cb, 256, none⟩ = false := free_of_block HB9.out); (have HOW9 := Lib.hid hown9); (have HG9 := Lib.hid hgrow9); (have HA9 : Hid ((Value.slice na2 i ncap2).ownBlock = some g2 ∨ g2 = wr.heap.size + 1) := Lib.hid hat9); clear hown9 hgrow9 hat9 hlt9)
            have hput := OutL.put (row := y.2) (xv := .slice xa j xcap) (g2 := g2) (cap2 := cap2) HOO.out hq (ownsRow_base HR'.out hbb2) HA'.out HG9.out (by rw [HLRi.out.hn]; exact HOW9.out) HA9.out
            rw [HLRi.out.hn] at hput
            have HPq := Lib.hid (HOO.out.pl HP'.out HBN.out HOO.out.row (by decide) hput.2)
            have HFq := Lib.hid (HF1.out.fresh hput.2 (by
              rintro k (hk | rfl)
              · have := (HOO.out.row.lt k hk).1; have := HBB1.out; omega
              · exact HCB1.out))
            have HOq := Lib.hid hput.1
            have hsq : wr.heap.size ≤ (w9.setCell ⟨cb, 256, none⟩ (.slice (some ⟨g2, 0, none⟩) (i + 1) cap2)).heap.size := hput.2.size
            obtain ⟨wq, hwq⟩ : ∃ q, w9.setCell ⟨cb, 256, none⟩ (.slice (some ⟨g2, 0, none⟩) (i + 1) cap2) = q := ⟨_, rfl⟩
            rw [hwq] at HPq HFq HOq hsq ⊢
            obtain ⟨T, hT⟩ := HSTR.out
            have hyi : y.1[i]? = some (p : Int) := by
              rw [hT, List.getElem?_append_left (by rw [HLL.out]; exact hlt), List.getElem?_eq_getElem (by rw [HLL.out]; exact hlt)]
              have h1 := HQS.out
              rw [List.getD, List.getElem?_eq_getElem (by rw [HLL.out]; exact hlt)] at h1
              rw [← h1]; rfl
            have hyl : L ≤ y.1.length := by rw [hT, List.length_append, HLL.out]; omega
            obtain ⟨sa2, scap2, hsv2, hsc2⟩ := ownsRow_slice HPq.out.own
            subst hsv2
            obtain ⟨N2, hN2⟩ : ∃ N, y.1.length = N := ⟨_, rfl⟩
            have HN2 := Lib.hid hN2
            have hpq := HPq.out
            rw [hN2] at hpq hyl hsc2
            have hown := HPq.out.own
            obtain ⟨sg2, rfl, hsc3⟩ := row_at0 hown (i := i) (x := .int .i64 (p : Int)) (by simp [intsV, hyi])
            have hiN : (i : Int) < (N2 : Int) := by omega
            have e1 : wq.drew.cell? ⟨w.heap.size, 257, none⟩ = some (.slice (some td) n tcap) := cell_of_block (w := wq.drew) (HFq.out.at_ B3.out (fun h => h)) (by simpa using H257.out)
            have e2 : wq.drew.cell? ⟨b6, 0, none⟩ = some (.slice (some ⟨sg2, 0, none⟩) N2 scap2) := cell_of_block (w := wq.drew) hpq.stv rfl
            have e3 : wq.drew.cell? ⟨sg2, i, none⟩ = some (.int .i64 (p : Int)) := hsc3
            have e4 : wq.drew.cell? (td.add p) = some (.int .u64 z) := cell_move (w' := wq.drew) (FF.out.tr (HFq.out.drew)) HC2.out
            have e5 : wq.drew.cell? ⟨cb, 257, none⟩ = some (.slice ta2 i tcap2) := cell_of_block (w := wq.drew) HOq.out.blk (at_257 Q hq _ _)
            have e6 : (wq.alloc (.cells #[.int .u64 (z : Int)] 28)).cell? ⟨cb, 257, none⟩ = some (.slice ta2 i tcap2) := cell_of_block ((Fr.alloc (Fr.refl none_ wq) _).at_ HOq.out.blk (fun h => h)) (at_257 Q hq _ _)
            obtain ⟨j0, hj, hy0, hy1, hy2⟩ := info_parts set_info
            have HTR := Lib.hid (show wq.ownsRow BB 28 1 (.slice ta2 i tcap2) i (setsV x.tags) by have h1 := HOq.out.tgs; rw [HLRi.out.ht] at h1; exact h1)
            have HCB2 := Lib.hid (show ∀ (wn : World), (wq.drew.alloc (.cells #[.int .u64 (z : Int)] 28)).grownBy wn (Value.slice ta2 i tcap2).ownBlock → wn.heap[cb]? = some (.cells (Q ++ [Value.slice (some ⟨g2, 0, none⟩) (i + 1) cap2, Value.slice ta2 i tcap2]).toArray 26 (0, 0)) from fun wn hg =>
              (((Fr.refl _ wq).drew.alloc _).grown hg (fun k hk => .inl hk) : Fr (fun k => (Value.slice ta2 i tcap2).ownBlock = some k) wq wn).at_ HOq.out.blk (row_off HOq.out.tgs HOq.out.blk (by decide)))
            have hbq : BB ≤ wq.heap.size := by omega
            have HSF := Lib.hid (show ∀ (wn : World), Fr (fun k => (Value.slice ta2 i tcap2).ownBlock = some k ∨ k = cb) wq wn → (wn.cell? ⟨w.heap.size, 257, none⟩ = some (.slice (some td) n tcap) ∧ wn.cell? ⟨b6, 0, none⟩ = some (.slice (some ⟨sg2, 0, none⟩) N2 scap2) ∧ wn.cell? ⟨sg2, i, none⟩ = some (.int .i64 (p : Int)) ∧ wn.cell? (td.add p) = some (.int .u64 z)) from fun wn hf => by
              have g1 : Fr none_ w1 wn := HFq.out.fresh hf (by
                rintro k (hk | rfl)
                · have := (HOq.out.tgs.lt k hk).1; have := HBB1.out; omega
                · exact HCB1.out)
              have g2 := HOq.out.pl HPq.out HBN.out HOq.out.tgs (by decide) hf
              have g3 := g2.own
              obtain ⟨sg3, h3, h4⟩ := row_at0 g3 (i := i) (x := .int .i64 (p : Int)) (by simp [intsV, hyi])
              obtain rfl : sg2 = sg3 := by injection h3 with h3; injection h3
              refine ⟨cell_of_block (g1.at_ B3.out (fun h => h)) (by simpa using H257.out), ?_, h4, cell_move (FF.out.tr g1) HC2.out⟩
              rw [hN2] at g2
              exact cell_of_block g2.stv rfl)
            clear hput hwq HB9 HNR HCB HOW9 HG9 HA9 c256 f256 e256 hT hyi hpq hown hsc3
            go_wp2_with fail
            refine wp_region_held_drew (S := fun w' => w'.cell? ⟨w.heap.size, 257, none⟩ = some (.slice (some td) n tcap) ∧ w'.cell? ⟨b6, 0, none⟩ = some (.slice (some ⟨sg2, 0, none⟩) N2 scap2) ∧ w'.cell? ⟨sg2, i, none⟩ = some (.int .i64 (p : Int)) ∧ w'.cell? (td.add p) = some (.int .u64 z)) (by kernel_rfl) ⟨e1, e2, e3, e4⟩ (fun hHeld => ?_)
            refine wpAnyH_take (i := 0) (v := ?_) lot0 (by kernel_rfl) (by kernel_rfl) (by kernel_rfl) (fun _ _ _ h => h) (Or.inl ⟨by rfl, ?_⟩) (by assumption) ?_
            rotate_left
            · (intro w hSw; (try dsimp only at hSw); go_simp) <;> with_reducible rfl
            try simp only [Act.put, List.setIfInBounds_toArray, List.set_cons_zero, List.set_cons_succ]
            refine wpAnyH_take (i := 2) (v := ?_) lot2 (by kernel_rfl) (by kernel_rfl) (by kernel_rfl) (fun _ _ _ h => h) (Or.inl ⟨by rfl, ?_⟩) (by assumption) ?_
            rotate_left
            · (intro w hSw; (try dsimp only at hSw); go_simp) <;> with_reducible rfl
            try simp only [Act.put, List.setIfInBounds_toArray, List.set_cons_zero, List.set_cons_succ]
            refine wpAnyH_take (i := 3) (v := ?_) lot3 (by kernel_rfl) (by kernel_rfl) (by kernel_rfl) (fun _ _ _ h => h) (Or.inl ⟨by rfl, ?_⟩) (by assumption) ?_
            rotate_left
            · (intro w hSw; (try dsimp only at hSw); go_simp) <;> with_reducible rfl
            try simp only [Act.put, List.setIfInBounds_toArray, List.set_cons_zero, List.set_cons_succ]
            refine wpAnyH_take (i := 4) (v := ?_) lot4 (by kernel_rfl) (by kernel_rfl) (by kernel_rfl) (fun _ _ _ h => h) (Or.inl ⟨by rfl, ?_⟩) (by assumption) ?_
            rotate_left
            · (intro w hSw; (try dsimp only at hSw); go_simp) <;> with_reducible rfl
            try simp only [Act.put, List.setIfInBounds_toArray, List.set_cons_zero, List.set_cons_succ]
            refine wpAnyH_take (i := 5) (v := ?_) lot5 (by kernel_rfl) (by kernel_rfl) (by kernel_rfl) (fun _ _ _ h => h) (Or.inl ⟨by rfl, ?_⟩) (by assumption) ?_
            rotate_left
            · (intro w hSw; (try dsimp only at hSw); go_simp) <;> with_reducible rfl
            try simp only [Act.put, List.setIfInBounds_toArray, List.set_cons_zero, List.set_cons_succ]
            refine wpAnyH_take (i := 6) (v := ?_) lot6 (by kernel_rfl) (by kernel_rfl) (by kernel_rfl) (fun _ _ _ h => h) (Or.inl ⟨by rfl, ?_⟩) (by assumption) ?_
            rotate_left
            · (intro w hSw; (try dsimp only at hSw); go_simp) <;> with_reducible rfl
            try simp only [Act.put, List.setIfInBounds_toArray, List.set_cons_zero, List.set_cons_succ]
            refine wpAnyH_take (i := 7) (v := ?_) lot7 (by kernel_rfl) (by kernel_rfl) (by kernel_rfl) (fun _ _ _ h => h) (Or.inl ⟨by rfl, ?_⟩) (by assumption) ?_
            rotate_left
            · (intro w hSw; (try dsimp only at hSw); go_simp) <;> with_reducible rfl
            try simp only [Act.put, List.setIfInBounds_toArray, List.set_cons_zero, List.set_cons_succ]
            refine wpAnyH_take (i := 8) (v := ?_) lot8 (by kernel_rfl) (by kernel_rfl) (by kernel_rfl) (fun _ _ _ h => h) (Or.inl ⟨by rfl, ?_⟩) (by assumption) ?_
            rotate_left
            · (intro w hSw; (try dsimp only at hSw); go_simp) <;> with_reducible rfl
            try simp only [Act.put, List.setIfInBounds_toArray, List.set_cons_zero, List.set_cons_succ]
            refine wpAnyH_take (i := 9) (v := ?_) lot9 (by kernel_rfl) (by kernel_rfl) (by kernel_rfl) (fun _ _ _ h => h) (Or.inl ⟨by rfl, ?_⟩) (by assumption) ?_
            rotate_left
            · (intro w hSw; (try dsimp only at hSw); go_simp) <;> with_reducible rfl
            try simp only [Act.put, List.setIfInBounds_toArray, List.set_cons_zero, List.set_cons_succ]
            refine wpAnyH_ready (rs := [1, 10]) (by kernel_rfl) (by simp) ?_
            refine AllReadyH.cons lot1 (fun K hK => ?gA) (AllReadyH.cons lot10 (fun K hK => ?gB) AllReadyH.nil)
            case' gA =>
              go_simp
              refine hK.out _ _ (HSF.out _ ((Fr.refl _ wq).drew)) (fun hHeld => ?_)
              clear hK K
              try simp only [Act.put, List.setIfInBounds_toArray, List.set_cons_zero, List.set_cons_succ]
              refine wpAnyH_ready (rs := [10]) (by kernel_rfl) (by simp) ?_
              refine AllReadyH.cons lot10 (fun K hK => ?_) AllReadyH.nil
              go_simp
              refine hK.out _ _ (HSF.out _ ((Fr.refl _ wq).drew.alloc (.cells #[.int .u64 (z : Int)] 28))) (fun hHeld => ?_)
              clear hK K
              try simp only [Act.put, List.setIfInBounds_toArray, List.set_cons_zero, List.set_cons_succ]
            case' gB =>
              go_simp
              refine hK.out _ _ (HSF.out _ ((Fr.refl _ wq).drew.alloc (.cells #[.int .u64 (z : Int)] 28))) (fun hHeld => ?_)
              clear hK K
              try simp only [Act.put, List.setIfInBounds_toArray, List.set_cons_zero, List.set_cons_succ]
              refine wpAnyH_ready (rs := [1]) (by kernel_rfl) (by simp) ?_
              refine AllReadyH.cons lot1 (fun K hK => ?_) AllReadyH.nil
              go_simp
              refine hK.out _ _ (HSF.out _ ((Fr.refl _ wq).drew.alloc (.cells #[.int .u64 (z : Int)] 28))) (fun hHeld => ?_)
              clear hK K
              try simp only [Act.put, List.setIfInBounds_toArray, List.set_cons_zero, List.set_cons_succ]
            all_goals
              refine wpAnyH_ready (rs := [11]) (by kernel_rfl) (by simp) ?_
              refine AllReadyH.cons lot11 (fun K hK => ?_) AllReadyH.nil
              refine step_append_lies _ rfl (.tmp 64) (.tmp 73) 24 rfl BB 28 j0 _ 1 8 Tryz.underlying24 hj hy0 hy1 hy2 rfl (by decide) _ i (setsV x.tags) rfl (HTR.out.drew.alloc _) ⟨wq.heap.size, 0, none⟩ 1 1 [.int .u64 (z : Int)] rfl rfl (getElem_block (w := wq.drew.alloc _) (alloc_new _ _)) (by simp [Value.oneCell']) (by decide) (by unfold maxLen; omega) (by omega) (by simp; omega) (wq.heap.size + 1) (by simp) ?_
              intro g3 cap3 wt hownt hgrowt hatt hltt
              have HBT := Lib.hid (HCB2.out wt hgrowt)
              have c257 : wt.cell? ⟨cb, 257, none⟩ = some (.slice ta2 i tcap2) := cell_of_block HBT.out (at_257 Q hq _ _)
              have f257 : wt.frozen? ⟨cb, 257, none⟩ = false := free_of_block HBT.out
              have HOWT := Lib.hid hownt
              have HGT2 := Lib.hid hgrowt
              have HATT : Hid ((Value.slice ta2 i tcap2).ownBlock = some g3 ∨ g3 = wq.heap.size + 1) := Lib.hid hatt
              have HFT := Lib.hid (show Fr (fun k => (Value.slice ta2 i tcap2).ownBlock = some k ∨ k = cb) wq wt from ((Fr.refl _ wq).drew.alloc (.cells #[.int .u64 (z : Int)] 28)).grown hgrowt (fun k hk => .inl (.inl hk)))
              clear hownt hgrowt hatt hltt
              refine hK.out _ _ (HSF.out _ HFT.out) (fun hHeld => ?_)
              clear hK K
              try simp only [Act.put, List.setIfInBounds_toArray, List.set_cons_zero, List.set_cons_succ]
              refine wpAnyH_take (i := 12) (v := ?_) lot12 (by kernel_rfl) (by kernel_rfl) (by kernel_rfl) (fun _ _ _ h => h) (Or.inl ⟨by rfl, ?_⟩) (by assumption) ?_
              rotate_left
              · (intro w hSw; (try dsimp only at hSw); go_simp) <;> with_reducible rfl
              try simp only [Act.put, List.setIfInBounds_toArray, List.set_cons_zero, List.set_cons_succ]
              refine wpAnyH_ready (rs := [13]) (by kernel_rfl) (by simp) ?_
              refine AllReadyH.cons lot13 (fun K hK => ?_) AllReadyH.nil
              go_simp
              refine hK.out _ _ (HSF.out _ (HFT.out.setCell (p := ⟨cb, 257, none⟩) (.inl (.inr rfl)) _)) (fun hHeld => ?_)
              clear hK K
              try simp only [Act.put, List.setIfInBounds_toArray, List.set_cons_zero, List.set_cons_succ]
              refine wpAnyH_done (by kernel_rfl) ?_ _
              have htag := OutL.tag (z := z) (g2 := g3) (cap2 := cap3) HOq.out hq (wd := wq.drew.alloc (.cells #[.int .u64 (z : Int)] 28)) ((Fr.refl none_ wq).drew.alloc _) HGT2.out (by rw [HLRi.out.ht]; exact HOWT.out) (HATT.out.imp id (fun h => by omega))
              rw [HLRi.out.ht] at htag
              have HPt := Lib.hid (HOq.out.pl HPq.out HBN.out HOq.out.tgs (by decide) htag.2)
              have HFt := Lib.hid (HFq.out.fresh htag.2 (by
                rintro k (hk | rfl)
                · have := (HOq.out.tgs.lt k hk).1; have := HBB1.out; omega
                · exact HCB1.out))
              have HOt := Lib.hid htag.1
              have hst : BB ≤ (wt.setCell ⟨cb, 257, none⟩ (.slice (some ⟨g3, 0, none⟩) (i + 1) cap3)).heap.size := by have := htag.2.size; omega
              clear htag c257 f257 HBT HOWT HGT2 HATT HFT
              go_wp2_with fail
              go_roundw
              case rel =>
                refine ⟨i + 1, by go_num, ⟨HLRn.out, ?_⟩, ?_⟩
                · have h1 := HEND.out
                  obtain ⟨f, hf⟩ : ∃ f, 100000 - i = f + 1 := ⟨99999 - i, by omega⟩
                  rw [hf, lend, HX.out, HLL.out, if_pos hlt] at h1
                  rw [show 100000 - (i + 1) = f by omega]
                  exact h1
                · show ∃ sv nv vals tv, _
                  rw [HNXT.out]
                  exact ⟨_, _, _, _, HPt.out, HOt.out, HFt.out, hst⟩
              case measure => simp [intOf]; omega
  refine wp_region_held_drew (S := fun w' => w'.rangeAt w.heap.size 0 C) (by kernel_rfl) (range_of ((Fr.refl none_ w1).drew.at_ B3.out (fun h => h))) (fun hHeld => ?_)
  refine wpAnyH_take (i := 0) lot0 (by kernel_rfl) (by kernel_rfl) (by kernel_rfl) (fun _ _ _ h => h) (yieldsIf_load_mid (by rfl) _ _ rfl _ _ rfl C _ (fun _ h => h) Tryz.underlying26 rfl (by rw [hz]; exact dfa_info)) (by assumption) ?_
  try simp only [Act.put, List.setIfInBounds_toArray, List.set_cons_zero, List.set_cons_succ]
  refine wpAnyH_take (i := 1) lot1 (by kernel_rfl) (by kernel_rfl) (by kernel_rfl) (fun _ _ _ h => h) (yieldsIf_load_mid (by rfl) _ _ rfl _ _ rfl C _ (fun _ h => h) Tryz.underlying26 rfl (by rw [hz]; exact dfa_info)) (by assumption) ?_
  try simp only [Act.put, List.setIfInBounds_toArray, List.set_cons_zero, List.set_cons_succ]
  refine wpAnyH_ready (rs := [2, 4]) (by kernel_rfl) (by simp) ?_
  refine AllReadyH.cons lot2 (fun K hK => ?ga) (AllReadyH.cons lot4 (fun K hK => ?gb) AllReadyH.nil)
  case' ga =>
    go_simp
    go_at_call 60
    refine (lives_any D n k _ _ (HD.out.move (FF.out.tr (Fr.refl none_ w1).drew)) HV.out (by omega) hk).mono ?_
    rintro e w2 ⟨gL, rfl, hgl, hgl2, FL⟩
    have GL := Lib.hid (((Fr.refl none_ w1).drew).tr FL)
    have HGL := Lib.hid hgl
    have FL0 := Lib.hid FL
    clear FL hgl
    refine hK.out _ _ (range_of (GL.out.at_ B3.out (fun h => h))) (fun hHeld => ?_)
    clear hK K
    try simp only [Act.put, List.setIfInBounds_toArray, List.set_cons_zero, List.set_cons_succ]
    refine wpAnyH_ready (rs := [3, 4]) (by kernel_rfl) (by simp) ?_
    refine AllReadyH.cons lot3 (fun K hK => ?gc) (AllReadyH.cons lot4 (fun K hK => ?gd) AllReadyH.nil)
  case' gc =>
    go_simp
    go_at_call 59
    refine (blocks_any D n k _ _ (HD.out.move (FF.out.tr GL.out)) HV.out (by omega) hk HT.out (livesM D) gL (lives_spec HV.out).1 HGL.out (HP.out.move (FF.out.tr GL.out))).mono ?_
    rintro e w3 ⟨g, cap, rfl, hrow, hg2, FB⟩
    have GB := Lib.hid ((GL.out).tr FB)
    have HRW := Lib.hid (show IRow w3 g (blocksM D) by unfold blocksM; rw [HV.out.hn]; exact hrow)
    have FB0 := Lib.hid FB
    clear FB hrow
    refine hK.out _ _ (range_of (GB.out.at_ B3.out (fun h => h))) (fun hHeld => ?_)
    clear hK K
    try simp only [Act.put, List.setIfInBounds_toArray, List.set_cons_zero, List.set_cons_succ]
    refine wpAnyH_ready (rs := [4]) (by kernel_rfl) (by simp) ?_
    refine AllReadyH.cons lot4 (fun K hK => ?_) AllReadyH.nil
    go_simp
    refine hK.out _ _ (range_of ((((GB.out).alloc (.cells #[.slice none 0 0] 100))).at_ B3.out (fun h => h))) (fun hHeld => ?_)
    clear hK K
    try simp only [Act.put, List.setIfInBounds_toArray, List.set_cons_zero, List.set_cons_succ]
    have hge : w1.heap.size ≤ w3.heap.size := GB.out.size
    refine wpAnyH_ready (rs := [5]) (by kernel_rfl) (by simp) ?_
    refine AllReadyH.cons lot5 (fun K hK => ?_) AllReadyH.nil
    go_simp
    have F4 := Lib.hid (GB.out.alloc (.cells #[(.slice (some ⟨g, 0, none⟩) n cap)] 100))
    have HB4 := Lib.hid (alloc_new w3 (.cells #[(.slice (some ⟨g, 0, none⟩) n cap)] 100))
    have HR4 := Lib.hid (HRW.out.move ((Fr.refl none_ w3).alloc (.cells #[(.slice (some ⟨g, 0, none⟩) n cap)] 100)))
    refine hK.out _ _ (range_of (F4.out.at_ B3.out (fun h => h))) (fun hHeld => ?_)
    clear hK K
    try simp only [Act.put, List.setIfInBounds_toArray, List.set_cons_zero, List.set_cons_succ]
    refine wpAnyH_done (by kernel_rfl) ?_ _
    exact key _ _ _ _ _ F4.out HB4.out HR4.out
  case' gd =>
    go_simp
    refine hK.out _ _ (range_of ((((GL.out).alloc (.cells #[.slice none 0 0] 100))).at_ B3.out (fun h => h))) (fun hHeld => ?_)
    clear hK K
    try simp only [Act.put, List.setIfInBounds_toArray, List.set_cons_zero, List.set_cons_succ]
    refine wpAnyH_ready (rs := [3]) (by kernel_rfl) (by simp) ?_
    refine AllReadyH.cons lot3 (fun K hK => ?_) AllReadyH.nil
    go_simp
    go_at_call 59
    refine (blocks_any D n k _ _ (HD.out.move (FF.out.tr (GL.out.alloc (.cells #[.slice none 0 0] 100)))) HV.out (by omega) hk HT.out (livesM D) gL (lives_spec HV.out).1 (((Fr.refl none_ w2).alloc (.cells #[.slice none 0 0] 100)).at_ HGL.out (fun h => h)) (HP.out.move (FF.out.tr (GL.out.alloc (.cells #[.slice none 0 0] 100))))).mono ?_
    rintro e w3 ⟨g, cap, rfl, hrow, hg2, FB⟩
    have GB := Lib.hid (((GL.out.alloc (.cells #[.slice none 0 0] 100))).tr FB)
    have HRW := Lib.hid (show IRow w3 g (blocksM D) by unfold blocksM; rw [HV.out.hn]; exact hrow)
    have FB0 := Lib.hid FB
    clear FB hrow
    refine hK.out _ _ (range_of (GB.out.at_ B3.out (fun h => h))) (fun hHeld => ?_)
    clear hK K
    try simp only [Act.put, List.setIfInBounds_toArray, List.set_cons_zero, List.set_cons_succ]
    have hbk : (w3).heap[w2.heap.size]? = some (.cells #[.slice none 0 0] 100 (0, 0)) := FB0.out.at_ (alloc_new w2 _) (fun h => h)
    have hrw : IRow (w3) g (blocksM D) := HRW.out
    have hng : g ≠ w2.heap.size := fun e => by
      obtain ⟨r, hr⟩ := hrw
      rw [e, hbk] at hr
      simp only [Option.some.injEq, Obj.cells.injEq] at hr
      exact absurd hr.2.1 (by decide)
    have hge : w1.heap.size ≤ w2.heap.size := by first | omega | (have := GL.out.size; omega) | (have := GB.out.size; omega)
    have c1 := cell_of_block (o := 0) hbk rfl
    have c2 : (w3).frozen? ⟨w2.heap.size, 0, none⟩ = false := free_of_block hbk
    refine wpAnyH_ready (rs := [5]) (by kernel_rfl) (by simp) ?_
    refine AllReadyH.cons lot5 (fun K hK => ?_) AllReadyH.nil
    go_simp
    have F4 := Lib.hid ((GB.out).setCell (p := ⟨w2.heap.size, 0, none⟩) (.inr hge) (.slice (some ⟨g, 0, none⟩) n cap))
    have HB4 := Lib.hid (show ((w3).setCell ⟨w2.heap.size, 0, none⟩ (.slice (some ⟨g, 0, none⟩) n cap)).heap[w2.heap.size]? = some (.cells #[(.slice (some ⟨g, 0, none⟩) n cap)] 100 (0, 0)) from heap_setCell (w3) hbk 0 (.slice (some ⟨g, 0, none⟩) n cap))
    have HR4 := Lib.hid (hrw.at_ (w' := (w3).setCell ⟨w2.heap.size, 0, none⟩ (.slice (some ⟨g, 0, none⟩) n cap)) (Below.heap_setCell _ _ _ _ hng))
    refine hK.out _ _ (range_of (F4.out.at_ B3.out (fun h => h))) (fun hHeld => ?_)
    clear hK K
    try simp only [Act.put, List.setIfInBounds_toArray, List.set_cons_zero, List.set_cons_succ]
    refine wpAnyH_done (by kernel_rfl) ?_ _
    exact key _ _ _ _ _ F4.out HB4.out HR4.out
  case' gb =>
    go_simp
    refine hK.out _ _ (range_of ((((((Fr.refl none_ w1).drew)).alloc (.cells #[.slice none 0 0] 100))).at_ B3.out (fun h => h))) (fun hHeld => ?_)
    clear hK K
    try simp only [Act.put, List.setIfInBounds_toArray, List.set_cons_zero, List.set_cons_succ]
    refine wpAnyH_ready (rs := [2]) (by kernel_rfl) (by simp) ?_
    refine AllReadyH.cons lot2 (fun K hK => ?_) AllReadyH.nil
    go_simp
    go_at_call 60
    refine (lives_any D n k _ _ (HD.out.move (FF.out.tr ((Fr.refl none_ w1).drew.alloc (.cells #[.slice none 0 0] 100)))) HV.out (by omega) hk).mono ?_
    rintro e w2 ⟨gL, rfl, hgl, hgl2, FL⟩
    have GL := Lib.hid ((((Fr.refl none_ w1).drew.alloc (.cells #[.slice none 0 0] 100))).tr FL)
    have HGL := Lib.hid hgl
    have FL0 := Lib.hid FL
    clear FL hgl
    refine hK.out _ _ (range_of (GL.out.at_ B3.out (fun h => h))) (fun hHeld => ?_)
    clear hK K
    try simp only [Act.put, List.setIfInBounds_toArray, List.set_cons_zero, List.set_cons_succ]
    refine wpAnyH_ready (rs := [3]) (by kernel_rfl) (by simp) ?_
    refine AllReadyH.cons lot3 (fun K hK => ?_) AllReadyH.nil
    go_simp
    go_at_call 59
    refine (blocks_any D n k _ _ (HD.out.move (FF.out.tr GL.out)) HV.out (by omega) hk HT.out (livesM D) gL (lives_spec HV.out).1 HGL.out (HP.out.move (FF.out.tr GL.out))).mono ?_
    rintro e w3 ⟨g, cap, rfl, hrow, hg2, FB⟩
    have GB := Lib.hid ((GL.out).tr FB)
    have HRW := Lib.hid (show IRow w3 g (blocksM D) by unfold blocksM; rw [HV.out.hn]; exact hrow)
    have FB0 := Lib.hid FB
    clear FB hrow
    refine hK.out _ _ (range_of (GB.out.at_ B3.out (fun h => h))) (fun hHeld => ?_)
    clear hK K
    try simp only [Act.put, List.setIfInBounds_toArray, List.set_cons_zero, List.set_cons_succ]
    have hbk : (w3).heap[w1.heap.size]? = some (.cells #[.slice none 0 0] 100 (0, 0)) := FB0.out.at_ (FL0.out.at_ (alloc_new w1.drew _) (fun h => h)) (fun h => h)
    have hrw : IRow (w3) g (blocksM D) := HRW.out
    have hng : g ≠ w1.heap.size := fun e => by
      obtain ⟨r, hr⟩ := hrw
      rw [e, hbk] at hr
      simp only [Option.some.injEq, Obj.cells.injEq] at hr
      exact absurd hr.2.1 (by decide)
    have hge : w1.heap.size ≤ w1.heap.size := by first | omega | (have := GL.out.size; omega) | (have := GB.out.size; omega)
    have c1 := cell_of_block (o := 0) hbk rfl
    have c2 : (w3).frozen? ⟨w1.heap.size, 0, none⟩ = false := free_of_block hbk
    refine wpAnyH_ready (rs := [5]) (by kernel_rfl) (by simp) ?_
    refine AllReadyH.cons lot5 (fun K hK => ?_) AllReadyH.nil
    go_simp
    have F4 := Lib.hid ((GB.out).setCell (p := ⟨w1.heap.size, 0, none⟩) (.inr hge) (.slice (some ⟨g, 0, none⟩) n cap))
    have HB4 := Lib.hid (show ((w3).setCell ⟨w1.heap.size, 0, none⟩ (.slice (some ⟨g, 0, none⟩) n cap)).heap[w1.heap.size]? = some (.cells #[(.slice (some ⟨g, 0, none⟩) n cap)] 100 (0, 0)) from heap_setCell (w3) hbk 0 (.slice (some ⟨g, 0, none⟩) n cap))
    have HR4 := Lib.hid (hrw.at_ (w' := (w3).setCell ⟨w1.heap.size, 0, none⟩ (.slice (some ⟨g, 0, none⟩) n cap)) (Below.heap_setCell _ _ _ _ hng))
    refine hK.out _ _ (range_of (F4.out.at_ B3.out (fun h => h))) (fun hHeld => ?_)
    clear hK K
    try simp only [Act.put, List.setIfInBounds_toArray, List.set_cons_zero, List.set_cons_succ]
    refine wpAnyH_done (by kernel_rfl) ?_ _
    exact key _ _ _ _ _ F4.out HB4.out HR4.out
theorem least_yes (D : Dfa) (n k : Nat) (v : Value) (w : World) (h : DfaIn w v D) (hv : DV D n k) (hvt : validM D = true) (hn : n ≤ 10000) (hk : k ≤ 1000000) (ht : ∀ t ∈ D.tags, t < 18446744073709551616) (hp : PowOk w) :
    Calls Tryz.prog 27 #[v] w fun e w' => ∃ u, e = .returned (.tuple #[u, .int .i64 0]) ∧ DfaIn w' u (leastM D) ∧ Fr none_ w w' :=
  (least_high D n k v w h hv hvt hn hk ht hp).mono fun e w' ⟨u, h1, h2, h3⟩ => ⟨u, h1, h2 _ (Fr.refl _ w'), h3⟩
end Go.Proofs.YtnenbihmokolpaaGreatDoor
