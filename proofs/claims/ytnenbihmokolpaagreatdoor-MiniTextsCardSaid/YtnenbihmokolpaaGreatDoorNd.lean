/-
  The walk over nfa.closed.
-/
import Derived.Test.YtnenbihmokolpaaGreatDoorNc
namespace Go.Proofs.YtnenbihmokolpaaGreatDoor set_option linter.unusedVariables false set_option linter.unusedSimpArgs false
open Go.RowKit

theorem bool_info : (Tryz.prog.info? 4).map (fun i => (i.zero, i.size, i.bytes)) = some (some (.bool false), 1, 1) := by kernel_rfl
theorem ownsRow_slice {w : World} {base : Nat} {e : TypeId} {size : Nat} {v : Value} {n : Nat} {xs : List Value} (h : w.ownsRow base e size v n xs) : ∃ a cap, v = .slice a n cap ∧ n ≤ cap := by
  rcases h.2 with ⟨rfl, rfl⟩ | ⟨g, cap, cur, rfl, _, _, hc, _⟩
  · exact ⟨none, 0, rfl, Nat.le_refl _⟩
  · exact ⟨_, _, rfl, hc⟩


set_option maxRecDepth 100000 in
set_option maxHeartbeats 4000000 in
theorem closed_any (dm : Nat) (S : Nat → Prop) (w : World) (l : List St) (starts : List Nat) (base : Nat) (v : Value) (W : List Int) (h : Mach dm S w l starts) (hl : l.length ≤ 100000)
    (hv : w.ownsRow base 3 1 v W.length (intsV W)) (hbase : base ≤ w.heap.size) (hvS : ∀ b, v.ownBlock = some b → dm < b ∧ ¬ S b) (hM : meas l [] W ≤ 10000000000) :
    Calls Tryz.prog 93 #[.pointer (some ⟨dm, 0, none⟩), v] w fun e w' => ∃ v', e = .returned v' ∧ w'.ownsRow w.heap.size 3 1 v' (closedM l W).length (nums (closedM l W)) ∧ Fr (fun k => v.ownBlock = some k) w w' := by
  obtain ⟨i0, hi, hz0, hz1, hz2⟩ := info_parts int_info
  obtain ⟨j0, hj, hy0, hy1, hy2⟩ := info_parts bool_info
  obtain ⟨vs, vt, fv, cells, hm⟩ := h
  have hdm := lt_of_block hm.head
  have c0 : w.cell? ⟨dm, 0, none⟩ = some vs := cell_of_block hm.head rfl
  obtain ⟨sa, scap, rfl, hsc⟩ := ownsRow_slice hm.rows
  have HM := Lib.hid hm
  have HV := Lib.hid hv
  have HVS := Lib.hid hvS
  have HMEAS := Lib.hid hM
  clear hm hv hvS hM
  go_enter Tryz.func93, Tryz.ntmps93
  go_wp2_with fail
  go_step3
  go_wp2_with (refine wpList_make_full _ rfl (.tmp 12) (.tmp 12) 102 rfl w.heap.size 4 j0 (.bool false) 1 Tryz.underlying102 hj hy0 hy1 .i64 .i64 l.length l.length l.length rfl rfl rfl rfl ?c2 ?c3 ?c4 ?_)
  case c2 => rw [hy2]; omega
  case c3 => unfold maxLen; omega
  case c4 => exact Nat.le_refl _
  intro w1 hseen hgrow
  rw [seen_made] at hseen
  have HSEEN := Lib.hid hseen
  have HF := Lib.hid ((Fr.refl (fun k => v.ownBlock = some k) w).grown hgrow (fun k h => by cases h))
  have HGR := Lib.hid hgrow
  clear hseen hgrow
  go_wp2_with fail
  go_step3
  go_wp2_with fail
  go_loopg [1, 6] (meas l [] W) (fun k x1 x6 wr => ∃ o wk, Aside (Doing l W o wk ∧ k = meas l o wk) ∧ Aside (wr.ownsRow base 3 1 x1 wk.length (intsV wk)) ∧ Aside (wr.ownsRow (w.heap.size + 1) 3 1 x6 o.length (nums o)) ∧
    Aside (x1.ownBlock = v.ownBlock ∨ ∃ b, x1.ownBlock = some b ∧ w.heap.size + 1 ≤ b) ∧ Aside (∀ b, x1.ownBlock = some b → x6.ownBlock ≠ some b) ∧
    Aside (wr.ownsRow w.heap.size 4 1 (.slice (some ⟨w.heap.size, 0, none⟩) l.length l.length) l.length (seenL l.length o)) ∧ Aside (Fr (fun k => v.ownBlock = some k) w wr) ∧ Aside (w.heap.size + 1 ≤ wr.heap.size))
  case atStart =>
    exact ⟨[], W, ⟨Doing.start l W, rfl⟩, ownsRow_same HV.out (fun b hb => HGR.out.block b (HV.out.lt b hb).2 (by simp)), World.ownsRow_nil _ _ _ _, .inl rfl, fun b _ h => by simp [Value.ownBlock] at h, HSEEN.out, HF.out, (HSEEN.out.lt _ rfl).2⟩
  case round =>
    obtain ⟨o, wk, hD', h1', h6', ho1', hap', hsn', hF', hsz'⟩ := hrel
    have HD := Lib.hid hD'.out.1
    have HK := Lib.hid hD'.out.2
    have H1 := Lib.hid h1'.out
    have H6 := Lib.hid h6'.out
    have HO := Lib.hid ho1'.out
    have HAP := Lib.hid hap'.out
    have HS := Lib.hid hsn'.out
    have HFr := Lib.hid hF'.out
    have hsz := hsz'.out
    clear hD' h1' h6' ho1' hap' hsn' hF' hsz' HSEEN HF HGR
    have HMr := Lib.hid (HM.out.move HFr.out HVS.out)
    have c0r : wr.cell? ⟨dm, 0, none⟩ = some (.slice sa l.length scap) := cell_of_block HMr.out.head rfl
    rcases List.eq_nil_or_concat wk with rfl | ⟨wk', a, rfl⟩
    · obtain ⟨a1, cap1, rfl, hcap1⟩ := ownsRow_slice H1.out
      simp only [List.length_nil] at hcap1
      have hol : o.length ≤ 100000 := by have := HD.out.length; omega
      by_cases hon : o = []
      · subst hon
        obtain ⟨a6, cap6, rfl, hcap6⟩ := ownsRow_slice H6.out
        have HE := Lib.hid (show closedM l W = [] by
          have h1 := sorted_visit HD.out
          simp only [ints, List.map_nil, List.mergeSort_nil] at h1
          exact List.map_eq_nil_iff.1 h1.symm)
        go_wp2_with fail
        refine (Tryz.slices_Sort_int_none _ _ _).mono ?_
        rintro e w' ⟨rfl, rfl⟩
        go_wp2_with fail
        rw [Exit.noGoto_ret]
        go_ret
        refine ⟨_, rfl, ?_, HFr.out⟩
        rw [HE.out]
        have h6 := H6.out
        exact ⟨h6.1, by
          rcases h6.2 with h | ⟨g, cap, cur, h1, h2, h3⟩
          · exact .inl h
          · exact .inr ⟨g, cap, cur, h1, by omega, h3⟩⟩
      · have ho0 : 0 < o.length := List.length_pos_iff.2 hon
        obtain ⟨g6, cap6, rfl, hg6, hg6'⟩ := H6.out.form ho0
        have HON := Lib.hid hon
        clear hon
        have HH := Lib.hid H6.out
        have hil : (ints o).length = o.length := by simp [ints]
        have HIL := Lib.hid hil
        obtain ⟨cur, hcur, hnc, hcm, hcs, htk⟩ : ∃ cur, wr.heap[g6]? = some (.cells cur 3 (0, 0)) ∧ o.length ≤ cap6 ∧ cap6 ≤ maxLen ∧ cur.size = cap6 * 1 ∧ cur.toList.take (o.length * 1) = nums o := by
          rcases H6.out.2 with ⟨h, _⟩ | ⟨g, cap, cur, h1, h2, h3, h4, h5, h6, h7⟩
          · cases h
          · cases h1; exact ⟨cur, h3, h4, h5, h6, h7⟩
        have HC1 := Lib.hid hcur
        have HC2 := Lib.hid hcm
        have HC3 := Lib.hid hcs
        have HC4 := Lib.hid htk
        have HHO := Lib.hid (Go.holds_of_blockI (ss := ints o) hcur (by rw [hil]; rw [Nat.mul_one] at htk; rw [htk, nums_eq]; rfl))
        clear hcur hcm hcs htk hil
        go_wp2_with fail
        rw [← HIL.out]
        refine (Tryz.slices_Sort_int g6 0 cap6 (ints o) _ HHO.out (by omega) (by rw [HIL.out]; omega)).mono ?_
        rintro e w' ⟨rfl, q, os, hw'⟩
        have HW' := Lib.hid hw'
        clear hw'
        go_wp2_with fail
        rw [Exit.noGoto_ret]
        go_ret
        have hsv := sorted_visit HD.out
        have hw' := HW'.out
        rw [hsv] at hw'
        subst hw'
        have hcl : (ints (closedM l W)).length = (ints o).length := by rw [← hsv]; simp
        refine ⟨_, rfl, ?_, HFr.out.grown (Go.grownBy_sortedI _) (fun k hk => .inr (by cases hk; omega))⟩
        have hfin := Go.ownsRow_sortedI (n := q) (os := os) (base := w.heap.size) hcl (by omega) HC1.out (by rw [HIL.out]; exact hnc) HC2.out HC3.out
        have hcl2 : (closedM l W).length = (ints o).length := by rw [← hcl]; simp [ints]
        rw [hcl2, nums_eq]
        exact hfin
    · rw [List.concat_eq_append] at HD HK H1
      have h1l : (wk' ++ [a]).length = wk'.length + 1 := by simp
      rw [h1l] at H1
      obtain ⟨g, cap, rfl, hg1, hg2⟩ := H1.out.form (by omega)
      have c1 : wr.cell? ⟨g, wk'.length, none⟩ = some (.int .i64 a) := by
        rw [H1.out.cellAt wk'.length (by omega)]; simp [intsV]
      have hwl : wk'.length ≤ 10000000000 := by
        have h1 := HD.out.le
        have h2 := HMEAS.out
        simp only [meas, h1l] at h1 h2
        omega
      have HP := Lib.hid (show wr.ownsRow base 3 1 (.slice (some ⟨g, 0, none⟩) wk'.length cap) wk'.length (intsV wk') by
        have := ownsRow_pop H1.out
        simpa [intsV] using this)
      have hcap : (wk'.length : Int) + 1 ≤ (cap : Int) := by
        obtain ⟨_, _, h1, h2⟩ := ownsRow_slice H1.out
        cases h1
        omega
      have hcap' : wk'.length + 1 ≤ cap := by omega
      have hcap'' : wk'.length ≤ cap := by omega
      by_cases hin : 0 ≤ a ∧ a < l.length
      · obtain ⟨ai, rfl⟩ := Int.eq_ofNat_of_zero_le hin.1
        have hai : ai < l.length := by omega
        have hai' : ((ai : Nat) : Int) < (l.length : Int) := by omega
        clear hin
        by_cases ho : ai ∈ o
        · have cs : wr.cell? ⟨w.heap.size, ai, none⟩ = some (.bool true) := by
            rw [HS.out.cellAt ai (by omega), seenL_at hai]; simp [ho]
          have SK : ¬ (0 ≤ (ai : Int) ∧ (ai : Int) < l.length ∧ (ai : Int).toNat ∉ o) := fun h => h.2.2 (by simpa using ho)
          clear ho
          have SK' := Lib.hid SK
          clear SK
          go_wp2_with fail
          have SK := SK'.out
          go_roundg (meas l o wk')
          case measure => rw [HK.out]; exact (HD.out.skip SK).2
          case rel => exact ⟨o, wk', ⟨(HD.out.skip SK).1, rfl⟩, HP.out, H6.out, HO.out, HAP.out, HS.out, HFr.out, hsz⟩
        · have cs : wr.cell? ⟨w.heap.size, ai, none⟩ = some (.bool false) := by
            rw [HS.out.cellAt ai (by omega), seenL_at hai]; simp [ho]
          have csf : wr.frozen? ⟨w.heap.size, ai, none⟩ = false := HS.out.frozenAt ai
          have HO2 := Lib.hid ho
          clear ho
          obtain ⟨gs, scap', hsa, hgs1, hgs2⟩ := HMr.out.rows.form (by omega)
          cases hsa
          obtain ⟨FV, hFV⟩ : ∃ x, fv ai = x := ⟨_, rfl⟩
          have HFV := Lib.hid hFV
          clear hFV
          have HB1 := Lib.hid (show ∀ b, u6.ownBlock = some b → w.heap.size + 1 ≤ b ∧ b < wr.heap.size from H6.out.lt)
          have HG1 := Lib.hid (show g ≠ w.heap.size ∧ u6.ownBlock ≠ some g from ⟨fun e => by
            rcases HO.out with h | ⟨b, h, hb⟩
            · have := (HV.out.lt g h.symm).2; omega
            · simp only [Value.ownBlock, Option.some.injEq] at h; omega, HAP.out g rfl⟩)
          have H6a := Lib.hid (show ((wr.setCell ⟨w.heap.size, ai, none⟩ (.bool true)).alloc (.cells #[.int .i64 ai] 3)).ownsRow (w.heap.size + 1) 3 1 u6 o.length (nums o) from
            World.ownsRow.alloc (ownsRow_same H6.out (fun b hb => Below.heap_setCell _ _ _ _ (by have := (HB1.out b hb).1; simp only []; omega))) _)
          have hol : o.length ≤ 100000 := by have := HD.out.length; omega
          have hwm : wk'.length + (freeOf l ai).length ≤ 10000000000 := by
            have h1 := (HD.out.go hai HO2.out).1.le
            have h2 := HMEAS.out
            simp only [meas, List.length_append, ints, List.length_map] at h1 h2
            omega
          go_wp2_with (at_builtin; refine wpList_append_lies _ rfl (.tmp 45) (.tmp 47) 100 rfl (w.heap.size + 1) 3 i0 _ 1 8 Tryz.underlying100 hi hz0 hz1 hz2 rfl (by decide) _ o.length (nums o) rfl H6a.out ⟨wr.heap.size, 0, none⟩ 1 1 [.int .i64 ai] rfl rfl (getElem_block (by have h := alloc_new (wr.setCell ⟨w.heap.size, ai, none⟩ (.bool true)) (.cells #[.int .i64 ai] 3); rw [World.size_setCell] at h; exact h)) ?c1 (by decide) ?c2 ?c3 ?c4 (wr.heap.size + 1) (by simp) ?_)
          case c1 => simp [Value.oneCell']
          case c2 => unfold maxLen; omega
          case c3 => omega
          case c4 => simp; omega
          intro g2 cap2 w2 hown2 hgrow2 hat2 hlt2
          have F2 := Lib.hid (((HFr.out.setCell (p := ⟨w.heap.size, ai, none⟩) (.inr (Nat.le_refl _)) (.bool true)).alloc (.cells #[.int .i64 ai] 3)).grown hgrow2 (fun k hk => .inr (by have := (HB1.out k hk).1; omega)))
          have M2 := Lib.hid (HM.out.move F2.out HVS.out)
          have hsame2 : ∀ b, b < wr.heap.size → b ≠ w.heap.size → u6.ownBlock ≠ some b → w2.heap[b]? = wr.heap[b]? := fun b hb h1 h2 => by
            rw [hgrow2.block b (by simp; omega) (fun e => h2 e.symm), Below.heap_alloc _ _ _ (by simpa using hb), Below.heap_setCell _ _ _ _ h1]
          have H1b := Lib.hid (ownsRow_same HP.out (fun b hb => by
            simp only [Value.ownBlock, Option.some.injEq] at hb
            subst hb
            exact hsame2 g hg2 HG1.out.1 HG1.out.2))
          have HSb := Lib.hid (show w2.ownsRow w.heap.size 4 1 (.slice (some ⟨w.heap.size, 0, none⟩) l.length l.length) l.length (seenL l.length (o ++ [ai])) by
            rw [← seenL_set hai]
            exact ownsRow_same (HS.out.stored ai (.bool true)).1 (fun b hb => by
              simp only [Value.ownBlock, Option.some.injEq] at hb
              subst hb
              rw [hgrow2.block w.heap.size (by simp; omega) (fun e => by have := (HB1.out _ e.symm).1; omega), Below.heap_alloc _ _ _ (by simp; omega)]))
          have H6b := Lib.hid (show w2.ownsRow (w.heap.size + 1) 3 1 (.slice (some ⟨g2, 0, none⟩) (o.length + 1) cap2) (o ++ [ai]).length (nums (o ++ [ai])) by
            rw [List.length_append, nums_snoc]; exact hown2)
          have hs2 : wr.heap.size + 1 ≤ w2.heap.size := by have := hgrow2.size; simp at this; omega
          have HAT2 := Lib.hid hat2
          have HG2 := Lib.hid (show g2 ≠ g by
            intro e
            subst e
            rcases HAT2.out with h | h
            · exact HG1.out.2 h
            · omega)
          have hlt2' : g2 < w2.heap.size := hlt2
          have c02 : w2.cell? ⟨dm, 0, none⟩ = some (.slice (some ⟨gs, 0, none⟩) l.length scap) := cell_of_block M2.out.head rfl
          obtain ⟨st, hst⟩ := M2.out.at hai
          have hfo : freeOf l ai = st.free := freeOf_some hst
          have HFO := Lib.hid hfo
          have HFR := Lib.hid (M2.out.free ai st hst)
          obtain ⟨cs', hcs', hcells⟩ := M2.out.data ai st hst
          have cf2 : w2.cell? ⟨gs, ai * 9, none⟩ = some FV := by
            rw [M2.out.rows.cellAt (ai * 9) (by omega)]
            exact (hcells 0 _ rfl).trans (by rw [HFV.out])
          rw [hfo] at hwm
          clear hown2 hgrow2 hat2 hlt2 hsame2 hst hfo hcs' hcells cs c1 c0r H6a
          have HR2 := HFR.out
          rw [HFV.out] at HR2
          rcases HR2.2 with ⟨hF, hn0⟩ | ⟨gf, capf, curf, hF, hgf, hcurf, hncf, hcmf, hcsf, htkf⟩
          · subst hF
            have hfe : st.free = [] := List.eq_nil_of_length_eq_zero hn0
            have HFE := Lib.hid hfe
            clear hfe hn0 HR2
            go_wp2_with (at_builtin; refine wpList_append_own_none rfl (.tmp 49) (.tmp 57) 100 rfl base 3 i0 1 Tryz.underlying100 hi _ wk'.length (intsV wk') rfl H1b.out rfl ?_)
            have hgo := HD.out.go hai HO2.out
            rw [HFO.out, HFE.out] at hgo
            simp only [ints, List.map_nil, List.append_nil] at hgo
            go_roundg (meas l (o ++ [ai]) wk')
            case measure => rw [HK.out]; exact hgo.2
            case rel => exact ⟨o ++ [ai], wk', ⟨hgo.1, rfl⟩, H1b.out, H6b.out, HO.out, fun b hb h2 => HG2.out ((Option.some.inj h2).trans (Option.some.inj hb).symm), HSb.out, F2.out, (show w.heap.size + 1 ≤ w2.heap.size by omega)⟩
          · subst hF
            have HNW := Lib.hid (show ∀ j u, (nums st.free)[j]? = some u → w2.cell? ((⟨gf, 0, none⟩ : Addr).add j) = some u from HR2.cells rfl)
            have HNL := Lib.hid (show (nums st.free).length = st.free.length * 1 by rw [nums_length, Nat.mul_one])
            clear HR2 hcurf hcsf htkf
            go_wp2_with (at_builtin; refine wpList_append_own_at _ rfl (.tmp 49) (.tmp 57) 100 rfl base 3 i0 _ 1 8 Tryz.underlying100 hi hz0 hz1 hz2 rfl (by decide) _ wk'.length (intsV wk') rfl H1b.out ⟨gf, 0, none⟩ st.free.length capf (nums st.free) rfl HNL.out HNW.out ?d1 ?d2 ?d3 ?d4 ?_)
            case d1 => intro u hu; simp only [nums, List.mem_map] at hu; obtain ⟨n, _, rfl⟩ := hu; rfl
            case d2 => unfold maxLen; omega
            case d3 => omega
            case d4 => omega
            intro v3 w3 hown3 hgrow3 hnil3 hat3
            have HOWN3 := Lib.hid hown3
            have HGROW3 := Lib.hid hgrow3
            have HAT3 := Lib.hid hat3
            clear hown3 hgrow3 hnil3 hat3 c02 cf2
            have hgo := HD.out.go hai HO2.out
            rw [HFO.out] at hgo
            have HGO := Lib.hid hgo
            clear hgo
            go_wp2_with fail
            go_roundg (meas l (o ++ [ai]) (wk' ++ ints st.free))
            case measure => rw [HK.out]; exact HGO.out.2
            case rel =>
              have hlt3 := HOWN3.out
              have hg3 := HGROW3.out
              have hh := HG2.out
              refine ⟨o ++ [ai], wk' ++ ints st.free, ⟨HGO.out.1, rfl⟩, ?_, ?_, ?_, ?_, ?_, ?_, ?_⟩
              · have e1 : (wk' ++ ints st.free).length = wk'.length + st.free.length := by simp [ints]
                have e2 : intsV (wk' ++ ints st.free) = intsV wk' ++ nums st.free := by simp [intsV, ints, nums]
                rw [e1, e2]
                exact hlt3
              · exact ownsRow_same H6b.out (fun b hb => by
                  simp only [Value.ownBlock, Option.some.injEq] at hb
                  subst hb
                  exact hg3.block g2 hlt2' (fun e => hh (by simpa [Value.ownBlock] using e)))
              · rcases HAT3.out with h | h
                · rw [h]; exact HO.out
                · exact .inr ⟨_, h, by omega⟩
              · intro b hb hb2
                have h2 : g2 = b := Option.some.inj hb2
                rcases HAT3.out with h | h
                · exact hh (h2.trans (Option.some.inj (h.symm.trans hb)).symm)
                · have : w2.heap.size = b := Option.some.inj (h.symm.trans hb)
                  omega
              · exact ownsRow_same HSb.out (fun b hb => by
                  simp only [Value.ownBlock, Option.some.injEq] at hb
                  subst hb
                  exact hg3.block w.heap.size (by omega) (fun e => HG1.out.1 (by simpa [Value.ownBlock] using e.symm)))
              · refine F2.out.grown hg3 (fun k hk => ?_)
                rcases HO.out with h | ⟨b, h, hb⟩
                · exact .inl (by rw [← h]; exact hk)
                · right
                  have h1 : g = k := Option.some.inj hk
                  have h2 : g = b := Option.some.inj h
                  omega
              · show w.heap.size + 1 ≤ w3.heap.size
                have := hg3.size; omega
      · have SK' := Lib.hid (show ¬ (0 ≤ a ∧ a < l.length ∧ a.toNat ∉ o) from fun h => hin ⟨h.1, h.2.1⟩)
        by_cases ha0 : a < 0
        · clear hin
          go_wp2_with fail
          have SK := SK'.out
          go_roundg (meas l o wk')
          case measure => rw [HK.out]; exact (HD.out.skip SK).2
          case rel => exact ⟨o, wk', ⟨(HD.out.skip SK).1, rfl⟩, HP.out, H6.out, HO.out, HAP.out, HS.out, HFr.out, hsz⟩
        · have ha0' : 0 ≤ a := by omega
          have hal : (l.length : Int) ≤ a := by omega
          clear hin ha0
          go_wp2_with fail
          have SK := SK'.out
          go_roundg (meas l o wk')
          case measure => rw [HK.out]; exact (HD.out.skip SK).2
          case rel => exact ⟨o, wk', ⟨(HD.out.skip SK).1, rfl⟩, HP.out, H6.out, HO.out, HAP.out, HS.out, HFr.out, hsz⟩
end Go.Proofs.YtnenbihmokolpaaGreatDoor
