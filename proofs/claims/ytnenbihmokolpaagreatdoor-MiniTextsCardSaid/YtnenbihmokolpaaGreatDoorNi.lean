/-
  The walks over nfa's machine at work: Begin, Step, Tags, Run.
  The walks over nfa's machine at work: Step, Tags, Run.
  The walks over nfa's machine at work: Tags, Run.
-/
import Derived.Test.YtnenbihmokolpaaGreatDoorNd
import Derived.Test.YtnenbihmokolpaaGreatDoorNe
namespace Go.Proofs.YtnenbihmokolpaaGreatDoor set_option linter.unusedVariables false set_option linter.unusedSimpArgs false
open Go.RowKit

structure Fit (l : List St) : Prop where
  len : l.length ≤ 100000
  sum : todo l [] ≤ 5000000000

theorem Mach.below {dm : Nat} {S : Nat → Prop} {w : World} {l : List St} {starts : List Nat} (h : Mach dm S w l starts) : Mach dm (fun k => S k ∧ k < w.heap.size) w l starts :=
  h.mono (fun k hk hs => ⟨hs, hk⟩) (fun k hk => h.sep k hk.1)

set_option maxRecDepth 100000 in
set_option maxHeartbeats 1000000 in
theorem begin_any (dm : Nat) (S : Nat → Prop) (w : World) (l : List St) (starts : List Nat) (h : Mach dm S w l starts) (hf : Fit l) (hs : starts.length ≤ 1000) :
    Calls Tryz.prog 66 #[.pointer (some ⟨dm, 0, none⟩)] w fun e w' => ∃ v', e = .returned v' ∧ w'.ownsRow w.heap.size 3 1 v' (closedM l (ints starts)).length (nums (closedM l (ints starts))) ∧ Fr none_ w w' := by
  obtain ⟨vs, vt, fv, cells, hm⟩ := h.below
  have hdm := lt_of_block hm.head
  have c1 : w.cell? ⟨dm, 1, none⟩ = some vt := cell_of_block hm.head rfl
  have HM := Lib.hid hm
  have HF := Lib.hid hf
  have hlen := hf.len
  have hw : meas l [] (ints starts) ≤ 10000000000 := by
    have := hf.sum
    simp only [meas, ints, List.length_map]
    omega
  have HW := Lib.hid hw
  clear hm hf hw h
  have key : ∀ (v' : Value) (w1 : World), w1.ownsRow w.heap.size 3 1 v' (ints starts).length (intsV (ints starts)) → Fr none_ w w1 →
      Calls Tryz.prog 93 #[.pointer (some ⟨dm, 0, none⟩), v'] w1 fun e w' => ∃ v', e = .returned v' ∧ w'.ownsRow w.heap.size 3 1 v' (closedM l (ints starts)).length (nums (closedM l (ints starts))) ∧ Fr none_ w w' := by
    intro v' w1 hown hfr
    have hmv : Mach dm (fun k => S k ∧ k < w.heap.size) w1 l starts := ⟨_, _, _, _, HM.out.move hfr (fun _ h => h.elim)⟩
    refine (closed_any dm _ w1 l starts w.heap.size v' (ints starts) hmv hlen hown hfr.size (fun b hb => ⟨by have := (hown.lt b hb).1; omega, fun h => by have := (hown.lt b hb).1; omega⟩) HW.out).mono ?_
    rintro e w2 ⟨v2, rfl, h2, f2⟩
    refine ⟨v2, rfl, ⟨h2.1, ?_⟩, hfr.fresh f2 (fun i hi => (hown.lt i hi).1)⟩
    rcases h2.2 with h | ⟨g, cap, cur, q1, q2, q3⟩
    · exact .inl h
    · exact .inr ⟨g, cap, cur, q1, by have := hfr.size; omega, q3⟩
  have KEY := Lib.hid key
  clear key
  have HB := Lib.hid HM.out.begins
  have hil : (ints starts).length = starts.length := by simp [ints]
  have HIL := Lib.hid hil
  clear hil
  rcases HB.out.2 with ⟨rfl, h0⟩ | ⟨g, cap, cur, rfl, hg, hcur, hnc, _⟩
  · have hs0 : starts = [] := List.eq_nil_of_length_eq_zero h0
    subst hs0
    go_enter Tryz.func66, Tryz.ntmps66
    go_wp2_with fail
    refine (Tryz.slices_Clone_int_nil _ _ _).mono ?_
    rintro e w' ⟨rfl, rfl⟩
    go_wp2_with fail
    refine (KEY.out _ _ (World.ownsRow_nil _ _ _ _) (Fr.refl _ _)).mono ?_
    rintro e w' ⟨v', rfl, h1, h2⟩
    have H1 := Lib.hid h1
    have H2 := Lib.hid h2
    clear h1 h2
    go_wp2_with fail
    go_ret
    exact ⟨_, rfl, H1.out, H2.out⟩
  · rcases Nat.eq_zero_or_pos starts.length with h0 | h0
    · have hs0 : starts = [] := List.eq_nil_of_length_eq_zero h0
      subst hs0
      clear hcur
      go_enter Tryz.func66, Tryz.ntmps66
      go_wp2_with fail
      refine (Tryz.slices_Clone_int_zero _ _ _).mono ?_
      rintro e w' ⟨v1, rfl, h1, _, h2⟩
      have F1 := Lib.hid (Fr.of_below h2)
      have H1 := Lib.hid h1
      clear h1 h2
      go_wp2_with fail
      refine (KEY.out _ _ H1.out F1.out).mono ?_
      rintro e w' ⟨v', rfl, h1, h2⟩
      have H1 := Lib.hid h1
      have H2 := Lib.hid h2
      clear h1 h2
      go_wp2_with fail
      go_ret
      exact ⟨_, rfl, H1.out, H2.out⟩
    · have HC := Lib.hid (show ∀ j, j < (ints starts).length → w.cell? ⟨g, 0 + j, none⟩ = some (.int .i64 ((ints starts).getD j 0)) from fun j hj => by
        rw [HIL.out] at hj
        rw [Nat.zero_add, HB.out.cellAt j (by omega), nums_eq]
        simp [intsV, ints, hj])
      clear hcur
      go_enter Tryz.func66, Tryz.ntmps66
      go_wp2_with fail
      refine (Tryz.slices_Clone_int g 0 starts.length _ (ints starts) _ (by rw [HIL.out]; exact Nat.le_refl _) (by omega) HC.out).mono ?_
      rintro e w' ⟨v1, rfl, h1, _, h2⟩
      have F1 := Lib.hid (Fr.of_below h2)
      have H1 := Lib.hid h1
      clear h1 h2
      go_wp2_with fail
      refine (KEY.out _ _ (by
        have h := H1.out
        rw [← HIL.out, List.take_length] at h
        exact h) F1.out).mono ?_
      rintro e w' ⟨v', rfl, h1, h2⟩
      have H1 := Lib.hid h1
      have H2 := Lib.hid h2
      clear h1 h2
      go_wp2_with fail
      go_ret
      exact ⟨_, rfl, H1.out, H2.out⟩

theorem stepW_snoc (l : List St) (A : List Int) (a : Int) (b : Nat) : stepW l (A ++ [a]) b = stepW l A b ++ stepW l [a] b := by simp [stepW]
theorem stepW_length (l : List St) (A : List Int) (b : Nat) : (stepW l A b).length ≤ A.length := List.length_filterMap_le _ _
end Go.Proofs.YtnenbihmokolpaaGreatDoor

namespace Go.Proofs.YtnenbihmokolpaaGreatDoor set_option linter.unusedVariables false set_option linter.unusedSimpArgs false
open Go.RowKit

/-- The cells of one state, where the walk reads them. -/
theorem MachD.cellsAt {dm : Nat} {S : Nat → Prop} {w : World} {l : List St} {starts : List Nat} {g cap : Nat} {vt : Value} {fv : Nat → Value} {cells : List Value} (hm : MachD dm S w l starts (.slice (some ⟨g, 0, none⟩) l.length cap) vt fv cells) {i : Nat} {st : St} (hst : l[i]? = some st) :
    ∃ k q0 q1 q2 q3 qa qc, RxC (fun k => k < dm) w st.bytes [.int .i64 k, .int .u64 (q0 : Nat), .int .u64 (q1 : Nat), .int .u64 (q2 : Nat), .int .u64 (q3 : Nat), .slice qa st.bytes.kids.length qc] ∧
      w.cell? ⟨g, i * 9 + 1, none⟩ = some (.int .i64 k) ∧ w.cell? ⟨g, i * 9 + 2, none⟩ = some (.int .u64 q0) ∧ w.cell? ⟨g, i * 9 + 3, none⟩ = some (.int .u64 q1) ∧ w.cell? ⟨g, i * 9 + 4, none⟩ = some (.int .u64 q2) ∧
      w.cell? ⟨g, i * 9 + 5, none⟩ = some (.int .u64 q3) ∧ w.cell? ⟨g, i * 9 + 6, none⟩ = some (.slice qa st.bytes.kids.length qc) ∧ w.cell? ⟨g, i * 9 + 7, none⟩ = some (.int .i64 st.to) ∧ w.cell? ⟨g, i * 9 + 8, none⟩ = some (.int .i64 st.tag) := by
  have hil := (List.getElem?_eq_some_iff.1 hst).1
  obtain ⟨cs, hcs, hcells⟩ := hm.data i st hst
  obtain ⟨k', q0, q1, q2, q3, qa, qc, hcs6⟩ : ∃ k' q0 q1 q2 q3 qa qc, cs = [.int .i64 k', .int .u64 (q0 : Nat), .int .u64 (q1 : Nat), .int .u64 (q2 : Nat), .int .u64 (q3 : Nat), .slice qa st.bytes.kids.length qc] := by
    cases hb : st.bytes with
    | mk k b0 b1 b2 b3 kids =>
    rw [hb] at hcs
    simp only [RxC] at hcs
    obtain ⟨a, cap, rfl, _⟩ := hcs
    exact ⟨_, _, _, _, _, _, _, rfl⟩
  subst hcs6
  have y : ∀ m u, m < 9 → (St.cells (fv i) [.int .i64 k', .int .u64 (q0 : Nat), .int .u64 (q1 : Nat), .int .u64 (q2 : Nat), .int .u64 (q3 : Nat), .slice qa st.bytes.kids.length qc] st)[m]? = some u → w.cell? ⟨g, i * 9 + m, none⟩ = some u := fun m u hm9 hu => by
    rw [hm.rows.cellAt (i * 9 + m) (by omega)]
    exact hcells m u hu
  exact ⟨k', q0, q1, q2, q3, qa, qc, hcs, y 1 _ (by omega) rfl, y 2 _ (by omega) rfl, y 3 _ (by omega) rfl, y 4 _ (by omega) rfl, y 5 _ (by omega) rfl, y 6 _ (by omega) rfl, y 7 _ (by omega) rfl, y 8 _ (by omega) rfl⟩

set_option maxRecDepth 100000 in
set_option maxHeartbeats 4000000 in
theorem step_any (dm : Nat) (S : Nat → Prop) (w : World) (l : List St) (starts : List Nat) (base : Nat) (av : Value) (A : List Int) (b : Nat) (h : Mach dm S w l starts) (hf : Fit l) (ha : w.ownsRow base 3 1 av A.length (intsV A)) (hA : A.length ≤ 1000000) (hb : b < 256) :
    Calls Tryz.prog 67 #[.pointer (some ⟨dm, 0, none⟩), av, .int .u8 b] w fun e w' => ∃ v', e = .returned v' ∧ w'.ownsRow w.heap.size 3 1 v' (stepM l A b).length (nums (stepM l A b)) ∧ Fr none_ w w' := by
  obtain ⟨i0, hi, hz0, hz1, hz2⟩ := info_parts int_info
  obtain ⟨vs, vt, fv, cells, hm⟩ := h.below
  have hdm := lt_of_block hm.head
  obtain ⟨sa, scap, rfl, hsc⟩ := ownsRow_slice hm.rows
  obtain ⟨aa, acap, rfl, hac⟩ := ownsRow_slice ha
  have HM := Lib.hid hm
  have HF := Lib.hid hf
  have HA := Lib.hid ha
  have hlen := hf.len
  clear hm hf ha h
  go_enter Tryz.func67, Tryz.ntmps67
  go_wp2_with fail
  go_loopw [7, 12] (fun x7 x12 wr => ∃ i : Nat, i ≤ A.length ∧ x12 = .int .i64 i ∧ Aside (wr.ownsRow w.heap.size 3 1 x7 (stepW l (A.take i) b).length (intsV (stepW l (A.take i) b))) ∧ Aside (Fr none_ w wr)) (fun _ x12 _ => A.length - (intOf x12).toNat)
  case atStart => exact ⟨0, Nat.zero_le _, rfl, World.ownsRow_nil _ _ _ _, Fr.refl _ _⟩
  case round =>
    obtain ⟨i, hi', rfl, h7', hF'⟩ := hrel
    have H7 := Lib.hid h7'.out
    have HFr := Lib.hid hF'.out
    clear h7' hF'
    have HMr := Lib.hid (HM.out.move HFr.out (fun _ h => h.elim))
    by_cases hlt : i < A.length
    · obtain ⟨g, acap', hg, hg1, hg2⟩ := HA.out.form (by omega)
      cases hg
      have hil : (i : Int) < (A.length : Int) := by omega
      obtain ⟨a, hai⟩ : ∃ a, A[i]? = some a := ⟨A[i], List.getElem?_eq_getElem hlt⟩
      have ca : wr.cell? ⟨g, i, none⟩ = some (.int .i64 a) := by
        refine HFr.out.cell ?_ (fun h => h)
        rw [HA.out.cellAt i (by omega)]
        simp [intsV, hai]
      have htake : A.take (i + 1) = A.take i ++ [a] := by rw [List.take_add_one, hai]; rfl
      have HT := Lib.hid (show stepW l (A.take (i + 1)) b = stepW l (A.take i) b ++ stepW l [a] b by rw [htake, stepW_snoc])
      have hwl : (stepW l (A.take i) b).length ≤ 1000000 := by
        have := stepW_length l (A.take i) b
        simp only [List.length_take] at this
        omega
      have c0 : wr.cell? ⟨dm, 0, none⟩ = some (.slice sa l.length scap) := cell_of_block HMr.out.head rfl
      clear htake hai
      by_cases hin : 0 ≤ a ∧ a < l.length
      · obtain ⟨ai, rfl⟩ := Int.eq_ofNat_of_zero_le hin.1
        have hai : ai < l.length := by omega
        have hai' : ((ai : Nat) : Int) < (l.length : Int) := by omega
        clear hin
        obtain ⟨gs, scap', hsa, hgs1, hgs2⟩ := HMr.out.rows.form (by omega)
        cases hsa
        obtain ⟨st, hst⟩ := HMr.out.at hai
        obtain ⟨k, q0, q1, q2, q3, qa, qc, hrx, y1, y2, y3, y4, y5, y6, y7, y8⟩ := HMr.out.cellsAt hst
        have HRX := Lib.hid hrx
        have HST := Lib.hid hst
        clear hrx hst
        have HCALL := Lib.hid (fun (wx : World) (hx : Fr none_ wr wx) => rhas_any st.bytes b _ (fun k => k < dm) wx ⟨_, rfl, RxC.move (fun k _ hlt => hx.block k hlt (fun h => h)) _ _ HRX.out⟩ hb)
        cases hh : st.bytes.has b
        · rw [hh] at HCALL
          have HSK := Lib.hid (show stepW l [(ai : Int)] b = [] by simp [stepW, HST.out, hh])
          clear hh
          go_wp2_with fail
          refine (HCALL.out _ (Fr.refl _ _)).mono ?_
          rintro e wx ⟨rfl, Fx⟩
          have FX := Lib.hid (HFr.out.tr Fx)
          have H7x := Lib.hid (ownsRow_same H7.out (fun b' hb' => Fx.block b' (H7.out.lt b' hb').2 (fun h => h)))
          clear Fx
          go_wp2_with fail
          go_roundw
          case rel => exact ⟨i + 1, by omega, by go_num, by rw [HT.out, HSK.out, List.append_nil]; exact H7x.out, FX.out⟩
          case measure => simp [intOf]; omega
        · rw [hh] at HCALL
          have HSK := Lib.hid (show stepW l [(ai : Int)] b = [st.to] by simp [stepW, HST.out, hh])
          clear hh
          go_wp2_with fail
          refine (HCALL.out _ (Fr.refl _ _)).mono ?_
          rintro e wx ⟨rfl, Fx⟩
          have FX := Lib.hid (HFr.out.tr Fx)
          have H7x := Lib.hid (ownsRow_same H7.out (fun b' hb' => Fx.block b' (H7.out.lt b' hb').2 (fun h => h)))
          have z0 : wx.cell? ⟨dm, 0, none⟩ = some (.slice (some ⟨gs, 0, none⟩) l.length scap) := Fx.cell c0 (fun h => h)
          have z7 : wx.cell? ⟨gs, ai * 9 + 7, none⟩ = some (.int .i64 st.to) := Fx.cell y7 (fun h => h)
          have hsx := Fx.size
          have hwx := HFr.out.size
          clear Fx c0 y1 y2 y3 y4 y5 y6 y7 y8 ca
          go_wp2_with (at_builtin; refine wpList_append_lies _ rfl (.tmp 39) (.tmp 48) 100 rfl w.heap.size 3 i0 _ 1 8 Tryz.underlying100 hi hz0 hz1 hz2 rfl (by decide) _ (stepW l (A.take i) b).length (intsV (stepW l (A.take i) b)) rfl (H7x.out.alloc _) ⟨wx.heap.size, 0, none⟩ 1 1 [.int .i64 st.to] rfl rfl (getElem_block (alloc_new _ _)) ?c1 (by decide) ?c2 ?c3 ?c4 (wx.heap.size + 1) (by simp) ?_)
          case c1 => simp [Value.oneCell']
          case c2 => unfold maxLen; omega
          case c3 => omega
          case c4 => simp; omega
          intro g2 cap2 w2 hown2 hgrow2 hat2 hlt2
          have F2 := Lib.hid ((FX.out.alloc (.cells #[.int .i64 st.to] 3)).grown hgrow2 (fun k hk => .inr (H7x.out.lt k hk).1))
          have H2 := Lib.hid hown2
          clear hown2 hgrow2 hat2 hlt2 z0 z7
          go_wp2_with fail
          go_roundw
          case rel =>
            have h2 := H2.out
            refine ⟨i + 1, by omega, by go_num, ?_, F2.out⟩
            rw [HT.out, HSK.out, List.length_append]
            have e2 : intsV (stepW l (A.take i) b ++ [st.to]) = intsV (stepW l (A.take i) b) ++ [.int .i64 st.to] := by simp [intsV]
            rw [e2]
            exact h2
          case measure => simp [intOf]; omega
      · have HSK := Lib.hid (show stepW l [a] b = [] by
          simp only [stepW]
          by_cases h0 : 0 ≤ a
          · have : l[a.toNat]? = none := List.getElem?_eq_none (by omega)
            simp [h0, this]
          · simp [h0])
        by_cases ha0 : a < 0
        · clear hin
          go_wp2_with fail
          go_roundw
          case rel => exact ⟨i + 1, by omega, by go_num, by rw [HT.out, HSK.out, List.append_nil]; exact H7.out, HFr.out⟩
          case measure => simp [intOf]; omega
        · have ha0' : 0 ≤ a := by omega
          have hal : (l.length : Int) ≤ a := by omega
          clear hin ha0
          go_wp2_with fail
          go_roundw
          case rel => exact ⟨i + 1, by omega, by go_num, by rw [HT.out, HSK.out, List.append_nil]; exact H7.out, HFr.out⟩
          case measure => simp [intOf]; omega
    · obtain rfl : i = A.length := by omega
      have H7e := H7.out
      rw [List.take_length] at H7e
      have H7E := Lib.hid H7e
      clear H7 H7e
      go_wp2_with fail
      have hmv : Mach dm (fun k => S k ∧ k < w.heap.size) wr l starts := ⟨_, _, _, _, HMr.out⟩
      have HMV := Lib.hid hmv
      clear hmv
      refine (closed_any dm _ wr l starts w.heap.size _ (stepW l A b) HMV.out hlen H7E.out HFr.out.size (fun b' hb' => ⟨by have := (H7E.out.lt b' hb').1; omega, fun h => by have := (H7E.out.lt b' hb').1; omega⟩) (by
        have := HF.out.sum
        have := stepW_length l A b
        simp only [meas]
        omega)).mono ?_
      rintro e w2 ⟨v2, rfl, h2, f2⟩
      have H2 := Lib.hid h2
      have F2 := Lib.hid (HFr.out.fresh f2 (fun i hi => (H7E.out.lt i hi).1))
      clear h2 f2
      go_wp2_with fail
      go_ret
      refine ⟨v2, rfl, ⟨H2.out.1, ?_⟩, F2.out⟩
      rcases H2.out.2 with h | ⟨g, cap, cur, q1, q2, q3⟩
      · exact .inl h
      · exact .inr ⟨g, cap, cur, q1, by have := HFr.out.size; omega, q3⟩
end Go.Proofs.YtnenbihmokolpaaGreatDoor

namespace Go.Proofs.YtnenbihmokolpaaGreatDoor set_option linter.unusedVariables false set_option linter.unusedSimpArgs false
open Go.RowKit

theorem tagsM_snoc (l : List St) (A : List Int) (a : Int) : tagsM l (A ++ [a]) = (if 0 ≤ a then match l[a.toNat]? with | some x => tagsM l A ||| bitM x.tag | none => tagsM l A else tagsM l A) := by
  simp only [tagsM, List.foldl_append, List.foldl_cons, List.foldl_nil]
  rfl
theorem tagsM_lt (l : List St) : ∀ (A : List Int), tagsM l A < 18446744073709551616 := by
  have key : ∀ (A : List Int) (s : Nat), s < 18446744073709551616 → A.foldl (fun s n => if 0 ≤ n then match l[n.toNat]? with | some x => s ||| bitM x.tag | none => s else s) s < 18446744073709551616 := by
    intro A
    induction A with
    | nil => intro s hs; exact hs
    | cons a A ih =>
      intro s hs
      rw [List.foldl_cons]
      apply ih
      split
      · cases l[a.toNat]? with
        | none => exact hs
        | some x => exact or_lt hs (bitM_lt _)
      · exact hs
  exact fun A => key A 0 (by decide)

set_option maxRecDepth 100000 in
set_option maxHeartbeats 4000000 in
theorem tags_any (dm : Nat) (S : Nat → Prop) (w : World) (l : List St) (starts : List Nat) (base : Nat) (av : Value) (A : List Int) (h : Mach dm S w l starts) (hlen : l.length ≤ 100000) (ha : w.ownsRow base 3 1 av A.length (intsV A)) (hA : A.length ≤ 1000000) :
    Calls Tryz.prog 68 #[.pointer (some ⟨dm, 0, none⟩), av] w fun e w' => e = .returned (.int .u64 (tagsM l A)) ∧ w = w' := by
  obtain ⟨vs, vt, fv, cells, hm⟩ := h
  have hdm := lt_of_block hm.head
  obtain ⟨sa, scap, rfl, hsc⟩ := ownsRow_slice hm.rows
  obtain ⟨aa, acap, rfl, hac⟩ := ownsRow_slice ha
  have c0 : w.cell? ⟨dm, 0, none⟩ = some (.slice sa l.length scap) := cell_of_block hm.head rfl
  have HM := Lib.hid hm
  have HA := Lib.hid ha
  clear hm ha
  go_enter Tryz.func68, Tryz.ntmps68
  go_wp2_with fail
  go_loop [5, 10] (fun x5 x10 => ∃ i : Nat, i ≤ A.length ∧ x10 = .int .i64 i ∧ x5 = .int .u64 (tagsM l (A.take i) : Nat)) (fun _ x10 => A.length - (intOf x10).toNat)
  case atStart => exact ⟨0, Nat.zero_le _, rfl, rfl⟩
  case round =>
    obtain ⟨i, hi', rfl, rfl⟩ := hrel
    by_cases hlt : i < A.length
    · obtain ⟨g, acap', hg, hg1, hg2⟩ := HA.out.form (by omega)
      cases hg
      have hil : (i : Int) < (A.length : Int) := by omega
      obtain ⟨a, hai⟩ : ∃ a, A[i]? = some a := ⟨A[i], List.getElem?_eq_getElem hlt⟩
      have ca : w.cell? ⟨g, i, none⟩ = some (.int .i64 a) := by
        rw [HA.out.cellAt i (by omega)]
        simp [intsV, hai]
      have htake : A.take (i + 1) = A.take i ++ [a] := by rw [List.take_add_one, hai]; rfl
      have HT := Lib.hid (show tagsM l (A.take (i + 1)) = (if 0 ≤ a then match l[a.toNat]? with | some x => tagsM l (A.take i) ||| bitM x.tag | none => tagsM l (A.take i) else tagsM l (A.take i)) by rw [htake, tagsM_snoc])
      have htl := tagsM_lt l (A.take i)
      clear htake hai
      obtain ⟨T, hT⟩ : ∃ T, tagsM l (A.take i) = T := ⟨_, rfl⟩
      rw [hT] at HT htl ⊢
      clear hT
      by_cases hin : 0 ≤ a ∧ a < l.length
      · obtain ⟨ai, rfl⟩ := Int.eq_ofNat_of_zero_le hin.1
        have hai : ai < l.length := by omega
        have hai' : ((ai : Nat) : Int) < (l.length : Int) := by omega
        clear hin
        obtain ⟨gs, scap', hsa, hgs1, hgs2⟩ := HM.out.rows.form (by omega)
        cases hsa
        obtain ⟨st, hst⟩ := HM.out.at hai
        obtain ⟨k, q0, q1, q2, q3, qa, qc, hrx, y1, y2, y3, y4, y5, y6, y7, y8⟩ := HM.out.cellsAt hst
        have HN := Lib.hid (show (if 0 ≤ (ai : Int) then match l[(ai : Int).toNat]? with | some x => T ||| bitM x.tag | none => T else T) = T ||| bitM st.tag by simp [hst])
        clear hrx hst y1 y2 y3 y4 y5 y6 y7
        go_wp2_with fail
        refine (with_any T st.tag _ htl).mono ?_
        rintro e w' ⟨rfl, rfl⟩
        go_wp2_with fail
        go_round
        case rel => exact ⟨i + 1, by omega, by go_num, by rw [HT.out, HN.out]⟩
        case measure => simp [intOf]; omega
      · have HN := Lib.hid (show (if 0 ≤ a then match l[a.toNat]? with | some x => T ||| bitM x.tag | none => T else T) = T by
          by_cases h0 : 0 ≤ a
          · have : l[a.toNat]? = none := List.getElem?_eq_none (by omega)
            simp [h0, this]
          · simp [h0])
        by_cases ha0 : a < 0
        · clear hin
          go_wp2_with fail
          go_round
          case rel => exact ⟨i + 1, by omega, by go_num, by rw [HT.out, HN.out]⟩
          case measure => simp [intOf]; omega
        · have ha0' : 0 ≤ a := by omega
          have hal : (l.length : Int) ≤ a := by omega
          clear hin ha0
          go_wp2_with fail
          go_round
          case rel => exact ⟨i + 1, by omega, by go_num, by rw [HT.out, HN.out]⟩
          case measure => simp [intOf]; omega
    · obtain rfl : i = A.length := by omega
      rw [List.take_length]
      go_wp2_with fail
      go_ret
      exact ⟨rfl, rfl⟩

def bytesN (s : ByteArray) : List Nat := s.data.toList.map fun b => b.toNat
theorem bytesN_length (s : ByteArray) : (bytesN s).length = s.size := by simp [bytesN]
theorem bytesN_take (s : ByteArray) (i : Nat) (h : i < s.size) : (bytesN s).take (i + 1) = (bytesN s).take i ++ [byteAt s i] := by
  rw [List.take_add_one]
  congr 1
  have : (bytesN s)[i]? = some (byteAt s i) := by
    simp only [bytesN, List.getElem?_map, byteAt, h, dif_pos]
    have h2 : s.data.toList[i]? = some s[i] := by
      rw [Array.getElem?_toList]
      exact Array.getElem?_eq_getElem h
    rw [h2]; rfl
  rw [this]; rfl
theorem ints_length (l : List Nat) : (ints l).length = l.length := by simp [ints]

end Go.Proofs.YtnenbihmokolpaaGreatDoor
