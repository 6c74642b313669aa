/-
  The walk over regex's reader: an atom.
-/
import Derived.Test.YtjbmppbciiemkaaPj
namespace Go.Proofs.Ytjbmppbciiemkaa set_option linter.unusedVariables false set_option linter.unusedSimpArgs false
open Go.RowKit
set_option maxRecDepth 100000 in
set_option maxHeartbeats 4000000 in
theorem atom_err (s : ByteArray) (hs : s.size ≤ 1000) (k : Nat) (hways : ∀ j, j < k + 1 → WaysC s j) (p d : Nat) (w : World) (m : Got Rx) (hp : p ≤ s.size) (hb : w.heap[d]? = some (rdObj s p)) (en : Int) (hn : nextB s p = .error en) (hm : m = .error en) :
    Calls Try.prog 41 #[.pointer (some ⟨d, 0, none⟩)] w (GotR none_ d s w m) := by
  have hdl := lt_of_block hb
  obtain ⟨n1, n2⟩ := alloc_new2 w (.cells #[.int .i64 0, .int .u64 0, .int .u64 0, .int .u64 0, .int .u64 0, .slice none 0 0] 28) (bsObj 1 Bs.zero)
  have F0 := ((Fr.refl none_ w).alloc (.cells #[.int .i64 0, .int .u64 0, .int .u64 0, .int .u64 0, .int .u64 0, .slice none 0 0] 28)).alloc (bsObj 1 Bs.zero)
  have HB0 := Lib.hid (F0.at_ hb (fun h => h))
  have HF0 := Lib.hid (F0.none (S := at1 d))
  have N1 := Lib.hid n1
  have N2 := Lib.hid n2
  have S0 := Lib.hid (show ((w.alloc (.cells #[.int .i64 0, .int .u64 0, .int .u64 0, .int .u64 0, .int .u64 0, .slice none 0 0] 28)).alloc (bsObj 1 Bs.zero)).heap.size = w.heap.size + 2 by simp)
  have E1 := Lib.hid (show ¬ at1 d w.heap.size by simp only [at1]; omega)
  have E2 := Lib.hid (show ¬ at1 w.heap.size d by simp only [at1]; omega)
  have E3 := Lib.hid (show ¬ at1 d (w.heap.size + 1) by simp only [at1]; omega)
  have E4 := Lib.hid (show ¬ at1 (w.heap.size + 1) d by simp only [at1]; omega)
  have E5 := Lib.hid (show ¬ at1 (w.heap.size + 1) w.heap.size by simp only [at1]; omega)
  have HA := Lib.hid hways
  clear hb n1 n2 F0 hways
  subst hm
  have HN := Lib.hid hn
  clear hn
  go_enter Try.func41, Try.ntmps41
  go_wp2_with fail
  refine (next_err hs HB0.out HN.out).mono ?_
  rintro e wa ⟨rfl, Fa⟩
  have HFa := Lib.hid (HF0.out.tr Fa)
  clear Fa
  go_wp2_with fail
  exact ⟨rfl, rfl, HFa.out⟩
set_option maxRecDepth 100000 in
set_option maxHeartbeats 4000000 in
theorem atom_40 (s : ByteArray) (hs : s.size ≤ 1000) (k : Nat) (hways : ∀ j, j < k + 1 → WaysC s j) (p d : Nat) (w : World) (m : Got Rx) (hp : p ≤ s.size) (hb : w.heap[d]? = some (rdObj s p)) (b q : Nat) (hn : nextB s p = .ok (b, q)) (hb256 : b < 256) (hqs : q ≤ s.size) (hm : atomB s (k + 1) p = some m) (h40 : b = 40) :
    Calls Try.prog 41 #[.pointer (some ⟨d, 0, none⟩)] w (GotR none_ d s w m) := by
        have hdl := lt_of_block hb
        obtain ⟨n1, n2⟩ := alloc_new2 w (.cells #[.int .i64 0, .int .u64 0, .int .u64 0, .int .u64 0, .int .u64 0, .slice none 0 0] 28) (bsObj 1 Bs.zero)
        have F0 := ((Fr.refl none_ w).alloc (.cells #[.int .i64 0, .int .u64 0, .int .u64 0, .int .u64 0, .int .u64 0, .slice none 0 0] 28)).alloc (bsObj 1 Bs.zero)
        have HB0 := Lib.hid (F0.at_ hb (fun h => h))
        have HF0 := Lib.hid (F0.none (S := at1 d))
        have N1 := Lib.hid n1
        have N2 := Lib.hid n2
        have S0 := Lib.hid (show ((w.alloc (.cells #[.int .i64 0, .int .u64 0, .int .u64 0, .int .u64 0, .int .u64 0, .slice none 0 0] 28)).alloc (bsObj 1 Bs.zero)).heap.size = w.heap.size + 2 by simp)
        have E1 := Lib.hid (show ¬ at1 d w.heap.size by simp only [at1]; omega)
        have E2 := Lib.hid (show ¬ at1 w.heap.size d by simp only [at1]; omega)
        have E3 := Lib.hid (show ¬ at1 d (w.heap.size + 1) by simp only [at1]; omega)
        have E4 := Lib.hid (show ¬ at1 (w.heap.size + 1) d by simp only [at1]; omega)
        have E5 := Lib.hid (show ¬ at1 (w.heap.size + 1) w.heap.size by simp only [at1]; omega)
        have HA := Lib.hid hways
        clear hb n1 n2 F0 hways
        have HN := Lib.hid hn
        simp only [atomB, hn] at hm
        clear hn
        rw [if_pos h40] at hm
        have e40 : ((b : Int) == 40) = true := by rw [beq_iff_eq]; omega
        clear h40
        cases hw : waysB s k q with
        | none => simp [hw] at hm
        | some mw =>
          have HW := Lib.hid hw
          rw [hw] at hm
          have HM := Lib.hid hm
          clear hm hw
          go_enter Try.func41, Try.ntmps41
          go_wp2_with fail
          refine (next_ok hs HB0.out HN.out).mono ?_
          rintro e wa ⟨rfl, hba, Fa⟩
          have HBa := Lib.hid hba
          have N1a := Lib.hid (Fa.at_ N1.out E1.out)
          have N2a := Lib.hid (Fa.at_ N2.out E3.out)
          have HFa := Lib.hid (HF0.out.tr Fa)
          have HSa := Lib.hid Fa.size
          clear hba Fa
          go_wp2_with fail
          refine (HA.out k (by omega) q d _ mw hqs HBa.out HW.out).mono ?_
          intro e wb hg
          cases mw with
          | error en =>
            have hmr : m = .error en := by have := HM.out; simpa using this.symm
            subst hmr
            obtain ⟨rfl, Fg⟩ := hg
            have HFg := Lib.hid (HFa.out.tr Fg)
            clear Fg
            go_wp2_with fail
            exact ⟨rfl, rfl, HFg.out⟩
          | ok y =>
            obtain ⟨⟨k', x0, x1, x2, x3, xids⟩, q2⟩ := y
            obtain ⟨v', rfl, hv', hb', Fg⟩ := hg
            obtain ⟨va, vcap, rfl, hvc, hvl⟩ := hv'.open_
            have HVL := Lib.hid hvl
            have N1b := Lib.hid (Fg.at_ N1a.out E1.out)
            have HFb := Lib.hid (HFa.out.tr Fg)
            have HBb := Lib.hid hb'
            have HSb := Lib.hid Fg.size
            clear hvl hv' hb' Fg
            go_wp2_with fail
            have FA := (Fr.refl none_ wb).alloc (.cells #[.int .i64 k', .int .u64 x0, .int .u64 x1, .int .u64 x2, .int .u64 x3, .slice va xids.length vcap] 28)
            have HBc := Lib.hid (FA.at_ HBb.out (fun h => h))
            have N1c := Lib.hid (FA.at_ N1b.out (fun h => h))
            have N5c := Lib.hid (alloc_new wb (.cells #[.int .i64 k', .int .u64 x0, .int .u64 x1, .int .u64 x2, .int .u64 x3, .slice va xids.length vcap] 28))
            have HFc := Lib.hid (HFb.out.tr FA.none)
            have HVc := Lib.hid (RxL.move (fun i _ hlt => FA.block i hlt (fun h => h)) xids va 0 HVL.out)
            have hdb := lt_of_block HBb.out
            have E6 := Lib.hid (show ¬ at1 d wb.heap.size by simp only [at1]; omega)
            clear FA hdb
            cases h41 : isB s q2 41 with
            | false =>
              have hmr : m = .error 5 := by have := HM.out; simp only [h41, Bool.false_eq_true, if_false] at this; simpa using this.symm
              subst hmr
              have HI := Lib.hid h41
              clear h41
              refine (is_no s q2 d 41 _ hs HBc.out HI.out).mono ?_
              rintro e we ⟨rfl, hbe, Fe⟩
              have HFe := Lib.hid (HFc.out.tr Fe)
              clear Fe hbe
              go_wp2_with fail
              refine (fail_any _ _).mono ?_
              rintro e wf ⟨rfl, rfl⟩
              go_wp2_with fail
              exact ⟨rfl, rfl, HFe.out⟩
            | true =>
              have hmr : m = .ok (.mk k' x0 x1 x2 x3 xids, q2 + 1) := by have := HM.out; simp only [h41, if_true] at this; simpa using this.symm
              subst hmr
              have HI := Lib.hid h41
              clear h41
              refine (is_yes s q2 d 41 _ hs HBc.out HI.out).mono ?_
              rintro e we ⟨rfl, hbe, Fe⟩
              have HBe := Lib.hid hbe
              have N1e := Lib.hid (Fe.at_ N1c.out E1.out)
              have HFe := Lib.hid (HFc.out.tr Fe)
              have hn5 := Fe.at_ N5c.out E6.out
              obtain ⟨c0, c1, c2, c3, c4, c5⟩ := six hn5
              obtain ⟨z0, z1, z2, z3, z4, z5⟩ := six N1e.out
              have zf : ∀ o, we.frozen? ⟨w.heap.size, o, none⟩ = false := fun o => free_of_block N1e.out
              have HVe := Lib.hid (RxL.move (fun i hi hlt => Fe.block i hlt (by
                have := HSa.out
                have := S0.out
                simp only [at1]
                rcases hi with hi | hi
                · exact hi.elim
                · omega)) xids va 0 HVc.out)
              clear hbe Fe hn5
              go_wp2_with fail
              refine bodyPost_ret (results_six rfl rfl (set_six N1e.out _ _ _ _ _ _)) rfl ?_
              have fx := fr_six (S := at1 w.heap.size) (r := w.heap.size) (Fr.refl _ we) (.inl rfl) (.int .i64 k') (.int .u64 x0) (.int .u64 x1) (.int .u64 x2) (.int .u64 x3) (.slice va xids.length vcap)
              have hsa := HSa.out
              have hs0 := S0.out
              refine ⟨_, rfl, ((RxV.mk_ hvc HVe.out).move fx (fun i hi _ => ?_)).mono (fun i hi => ?_), fx.at_ HBe.out E2.out, fr_six HFe.out (.inr (Nat.le_refl _)) _ _ _ _ _ _⟩
              · simp only [at1]
                rcases hi with hi | hi
                · exact hi.elim
                · omega
              · rcases hi with hi | hi
                · exact hi.elim
                · exact .inr (by omega)
set_option maxRecDepth 100000 in
set_option maxHeartbeats 4000000 in
theorem atom_91 (s : ByteArray) (hs : s.size ≤ 1000) (k : Nat) (hways : ∀ j, j < k + 1 → WaysC s j) (p d : Nat) (w : World) (m : Got Rx) (hp : p ≤ s.size) (hb : w.heap[d]? = some (rdObj s p)) (b q : Nat) (hn : nextB s p = .ok (b, q)) (hb256 : b < 256) (hqs : q ≤ s.size) (hm : atomB s (k + 1) p = some m) (h91 : b = 91) :
    Calls Try.prog 41 #[.pointer (some ⟨d, 0, none⟩)] w (GotR none_ d s w m) := by
          have hdl := lt_of_block hb
          obtain ⟨n1, n2⟩ := alloc_new2 w (.cells #[.int .i64 0, .int .u64 0, .int .u64 0, .int .u64 0, .int .u64 0, .slice none 0 0] 28) (bsObj 1 Bs.zero)
          have F0 := ((Fr.refl none_ w).alloc (.cells #[.int .i64 0, .int .u64 0, .int .u64 0, .int .u64 0, .int .u64 0, .slice none 0 0] 28)).alloc (bsObj 1 Bs.zero)
          have HB0 := Lib.hid (F0.at_ hb (fun h => h))
          have HF0 := Lib.hid (F0.none (S := at1 d))
          have N1 := Lib.hid n1
          have N2 := Lib.hid n2
          have S0 := Lib.hid (show ((w.alloc (.cells #[.int .i64 0, .int .u64 0, .int .u64 0, .int .u64 0, .int .u64 0, .slice none 0 0] 28)).alloc (bsObj 1 Bs.zero)).heap.size = w.heap.size + 2 by simp)
          have E1 := Lib.hid (show ¬ at1 d w.heap.size by simp only [at1]; omega)
          have E2 := Lib.hid (show ¬ at1 w.heap.size d by simp only [at1]; omega)
          have E3 := Lib.hid (show ¬ at1 d (w.heap.size + 1) by simp only [at1]; omega)
          have E4 := Lib.hid (show ¬ at1 (w.heap.size + 1) d by simp only [at1]; omega)
          have E5 := Lib.hid (show ¬ at1 (w.heap.size + 1) w.heap.size by simp only [at1]; omega)
          have HA := Lib.hid hways
          clear hb n1 n2 F0 hways
          have HN := Lib.hid hn
          simp only [atomB, hn] at hm
          clear hn
          have h40 : b ≠ 40 := by omega
          rw [if_neg h40, if_pos h91] at hm
          have e40 : ((b : Int) == 40) = false := by rw [beq_eq_false_iff_ne]; omega
          have e91 : ((b : Int) == 91) = true := by rw [beq_iff_eq]; omega
          clear h40 h91
          have HM := Lib.hid hm
          clear hm
          go_enter Try.func41, Try.ntmps41
          go_wp2_with fail
          refine (next_ok hs HB0.out HN.out).mono ?_
          rintro e wa ⟨rfl, hba, Fa⟩
          have HBa := Lib.hid hba
          have N1a := Lib.hid (Fa.at_ N1.out E1.out)
          have N2a := Lib.hid (Fa.at_ N2.out E3.out)
          have HFa := Lib.hid (HF0.out.tr Fa)
          have HSa := Lib.hid Fa.size
          clear hba Fa
          go_wp2_with fail
          refine (class_any s k q d _ m hs HBa.out HM.out).mono ?_
          intro e wb hg
          cases m with
          | error en =>
            obtain ⟨rfl, Fg⟩ := hg
            have HFg := Lib.hid (HFa.out.tr Fg)
            clear Fg
            go_wp2_with fail
            exact ⟨rfl, rfl, HFg.out⟩
          | ok y =>
            obtain ⟨rr, q2⟩ := y
            obtain ⟨v', rfl, hv, hb', Fg⟩ := hg
            have N1b := Lib.hid (Fg.at_ N1a.out E1.out)
            have HFb := Lib.hid (HFa.out.tr Fg)
            have HBb := Lib.hid hb'
            clear hb' Fg
            obtain ⟨k', x0, x1, x2, x3, xids, hrr⟩ : ∃ k' x0 x1 x2 x3 xids, rr = Rx.mk k' x0 x1 x2 x3 xids := by
              cases rr; exact ⟨_, _, _, _, _, _, rfl⟩
            rw [hrr] at hv
            have HRR := Lib.hid hrr
            clear hrr
            obtain ⟨va, vcap, rfl, hvc, hvl⟩ := hv.open_
            obtain ⟨z0, z1, z2, z3, z4, z5⟩ := six N1b.out
            have zf : ∀ o, wb.frozen? ⟨w.heap.size, o, none⟩ = false := fun o => free_of_block N1b.out
            have HVL := Lib.hid hvl
            clear hvl hv
            go_wp2_with fail
            refine bodyPost_ret (results_six rfl rfl (set_six N1b.out _ _ _ _ _ _)) rfl ?_
            have fx := fr_six (S := at1 w.heap.size) (r := w.heap.size) (Fr.refl _ wb) (.inl rfl) (.int .i64 k') (.int .u64 x0) (.int .u64 x1) (.int .u64 x2) (.int .u64 x3) (.slice va xids.length vcap)
            refine ⟨_, rfl, ?_, fx.at_ HBb.out E2.out, fr_six HFb.out (.inr (Nat.le_refl _)) _ _ _ _ _ _⟩
            rw [HRR.out]
            refine ((RxV.mk_ hvc HVL.out).move fx (fun i hi _ => ?_)).mono (fun i hi => ?_)
            · have hsa := HSa.out
              have hs0 := S0.out
              simp only [at1]
              rcases hi with hi | hi
              · exact hi.elim
              · omega
            · have hsa := HSa.out
              have hs0 := S0.out
              rcases hi with hi | hi
              · exact hi.elim
              · exact .inr (by omega)
set_option maxRecDepth 100000 in
set_option maxHeartbeats 4000000 in
theorem atom_46 (s : ByteArray) (hs : s.size ≤ 1000) (k : Nat) (hways : ∀ j, j < k + 1 → WaysC s j) (p d : Nat) (w : World) (m : Got Rx) (hp : p ≤ s.size) (hb : w.heap[d]? = some (rdObj s p)) (b q : Nat) (hn : nextB s p = .ok (b, q)) (hb256 : b < 256) (hqs : q ≤ s.size) (hm : atomB s (k + 1) p = some m) (h46 : b = 46) :
    Calls Try.prog 41 #[.pointer (some ⟨d, 0, none⟩)] w (GotR none_ d s w m) := by
            have hdl := lt_of_block hb
            obtain ⟨n1, n2⟩ := alloc_new2 w (.cells #[.int .i64 0, .int .u64 0, .int .u64 0, .int .u64 0, .int .u64 0, .slice none 0 0] 28) (bsObj 1 Bs.zero)
            have F0 := ((Fr.refl none_ w).alloc (.cells #[.int .i64 0, .int .u64 0, .int .u64 0, .int .u64 0, .int .u64 0, .slice none 0 0] 28)).alloc (bsObj 1 Bs.zero)
            have HB0 := Lib.hid (F0.at_ hb (fun h => h))
            have HF0 := Lib.hid (F0.none (S := at1 d))
            have N1 := Lib.hid n1
            have N2 := Lib.hid n2
            have S0 := Lib.hid (show ((w.alloc (.cells #[.int .i64 0, .int .u64 0, .int .u64 0, .int .u64 0, .int .u64 0, .slice none 0 0] 28)).alloc (bsObj 1 Bs.zero)).heap.size = w.heap.size + 2 by simp)
            have E1 := Lib.hid (show ¬ at1 d w.heap.size by simp only [at1]; omega)
            have E2 := Lib.hid (show ¬ at1 w.heap.size d by simp only [at1]; omega)
            have E3 := Lib.hid (show ¬ at1 d (w.heap.size + 1) by simp only [at1]; omega)
            have E4 := Lib.hid (show ¬ at1 (w.heap.size + 1) d by simp only [at1]; omega)
            have E5 := Lib.hid (show ¬ at1 (w.heap.size + 1) w.heap.size by simp only [at1]; omega)
            have HA := Lib.hid hways
            clear hb n1 n2 F0 hways
            have HN := Lib.hid hn
            simp only [atomB, hn] at hm
            clear hn
            have h40 : b ≠ 40 := by omega
            have h91 : b ≠ 91 := by omega
            rw [if_neg h40, if_neg h91, if_pos h46] at hm
            have e40 : ((b : Int) == 40) = false := by rw [beq_eq_false_iff_ne]; omega
            have e91 : ((b : Int) == 91) = false := by rw [beq_eq_false_iff_ne]; omega
            have e46 : ((b : Int) == 46) = true := by rw [beq_iff_eq]; omega
            have hmr : m = .ok ((Bs.zero.add 10).others.rx, q) := by simpa using hm.symm
            subst hmr
            clear h40 h91 h46 hm
            go_enter Try.func41, Try.ntmps41
            go_wp2_with fail
            refine (next_ok hs HB0.out HN.out).mono ?_
            rintro e wa ⟨rfl, hba, Fa⟩
            have HBa := Lib.hid hba
            have N1a := Lib.hid (Fa.at_ N1.out E1.out)
            have N2a := Lib.hid (Fa.at_ N2.out E3.out)
            have HFa := Lib.hid (HF0.out.tr Fa)
            have HSa := Lib.hid Fa.size
            clear hba Fa
            go_wp2_with fail
            refine (add_any 10 _ 1 Bs.zero Bs.Ok.zero _ (by decide) N2a.out).mono ?_
            rintro e wb ⟨rfl, h2b, Fb⟩
            have HBb := Lib.hid (Fb.at_ HBa.out E4.out)
            have N1b := Lib.hid (Fb.at_ N1a.out E5.out)
            have N2b := Lib.hid h2b
            have HFb := Lib.hid (HFa.out.trans Fb (fun i hi hh => by simp only [at1] at hh; omega))
            clear h2b Fb
            obtain ⟨c0, c1, c2, c3, c4, c5⟩ := six N2b.out
            go_wp2_with fail
            refine (others_any 1 (Bs.zero.add 10) (Bs.Ok.zero.add 10) _).mono ?_
            rintro e wc ⟨rfl, Fc⟩
            clear c0 c1 c2 c3 c4 c5
            have HBc := Lib.hid (Fc.at_ HBb.out (fun h => h))
            have N1c := Lib.hid (Fc.at_ N1b.out (fun h => h))
            have HFc := Lib.hid (HFb.out.tr Fc.none)
            clear Fc
            obtain ⟨z0, z1, z2, z3, z4, z5⟩ := six N1c.out
            have zf : ∀ o, wc.frozen? ⟨w.heap.size, o, none⟩ = false := fun o => free_of_block N1c.out
            go_wp2_with fail
            refine bodyPost_ret (results_six rfl rfl (set_six N1c.out _ _ _ _ _ _)) rfl ?_
            have fx := fr_six (S := at1 w.heap.size) (r := w.heap.size) (Fr.refl _ wc) (.inl rfl) (.int .i64 1) (.int .u64 (Bs.zero.add 10).others.b0) (.int .u64 (Bs.zero.add 10).others.b1) (.int .u64 (Bs.zero.add 10).others.b2) (.int .u64 (Bs.zero.add 10).others.b3) (.slice none 0 0)
            exact ⟨_, rfl, RxV.bs _ _ (Bs.zero.add 10).others, fx.at_ HBc.out E2.out, fr_six HFc.out (.inr (Nat.le_refl _)) _ _ _ _ _ _⟩
set_option maxRecDepth 100000 in
set_option maxHeartbeats 4000000 in
theorem atom_92 (s : ByteArray) (hs : s.size ≤ 1000) (k : Nat) (hways : ∀ j, j < k + 1 → WaysC s j) (p d : Nat) (w : World) (m : Got Rx) (hp : p ≤ s.size) (hb : w.heap[d]? = some (rdObj s p)) (b q : Nat) (hn : nextB s p = .ok (b, q)) (hb256 : b < 256) (hqs : q ≤ s.size) (hm : atomB s (k + 1) p = some m) (h92 : b = 92) :
    Calls Try.prog 41 #[.pointer (some ⟨d, 0, none⟩)] w (GotR none_ d s w m) := by
              have hdl := lt_of_block hb
              obtain ⟨n1, n2⟩ := alloc_new2 w (.cells #[.int .i64 0, .int .u64 0, .int .u64 0, .int .u64 0, .int .u64 0, .slice none 0 0] 28) (bsObj 1 Bs.zero)
              have F0 := ((Fr.refl none_ w).alloc (.cells #[.int .i64 0, .int .u64 0, .int .u64 0, .int .u64 0, .int .u64 0, .slice none 0 0] 28)).alloc (bsObj 1 Bs.zero)
              have HB0 := Lib.hid (F0.at_ hb (fun h => h))
              have HF0 := Lib.hid (F0.none (S := at1 d))
              have N1 := Lib.hid n1
              have N2 := Lib.hid n2
              have S0 := Lib.hid (show ((w.alloc (.cells #[.int .i64 0, .int .u64 0, .int .u64 0, .int .u64 0, .int .u64 0, .slice none 0 0] 28)).alloc (bsObj 1 Bs.zero)).heap.size = w.heap.size + 2 by simp)
              have E1 := Lib.hid (show ¬ at1 d w.heap.size by simp only [at1]; omega)
              have E2 := Lib.hid (show ¬ at1 w.heap.size d by simp only [at1]; omega)
              have E3 := Lib.hid (show ¬ at1 d (w.heap.size + 1) by simp only [at1]; omega)
              have E4 := Lib.hid (show ¬ at1 (w.heap.size + 1) d by simp only [at1]; omega)
              have E5 := Lib.hid (show ¬ at1 (w.heap.size + 1) w.heap.size by simp only [at1]; omega)
              have HA := Lib.hid hways
              clear hb n1 n2 F0 hways
              have HN := Lib.hid hn
              simp only [atomB, hn] at hm
              clear hn
              have h40 : b ≠ 40 := by omega
              have h91 : b ≠ 91 := by omega
              have h46 : b ≠ 46 := by omega
              rw [if_neg h40, if_neg h91, if_neg h46, if_pos h92] at hm
              have e40 : ((b : Int) == 40) = false := by rw [beq_eq_false_iff_ne]; omega
              have e91 : ((b : Int) == 91) = false := by rw [beq_eq_false_iff_ne]; omega
              have e46 : ((b : Int) == 46) = false := by rw [beq_eq_false_iff_ne]; omega
              have e92 : ((b : Int) == 92) = true := by rw [beq_iff_eq]; omega
              clear h40 h91 h46 h92
              cases hc : charB s q with
              | error en =>
                have hmr : m = .error en := by simp only [hc] at hm; simpa using hm.symm
                subst hmr
                have HC := Lib.hid hc
                clear hc hm
                go_enter Try.func41, Try.ntmps41
                go_wp2_with fail
                refine (next_ok hs HB0.out HN.out).mono ?_
                rintro e wa ⟨rfl, hba, Fa⟩
                have HBa := Lib.hid hba
                have N1a := Lib.hid (Fa.at_ N1.out E1.out)
                have N2a := Lib.hid (Fa.at_ N2.out E3.out)
                have HFa := Lib.hid (HF0.out.tr Fa)
                have HSa := Lib.hid Fa.size
                clear hba Fa
                go_wp2_with fail
                refine (char_err hs HBa.out HC.out).mono ?_
                rintro e wb ⟨rfl, Fb⟩
                have HFb := Lib.hid (HFa.out.tr Fb)
                clear Fb
                go_wp2_with fail
                exact ⟨rfl, rfl, HFb.out⟩
              | ok y =>
                obtain ⟨c, q2⟩ := y
                have hmr : m = .ok ((Bs.zero.add c).rx, q2) := by simp only [hc] at hm; simpa using hm.symm
                subst hmr
                have hc256 := (charB_lt hc).1
                have HC := Lib.hid hc
                clear hc hm
                go_enter Try.func41, Try.ntmps41
                go_wp2_with fail
                refine (next_ok hs HB0.out HN.out).mono ?_
                rintro e wa ⟨rfl, hba, Fa⟩
                have HBa := Lib.hid hba
                have N1a := Lib.hid (Fa.at_ N1.out E1.out)
                have N2a := Lib.hid (Fa.at_ N2.out E3.out)
                have HFa := Lib.hid (HF0.out.tr Fa)
                have HSa := Lib.hid Fa.size
                clear hba Fa
                go_wp2_with fail
                refine (char_ok hs HBa.out HC.out).mono ?_
                rintro e wb ⟨rfl, hbb, Fb⟩
                have HBb := Lib.hid hbb
                have N1b := Lib.hid (Fb.at_ N1a.out E1.out)
                have N2b := Lib.hid (Fb.at_ N2a.out E3.out)
                have HFb := Lib.hid (HFa.out.tr Fb)
                clear hbb Fb
                go_wp2_with fail
                refine (add_any c _ 1 Bs.zero Bs.Ok.zero _ hc256 N2b.out).mono ?_
                rintro e wc ⟨rfl, h2c, Fc⟩
                have HBc := Lib.hid (Fc.at_ HBb.out E4.out)
                have N1c := Lib.hid (Fc.at_ N1b.out E5.out)
                have N2c := Lib.hid h2c
                have HFc := Lib.hid (HFb.out.trans Fc (fun i hi hh => by simp only [at1] at hh; omega))
                clear h2c Fc
                obtain ⟨c0, c1, c2, c3, c4, c5⟩ := six N2c.out
                obtain ⟨z0, z1, z2, z3, z4, z5⟩ := six N1c.out
                have zf : ∀ o, wc.frozen? ⟨w.heap.size, o, none⟩ = false := fun o => free_of_block N1c.out
                go_wp2_with fail
                refine bodyPost_ret (results_six rfl rfl (set_six N1c.out _ _ _ _ _ _)) rfl ?_
                have fx := fr_six (S := at1 w.heap.size) (r := w.heap.size) (Fr.refl _ wc) (.inl rfl) (.int .i64 1) (.int .u64 (Bs.zero.add c).b0) (.int .u64 (Bs.zero.add c).b1) (.int .u64 (Bs.zero.add c).b2) (.int .u64 (Bs.zero.add c).b3) (.slice none 0 0)
                exact ⟨_, rfl, RxV.bs _ _ (Bs.zero.add c), fx.at_ HBc.out E2.out, fr_six HFc.out (.inr (Nat.le_refl _)) _ _ _ _ _ _⟩
set_option maxRecDepth 100000 in
set_option maxHeartbeats 4000000 in
theorem atom_42 (s : ByteArray) (hs : s.size ≤ 1000) (k : Nat) (hways : ∀ j, j < k + 1 → WaysC s j) (p d : Nat) (w : World) (m : Got Rx) (hp : p ≤ s.size) (hb : w.heap[d]? = some (rdObj s p)) (b q : Nat) (hn : nextB s p = .ok (b, q)) (hb256 : b < 256) (hqs : q ≤ s.size) (hm : atomB s (k + 1) p = some m) (hh : b = 42) :
    Calls Try.prog 41 #[.pointer (some ⟨d, 0, none⟩)] w (GotR none_ d s w m) := by
  have hdl := lt_of_block hb
  obtain ⟨n1, n2⟩ := alloc_new2 w (.cells #[.int .i64 0, .int .u64 0, .int .u64 0, .int .u64 0, .int .u64 0, .slice none 0 0] 28) (bsObj 1 Bs.zero)
  have F0 := ((Fr.refl none_ w).alloc (.cells #[.int .i64 0, .int .u64 0, .int .u64 0, .int .u64 0, .int .u64 0, .slice none 0 0] 28)).alloc (bsObj 1 Bs.zero)
  have HB0 := Lib.hid (F0.at_ hb (fun h => h))
  have HF0 := Lib.hid (F0.none (S := at1 d))
  have N1 := Lib.hid n1
  have N2 := Lib.hid n2
  have S0 := Lib.hid (show ((w.alloc (.cells #[.int .i64 0, .int .u64 0, .int .u64 0, .int .u64 0, .int .u64 0, .slice none 0 0] 28)).alloc (bsObj 1 Bs.zero)).heap.size = w.heap.size + 2 by simp)
  have E1 := Lib.hid (show ¬ at1 d w.heap.size by simp only [at1]; omega)
  have E2 := Lib.hid (show ¬ at1 w.heap.size d by simp only [at1]; omega)
  have E3 := Lib.hid (show ¬ at1 d (w.heap.size + 1) by simp only [at1]; omega)
  have E4 := Lib.hid (show ¬ at1 (w.heap.size + 1) d by simp only [at1]; omega)
  have E5 := Lib.hid (show ¬ at1 (w.heap.size + 1) w.heap.size by simp only [at1]; omega)
  have HA := Lib.hid hways
  clear hb n1 n2 F0 hways
  have HN := Lib.hid hn
  simp only [atomB, hn] at hm
  clear hn
  have hmr : m = .error 5 := by
    rw [if_neg (by omega), if_neg (by omega), if_neg (by omega), if_neg (by omega), if_pos (by omega)] at hm
    simpa using hm.symm
  subst hmr
  have e40 : ((b : Int) == 40) = false := by rw [beq_eq_false_iff_ne]; omega
  have e91 : ((b : Int) == 91) = false := by rw [beq_eq_false_iff_ne]; omega
  have e46 : ((b : Int) == 46) = false := by rw [beq_eq_false_iff_ne]; omega
  have e92 : ((b : Int) == 92) = false := by rw [beq_eq_false_iff_ne]; omega
  have e42 : ((b : Int) == 42) = true := by rw [beq_iff_eq]; omega
  clear hm hh
  go_enter Try.func41, Try.ntmps41
  go_wp2_with fail
  refine (next_ok hs HB0.out HN.out).mono ?_
  rintro e wa ⟨rfl, hba, Fa⟩
  have HBa := Lib.hid hba
  have N1a := Lib.hid (Fa.at_ N1.out E1.out)
  have N2a := Lib.hid (Fa.at_ N2.out E3.out)
  have HFa := Lib.hid (HF0.out.tr Fa)
  have HSa := Lib.hid Fa.size
  clear hba Fa
  go_wp2_with fail
  refine (fail_any _ _).mono ?_
  rintro e wf ⟨rfl, rfl⟩
  go_wp2_with fail
  exact ⟨rfl, rfl, HFa.out⟩
set_option maxRecDepth 100000 in
set_option maxHeartbeats 4000000 in
theorem atom_43 (s : ByteArray) (hs : s.size ≤ 1000) (k : Nat) (hways : ∀ j, j < k + 1 → WaysC s j) (p d : Nat) (w : World) (m : Got Rx) (hp : p ≤ s.size) (hb : w.heap[d]? = some (rdObj s p)) (b q : Nat) (hn : nextB s p = .ok (b, q)) (hb256 : b < 256) (hqs : q ≤ s.size) (hm : atomB s (k + 1) p = some m) (hh : b = 43) :
    Calls Try.prog 41 #[.pointer (some ⟨d, 0, none⟩)] w (GotR none_ d s w m) := by
  have hdl := lt_of_block hb
  obtain ⟨n1, n2⟩ := alloc_new2 w (.cells #[.int .i64 0, .int .u64 0, .int .u64 0, .int .u64 0, .int .u64 0, .slice none 0 0] 28) (bsObj 1 Bs.zero)
  have F0 := ((Fr.refl none_ w).alloc (.cells #[.int .i64 0, .int .u64 0, .int .u64 0, .int .u64 0, .int .u64 0, .slice none 0 0] 28)).alloc (bsObj 1 Bs.zero)
  have HB0 := Lib.hid (F0.at_ hb (fun h => h))
  have HF0 := Lib.hid (F0.none (S := at1 d))
  have N1 := Lib.hid n1
  have N2 := Lib.hid n2
  have S0 := Lib.hid (show ((w.alloc (.cells #[.int .i64 0, .int .u64 0, .int .u64 0, .int .u64 0, .int .u64 0, .slice none 0 0] 28)).alloc (bsObj 1 Bs.zero)).heap.size = w.heap.size + 2 by simp)
  have E1 := Lib.hid (show ¬ at1 d w.heap.size by simp only [at1]; omega)
  have E2 := Lib.hid (show ¬ at1 w.heap.size d by simp only [at1]; omega)
  have E3 := Lib.hid (show ¬ at1 d (w.heap.size + 1) by simp only [at1]; omega)
  have E4 := Lib.hid (show ¬ at1 (w.heap.size + 1) d by simp only [at1]; omega)
  have E5 := Lib.hid (show ¬ at1 (w.heap.size + 1) w.heap.size by simp only [at1]; omega)
  have HA := Lib.hid hways
  clear hb n1 n2 F0 hways
  have HN := Lib.hid hn
  simp only [atomB, hn] at hm
  clear hn
  have hmr : m = .error 5 := by
    rw [if_neg (by omega), if_neg (by omega), if_neg (by omega), if_neg (by omega), if_pos (by omega)] at hm
    simpa using hm.symm
  subst hmr
  have e40 : ((b : Int) == 40) = false := by rw [beq_eq_false_iff_ne]; omega
  have e91 : ((b : Int) == 91) = false := by rw [beq_eq_false_iff_ne]; omega
  have e46 : ((b : Int) == 46) = false := by rw [beq_eq_false_iff_ne]; omega
  have e92 : ((b : Int) == 92) = false := by rw [beq_eq_false_iff_ne]; omega
  have e42 : ((b : Int) == 42) = false := by rw [beq_eq_false_iff_ne]; omega
  have e43 : ((b : Int) == 43) = true := by rw [beq_iff_eq]; omega
  clear hm hh
  go_enter Try.func41, Try.ntmps41
  go_wp2_with fail
  refine (next_ok hs HB0.out HN.out).mono ?_
  rintro e wa ⟨rfl, hba, Fa⟩
  have HBa := Lib.hid hba
  have N1a := Lib.hid (Fa.at_ N1.out E1.out)
  have N2a := Lib.hid (Fa.at_ N2.out E3.out)
  have HFa := Lib.hid (HF0.out.tr Fa)
  have HSa := Lib.hid Fa.size
  clear hba Fa
  go_wp2_with fail
  refine (fail_any _ _).mono ?_
  rintro e wf ⟨rfl, rfl⟩
  go_wp2_with fail
  exact ⟨rfl, rfl, HFa.out⟩
set_option maxRecDepth 100000 in
set_option maxHeartbeats 4000000 in
theorem atom_63 (s : ByteArray) (hs : s.size ≤ 1000) (k : Nat) (hways : ∀ j, j < k + 1 → WaysC s j) (p d : Nat) (w : World) (m : Got Rx) (hp : p ≤ s.size) (hb : w.heap[d]? = some (rdObj s p)) (b q : Nat) (hn : nextB s p = .ok (b, q)) (hb256 : b < 256) (hqs : q ≤ s.size) (hm : atomB s (k + 1) p = some m) (hh : b = 63) :
    Calls Try.prog 41 #[.pointer (some ⟨d, 0, none⟩)] w (GotR none_ d s w m) := by
  have hdl := lt_of_block hb
  obtain ⟨n1, n2⟩ := alloc_new2 w (.cells #[.int .i64 0, .int .u64 0, .int .u64 0, .int .u64 0, .int .u64 0, .slice none 0 0] 28) (bsObj 1 Bs.zero)
  have F0 := ((Fr.refl none_ w).alloc (.cells #[.int .i64 0, .int .u64 0, .int .u64 0, .int .u64 0, .int .u64 0, .slice none 0 0] 28)).alloc (bsObj 1 Bs.zero)
  have HB0 := Lib.hid (F0.at_ hb (fun h => h))
  have HF0 := Lib.hid (F0.none (S := at1 d))
  have N1 := Lib.hid n1
  have N2 := Lib.hid n2
  have S0 := Lib.hid (show ((w.alloc (.cells #[.int .i64 0, .int .u64 0, .int .u64 0, .int .u64 0, .int .u64 0, .slice none 0 0] 28)).alloc (bsObj 1 Bs.zero)).heap.size = w.heap.size + 2 by simp)
  have E1 := Lib.hid (show ¬ at1 d w.heap.size by simp only [at1]; omega)
  have E2 := Lib.hid (show ¬ at1 w.heap.size d by simp only [at1]; omega)
  have E3 := Lib.hid (show ¬ at1 d (w.heap.size + 1) by simp only [at1]; omega)
  have E4 := Lib.hid (show ¬ at1 (w.heap.size + 1) d by simp only [at1]; omega)
  have E5 := Lib.hid (show ¬ at1 (w.heap.size + 1) w.heap.size by simp only [at1]; omega)
  have HA := Lib.hid hways
  clear hb n1 n2 F0 hways
  have HN := Lib.hid hn
  simp only [atomB, hn] at hm
  clear hn
  have hmr : m = .error 5 := by
    rw [if_neg (by omega), if_neg (by omega), if_neg (by omega), if_neg (by omega), if_pos (by omega)] at hm
    simpa using hm.symm
  subst hmr
  have e40 : ((b : Int) == 40) = false := by rw [beq_eq_false_iff_ne]; omega
  have e91 : ((b : Int) == 91) = false := by rw [beq_eq_false_iff_ne]; omega
  have e46 : ((b : Int) == 46) = false := by rw [beq_eq_false_iff_ne]; omega
  have e92 : ((b : Int) == 92) = false := by rw [beq_eq_false_iff_ne]; omega
  have e42 : ((b : Int) == 42) = false := by rw [beq_eq_false_iff_ne]; omega
  have e43 : ((b : Int) == 43) = false := by rw [beq_eq_false_iff_ne]; omega
  have e63 : ((b : Int) == 63) = true := by rw [beq_iff_eq]; omega
  clear hm hh
  go_enter Try.func41, Try.ntmps41
  go_wp2_with fail
  refine (next_ok hs HB0.out HN.out).mono ?_
  rintro e wa ⟨rfl, hba, Fa⟩
  have HBa := Lib.hid hba
  have N1a := Lib.hid (Fa.at_ N1.out E1.out)
  have N2a := Lib.hid (Fa.at_ N2.out E3.out)
  have HFa := Lib.hid (HF0.out.tr Fa)
  have HSa := Lib.hid Fa.size
  clear hba Fa
  go_wp2_with fail
  refine (fail_any _ _).mono ?_
  rintro e wf ⟨rfl, rfl⟩
  go_wp2_with fail
  exact ⟨rfl, rfl, HFa.out⟩
set_option maxRecDepth 100000 in
set_option maxHeartbeats 4000000 in
theorem atom_93 (s : ByteArray) (hs : s.size ≤ 1000) (k : Nat) (hways : ∀ j, j < k + 1 → WaysC s j) (p d : Nat) (w : World) (m : Got Rx) (hp : p ≤ s.size) (hb : w.heap[d]? = some (rdObj s p)) (b q : Nat) (hn : nextB s p = .ok (b, q)) (hb256 : b < 256) (hqs : q ≤ s.size) (hm : atomB s (k + 1) p = some m) (hh : b = 93) :
    Calls Try.prog 41 #[.pointer (some ⟨d, 0, none⟩)] w (GotR none_ d s w m) := by
  have hdl := lt_of_block hb
  obtain ⟨n1, n2⟩ := alloc_new2 w (.cells #[.int .i64 0, .int .u64 0, .int .u64 0, .int .u64 0, .int .u64 0, .slice none 0 0] 28) (bsObj 1 Bs.zero)
  have F0 := ((Fr.refl none_ w).alloc (.cells #[.int .i64 0, .int .u64 0, .int .u64 0, .int .u64 0, .int .u64 0, .slice none 0 0] 28)).alloc (bsObj 1 Bs.zero)
  have HB0 := Lib.hid (F0.at_ hb (fun h => h))
  have HF0 := Lib.hid (F0.none (S := at1 d))
  have N1 := Lib.hid n1
  have N2 := Lib.hid n2
  have S0 := Lib.hid (show ((w.alloc (.cells #[.int .i64 0, .int .u64 0, .int .u64 0, .int .u64 0, .int .u64 0, .slice none 0 0] 28)).alloc (bsObj 1 Bs.zero)).heap.size = w.heap.size + 2 by simp)
  have E1 := Lib.hid (show ¬ at1 d w.heap.size by simp only [at1]; omega)
  have E2 := Lib.hid (show ¬ at1 w.heap.size d by simp only [at1]; omega)
  have E3 := Lib.hid (show ¬ at1 d (w.heap.size + 1) by simp only [at1]; omega)
  have E4 := Lib.hid (show ¬ at1 (w.heap.size + 1) d by simp only [at1]; omega)
  have E5 := Lib.hid (show ¬ at1 (w.heap.size + 1) w.heap.size by simp only [at1]; omega)
  have HA := Lib.hid hways
  clear hb n1 n2 F0 hways
  have HN := Lib.hid hn
  simp only [atomB, hn] at hm
  clear hn
  have hmr : m = .error 5 := by
    rw [if_neg (by omega), if_neg (by omega), if_neg (by omega), if_neg (by omega), if_pos (by omega)] at hm
    simpa using hm.symm
  subst hmr
  have e40 : ((b : Int) == 40) = false := by rw [beq_eq_false_iff_ne]; omega
  have e91 : ((b : Int) == 91) = false := by rw [beq_eq_false_iff_ne]; omega
  have e46 : ((b : Int) == 46) = false := by rw [beq_eq_false_iff_ne]; omega
  have e92 : ((b : Int) == 92) = false := by rw [beq_eq_false_iff_ne]; omega
  have e42 : ((b : Int) == 42) = false := by rw [beq_eq_false_iff_ne]; omega
  have e43 : ((b : Int) == 43) = false := by rw [beq_eq_false_iff_ne]; omega
  have e63 : ((b : Int) == 63) = false := by rw [beq_eq_false_iff_ne]; omega
  have e93 : ((b : Int) == 93) = true := by rw [beq_iff_eq]; omega
  clear hm hh
  go_enter Try.func41, Try.ntmps41
  go_wp2_with fail
  refine (next_ok hs HB0.out HN.out).mono ?_
  rintro e wa ⟨rfl, hba, Fa⟩
  have HBa := Lib.hid hba
  have N1a := Lib.hid (Fa.at_ N1.out E1.out)
  have N2a := Lib.hid (Fa.at_ N2.out E3.out)
  have HFa := Lib.hid (HF0.out.tr Fa)
  have HSa := Lib.hid Fa.size
  clear hba Fa
  go_wp2_with fail
  refine (fail_any _ _).mono ?_
  rintro e wf ⟨rfl, rfl⟩
  go_wp2_with fail
  exact ⟨rfl, rfl, HFa.out⟩
set_option maxRecDepth 100000 in
set_option maxHeartbeats 4000000 in
theorem atom_124 (s : ByteArray) (hs : s.size ≤ 1000) (k : Nat) (hways : ∀ j, j < k + 1 → WaysC s j) (p d : Nat) (w : World) (m : Got Rx) (hp : p ≤ s.size) (hb : w.heap[d]? = some (rdObj s p)) (b q : Nat) (hn : nextB s p = .ok (b, q)) (hb256 : b < 256) (hqs : q ≤ s.size) (hm : atomB s (k + 1) p = some m) (hh : b = 124) :
    Calls Try.prog 41 #[.pointer (some ⟨d, 0, none⟩)] w (GotR none_ d s w m) := by
  have hdl := lt_of_block hb
  obtain ⟨n1, n2⟩ := alloc_new2 w (.cells #[.int .i64 0, .int .u64 0, .int .u64 0, .int .u64 0, .int .u64 0, .slice none 0 0] 28) (bsObj 1 Bs.zero)
  have F0 := ((Fr.refl none_ w).alloc (.cells #[.int .i64 0, .int .u64 0, .int .u64 0, .int .u64 0, .int .u64 0, .slice none 0 0] 28)).alloc (bsObj 1 Bs.zero)
  have HB0 := Lib.hid (F0.at_ hb (fun h => h))
  have HF0 := Lib.hid (F0.none (S := at1 d))
  have N1 := Lib.hid n1
  have N2 := Lib.hid n2
  have S0 := Lib.hid (show ((w.alloc (.cells #[.int .i64 0, .int .u64 0, .int .u64 0, .int .u64 0, .int .u64 0, .slice none 0 0] 28)).alloc (bsObj 1 Bs.zero)).heap.size = w.heap.size + 2 by simp)
  have E1 := Lib.hid (show ¬ at1 d w.heap.size by simp only [at1]; omega)
  have E2 := Lib.hid (show ¬ at1 w.heap.size d by simp only [at1]; omega)
  have E3 := Lib.hid (show ¬ at1 d (w.heap.size + 1) by simp only [at1]; omega)
  have E4 := Lib.hid (show ¬ at1 (w.heap.size + 1) d by simp only [at1]; omega)
  have E5 := Lib.hid (show ¬ at1 (w.heap.size + 1) w.heap.size by simp only [at1]; omega)
  have HA := Lib.hid hways
  clear hb n1 n2 F0 hways
  have HN := Lib.hid hn
  simp only [atomB, hn] at hm
  clear hn
  have hmr : m = .error 5 := by
    rw [if_neg (by omega), if_neg (by omega), if_neg (by omega), if_neg (by omega), if_pos (by omega)] at hm
    simpa using hm.symm
  subst hmr
  have e40 : ((b : Int) == 40) = false := by rw [beq_eq_false_iff_ne]; omega
  have e91 : ((b : Int) == 91) = false := by rw [beq_eq_false_iff_ne]; omega
  have e46 : ((b : Int) == 46) = false := by rw [beq_eq_false_iff_ne]; omega
  have e92 : ((b : Int) == 92) = false := by rw [beq_eq_false_iff_ne]; omega
  have e42 : ((b : Int) == 42) = false := by rw [beq_eq_false_iff_ne]; omega
  have e43 : ((b : Int) == 43) = false := by rw [beq_eq_false_iff_ne]; omega
  have e63 : ((b : Int) == 63) = false := by rw [beq_eq_false_iff_ne]; omega
  have e93 : ((b : Int) == 93) = false := by rw [beq_eq_false_iff_ne]; omega
  have e124 : ((b : Int) == 124) = true := by rw [beq_iff_eq]; omega
  clear hm hh
  go_enter Try.func41, Try.ntmps41
  go_wp2_with fail
  refine (next_ok hs HB0.out HN.out).mono ?_
  rintro e wa ⟨rfl, hba, Fa⟩
  have HBa := Lib.hid hba
  have N1a := Lib.hid (Fa.at_ N1.out E1.out)
  have N2a := Lib.hid (Fa.at_ N2.out E3.out)
  have HFa := Lib.hid (HF0.out.tr Fa)
  have HSa := Lib.hid Fa.size
  clear hba Fa
  go_wp2_with fail
  refine (fail_any _ _).mono ?_
  rintro e wf ⟨rfl, rfl⟩
  go_wp2_with fail
  exact ⟨rfl, rfl, HFa.out⟩
set_option maxRecDepth 100000 in
set_option maxHeartbeats 4000000 in
theorem atom_41 (s : ByteArray) (hs : s.size ≤ 1000) (k : Nat) (hways : ∀ j, j < k + 1 → WaysC s j) (p d : Nat) (w : World) (m : Got Rx) (hp : p ≤ s.size) (hb : w.heap[d]? = some (rdObj s p)) (b q : Nat) (hn : nextB s p = .ok (b, q)) (hb256 : b < 256) (hqs : q ≤ s.size) (hm : atomB s (k + 1) p = some m) (hh : b = 41) :
    Calls Try.prog 41 #[.pointer (some ⟨d, 0, none⟩)] w (GotR none_ d s w m) := by
  have hdl := lt_of_block hb
  obtain ⟨n1, n2⟩ := alloc_new2 w (.cells #[.int .i64 0, .int .u64 0, .int .u64 0, .int .u64 0, .int .u64 0, .slice none 0 0] 28) (bsObj 1 Bs.zero)
  have F0 := ((Fr.refl none_ w).alloc (.cells #[.int .i64 0, .int .u64 0, .int .u64 0, .int .u64 0, .int .u64 0, .slice none 0 0] 28)).alloc (bsObj 1 Bs.zero)
  have HB0 := Lib.hid (F0.at_ hb (fun h => h))
  have HF0 := Lib.hid (F0.none (S := at1 d))
  have N1 := Lib.hid n1
  have N2 := Lib.hid n2
  have S0 := Lib.hid (show ((w.alloc (.cells #[.int .i64 0, .int .u64 0, .int .u64 0, .int .u64 0, .int .u64 0, .slice none 0 0] 28)).alloc (bsObj 1 Bs.zero)).heap.size = w.heap.size + 2 by simp)
  have E1 := Lib.hid (show ¬ at1 d w.heap.size by simp only [at1]; omega)
  have E2 := Lib.hid (show ¬ at1 w.heap.size d by simp only [at1]; omega)
  have E3 := Lib.hid (show ¬ at1 d (w.heap.size + 1) by simp only [at1]; omega)
  have E4 := Lib.hid (show ¬ at1 (w.heap.size + 1) d by simp only [at1]; omega)
  have E5 := Lib.hid (show ¬ at1 (w.heap.size + 1) w.heap.size by simp only [at1]; omega)
  have HA := Lib.hid hways
  clear hb n1 n2 F0 hways
  have HN := Lib.hid hn
  simp only [atomB, hn] at hm
  clear hn
  have hmr : m = .error 5 := by
    rw [if_neg (by omega), if_neg (by omega), if_neg (by omega), if_neg (by omega), if_pos (by omega)] at hm
    simpa using hm.symm
  subst hmr
  have e40 : ((b : Int) == 40) = false := by rw [beq_eq_false_iff_ne]; omega
  have e91 : ((b : Int) == 91) = false := by rw [beq_eq_false_iff_ne]; omega
  have e46 : ((b : Int) == 46) = false := by rw [beq_eq_false_iff_ne]; omega
  have e92 : ((b : Int) == 92) = false := by rw [beq_eq_false_iff_ne]; omega
  have e42 : ((b : Int) == 42) = false := by rw [beq_eq_false_iff_ne]; omega
  have e43 : ((b : Int) == 43) = false := by rw [beq_eq_false_iff_ne]; omega
  have e63 : ((b : Int) == 63) = false := by rw [beq_eq_false_iff_ne]; omega
  have e93 : ((b : Int) == 93) = false := by rw [beq_eq_false_iff_ne]; omega
  have e124 : ((b : Int) == 124) = false := by rw [beq_eq_false_iff_ne]; omega
  have e41 : ((b : Int) == 41) = true := by rw [beq_iff_eq]; omega
  clear hm hh
  go_enter Try.func41, Try.ntmps41
  go_wp2_with fail
  refine (next_ok hs HB0.out HN.out).mono ?_
  rintro e wa ⟨rfl, hba, Fa⟩
  have HBa := Lib.hid hba
  have N1a := Lib.hid (Fa.at_ N1.out E1.out)
  have N2a := Lib.hid (Fa.at_ N2.out E3.out)
  have HFa := Lib.hid (HF0.out.tr Fa)
  have HSa := Lib.hid Fa.size
  clear hba Fa
  go_wp2_with fail
  refine (fail_any _ _).mono ?_
  rintro e wf ⟨rfl, rfl⟩
  go_wp2_with fail
  exact ⟨rfl, rfl, HFa.out⟩
set_option maxRecDepth 100000 in
set_option maxHeartbeats 4000000 in
theorem atom_byte (s : ByteArray) (hs : s.size ≤ 1000) (k : Nat) (hways : ∀ j, j < k + 1 → WaysC s j) (p d : Nat) (w : World) (m : Got Rx) (hp : p ≤ s.size) (hb : w.heap[d]? = some (rdObj s p)) (b q : Nat) (hn : nextB s p = .ok (b, q)) (hb256 : b < 256) (hqs : q ≤ s.size) (hm : atomB s (k + 1) p = some m) (h40 : b ≠ 40) (h91 : b ≠ 91) (h46 : b ≠ 46) (h92 : b ≠ 92) (h42 : b ≠ 42) (h43 : b ≠ 43) (h63 : b ≠ 63) (h93 : b ≠ 93) (h124 : b ≠ 124) (h41 : b ≠ 41) :
    Calls Try.prog 41 #[.pointer (some ⟨d, 0, none⟩)] w (GotR none_ d s w m) := by
  have hdl := lt_of_block hb
  obtain ⟨n1, n2⟩ := alloc_new2 w (.cells #[.int .i64 0, .int .u64 0, .int .u64 0, .int .u64 0, .int .u64 0, .slice none 0 0] 28) (bsObj 1 Bs.zero)
  have F0 := ((Fr.refl none_ w).alloc (.cells #[.int .i64 0, .int .u64 0, .int .u64 0, .int .u64 0, .int .u64 0, .slice none 0 0] 28)).alloc (bsObj 1 Bs.zero)
  have HB0 := Lib.hid (F0.at_ hb (fun h => h))
  have HF0 := Lib.hid (F0.none (S := at1 d))
  have N1 := Lib.hid n1
  have N2 := Lib.hid n2
  have S0 := Lib.hid (show ((w.alloc (.cells #[.int .i64 0, .int .u64 0, .int .u64 0, .int .u64 0, .int .u64 0, .slice none 0 0] 28)).alloc (bsObj 1 Bs.zero)).heap.size = w.heap.size + 2 by simp)
  have E1 := Lib.hid (show ¬ at1 d w.heap.size by simp only [at1]; omega)
  have E2 := Lib.hid (show ¬ at1 w.heap.size d by simp only [at1]; omega)
  have E3 := Lib.hid (show ¬ at1 d (w.heap.size + 1) by simp only [at1]; omega)
  have E4 := Lib.hid (show ¬ at1 (w.heap.size + 1) d by simp only [at1]; omega)
  have E5 := Lib.hid (show ¬ at1 (w.heap.size + 1) w.heap.size by simp only [at1]; omega)
  have HA := Lib.hid hways
  clear hb n1 n2 F0 hways
  have HN := Lib.hid hn
  simp only [atomB, hn] at hm
  clear hn
  have hmr : m = .ok ((Bs.zero.add b).rx, q) := by
    rw [if_neg (by omega), if_neg (by omega), if_neg (by omega), if_neg (by omega), if_neg (by omega)] at hm
    simpa using hm.symm
  subst hmr
  have e40 : ((b : Int) == 40) = false := by rw [beq_eq_false_iff_ne]; omega
  have e91 : ((b : Int) == 91) = false := by rw [beq_eq_false_iff_ne]; omega
  have e46 : ((b : Int) == 46) = false := by rw [beq_eq_false_iff_ne]; omega
  have e92 : ((b : Int) == 92) = false := by rw [beq_eq_false_iff_ne]; omega
  have e42 : ((b : Int) == 42) = false := by rw [beq_eq_false_iff_ne]; omega
  have e43 : ((b : Int) == 43) = false := by rw [beq_eq_false_iff_ne]; omega
  have e63 : ((b : Int) == 63) = false := by rw [beq_eq_false_iff_ne]; omega
  have e93 : ((b : Int) == 93) = false := by rw [beq_eq_false_iff_ne]; omega
  have e124 : ((b : Int) == 124) = false := by rw [beq_eq_false_iff_ne]; omega
  have e41 : ((b : Int) == 41) = false := by rw [beq_eq_false_iff_ne]; omega
  clear hm h40 h91 h46 h92 h42 h43 h63 h93 h124 h41
  go_enter Try.func41, Try.ntmps41
  go_wp2_with fail
  refine (next_ok hs HB0.out HN.out).mono ?_
  rintro e wa ⟨rfl, hba, Fa⟩
  have HBa := Lib.hid hba
  have N1a := Lib.hid (Fa.at_ N1.out E1.out)
  have N2a := Lib.hid (Fa.at_ N2.out E3.out)
  have HFa := Lib.hid (HF0.out.tr Fa)
  have HSa := Lib.hid Fa.size
  clear hba Fa
  go_wp2_with fail
  refine (add_any b _ 1 Bs.zero Bs.Ok.zero _ hb256 N2a.out).mono ?_
  rintro e wc ⟨rfl, h2c, Fc⟩
  have HBc := Lib.hid (Fc.at_ HBa.out E4.out)
  have N1c := Lib.hid (Fc.at_ N1a.out E5.out)
  have N2c := Lib.hid h2c
  have HFc := Lib.hid (HFa.out.trans Fc (fun i hi hh => by simp only [at1] at hh; omega))
  clear h2c Fc
  obtain ⟨c0, c1, c2, c3, c4, c5⟩ := six N2c.out
  obtain ⟨z0, z1, z2, z3, z4, z5⟩ := six N1c.out
  have zf : ∀ o, wc.frozen? ⟨w.heap.size, o, none⟩ = false := fun o => free_of_block N1c.out
  go_wp2_with fail
  refine bodyPost_ret (results_six rfl rfl (set_six N1c.out _ _ _ _ _ _)) rfl ?_
  have fx := fr_six (S := at1 w.heap.size) (r := w.heap.size) (Fr.refl _ wc) (.inl rfl) (.int .i64 1) (.int .u64 (Bs.zero.add b).b0) (.int .u64 (Bs.zero.add b).b1) (.int .u64 (Bs.zero.add b).b2) (.int .u64 (Bs.zero.add b).b3) (.slice none 0 0)
  exact ⟨_, rfl, RxV.bs _ _ (Bs.zero.add b), fx.at_ HBc.out E2.out, fr_six HFc.out (.inr (Nat.le_refl _)) _ _ _ _ _ _⟩
theorem atom_step (s : ByteArray) (hs : s.size ≤ 1000) (k : Nat) (hways : ∀ j, j < k → WaysC s j) : AtomC s k := by
  intro p d w m hp hb hm
  cases k with
  | zero => simp [atomB] at hm
  | succ k =>
    cases hn : nextB s p with
    | error en => exact atom_err s hs k hways p d w m hp hb en hn (by simp only [atomB, hn] at hm; simpa using hm.symm)
    | ok y =>
      obtain ⟨b, q⟩ := y
      obtain ⟨hb256, hqp, hps, _⟩ := nextB_at hn
      have hqs : q ≤ s.size := by omega
      by_cases h40 : b = 40
      · exact atom_40 s hs k hways p d w m hp hb b q hn hb256 hqs hm h40
      by_cases h91 : b = 91
      · exact atom_91 s hs k hways p d w m hp hb b q hn hb256 hqs hm h91
      by_cases h46 : b = 46
      · exact atom_46 s hs k hways p d w m hp hb b q hn hb256 hqs hm h46
      by_cases h92 : b = 92
      · exact atom_92 s hs k hways p d w m hp hb b q hn hb256 hqs hm h92
      by_cases h42 : b = 42
      · exact atom_42 s hs k hways p d w m hp hb b q hn hb256 hqs hm h42
      by_cases h43 : b = 43
      · exact atom_43 s hs k hways p d w m hp hb b q hn hb256 hqs hm h43
      by_cases h63 : b = 63
      · exact atom_63 s hs k hways p d w m hp hb b q hn hb256 hqs hm h63
      by_cases h93 : b = 93
      · exact atom_93 s hs k hways p d w m hp hb b q hn hb256 hqs hm h93
      by_cases h124 : b = 124
      · exact atom_124 s hs k hways p d w m hp hb b q hn hb256 hqs hm h124
      by_cases h41 : b = 41
      · exact atom_41 s hs k hways p d w m hp hb b q hn hb256 hqs hm h41
      exact atom_byte s hs k hways p d w m hp hb b q hn hb256 hqs hm h40 h91 h46 h92 h42 h43 h63 h93 h124 h41
theorem reader_all (s : ByteArray) (hs : s.size ≤ 1000) (k : Nat) : AtomC s k ∧ WayC s k ∧ WaysC s k := by
  induction k using Nat.strongRecOn with
  | _ k ih =>
    exact ⟨atom_step s hs k (fun j hj => (ih j hj).2.2), way_step s hs k (fun j hj => (ih j hj).1), ways_step s hs k (fun j hj => (ih j hj).2.1)⟩
end Go.Proofs.Ytjbmppbciiemkaa
