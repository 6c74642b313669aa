/-
  The walks over regex's reader that call each other: a way, ways, an atom.
-/
import Derived.Test.YtjbmppbciiemkaaPb
import Derived.Test.YtjbmppbciiemkaaPl
namespace Go.Proofs.Ytjbmppbciiemkaa set_option linter.unusedVariables false set_option linter.unusedSimpArgs false
open Go.RowKit

def AtomC (s : ByteArray) (k : Nat) : Prop := ∀ (p d : Nat) (w : World) (m : Got Rx), p ≤ s.size → w.heap[d]? = some (rdObj s p) → atomB s k p = some m →
  Calls Try.prog 41 #[.pointer (some ⟨d, 0, none⟩)] w (GotR none_ d s w m)
def WayC (s : ByteArray) (k : Nat) : Prop := ∀ (p d : Nat) (w : World) (m : Got Rx), p ≤ s.size → w.heap[d]? = some (rdObj s p) → wayB s k [] p = some m →
  Calls Try.prog 26 #[.pointer (some ⟨d, 0, none⟩)] w (GotR none_ d s w m)
def WaysC (s : ByteArray) (k : Nat) : Prop := ∀ (p d : Nat) (w : World) (m : Got Rx), p ≤ s.size → w.heap[d]? = some (rdObj s p) → waysB s k p = some m →
  Calls Try.prog 15 #[.pointer (some ⟨d, 0, none⟩)] w (GotR none_ d s w m)

theorem rx_info : (Try.prog.info? 28).map (fun i => (i.zero, i.size, i.bytes)) = some (some (.agg #[.int .i64 0, .int .u64 0, .int .u64 0, .int .u64 0, .int .u64 0, .slice none 0 0]), 6, 64) := by kernel_rfl
theorem getElem_block {w : World} {g : Nat} {cs : Array Value} {t : TypeId} {fr : Nat × Nat} (hb : w.heap[g]? = some (.cells cs t fr)) : ∀ j u, cs.toList[j]? = some u → w.cell? ((⟨g, 0, none⟩ : Addr).add j) = some u :=
  World.news_of_block hb

set_option maxRecDepth 100000 in
set_option maxHeartbeats 4000000 in
theorem way_step (s : ByteArray) (hs : s.size ≤ 1000) (k : Nat) (hatom : ∀ j, j < k → AtomC s j) : WayC s k := by
  intro p d w m hp hb hm
  obtain ⟨i0, hi, hz0, hz1, hz2⟩ := info_parts rx_info
  have hdl := lt_of_block hb
  have n1 := alloc_new w (.cells #[.int .i64 0, .int .u64 0, .int .u64 0, .int .u64 0, .int .u64 0, .slice none 0 0] 28)
  have F0 := (Fr.refl none_ w).alloc (.cells #[.int .i64 0, .int .u64 0, .int .u64 0, .int .u64 0, .int .u64 0, .slice none 0 0] 28)
  have HB0 := Lib.hid (F0.at_ hb (fun h => h))
  have HF0 := Lib.hid (F0.none (S := at1 d))
  have N1 := Lib.hid n1
  have E1 := Lib.hid (show ¬ at1 d w.heap.size by simp only [at1]; omega)
  have E2 := Lib.hid (show ¬ at1 w.heap.size d by simp only [at1]; omega)
  have HA := Lib.hid hatom
  have HM := Lib.hid hm
  clear hb n1 F0 hatom hm
  go_enter Try.func26, Try.ntmps26
  go_wp2_with fail
  go_loopg [3] k (fun kk v wr => ∃ l q, Aside (kk ≤ k ∧ wayB s kk l q = some m) ∧ Aside (l.length ≤ q ∧ q ≤ s.size) ∧ RxOwn (w.heap.size + 1) (fun i => w.heap.size + 1 ≤ i) wr v l ∧
    Aside (wr.heap[d]? = some (rdObj s q)) ∧ Aside (wr.heap[w.heap.size]? = some (.cells #[.int .i64 0, .int .u64 0, .int .u64 0, .int .u64 0, .int .u64 0, .slice none 0 0] 28 (0, 0))) ∧ Aside (Fr (at1 d) w wr))
  case atStart => exact ⟨[], p, ⟨Nat.le_refl _, HM.out⟩, ⟨by simp, hp⟩, RxOwn.nil _ _ _, HB0.out, N1.out, HF0.out⟩
  case round =>
    obtain ⟨l, q, hmm, hlq, hown, hbr, hn1, hfr⟩ := hrel
    have HMM := Lib.hid hmm.out
    have HLQ := Lib.hid hlq.out
    have HOWN := Lib.hid hown
    have HBr := Lib.hid hbr.out
    have N1r := Lib.hid hn1.out
    have HFr := Lib.hid hfr.out
    clear hmm hlq hown hbr hn1 hfr
    cases gk with
    | zero => have := HMM.out.2; simp [wayB] at this
    | succ gk =>
      by_cases hex : ¬ q < s.size ∨ byteAt s q = 124 ∨ byteAt s q = 41
      · have hmr : m = .ok (ofR 2 l, q) := by
          have g := HMM.out.2
          simp only [wayB] at g
          rw [if_pos hex] at g
          simpa using g.symm
        subst hmr
        obtain ⟨a, cap, rfl, hc, hl⟩ := HOWN.out.rows
        have HL := Lib.hid hl
        clear hl
        by_cases hlt : q < s.size
        · by_cases h124 : byteAt s q = 124
          · have e1 : ((byteAt s q : Int) == 124) = true := by rw [beq_iff_eq]; omega
            clear hex h124
            go_wp2_with fail
            refine (peek_in s q d _ hs HBr.out hlt).mono ?_
            rintro e wa ⟨rfl, Fa⟩
            have HBa := Lib.hid (Fa.at_ HBr.out (fun h => h))
            have N1a := Lib.hid (Fa.at_ N1r.out (fun h => h))
            have HFa := Lib.hid (HFr.out.tr Fa.none)
            have HQa := Lib.hid Fa
            clear Fa
            go_wp2_with fail
            refine (of_any 2 l a cap _ (fun i => w.heap.size + 1 ≤ i) hc (by have := HLQ.out; omega) (RxL.mono (fun i hi => by rcases hi with hi | hi <;> exact hi) l a 0 (RxL.move (fun i _ hlt => HQa.out.block i hlt (fun h => h)) l a 0 HL.out))).mono ?_
            rintro e wv ⟨⟨v, rfl, hv⟩, Fv⟩
            have HBv := Lib.hid (Fv.at_ HBa.out (fun h => h))
            have NZv := Lib.hid (Fv.at_ N1a.out (fun h => h))
            have HFv := Lib.hid (HFa.out.tr Fv.none)
            clear Fv
            obtain ⟨k', x0, x1, x2, x3, xids, hrr⟩ : ∃ k' x0 x1 x2 x3 xids, ofR 2 l = Rx.mk k' x0 x1 x2 x3 xids := by
              cases ofR 2 l; exact ⟨_, _, _, _, _, _, rfl⟩
            rw [hrr] at hv
            have HRR := Lib.hid hrr
            clear hrr
            obtain ⟨va, vcap, rfl, hvc, hvl⟩ := hv.open_
            obtain ⟨z0, z1, z2, z3, z4, z5⟩ := six NZv.out
            have zf : ∀ o, wv.frozen? ⟨w.heap.size, o, none⟩ = false := fun o => free_of_block NZv.out
            have HVL := Lib.hid hvl
            clear hvl hv
            go_wp2_with fail
            refine bodyPost_ret (results_six rfl rfl (set_six NZv.out _ _ _ _ _ _)) rfl ?_
            have fx := fr_six (S := at1 w.heap.size) (r := w.heap.size) (Fr.refl _ wv) (.inl rfl) (.int .i64 k') (.int .u64 x0) (.int .u64 x1) (.int .u64 x2) (.int .u64 x3) (.slice va xids.length vcap)
            refine ⟨_, rfl, ?_, fx.at_ HBv.out E2.out, fr_six HFv.out (.inr (Nat.le_refl _)) _ _ _ _ _ _⟩
            rw [HRR.out]
            refine ((RxV.mk_ hvc HVL.out).move fx (fun i hi _ => ?_)).mono (fun i hi => ?_)
            · simp only [at1]; omega
            · exact .inr (by omega)
          · have e1 : ((byteAt s q : Int) == 124) = false := by rw [beq_eq_false_iff_ne]; omega
            have e2 : ((byteAt s q : Int) == 41) = true := by rw [beq_iff_eq]; omega
            clear hex h124
            go_wp2_with fail
            refine (peek_in s q d _ hs HBr.out hlt).mono ?_
            rintro e wb ⟨rfl, Fb⟩
            have HBb := Lib.hid (Fb.at_ HBr.out (fun h => h))
            have N1b := Lib.hid (Fb.at_ N1r.out (fun h => h))
            have HFb := Lib.hid (HFr.out.tr Fb.none)
            have HQb := Lib.hid Fb
            clear Fb
            go_wp2_with fail
            refine (of_any 2 l a cap _ (fun i => w.heap.size + 1 ≤ i) hc (by have := HLQ.out; omega) (RxL.mono (fun i hi => by rcases hi with hi | hi <;> exact hi) l a 0 (RxL.move (fun i _ hlt => HQb.out.block i hlt (fun h => h)) l a 0 HL.out))).mono ?_
            rintro e wv ⟨⟨v, rfl, hv⟩, Fv⟩
            have HBv := Lib.hid (Fv.at_ HBb.out (fun h => h))
            have NZv := Lib.hid (Fv.at_ N1b.out (fun h => h))
            have HFv := Lib.hid (HFb.out.tr Fv.none)
            clear Fv
            obtain ⟨k', x0, x1, x2, x3, xids, hrr⟩ : ∃ k' x0 x1 x2 x3 xids, ofR 2 l = Rx.mk k' x0 x1 x2 x3 xids := by
              cases ofR 2 l; exact ⟨_, _, _, _, _, _, rfl⟩
            rw [hrr] at hv
            have HRR := Lib.hid hrr
            clear hrr
            obtain ⟨va, vcap, rfl, hvc, hvl⟩ := hv.open_
            obtain ⟨z0, z1, z2, z3, z4, z5⟩ := six NZv.out
            have zf : ∀ o, wv.frozen? ⟨w.heap.size, o, none⟩ = false := fun o => free_of_block NZv.out
            have HVL := Lib.hid hvl
            clear hvl hv
            go_wp2_with fail
            refine bodyPost_ret (results_six rfl rfl (set_six NZv.out _ _ _ _ _ _)) rfl ?_
            have fx := fr_six (S := at1 w.heap.size) (r := w.heap.size) (Fr.refl _ wv) (.inl rfl) (.int .i64 k') (.int .u64 x0) (.int .u64 x1) (.int .u64 x2) (.int .u64 x3) (.slice va xids.length vcap)
            refine ⟨_, rfl, ?_, fx.at_ HBv.out E2.out, fr_six HFv.out (.inr (Nat.le_refl _)) _ _ _ _ _ _⟩
            rw [HRR.out]
            refine ((RxV.mk_ hvc HVL.out).move fx (fun i hi _ => ?_)).mono (fun i hi => ?_)
            · simp only [at1]; omega
            · exact .inr (by omega)
        · clear hex
          go_wp2_with fail
          refine (peek_out s q d _ hs HBr.out hlt).mono ?_
          rintro e wc ⟨rfl, Fc⟩
          have HBc := Lib.hid (Fc.at_ HBr.out (fun h => h))
          have N1c := Lib.hid (Fc.at_ N1r.out (fun h => h))
          have HFc := Lib.hid (HFr.out.tr Fc.none)
          have HQc := Lib.hid Fc
          clear Fc
          go_wp2_with fail
          refine (of_any 2 l a cap _ (fun i => w.heap.size + 1 ≤ i) hc (by have := HLQ.out; omega) (RxL.mono (fun i hi => by rcases hi with hi | hi <;> exact hi) l a 0 (RxL.move (fun i _ hlt => HQc.out.block i hlt (fun h => h)) l a 0 HL.out))).mono ?_
          rintro e wv ⟨⟨v, rfl, hv⟩, Fv⟩
          have HBv := Lib.hid (Fv.at_ HBc.out (fun h => h))
          have NZv := Lib.hid (Fv.at_ N1c.out (fun h => h))
          have HFv := Lib.hid (HFc.out.tr Fv.none)
          clear Fv
          obtain ⟨k', x0, x1, x2, x3, xids, hrr⟩ : ∃ k' x0 x1 x2 x3 xids, ofR 2 l = Rx.mk k' x0 x1 x2 x3 xids := by
            cases ofR 2 l; exact ⟨_, _, _, _, _, _, rfl⟩
          rw [hrr] at hv
          have HRR := Lib.hid hrr
          clear hrr
          obtain ⟨va, vcap, rfl, hvc, hvl⟩ := hv.open_
          obtain ⟨z0, z1, z2, z3, z4, z5⟩ := six NZv.out
          have zf : ∀ o, wv.frozen? ⟨w.heap.size, o, none⟩ = false := fun o => free_of_block NZv.out
          have HVL := Lib.hid hvl
          clear hvl hv
          go_wp2_with fail
          refine bodyPost_ret (results_six rfl rfl (set_six NZv.out _ _ _ _ _ _)) rfl ?_
          have fx := fr_six (S := at1 w.heap.size) (r := w.heap.size) (Fr.refl _ wv) (.inl rfl) (.int .i64 k') (.int .u64 x0) (.int .u64 x1) (.int .u64 x2) (.int .u64 x3) (.slice va xids.length vcap)
          refine ⟨_, rfl, ?_, fx.at_ HBv.out E2.out, fr_six HFv.out (.inr (Nat.le_refl _)) _ _ _ _ _ _⟩
          rw [HRR.out]
          refine ((RxV.mk_ hvc HVL.out).move fx (fun i hi _ => ?_)).mono (fun i hi => ?_)
          · simp only [at1]; omega
          · exact .inr (by omega)
      · have hlt : q < s.size := by omega
        have e1 : ((byteAt s q : Int) == 124) = false := by rw [beq_eq_false_iff_ne]; omega
        have e2 : ((byteAt s q : Int) == 41) = false := by rw [beq_eq_false_iff_ne]; omega
        have hmr : (match atomB s gk q with | none => none | some (.error e) => some (.error e) | some (.ok (r, q)) => match fitR r with
            | .error e => some (.error e)
            | .ok r => match behindB s gk r q with
              | none => none
              | some (.error e) => some (.error e)
              | some (.ok (r2, q2)) => wayB s gk (l ++ [r2]) q2) = some m := by
          have g := HMM.out.2
          simp only [wayB] at g
          rw [if_neg hex] at g
          exact g
        clear hex
        cases ha : atomB s gk q with
        | none => simp [ha] at hmr
        | some ma =>
          have HAT := Lib.hid ha
          rw [ha] at hmr
          clear ha
          have HMR := Lib.hid hmr
          clear hmr
          go_wp2_with fail
          refine (peek_in s q d _ hs HBr.out hlt).mono ?_
          rintro e we ⟨rfl, Fe⟩
          have HBe := Lib.hid (Fe.at_ HBr.out (fun h => h))
          have N1e := Lib.hid (Fe.at_ N1r.out (fun h => h))
          have HFe := Lib.hid (HFr.out.tr Fe.none)
          have HQe := Lib.hid Fe
          clear Fe
          go_wp2_with fail
          have HOWNe := Lib.hid (HOWN.out.move HQe.out (fun _ _ _ h => h) (fun _ _ _ h => h))
          have HQs := Lib.hid HQe.out.size
          refine (HA.out gk (by have := HMM.out.1; omega) q d _ ma HLQ.out.2 HBe.out HAT.out).mono ?_
          intro e wg hg
          cases ma with
          | error en =>
            have hmr : m = .error en := by have := HMR.out; simpa using this.symm
            subst hmr
            obtain ⟨rfl, Fg⟩ := hg
            have HFg := Lib.hid (HFe.out.tr Fg)
            clear Fg
            go_wp2_with fail
            exact ⟨rfl, rfl, HFg.out⟩
          | ok y =>
            obtain ⟨⟨k', x0, x1, x2, x3, xids⟩, q1⟩ := y
            obtain ⟨v', rfl, hv', hb', Fg⟩ := hg
            have hat := (all_at hs gk).2.2.2 q q1 _ HLQ.out.2 HAT.out
            obtain ⟨va, vcap, rfl, hvc, hvl⟩ := hv'.open_
            have HVL := Lib.hid hvl
            have HBg := Lib.hid hb'
            have N1g := Lib.hid (Fg.at_ N1e.out E1.out)
            have HOWNg := Lib.hid (HOWNe.out.move Fg (fun i hi _ => by simp only [at1]; omega) (fun i hi _ => by simp only [at1]; omega))
            have HFg := Lib.hid (HFe.out.tr Fg)
            have HGs := Lib.hid Fg.size
            have HAT2 := Lib.hid hat
            clear hvl hv' hb' Fg hat
            go_wp2_with fail
            cases hfit : fitR (.mk k' x0 x1 x2 x3 xids) with
            | error en =>
              have hmr : m = .error en := by have := HMR.out; simp only [hfit] at this; simpa using this.symm
              subst hmr
              have HFT := Lib.hid hfit
              clear hfit
              refine (fit_err (.mk k' x0 x1 x2 x3 xids) en _ _ _ (RxV.mk_ hvc HVL.out) (by have := HAT2.out.2.2; omega) HFT.out).mono ?_
              rintro e wf ⟨rfl, Ff⟩
              have HFf := Lib.hid (HFg.out.tr Ff.none)
              clear Ff
              go_wp2_with fail
              exact ⟨rfl, rfl, HFf.out⟩
            | ok rr =>
              obtain ⟨hrr, h500⟩ := fitR_at hfit
              have HFT := Lib.hid hfit
              have HMR2 : Hid ((match behindB s gk (.mk k' x0 x1 x2 x3 xids) q1 with
                        | none => none
                        | some (.error e) => some (.error e)
                        | some (.ok (r2, q2)) => wayB s gk (l ++ [r2]) q2) = some m) := by
                have := HMR.out
                simp only [hfit] at this
                rw [hrr] at this
                exact Lib.hid this
              have H500 := Lib.hid h500
              clear hfit hrr h500
              refine (fit_ok (.mk k' x0 x1 x2 x3 xids) rr _ _ _ (RxV.mk_ hvc HVL.out) (by have := HAT2.out.2.2; omega) HFT.out).mono ?_
              rintro e wf ⟨rfl, _, Ff⟩
              have HFf := Lib.hid (HFg.out.tr Ff.none)
              have HBf := Lib.hid (Ff.at_ HBg.out (fun h => h))
              have N1f := Lib.hid (Ff.at_ N1g.out (fun h => h))
              have HOWNf := Lib.hid (HOWNg.out.move Ff (fun _ _ _ h => h) (fun _ _ _ h => h))
              have HVf := Lib.hid ((RxV.mk_ (k := k') (b0 := x0) (b1 := x1) (b2 := x2) (b3 := x3) hvc HVL.out).move Ff (fun _ _ _ h => h))
              have HFs := Lib.hid Ff.size
              clear Ff
              go_wp2_with fail
              cases hbe : behindB s gk (.mk k' x0 x1 x2 x3 xids) q1 with
              | none => have := HMR2.out; simp [hbe] at this
              | some mb =>
                have HBE := Lib.hid hbe
                have HMR3 := Lib.hid HMR2.out
                rw [hbe] at HMR3
                clear hbe HMR2 HMR
                refine (behind_any s hs gk (.mk k' x0 x1 x2 x3 xids) _ q1 d _ _ mb HBf.out HVf.out H500.out (by
                  intro i hi
                  rcases hi with hi | hi
                  · exact hi.elim
                  · have := lt_of_block HBr.out
                    have := HQs.out
                    omega) HBE.out).mono ?_
                intro e wh hg
                cases mb with
                | error en =>
                  have hmr : m = .error en := by have := HMR3.out; simpa using this.symm
                  subst hmr
                  obtain ⟨rfl, Fg⟩ := hg
                  have HFh := Lib.hid (HFf.out.tr Fg)
                  clear Fg
                  go_wp2_with fail
                  exact ⟨rfl, rfl, HFh.out⟩
                | ok y =>
                  obtain ⟨⟨k2, y0, y1, y2, y3, yids⟩, q2⟩ := y
                  obtain ⟨v2, rfl, hv2, hb2, Fh⟩ := hg
                  obtain ⟨ya, ycap, rfl, hyc, hyl⟩ := hv2.open_
                  have hbat := behindB_at gk _ _ q1 q2 HAT2.out.2.1 H500.out HBE.out
                  obtain ⟨cells, hrow, hels⟩ := HOWNf.out.move Fh (fun i hi _ => by simp only [at1]; omega) (fun i hi _ => by simp only [at1]; omega)
                  have HBh := Lib.hid hb2
                  have N1h := Lib.hid (Fh.at_ N1f.out E1.out)
                  have HFh := Lib.hid (HFf.out.tr Fh)
                  have HYL := Lib.hid hyl
                  have HROW := Lib.hid hrow
                  have HELS := Lib.hid hels
                  have HBAT := Lib.hid hbat
                  have HHs := Lib.hid Fh.size
                  clear hyl hv2 hb2 Fh hbat hrow hels
                  go_wp2_with (at_builtin; refine wpList_append_lies _ rfl (.tmp 23) (.tmp 29) 26 rfl (w.heap.size + 1) 28 i0 _ 6 64 Try.underlying26 hi hz0 hz1 hz2 rfl (by decide) _ l.length cells rfl (HROW.out.alloc _) ⟨wh.heap.size, 0, none⟩ 1 1 [.int .i64 k2, .int .u64 y0, .int .u64 y1, .int .u64 y2, .int .u64 y3, .slice ya yids.length ycap] rfl rfl (getElem_block (alloc_new _ _)) ?c1 (by decide) ?c2 ?c3 ?c4 (wh.heap.size + 1) (by simp) ?_)
                  case c1 => simp [Value.oneCell']
                  case c2 => have := HLQ.out; unfold maxLen; omega
                  case c3 => have := HLQ.out; omega
                  case c4 => have := lt_of_block N1h.out; simp; omega
                  intro g gcap w1 hown1 hgrow hat hlt1
                  have hwh := lt_of_block N1h.out
                  have FA := (Fr.refl none_ wh).alloc (.cells #[.int .i64 k2, .int .u64 y0, .int .u64 y1, .int .u64 y2, .int .u64 y3, .slice ya yids.length ycap] 28)
                  have hub : ∀ i, u3.ownBlock = some i → w.heap.size + 1 ≤ i ∧ i < wr.heap.size := fun i hi => ⟨(HROW.out.lt i hi).1, by
                    obtain ⟨c0, h0, _⟩ := HOWN.out
                    exact (h0.lt i hi).2⟩
                  have hw0 := lt_of_block N1r.out
                  have hq1 := HQs.out
                  have hq2 := HGs.out
                  have hq3 := HFs.out
                  have FG : Fr (fun i => w.heap.size + 1 ≤ i) _ w1 := (Fr.refl _ _).grown hgrow (fun i hi => .inl (hub i hi).1)
                  have RL := RxL.mono (ok' := fun i => w.heap.size + 1 ≤ i ∧ some i ≠ u3.ownBlock) (fun i hi => by
                    refine ⟨?_, fun e => ?_⟩
                    · rcases hi with (hi | hi) | hi
                      · exact hi.elim
                      · omega
                      · omega
                    · have := (hub i e.symm).2
                      rcases hi with (hi | hi) | hi
                      · exact hi.elim
                      · omega
                      · omega) yids ya 0 (RxL.move (w' := wh.alloc (.cells #[.int .i64 k2, .int .u64 y0, .int .u64 y1, .int .u64 y2, .int .u64 y3, .slice ya yids.length ycap] 28)) (fun i _ hlt => Below.heap_alloc _ _ _ hlt) yids ya 0 HYL.out)
                  have OWN2 := RxOwn.snoc (B := w.heap.size + 1) (ok := fun i => w.heap.size + 1 ≤ i) (w := wh.alloc (.cells #[.int .i64 k2, .int .u64 y0, .int .u64 y1, .int .u64 y2, .int .u64 y3, .slice ya yids.length ycap] 28)) (HROW.out.alloc _) (fun j r hj => by
                    obtain ⟨cs, g1, g2, g3⟩ := HELS.out j r hj
                    exact ⟨cs, g1, g2, RxC.move (fun i _ hlt => Below.heap_alloc _ _ _ hlt) r cs g3⟩) rfl (RxC.cells (k := k2) (b0 := y0) (b1 := y1) (b2 := y2) (b3 := y3) hyc RL) hown1 hgrow (by simpa using hat)
                  have HOWN2 := Lib.hid OWN2
                  have HB2 := Lib.hid (FG.at_ (FA.at_ HBh.out (fun h => h)) (by omega))
                  have N12 := Lib.hid (FG.at_ (FA.at_ N1h.out (fun h => h)) (by omega))
                  have HF2 := Lib.hid ((HFh.out.tr FA.none).trans FG (fun i hi hs' => by omega))
                  clear FA FG RL OWN2 hgrow hown1 hat hub hwh hw0 hq1 hq2 hq3 hlt1
                  go_wp2_with fail
                  go_roundg gk
                  case measure => omega
                  case rel => exact ⟨l ++ [.mk k2 y0 y1 y2 y3 yids], q2, ⟨by have := HMM.out.1; omega, by simpa using HMR3.out⟩, ⟨by have := HLQ.out; have := HAT2.out; have := HBAT.out; simp; omega, HBAT.out.2.1⟩, by simpa using HOWN2.out, HB2.out, N12.out, HF2.out⟩
end Go.Proofs.Ytjbmppbciiemkaa
