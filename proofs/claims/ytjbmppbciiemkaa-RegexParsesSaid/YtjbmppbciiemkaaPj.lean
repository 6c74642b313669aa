/-
  The walk over regex's reader: ways, with bars between.
-/
import Derived.Test.YtjbmppbciiemkaaPk
namespace Go.Proofs.Ytjbmppbciiemkaa set_option linter.unusedVariables false set_option linter.unusedSimpArgs false
open Go.RowKit

/-- A row of one, just made. -/
theorem RxOwn.lit {B g : Nat} {ok : Nat → Prop} {w : World} {k : Int} {b0 b1 b2 b3 : Nat} {kids : List Rx} {a : Option Addr} {cap : Nat}
    (h : w.heap[g]? = some (.cells #[.int .i64 k, .int .u64 b0, .int .u64 b1, .int .u64 b2, .int .u64 b3, .slice a kids.length cap] 28 (0, 0))) (hB : B ≤ g) (hc : kids.length ≤ cap) (hl : RxL (fun i => ok i ∧ i ≠ g) w a 0 kids) :
    RxOwn B ok w (.slice (some ⟨g, 0, none⟩) 1 1) [.mk k b0 b1 b2 b3 kids] := by
  refine ⟨[.int .i64 k, .int .u64 b0, .int .u64 b1, .int .u64 b2, .int .u64 b3, .slice a kids.length cap], ⟨rfl, .inr ⟨g, 1, _, rfl, hB, h, Nat.le_refl _, by decide, rfl, rfl⟩⟩, fun j r hj => ?_⟩
  match j, hj with
  | 0, hj =>
    simp at hj
    subst hj
    exact ⟨_, rfl, fun m u hu => by simpa using hu, RxC.mono (fun i hi => ⟨hi.1, by simp only [Value.ownBlock]; intro e; exact hi.2 (by simpa using e)⟩) _ _ (RxC.cells hc hl)⟩

set_option maxRecDepth 100000 in
set_option maxHeartbeats 4000000 in
theorem ways_step (s : ByteArray) (hs : s.size ≤ 1000) (k : Nat) (hway : ∀ j, j < k → WayC s j) : WaysC s k := by
  intro p d w m hp hb hm
  cases k with
  | zero => simp [waysB] at hm
  | succ k =>
    obtain ⟨i0, hi, hz0, hz1, hz2⟩ := info_parts rx_info
    have hdl := lt_of_block hb
    have n1 := alloc_new w (.cells #[.int .i64 0, .int .u64 0, .int .u64 0, .int .u64 0, .int .u64 0, .slice none 0 0] 28)
    have F0 := (Fr.refl none_ w).alloc (.cells #[.int .i64 0, .int .u64 0, .int .u64 0, .int .u64 0, .int .u64 0, .slice none 0 0] 28)
    have HB0 := Lib.hid (F0.at_ hb (fun h => h))
    have HF0 := Lib.hid (F0.none (S := at1 d))
    have N1 := Lib.hid n1
    have S0 := Lib.hid (show (w.alloc (.cells #[.int .i64 0, .int .u64 0, .int .u64 0, .int .u64 0, .int .u64 0, .slice none 0 0] 28)).heap.size = w.heap.size + 1 by simp)
    have E1 := Lib.hid (show ¬ at1 d w.heap.size by simp only [at1]; omega)
    have E2 := Lib.hid (show ¬ at1 w.heap.size d by simp only [at1]; omega)
    have HA := Lib.hid hway
    simp only [waysB] at hm
    cases hw1 : wayB s k [] p with
    | none => simp [hw1] at hm
    | some mw =>
      rw [hw1] at hm
      have HM := Lib.hid hm
      have HW1 := Lib.hid hw1
      clear hb n1 F0 hway hm hw1
      go_enter Try.func15, Try.ntmps15
      go_wp2_with fail
      refine (HA.out k (by omega) p d _ mw hp HB0.out HW1.out).mono ?_
      intro e wa hg
      cases mw with
      | error en =>
        have hmr : m = .error en := by have := HM.out; simpa using this.symm
        subst hmr
        obtain ⟨rfl, Fg⟩ := hg
        have HFg := Lib.hid (HF0.out.tr Fg)
        clear Fg
        go_wp2_with fail
        exact ⟨rfl, rfl, HFg.out⟩
      | ok y =>
        obtain ⟨⟨k', x0, x1, x2, x3, xids⟩, q⟩ := y
        obtain ⟨v', rfl, hv', hb', Fg⟩ := hg
        have hat := (all_at hs k).2.2.1 [] p q _ hp (by simp) (by simp) HW1.out
        obtain ⟨va, vcap, rfl, hvc, hvl⟩ := hv'.open_
        have HVL := Lib.hid hvl
        have HBa := Lib.hid hb'
        have N1a := Lib.hid (Fg.at_ N1.out E1.out)
        have HFa := Lib.hid (HF0.out.tr Fg)
        have HMM := Lib.hid HM.out
        have HAT := Lib.hid hat
        clear hvl hv' hb' Fg hat HM
        go_wp2_with fail
        have hw0 := lt_of_block N1a.out
        have FA := (Fr.refl none_ wa).alloc (.cells #[.int .i64 k', .int .u64 x0, .int .u64 x1, .int .u64 x2, .int .u64 x3, .slice va xids.length vcap] 28)
        have LIT := RxOwn.lit (B := w.heap.size + 1) (ok := fun i => w.heap.size + 1 ≤ i) (alloc_new wa (.cells #[.int .i64 k', .int .u64 x0, .int .u64 x1, .int .u64 x2, .int .u64 x3, .slice va xids.length vcap] 28)) (by omega) hvc
          (RxL.mono (fun i hi => ⟨hi.1.elim (fun h => h.elim) (fun h => by have := S0.out; omega), by have := hi.2; omega⟩) xids va 0 (RxL.move (fun i _ hlt => Below.heap_alloc _ _ _ hlt) xids va 0 (RxL.bound xids va 0 HVL.out)))
        have HOWN0 := Lib.hid LIT
        have HB1 := Lib.hid (FA.at_ HBa.out (fun h => h))
        have N11 := Lib.hid (FA.at_ N1a.out (fun h => h))
        have HF1 := Lib.hid (HFa.out.tr FA.none)
        clear FA LIT hw0
        go_loopg [3] k (fun kk v wr => ∃ l q, Aside (kk ≤ k ∧ waysL s kk l q = some m) ∧ Aside (l.length ≤ q + 1 ∧ q ≤ s.size) ∧ RxOwn (w.heap.size + 1) (fun i => w.heap.size + 1 ≤ i) wr v l ∧
          Aside (wr.heap[d]? = some (rdObj s q)) ∧ Aside (wr.heap[w.heap.size]? = some (.cells #[.int .i64 0, .int .u64 0, .int .u64 0, .int .u64 0, .int .u64 0, .slice none 0 0] 28 (0, 0))) ∧ Aside (Fr (at1 d) w wr))
        case atStart => exact ⟨[.mk k' x0 x1 x2 x3 xids], q, ⟨Nat.le_refl _, by simpa using HMM.out⟩, ⟨by simp, HAT.out.2.1⟩, HOWN0.out, HB1.out, N11.out, HF1.out⟩
        case round =>
          obtain ⟨l, q, hmm, hlq, hown, hbr, hn1, hfr⟩ := hrel
          have HMR := Lib.hid hmm.out
          have HLQ := Lib.hid hlq.out
          have HOWN := Lib.hid hown
          have HBr := Lib.hid hbr.out
          have N1r := Lib.hid hn1.out
          have HFr := Lib.hid hfr.out
          clear hmm hlq hown hbr hn1 hfr
          cases gk with
          | zero => have := HMR.out.2; simp [waysL] at this
          | succ gk =>
            cases h124 : isB s q 124 with
            | false =>
              have hmr : m = .ok (ofR 3 l, q) := by
                have g := HMR.out.2
                simp only [waysL, h124, Bool.false_eq_true, if_false] at g
                simpa using g.symm
              subst hmr
              have HI := Lib.hid h124
              clear h124
              obtain ⟨a, cap, rfl, hc, hl⟩ := HOWN.out.rows
              have HL := Lib.hid hl
              clear hl
              go_wp2_with fail
              refine (is_no s q d 124 _ hs HBr.out HI.out).mono ?_
              rintro e wb ⟨rfl, hbb, Fb⟩
              have HBb := Lib.hid hbb
              have N1b := Lib.hid (Fb.at_ N1r.out E1.out)
              have HFb := Lib.hid (HFr.out.tr Fb)
              have HQb := Lib.hid Fb
              clear hbb Fb
              go_wp2_with fail
              refine (of_any 3 l a cap _ (fun i => w.heap.size + 1 ≤ i) hc (by have := HLQ.out; omega) (RxL.mono (fun i hi => by rcases hi with hi | hi <;> exact hi) l a 0 (RxL.move (fun i hi hlt => HQb.out.block i hlt (by simp only [at1]; rcases hi with hi | hi <;> omega)) l a 0 HL.out))).mono ?_
              rintro e wv ⟨⟨v, rfl, hv⟩, Fv⟩
              have HBv := Lib.hid (Fv.at_ HBb.out (fun h => h))
              have NZv := Lib.hid (Fv.at_ N1b.out (fun h => h))
              have HFv := Lib.hid (HFb.out.tr Fv.none)
              clear Fv
              obtain ⟨k', x0, x1, x2, x3, xids, hrr⟩ : ∃ k' x0 x1 x2 x3 xids, ofR 3 l = Rx.mk k' x0 x1 x2 x3 xids := by
                cases ofR 3 l; exact ⟨_, _, _, _, _, _, rfl⟩
              rw [hrr] at hv
              have HRR := Lib.hid hrr
              clear hrr
              obtain ⟨va, vcap, rfl, hvc, hvl⟩ := hv.open_
              obtain ⟨z0, z1, z2, z3, z4, z5⟩ := six NZv.out
              have zf : ∀ o, wv.frozen? ⟨w.heap.size, o, none⟩ = false := fun o => free_of_block NZv.out
              have HVL := Lib.hid hvl
              clear hvl hv
              go_wp2_with fail
              refine bodyPost_ret (results_six rfl rfl (set_six NZv.out _ _ _ _ _ _)) rfl ?_
              have fx := fr_six (S := at1 w.heap.size) (r := w.heap.size) (Fr.refl _ wv) (.inl rfl) (.int .i64 k') (.int .u64 x0) (.int .u64 x1) (.int .u64 x2) (.int .u64 x3) (.slice va xids.length vcap)
              refine ⟨_, rfl, ?_, fx.at_ HBv.out E2.out, fr_six HFv.out (.inr (Nat.le_refl _)) _ _ _ _ _ _⟩
              rw [HRR.out]
              refine ((RxV.mk_ hvc HVL.out).move fx (fun i hi _ => ?_)).mono (fun i hi => ?_)
              · simp only [at1]; omega
              · exact .inr (by omega)
            | true =>
              have HI := Lib.hid h124
              have hlt124 := isB_at h124
              have hmr : (match wayB s gk [] (q + 1) with | none => none | some (.error e) => some (.error e) | some (.ok (r, q)) => waysL s gk (l ++ [r]) q) = some m := by
                have g := HMR.out.2
                simp only [waysL, h124, if_true] at g
                exact g
              clear h124
              cases ha : wayB s gk [] (q + 1) with
              | none => simp [ha] at hmr
              | some ma =>
                have HAT1 := Lib.hid ha
                rw [ha] at hmr
                have HMR2 := Lib.hid hmr
                clear ha hmr
                go_wp2_with fail
                refine (is_yes s q d 124 _ hs HBr.out HI.out).mono ?_
                rintro e we ⟨rfl, hbe, Fe⟩
                have HBe := Lib.hid hbe
                have N1e := Lib.hid (Fe.at_ N1r.out E1.out)
                have HFe := Lib.hid (HFr.out.tr Fe)
                have HOWNe := Lib.hid (HOWN.out.move Fe (fun i hi _ => by simp only [at1]; omega) (fun i hi _ => by simp only [at1]; omega))
                have HQs := Lib.hid Fe.size
                clear hbe Fe
                go_wp2_with fail
                refine (HA.out gk (by have := HMR.out.1; omega) (q + 1) d _ ma (by omega) HBe.out HAT1.out).mono ?_
                intro e wh hg
                cases ma with
                | error en =>
                  have hmr : m = .error en := by have := HMR2.out; simpa using this.symm
                  subst hmr
                  obtain ⟨rfl, Fg⟩ := hg
                  have HFg := Lib.hid (HFe.out.tr Fg)
                  clear Fg
                  go_wp2_with fail
                  exact ⟨rfl, rfl, HFg.out⟩
                | ok y =>
                  obtain ⟨⟨k2, y0, y1, y2, y3, yids⟩, q2⟩ := y
                  obtain ⟨v2, rfl, hv2, hb2, Fh⟩ := hg
                  obtain ⟨ya, ycap, rfl, hyc, hyl⟩ := hv2.open_
                  have hbat := (all_at hs gk).2.2.1 [] (q + 1) q2 _ (by omega) (by simp) (by simp) HAT1.out
                  obtain ⟨cells, hrow, hels⟩ := HOWNe.out.move Fh (fun i hi _ => by simp only [at1]; omega) (fun i hi _ => by simp only [at1]; omega)
                  have HBh := Lib.hid hb2
                  have N1h := Lib.hid (Fh.at_ N1e.out E1.out)
                  have HFh := Lib.hid (HFe.out.tr Fh)
                  have HYL := Lib.hid hyl
                  have HROW := Lib.hid hrow
                  have HELS := Lib.hid hels
                  have HBAT := Lib.hid hbat
                  clear hyl hv2 hb2 Fh hbat hrow hels
                  go_wp2_with (at_builtin; refine wpList_append_lies _ rfl (.tmp 9) (.tmp 12) 26 rfl (w.heap.size + 1) 28 i0 _ 6 64 Try.underlying26 hi hz0 hz1 hz2 rfl (by decide) _ l.length cells rfl (HROW.out.alloc _) ⟨wh.heap.size, 0, none⟩ 1 1 [.int .i64 k2, .int .u64 y0, .int .u64 y1, .int .u64 y2, .int .u64 y3, .slice ya yids.length ycap] rfl rfl (getElem_block (alloc_new _ _)) ?c1 (by decide) ?c2 ?c3 ?c4 (wh.heap.size + 1) (by simp) ?_)
                  case c1 => simp [Value.oneCell']
                  case c2 => have := HLQ.out; unfold maxLen; omega
                  case c3 => have := HLQ.out; omega
                  case c4 => have := lt_of_block N1h.out; simp; omega
                  intro g gcap w1 hown1 hgrow hat hlt1
                  have hwh := lt_of_block N1h.out
                  have FA := (Fr.refl none_ wh).alloc (.cells #[.int .i64 k2, .int .u64 y0, .int .u64 y1, .int .u64 y2, .int .u64 y3, .slice ya yids.length ycap] 28)
                  have hub : ∀ i, u3.ownBlock = some i → w.heap.size + 1 ≤ i ∧ i < wr.heap.size := fun i hi => ⟨(HROW.out.lt i hi).1, by
                    obtain ⟨c0, h0, _⟩ := HOWN.out
                    exact (h0.lt i hi).2⟩
                  have hw0 := lt_of_block N1r.out
                  have hq1 := HQs.out
                  have FG : Fr (fun i => w.heap.size + 1 ≤ i) _ w1 := (Fr.refl _ _).grown hgrow (fun i hi => .inl (hub i hi).1)
                  have RL := RxL.mono (ok' := fun i => w.heap.size + 1 ≤ i ∧ some i ≠ u3.ownBlock) (fun i hi => by
                    refine ⟨?_, fun e => ?_⟩
                    · rcases hi with hi | hi
                      · exact hi.elim
                      · omega
                    · have := (hub i e.symm).2
                      rcases hi with hi | hi
                      · exact hi.elim
                      · omega) yids ya 0 (RxL.move (w' := wh.alloc (.cells #[.int .i64 k2, .int .u64 y0, .int .u64 y1, .int .u64 y2, .int .u64 y3, .slice ya yids.length ycap] 28)) (fun i _ hlt => Below.heap_alloc _ _ _ hlt) yids ya 0 HYL.out)
                  have OWN2 := RxOwn.snoc (B := w.heap.size + 1) (ok := fun i => w.heap.size + 1 ≤ i) (w := wh.alloc (.cells #[.int .i64 k2, .int .u64 y0, .int .u64 y1, .int .u64 y2, .int .u64 y3, .slice ya yids.length ycap] 28)) (HROW.out.alloc _) (fun j r hj => by
                    obtain ⟨cs, g1, g2, g3⟩ := HELS.out j r hj
                    exact ⟨cs, g1, g2, RxC.move (fun i _ hlt => Below.heap_alloc _ _ _ hlt) r cs g3⟩) rfl (RxC.cells (k := k2) (b0 := y0) (b1 := y1) (b2 := y2) (b3 := y3) hyc RL) hown1 hgrow (by simpa using hat)
                  have HOWN2 := Lib.hid OWN2
                  have HB2 := Lib.hid (FG.at_ (FA.at_ HBh.out (fun h => h)) (by omega))
                  have N12 := Lib.hid (FG.at_ (FA.at_ N1h.out (fun h => h)) (by omega))
                  have HF2 := Lib.hid ((HFh.out.tr FA.none).trans FG (fun i hi hs' => by omega))
                  clear FA FG RL OWN2 hgrow hown1 hat hub hwh hw0 hq1 hlt1
                  go_wp2_with fail
                  go_roundg gk
                  case measure => omega
                  case rel => exact ⟨l ++ [.mk k2 y0 y1 y2 y3 yids], q2, ⟨by have := HMR.out.1; omega, by simpa using HMR2.out⟩, ⟨by have := HLQ.out; have := HBAT.out; simp; omega, HBAT.out.2.1⟩, by simpa using HOWN2.out, HB2.out, N12.out, HF2.out⟩
end Go.Proofs.Ytjbmppbciiemkaa
