/-
  The walk over regex's reader: what stands in brackets.
-/
import Derived.Test.YtjbmppbciiemkaaPu
namespace Go.Proofs.Ytjbmppbciiemkaa set_option linter.unusedVariables false set_option linter.unusedSimpArgs false
open Go.RowKit

theorem one_ok {s : ByteArray} {p d : Nat} {w : World} (hs : s.size ≤ 1000) (hb : w.heap[d]? = some (rdObj s p)) {b q : Nat} (h : oneB s p = .ok (b, q)) :
    Calls Try.prog 60 #[.pointer (some ⟨d, 0, none⟩)] w fun e w' => e = .returned (.int .u8 b) ∧ w'.heap[d]? = some (rdObj s q) ∧ Fr (at1 d) w w' := by
  have := one_any s p d w hs hb
  rw [h] at this
  exact this
theorem one_err {s : ByteArray} {p d : Nat} {w : World} (hs : s.size ≤ 1000) (hb : w.heap[d]? = some (rdObj s p)) {n : Int} (h : oneB s p = .error n) :
    Calls Try.prog 60 #[.pointer (some ⟨d, 0, none⟩)] w fun e w' => e = .panicked (wrongP n) ∧ Fr (at1 d) w w' := by
  have := one_any s p d w hs hb
  rw [h] at this
  exact this
theorem Bs.addN_succ (x : Bs) (b n : Nat) : x.addN b (n + 1) = (x.addN b n).add (b + n) := by
  induction n generalizing x b with
  | zero => rfl
  | succ n ih =>
    show (x.add b).addN (b + 1) (n + 1) = ((x.add b).addN (b + 1) n).add (b + (n + 1))
    rw [ih (x.add b) (b + 1)]
    congr 1
    omega

set_option maxRecDepth 100000 in
set_option maxHeartbeats 2000000 in
theorem class_any (s : ByteArray) (k p d : Nat) (w : World) (m : Got Rx) (hs : s.size ≤ 1000) (hb : w.heap[d]? = some (rdObj s p)) (h : classB s k p = some m) :
    Calls Try.prog 49 #[.pointer (some ⟨d, 0, none⟩)] w (GotR none_ d s w m) := by
  have hd := lt_of_block hb
  obtain ⟨n1, n2⟩ := alloc_new2 w (.cells #[.int .i64 0, .int .u64 0, .int .u64 0, .int .u64 0, .int .u64 0, .slice none 0 0] 28) (bsObj 1 Bs.zero)
  have F0 := ((Fr.refl (at1 d) w).alloc (.cells #[.int .i64 0, .int .u64 0, .int .u64 0, .int .u64 0, .int .u64 0, .slice none 0 0] 28)).alloc (bsObj 1 Bs.zero)
  have FN := ((Fr.refl none_ w).alloc (.cells #[.int .i64 0, .int .u64 0, .int .u64 0, .int .u64 0, .int .u64 0, .slice none 0 0] 28)).alloc (bsObj 1 Bs.zero)
  have hne0 : ¬ at1 d w.heap.size := by simp only [at1]; omega
  have hne1 : ¬ at1 d (w.heap.size + 1) := by simp only [at1]; omega
  have hb0 := FN.at_ hb (fun h => h)
  have HB0 := Lib.hid hb0
  have HN1 := Lib.hid n1
  have HN2 := Lib.hid n2
  have HF0 := Lib.hid F0
  have HNE0 := Lib.hid hne0
  have HNE1 := Lib.hid hne1
  have HH := Lib.hid h
  clear hb hb0 n1 n2 F0 FN hne0 hne1 h
  have HNEd := Lib.hid (show ¬ at1 w.heap.size d by simp only [at1]; omega)
  have HNEe := Lib.hid (show ¬ at1 (w.heap.size + 1) d by simp only [at1]; omega)
  unfold classB at HH
  cases hnot : isB s p 94 with
  | true =>
    have HI := Lib.hid hnot
    have HM := HH.out
    rw [hnot] at HM
    clear hnot
    simp only [if_true, if_false, Bool.false_eq_true] at HM
    have HMM := Lib.hid HM
    clear HM HH
    go_enter Try.func49, Try.ntmps49
    go_wp2_with fail
    refine (is_yes s p d 94 _ hs HB0.out HI.out).mono ?_
    rintro e w1 ⟨rfl, hb1, F1⟩
    have HB1 := Lib.hid hb1
    have HN11 := Lib.hid (F1.at_ HN1.out HNE0.out)
    have HN21 := Lib.hid (F1.at_ HN2.out HNE1.out)
    have HF1 := Lib.hid (HF0.out.tr F1)
    clear hb1 F1
    go_wp2_with fail
    go_loopg [5] k (fun kk _ wr => ∃ x q, Aside (∃ m2, classL s kk x q = some m2 ∧ m = (match m2 with | .error e => .error e | .ok (x, q) => .ok (x.others.rx, q))) ∧ Aside x.Ok ∧ Aside (wr.heap[d]? = some (rdObj s q)) ∧ Aside (wr.heap[w.heap.size]? = some (bsObj 0 Bs.zero)) ∧ Aside (wr.heap[w.heap.size + 1]? = some (bsObj 1 x)) ∧ Aside (Fr (at1 d) w wr))
    case atStart =>
      refine ⟨Bs.zero, _, ?_, Bs.Ok.zero, HB1.out, HN11.out, HN21.out, HF1.out⟩
      have HM := HMM.out
      split at HM
      · simp at HM
      · rename_i e he
        simp at HM
        exact ⟨_, he, HM.symm⟩
      · rename_i x q he
        simp at HM
        exact ⟨_, he, HM.symm⟩
    case round =>
      obtain ⟨x, q, HC, hxo, hbr, hn1, hn2, hfr⟩ := hrel
      have HBr := Lib.hid hbr.out
      have HN1r := Lib.hid hn1.out
      have HN2r := Lib.hid hn2.out
      have HFr := Lib.hid hfr.out
      clear hbr hn1 hn2 hfr
      cases gk with
      | zero =>
        obtain ⟨m2, g1, _⟩ := HC.out
        simp [classL] at g1
      | succ gk =>
        cases h93 : isB s q 93 with
        | true =>
          have H93 := Lib.hid h93
          have hm : m = .ok (x.others.rx, q + 1) := by
            obtain ⟨m2, g1, g2⟩ := HC.out
            simp only [classL, h93, if_true, if_false, Bool.false_eq_true, Option.some.injEq] at g1
            subst g1
            exact g2
          subst hm
          clear h93 HC
          go_wp2_with fail
          refine (is_yes s q d 93 _ hs HBr.out H93.out).mono ?_
          rintro e w2 ⟨rfl, hb2, F2⟩
          have HB2 := Lib.hid hb2
          have HN12 := Lib.hid (F2.at_ HN1r.out HNE0.out)
          have HN22 := Lib.hid (F2.at_ HN2r.out HNE1.out)
          have HF2 := Lib.hid (HFr.out.tr F2)
          clear hb2 F2
          obtain ⟨c0, c1, c2, c3, c4, c5⟩ := six HN22.out
          go_wp2_with fail
          refine (others_any 1 x hxo.out _).mono ?_
          rintro e wo ⟨rfl, Fo⟩
          clear c0 c1 c2 c3 c4 c5
          have hn2 := Fo.at_ HN22.out (fun h => h)
          have hn1 := Fo.at_ HN12.out (fun h => h)
          obtain ⟨c0, c1, c2, c3, c4, c5⟩ := six hn2
          obtain ⟨d0, d1, d2, d3, d4, d5⟩ := six hn1
          have g2 : ∀ o, wo.frozen? ⟨w.heap.size + 1, o, none⟩ = false := fun o => free_of_block hn2
          have g1 : ∀ o, wo.frozen? ⟨w.heap.size, o, none⟩ = false := fun o => free_of_block hn1
          have HBo := Lib.hid (Fo.at_ HB2.out (fun h => h))
          have HFo := Lib.hid (HF2.out.tr Fo.none)
          have HN1o := Lib.hid hn1
          have HN2o := Lib.hid hn2
          clear hn1 hn2 Fo
          go_wp2_with fail
          refine bodyPost_ret (results_six rfl rfl (set_six ((fr_six (S := at1 (w.heap.size + 1)) (r := w.heap.size + 1) (Fr.refl _ wo) (.inl rfl) _ _ _ _ _ _).at_ HN1o.out (by simp only [at1]; omega)) _ _ _ _ _ _)) rfl ?_
          refine ⟨_, rfl, RxV.bs _ _ x.others, ?_, fr_six (fr_six HFo.out (.inr (by omega)) _ _ _ _ _ _) (.inr (Nat.le_refl _)) _ _ _ _ _ _⟩
          exact (fr_six (S := at1 w.heap.size) (r := w.heap.size) (Fr.refl _ _) (.inl rfl) _ _ _ _ _ _).at_ ((fr_six (S := at1 (w.heap.size + 1)) (r := w.heap.size + 1) (Fr.refl _ wo) (.inl rfl) _ _ _ _ _ _).at_ HBo.out HNEe.out) HNEd.out
        | false =>
          have H93 := Lib.hid h93
          cases h1 : oneB s q with
          | error n =>
            have H1 := Lib.hid h1
            have hm : m = .error n := by
              obtain ⟨m2, g1, g2⟩ := HC.out
              simp only [classL, h93, h1, if_true, if_false, Bool.false_eq_true, Option.some.injEq] at g1
              subst g1
              exact g2
            subst hm
            clear h93 h1 HC
            go_wp2_with fail
            refine (is_no s q d 93 _ hs HBr.out H93.out).mono ?_
            rintro e w3 ⟨rfl, hb3, F3⟩
            have HB3 := Lib.hid hb3
            have HN13 := Lib.hid (F3.at_ HN1r.out HNE0.out)
            have HN23 := Lib.hid (F3.at_ HN2r.out HNE1.out)
            have HF3 := Lib.hid (HFr.out.tr F3)
            clear hb3 F3
            go_wp2_with fail
            refine (one_err hs HB3.out H1.out).mono ?_
            rintro e w4 ⟨rfl, F4⟩
            have HF4 := Lib.hid (HF3.out.tr F4)
            clear F4
            go_wp2_with fail
            exact ⟨rfl, rfl, HF4.out⟩
          | ok y =>
            obtain ⟨lo, q1⟩ := y
            have H1 := Lib.hid h1
            have hlo := (oneB_lt h1).1
            cases h45 : isB s q1 45 with
            | true =>
              have H45 := Lib.hid h45
              cases h2 : oneB s (q1 + 1) with
              | error n =>
                have H2 := Lib.hid h2
                have hm : m = .error n := by
                  obtain ⟨m2, g1, g2⟩ := HC.out
                  simp only [classL, h93, h1, h45, h2, if_true, if_false, Bool.false_eq_true, Option.some.injEq] at g1
                  subst g1
                  exact g2
                subst hm
                clear h93 h1 h45 h2 HC
                go_wp2_with fail
                refine (is_no s q d 93 _ hs HBr.out H93.out).mono ?_
                rintro e w5 ⟨rfl, hb5, F5⟩
                have HB5 := Lib.hid hb5
                have HN15 := Lib.hid (F5.at_ HN1r.out HNE0.out)
                have HN25 := Lib.hid (F5.at_ HN2r.out HNE1.out)
                have HF5 := Lib.hid (HFr.out.tr F5)
                clear hb5 F5
                go_wp2_with fail
                refine (one_ok hs HB5.out H1.out).mono ?_
                rintro e w6 ⟨rfl, hb6, F6⟩
                have HB6 := Lib.hid hb6
                have HN16 := Lib.hid (F6.at_ HN15.out HNE0.out)
                have HN26 := Lib.hid (F6.at_ HN25.out HNE1.out)
                have HF6 := Lib.hid (HF5.out.tr F6)
                clear hb6 F6
                go_wp2_with fail
                refine (is_yes s q1 d 45 _ hs HB6.out H45.out).mono ?_
                rintro e w7 ⟨rfl, hb7, F7⟩
                have HB7 := Lib.hid hb7
                have HN17 := Lib.hid (F7.at_ HN16.out HNE0.out)
                have HN27 := Lib.hid (F7.at_ HN26.out HNE1.out)
                have HF7 := Lib.hid (HF6.out.tr F7)
                clear hb7 F7
                go_wp2_with fail
                refine (one_err hs HB7.out H2.out).mono ?_
                rintro e w8 ⟨rfl, F8⟩
                have HF8 := Lib.hid (HF7.out.tr F8)
                clear F8
                go_wp2_with fail
                exact ⟨rfl, rfl, HF8.out⟩
              | ok z =>
                obtain ⟨hi, q2⟩ := z
                have H2 := Lib.hid h2
                have hhi := (oneB_lt h2).1
                by_cases hlt : hi < lo
                · skip
                  have hm : m = .error 5 := by
                    obtain ⟨m2, g1, g2⟩ := HC.out
                    simp only [classL, h93, h1, h45, h2, hlt, if_true, if_false, Bool.false_eq_true, Option.some.injEq] at g1
                    subst g1
                    exact g2
                  subst hm
                  clear h93 h1 h45 h2 HC
                  go_wp2_with fail
                  refine (is_no s q d 93 _ hs HBr.out H93.out).mono ?_
                  rintro e w9 ⟨rfl, hb9, F9⟩
                  have HB9 := Lib.hid hb9
                  have HN19 := Lib.hid (F9.at_ HN1r.out HNE0.out)
                  have HN29 := Lib.hid (F9.at_ HN2r.out HNE1.out)
                  have HF9 := Lib.hid (HFr.out.tr F9)
                  clear hb9 F9
                  go_wp2_with fail
                  refine (one_ok hs HB9.out H1.out).mono ?_
                  rintro e w10 ⟨rfl, hb10, F10⟩
                  have HB10 := Lib.hid hb10
                  have HN110 := Lib.hid (F10.at_ HN19.out HNE0.out)
                  have HN210 := Lib.hid (F10.at_ HN29.out HNE1.out)
                  have HF10 := Lib.hid (HF9.out.tr F10)
                  clear hb10 F10
                  go_wp2_with fail
                  refine (is_yes s q1 d 45 _ hs HB10.out H45.out).mono ?_
                  rintro e w11 ⟨rfl, hb11, F11⟩
                  have HB11 := Lib.hid hb11
                  have HN111 := Lib.hid (F11.at_ HN110.out HNE0.out)
                  have HN211 := Lib.hid (F11.at_ HN210.out HNE1.out)
                  have HF11 := Lib.hid (HF10.out.tr F11)
                  clear hb11 F11
                  go_wp2_with fail
                  refine (one_ok hs HB11.out H2.out).mono ?_
                  rintro e w12 ⟨rfl, hb12, F12⟩
                  have HB12 := Lib.hid hb12
                  have HN112 := Lib.hid (F12.at_ HN111.out HNE0.out)
                  have HN212 := Lib.hid (F12.at_ HN211.out HNE1.out)
                  have HF12 := Lib.hid (HF11.out.tr F12)
                  clear hb12 F12
                  go_wp2_with fail
                  refine (fail_any _ _).mono ?_
                  rintro e wf ⟨rfl, rfl⟩
                  go_wp2_with fail
                  exact ⟨rfl, rfl, HF12.out⟩
                · have HC2 : Aside (∃ m2, classL s gk (x.addN lo (hi + 1 - lo)) q2 = some m2 ∧ m = (match m2 with | .error e => .error e | .ok (x, q) => .ok (x.others.rx, q))) := by
                    obtain ⟨m2, g1, g2⟩ := HC.out
                    simp only [classL, h93, h1, h45, h2, hlt, if_true, if_false, Bool.false_eq_true] at g1
                    exact ⟨m2, g1, g2⟩
                  clear h93 h1 h45 h2 HC
                  go_wp2_with fail
                  refine (is_no s q d 93 _ hs HBr.out H93.out).mono ?_
                  rintro e w13 ⟨rfl, hb13, F13⟩
                  have HB13 := Lib.hid hb13
                  have HN113 := Lib.hid (F13.at_ HN1r.out HNE0.out)
                  have HN213 := Lib.hid (F13.at_ HN2r.out HNE1.out)
                  have HF13 := Lib.hid (HFr.out.tr F13)
                  clear hb13 F13
                  go_wp2_with fail
                  refine (one_ok hs HB13.out H1.out).mono ?_
                  rintro e w14 ⟨rfl, hb14, F14⟩
                  have HB14 := Lib.hid hb14
                  have HN114 := Lib.hid (F14.at_ HN113.out HNE0.out)
                  have HN214 := Lib.hid (F14.at_ HN213.out HNE1.out)
                  have HF14 := Lib.hid (HF13.out.tr F14)
                  clear hb14 F14
                  go_wp2_with fail
                  refine (is_yes s q1 d 45 _ hs HB14.out H45.out).mono ?_
                  rintro e w15 ⟨rfl, hb15, F15⟩
                  have HB15 := Lib.hid hb15
                  have HN115 := Lib.hid (F15.at_ HN114.out HNE0.out)
                  have HN215 := Lib.hid (F15.at_ HN214.out HNE1.out)
                  have HF15 := Lib.hid (HF14.out.tr F15)
                  clear hb15 F15
                  go_wp2_with fail
                  refine (one_ok hs HB15.out H2.out).mono ?_
                  rintro e w16 ⟨rfl, hb16, F16⟩
                  have HB16 := Lib.hid hb16
                  have HN116 := Lib.hid (F16.at_ HN115.out HNE0.out)
                  have HN216 := Lib.hid (F16.at_ HN215.out HNE1.out)
                  have HF16 := Lib.hid (HF15.out.tr F16)
                  clear hb16 F16
                  go_wp2_with fail
                  go_loopw [7] (fun t wi => ∃ j, j ≤ hi + 1 - lo ∧ t = .int .i64 ((lo + j : Nat) : Int) ∧ Aside (wi.heap[d]? = some (rdObj s q2)) ∧ Aside (wi.heap[w.heap.size]? = some (bsObj 0 Bs.zero)) ∧ Aside (wi.heap[w.heap.size + 1]? = some (bsObj 1 (x.addN lo j))) ∧ Aside (Fr (at1 d) w wi)) (fun t _ => hi + 1 - (intOf t).toNat)
                  case atStart => exact ⟨0, Nat.zero_le _, rfl, HB16.out, HN116.out, HN216.out, HF16.out⟩
                  case round =>
                    obtain ⟨j, hj, rfl, gb, gn1, gn2, gf⟩ := hrel
                    by_cases hjl : j < hi + 1 - lo
                    · have b1 : ((lo + j : Nat) : Int) ≤ (hi : Int) := by omega
                      have b2 : (0 : Int) ≤ ((lo + j : Nat) : Int) := by omega
                      have b3 : ((lo + j : Nat) : Int) < 256 := by omega
                      go_wp2_with fail
                      refine (add_any (lo + j) _ 1 (x.addN lo j) (Bs.Ok.addN hxo.out lo j) _ (by omega) gn2.out).mono ?_
                      rintro e wa ⟨rfl, ga2, Fa⟩
                      have ga := Lib.hid (Fa.at_ gb.out HNEe.out)
                      have ga1 := Lib.hid (Fa.at_ gn1.out (by simp only [at1]; omega))
                      have gaf := Lib.hid (gf.out.trans Fa (fun i hi hh => by simp only [at1] at hh; omega))
                      have ga2 := Lib.hid ga2
                      clear Fa
                      go_wp2_with fail
                      go_roundw
                      case rel => exact ⟨j + 1, by omega, congrArg (Value.int .i64) (by omega), ga.out, ga1.out, by rw [Bs.addN_succ]; exact ga2.out, gaf.out⟩
                      case measure => simp [intOf]; omega
                    · have b1 : ¬ ((lo + j : Nat) : Int) ≤ (hi : Int) := by omega
                      obtain rfl : j = hi + 1 - lo := by omega
                      go_wp2_with fail
                      go_roundg gk
                      case measure => omega
                      case rel => exact ⟨_, q2, HC2, Bs.Ok.addN hxo.out _ _, gb, gn1, gn2, gf⟩
            | false =>
              have H45 := Lib.hid h45
              have HC2 : Aside (∃ m2, classL s gk (x.addN lo (lo + 1 - lo)) q1 = some m2 ∧ m = (match m2 with | .error e => .error e | .ok (x, q) => .ok (x.others.rx, q))) := by
                obtain ⟨m2, g1, g2⟩ := HC.out
                simp only [classL, h93, h1, h45, Nat.lt_irrefl, if_true, if_false, Bool.false_eq_true] at g1
                exact ⟨m2, g1, g2⟩
              clear h93 h1 h45 HC
              go_wp2_with fail
              refine (is_no s q d 93 _ hs HBr.out H93.out).mono ?_
              rintro e w17 ⟨rfl, hb17, F17⟩
              have HB17 := Lib.hid hb17
              have HN117 := Lib.hid (F17.at_ HN1r.out HNE0.out)
              have HN217 := Lib.hid (F17.at_ HN2r.out HNE1.out)
              have HF17 := Lib.hid (HFr.out.tr F17)
              clear hb17 F17
              go_wp2_with fail
              refine (one_ok hs HB17.out H1.out).mono ?_
              rintro e w18 ⟨rfl, hb18, F18⟩
              have HB18 := Lib.hid hb18
              have HN118 := Lib.hid (F18.at_ HN117.out HNE0.out)
              have HN218 := Lib.hid (F18.at_ HN217.out HNE1.out)
              have HF18 := Lib.hid (HF17.out.tr F18)
              clear hb18 F18
              go_wp2_with fail
              refine (is_no s q1 d 45 _ hs HB18.out H45.out).mono ?_
              rintro e w19 ⟨rfl, hb19, F19⟩
              have HB19 := Lib.hid hb19
              have HN119 := Lib.hid (F19.at_ HN118.out HNE0.out)
              have HN219 := Lib.hid (F19.at_ HN218.out HNE1.out)
              have HF19 := Lib.hid (HF18.out.tr F19)
              clear hb19 F19
              go_wp2_with fail
              go_loopw [7] (fun t wi => ∃ j, j ≤ lo + 1 - lo ∧ t = .int .i64 ((lo + j : Nat) : Int) ∧ Aside (wi.heap[d]? = some (rdObj s q1)) ∧ Aside (wi.heap[w.heap.size]? = some (bsObj 0 Bs.zero)) ∧ Aside (wi.heap[w.heap.size + 1]? = some (bsObj 1 (x.addN lo j))) ∧ Aside (Fr (at1 d) w wi)) (fun t _ => lo + 1 - (intOf t).toNat)
              case atStart => exact ⟨0, Nat.zero_le _, rfl, HB19.out, HN119.out, HN219.out, HF19.out⟩
              case round =>
                obtain ⟨j, hj, rfl, gb, gn1, gn2, gf⟩ := hrel
                by_cases hjl : j < lo + 1 - lo
                · have b1 : ((lo + j : Nat) : Int) ≤ (lo : Int) := by omega
                  have b2 : (0 : Int) ≤ ((lo + j : Nat) : Int) := by omega
                  have b3 : ((lo + j : Nat) : Int) < 256 := by omega
                  go_wp2_with fail
                  refine (add_any (lo + j) _ 1 (x.addN lo j) (Bs.Ok.addN hxo.out lo j) _ (by omega) gn2.out).mono ?_
                  rintro e wa ⟨rfl, ga2, Fa⟩
                  have ga := Lib.hid (Fa.at_ gb.out HNEe.out)
                  have ga1 := Lib.hid (Fa.at_ gn1.out (by simp only [at1]; omega))
                  have gaf := Lib.hid (gf.out.trans Fa (fun i hi hh => by simp only [at1] at hh; omega))
                  have ga2 := Lib.hid ga2
                  clear Fa
                  go_wp2_with fail
                  go_roundw
                  case rel => exact ⟨j + 1, by omega, congrArg (Value.int .i64) (by omega), ga.out, ga1.out, by rw [Bs.addN_succ]; exact ga2.out, gaf.out⟩
                  case measure => simp [intOf]; omega
                · have b1 : ¬ ((lo + j : Nat) : Int) ≤ (lo : Int) := by omega
                  obtain rfl : j = lo + 1 - lo := by omega
                  go_wp2_with fail
                  go_roundg gk
                  case measure => omega
                  case rel => exact ⟨_, q1, HC2, Bs.Ok.addN hxo.out _ _, gb, gn1, gn2, gf⟩
  | false =>
    have HI := Lib.hid hnot
    have HM := HH.out
    rw [hnot] at HM
    clear hnot
    simp only [if_true, if_false, Bool.false_eq_true] at HM
    have HMM := Lib.hid HM
    clear HM HH
    go_enter Try.func49, Try.ntmps49
    go_wp2_with fail
    refine (is_no s p d 94 _ hs HB0.out HI.out).mono ?_
    rintro e w20 ⟨rfl, hb20, F20⟩
    have HB20 := Lib.hid hb20
    have HN120 := Lib.hid (F20.at_ HN1.out HNE0.out)
    have HN220 := Lib.hid (F20.at_ HN2.out HNE1.out)
    have HF20 := Lib.hid (HF0.out.tr F20)
    clear hb20 F20
    go_wp2_with fail
    go_loopg [5] k (fun kk _ wr => ∃ x q, Aside (∃ m2, classL s kk x q = some m2 ∧ m = (match m2 with | .error e => .error e | .ok (x, q) => .ok (x.rx, q))) ∧ Aside x.Ok ∧ Aside (wr.heap[d]? = some (rdObj s q)) ∧ Aside (wr.heap[w.heap.size]? = some (bsObj 0 Bs.zero)) ∧ Aside (wr.heap[w.heap.size + 1]? = some (bsObj 1 x)) ∧ Aside (Fr (at1 d) w wr))
    case atStart =>
      refine ⟨Bs.zero, _, ?_, Bs.Ok.zero, HB20.out, HN120.out, HN220.out, HF20.out⟩
      have HM := HMM.out
      split at HM
      · simp at HM
      · rename_i e he
        simp at HM
        exact ⟨_, he, HM.symm⟩
      · rename_i x q he
        simp at HM
        exact ⟨_, he, HM.symm⟩
    case round =>
      obtain ⟨x, q, HC, hxo, hbr, hn1, hn2, hfr⟩ := hrel
      have HBr := Lib.hid hbr.out
      have HN1r := Lib.hid hn1.out
      have HN2r := Lib.hid hn2.out
      have HFr := Lib.hid hfr.out
      clear hbr hn1 hn2 hfr
      cases gk with
      | zero =>
        obtain ⟨m2, g1, _⟩ := HC.out
        simp [classL] at g1
      | succ gk =>
        cases h93 : isB s q 93 with
        | true =>
          have H93 := Lib.hid h93
          have hm : m = .ok (x.rx, q + 1) := by
            obtain ⟨m2, g1, g2⟩ := HC.out
            simp only [classL, h93, if_true, if_false, Bool.false_eq_true, Option.some.injEq] at g1
            subst g1
            exact g2
          subst hm
          clear h93 HC
          go_wp2_with fail
          refine (is_yes s q d 93 _ hs HBr.out H93.out).mono ?_
          rintro e w21 ⟨rfl, hb21, F21⟩
          have HB21 := Lib.hid hb21
          have HN121 := Lib.hid (F21.at_ HN1r.out HNE0.out)
          have HN221 := Lib.hid (F21.at_ HN2r.out HNE1.out)
          have HF21 := Lib.hid (HFr.out.tr F21)
          clear hb21 F21
          obtain ⟨c0, c1, c2, c3, c4, c5⟩ := six HN221.out
          obtain ⟨d0, d1, d2, d3, d4, d5⟩ := six HN121.out
          have g1 : ∀ o, w21.frozen? ⟨w.heap.size, o, none⟩ = false := fun o => free_of_block HN121.out
          go_wp2_with fail
          refine bodyPost_ret (results_six rfl rfl (set_six HN121.out _ _ _ _ _ _)) rfl ?_
          refine ⟨_, rfl, RxV.bs _ _ x, ?_, fr_six HF21.out (.inr (Nat.le_refl _)) _ _ _ _ _ _⟩
          exact (fr_six (S := at1 w.heap.size) (r := w.heap.size) (Fr.refl _ w21) (.inl rfl) _ _ _ _ _ _).at_ HB21.out HNEd.out
        | false =>
          have H93 := Lib.hid h93
          cases h1 : oneB s q with
          | error n =>
            have H1 := Lib.hid h1
            have hm : m = .error n := by
              obtain ⟨m2, g1, g2⟩ := HC.out
              simp only [classL, h93, h1, if_true, if_false, Bool.false_eq_true, Option.some.injEq] at g1
              subst g1
              exact g2
            subst hm
            clear h93 h1 HC
            go_wp2_with fail
            refine (is_no s q d 93 _ hs HBr.out H93.out).mono ?_
            rintro e w22 ⟨rfl, hb22, F22⟩
            have HB22 := Lib.hid hb22
            have HN122 := Lib.hid (F22.at_ HN1r.out HNE0.out)
            have HN222 := Lib.hid (F22.at_ HN2r.out HNE1.out)
            have HF22 := Lib.hid (HFr.out.tr F22)
            clear hb22 F22
            go_wp2_with fail
            refine (one_err hs HB22.out H1.out).mono ?_
            rintro e w23 ⟨rfl, F23⟩
            have HF23 := Lib.hid (HF22.out.tr F23)
            clear F23
            go_wp2_with fail
            exact ⟨rfl, rfl, HF23.out⟩
          | ok y =>
            obtain ⟨lo, q1⟩ := y
            have H1 := Lib.hid h1
            have hlo := (oneB_lt h1).1
            cases h45 : isB s q1 45 with
            | true =>
              have H45 := Lib.hid h45
              cases h2 : oneB s (q1 + 1) with
              | error n =>
                have H2 := Lib.hid h2
                have hm : m = .error n := by
                  obtain ⟨m2, g1, g2⟩ := HC.out
                  simp only [classL, h93, h1, h45, h2, if_true, if_false, Bool.false_eq_true, Option.some.injEq] at g1
                  subst g1
                  exact g2
                subst hm
                clear h93 h1 h45 h2 HC
                go_wp2_with fail
                refine (is_no s q d 93 _ hs HBr.out H93.out).mono ?_
                rintro e w24 ⟨rfl, hb24, F24⟩
                have HB24 := Lib.hid hb24
                have HN124 := Lib.hid (F24.at_ HN1r.out HNE0.out)
                have HN224 := Lib.hid (F24.at_ HN2r.out HNE1.out)
                have HF24 := Lib.hid (HFr.out.tr F24)
                clear hb24 F24
                go_wp2_with fail
                refine (one_ok hs HB24.out H1.out).mono ?_
                rintro e w25 ⟨rfl, hb25, F25⟩
                have HB25 := Lib.hid hb25
                have HN125 := Lib.hid (F25.at_ HN124.out HNE0.out)
                have HN225 := Lib.hid (F25.at_ HN224.out HNE1.out)
                have HF25 := Lib.hid (HF24.out.tr F25)
                clear hb25 F25
                go_wp2_with fail
                refine (is_yes s q1 d 45 _ hs HB25.out H45.out).mono ?_
                rintro e w26 ⟨rfl, hb26, F26⟩
                have HB26 := Lib.hid hb26
                have HN126 := Lib.hid (F26.at_ HN125.out HNE0.out)
                have HN226 := Lib.hid (F26.at_ HN225.out HNE1.out)
                have HF26 := Lib.hid (HF25.out.tr F26)
                clear hb26 F26
                go_wp2_with fail
                refine (one_err hs HB26.out H2.out).mono ?_
                rintro e w27 ⟨rfl, F27⟩
                have HF27 := Lib.hid (HF26.out.tr F27)
                clear F27
                go_wp2_with fail
                exact ⟨rfl, rfl, HF27.out⟩
              | ok z =>
                obtain ⟨hi, q2⟩ := z
                have H2 := Lib.hid h2
                have hhi := (oneB_lt h2).1
                by_cases hlt : hi < lo
                · skip
                  have hm : m = .error 5 := by
                    obtain ⟨m2, g1, g2⟩ := HC.out
                    simp only [classL, h93, h1, h45, h2, hlt, if_true, if_false, Bool.false_eq_true, Option.some.injEq] at g1
                    subst g1
                    exact g2
                  subst hm
                  clear h93 h1 h45 h2 HC
                  go_wp2_with fail
                  refine (is_no s q d 93 _ hs HBr.out H93.out).mono ?_
                  rintro e w28 ⟨rfl, hb28, F28⟩
                  have HB28 := Lib.hid hb28
                  have HN128 := Lib.hid (F28.at_ HN1r.out HNE0.out)
                  have HN228 := Lib.hid (F28.at_ HN2r.out HNE1.out)
                  have HF28 := Lib.hid (HFr.out.tr F28)
                  clear hb28 F28
                  go_wp2_with fail
                  refine (one_ok hs HB28.out H1.out).mono ?_
                  rintro e w29 ⟨rfl, hb29, F29⟩
                  have HB29 := Lib.hid hb29
                  have HN129 := Lib.hid (F29.at_ HN128.out HNE0.out)
                  have HN229 := Lib.hid (F29.at_ HN228.out HNE1.out)
                  have HF29 := Lib.hid (HF28.out.tr F29)
                  clear hb29 F29
                  go_wp2_with fail
                  refine (is_yes s q1 d 45 _ hs HB29.out H45.out).mono ?_
                  rintro e w30 ⟨rfl, hb30, F30⟩
                  have HB30 := Lib.hid hb30
                  have HN130 := Lib.hid (F30.at_ HN129.out HNE0.out)
                  have HN230 := Lib.hid (F30.at_ HN229.out HNE1.out)
                  have HF30 := Lib.hid (HF29.out.tr F30)
                  clear hb30 F30
                  go_wp2_with fail
                  refine (one_ok hs HB30.out H2.out).mono ?_
                  rintro e w31 ⟨rfl, hb31, F31⟩
                  have HB31 := Lib.hid hb31
                  have HN131 := Lib.hid (F31.at_ HN130.out HNE0.out)
                  have HN231 := Lib.hid (F31.at_ HN230.out HNE1.out)
                  have HF31 := Lib.hid (HF30.out.tr F31)
                  clear hb31 F31
                  go_wp2_with fail
                  refine (fail_any _ _).mono ?_
                  rintro e wf ⟨rfl, rfl⟩
                  go_wp2_with fail
                  exact ⟨rfl, rfl, HF31.out⟩
                · have HC2 : Aside (∃ m2, classL s gk (x.addN lo (hi + 1 - lo)) q2 = some m2 ∧ m = (match m2 with | .error e => .error e | .ok (x, q) => .ok (x.rx, q))) := by
                    obtain ⟨m2, g1, g2⟩ := HC.out
                    simp only [classL, h93, h1, h45, h2, hlt, if_true, if_false, Bool.false_eq_true] at g1
                    exact ⟨m2, g1, g2⟩
                  clear h93 h1 h45 h2 HC
                  go_wp2_with fail
                  refine (is_no s q d 93 _ hs HBr.out H93.out).mono ?_
                  rintro e w32 ⟨rfl, hb32, F32⟩
                  have HB32 := Lib.hid hb32
                  have HN132 := Lib.hid (F32.at_ HN1r.out HNE0.out)
                  have HN232 := Lib.hid (F32.at_ HN2r.out HNE1.out)
                  have HF32 := Lib.hid (HFr.out.tr F32)
                  clear hb32 F32
                  go_wp2_with fail
                  refine (one_ok hs HB32.out H1.out).mono ?_
                  rintro e w33 ⟨rfl, hb33, F33⟩
                  have HB33 := Lib.hid hb33
                  have HN133 := Lib.hid (F33.at_ HN132.out HNE0.out)
                  have HN233 := Lib.hid (F33.at_ HN232.out HNE1.out)
                  have HF33 := Lib.hid (HF32.out.tr F33)
                  clear hb33 F33
                  go_wp2_with fail
                  refine (is_yes s q1 d 45 _ hs HB33.out H45.out).mono ?_
                  rintro e w34 ⟨rfl, hb34, F34⟩
                  have HB34 := Lib.hid hb34
                  have HN134 := Lib.hid (F34.at_ HN133.out HNE0.out)
                  have HN234 := Lib.hid (F34.at_ HN233.out HNE1.out)
                  have HF34 := Lib.hid (HF33.out.tr F34)
                  clear hb34 F34
                  go_wp2_with fail
                  refine (one_ok hs HB34.out H2.out).mono ?_
                  rintro e w35 ⟨rfl, hb35, F35⟩
                  have HB35 := Lib.hid hb35
                  have HN135 := Lib.hid (F35.at_ HN134.out HNE0.out)
                  have HN235 := Lib.hid (F35.at_ HN234.out HNE1.out)
                  have HF35 := Lib.hid (HF34.out.tr F35)
                  clear hb35 F35
                  go_wp2_with fail
                  go_loopw [7] (fun t wi => ∃ j, j ≤ hi + 1 - lo ∧ t = .int .i64 ((lo + j : Nat) : Int) ∧ Aside (wi.heap[d]? = some (rdObj s q2)) ∧ Aside (wi.heap[w.heap.size]? = some (bsObj 0 Bs.zero)) ∧ Aside (wi.heap[w.heap.size + 1]? = some (bsObj 1 (x.addN lo j))) ∧ Aside (Fr (at1 d) w wi)) (fun t _ => hi + 1 - (intOf t).toNat)
                  case atStart => exact ⟨0, Nat.zero_le _, rfl, HB35.out, HN135.out, HN235.out, HF35.out⟩
                  case round =>
                    obtain ⟨j, hj, rfl, gb, gn1, gn2, gf⟩ := hrel
                    by_cases hjl : j < hi + 1 - lo
                    · have b1 : ((lo + j : Nat) : Int) ≤ (hi : Int) := by omega
                      have b2 : (0 : Int) ≤ ((lo + j : Nat) : Int) := by omega
                      have b3 : ((lo + j : Nat) : Int) < 256 := by omega
                      go_wp2_with fail
                      refine (add_any (lo + j) _ 1 (x.addN lo j) (Bs.Ok.addN hxo.out lo j) _ (by omega) gn2.out).mono ?_
                      rintro e wa ⟨rfl, ga2, Fa⟩
                      have ga := Lib.hid (Fa.at_ gb.out HNEe.out)
                      have ga1 := Lib.hid (Fa.at_ gn1.out (by simp only [at1]; omega))
                      have gaf := Lib.hid (gf.out.trans Fa (fun i hi hh => by simp only [at1] at hh; omega))
                      have ga2 := Lib.hid ga2
                      clear Fa
                      go_wp2_with fail
                      go_roundw
                      case rel => exact ⟨j + 1, by omega, congrArg (Value.int .i64) (by omega), ga.out, ga1.out, by rw [Bs.addN_succ]; exact ga2.out, gaf.out⟩
                      case measure => simp [intOf]; omega
                    · have b1 : ¬ ((lo + j : Nat) : Int) ≤ (hi : Int) := by omega
                      obtain rfl : j = hi + 1 - lo := by omega
                      go_wp2_with fail
                      go_roundg gk
                      case measure => omega
                      case rel => exact ⟨_, q2, HC2, Bs.Ok.addN hxo.out _ _, gb, gn1, gn2, gf⟩
            | false =>
              have H45 := Lib.hid h45
              have HC2 : Aside (∃ m2, classL s gk (x.addN lo (lo + 1 - lo)) q1 = some m2 ∧ m = (match m2 with | .error e => .error e | .ok (x, q) => .ok (x.rx, q))) := by
                obtain ⟨m2, g1, g2⟩ := HC.out
                simp only [classL, h93, h1, h45, Nat.lt_irrefl, if_true, if_false, Bool.false_eq_true] at g1
                exact ⟨m2, g1, g2⟩
              clear h93 h1 h45 HC
              go_wp2_with fail
              refine (is_no s q d 93 _ hs HBr.out H93.out).mono ?_
              rintro e w36 ⟨rfl, hb36, F36⟩
              have HB36 := Lib.hid hb36
              have HN136 := Lib.hid (F36.at_ HN1r.out HNE0.out)
              have HN236 := Lib.hid (F36.at_ HN2r.out HNE1.out)
              have HF36 := Lib.hid (HFr.out.tr F36)
              clear hb36 F36
              go_wp2_with fail
              refine (one_ok hs HB36.out H1.out).mono ?_
              rintro e w37 ⟨rfl, hb37, F37⟩
              have HB37 := Lib.hid hb37
              have HN137 := Lib.hid (F37.at_ HN136.out HNE0.out)
              have HN237 := Lib.hid (F37.at_ HN236.out HNE1.out)
              have HF37 := Lib.hid (HF36.out.tr F37)
              clear hb37 F37
              go_wp2_with fail
              refine (is_no s q1 d 45 _ hs HB37.out H45.out).mono ?_
              rintro e w38 ⟨rfl, hb38, F38⟩
              have HB38 := Lib.hid hb38
              have HN138 := Lib.hid (F38.at_ HN137.out HNE0.out)
              have HN238 := Lib.hid (F38.at_ HN237.out HNE1.out)
              have HF38 := Lib.hid (HF37.out.tr F38)
              clear hb38 F38
              go_wp2_with fail
              go_loopw [7] (fun t wi => ∃ j, j ≤ lo + 1 - lo ∧ t = .int .i64 ((lo + j : Nat) : Int) ∧ Aside (wi.heap[d]? = some (rdObj s q1)) ∧ Aside (wi.heap[w.heap.size]? = some (bsObj 0 Bs.zero)) ∧ Aside (wi.heap[w.heap.size + 1]? = some (bsObj 1 (x.addN lo j))) ∧ Aside (Fr (at1 d) w wi)) (fun t _ => lo + 1 - (intOf t).toNat)
              case atStart => exact ⟨0, Nat.zero_le _, rfl, HB38.out, HN138.out, HN238.out, HF38.out⟩
              case round =>
                obtain ⟨j, hj, rfl, gb, gn1, gn2, gf⟩ := hrel
                by_cases hjl : j < lo + 1 - lo
                · have b1 : ((lo + j : Nat) : Int) ≤ (lo : Int) := by omega
                  have b2 : (0 : Int) ≤ ((lo + j : Nat) : Int) := by omega
                  have b3 : ((lo + j : Nat) : Int) < 256 := by omega
                  go_wp2_with fail
                  refine (add_any (lo + j) _ 1 (x.addN lo j) (Bs.Ok.addN hxo.out lo j) _ (by omega) gn2.out).mono ?_
                  rintro e wa ⟨rfl, ga2, Fa⟩
                  have ga := Lib.hid (Fa.at_ gb.out HNEe.out)
                  have ga1 := Lib.hid (Fa.at_ gn1.out (by simp only [at1]; omega))
                  have gaf := Lib.hid (gf.out.trans Fa (fun i hi hh => by simp only [at1] at hh; omega))
                  have ga2 := Lib.hid ga2
                  clear Fa
                  go_wp2_with fail
                  go_roundw
                  case rel => exact ⟨j + 1, by omega, congrArg (Value.int .i64) (by omega), ga.out, ga1.out, by rw [Bs.addN_succ]; exact ga2.out, gaf.out⟩
                  case measure => simp [intOf]; omega
                · have b1 : ¬ ((lo + j : Nat) : Int) ≤ (lo : Int) := by omega
                  obtain rfl : j = lo + 1 - lo := by omega
                  go_wp2_with fail
                  go_roundg gk
                  case measure => omega
                  case rel => exact ⟨_, q1, HC2, Bs.Ok.addN hxo.out _ _, gb, gn1, gn2, gf⟩
end Go.Proofs.Ytjbmppbciiemkaa
