/-
  The reference of layer 3: ways, with bars between.
-/
import Derived.Test.YtjbmppbciiemkaaYl
import Derived.Test.YtjbmppbciiemkaaPj
namespace Go.Proofs.Ytjbmppbciiemkaa set_option linter.unusedVariables false set_option linter.unusedSimpArgs false
open Go.RowKit

/-- What ways come to where they end. -/
def EndS (s : ByteArray) (k : Nat) (l : List Rx) (q : Nat) (m : Got Rx) (bd mn : Bool) : Prop := (bd = false ∧ mn = false ∧ m = .ok (ofR 3 l, q)) ∨ (bd = true ∧ q ≤ s.size + (k + 1) ∧ ∃ n, m = .error n ∧ mn = (n == 4))
theorem EndS.fin {s : ByteArray} {k d : Nat} {l : List Rx} {q : Nat} {m : Got Rx} {bd mn : Bool} {w w' : World} {v : Value} (h : EndS s k l q m bd mn) (hv : RxV (fun i => w.heap.size ≤ i) w' v (ofR 3 l)) (hb : w'.heap[d]? = some (rrObj s q bd mn)) (hf : Fr (at1 d) w w') :
    RGotR (k + 1) d s w m (.returned v) w' := by
  rcases h with ⟨rfl, rfl, rfl⟩ | ⟨rfl, hq, n, rfl, rfl⟩
  · exact ⟨_, rfl, hv, hb, hf⟩
  · exact ⟨_, _, q, rfl, hv, hq, hb, hf⟩
def StS (s : ByteArray) (k kk : Nat) (l : List Rx) (q : Nat) (m : Got Rx) (bd mn : Bool) : Prop := l ≠ [] ∧ ((bd = false ∧ mn = false ∧ kk ≤ k ∧ l.length ≤ q + 1 ∧ q ≤ s.size ∧ waysL s kk l q = some m) ∨ (bd = true ∧ l.length ≤ s.size + 2 ∧ q ≤ s.size + (k + 1) ∧ ∃ n, m = .error n ∧ mn = (n == 4)))
theorem EndS.of {s : ByteArray} {k kk : Nat} {l : List Rx} {q : Nat} {m : Got Rx} {mn : Bool} (h : StS s k kk l q m true mn) : EndS s k l q m true mn := by
  rcases h.2 with h | h
  · simp at h
  · exact .inr ⟨rfl, h.2.2.1, h.2.2.2⟩
/-- What a way comes to, whether it goes well or not. -/
theorem RGotR.all {K d : Nat} {s : ByteArray} {w : World} {m : Got Rx} {e : Ending} {w' : World} (hq : ∀ r q, m = .ok (r, q) → q ≤ s.size) (h : RGotR K d s w m e w') : ∃ (v : Value) (r : Rx) (q : Nat) (bd mn : Bool), e = .returned v ∧ RxV (fun i => w.heap.size ≤ i) w' v r ∧ w'.heap[d]? = some (rrObj s q bd mn) ∧ Fr (at1 d) w w' ∧ ((bd = false ∧ mn = false ∧ q ≤ s.size ∧ m = .ok (r, q)) ∨ (bd = true ∧ q ≤ s.size + K ∧ ∃ n, m = .error n ∧ mn = (n == 4))) := by
  cases m with
  | ok x =>
    obtain ⟨v, h1, h2, h3, h4⟩ := h
    exact ⟨v, x.1, x.2, _, _, h1, h2, h3, h4, .inl ⟨rfl, rfl, hq x.1 x.2 rfl, rfl⟩⟩
  | error n =>
    obtain ⟨v, r, q1, h1, h2, h3, h4, h5⟩ := h
    exact ⟨v, r, q1, _, _, h1, h2, h4, h5, .inr ⟨rfl, h3, n, rfl, rfl⟩⟩

set_option maxRecDepth 100000 in
set_option maxHeartbeats 8000000 in
theorem refways_step (s : ByteArray) (hs : s.size ≤ 1000) (k : Nat) (hk : k ≤ 10000) (hway : ∀ j, j < k → RWayC s j) : RWaysC s k := by
  intro p d w m hp hb hm
  cases k with
  | zero => simp [waysB] at hm
  | succ k =>
    obtain ⟨i0, hi, hz0, hz1, hz2⟩ := info_parts rx_info
    have hd := lt_of_block hb
    have HZ0 := Lib.hid (alloc_new w (.cells #[.int .i64 0, .int .u64 0, .int .u64 0, .int .u64 0, .int .u64 0, .slice none 0 0] 28))
    have HB0 := Lib.hid (((Fr.refl none_ w).alloc (.cells #[.int .i64 0, .int .u64 0, .int .u64 0, .int .u64 0, .int .u64 0, .slice none 0 0] 28)).at_ hb (fun h => h))
    have HF0 := Lib.hid ((Fr.refl (at1 d) w).alloc (.cells #[.int .i64 0, .int .u64 0, .int .u64 0, .int .u64 0, .int .u64 0, .slice none 0 0] 28))
    have HA := Lib.hid hway
    rw [waysB] at hm
    cases hw1 : wayB s k [] p with
    | none => rw [hw1] at hm; simp at hm
    | some mw =>
      rw [hw1] at hm
      have HM := Lib.hid hm
      have HW1 := Lib.hid hw1
      clear hb hway hm hw1
      go_enter Try.func18, Try.ntmps18
      go_wp2_with fail
      refine (HA.out k (by omega) p d _ mw hp HB0.out HW1.out).mono ?_
      intro e wa hg
      obtain ⟨v, ⟨c, x0, x1, x2, x3, xids⟩, q, bd, mn, rfl, hv, hb2, F2, hst⟩ := hg.all (fun r q h => by
        subst h
        exact ((all_at hs k).2.2.1 [] p q r hp (by simp) (fun x hx => by simp at hx) HW1.out).2.1)
      obtain ⟨va, vcap, rfl, hvc, hvl⟩ := (hv.bound).open_
      have hza := F2.at_ HZ0.out (by simp only [at1]; omega)
      have hlt := lt_of_block hza
      have FA := (Fr.refl none_ wa).alloc (.cells #[.int .i64 c, .int .u64 (x0 : Int), .int .u64 (x1 : Int), .int .u64 (x2 : Int), .int .u64 (x3 : Int), .slice va xids.length vcap] 28)
      have HWO := Lib.hid (show WO s d w [.mk c x0 x1 x2 x3 xids] (.slice (some ⟨wa.heap.size, 0, none⟩) 1 1) q bd mn (wa.alloc (.cells #[.int .i64 c, .int .u64 (x0 : Int), .int .u64 (x1 : Int), .int .u64 (x2 : Int), .int .u64 (x3 : Int), .slice va xids.length vcap] 28)) from
        ⟨FA.at_ hb2 (fun h => h), FA.at_ hza (fun h => h), RxOwn.lit (alloc_new wa _) hlt hvc (RxL.mono (fun i hi => by have := hi.1; simp at this; exact ⟨by omega, by omega⟩) xids va 0 (RxL.move (fun i _ hlt => FA.block i hlt (fun h => h)) xids va 0 hvl)), (HF0.out.tr F2).tr FA.none, hd⟩)
      have HST := Lib.hid (show StS s (k + 1) k [.mk c x0 x1 x2 x3 xids] q m bd mn from by
        have hm := HM.out
        refine ⟨by simp, ?_⟩
        rcases hst with ⟨rfl, rfl, g1, rfl⟩ | ⟨rfl, g1, n, rfl, rfl⟩
        · exact .inl ⟨rfl, rfl, by omega, by simp, g1, by simpa using hm⟩
        · exact .inr ⟨rfl, by simp, by omega, n, by simpa using hm.symm, rfl⟩)
      clear hg hv hvl hb2 F2 hst hza FA HM
      go_wp2_with fail
      go_loopg [3] k (fun kk v wr => ∃ l q bd mn, Aside (WO s d w l v q bd mn wr) ∧ Aside (StS s (k + 1) kk l q m bd mn))
      case atStart => exact ⟨_, q, bd, mn, HWO.out, HST.out⟩
      case round =>
        clear HWO HST
        obtain ⟨l, q, bd, mn, hwo, hst⟩ := hrel
        have HO := Lib.hid hwo.out
        have HST := Lib.hid hst.out
        clear hwo hst
        obtain ⟨la, lcap, hlv, _, _⟩ := HO.out.lo.rows
        subst hlv
        have hnil := HST.out.1
        have yb : wr.cell? ⟨d, 2, none⟩ = some (.bool bd) := cell_of_block HO.out.b rfl
        cases bd with
        | true =>
          have HME := Lib.hid (EndS.of HST.out)
          generalize wr = wx at *
          obtain ⟨r0, r1, r2, r3, r4, r5⟩ := six HO.out.z
          have zf : ∀ o, wx.frozen? ⟨w.heap.size, o, none⟩ = false := fun o => free_of_block HO.out.z
          have hne : ¬ at1 w.heap.size d := by have := HO.out.o; simp only [at1]; omega
          obtain ⟨la', lcap', hlv, hlc, hll⟩ := HO.out.lo.rows
          simp only [Value.slice.injEq, true_and] at hlv
          obtain ⟨rfl, rfl⟩ := hlv
          have HLL := Lib.hid hll
          clear hll
          rcases l with _ | ⟨⟨c, x0, x1, x2, x3, ks⟩, _ | ⟨⟨c2, y0, y1, y2, y3, ks2⟩, l⟩⟩
          · exact absurd rfl hnil
          · obtain ⟨ad, a', cap', rfl, hok, c0, c1, c2, c3, c4, c5, hc', hl'⟩ := HLL.out.elem (i := 0) rfl
            have ha0 : ad.add (0 * 6) = ad := by simp [Addr.add]
            rw [ha0] at c0 c1 c2 c3 c4 c5
            clear ha0
            have HL' := Lib.hid hl'
            clear hl'
            have e1 : (((([Rx.mk c x0 x1 x2 x3 ks] : List Rx).length : Nat) : Int) == 1) = true := rfl
            go_wp2_with fail
            refine bodyPost_ret (results_six rfl rfl (set_six HO.out.z _ _ _ _ _ _)) rfl ?_
            have fx := fr_six (S := at1 w.heap.size) (r := w.heap.size) (Fr.refl _ wx) (.inl rfl) (.int .i64 c) (.int .u64 (x0 : Int)) (.int .u64 (x1 : Int)) (.int .u64 (x2 : Int)) (.int .u64 (x3 : Int)) (.slice a' ks.length cap')
            refine HME.out.fin ?_ (fx.at_ HO.out.b hne) (fr_six HO.out.f (.inr (Nat.le_refl _)) _ _ _ _ _ _)
            exact ((RxV.mk_ hc' HL'.out).move fx (fun i hi _ => by simp only [at1]; omega)).mono (fun i hi => by omega)
          · have e1 : ((((Rx.mk c x0 x1 x2 x3 ks :: Rx.mk c2 y0 y1 y2 y3 ks2 :: l : List Rx).length : Nat) : Int) == 1) = false := by rw [beq_eq_false_iff_ne]; simp; omega
            have HLN := Lib.hid (show (ofR 3 (Rx.mk c x0 x1 x2 x3 ks :: Rx.mk c2 y0 y1 y2 y3 ks2 :: l)) = .mk 3 0 0 0 0 (Rx.mk c x0 x1 x2 x3 ks :: Rx.mk c2 y0 y1 y2 y3 ks2 :: l) from rfl)
            clear hnil
            generalize (Rx.mk c x0 x1 x2 x3 ks :: Rx.mk c2 y0 y1 y2 y3 ks2 :: l) = L at *
            go_wp2_with fail
            refine bodyPost_ret (results_six rfl rfl (set_six HO.out.z _ _ _ _ _ _)) rfl ?_
            have fx := fr_six (S := at1 w.heap.size) (r := w.heap.size) (Fr.refl _ wx) (.inl rfl) (.int .i64 3) (.int .u64 ((0 : Nat) : Int)) (.int .u64 ((0 : Nat) : Int)) (.int .u64 ((0 : Nat) : Int)) (.int .u64 ((0 : Nat) : Int)) (.slice la L.length lcap)
            refine HME.out.fin ?_ (fx.at_ HO.out.b hne) (fr_six HO.out.f (.inr (Nat.le_refl _)) _ _ _ _ _ _)
            rw [HLN.out]
            exact ((RxV.mk_ (k := 3) (b0 := 0) (b1 := 0) (b2 := 0) (b3 := 0) hlc HLL.out).move fx (fun i hi _ => by simp only [at1]; omega)).mono (fun i hi => by omega)
        | false =>
          obtain ⟨rfl, hgk, hlq, hqs, hways⟩ : mn = false ∧ gk ≤ k + 1 ∧ l.length ≤ q + 1 ∧ q ≤ s.size ∧ waysL s gk l q = some m := by
            rcases HST.out.2 with h | h
            · exact h.2
            · simp at h
          clear HST
          cases gk with
          | zero => simp [waysL] at hways
          | succ go =>
            rw [waysL] at hways
            cases h124 : isB s q 124 with
            | false =>
              have E124 := Lib.hid h124
              rw [h124, if_neg (by decide)] at hways
              have HME := Lib.hid (show EndS s (k + 1) l q m false false from .inl ⟨rfl, rfl, by simpa using hways.symm⟩)
              clear h124 hways
              go_wp2_with fail
              refine (ris_any s q d 124 false false _ hs HO.out.b).mono ?_
              rintro e w2 ⟨rfl, Fi⟩
              have HO2 := Lib.hid (HO.out.move Fi)
              rw [E124.out]
              clear Fi yb
              generalize w2 = wx at *
              obtain ⟨r0, r1, r2, r3, r4, r5⟩ := six HO2.out.z
              have zf : ∀ o, wx.frozen? ⟨w.heap.size, o, none⟩ = false := fun o => free_of_block HO2.out.z
              have hne : ¬ at1 w.heap.size d := by have := HO2.out.o; simp only [at1]; omega
              obtain ⟨la', lcap', hlv, hlc, hll⟩ := HO2.out.lo.rows
              simp only [Value.slice.injEq, true_and] at hlv
              obtain ⟨rfl, rfl⟩ := hlv
              have HLL := Lib.hid hll
              clear hll
              rcases l with _ | ⟨⟨c, x0, x1, x2, x3, ks⟩, _ | ⟨⟨c2, y0, y1, y2, y3, ks2⟩, l⟩⟩
              · exact absurd rfl hnil
              · obtain ⟨ad, a', cap', rfl, hok, c0, c1, c2, c3, c4, c5, hc', hl'⟩ := HLL.out.elem (i := 0) rfl
                have ha0 : ad.add (0 * 6) = ad := by simp [Addr.add]
                rw [ha0] at c0 c1 c2 c3 c4 c5
                clear ha0
                have HL' := Lib.hid hl'
                clear hl'
                have e1 : (((([Rx.mk c x0 x1 x2 x3 ks] : List Rx).length : Nat) : Int) == 1) = true := rfl
                go_wp2_with fail
                refine bodyPost_ret (results_six rfl rfl (set_six HO2.out.z _ _ _ _ _ _)) rfl ?_
                have fx := fr_six (S := at1 w.heap.size) (r := w.heap.size) (Fr.refl _ wx) (.inl rfl) (.int .i64 c) (.int .u64 (x0 : Int)) (.int .u64 (x1 : Int)) (.int .u64 (x2 : Int)) (.int .u64 (x3 : Int)) (.slice a' ks.length cap')
                refine HME.out.fin ?_ (fx.at_ HO2.out.b hne) (fr_six HO2.out.f (.inr (Nat.le_refl _)) _ _ _ _ _ _)
                exact ((RxV.mk_ hc' HL'.out).move fx (fun i hi _ => by simp only [at1]; omega)).mono (fun i hi => by omega)
              · have e1 : ((((Rx.mk c x0 x1 x2 x3 ks :: Rx.mk c2 y0 y1 y2 y3 ks2 :: l : List Rx).length : Nat) : Int) == 1) = false := by rw [beq_eq_false_iff_ne]; simp; omega
                have HLN := Lib.hid (show (ofR 3 (Rx.mk c x0 x1 x2 x3 ks :: Rx.mk c2 y0 y1 y2 y3 ks2 :: l)) = .mk 3 0 0 0 0 (Rx.mk c x0 x1 x2 x3 ks :: Rx.mk c2 y0 y1 y2 y3 ks2 :: l) from rfl)
                clear hnil
                generalize (Rx.mk c x0 x1 x2 x3 ks :: Rx.mk c2 y0 y1 y2 y3 ks2 :: l) = L at *
                go_wp2_with fail
                refine bodyPost_ret (results_six rfl rfl (set_six HO2.out.z _ _ _ _ _ _)) rfl ?_
                have fx := fr_six (S := at1 w.heap.size) (r := w.heap.size) (Fr.refl _ wx) (.inl rfl) (.int .i64 3) (.int .u64 ((0 : Nat) : Int)) (.int .u64 ((0 : Nat) : Int)) (.int .u64 ((0 : Nat) : Int)) (.int .u64 ((0 : Nat) : Int)) (.slice la L.length lcap)
                refine HME.out.fin ?_ (fx.at_ HO2.out.b hne) (fr_six HO2.out.f (.inr (Nat.le_refl _)) _ _ _ _ _ _)
                rw [HLN.out]
                exact ((RxV.mk_ (k := 3) (b0 := 0) (b1 := 0) (b2 := 0) (b3 := 0) hlc HLL.out).move fx (fun i hi _ => by simp only [at1]; omega)).mono (fun i hi => by omega)
            | true =>
              have E124 := Lib.hid h124
              have hql := isB_at h124
              rw [h124, if_pos rfl] at hways
              clear h124
              obtain ⟨q3, hq3⟩ : ∃ x, q + 1 = x := ⟨_, rfl⟩
              have hc3 : (q : Int) + 1 = (q3 : Int) := by omega
              rw [hq3] at hways
              cases hw2 : wayB s go [] q3 with
              | none => rw [hw2] at hways; simp at hways
              | some mw2 =>
                rw [hw2] at hways
                have HW2 := Lib.hid hw2
                have HWS := Lib.hid hways
                clear hw2 hways
                go_wp2_with fail
                refine (ris_any s q d 124 false false _ hs HO.out.b).mono ?_
                rintro e w2 ⟨rfl, Fi⟩
                have HO2 := Lib.hid (HO.out.move Fi)
                rw [E124.out]
                clear Fi yb
                have y1 : w2.cell? ⟨d, 1, none⟩ = some (.int .i64 (q : Int)) := cell_of_block HO2.out.b rfl
                have yf : w2.frozen? ⟨d, 1, none⟩ = false := free_of_block HO2.out.b
                have ho := HO2.out.o
                have HO3 := Lib.hid (show WO s d w l (.slice la l.length lcap) q3 false false (w2.setCell ⟨d, 1, none⟩ (.int .i64 (q3 : Int))) from by
                  have F := rd_set (d := d) (Fr.refl none_ w2) 1 (.int .i64 (q3 : Int))
                  exact ⟨rr_step HO2.out.b q3, F.at_ HO2.out.z (by simp only [at1]; omega), HO2.out.lo.move F (fun i hi _ => by simp only [at1]; omega) (fun i hi _ => by simp only [at1]; omega), HO2.out.f.tr F, ho⟩)
                go_wp2_with fail
                try rw [hc3]
                obtain ⟨w3, hw3⟩ : ∃ x, w2.setCell ⟨d, 1, none⟩ (.int .i64 (q3 : Int)) = x := ⟨_, rfl⟩
                rw [hw3] at HO3 ⊢
                clear hw3 y1 yf
                refine (HA.out go (by omega) q3 d _ mw2 (by omega) HO3.out.b HW2.out).mono ?_
                intro e wh hg
                have hql3 : ∀ r q2, mw2 = .ok (r, q2) → q3 ≤ q2 ∧ q2 ≤ s.size := fun r q2 h => by
                  subst h
                  have := (all_at hs go).2.2.1 [] q3 q2 r (by omega) (by simp) (fun x hx => by simp at hx) HW2.out
                  exact ⟨this.1, this.2.1⟩
                obtain ⟨v, ⟨c, x0, x1, x2, x3, xids⟩, q4, bd4, mn4, rfl, hv, hb2, F2, hst⟩ := hg.all (fun r q2 h => (hql3 r q2 h).2)
                obtain ⟨va, vcap, rfl, hvc, hvl⟩ := hv.open_
                have hlo := HO3.out.lo.bnd
                obtain ⟨cells, hrow, hels⟩ := hlo.1.moveO F2 (fun i hi _ => by simp only [at1]; omega) (fun i hi => by
                  have h1 : w.heap.size + 1 ≤ i := by
                    obtain ⟨c0, h1, _⟩ := hlo.1
                    exact (h1.lt i hi).1
                  simp only [at1]; omega)
                have HROW := Lib.hid hrow
                have HELS := Lib.hid hels
                have HOB := Lib.hid hlo.2
                have HVL := Lib.hid hvl
                have HBh := Lib.hid hb2
                have HZh := Lib.hid (F2.at_ HO3.out.z (by simp only [at1]; omega))
                have HFh := Lib.hid (HO3.out.f.tr F2)
                have HSZ := Lib.hid F2.size
                have HST2 := Lib.hid (show StS s (k + 1) go (l ++ [.mk c x0 x1 x2 x3 xids]) q4 m bd4 mn4 from by
                  have hm := HWS.out
                  refine ⟨by simp, ?_⟩
                  rcases hst with ⟨rfl, rfl, g1, rfl⟩ | ⟨rfl, g1, n, rfl, rfl⟩
                  · have := (hql3 _ _ rfl).1
                    exact .inl ⟨rfl, rfl, by omega, by simp; omega, g1, by simpa using hm⟩
                  · exact .inr ⟨rfl, by simp; omega, by omega, n, by simpa using hm.symm, rfl⟩)
                have hll : l.length ≤ 1001 := by omega
                clear hg hv hvl hb2 F2 hst hlo hrow hels hql3
                go_wp2_with (at_builtin; refine wpList_append_lies _ rfl (.tmp 23) (.tmp 26) 26 rfl (w.heap.size + 1) 28 i0 _ 6 64 Try.underlying26 hi hz0 hz1 hz2 rfl (by decide) _ l.length cells rfl (HROW.out.alloc _) ⟨wh.heap.size, 0, none⟩ 1 1 [.int .i64 c, .int .u64 (x0 : Int), .int .u64 (x1 : Int), .int .u64 (x2 : Int), .int .u64 (x3 : Int), .slice va xids.length vcap] rfl rfl (getElem_block (alloc_new _ _)) ?c1 (by decide) ?c2 ?c3 ?c4 (wh.heap.size + 1) (by simp) ?_)
                case c1 => simp [Value.oneCell']
                case c2 => unfold maxLen; omega
                case c3 => omega
                case c4 => have := lt_of_block HZh.out; simp; omega
                intro g gcap w1 hown1 hgrow hat hlt1
                have hwh := lt_of_block HZh.out
                have FA := (Fr.refl none_ wh).alloc (.cells #[.int .i64 c, .int .u64 (x0 : Int), .int .u64 (x1 : Int), .int .u64 (x2 : Int), .int .u64 (x3 : Int), .slice va xids.length vcap] 28)
                have hub : ∀ i, (Value.slice la l.length lcap).ownBlock = some i → w.heap.size + 1 ≤ i ∧ i < w3.heap.size := fun i hi => ⟨(HROW.out.lt i hi).1, HOB.out i hi⟩
                have FG : Fr (fun i => w.heap.size + 1 ≤ i) _ w1 := (Fr.refl _ _).grown hgrow (fun i hi => .inl (hub i hi).1)
                have hw3z := lt_of_block HO3.out.z
                have RL := RxL.mono (ok' := fun i => w.heap.size + 1 ≤ i ∧ some i ≠ (Value.slice la l.length lcap).ownBlock) (fun i hi => ⟨by omega, fun e => by have := (hub i e.symm).2; omega⟩) xids va 0 (RxL.move (w' := wh.alloc (.cells #[.int .i64 c, .int .u64 (x0 : Int), .int .u64 (x1 : Int), .int .u64 (x2 : Int), .int .u64 (x3 : Int), .slice va xids.length vcap] 28)) (fun i _ hlt => Below.heap_alloc _ _ _ hlt) xids va 0 HVL.out)
                have OWN2 := RxOwn.snoc (B := w.heap.size + 1) (ok := fun i => w.heap.size + 1 ≤ i) (w := wh.alloc (.cells #[.int .i64 c, .int .u64 (x0 : Int), .int .u64 (x1 : Int), .int .u64 (x2 : Int), .int .u64 (x3 : Int), .slice va xids.length vcap] 28)) (HROW.out.alloc _) (fun j r hj => by
                  obtain ⟨cs, g1, g2, g3⟩ := HELS.out j r hj
                  exact ⟨cs, g1, g2, RxC.mono (fun i hi => ⟨hi.1.1, hi.2⟩) r cs (RxC.move (fun i _ hlt => Below.heap_alloc _ _ _ hlt) r cs g3)⟩) rfl (RxC.cells (k := c) (b0 := x0) (b1 := x1) (b2 := x2) (b3 := x3) hvc RL) hown1 hgrow (by simpa using hat)
                have HOW := Lib.hid (show WO s d w (l ++ [.mk c x0 x1 x2 x3 xids]) _ q4 bd4 mn4 w1 from ⟨FG.at_ (FA.at_ HBh.out (fun h => h)) (by omega), FG.at_ (FA.at_ HZh.out (fun h => h)) (by omega), OWN2, (HFh.out.tr FA.none).trans FG (fun i hi hs' => by omega), ho⟩)
                clear FA FG RL OWN2 hgrow hown1 hat hub hwh hlt1
                go_wp2_with fail
                go_roundg go
                case measure => omega
                case rel => exact ⟨_, q4, bd4, mn4, HOW.out, HST2.out⟩

            /-- The reference's reader reads as the program's. -/
            theorem rreader_all (s : ByteArray) (hs : s.size ≤ 1000) (k : Nat) (hk : k ≤ 10000) : RAtomC s k ∧ RWayC s k ∧ RWaysC s k := by
              induction k using Nat.strongRecOn with
              | _ k ih =>
                exact ⟨refatom_step s hs k hk (fun j hj => (ih j hj (by omega)).2.2), refway_step s hs k hk (fun j hj => (ih j hj (by omega)).1), refways_step s hs k hk (fun j hj => (ih j hj (by omega)).2.1)⟩
end Go.Proofs.Ytjbmppbciiemkaa
