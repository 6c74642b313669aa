/-
  The walk over regex's reader: what stands behind an atom.
-/
import Derived.Test.YtjbmppbciiemkaaPv
namespace Go.Proofs.Ytjbmppbciiemkaa set_option linter.unusedVariables false set_option linter.unusedSimpArgs false
open Go.RowKit

theorem alloc_new4 (w : World) (o1 o2 o3 o4 : Obj) :
    ((((w.alloc o1).alloc o2).alloc o3).alloc o4).heap[w.heap.size]? = some o1 ∧ ((((w.alloc o1).alloc o2).alloc o3).alloc o4).heap[w.heap.size + 1]? = some o2 ∧
    ((((w.alloc o1).alloc o2).alloc o3).alloc o4).heap[w.heap.size + 2]? = some o3 ∧ ((((w.alloc o1).alloc o2).alloc o3).alloc o4).heap[w.heap.size + 3]? = some o4 := by
  have h1 := alloc_new2 w o1 o2
  have h2 := alloc_new2 ((w.alloc o1).alloc o2) o3 o4
  have e : ((w.alloc o1).alloc o2).heap.size = w.heap.size + 2 := by simp
  rw [e] at h2
  refine ⟨?_, ?_, h2.1, h2.2⟩
  · rw [Below.heap_alloc _ _ _ (by simp; omega), Below.heap_alloc _ _ _ (by simp; omega)]; exact h1.1
  · rw [Below.heap_alloc _ _ _ (by simp), Below.heap_alloc _ _ _ (by simp)]; exact h1.2

theorem RxL.of_block {ok : Nat → Prop} {w : World} {g : Nat} {cells : Array Value} {t : TypeId} {fr : Nat × Nat} (h : w.heap[g]? = some (.cells cells t fr)) (hg : ok g) {l : List Rx}
    (hl : ∀ j r, l[j]? = some r → ∃ cs : List Value, cs.length = 6 ∧ (∀ m u, cs[m]? = some u → cells[j * 6 + m]? = some u) ∧ RxC ok w r cs) : RxL ok w (some ⟨g, 0, none⟩) 0 l := by
  refine RxL.of l _ 0 (fun j r hj => ?_)
  obtain ⟨cs, h1, h2, h3⟩ := hl j r hj
  refine ⟨⟨g, 0, none⟩, cs, rfl, hg, h1, fun m u hu => ?_, h3⟩
  rw [Nat.zero_add]
  have hadd : (⟨g, 0, none⟩ : Addr).add (j * 6 + m) = ⟨g, j * 6 + m, none⟩ := by unfold Addr.add; split <;> simp_all
  rw [hadd]
  exact cell_of_block h (h2 m u hu)
theorem RxC.cells {ok : Nat → Prop} {w : World} {k : Int} {b0 b1 b2 b3 : Nat} {kids : List Rx} {a : Option Addr} {cap : Nat} (hc : kids.length ≤ cap) (hl : RxL ok w a 0 kids) :
    RxC ok w (.mk k b0 b1 b2 b3 kids) [.int .i64 k, .int .u64 b0, .int .u64 b1, .int .u64 b2, .int .u64 b3, .slice a kids.length cap] := by
  simp only [RxC]
  exact ⟨a, cap, rfl, hc, hl⟩
theorem RxL.one {ok : Nat → Prop} {w : World} {g : Nat} {t : TypeId} {fr : Nat × Nat} {k : Int} {b0 b1 b2 b3 : Nat} {kids : List Rx} {a : Option Addr} {cap : Nat}
    (h : w.heap[g]? = some (.cells #[.int .i64 k, .int .u64 b0, .int .u64 b1, .int .u64 b2, .int .u64 b3, .slice a kids.length cap] t fr)) (hg : ok g) (hc : kids.length ≤ cap) (hl : RxL ok w a 0 kids) :
    RxL ok w (some ⟨g, 0, none⟩) 0 [.mk k b0 b1 b2 b3 kids] := by
  refine RxL.of_block h hg (fun j r hj => ?_)
  match j, hj with
  | 0, hj =>
    simp at hj
    subst hj
    exact ⟨_, rfl, fun m u hu => by simpa using hu, RxC.cells hc hl⟩
theorem RxL.two {ok : Nat → Prop} {w : World} {g : Nat} {t : TypeId} {fr : Nat × Nat} {k x : Int} {b0 b1 b2 b3 x0 x1 x2 x3 : Nat} {kids xids : List Rx} {a xa : Option Addr} {cap xap : Nat}
    (h : w.heap[g]? = some (.cells #[.int .i64 k, .int .u64 b0, .int .u64 b1, .int .u64 b2, .int .u64 b3, .slice a kids.length cap, .int .i64 x, .int .u64 x0, .int .u64 x1, .int .u64 x2, .int .u64 x3, .slice xa xids.length xap] t fr)) (hg : ok g)
    (hc : kids.length ≤ cap) (hl : RxL ok w a 0 kids) (hc2 : xids.length ≤ xap) (hl2 : RxL ok w xa 0 xids) :
    RxL ok w (some ⟨g, 0, none⟩) 0 [.mk k b0 b1 b2 b3 kids, .mk x x0 x1 x2 x3 xids] := by
  refine RxL.of_block h hg (fun j r hj => ?_)
  match j, hj with
  | 0, hj =>
    simp at hj
    subst hj
    refine ⟨_, rfl, fun m u hu => ?_, RxC.cells hc hl⟩
    match m, hu with
    | 0, hu => simpa using hu
    | 1, hu => simpa using hu
    | 2, hu => simpa using hu
    | 3, hu => simpa using hu
    | 4, hu => simpa using hu
    | 5, hu => simpa using hu
    | m + 6, hu => simp at hu
  | 1, hj =>
    simp at hj
    subst hj
    refine ⟨_, rfl, fun m u hu => ?_, RxC.cells hc2 hl2⟩
    match m, hu with
    | 0, hu => simpa using hu
    | 1, hu => simpa using hu
    | 2, hu => simpa using hu
    | 3, hu => simpa using hu
    | 4, hu => simpa using hu
    | 5, hu => simpa using hu
    | m + 6, hu => simp at hu
  | j + 2, hj => simp at hj

/-- What a call comes to, told from an elder world. -/
theorem GotR.from_ {ok ok' : Nat → Prop} {d : Nat} {s : ByteArray} {w w1 : World} {m : Got Rx} {e : Ending} {w' : World} (h : GotR ok' d s w1 m e w') (hf : Fr (at1 d) w w1) (hk : ∀ k, ok' k → ok k ∨ w.heap.size ≤ k) : GotR ok d s w m e w' := by
  unfold GotR at *
  cases m with
  | error n => exact ⟨h.1, hf.tr h.2⟩
  | ok x =>
    obtain ⟨v, h1, h2, h3, h4⟩ := h
    refine ⟨v, h1, h2.mono (fun k hk' => ?_), h3, hf.tr h4⟩
    rcases hk' with hk' | hk'
    · exact hk k hk'
    · exact .inr (Nat.le_trans hf.size hk')

set_option maxRecDepth 100000 in
set_option maxHeartbeats 4000000 in
theorem behind_any (s : ByteArray) (hs : s.size ≤ 1000) (n : Nat) : ∀ (r : Rx) (v : Value) (p d : Nat) (w : World) (ok : Nat → Prop) (m : Got Rx), w.heap[d]? = some (rdObj s p) →
    RxV ok w v r → r.size ≤ 500 → (∀ k, ok k → k ≠ d) → behindB s n r p = some m →
    Calls Try.prog 40 #[.pointer (some ⟨d, 0, none⟩), v] w (GotR ok d s w m) := by
  induction n with
  | zero => intro r v p d w ok m _ _ _ _ h; simp [behindB] at h
  | succ n ih =>
    rintro ⟨k, b0, b1, b2, b3, kids⟩ v p d w ok m hb hv hsz hok hm
    obtain ⟨a, cap, rfl, hc, hl⟩ := hv.open_
    have hdl := lt_of_block hb
    have HIH := Lib.hid ih
    have HM := Lib.hid hm
    have HSZ := Lib.hid hsz
    obtain ⟨n1, n2, n3, n4⟩ := alloc_new4 w (.cells #[.int .i64 k, .int .u64 b0, .int .u64 b1, .int .u64 b2, .int .u64 b3, .slice a kids.length cap] 28) (.cells #[.int .i64 0, .int .u64 0, .int .u64 0, .int .u64 0, .int .u64 0, .slice none 0 0] 28) (.cells #[.int .i64 k, .int .u64 b0, .int .u64 b1, .int .u64 b2, .int .u64 b3, .slice a kids.length cap] 28) (.cells #[.int .i64 4, .int .u64 0, .int .u64 0, .int .u64 0, .int .u64 0, .slice (some ⟨w.heap.size + 1 + 1, 0, none⟩) 1 1] 28)
    have F0 := ((((Fr.refl none_ w).alloc (.cells #[.int .i64 k, .int .u64 b0, .int .u64 b1, .int .u64 b2, .int .u64 b3, .slice a kids.length cap] 28)).alloc (.cells #[.int .i64 0, .int .u64 0, .int .u64 0, .int .u64 0, .int .u64 0, .slice none 0 0] 28)).alloc (.cells #[.int .i64 k, .int .u64 b0, .int .u64 b1, .int .u64 b2, .int .u64 b3, .slice a kids.length cap] 28)).alloc (.cells #[.int .i64 4, .int .u64 0, .int .u64 0, .int .u64 0, .int .u64 0, .slice (some ⟨w.heap.size + 1 + 1, 0, none⟩) 1 1] 28)
    have HB0 := Lib.hid (F0.at_ hb (fun h => h))
    have HF0 := Lib.hid (F0.none (S := at1 d))
    have HL := Lib.hid hl
    have HOK := Lib.hid hok
    have N1 := Lib.hid n1
    have N2 := Lib.hid n2
    have N3 := Lib.hid n3
    have N4 := Lib.hid n4
    have E1 := Lib.hid (show ¬ at1 d w.heap.size by simp only [at1]; omega)
    have E2 := Lib.hid (show ¬ at1 d (w.heap.size + 1) by simp only [at1]; omega)
    have E3 := Lib.hid (show ¬ at1 d (w.heap.size + 2) by simp only [at1]; omega)
    have E4 := Lib.hid (show ¬ at1 d (w.heap.size + 3) by simp only [at1]; omega)
    have EOK := Lib.hid (show ∀ i, ((ok i ∨ w.heap.size ≤ i) ∧ i ≠ w.heap.size + 1) → i ≠ d by
      rintro i ⟨hi, _⟩
      rcases hi with hi | hi
      · exact hok i hi
      · omega)
    clear hb hv hsz hok hm hl n1 n2 n3 n4 F0 ih
    cases i42 : isB s p 42 with
    | true =>
      have I42 := Lib.hid i42
      cases hfit : fitR (starR (.mk k b0 b1 b2 b3 kids)) with
      | error en =>
        have hm : m = .error en := by
          have g := HM.out
          simp only [behindB, i42, hfit, if_true, if_false, Bool.false_eq_true, Option.some.injEq] at g
          exact g.symm
        subst hm
        have HFT := Lib.hid hfit
        clear hfit i42
        go_enter Try.func40, Try.ntmps40
        go_wp2_with fail
        refine (is_yes s p d 42 _ hs HB0.out I42.out).mono ?_
        rintro e w1 ⟨rfl, hb1, F1⟩
        have HB1 := Lib.hid hb1
        have N11 := Lib.hid (F1.at_ N1.out E1.out)
        have N21 := Lib.hid (F1.at_ N2.out E2.out)
        have N31 := Lib.hid (F1.at_ N3.out E3.out)
        have N41 := Lib.hid (F1.at_ N4.out E4.out)
        have HF1 := Lib.hid (HF0.out.tr F1)
        clear hb1 F1
        obtain ⟨c0, c1, c2, c3, c4, c5⟩ := six N11.out
        obtain ⟨d0, d1, d2, d3, d4, d5⟩ := six N41.out
        have KL := Lib.hid (RxL.mono (ok' := fun i => (ok i ∨ w.heap.size ≤ i) ∧ i ≠ w.heap.size + 1) (fun i h => ⟨.inl h.1, by have := h.2; omega⟩) kids a 0 (RxL.move (fun i hi hlt => HF1.out.block i hlt (HOK.out i hi.1)) kids a 0 (RxL.bound kids a 0 HL.out)))
        have SL := Lib.hid (RxL.one (ok := fun i => (ok i ∨ w.heap.size ≤ i) ∧ i ≠ w.heap.size + 1) N31.out ⟨.inr (by omega), by omega⟩ hc KL.out)
        go_wp2_with fail
        have HV := Lib.hid (RxV.mk_ (k := 4) (b0 := 0) (b1 := 0) (b2 := 0) (b3 := 0) (cap := 1) (Nat.le_refl _) SL.out)
        have HFx := HF1
        have HBx := HB1
        have NZx := N21
        clear c0 c1 c2 c3 c4 c5 d0 d1 d2 d3 d4 d5
        refine (fit_err (.mk 4 0 0 0 0 [.mk k b0 b1 b2 b3 kids]) en _ _ (fun i => (ok i ∨ w.heap.size ≤ i) ∧ i ≠ w.heap.size + 1) HV.out (by have := HSZ.out; simp only [Rx.size, Rx.sizes] at this ⊢; omega) HFT.out).mono ?_
        rintro e wf ⟨rfl, Ff⟩
        have HFf := Lib.hid (HFx.out.tr Ff.none)
        clear Ff
        go_wp2_with fail
        exact ⟨rfl, rfl, HFf.out⟩
      | ok rr =>
        have hm : behindB s n rr (p + 1) = some m := by
          have g := HM.out
          simp only [behindB, i42, hfit, if_true, if_false, Bool.false_eq_true] at g
          exact g
        have hrr : rr = .mk 4 0 0 0 0 [.mk k b0 b1 b2 b3 kids] := by
          unfold fitR at hfit
          split at hfit
          · simp at hfit
          · simp at hfit; exact hfit.symm
        have hr5 : (Rx.size (.mk 4 0 0 0 0 [.mk k b0 b1 b2 b3 kids])) ≤ 500 := by
          unfold fitR at hfit
          split at hfit
          · simp at hfit
          · rename_i hh
            exact Nat.le_of_not_lt hh
        rw [hrr] at hm
        have HMM := Lib.hid hm
        have HR5 := Lib.hid hr5
        have HFT := Lib.hid hfit
        clear hfit hm hrr hr5 i42
        go_enter Try.func40, Try.ntmps40
        go_wp2_with fail
        refine (is_yes s p d 42 _ hs HB0.out I42.out).mono ?_
        rintro e w2 ⟨rfl, hb2, F2⟩
        have HB2 := Lib.hid hb2
        have N12 := Lib.hid (F2.at_ N1.out E1.out)
        have N22 := Lib.hid (F2.at_ N2.out E2.out)
        have N32 := Lib.hid (F2.at_ N3.out E3.out)
        have N42 := Lib.hid (F2.at_ N4.out E4.out)
        have HF2 := Lib.hid (HF0.out.tr F2)
        clear hb2 F2
        obtain ⟨c0, c1, c2, c3, c4, c5⟩ := six N12.out
        obtain ⟨d0, d1, d2, d3, d4, d5⟩ := six N42.out
        have KL := Lib.hid (RxL.mono (ok' := fun i => (ok i ∨ w.heap.size ≤ i) ∧ i ≠ w.heap.size + 1) (fun i h => ⟨.inl h.1, by have := h.2; omega⟩) kids a 0 (RxL.move (fun i hi hlt => HF2.out.block i hlt (HOK.out i hi.1)) kids a 0 (RxL.bound kids a 0 HL.out)))
        have SL := Lib.hid (RxL.one (ok := fun i => (ok i ∨ w.heap.size ≤ i) ∧ i ≠ w.heap.size + 1) N32.out ⟨.inr (by omega), by omega⟩ hc KL.out)
        go_wp2_with fail
        have HV := Lib.hid (RxV.mk_ (k := 4) (b0 := 0) (b1 := 0) (b2 := 0) (b3 := 0) (cap := 1) (Nat.le_refl _) SL.out)
        have HFx := HF2
        have HBx := HB2
        have NZx := N22
        clear c0 c1 c2 c3 c4 c5 d0 d1 d2 d3 d4 d5
        refine (fit_ok (.mk 4 0 0 0 0 [.mk k b0 b1 b2 b3 kids]) rr _ _ (fun i => (ok i ∨ w.heap.size ≤ i) ∧ i ≠ w.heap.size + 1) HV.out (by have := HR5.out; omega) HFT.out).mono ?_
        rintro e wf ⟨rfl, _, Ff⟩
        have HFf := Lib.hid (HFx.out.tr Ff.none)
        have HBf := Lib.hid (Ff.at_ HBx.out (fun h => h))
        have NZf := Lib.hid (Ff.at_ NZx.out (fun h => h))
        have HVf := Lib.hid (HV.out.move Ff (fun _ _ _ h => h))
        clear Ff
        go_wp2_with fail
        refine (HIH.out (.mk 4 0 0 0 0 [.mk k b0 b1 b2 b3 kids]) _ (p + 1) d _ (fun i => (ok i ∨ w.heap.size ≤ i) ∧ i ≠ w.heap.size + 1) m HBf.out HVf.out HR5.out EOK.out HMM.out).mono ?_
        intro e wg hg
        cases m with
        | error en =>
          obtain ⟨rfl, Fg⟩ := hg
          have HFg := Lib.hid (HFf.out.tr Fg)
          clear Fg
          go_wp2_with fail
          exact ⟨rfl, rfl, HFg.out⟩
        | ok y =>
          obtain ⟨⟨k', x0, x1, x2, x3, xids⟩, q⟩ := y
          obtain ⟨v', rfl, hv', hb', Fg⟩ := hg
          obtain ⟨va, vcap, rfl, hvc, hvl⟩ := hv'.open_
          have nz := Fg.at_ NZf.out E2.out
          obtain ⟨z0, z1, z2, z3, z4, z5⟩ := six nz
          have zf : ∀ o, wg.frozen? ⟨w.heap.size + 1, o, none⟩ = false := fun o => free_of_block nz
          have NZ := Lib.hid nz
          have HVL := Lib.hid hvl
          have HBg := Lib.hid hb'
          have HFg := Lib.hid (HFf.out.tr Fg)
          clear hvl hv' hb' Fg nz
          go_wp2_with fail
          refine bodyPost_ret (results_six rfl rfl (set_six NZ.out _ _ _ _ _ _)) rfl ?_
          have fx := fr_six (S := at1 (w.heap.size + 1)) (r := w.heap.size + 1) (Fr.refl _ wg) (.inl rfl) (.int .i64 k') (.int .u64 x0) (.int .u64 x1) (.int .u64 x2) (.int .u64 x3) (.slice va xids.length vcap)
          have hlz := lt_of_block NZf.out
          have hsz0 := HFf.out.size
          refine ⟨_, rfl, ((RxV.mk_ hvc HVL.out).move fx (fun i hi _ => ?_)).mono (fun i hi => ?_), fx.at_ HBg.out (by simp only [at1]; omega), fr_six HFg.out (.inr (by omega)) _ _ _ _ _ _⟩
          · simp only [at1]
            rcases hi with hi | hi
            · exact hi.2
            · omega
          · rcases hi with hi | hi
            · exact hi.1
            · exact .inr (by omega)
    | false =>
      have I42 := Lib.hid i42
      cases i43 : isB s p 43 with
      | true =>
        have I43 := Lib.hid i43
        cases hfit : fitR (.mk 2 0 0 0 0 [.mk k b0 b1 b2 b3 kids, starR (.mk k b0 b1 b2 b3 kids)]) with
        | error en =>
          have hm : m = .error en := by
            have g := HM.out
            simp only [behindB, i42, i43, hfit, if_true, if_false, Bool.false_eq_true, Option.some.injEq] at g
            exact g.symm
          subst hm
          have HFT := Lib.hid hfit
          clear hfit i42 i43
          go_enter Try.func40, Try.ntmps40
          go_wp2_with fail
          refine (is_no s p d 42 _ hs HB0.out I42.out).mono ?_
          rintro e w3 ⟨rfl, hb3, F3⟩
          have HB3 := Lib.hid hb3
          have N13 := Lib.hid (F3.at_ N1.out E1.out)
          have N23 := Lib.hid (F3.at_ N2.out E2.out)
          have N33 := Lib.hid (F3.at_ N3.out E3.out)
          have N43 := Lib.hid (F3.at_ N4.out E4.out)
          have HF3 := Lib.hid (HF0.out.tr F3)
          clear hb3 F3
          go_wp2_with fail
          refine (is_yes s p d 43 _ hs HB3.out I43.out).mono ?_
          rintro e w4 ⟨rfl, hb4, F4⟩
          have HB4 := Lib.hid hb4
          have N14 := Lib.hid (F4.at_ N13.out E1.out)
          have N24 := Lib.hid (F4.at_ N23.out E2.out)
          have N34 := Lib.hid (F4.at_ N33.out E3.out)
          have N44 := Lib.hid (F4.at_ N43.out E4.out)
          have HF4 := Lib.hid (HF3.out.tr F4)
          clear hb4 F4
          obtain ⟨c0, c1, c2, c3, c4, c5⟩ := six N14.out
          obtain ⟨d0, d1, d2, d3, d4, d5⟩ := six N44.out
          have KL := Lib.hid (RxL.mono (ok' := fun i => (ok i ∨ w.heap.size ≤ i) ∧ i ≠ w.heap.size + 1) (fun i h => ⟨.inl h.1, by have := h.2; omega⟩) kids a 0 (RxL.move (fun i hi hlt => HF4.out.block i hlt (HOK.out i hi.1)) kids a 0 (RxL.bound kids a 0 HL.out)))
          have SL := Lib.hid (RxL.one (ok := fun i => (ok i ∨ w.heap.size ≤ i) ∧ i ≠ w.heap.size + 1) N34.out ⟨.inr (by omega), by omega⟩ hc KL.out)
          go_wp2_with fail
          have FA := (Fr.refl none_ w4).alloc (.cells #[.int .i64 k, .int .u64 b0, .int .u64 b1, .int .u64 b2, .int .u64 b3, .slice a kids.length cap, .int .i64 4, .int .u64 0, .int .u64 0, .int .u64 0, .int .u64 0, .slice (some ⟨w.heap.size + 1 + 1, 0, none⟩) 1 1] 28)
          have TL := Lib.hid (RxL.two (ok := fun i => (ok i ∨ w.heap.size ≤ i) ∧ i ≠ w.heap.size + 1) (w := w4.alloc (.cells #[.int .i64 k, .int .u64 b0, .int .u64 b1, .int .u64 b2, .int .u64 b3, .slice a kids.length cap, .int .i64 4, .int .u64 0, .int .u64 0, .int .u64 0, .int .u64 0, .slice (some ⟨w.heap.size + 1 + 1, 0, none⟩) 1 1] 28)) (xids := [.mk k b0 b1 b2 b3 kids]) (alloc_new _ _) ⟨.inr (HF4.out.size), by have := lt_of_block N44.out; omega⟩ hc (RxL.move (fun i _ hlt => Below.heap_alloc _ _ _ hlt) kids a 0 KL.out) (Nat.le_refl _) (RxL.move (fun i _ hlt => Below.heap_alloc _ _ _ hlt) _ _ 0 SL.out))
          have HV := Lib.hid (RxV.mk_ (k := 2) (b0 := 0) (b1 := 0) (b2 := 0) (b3 := 0) (cap := 2) (Nat.le_refl _) TL.out)
          have HFx := Lib.hid (HF4.out.tr FA.none)
          have HBx := Lib.hid (FA.at_ HB4.out (fun h => h))
          have NZx := Lib.hid (FA.at_ N24.out (fun h => h))
          clear c0 c1 c2 c3 c4 c5 d0 d1 d2 d3 d4 d5 FA
          refine (fit_err (.mk 2 0 0 0 0 [.mk k b0 b1 b2 b3 kids, .mk 4 0 0 0 0 [.mk k b0 b1 b2 b3 kids]]) en _ _ (fun i => (ok i ∨ w.heap.size ≤ i) ∧ i ≠ w.heap.size + 1) HV.out (by have := HSZ.out; simp only [Rx.size, Rx.sizes] at this ⊢; omega) HFT.out).mono ?_
          rintro e wf ⟨rfl, Ff⟩
          have HFf := Lib.hid (HFx.out.tr Ff.none)
          clear Ff
          go_wp2_with fail
          exact ⟨rfl, rfl, HFf.out⟩
        | ok rr =>
          have hm : behindB s n rr (p + 1) = some m := by
            have g := HM.out
            simp only [behindB, i42, i43, hfit, if_true, if_false, Bool.false_eq_true] at g
            exact g
          have hrr : rr = .mk 2 0 0 0 0 [.mk k b0 b1 b2 b3 kids, .mk 4 0 0 0 0 [.mk k b0 b1 b2 b3 kids]] := by
            unfold fitR at hfit
            split at hfit
            · simp at hfit
            · simp at hfit; exact hfit.symm
          have hr5 : (Rx.size (.mk 2 0 0 0 0 [.mk k b0 b1 b2 b3 kids, .mk 4 0 0 0 0 [.mk k b0 b1 b2 b3 kids]])) ≤ 500 := by
            unfold fitR at hfit
            split at hfit
            · simp at hfit
            · rename_i hh
              exact Nat.le_of_not_lt hh
          rw [hrr] at hm
          have HMM := Lib.hid hm
          have HR5 := Lib.hid hr5
          have HFT := Lib.hid hfit
          clear hfit hm hrr hr5 i42 i43
          go_enter Try.func40, Try.ntmps40
          go_wp2_with fail
          refine (is_no s p d 42 _ hs HB0.out I42.out).mono ?_
          rintro e w5 ⟨rfl, hb5, F5⟩
          have HB5 := Lib.hid hb5
          have N15 := Lib.hid (F5.at_ N1.out E1.out)
          have N25 := Lib.hid (F5.at_ N2.out E2.out)
          have N35 := Lib.hid (F5.at_ N3.out E3.out)
          have N45 := Lib.hid (F5.at_ N4.out E4.out)
          have HF5 := Lib.hid (HF0.out.tr F5)
          clear hb5 F5
          go_wp2_with fail
          refine (is_yes s p d 43 _ hs HB5.out I43.out).mono ?_
          rintro e w6 ⟨rfl, hb6, F6⟩
          have HB6 := Lib.hid hb6
          have N16 := Lib.hid (F6.at_ N15.out E1.out)
          have N26 := Lib.hid (F6.at_ N25.out E2.out)
          have N36 := Lib.hid (F6.at_ N35.out E3.out)
          have N46 := Lib.hid (F6.at_ N45.out E4.out)
          have HF6 := Lib.hid (HF5.out.tr F6)
          clear hb6 F6
          obtain ⟨c0, c1, c2, c3, c4, c5⟩ := six N16.out
          obtain ⟨d0, d1, d2, d3, d4, d5⟩ := six N46.out
          have KL := Lib.hid (RxL.mono (ok' := fun i => (ok i ∨ w.heap.size ≤ i) ∧ i ≠ w.heap.size + 1) (fun i h => ⟨.inl h.1, by have := h.2; omega⟩) kids a 0 (RxL.move (fun i hi hlt => HF6.out.block i hlt (HOK.out i hi.1)) kids a 0 (RxL.bound kids a 0 HL.out)))
          have SL := Lib.hid (RxL.one (ok := fun i => (ok i ∨ w.heap.size ≤ i) ∧ i ≠ w.heap.size + 1) N36.out ⟨.inr (by omega), by omega⟩ hc KL.out)
          go_wp2_with fail
          have FA := (Fr.refl none_ w6).alloc (.cells #[.int .i64 k, .int .u64 b0, .int .u64 b1, .int .u64 b2, .int .u64 b3, .slice a kids.length cap, .int .i64 4, .int .u64 0, .int .u64 0, .int .u64 0, .int .u64 0, .slice (some ⟨w.heap.size + 1 + 1, 0, none⟩) 1 1] 28)
          have TL := Lib.hid (RxL.two (ok := fun i => (ok i ∨ w.heap.size ≤ i) ∧ i ≠ w.heap.size + 1) (w := w6.alloc (.cells #[.int .i64 k, .int .u64 b0, .int .u64 b1, .int .u64 b2, .int .u64 b3, .slice a kids.length cap, .int .i64 4, .int .u64 0, .int .u64 0, .int .u64 0, .int .u64 0, .slice (some ⟨w.heap.size + 1 + 1, 0, none⟩) 1 1] 28)) (xids := [.mk k b0 b1 b2 b3 kids]) (alloc_new _ _) ⟨.inr (HF6.out.size), by have := lt_of_block N46.out; omega⟩ hc (RxL.move (fun i _ hlt => Below.heap_alloc _ _ _ hlt) kids a 0 KL.out) (Nat.le_refl _) (RxL.move (fun i _ hlt => Below.heap_alloc _ _ _ hlt) _ _ 0 SL.out))
          have HV := Lib.hid (RxV.mk_ (k := 2) (b0 := 0) (b1 := 0) (b2 := 0) (b3 := 0) (cap := 2) (Nat.le_refl _) TL.out)
          have HFx := Lib.hid (HF6.out.tr FA.none)
          have HBx := Lib.hid (FA.at_ HB6.out (fun h => h))
          have NZx := Lib.hid (FA.at_ N26.out (fun h => h))
          clear c0 c1 c2 c3 c4 c5 d0 d1 d2 d3 d4 d5 FA
          refine (fit_ok (.mk 2 0 0 0 0 [.mk k b0 b1 b2 b3 kids, .mk 4 0 0 0 0 [.mk k b0 b1 b2 b3 kids]]) rr _ _ (fun i => (ok i ∨ w.heap.size ≤ i) ∧ i ≠ w.heap.size + 1) HV.out (by have := HR5.out; omega) HFT.out).mono ?_
          rintro e wf ⟨rfl, _, Ff⟩
          have HFf := Lib.hid (HFx.out.tr Ff.none)
          have HBf := Lib.hid (Ff.at_ HBx.out (fun h => h))
          have NZf := Lib.hid (Ff.at_ NZx.out (fun h => h))
          have HVf := Lib.hid (HV.out.move Ff (fun _ _ _ h => h))
          clear Ff
          go_wp2_with fail
          refine (HIH.out (.mk 2 0 0 0 0 [.mk k b0 b1 b2 b3 kids, .mk 4 0 0 0 0 [.mk k b0 b1 b2 b3 kids]]) _ (p + 1) d _ (fun i => (ok i ∨ w.heap.size ≤ i) ∧ i ≠ w.heap.size + 1) m HBf.out HVf.out HR5.out EOK.out HMM.out).mono ?_
          intro e wg hg
          cases m with
          | error en =>
            obtain ⟨rfl, Fg⟩ := hg
            have HFg := Lib.hid (HFf.out.tr Fg)
            clear Fg
            go_wp2_with fail
            exact ⟨rfl, rfl, HFg.out⟩
          | ok y =>
            obtain ⟨⟨k', x0, x1, x2, x3, xids⟩, q⟩ := y
            obtain ⟨v', rfl, hv', hb', Fg⟩ := hg
            obtain ⟨va, vcap, rfl, hvc, hvl⟩ := hv'.open_
            have nz := Fg.at_ NZf.out E2.out
            obtain ⟨z0, z1, z2, z3, z4, z5⟩ := six nz
            have zf : ∀ o, wg.frozen? ⟨w.heap.size + 1, o, none⟩ = false := fun o => free_of_block nz
            have NZ := Lib.hid nz
            have HVL := Lib.hid hvl
            have HBg := Lib.hid hb'
            have HFg := Lib.hid (HFf.out.tr Fg)
            clear hvl hv' hb' Fg nz
            go_wp2_with fail
            refine bodyPost_ret (results_six rfl rfl (set_six NZ.out _ _ _ _ _ _)) rfl ?_
            have fx := fr_six (S := at1 (w.heap.size + 1)) (r := w.heap.size + 1) (Fr.refl _ wg) (.inl rfl) (.int .i64 k') (.int .u64 x0) (.int .u64 x1) (.int .u64 x2) (.int .u64 x3) (.slice va xids.length vcap)
            have hlz := lt_of_block NZf.out
            have hsz0 := HFf.out.size
            refine ⟨_, rfl, ((RxV.mk_ hvc HVL.out).move fx (fun i hi _ => ?_)).mono (fun i hi => ?_), fx.at_ HBg.out (by simp only [at1]; omega), fr_six HFg.out (.inr (by omega)) _ _ _ _ _ _⟩
            · simp only [at1]
              rcases hi with hi | hi
              · exact hi.2
              · omega
            · rcases hi with hi | hi
              · exact hi.1
              · exact .inr (by omega)
      | false =>
        have I43 := Lib.hid i43
        cases i63 : isB s p 63 with
        | true =>
          have I63 := Lib.hid i63
          cases hfit : fitR (.mk 3 0 0 0 0 [.mk k b0 b1 b2 b3 kids, .zero]) with
          | error en =>
            have hm : m = .error en := by
              have g := HM.out
              simp only [behindB, i42, i43, i63, hfit, if_true, if_false, Bool.false_eq_true, Option.some.injEq] at g
              exact g.symm
            subst hm
            have HFT := Lib.hid hfit
            clear hfit i42 i43 i63
            go_enter Try.func40, Try.ntmps40
            go_wp2_with fail
            refine (is_no s p d 42 _ hs HB0.out I42.out).mono ?_
            rintro e w7 ⟨rfl, hb7, F7⟩
            have HB7 := Lib.hid hb7
            have N17 := Lib.hid (F7.at_ N1.out E1.out)
            have N27 := Lib.hid (F7.at_ N2.out E2.out)
            have N37 := Lib.hid (F7.at_ N3.out E3.out)
            have N47 := Lib.hid (F7.at_ N4.out E4.out)
            have HF7 := Lib.hid (HF0.out.tr F7)
            clear hb7 F7
            go_wp2_with fail
            refine (is_no s p d 43 _ hs HB7.out I43.out).mono ?_
            rintro e w8 ⟨rfl, hb8, F8⟩
            have HB8 := Lib.hid hb8
            have N18 := Lib.hid (F8.at_ N17.out E1.out)
            have N28 := Lib.hid (F8.at_ N27.out E2.out)
            have N38 := Lib.hid (F8.at_ N37.out E3.out)
            have N48 := Lib.hid (F8.at_ N47.out E4.out)
            have HF8 := Lib.hid (HF7.out.tr F8)
            clear hb8 F8
            go_wp2_with fail
            refine (is_yes s p d 63 _ hs HB8.out I63.out).mono ?_
            rintro e w9 ⟨rfl, hb9, F9⟩
            have HB9 := Lib.hid hb9
            have N19 := Lib.hid (F9.at_ N18.out E1.out)
            have N29 := Lib.hid (F9.at_ N28.out E2.out)
            have N39 := Lib.hid (F9.at_ N38.out E3.out)
            have N49 := Lib.hid (F9.at_ N48.out E4.out)
            have HF9 := Lib.hid (HF8.out.tr F9)
            clear hb9 F9
            obtain ⟨c0, c1, c2, c3, c4, c5⟩ := six N19.out
            obtain ⟨d0, d1, d2, d3, d4, d5⟩ := six N49.out
            have KL := Lib.hid (RxL.mono (ok' := fun i => (ok i ∨ w.heap.size ≤ i) ∧ i ≠ w.heap.size + 1) (fun i h => ⟨.inl h.1, by have := h.2; omega⟩) kids a 0 (RxL.move (fun i hi hlt => HF9.out.block i hlt (HOK.out i hi.1)) kids a 0 (RxL.bound kids a 0 HL.out)))
            have SL := Lib.hid (RxL.one (ok := fun i => (ok i ∨ w.heap.size ≤ i) ∧ i ≠ w.heap.size + 1) N39.out ⟨.inr (by omega), by omega⟩ hc KL.out)
            go_wp2_with fail
            have FA := (Fr.refl none_ w9).alloc (.cells #[.int .i64 k, .int .u64 b0, .int .u64 b1, .int .u64 b2, .int .u64 b3, .slice a kids.length cap, .int .i64 0, .int .u64 0, .int .u64 0, .int .u64 0, .int .u64 0, .slice none 0 0] 28)
            have TL := Lib.hid (RxL.two (ok := fun i => (ok i ∨ w.heap.size ≤ i) ∧ i ≠ w.heap.size + 1) (w := w9.alloc (.cells #[.int .i64 k, .int .u64 b0, .int .u64 b1, .int .u64 b2, .int .u64 b3, .slice a kids.length cap, .int .i64 0, .int .u64 0, .int .u64 0, .int .u64 0, .int .u64 0, .slice none 0 0] 28)) (xids := []) (alloc_new _ _) ⟨.inr (HF9.out.size), by have := lt_of_block N49.out; omega⟩ hc (RxL.move (fun i _ hlt => Below.heap_alloc _ _ _ hlt) kids a 0 KL.out) (Nat.le_refl _) (by simp only [RxL]))
            have HV := Lib.hid (RxV.mk_ (k := 3) (b0 := 0) (b1 := 0) (b2 := 0) (b3 := 0) (cap := 2) (Nat.le_refl _) TL.out)
            have HFx := Lib.hid (HF9.out.tr FA.none)
            have HBx := Lib.hid (FA.at_ HB9.out (fun h => h))
            have NZx := Lib.hid (FA.at_ N29.out (fun h => h))
            clear c0 c1 c2 c3 c4 c5 d0 d1 d2 d3 d4 d5 FA
            refine (fit_err (.mk 3 0 0 0 0 [.mk k b0 b1 b2 b3 kids, .mk 0 0 0 0 0 []]) en _ _ (fun i => (ok i ∨ w.heap.size ≤ i) ∧ i ≠ w.heap.size + 1) HV.out (by have := HSZ.out; simp only [Rx.size, Rx.sizes] at this ⊢; omega) HFT.out).mono ?_
            rintro e wf ⟨rfl, Ff⟩
            have HFf := Lib.hid (HFx.out.tr Ff.none)
            clear Ff
            go_wp2_with fail
            exact ⟨rfl, rfl, HFf.out⟩
          | ok rr =>
            have hm : behindB s n rr (p + 1) = some m := by
              have g := HM.out
              simp only [behindB, i42, i43, i63, hfit, if_true, if_false, Bool.false_eq_true] at g
              exact g
            have hrr : rr = .mk 3 0 0 0 0 [.mk k b0 b1 b2 b3 kids, .mk 0 0 0 0 0 []] := by
              unfold fitR at hfit
              split at hfit
              · simp at hfit
              · simp at hfit; exact hfit.symm
            have hr5 : (Rx.size (.mk 3 0 0 0 0 [.mk k b0 b1 b2 b3 kids, .mk 0 0 0 0 0 []])) ≤ 500 := by
              unfold fitR at hfit
              split at hfit
              · simp at hfit
              · rename_i hh
                exact Nat.le_of_not_lt hh
            rw [hrr] at hm
            have HMM := Lib.hid hm
            have HR5 := Lib.hid hr5
            have HFT := Lib.hid hfit
            clear hfit hm hrr hr5 i42 i43 i63
            go_enter Try.func40, Try.ntmps40
            go_wp2_with fail
            refine (is_no s p d 42 _ hs HB0.out I42.out).mono ?_
            rintro e w10 ⟨rfl, hb10, F10⟩
            have HB10 := Lib.hid hb10
            have N110 := Lib.hid (F10.at_ N1.out E1.out)
            have N210 := Lib.hid (F10.at_ N2.out E2.out)
            have N310 := Lib.hid (F10.at_ N3.out E3.out)
            have N410 := Lib.hid (F10.at_ N4.out E4.out)
            have HF10 := Lib.hid (HF0.out.tr F10)
            clear hb10 F10
            go_wp2_with fail
            refine (is_no s p d 43 _ hs HB10.out I43.out).mono ?_
            rintro e w11 ⟨rfl, hb11, F11⟩
            have HB11 := Lib.hid hb11
            have N111 := Lib.hid (F11.at_ N110.out E1.out)
            have N211 := Lib.hid (F11.at_ N210.out E2.out)
            have N311 := Lib.hid (F11.at_ N310.out E3.out)
            have N411 := Lib.hid (F11.at_ N410.out E4.out)
            have HF11 := Lib.hid (HF10.out.tr F11)
            clear hb11 F11
            go_wp2_with fail
            refine (is_yes s p d 63 _ hs HB11.out I63.out).mono ?_
            rintro e w12 ⟨rfl, hb12, F12⟩
            have HB12 := Lib.hid hb12
            have N112 := Lib.hid (F12.at_ N111.out E1.out)
            have N212 := Lib.hid (F12.at_ N211.out E2.out)
            have N312 := Lib.hid (F12.at_ N311.out E3.out)
            have N412 := Lib.hid (F12.at_ N411.out E4.out)
            have HF12 := Lib.hid (HF11.out.tr F12)
            clear hb12 F12
            obtain ⟨c0, c1, c2, c3, c4, c5⟩ := six N112.out
            obtain ⟨d0, d1, d2, d3, d4, d5⟩ := six N412.out
            have KL := Lib.hid (RxL.mono (ok' := fun i => (ok i ∨ w.heap.size ≤ i) ∧ i ≠ w.heap.size + 1) (fun i h => ⟨.inl h.1, by have := h.2; omega⟩) kids a 0 (RxL.move (fun i hi hlt => HF12.out.block i hlt (HOK.out i hi.1)) kids a 0 (RxL.bound kids a 0 HL.out)))
            have SL := Lib.hid (RxL.one (ok := fun i => (ok i ∨ w.heap.size ≤ i) ∧ i ≠ w.heap.size + 1) N312.out ⟨.inr (by omega), by omega⟩ hc KL.out)
            go_wp2_with fail
            have FA := (Fr.refl none_ w12).alloc (.cells #[.int .i64 k, .int .u64 b0, .int .u64 b1, .int .u64 b2, .int .u64 b3, .slice a kids.length cap, .int .i64 0, .int .u64 0, .int .u64 0, .int .u64 0, .int .u64 0, .slice none 0 0] 28)
            have TL := Lib.hid (RxL.two (ok := fun i => (ok i ∨ w.heap.size ≤ i) ∧ i ≠ w.heap.size + 1) (w := w12.alloc (.cells #[.int .i64 k, .int .u64 b0, .int .u64 b1, .int .u64 b2, .int .u64 b3, .slice a kids.length cap, .int .i64 0, .int .u64 0, .int .u64 0, .int .u64 0, .int .u64 0, .slice none 0 0] 28)) (xids := []) (alloc_new _ _) ⟨.inr (HF12.out.size), by have := lt_of_block N412.out; omega⟩ hc (RxL.move (fun i _ hlt => Below.heap_alloc _ _ _ hlt) kids a 0 KL.out) (Nat.le_refl _) (by simp only [RxL]))
            have HV := Lib.hid (RxV.mk_ (k := 3) (b0 := 0) (b1 := 0) (b2 := 0) (b3 := 0) (cap := 2) (Nat.le_refl _) TL.out)
            have HFx := Lib.hid (HF12.out.tr FA.none)
            have HBx := Lib.hid (FA.at_ HB12.out (fun h => h))
            have NZx := Lib.hid (FA.at_ N212.out (fun h => h))
            clear c0 c1 c2 c3 c4 c5 d0 d1 d2 d3 d4 d5 FA
            refine (fit_ok (.mk 3 0 0 0 0 [.mk k b0 b1 b2 b3 kids, .mk 0 0 0 0 0 []]) rr _ _ (fun i => (ok i ∨ w.heap.size ≤ i) ∧ i ≠ w.heap.size + 1) HV.out (by have := HR5.out; omega) HFT.out).mono ?_
            rintro e wf ⟨rfl, _, Ff⟩
            have HFf := Lib.hid (HFx.out.tr Ff.none)
            have HBf := Lib.hid (Ff.at_ HBx.out (fun h => h))
            have NZf := Lib.hid (Ff.at_ NZx.out (fun h => h))
            have HVf := Lib.hid (HV.out.move Ff (fun _ _ _ h => h))
            clear Ff
            go_wp2_with fail
            refine (HIH.out (.mk 3 0 0 0 0 [.mk k b0 b1 b2 b3 kids, .mk 0 0 0 0 0 []]) _ (p + 1) d _ (fun i => (ok i ∨ w.heap.size ≤ i) ∧ i ≠ w.heap.size + 1) m HBf.out HVf.out HR5.out EOK.out HMM.out).mono ?_
            intro e wg hg
            cases m with
            | error en =>
              obtain ⟨rfl, Fg⟩ := hg
              have HFg := Lib.hid (HFf.out.tr Fg)
              clear Fg
              go_wp2_with fail
              exact ⟨rfl, rfl, HFg.out⟩
            | ok y =>
              obtain ⟨⟨k', x0, x1, x2, x3, xids⟩, q⟩ := y
              obtain ⟨v', rfl, hv', hb', Fg⟩ := hg
              obtain ⟨va, vcap, rfl, hvc, hvl⟩ := hv'.open_
              have nz := Fg.at_ NZf.out E2.out
              obtain ⟨z0, z1, z2, z3, z4, z5⟩ := six nz
              have zf : ∀ o, wg.frozen? ⟨w.heap.size + 1, o, none⟩ = false := fun o => free_of_block nz
              have NZ := Lib.hid nz
              have HVL := Lib.hid hvl
              have HBg := Lib.hid hb'
              have HFg := Lib.hid (HFf.out.tr Fg)
              clear hvl hv' hb' Fg nz
              go_wp2_with fail
              refine bodyPost_ret (results_six rfl rfl (set_six NZ.out _ _ _ _ _ _)) rfl ?_
              have fx := fr_six (S := at1 (w.heap.size + 1)) (r := w.heap.size + 1) (Fr.refl _ wg) (.inl rfl) (.int .i64 k') (.int .u64 x0) (.int .u64 x1) (.int .u64 x2) (.int .u64 x3) (.slice va xids.length vcap)
              have hlz := lt_of_block NZf.out
              have hsz0 := HFf.out.size
              refine ⟨_, rfl, ((RxV.mk_ hvc HVL.out).move fx (fun i hi _ => ?_)).mono (fun i hi => ?_), fx.at_ HBg.out (by simp only [at1]; omega), fr_six HFg.out (.inr (by omega)) _ _ _ _ _ _⟩
              · simp only [at1]
                rcases hi with hi | hi
                · exact hi.2
                · omega
              · rcases hi with hi | hi
                · exact hi.1
                · exact .inr (by omega)
        | false =>
          have I63 := Lib.hid i63
          have hm : m = .ok (.mk k b0 b1 b2 b3 kids, p) := by
            have g := HM.out
            simp only [behindB, i42, i43, i63, if_false, Bool.false_eq_true, Option.some.injEq] at g
            exact g.symm
          subst hm
          clear i42 i43 i63
          go_enter Try.func40, Try.ntmps40
          go_wp2_with fail
          refine (is_no s p d 42 _ hs HB0.out I42.out).mono ?_
          rintro e w13 ⟨rfl, hb13, F13⟩
          have HB13 := Lib.hid hb13
          have N113 := Lib.hid (F13.at_ N1.out E1.out)
          have N213 := Lib.hid (F13.at_ N2.out E2.out)
          have N313 := Lib.hid (F13.at_ N3.out E3.out)
          have N413 := Lib.hid (F13.at_ N4.out E4.out)
          have HF13 := Lib.hid (HF0.out.tr F13)
          clear hb13 F13
          go_wp2_with fail
          refine (is_no s p d 43 _ hs HB13.out I43.out).mono ?_
          rintro e w14 ⟨rfl, hb14, F14⟩
          have HB14 := Lib.hid hb14
          have N114 := Lib.hid (F14.at_ N113.out E1.out)
          have N214 := Lib.hid (F14.at_ N213.out E2.out)
          have N314 := Lib.hid (F14.at_ N313.out E3.out)
          have N414 := Lib.hid (F14.at_ N413.out E4.out)
          have HF14 := Lib.hid (HF13.out.tr F14)
          clear hb14 F14
          go_wp2_with fail
          refine (is_no s p d 63 _ hs HB14.out I63.out).mono ?_
          rintro e w15 ⟨rfl, hb15, F15⟩
          have HB15 := Lib.hid hb15
          have N115 := Lib.hid (F15.at_ N114.out E1.out)
          have N215 := Lib.hid (F15.at_ N214.out E2.out)
          have N315 := Lib.hid (F15.at_ N314.out E3.out)
          have N415 := Lib.hid (F15.at_ N414.out E4.out)
          have HF15 := Lib.hid (HF14.out.tr F15)
          clear hb15 F15
          obtain ⟨c0, c1, c2, c3, c4, c5⟩ := six N115.out
          obtain ⟨z0, z1, z2, z3, z4, z5⟩ := six N215.out
          have zf : ∀ o, w15.frozen? ⟨w.heap.size + 1, o, none⟩ = false := fun o => free_of_block N215.out
          go_wp2_with fail
          refine bodyPost_ret (results_six rfl rfl (set_six N215.out _ _ _ _ _ _)) rfl ?_
          have fx := fr_six (S := at1 (w.heap.size + 1)) (r := w.heap.size + 1) (Fr.refl _ w15) (.inl rfl) (.int .i64 k) (.int .u64 b0) (.int .u64 b1) (.int .u64 b2) (.int .u64 b3) (.slice a kids.length cap)
          have KL := RxL.move (fun i hi hlt => HF15.out.block i hlt (HOK.out i hi.1)) kids a 0 (RxL.bound kids a 0 HL.out)
          refine ⟨_, rfl, ((RxV.mk_ hc KL).move fx (fun i hi _ => ?_)).mono (fun i hi => .inl hi.1), fx.at_ HB15.out (by simp only [at1]; omega), fr_six HF15.out (.inr (by omega)) _ _ _ _ _ _⟩
          simp only [at1]
          have := hi.2
          omega
end Go.Proofs.Ytjbmppbciiemkaa
