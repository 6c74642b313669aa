/-
  The reference of layer 3: an atom in brackets; all atoms.
-/
import Derived.Test.YtjbmppbciiemkaaYi
namespace Go.Proofs.Ytjbmppbciiemkaa set_option linter.unusedVariables false set_option linter.unusedSimpArgs false
open Go.RowKit

def after40 (s : ByteArray) (mw : Got Rx) : Got Rx := match mw with
  | .error e => .error e
  | .ok (r, q2) => if isB s q2 41 then .ok (r, q2 + 1) else .error 5
theorem atom40_eq {s : ByteArray} {k p : Nat} {m : Got Rx} (hp : p < s.size) (hb : byteAt s p = 40) (hm : atomB s (k + 1) p = some m) : ∃ mw, waysB s k (p + 1) = some mw ∧ m = after40 s mw := by
  rw [atomB] at hm
  simp only [nextB, if_pos hp, hb, if_true] at hm
  cases hx : waysB s k (p + 1) with
  | none => rw [hx] at hm; simp at hm
  | some mw =>
    rw [hx] at hm
    refine ⟨mw, rfl, ?_⟩
    cases mw with
    | error e => simpa [after40] using hm.symm
    | ok x =>
      obtain ⟨r, q2⟩ := x
      cases h41 : isB s q2 41 with
      | true => simpa [after40, h41] using hm.symm
      | false => simpa [after40, h41] using hm.symm
theorem alloc_six (w : World) (o : Obj) {cells : Array Value} {t : TypeId} (h : o = .cells cells t (0, 0)) : (w.alloc o).heap[w.heap.size]? = some (.cells cells t (0, 0)) := by rw [← h]; exact alloc_new w o
set_option maxRecDepth 100000 in
set_option maxHeartbeats 4000000 in
theorem ratom_40 (s : ByteArray) (p d k : Nat) (w : World) (m : Got Rx) (hs : s.size ≤ 1000) (hb : w.heap[d]? = some (rrObj s p false false)) (hp : p < s.size) (h40 : isB s p 40 = true) (hk : k ≤ 10000) (hways : RWaysC s k) (hm : atomB s (k + 1) p = some m) (hb40 : byteAt s p = 40) :
    Calls Try.prog 42 #[.pointer (some ⟨d, 0, none⟩)] w (RGotR (k + 2) d s w m) := by
  have hd := lt_of_block hb
  have H0 := Lib.hid (CS.start hb)
  obtain ⟨q1, hq1⟩ : ∃ x, p + 1 = x := ⟨_, rfl⟩
  have hc1 : (p : Int) + 1 = (q1 : Int) := by omega
  have hq1s : q1 ≤ s.size := by omega
  have hp0 : (0 : Int) ≤ (p : Int) := by omega
  clear hb
  have E40 := Lib.hid h40
  clear h40
  obtain ⟨mw, hmw, hmm⟩ := atom40_eq hp hb40 hm
  rw [hq1] at hmw
  have HMW := Lib.hid hmw
  have HMM := Lib.hid hmm
  have HW := Lib.hid hways
  have HQE := Lib.hid hq1
  clear hm hmw hmm hways hb40
  go_enter Try.func42, Try.ntmps42
  go_wp2_with fail
  have C1 := H0.out
  obtain ⟨w1, hw1⟩ : ∃ x, (w.alloc (.cells #[.int .i64 0, .int .u64 0, .int .u64 0, .int .u64 0, .int .u64 0, .slice none 0 0] 28)).alloc (.cells Try.zeroCells84 84) = x := ⟨_, rfl⟩
  rw [hw1] at C1 ⊢
  clear hw1
  have H1 := Lib.hid C1
  clear C1
  refine (ris_any s p d 40 false false _ hs H1.out.b).mono ?_
  rintro e w2 ⟨rfl, F2⟩
  have H2 := Lib.hid (H1.out.move F2)
  clear F2
  rw [E40.out]
  obtain ⟨y2, yb2, yf2⟩ := H2.out.get
  go_wp2_with fail
  try rw [hc1]
  clear y2 yb2 yf2
  have C3 := H2.out.step hd q1
  obtain ⟨w3, hw3⟩ : ∃ x, w2.setCell ⟨d, 1, none⟩ (.int .i64 (q1 : Int)) = x := ⟨_, rfl⟩
  rw [hw3] at C3 ⊢
  clear hw3
  have H3 := Lib.hid C3
  clear C3
  refine (HW.out q1 d _ mw hq1s H3.out.b HMW.out).mono ?_
  intro e wb hg
  have hsz := Lib.hid (show w.heap.size < w3.heap.size from lt_of_block H3.out.r)
  have hres : ∃ (v : Value) (r : Rx) (q2 : Nat) (bd mn : Bool), e = .returned v ∧ RxV (fun i => w3.heap.size ≤ i) wb v r ∧ wb.heap[d]? = some (rrObj s q2 bd mn) ∧ Fr (at1 d) w3 wb ∧ q2 ≤ s.size + (k + 1) ∧ ((bd = false ∧ mn = false ∧ mw = .ok (r, q2)) ∨ ∃ n, mw = .error n ∧ bd = true ∧ mn = (n == 4)) := by
    cases mw with
    | ok x =>
      obtain ⟨v, h1, h2, h3, h4⟩ := hg
      have := (all_at hs k).1 q1 x.2 x.1 hq1s HMW.out
      exact ⟨v, _, _, _, _, h1, h2, h3, h4, by omega, .inl ⟨rfl, rfl, rfl⟩⟩
    | error n =>
      obtain ⟨v, r, q, h1, h2, h3, h4, h5⟩ := hg
      exact ⟨v, r, q, _, _, h1, h2, h4, h5, h3, .inr ⟨n, rfl, rfl, rfl⟩⟩
  obtain ⟨v, ⟨k', x0, x1, x2, x3, xids⟩, q2, bd, mn, rfl, hv, hb2, F2, hq2, hst⟩ := hres
  obtain ⟨va, vcap, rfl, hvc, hvl⟩ := hv.open_
  obtain ⟨q3, hq3⟩ : ∃ x, q2 + 1 = x := ⟨_, rfl⟩
  have hc3 : (q2 : Int) + 1 = (q3 : Int) := by omega
  have HNR0 := F2.at_ H3.out.r (by simp only [at1]; omega)
  have FA := (Fr.refl none_ wb).alloc (.cells #[.int .i64 k', .int .u64 x0, .int .u64 x1, .int .u64 x2, .int .u64 x3, .slice va xids.length vcap] 28)
  have HVL := Lib.hid (RxL.move (w' := wb.alloc (.cells #[.int .i64 k', .int .u64 x0, .int .u64 x1, .int .u64 x2, .int .u64 x3, .slice va xids.length vcap] 28)) (fun i _ hlt => FA.block i hlt (fun h => h)) xids va 0 hvl)
  have HNR := Lib.hid (FA.at_ HNR0 (fun h => h))
  have HNB := Lib.hid (FA.at_ hb2 (fun h => h))
  have HN4 := Lib.hid (alloc_new wb (.cells #[.int .i64 k', .int .u64 x0, .int .u64 x1, .int .u64 x2, .int .u64 x3, .slice va xids.length vcap] 28))
  have HNF := Lib.hid ((H3.out.f.tr F2).tr FA.none)
  have HST := Lib.hid hst
  have hne : d ≠ wb.heap.size := by have := lt_of_block hb2; omega
  have hne2 : w.heap.size ≠ wb.heap.size := by have := lt_of_block HNR0; omega
  clear hg hv hvl hb2 F2 hst HNR0 FA
  go_wp2_with fail
  obtain ⟨nb, hnb⟩ : ∃ x, wb.heap.size = x := ⟨_, rfl⟩
  rw [hnb] at HN4 hne hne2 ⊢
  obtain ⟨wc, hwc⟩ : ∃ x, wb.alloc (.cells #[.int .i64 k', .int .u64 x0, .int .u64 x1, .int .u64 x2, .int .u64 x3, .slice va xids.length vcap] 28) = x := ⟨_, rfl⟩
  rw [hwc] at HVL HNR HNB HN4 HNF ⊢
  clear hnb hwc
  refine (ris_any s q2 d 41 bd mn _ hs HNB.out).mono ?_
  rintro e wd ⟨rfl, Fd⟩
  have HVLd := Lib.hid (RxL.move (w' := wd) (fun i _ hlt => Fd.block i hlt (fun h => h)) xids va 0 HVL.out)
  have HNRd := Lib.hid (Fd.at_ HNR.out (fun h => h))
  have HNBd := Lib.hid (Fd.at_ HNB.out (fun h => h))
  have HN4d := Lib.hid (Fd.at_ HN4.out (fun h => h))
  have HNFd := Lib.hid (HNF.out.tr Fd.none)
  have HSZ := Lib.hid (show w.heap.size < wd.heap.size from lt_of_block HNRd.out)
  clear Fd HVL HNR HNB HN4 HNF
  cases h41 : isB s q2 41 with
  | true =>
    have E41 := Lib.hid h41
    clear h41
    have HB3 := Lib.hid (rr_step HNBd.out q3)
    obtain ⟨FZ, hFZ⟩ : ∃ FZ : World, FZ = wd.setCell ⟨d, 1, none⟩ (.int .i64 (q3 : Int)) := ⟨_, rfl⟩
    have F3 := Lib.hid (rd_set (d := d) (Fr.refl none_ wd) 1 (.int .i64 (q3 : Int)))
    rw [← hFZ] at HB3 F3
    have HN4e := F3.out.at_ HN4d.out (by simp only [at1]; omega)
    have HNRe := Lib.hid (F3.out.at_ HNRd.out (by simp only [at1]; omega))
    obtain ⟨c0, c1, c2, c3, c4, c5⟩ := six HN4e
    obtain ⟨r0, r1, r2, r3, r4, r5⟩ := six HNRe.out
    have g1 : ∀ o, FZ.frozen? ⟨w.heap.size, o, none⟩ = false := fun o => free_of_block HNRe.out
    have y1 : wd.cell? ⟨d, 1, none⟩ = some (.int .i64 (q2 : Int)) := cell_of_block HNBd.out rfl
    have y2 : wd.cell? ⟨d, 2, none⟩ = some (.bool bd) := cell_of_block HNBd.out rfl
    have yf : ∀ o, wd.frozen? ⟨d, o, none⟩ = false := fun o => free_of_block HNBd.out
    have HVLe := Lib.hid (RxL.move (w' := FZ) (fun i hi hlt => F3.out.block i hlt (by have := hsz.out; simp only [at1]; omega)) xids va 0 (RxL.bound xids va 0 HVLd.out))
    have HFe := Lib.hid (HNFd.out.tr F3.out)
    clear HN4e
    rw [hFZ] at c0 c1 c2 c3 c4 c5 r0 r1 r2 r3 r4 r5 g1
    go_wp2_with fail
    rw [← hFZ]
    refine bodyPost_ret (results_six rfl rfl (set_six HNRe.out _ _ _ _ _ _)) rfl ?_
    have fx := fr_six (S := at1 w.heap.size) (r := w.heap.size) (Fr.refl _ FZ) (.inl rfl) (.int .i64 k') (.int .u64 x0) (.int .u64 x1) (.int .u64 x2) (.int .u64 x3) (.slice va xids.length vcap)
    have hbx := fx.at_ HB3.out (by simp only [at1]; omega)
    have hfx := fr_six HFe.out (.inr (Nat.le_refl _)) (.int .i64 k') (.int .u64 x0) (.int .u64 x1) (.int .u64 x2) (.int .u64 x3) (.slice va xids.length vcap)
    have hrx := ((RxV.mk_ (k := k') (b0 := x0) (b1 := x1) (b2 := x2) (b3 := x3) hvc HVLe.out).move fx (fun i hi _ => by have := hsz.out; simp only [at1]; omega)).mono (ok' := fun i => w.heap.size ≤ i) (fun i hi => by have := hsz.out; omega)
    rcases HST.out with ⟨rfl, rfl, hmw⟩ | ⟨n, hmw, rfl, rfl⟩
    · have hm := HMM.out
      rw [hmw] at hm
      simp only [after40, E41.out, if_true, if_false, Bool.false_eq_true] at hm
      subst hm
      exact ⟨_, rfl, hrx, by first | exact hbx | (rw [hq3]; exact hbx), hfx⟩
    · have hm := HMM.out
      rw [hmw] at hm
      simp only [after40] at hm
      subst hm
      exact ⟨_, _, q3, rfl, hrx, by omega, hbx, hfx⟩
  | false =>
    have E41 := Lib.hid h41
    clear h41
    have HB3 := Lib.hid (rr_step (rr_bad HNBd.out true) q3)
    obtain ⟨FZ, hFZ⟩ : ∃ FZ : World, FZ = (wd.setCell ⟨d, 2, none⟩ (.bool true)).setCell ⟨d, 1, none⟩ (.int .i64 (q3 : Int)) := ⟨_, rfl⟩
    have F3 := Lib.hid (rd_set1 (d := d) (rd_set (d := d) (Fr.refl none_ wd) 2 (.bool true)) 1 (.int .i64 (q3 : Int)))
    have w1 : (wd.setCell ⟨d, 2, none⟩ (.bool true)).cell? ⟨d, 1, none⟩ = some (.int .i64 (q2 : Int)) := cell_of_block (rr_bad HNBd.out true) rfl
    have wf1 : (wd.setCell ⟨d, 2, none⟩ (.bool true)).frozen? ⟨d, 1, none⟩ = false := free_of_block (rr_bad HNBd.out true)
    rw [← hFZ] at HB3 F3
    have HN4e := F3.out.at_ HN4d.out (by simp only [at1]; omega)
    have HNRe := Lib.hid (F3.out.at_ HNRd.out (by simp only [at1]; omega))
    obtain ⟨c0, c1, c2, c3, c4, c5⟩ := six HN4e
    obtain ⟨r0, r1, r2, r3, r4, r5⟩ := six HNRe.out
    have g1 : ∀ o, FZ.frozen? ⟨w.heap.size, o, none⟩ = false := fun o => free_of_block HNRe.out
    have y1 : wd.cell? ⟨d, 1, none⟩ = some (.int .i64 (q2 : Int)) := cell_of_block HNBd.out rfl
    have y2 : wd.cell? ⟨d, 2, none⟩ = some (.bool bd) := cell_of_block HNBd.out rfl
    have yf : ∀ o, wd.frozen? ⟨d, o, none⟩ = false := fun o => free_of_block HNBd.out
    have HVLe := Lib.hid (RxL.move (w' := FZ) (fun i hi hlt => F3.out.block i hlt (by have := hsz.out; simp only [at1]; omega)) xids va 0 (RxL.bound xids va 0 HVLd.out))
    have HFe := Lib.hid (HNFd.out.tr F3.out)
    clear HN4e
    rw [hFZ] at c0 c1 c2 c3 c4 c5 r0 r1 r2 r3 r4 r5 g1
    go_wp2_with fail
    rw [← hFZ]
    refine bodyPost_ret (results_six rfl rfl (set_six HNRe.out _ _ _ _ _ _)) rfl ?_
    have fx := fr_six (S := at1 w.heap.size) (r := w.heap.size) (Fr.refl _ FZ) (.inl rfl) (.int .i64 k') (.int .u64 x0) (.int .u64 x1) (.int .u64 x2) (.int .u64 x3) (.slice va xids.length vcap)
    have hbx := fx.at_ HB3.out (by simp only [at1]; omega)
    have hfx := fr_six HFe.out (.inr (Nat.le_refl _)) (.int .i64 k') (.int .u64 x0) (.int .u64 x1) (.int .u64 x2) (.int .u64 x3) (.slice va xids.length vcap)
    have hrx := ((RxV.mk_ (k := k') (b0 := x0) (b1 := x1) (b2 := x2) (b3 := x3) hvc HVLe.out).move fx (fun i hi _ => by have := hsz.out; simp only [at1]; omega)).mono (ok' := fun i => w.heap.size ≤ i) (fun i hi => by have := hsz.out; omega)
    rcases HST.out with ⟨rfl, rfl, hmw⟩ | ⟨n, hmw, rfl, rfl⟩
    · have hm := HMM.out
      rw [hmw] at hm
      simp only [after40, E41.out, if_true, if_false, Bool.false_eq_true] at hm
      subst hm
      exact ⟨_, _, q3, rfl, hrx, by omega, hbx, hfx⟩
    · have hm := HMM.out
      rw [hmw] at hm
      simp only [after40] at hm
      subst hm
      exact ⟨_, _, q3, rfl, hrx, by omega, hbx, hfx⟩

theorem refatom_step (s : ByteArray) (hs : s.size ≤ 1000) (k : Nat) (hk : k ≤ 10000) (hways : ∀ j, j < k → RWaysC s j) : RAtomC s k := by
  intro p d w m hp h124 h41 hb hm
  have lift : ∀ {K K' : Nat} {m : Got Rx} {e : Ending} {w' : World}, K ≤ K' → RGotR K d s w m e w' → RGotR K' d s w m e w' := by
    intro K K' m e w' hK h
    cases m with
    | ok x => exact h
    | error n =>
      obtain ⟨v, r, q, h1, h2, h3, h4, h5⟩ := h
      exact ⟨v, r, q, h1, h2, by omega, h4, h5⟩
  cases k with
  | zero => simp [atomB] at hm
  | succ k =>
    obtain ⟨b, hbb⟩ : ∃ b, byteAt s p = b := ⟨_, rfl⟩
    have hi : ∀ c, isB s p c = decide (b = c) := fun c => by simp [isB, hp, hbb]
    have no : ∀ {c : Nat}, b ≠ c → isB s p c = false := fun h => by rw [hi]; exact decide_eq_false h
    have yes : ∀ {c : Nat}, b = c → isB s p c = true := fun h => by rw [hi]; exact decide_eq_true h
    have hnext : nextB s p = .ok (b, p + 1) := by rw [nextB, if_pos hp, hbb]
    by_cases h40 : b = 40
    · subst h40
      exact ratom_40 s p d k w m hs hb hp (yes rfl) (by omega) (hways k (by omega)) hm hbb
    rw [atomB] at hm
    simp only [hnext, if_neg h40] at hm
    by_cases h91 : b = 91
    · rw [if_pos h91] at hm
      exact (ratom_91 s p d k w m hs hb hp (no h40) (yes h91) hm).mono fun e w' h => lift (by omega) h
    rw [if_neg h91] at hm
    by_cases h46 : b = 46
    · rw [if_pos h46] at hm
      simp only [Option.some.injEq] at hm
      subst hm
      exact (ratom_46 s p d k w (.error 0) hs hb hp (no h40) (no h91) (yes h46) _ rfl).mono fun e w' h => lift (by omega) h
    rw [if_neg h46] at hm
    by_cases h92 : b = 92
    · rw [if_pos h92] at hm
      refine (ratom_92 s p d k w m hs hb hp (no h40) (no h91) (no h46) (yes h92) ?_).mono fun e w' h => lift (by omega) h
      cases hc : charB s (p + 1) with
      | error e => rw [hc] at hm; simpa using hm.symm
      | ok x => rw [hc] at hm; simpa using hm.symm
    rw [if_neg h92] at hm
    have n124 : b ≠ 124 := fun h => by rw [yes h] at h124; simp at h124
    have n41 : b ≠ 41 := fun h => by rw [yes h] at h41; simp at h41
    by_cases h42 : b = 42
    · rw [if_pos (.inl h42)] at hm
      simp only [Option.some.injEq] at hm
      subst hm
      exact (ratom_42 s p d k w (.error 0) hs hb hp (no h40) (no h91) (no h46) (no h92) (yes h42)).mono fun e w' h => lift (by omega) h
    by_cases h43 : b = 43
    · rw [if_pos (.inr (.inl h43))] at hm
      simp only [Option.some.injEq] at hm
      subst hm
      exact (ratom_43 s p d k w (.error 0) hs hb hp (no h40) (no h91) (no h46) (no h92) (no h42) (yes h43)).mono fun e w' h => lift (by omega) h
    by_cases h63 : b = 63
    · rw [if_pos (.inr (.inr (.inl h63)))] at hm
      simp only [Option.some.injEq] at hm
      subst hm
      exact (ratom_63 s p d k w (.error 0) hs hb hp (no h40) (no h91) (no h46) (no h92) (no h42) (no h43) (yes h63)).mono fun e w' h => lift (by omega) h
    by_cases h93 : b = 93
    · rw [if_pos (.inr (.inr (.inr (.inl h93))))] at hm
      simp only [Option.some.injEq] at hm
      subst hm
      exact (ratom_93 s p d k w (.error 0) hs hb hp (no h40) (no h91) (no h46) (no h92) (no h42) (no h43) (no h63) (yes h93)).mono fun e w' h => lift (by omega) h
    rw [if_neg (by simp [h42, h43, h63, h93, n124, n41])] at hm
    simp only [Option.some.injEq] at hm
    subst hm
    exact (ratom_byte s p d k w (.error 0) hs hb hp (no h40) (no h91) (no h46) (no h92) (no h42) (no h43) (no h63) (no h93) b hbb _ rfl).mono fun e w' h => lift (by omega) h
end Go.Proofs.Ytjbmppbciiemkaa
