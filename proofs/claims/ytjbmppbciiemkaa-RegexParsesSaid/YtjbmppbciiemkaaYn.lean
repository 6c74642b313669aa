/-
  The reference of layer 3: Parse.
-/
import Derived.Test.YtjbmppbciiemkaaYm
import Derived.Test.YtjbmppbciiemkaaRg
namespace Go.Proofs.Ytjbmppbciiemkaa set_option linter.unusedVariables false set_option linter.unusedSimpArgs false
open Go.RowKit

theorem results_rparse {fn : Func} (h : fn.results = #[.cell 2 28, .tmp 3]) {tmps : Array Value} {r : Nat} (hp : tmps.getD 2 undef = .pointer (some ⟨r, 0, none⟩)) {v6 : Value} (hp2 : tmps.getD 3 undef = v6) {w : World} {v0 v1 v2 v3 v4 v5 : Value} {t : TypeId}
    (hb : w.heap[r]? = some (.cells #[v0, v1, v2, v3, v4, v5] t (0, 0))) : (results fn tmps).run Try.prog w = .ok (.tuple #[.agg #[v0, v1, v2, v3, v4, v5], v6]) w := by
  have c0 : w.cell? ⟨r, 0, none⟩ = some v0 := cell_of_block hb rfl
  have c1 : w.cell? ⟨r, 1, none⟩ = some v1 := cell_of_block hb rfl
  have c2 : w.cell? ⟨r, 2, none⟩ = some v2 := cell_of_block hb rfl
  have c3 : w.cell? ⟨r, 3, none⟩ = some v3 := cell_of_block hb rfl
  have c4 : w.cell? ⟨r, 4, none⟩ = some v4 := cell_of_block hb rfl
  have c5 : w.cell? ⟨r, 5, none⟩ = some v5 := cell_of_block hb rfl
  have hp' : tmps[2]?.getD undef = .pointer (some ⟨r, 0, none⟩) := by simpa using hp
  have hp2' : tmps[3]?.getD undef = v6 := by simpa using hp2
  simp [results, h, hp', hp2', go_sem, c0, c1, c2, c3, c4, c5]
theorem parseM_ways {s : ByteArray} (hs : s.size ≤ 200) : ∃ mw, waysB s 604 0 = some mw ∧ parseM s = match mw with | .error e => .error e | .ok (r, q) => if q < s.size then .error 5 else fitR r := by
  have h := parseB_total s
  rw [parseB, if_neg (by omega)] at h
  cases hw : waysB s 604 0 with
  | none => rw [hw] at h; simp at h
  | some mw =>
    rw [hw] at h
    refine ⟨mw, rfl, ?_⟩
    cases mw with
    | error e => simpa using h.symm
    | ok x =>
      obtain ⟨r, q⟩ := x
      dsimp only at h ⊢
      by_cases hq : q < s.size
      · rw [if_pos hq] at h ⊢; simpa using h.symm
      · rw [if_neg hq] at h ⊢
        cases hf : fitR r with
        | error e => rw [hf] at h; simpa using h.symm
        | ok x => rw [hf] at h; simpa using h.symm
/-- What stands while a text is parsed. -/
structure PS (s : ByteArray) (w : World) (d n5 q : Nat) (bd mn : Bool) (c : Int) (x0 x1 x2 x3 : Nat) (xids : List Rx) (va : Option Addr) (vcap : Nat) (wr : World) : Prop where
  b : wr.heap[d]? = some (rrObj s q bd mn)
  z : wr.heap[w.heap.size]? = some (rxO 0 0 0 0 0 none 0 0)
  rb : wr.heap[n5]? = some (rxO c x0 x1 x2 x3 va xids.length vcap)
  rl : RxL (fun i => d < i ∧ i < n5) wr va 0 xids
  rc : xids.length ≤ vcap
  f : Fr none_ w wr
  o : w.heap.size < d ∧ d < n5
theorem PS.call {s : ByteArray} {w : World} {d n5 q q' : Nat} {bd mn bd' mn' : Bool} {c : Int} {x0 x1 x2 x3 : Nat} {xids : List Rx} {va : Option Addr} {vcap : Nat} {wr wz : World} (h : PS s w d n5 q bd mn c x0 x1 x2 x3 xids va vcap wr) (hb : wz.heap[d]? = some (rrObj s q' bd' mn')) (hf : Fr (at1 d) wr wz) : PS s w d n5 q' bd' mn' c x0 x1 x2 x3 xids va vcap wz := by
  obtain ⟨o1, o2⟩ := h.o
  exact ⟨hb, hf.at_ h.z (by simp only [at1]; omega), hf.at_ h.rb (by simp only [at1]; omega), RxL.move (fun i hi hlt => hf.block i hlt (by simp only [at1]; omega)) xids va 0 h.rl, h.rc, h.f.fresh hf (fun i hi => by simp only [at1] at hi; omega), ⟨o1, o2⟩⟩
theorem PS.get {s : ByteArray} {w : World} {d n5 q : Nat} {bd mn : Bool} {c : Int} {x0 x1 x2 x3 : Nat} {xids : List Rx} {va : Option Addr} {vcap : Nat} {wr : World} (h : PS s w d n5 q bd mn c x0 x1 x2 x3 xids va vcap wr) : wr.cell? ⟨d, 1, none⟩ = some (.int .i64 q) ∧ wr.cell? ⟨d, 2, none⟩ = some (.bool bd) ∧ wr.cell? ⟨d, 3, none⟩ = some (.bool mn) ∧ (∀ o, wr.frozen? ⟨d, o, none⟩ = false) ∧ (∀ o, wr.frozen? ⟨w.heap.size, o, none⟩ = false) :=
  ⟨cell_of_block h.b rfl, cell_of_block h.b rfl, cell_of_block h.b rfl, fun o => free_of_block h.b, fun o => free_of_block h.z⟩
set_option maxRecDepth 100000 in
set_option maxHeartbeats 4000000 in
theorem rparse_any (s : ByteArray) (hs : s.size ≤ 200) (w : World) :
    Calls Try.prog 6 #[.string s] w fun e w' => ∃ v, e = .returned (.tuple #[v, .int .i64 (parseN s)]) ∧ RxV (fun _ => True) w' v (parseR s) ∧ Fr none_ w w' := by
  obtain ⟨mw, hmw, hpm⟩ := parseM_ways hs
  obtain ⟨pn, hpn⟩ : ∃ x, parseN s = x := ⟨_, rfl⟩
  obtain ⟨pr, hpr⟩ : ∃ x, parseR s = x := ⟨_, rfl⟩
  have HPN := Lib.hid hpn
  have HPR := Lib.hid hpr
  have HPM := Lib.hid hpm
  have HMW := Lib.hid hmw
  rw [hpn, hpr]
  clear hmw hpm hpn hpr
  have s1 : (w.alloc (.cells #[.int .i64 0, .int .u64 0, .int .u64 0, .int .u64 0, .int .u64 0, .slice none 0 0] 28)).heap.size = w.heap.size + 1 := by simp
  have HZ0 := Lib.hid (((Fr.refl none_ (w.alloc (.cells #[.int .i64 0, .int .u64 0, .int .u64 0, .int .u64 0, .int .u64 0, .slice none 0 0] 28))).alloc (.cells #[.string s, .int .i64 0, .bool false, .bool false] 48)).at_ (alloc_new w (.cells #[.int .i64 0, .int .u64 0, .int .u64 0, .int .u64 0, .int .u64 0, .slice none 0 0] 28)) (fun h => h))
  have HB0 := Lib.hid (show ((w.alloc (.cells #[.int .i64 0, .int .u64 0, .int .u64 0, .int .u64 0, .int .u64 0, .slice none 0 0] 28)).alloc (.cells #[.string s, .int .i64 0, .bool false, .bool false] 48)).heap[w.heap.size + 1]? = some (rrObj s 0 false false) by rw [← s1]; exact alloc_new _ _)
  have HF0 := Lib.hid (((Fr.refl none_ w).alloc (.cells #[.int .i64 0, .int .u64 0, .int .u64 0, .int .u64 0, .int .u64 0, .slice none 0 0] 28)).alloc (.cells #[.string s, .int .i64 0, .bool false, .bool false] 48))
  have hw0 : ((w.alloc (.cells #[.int .i64 0, .int .u64 0, .int .u64 0, .int .u64 0, .int .u64 0, .slice none 0 0] 28)).alloc (.cells #[.string s, .int .i64 0, .bool false, .bool false] 48)).heap.size = w.heap.size + 2 := by simp
  have HS0 := Lib.hid hw0
  have hsl : (s.size : Int) ≤ 200 := by omega
  clear s1 hw0
  go_enter Try.func6, Try.ntmps6
  go_wp2_with fail
  obtain ⟨w0, hw0⟩ : ∃ x, (w.alloc (.cells #[.int .i64 0, .int .u64 0, .int .u64 0, .int .u64 0, .int .u64 0, .slice none 0 0] 28)).alloc (.cells #[.string s, .int .i64 0, .bool false, .bool false] 48) = x := ⟨_, rfl⟩
  rw [hw0] at HZ0 HB0 HF0 HS0 ⊢
  clear hw0
  obtain ⟨d, hd⟩ : ∃ x, w.heap.size + 1 = x := ⟨_, rfl⟩
  rw [hd] at HB0 ⊢
  refine ((rreader_all s (by omega) 604 (by omega)).2.2 0 d _ mw (Nat.zero_le _) HB0.out HMW.out).mono ?_
  intro e wa hg
  obtain ⟨v, ⟨c, x0, x1, x2, x3, xids⟩, q, bd, mn, rfl, hv, hb2, F2, hst⟩ := hg.all (fun r q h => by
    subst h
    exact ((all_at (by omega) 604).1 0 q r (Nat.zero_le _) HMW.out).2.1)
  have hrs : bd = false → (Rx.mk c x0 x1 x2 x3 xids).size ≤ 600000000 := fun h => by
    rcases hst with ⟨_, _, _, h2⟩ | ⟨h2, _⟩
    · subst h2
      exact ((all_at (by omega) 604).1 0 q _ (Nat.zero_le _) HMW.out).2.2
    · rw [h] at h2; simp at h2
  obtain ⟨va, vcap, rfl, hvc, hvl⟩ := (hv.bound).open_
  have HI := Lib.hid (show PS s w d wa.heap.size q bd mn c x0 x1 x2 x3 xids va vcap (wa.alloc (.cells #[.int .i64 c, .int .u64 (x0 : Int), .int .u64 (x1 : Int), .int .u64 (x2 : Int), .int .u64 (x3 : Int), .slice va xids.length vcap] 28)) from by
    have FA := (Fr.refl none_ wa).alloc (.cells #[.int .i64 c, .int .u64 (x0 : Int), .int .u64 (x1 : Int), .int .u64 (x2 : Int), .int .u64 (x3 : Int), .slice va xids.length vcap] 28)
    have h2 := HS0.out
    refine ⟨FA.at_ hb2 (fun h => h), FA.at_ (F2.at_ HZ0.out (by simp only [at1]; omega)) (fun h => h), alloc_new wa _, RxL.mono (fun i hi => ⟨by omega, hi.2⟩) xids va 0 (RxL.move (fun i _ hlt => FA.block i hlt (fun h => h)) xids va 0 hvl), hvc, (HF0.out.fresh F2 (fun i hi => by simp only [at1] at hi; omega)).tr FA, ⟨by omega, lt_of_block hb2⟩⟩)
  have HST := Lib.hid hst
  have HRS := Lib.hid hrs
  obtain ⟨y1, y2, y3, yf, zf⟩ := HI.out.get
  obtain ⟨k0, k1, k2, k3, k4, k5⟩ := six HI.out.rb
  have hmn : mn = false ∨ bd = true := by
    rcases hst with ⟨_, h, _⟩ | ⟨h, _⟩
    · exact .inl h
    · exact .inr h
  clear hg hv hvl hb2 F2 hst hrs
  cases bd with
  | true =>
    go_wp2_with fail
    clear y1 y2 y3 yf zf k0 k1 k2 k3 k4 k5
    refine (rfits_all s q d true mn (.mk c x0 x1 x2 x3 xids) _ _ _ HI.out.b (RxV.mk_ HI.out.rc HI.out.rl) (fun h => by first | (simp at h; done) | (have := HRS.out rfl; omega))).mono ?_
    rintro e wf ⟨bd2, mn2, rfl, hb', F', hst2⟩
    have HQ := Lib.hid (HI.out.call hb' F')
    obtain ⟨y1, y2, y3, yf, zf⟩ := HQ.out.get
    obtain ⟨r0, r1, r2, r3, r4, r5⟩ := six HQ.out.z
    obtain ⟨k0, k1, k2, k3, k4, k5⟩ := six HQ.out.rb
    clear hb' F'
    rcases hst2 with ⟨rfl, rfl, _⟩ | ⟨h, _⟩
    case inr => simp at h
    cases mn2 with
    | true =>
      have HE := Lib.hid (show pn = 4 ∧ pr = Rx.zero from by
        have hpm : parseM s = .error 4 := by
          have h := HPM.out
          rcases HST.out with ⟨h2, _⟩ | ⟨_, _, n, hn, h4⟩
          · simp at h2
          · have h5 : n = 4 := by simpa using h4.symm
            rw [hn, h5] at h
            simpa using h
        rw [← HPN.out, ← HPR.out]
        exact ⟨by simp [parseN, hpm], by simp [parseR, hpm]⟩)
      go_wp2_with fail
      refine bodyPost_ret (results_rparse rfl rfl rfl (set_six HQ.out.z _ _ _ _ _ _)) rfl ?_
      obtain ⟨h1, h2⟩ := HE.out
      exact ⟨_, by rw [h1]; rfl, by rw [h2]; exact RxV.zero_ _ _, fr_six HQ.out.f (.inr (Nat.le_refl _)) _ _ _ _ _ _⟩
    | false =>
      have HE := Lib.hid (show pn = 5 ∧ pr = Rx.zero from by
        have hpm : parseM s = .error 5 := by
          have h := HPM.out
          rcases HST.out with ⟨h2, _⟩ | ⟨_, _, n, hn, h4⟩
          · simp at h2
          · have h5 : n ≠ 4 := by rintro rfl; simp at h4
            have := HMW.out
            rw [hn] at this
            have h6 := (all_err (s := s) 604).1 0 n this
            have h7 : n = 5 := by omega
            rw [hn, h7] at h
            simpa using h
        rw [← HPN.out, ← HPR.out]
        exact ⟨by simp [parseN, hpm], by simp [parseR, hpm]⟩)
      go_wp2_with fail
      refine bodyPost_ret (results_rparse rfl rfl rfl (set_six HQ.out.z _ _ _ _ _ _)) rfl ?_
      obtain ⟨h1, h2⟩ := HE.out
      exact ⟨_, by rw [h1]; rfl, by rw [h2]; exact RxV.zero_ _ _, fr_six HQ.out.f (.inr (Nat.le_refl _)) _ _ _ _ _ _⟩
  | false =>
    have hmn2 : mn = false := by
      rcases hmn with h | h
      · exact h
      · simp at h
    subst hmn2
    have hok : q ≤ s.size ∧ mw = .ok (.mk c x0 x1 x2 x3 xids, q) := by
      rcases HST.out with ⟨_, _, h1, h2⟩ | ⟨h, _⟩
      · exact ⟨h1, h2⟩
      · simp at h
    have HOK := Lib.hid hok.2
    have hqs := hok.1
    clear hok hmn
    by_cases hq : q = s.size
    case neg =>
      have hqI : ((q : Int) != (s.size : Int)) = true := by simp; omega
      have hp2 := Lib.hid (HI.out.call (rr_bad HI.out.b true) (rd_set (Fr.refl none_ _) 2 (.bool true)))
      obtain ⟨g1, g2, g3, gf, gz⟩ := hp2.out.get
      obtain ⟨h0, h1, h2, h3, h4, h5⟩ := six hp2.out.rb
      go_wp2_with fail
      clear y1 y2 y3 yf zf k0 k1 k2 k3 k4 k5 g1 g2 g3 gf gz h0 h1 h2 h3 h4 h5
      refine (rfits_all s q d true false (.mk c x0 x1 x2 x3 xids) _ _ _ hp2.out.b (RxV.mk_ hp2.out.rc hp2.out.rl) (fun h => by simp at h)).mono ?_
      rintro e wf ⟨bd2, mn2, rfl, hb', F', hst2⟩
      have HQ := Lib.hid (hp2.out.call hb' F')
      obtain ⟨y1, y2, y3, yf, zf⟩ := HQ.out.get
      obtain ⟨r0, r1, r2, r3, r4, r5⟩ := six HQ.out.z
      clear hb' F'
      rcases hst2 with ⟨rfl, rfl, _⟩ | ⟨h, _⟩
      case inr => simp at h
      have HE := Lib.hid (show pn = 5 ∧ pr = Rx.zero from by
        have hpm : parseM s = .error 5 := by
          have h := HPM.out
          rw [HOK.out] at h
          simp only at h
          rw [if_pos (by omega)] at h
          exact h
        rw [← HPN.out, ← HPR.out]
        exact ⟨by simp [parseN, hpm], by simp [parseR, hpm]⟩)
      go_wp2_with fail
      refine bodyPost_ret (results_rparse rfl rfl rfl (set_six HQ.out.z _ _ _ _ _ _)) rfl ?_
      obtain ⟨h1, h2⟩ := HE.out
      exact ⟨_, by rw [h1]; rfl, by rw [h2]; exact RxV.zero_ _ _, fr_six HQ.out.f (.inr (Nat.le_refl _)) _ _ _ _ _ _⟩
    subst hq
    go_wp2_with fail
    clear y1 y2 y3 yf zf k0 k1 k2 k3 k4 k5
    refine (rfits_all s s.size d false false (.mk c x0 x1 x2 x3 xids) _ _ _ HI.out.b (RxV.mk_ HI.out.rc HI.out.rl) (fun _ => by have := HRS.out (by first | rfl | trivial); omega)).mono ?_
    rintro e wf ⟨bd2, mn2, rfl, hb', F', hst2⟩
    have HQ := Lib.hid (HI.out.call hb' F')
    obtain ⟨y1, y2, y3, yf, zf⟩ := HQ.out.get
    obtain ⟨r0, r1, r2, r3, r4, r5⟩ := six HQ.out.z
    obtain ⟨k0, k1, k2, k3, k4, k5⟩ := six HQ.out.rb
    clear hb' F'
    rcases hst2 with ⟨rfl, rfl, h5⟩ | ⟨_, h5, rfl, rfl⟩
    · have HE := Lib.hid (show pn = 0 ∧ pr = .mk c x0 x1 x2 x3 xids from by
        have hpm : parseM s = .ok (.mk c x0 x1 x2 x3 xids) := by
          have h := HPM.out
          rw [HOK.out] at h
          simp only at h
          rw [if_neg (Nat.lt_irrefl _), fitR, if_neg (by have := h5 rfl; omega)] at h
          exact h
        rw [← HPN.out, ← HPR.out]
        exact ⟨by simp [parseN, hpm], by simp [parseR, hpm]⟩)
      clear h5
      go_wp2_with fail
      refine bodyPost_ret (results_rparse rfl rfl rfl (set_six HQ.out.z _ _ _ _ _ _)) rfl ?_
      obtain ⟨h1, h2⟩ := HE.out
      have fx := fr_six (S := at1 w.heap.size) (r := w.heap.size) (Fr.refl _ wf) (.inl rfl) (.int .i64 c) (.int .u64 (x0 : Int)) (.int .u64 (x1 : Int)) (.int .u64 (x2 : Int)) (.int .u64 (x3 : Int)) (.slice va xids.length vcap)
      have ho := HQ.out.o
      exact ⟨_, by rw [h1]; rfl, by rw [h2]; exact ((RxV.mk_ HQ.out.rc HQ.out.rl).move fx (fun i hi _ => by simp only [at1]; omega)).mono (fun _ _ => trivial), fr_six HQ.out.f (.inr (Nat.le_refl _)) _ _ _ _ _ _⟩
    · skip
      have HE := Lib.hid (show pn = 4 ∧ pr = Rx.zero from by
        have hpm : parseM s = .error 4 := by
          have h := HPM.out
          rw [HOK.out] at h
          simp only at h
          rw [if_neg (Nat.lt_irrefl _), fitR, if_pos h5] at h
          exact h
        rw [← HPN.out, ← HPR.out]
        exact ⟨by simp [parseN, hpm], by simp [parseR, hpm]⟩)
      go_wp2_with fail
      refine bodyPost_ret (results_rparse rfl rfl rfl (set_six HQ.out.z _ _ _ _ _ _)) rfl ?_
      obtain ⟨h1, h2⟩ := HE.out
      exact ⟨_, by rw [h1]; rfl, by rw [h2]; exact RxV.zero_ _ _, fr_six HQ.out.f (.inr (Nat.le_refl _)) _ _ _ _ _ _⟩
end Go.Proofs.Ytjbmppbciiemkaa
