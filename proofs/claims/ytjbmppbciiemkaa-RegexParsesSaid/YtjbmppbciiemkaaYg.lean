/-
  The reference of layer 3: class.
-/
import Derived.Test.YtjbmppbciiemkaaYe
import Derived.Test.YtjbmppbciiemkaaPe
import Derived.Test.YtjbmppbciiemkaaYf
namespace Go.Proofs.Ytjbmppbciiemkaa set_option linter.unusedVariables false set_option linter.unusedSimpArgs false
open Go.RowKit

theorem zero_bools : Try.zeroCells84 = (boolsF fun _ => false).toArray := by kernel_rfl

/-- What reading a regex comes to, in the reference. -/
def RGotR (K d : Nat) (s : ByteArray) (w : World) (m : Got Rx) (e : Ending) (w' : World) : Prop :=
  match m with
  | .ok (r, q) => ∃ v, e = .returned v ∧ RxV (fun k => w.heap.size ≤ k) w' v r ∧ w'.heap[d]? = some (rrObj s q false false) ∧ Fr (at1 d) w w'
  | .error n => ∃ v r q, e = .returned v ∧ RxV (fun k => w.heap.size ≤ k) w' v r ∧ q ≤ s.size + K ∧ w'.heap[d]? = some (rrObj s q true (n == 4)) ∧ Fr (at1 d) w w'

/-- The blocks of class: the reader, the result, the truth values. -/
structure CS (s : ByteArray) (d : Nat) (w : World) (q : Nat) (bd : Bool) (A : Nat → Bool) (wr : World) : Prop where
  b : wr.heap[d]? = some (rrObj s q bd false)
  r : wr.heap[w.heap.size]? = some (.cells #[.int .i64 0, .int .u64 0, .int .u64 0, .int .u64 0, .int .u64 0, .slice none 0 0] 28 (0, 0))
  a : wr.heap[w.heap.size + 1]? = some (boolsO A)
  f : Fr (at1 d) w wr
theorem CS.call {s : ByteArray} {d : Nat} {w : World} {q q' : Nat} {bd bd' : Bool} {A : Nat → Bool} {wr wz : World} (h : CS s d w q bd A wr) (hd : d < w.heap.size) (hb : wz.heap[d]? = some (rrObj s q' bd' false)) (hf : Fr (at1 d) wr wz) : CS s d w q' bd' A wz :=
  ⟨hb, hf.at_ h.r (by simp only [at1]; omega), hf.at_ h.a (by simp only [at1]; omega), h.f.tr hf⟩
theorem CS.move {s : ByteArray} {d : Nat} {w : World} {q : Nat} {bd : Bool} {A : Nat → Bool} {wr wz : World} (h : CS s d w q bd A wr) (hf : Fr none_ wr wz) : CS s d w q bd A wz :=
  ⟨hf.at_ h.b (fun h => h), hf.at_ h.r (fun h => h), hf.at_ h.a (fun h => h), h.f.tr hf.none⟩
theorem CS.step {s : ByteArray} {d : Nat} {w : World} {q : Nat} {bd : Bool} {A : Nat → Bool} {wr : World} (h : CS s d w q bd A wr) (hd : d < w.heap.size) (q' : Nat) : CS s d w q' bd A (wr.setCell ⟨d, 1, none⟩ (.int .i64 (q' : Int))) :=
  h.call hd (rr_step h.b q') (rd_set (Fr.refl _ _) 1 _)
theorem CS.bad {s : ByteArray} {d : Nat} {w : World} {q : Nat} {bd : Bool} {A : Nat → Bool} {wr : World} (h : CS s d w q bd A wr) (hd : d < w.heap.size) : CS s d w q true A (wr.setCell ⟨d, 2, none⟩ (.bool true)) :=
  h.call hd (rr_bad h.b true) (rd_set (Fr.refl _ _) 2 _)
theorem CS.put {s : ByteArray} {d : Nat} {w : World} {q : Nat} {bd : Bool} {A : Nat → Bool} {wr : World} (h : CS s d w q bd A wr) (hd : d < w.heap.size) (c : Nat) (x : Bool) : CS s d w q bd (fun b => if b = c then x else A b) (wr.setCell ⟨w.heap.size + 1, c, none⟩ (.bool x)) := by
  have f1 : Fr (at1 (w.heap.size + 1)) wr (wr.setCell ⟨w.heap.size + 1, c, none⟩ (.bool x)) := rd_set (Fr.refl _ _) c _
  refine ⟨f1.at_ h.b (by simp only [at1]; omega), f1.at_ h.r (by simp only [at1]; omega), boolsO_set h.a c x, h.f.setCell (p := ⟨w.heap.size + 1, c, none⟩) (.inr (by show w.heap.size ≤ w.heap.size + 1; omega)) _⟩
theorem CS.get {s : ByteArray} {d : Nat} {w : World} {q : Nat} {bd : Bool} {A : Nat → Bool} {wr : World} (h : CS s d w q bd A wr) : wr.cell? ⟨d, 1, none⟩ = some (.int .i64 q) ∧ wr.cell? ⟨d, 2, none⟩ = some (.bool bd) ∧ (∀ o, wr.frozen? ⟨d, o, none⟩ = false) :=
  ⟨cell_of_block h.b rfl, cell_of_block h.b rfl, fun o => free_of_block h.b⟩
/-- one, whether it goes well or not. -/
theorem rone_all (s : ByteArray) (p d : Nat) (bad : Bool) (w : World) (hs : s.size ≤ 1000) (hb : w.heap[d]? = some (rrObj s p bad false)) (hp : p ≤ s.size) :
    Calls Try.prog 63 #[.pointer (some ⟨d, 0, none⟩)] w fun e w' => ∃ b q bd, e = .returned (.int .u8 (b : Nat)) ∧ b < 256 ∧ q ≤ s.size ∧ w'.heap[d]? = some (rrObj s q bd false) ∧ Fr (at1 d) w w' ∧ ((bd = bad ∧ oneB s p = .ok (b, q)) ∨ (bd = true ∧ oneB s p = .error 5)) := by
  refine (rone_any s p d bad false w hs hb hp).mono fun e w' h => ?_
  cases hm : oneB s p with
  | ok x =>
    obtain ⟨b, q⟩ := x
    rw [hm] at h
    have := oneB_lt hm
    exact ⟨b, q, bad, h.1, this.1, this.2.2, h.2.1, h.2.2, .inl ⟨rfl, rfl⟩⟩
  | error n =>
    rw [hm] at h
    obtain ⟨b, q, h1, h2, h3, h4, h5⟩ := h
    have := oneB_err hm
    subst this
    exact ⟨b, q, true, h3, h1, h2, h4, h5, .inr ⟨rfl, rfl⟩⟩
def finC (nt : Bool) (m2 : Got Bs) : Got Rx := match m2 with | .error e => .error e | .ok (x, q) => .ok ((if nt then x.others else x).rx, q)
theorem classB_fin {s : ByteArray} {k p : Nat} {m : Got Rx} (h : classB s k p = some m) : ∃ m2, classL s k Bs.zero (if isB s p 94 then p + 1 else p) = some m2 ∧ m = finC (isB s p 94) m2 := by
  unfold classB at h
  dsimp only at h
  cases hc : classL s k Bs.zero (if isB s p 94 then p + 1 else p) with
  | none => rw [hc] at h; simp at h
  | some m2 =>
    rw [hc] at h
    refine ⟨m2, rfl, ?_⟩
    cases m2 with
    | error e => simpa [finC] using h.symm
    | ok y => simpa [finC] using h.symm
set_option maxRecDepth 100000 in
set_option maxHeartbeats 4000000 in
theorem rclass_false (s : ByteArray) (p d k : Nat) (w : World) (m : Got Rx) (hs : s.size ≤ 1000) (hb : w.heap[d]? = some (rrObj s p false false)) (hp : p < s.size) (hm : classB s k (p + 1) = some m) (hnt : isB s (p + 1) 94 = false) :
    Calls Try.prog 53 #[.pointer (some ⟨d, 0, none⟩)] w (RGotR 1 d s w m) := by
  have hd := lt_of_block hb
  obtain ⟨m0, hm0, hmf⟩ := classB_fin hm
  rw [hnt] at hm0 hmf
  simp only [if_true, if_false, Bool.false_eq_true] at hm0
  have HNT := Lib.hid hnt
  have HM0 := Lib.hid hm0
  have HMF := Lib.hid hmf
  obtain ⟨q1, hq1⟩ : ∃ x, p + 1 = x := ⟨_, rfl⟩
  have hc1 : (p : Int) + 1 = (q1 : Int) := by omega
  have hq1s : q1 ≤ s.size := by omega
  rw [hq1] at HNT HM0
  clear hm hm0 hmf hnt
  have C0 : CS s d w q1 false (fun _ => false) (((w.setCell ⟨d, 1, none⟩ (.int .i64 (q1 : Int))).alloc (.cells #[.int .i64 0, .int .u64 0, .int .u64 0, .int .u64 0, .int .u64 0, .slice none 0 0] 28)).alloc (.cells Try.zeroCells84 84)) := by
    have s0 : (w.setCell ⟨d, 1, none⟩ (.int .i64 (q1 : Int))).heap.size = w.heap.size := by simp
    have s1 : ((w.setCell ⟨d, 1, none⟩ (.int .i64 (q1 : Int))).alloc (.cells #[.int .i64 0, .int .u64 0, .int .u64 0, .int .u64 0, .int .u64 0, .slice none 0 0] 28)).heap.size = w.heap.size + 1 := by simp
    refine ⟨(((Fr.refl none_ _).alloc _).alloc _).at_ (rr_step hb q1) (fun h => h), ((Fr.refl none_ _).alloc _).at_ ?_ (fun h => h), ?_, ((rd_set (Fr.refl _ w) 1 _).alloc _).alloc _⟩
    · rw [← s0]; exact alloc_new _ _
    · rw [← s1, alloc_new, boolsO, zero_bools]
  have y0 : w.cell? ⟨d, 1, none⟩ = some (.int .i64 (p : Int)) := cell_of_block hb rfl
  have yf0 : w.frozen? ⟨d, 1, none⟩ = false := free_of_block hb
  have H0 := Lib.hid C0
  clear C0 hb
  go_enter Try.func53, Try.ntmps53
  go_wp2_with fail
  try rw [hc1]
  clear y0 yf0
  have C1 := H0.out
  obtain ⟨w1, hw1⟩ : ∃ x, ((w.setCell ⟨d, 1, none⟩ (.int .i64 (q1 : Int))).alloc (.cells #[.int .i64 0, .int .u64 0, .int .u64 0, .int .u64 0, .int .u64 0, .slice none 0 0] 28)).alloc (.cells Try.zeroCells84 84) = x := ⟨_, rfl⟩
  rw [hw1] at C1 ⊢
  clear hw1
  have H1 := Lib.hid C1
  clear C1
  refine (ris_any s q1 d 94 false false _ hs H1.out.b).mono ?_
  rintro e w2 ⟨rfl, F2⟩
  have H2 := Lib.hid (H1.out.move F2)
  clear F2
  rw [HNT.out]
  go_wp2_with fail
  go_loopg [5, 6, 7] k (fun kk x5 x6 x7 wr => ∃ q bd A x, Aside (q ≤ s.size) ∧ Aside (CS s d w q bd A wr) ∧ Aside ((bd = false ∧ x.Ok ∧ (∀ b, b < 256 → A b = x.has b) ∧ ∃ m2, classL s kk x q = some m2 ∧ m = finC false m2) ∨ (bd = true ∧ m = .error 5)))
  case atStart => exact ⟨q1, false, fun _ => false, Bs.zero, hq1s, H2.out, aside_mk (.inl ⟨rfl, Bs.Ok.zero, fun b _ => (Bs.has_zero b).symm, m0, HM0.out, HMF.out⟩)⟩
  case round =>
    obtain ⟨q, bd, A, x, hqs, hcs, hst⟩ := hrel
    have Hr := Lib.hid hcs.out
    have hqs' := hqs.out
    have HST := Lib.hid hst.out
    clear hqs hcs hst
    cases bd with
    | true =>
      have hme : m = .error 5 := by
        rcases HST.out with h | h
        · simp at h
        · exact h.2
      subst hme
      clear HST
      obtain ⟨yr, ybr, yfr⟩ := Hr.out.get
      go_wp2_with fail
      clear yr ybr yfr
      obtain ⟨q9, hq9⟩ : ∃ x, q + 1 = x := ⟨_, rfl⟩
      have hc9 : (q : Int) + 1 = (q9 : Int) := by omega
      obtain ⟨yr, ybr, yfr⟩ := Hr.out.get
      go_wp2_with fail
      try rw [hc9]
      clear yr ybr yfr
      have C3 := Hr.out.step hd q9
      obtain ⟨w3, hw3⟩ : ∃ x, wr.setCell ⟨d, 1, none⟩ (.int .i64 (q9 : Int)) = x := ⟨_, rfl⟩
      rw [hw3] at C3 ⊢
      clear hw3
      have H3 := Lib.hid C3
      clear C3
      go_loopw [8] (fun x8 wi => ∃ b : Nat, b ≤ 256 ∧ x8 = .int .i64 (b : Int) ∧ Aside (CS s d w q9 true (fun c => if c < b then A c != false else A c) wi)) (fun x8 _ => 256 - (intOf x8).toNat)
      case atStart => exact ⟨0, Nat.zero_le _, rfl, aside_mk (by have h := H3.out; simpa using h)⟩
      case round =>
        obtain ⟨b, hb6, rfl, hci⟩ := hrel
        have HCI := Lib.hid hci.out
        clear hci
        by_cases hbl : b < 256
        · have hbl' : (b : Int) < 256 := by omega
          have hb0 : (0 : Int) ≤ (b : Int) := by omega
          have cb := boolsO_cell HCI.out.a hbl
          rw [if_neg (Nat.lt_irrefl b)] at cb
          have fb : wr.frozen? ⟨w.heap.size + 1, b, none⟩ = false := boolsO_free HCI.out.a
          have HP := Lib.hid (HCI.out.put hd b (A b != false))
          generalize hAb : A b = ab at *
          have HAB := Lib.hid hAb
          clear hAb
          cases ab with
          | true =>
            go_wp2_with fail
            go_roundw
            case rel =>
              refine ⟨b + 1, by omega, by go_num, aside_mk ?_⟩
              have h := HP.out
              have e : (fun c => if c = b then (true != false) else if c < b then A c != false else A c) = (fun c => if c < b + 1 then A c != false else A c) := by
                funext c
                by_cases h1 : c = b
                · subst h1; rw [if_pos rfl, if_pos (by omega), HAB.out]
                · rw [if_neg h1]
                  by_cases h2 : c < b
                  · rw [if_pos h2, if_pos (by omega)]
                  · rw [if_neg h2, if_neg (by omega)]
              rw [e] at h
              exact h
            case measure => first | (simp [intOf]; done) | (simp [intOf]; omega)
          | false =>
            go_wp2_with fail
            go_roundw
            case rel =>
              refine ⟨b + 1, by omega, by go_num, aside_mk ?_⟩
              have h := HP.out
              have e : (fun c => if c = b then (false != false) else if c < b then A c != false else A c) = (fun c => if c < b + 1 then A c != false else A c) := by
                funext c
                by_cases h1 : c = b
                · subst h1; rw [if_pos rfl, if_pos (by omega), HAB.out]
                · rw [if_neg h1]
                  by_cases h2 : c < b
                  · rw [if_pos h2, if_pos (by omega)]
                  · rw [if_neg h2, if_neg (by omega)]
              rw [e] at h
              exact h
            case measure => first | (simp [intOf]; done) | (simp [intOf]; omega)
        · obtain rfl : b = 256 := by omega
          have eA : boolsF (fun c => if c < 256 then A c != false else A c) = boolsF (fun c => A c != false) := boolsF_congr (fun b hb => if_pos hb)
          have hba := HCI.out.a
          rw [boolsO, eA] at hba
          have hlen := boolsF_length (fun c => A c != false)
          have HON := Lib.hid (only_any (fun c => A c != false))
          obtain ⟨v0, hv0⟩ : ∃ v, wordT (fun c => A c != false) 0 64 = v := ⟨_, rfl⟩
          obtain ⟨v1, hv1⟩ : ∃ v, wordT (fun c => A c != false) 1 64 = v := ⟨_, rfl⟩
          obtain ⟨v2, hv2⟩ : ∃ v, wordT (fun c => A c != false) 2 64 = v := ⟨_, rfl⟩
          obtain ⟨v3, hv3⟩ : ∃ v, wordT (fun c => A c != false) 3 64 = v := ⟨_, rfl⟩
          rw [hv0, hv1, hv2, hv3] at HON
          have HVS := Lib.hid (And.intro hv0 (And.intro hv1 (And.intro hv2 hv3)))
          clear hv0 hv1 hv2 hv3
          generalize boolsF (fun c => A c != false) = C at *
          go_wp2_with (refine wpList_load_row_ rfl 84 _ rfl (w.heap.size + 1) 84 C _ rfl hba Try.underlying84 rfl (by rw [hlen]; exact bools_info) ?_)
          refine (HON.out _).mono ?_
          rintro e wo ⟨rfl, Fo⟩
          have HNR := Lib.hid (Fo.at_ HCI.out.r (fun h => h))
          have HNB := Lib.hid (Fo.at_ HCI.out.b (fun h => h))
          have HNF := Lib.hid (HCI.out.f.tr Fo.none)
          obtain ⟨z0, z1, z2, z3, z4, z5⟩ := six HNR.out
          have zf : ∀ o, wo.frozen? ⟨w.heap.size, o, none⟩ = false := fun o => free_of_block HNR.out
          have E2 : ¬ at1 w.heap.size d := by simp only [at1]; omega
          clear Fo hba
          go_wp2_with fail
          refine bodyPost_ret (results_six rfl rfl (set_six HNR.out _ _ _ _ _ _)) rfl ?_
          have fx := fr_six (S := at1 w.heap.size) (r := w.heap.size) (Fr.refl _ wo) (.inl rfl) (.int .i64 1) (.int .u64 (v0 : Nat)) (.int .u64 (v1 : Nat)) (.int .u64 (v2 : Nat)) (.int .u64 (v3 : Nat)) (.slice none 0 0)
          have hbx := fx.at_ HNB.out E2
          have hfx := fr_six HNF.out (.inr (Nat.le_refl _)) (.int .i64 1) (.int .u64 (v0 : Nat)) (.int .u64 (v1 : Nat)) (.int .u64 (v2 : Nat)) (.int .u64 (v3 : Nat)) (.slice none 0 0)
          exact ⟨_, (⟨v0, v1, v2, v3⟩ : Bs).rx, q9, rfl, RxV.bs _ _ (⟨v0, v1, v2, v3⟩ : Bs), by omega, hbx, hfx⟩
    | false =>
      obtain ⟨hxo, hA, m2, hcl, hmf⟩ : x.Ok ∧ (∀ b, b < 256 → A b = x.has b) ∧ ∃ m2, classL s gk x q = some m2 ∧ m = finC false m2 := by
        rcases HST.out with h | h
        · exact ⟨h.2.1, h.2.2.1, h.2.2.2⟩
        · simp at h
      clear HST
      cases gk with
      | zero => simp [classL] at hcl
      | succ gk =>
        rw [classL] at hcl
        have HXO := Lib.hid hxo
        have HA := Lib.hid hA
        have HMF2 := Lib.hid hmf
        clear hxo hA hmf
        cases h93 : isB s q 93 with
        | true =>
          have E93 := Lib.hid h93
          rw [h93, if_pos rfl] at hcl
          obtain ⟨y, hyo, hy, hyy⟩ : ∃ y : Bs, y.Ok ∧ (∀ b, b < 256 → (A b != false) = y.has b) ∧ (if false then x.others else x) = y :=
            ⟨_, HXO.out, fun b hb => by
              rw [HA.out b hb]
              simp, rfl⟩
          have HY := Lib.hid (And.intro hyo hy)
          clear hyo hy
          have hm : m = .ok (y.rx, q + 1) := by
            rw [HMF2.out]
            simp only [Option.some.injEq] at hcl
            rw [← hcl, ← hyy]
            rfl
          clear hyy
          subst hm
          clear h93 hcl HMF2
          obtain ⟨yr, ybr, yfr⟩ := Hr.out.get
          go_wp2_with fail
          clear yr ybr yfr
          refine (ris_any s q d 93 false false _ hs Hr.out.b).mono ?_
          rintro e w4 ⟨rfl, F4⟩
          have H4 := Lib.hid (Hr.out.move F4)
          clear F4
          rw [E93.out]
          obtain ⟨q9, hq9⟩ : ∃ x, q + 1 = x := ⟨_, rfl⟩
          have hc9 : (q : Int) + 1 = (q9 : Int) := by omega
          obtain ⟨y4, yb4, yf4⟩ := H4.out.get
          go_wp2_with fail
          try rw [hc9]
          clear y4 yb4 yf4
          have C5 := H4.out.step hd q9
          obtain ⟨w5, hw5⟩ : ∃ x, w4.setCell ⟨d, 1, none⟩ (.int .i64 (q9 : Int)) = x := ⟨_, rfl⟩
          rw [hw5] at C5 ⊢
          clear hw5
          have H5 := Lib.hid C5
          clear C5
          go_loopw [8] (fun x8 wi => ∃ b : Nat, b ≤ 256 ∧ x8 = .int .i64 (b : Int) ∧ Aside (CS s d w q9 false (fun c => if c < b then A c != false else A c) wi)) (fun x8 _ => 256 - (intOf x8).toNat)
          case atStart => exact ⟨0, Nat.zero_le _, rfl, aside_mk (by have h := H5.out; simpa using h)⟩
          case round =>
            obtain ⟨b, hb6, rfl, hci⟩ := hrel
            have HCI := Lib.hid hci.out
            clear hci
            by_cases hbl : b < 256
            · have hbl' : (b : Int) < 256 := by omega
              have hb0 : (0 : Int) ≤ (b : Int) := by omega
              have cb := boolsO_cell HCI.out.a hbl
              rw [if_neg (Nat.lt_irrefl b)] at cb
              have fb : wr.frozen? ⟨w.heap.size + 1, b, none⟩ = false := boolsO_free HCI.out.a
              have HP := Lib.hid (HCI.out.put hd b (A b != false))
              generalize hAb : A b = ab at *
              have HAB := Lib.hid hAb
              clear hAb
              cases ab with
              | true =>
                go_wp2_with fail
                go_roundw
                case rel =>
                  refine ⟨b + 1, by omega, by go_num, aside_mk ?_⟩
                  have h := HP.out
                  have e : (fun c => if c = b then (true != false) else if c < b then A c != false else A c) = (fun c => if c < b + 1 then A c != false else A c) := by
                    funext c
                    by_cases h1 : c = b
                    · subst h1; rw [if_pos rfl, if_pos (by omega), HAB.out]
                    · rw [if_neg h1]
                      by_cases h2 : c < b
                      · rw [if_pos h2, if_pos (by omega)]
                      · rw [if_neg h2, if_neg (by omega)]
                  rw [e] at h
                  exact h
                case measure => first | (simp [intOf]; done) | (simp [intOf]; omega)
              | false =>
                go_wp2_with fail
                go_roundw
                case rel =>
                  refine ⟨b + 1, by omega, by go_num, aside_mk ?_⟩
                  have h := HP.out
                  have e : (fun c => if c = b then (false != false) else if c < b then A c != false else A c) = (fun c => if c < b + 1 then A c != false else A c) := by
                    funext c
                    by_cases h1 : c = b
                    · subst h1; rw [if_pos rfl, if_pos (by omega), HAB.out]
                    · rw [if_neg h1]
                      by_cases h2 : c < b
                      · rw [if_pos h2, if_pos (by omega)]
                      · rw [if_neg h2, if_neg (by omega)]
                  rw [e] at h
                  exact h
                case measure => first | (simp [intOf]; done) | (simp [intOf]; omega)
            · obtain rfl : b = 256 := by omega
              have eA : boolsF (fun c => if c < 256 then A c != false else A c) = boolsF (fun c => A c != false) := boolsF_congr (fun b hb => if_pos hb)
              have hba := HCI.out.a
              rw [boolsO, eA] at hba
              have hlen := boolsF_length (fun c => A c != false)
              have HON := Lib.hid (only_any (fun c => A c != false))
              obtain ⟨v0, hv0⟩ : ∃ v, wordT (fun c => A c != false) 0 64 = v := ⟨_, rfl⟩
              obtain ⟨v1, hv1⟩ : ∃ v, wordT (fun c => A c != false) 1 64 = v := ⟨_, rfl⟩
              obtain ⟨v2, hv2⟩ : ∃ v, wordT (fun c => A c != false) 2 64 = v := ⟨_, rfl⟩
              obtain ⟨v3, hv3⟩ : ∃ v, wordT (fun c => A c != false) 3 64 = v := ⟨_, rfl⟩
              rw [hv0, hv1, hv2, hv3] at HON
              have HVS := Lib.hid (And.intro hv0 (And.intro hv1 (And.intro hv2 hv3)))
              clear hv0 hv1 hv2 hv3
              generalize boolsF (fun c => A c != false) = C at *
              go_wp2_with (refine wpList_load_row_ rfl 84 _ rfl (w.heap.size + 1) 84 C _ rfl hba Try.underlying84 rfl (by rw [hlen]; exact bools_info) ?_)
              refine (HON.out _).mono ?_
              rintro e wo ⟨rfl, Fo⟩
              have HNR := Lib.hid (Fo.at_ HCI.out.r (fun h => h))
              have HNB := Lib.hid (Fo.at_ HCI.out.b (fun h => h))
              have HNF := Lib.hid (HCI.out.f.tr Fo.none)
              obtain ⟨z0, z1, z2, z3, z4, z5⟩ := six HNR.out
              have zf : ∀ o, wo.frozen? ⟨w.heap.size, o, none⟩ = false := fun o => free_of_block HNR.out
              have E2 : ¬ at1 w.heap.size d := by simp only [at1]; omega
              clear Fo hba
              go_wp2_with fail
              refine bodyPost_ret (results_six rfl rfl (set_six HNR.out _ _ _ _ _ _)) rfl ?_
              have fx := fr_six (S := at1 w.heap.size) (r := w.heap.size) (Fr.refl _ wo) (.inl rfl) (.int .i64 1) (.int .u64 (v0 : Nat)) (.int .u64 (v1 : Nat)) (.int .u64 (v2 : Nat)) (.int .u64 (v3 : Nat)) (.slice none 0 0)
              have hbx := fx.at_ HNB.out E2
              have hfx := fr_six HNF.out (.inr (Nat.le_refl _)) (.int .i64 1) (.int .u64 (v0 : Nat)) (.int .u64 (v1 : Nat)) (.int .u64 (v2 : Nat)) (.int .u64 (v3 : Nat)) (.slice none 0 0)
              obtain ⟨e0, e1, e2, e3⟩ := HVS.out
              rw [word_eq HY.out.1 HY.out.2 0 (by omega)] at e0
              rw [word_eq HY.out.1 HY.out.2 1 (by omega)] at e1
              rw [word_eq HY.out.1 HY.out.2 2 (by omega)] at e2
              rw [word_eq HY.out.1 HY.out.2 3 (by omega)] at e3
              subst e0 e1 e2 e3
              exact ⟨_, rfl, RxV.bs _ _ y, by first | exact hbx | (rw [← hq9] at hbx; exact hbx), hfx⟩
        | false =>
          have E93 := Lib.hid h93
          rw [h93, if_neg (by decide)] at hcl
          clear h93
          obtain ⟨yr, ybr, yfr⟩ := Hr.out.get
          go_wp2_with fail
          clear yr ybr yfr
          refine (ris_any s q d 93 false false _ hs Hr.out.b).mono ?_
          rintro e w6 ⟨rfl, F6⟩
          have H6 := Lib.hid (Hr.out.move F6)
          clear F6
          rw [E93.out]
          go_wp2_with fail
          refine (rone_all s q d false _ hs H6.out.b hqs').mono ?_
          rintro e w7 ⟨lo, q3, bd3, rfl, hlo, hq3, hb3, F3, hst3⟩
          have H7 := Lib.hid (H6.out.call hd hb3 F3)
          have HS3 := Lib.hid hst3
          have HCL := Lib.hid hcl
          clear hb3 F3 hst3 hcl
          have hlo0 : (0 : Int) ≤ (lo : Int) := by omega
          go_wp2_with fail
          cases h45 : isB s q3 45 with
          | true =>
            have E45 := Lib.hid h45
            have hq3l := isB_at h45
            clear h45
            refine (ris_any s q3 d 45 bd3 false _ hs H7.out.b).mono ?_
            rintro e w8 ⟨rfl, F8⟩
            have H8 := Lib.hid (H7.out.move F8)
            clear F8
            rw [E45.out]
            obtain ⟨q4, hq4⟩ : ∃ x, q3 + 1 = x := ⟨_, rfl⟩
            have hc4 : (q3 : Int) + 1 = (q4 : Int) := by omega
            have hq4s : q4 ≤ s.size := by omega
            obtain ⟨y8, yb8, yf8⟩ := H8.out.get
            go_wp2_with fail
            try rw [hc4]
            clear y8 yb8 yf8
            have C9 := H8.out.step hd q4
            obtain ⟨w9, hw9⟩ : ∃ x, w8.setCell ⟨d, 1, none⟩ (.int .i64 (q4 : Int)) = x := ⟨_, rfl⟩
            rw [hw9] at C9 ⊢
            clear hw9
            have H9 := Lib.hid C9
            clear C9
            refine (rone_all s q4 d bd3 _ hs H9.out.b hq4s).mono ?_
            rintro e w10 ⟨hi, q5, bd5, rfl, hhi, hq5, hb5, F5, hst5⟩
            have H10 := Lib.hid (H9.out.call hd hb5 F5)
            clear hb5 F5
            have HSX : Hid ((bd5 = false ∧ (if hi < lo then some (.error 5) else classL s gk (x.addN lo (hi + 1 - lo)) q5) = some m2) ∨ (bd5 = true ∧ m = .error 5)) := by
              have hcl := HCL.out
              refine Lib.hid ?_
              rcases HS3.out with ⟨h1, h2⟩ | ⟨h1, h2⟩
              · rw [h2] at hcl
                dsimp only at hcl
                rw [E45.out, if_pos rfl, hq4] at hcl
                rcases hst5 with ⟨h3, h4⟩ | ⟨h3, h4⟩
                · rw [h4] at hcl
                  exact .inl ⟨h3.trans h1, hcl⟩
                · rw [h4] at hcl
                  refine .inr ⟨h3, ?_⟩
                  simp only [Option.some.injEq] at hcl
                  rw [HMF2.out, ← hcl]
                  rfl
              · rw [h2] at hcl
                refine .inr ⟨?_, ?_⟩
                · rcases hst5 with ⟨h3, _⟩ | ⟨h3, _⟩
                  · rw [h3, h1]
                  · exact h3
                · simp only [Option.some.injEq] at hcl
                  rw [HMF2.out, ← hcl]
                  rfl
            clear hst5
            have hhi0 : (0 : Int) ≤ (hi : Int) := by omega
            by_cases hlt : hi < lo
            · have hltI : (hi : Int) < (lo : Int) := by omega
              have hme : m = .error 5 := by
                rcases HSX.out with h | h
                · have h2 := h.2
                  rw [if_pos hlt] at h2
                  rw [HMF2.out]
                  simp only [Option.some.injEq] at h2
                  rw [← h2]
                  rfl
                · exact h.2
              have HNX := Lib.hid (show ∀ (b : Nat) (wz : World), lo ≤ b → (hi < b ∧ (b ≤ hi + 1 ∨ b = lo)) → CS s d w q5 true (fun c => A c || (decide (lo ≤ c) && decide (c < b))) wz →
                  ∃ q bd A x, Aside (q ≤ s.size) ∧ Aside (CS s d w q bd A wz) ∧ Aside ((bd = false ∧ x.Ok ∧ (∀ b, b < 256 → A b = x.has b) ∧ ∃ m2, classL s gk x q = some m2 ∧ m = finC false m2) ∨ (bd = true ∧ m = .error 5)) from fun b wz hb1 hb2 hcs => ⟨q5, true, _, x, hq5, hcs, aside_mk (.inr ⟨rfl, hme⟩)⟩)
              clear hme
              obtain ⟨y10, yb10, yf10⟩ := H10.out.get
              go_wp2_with fail
              clear y10 yb10 yf10
              have C11 := H10.out.bad hd
              obtain ⟨w11, hw11⟩ : ∃ x, w10.setCell ⟨d, 2, none⟩ (.bool true) = x := ⟨_, rfl⟩
              rw [hw11] at C11 ⊢
              clear hw11
              have H11 := Lib.hid C11
              clear C11
              go_loopw [7] (fun x7 wi => ∃ b : Nat, lo ≤ b ∧ (b ≤ hi + 1 ∨ b = lo) ∧ x7 = .int .i64 (b : Int) ∧ Aside (CS s d w q5 true (fun c => A c || (decide (lo ≤ c) && decide (c < b))) wi)) (fun x7 _ => hi + 1 - (intOf x7).toNat)
              case atStart => exact ⟨lo, Nat.le_refl _, .inr rfl, rfl, aside_mk (by
                have h := H11.out
                have e : (fun c => A c || (decide (lo ≤ c) && decide (c < lo))) = A := by
                  funext c
                  have : (decide (lo ≤ c) && decide (c < lo)) = false := by
                    cases h : (decide (lo ≤ c) && decide (c < lo)) with
                    | false => rfl
                    | true => simp at h; omega
                  rw [this, Bool.or_false]
                rw [e]
                exact h)⟩
              case round =>
                obtain ⟨b, hb1, hb2, rfl, hci⟩ := hrel
                have HCI := Lib.hid hci.out
                clear hci
                by_cases hbl : b ≤ hi
                · exact absurd hbl (by omega)
                · have hbl' : (hi : Int) < (b : Int) := by omega
                  go_wp2_with fail
                  go_roundg gk
                  case measure => omega
                  case rel => exact HNX.out b wr hb1 (by omega) HCI.out
            · skip
              have hltI : (lo : Int) ≤ (hi : Int) := by omega
              have HNX := Lib.hid (show ∀ (b : Nat) (wz : World), lo ≤ b → (hi < b ∧ (b ≤ hi + 1 ∨ b = lo)) → CS s d w q5 bd5 (fun c => A c || (decide (lo ≤ c) && decide (c < b))) wz →
                  ∃ q bd A x, Aside (q ≤ s.size) ∧ Aside (CS s d w q bd A wz) ∧ Aside ((bd = false ∧ x.Ok ∧ (∀ b, b < 256 → A b = x.has b) ∧ ∃ m2, classL s gk x q = some m2 ∧ m = finC false m2) ∨ (bd = true ∧ m = .error 5)) from fun b wz hb1 hb2 hcs => by
                  have hbe : b = hi + 1 := by omega
                  refine ⟨q5, bd5, _, x.addN lo (hi + 1 - lo), hq5, hcs, aside_mk ?_⟩
                  rcases HSX.out with h | h
                  · have h2 := h.2
                    rw [if_neg hlt] at h2
                    refine .inl ⟨h.1, Bs.Ok.addN HXO.out _ _, fun c hc => ?_, m2, h2, HMF2.out⟩
                    try dsimp only
                    rw [Bs.has_addN (hi + 1 - lo) x lo c (by omega) hc, HA.out c hc, hbe, show lo + (hi + 1 - lo) = hi + 1 by omega]
                  · exact .inr h)
              go_wp2_with fail
              go_loopw [7] (fun x7 wi => ∃ b : Nat, lo ≤ b ∧ (b ≤ hi + 1 ∨ b = lo) ∧ x7 = .int .i64 (b : Int) ∧ Aside (CS s d w q5 bd5 (fun c => A c || (decide (lo ≤ c) && decide (c < b))) wi)) (fun x7 _ => hi + 1 - (intOf x7).toNat)
              case atStart => exact ⟨lo, Nat.le_refl _, .inr rfl, rfl, aside_mk (by
                have h := H10.out
                have e : (fun c => A c || (decide (lo ≤ c) && decide (c < lo))) = A := by
                  funext c
                  have : (decide (lo ≤ c) && decide (c < lo)) = false := by
                    cases h : (decide (lo ≤ c) && decide (c < lo)) with
                    | false => rfl
                    | true => simp at h; omega
                  rw [this, Bool.or_false]
                rw [e]
                exact h)⟩
              case round =>
                obtain ⟨b, hb1, hb2, rfl, hci⟩ := hrel
                have HCI := Lib.hid hci.out
                clear hci
                by_cases hbl : b ≤ hi
                · have hbl' : (b : Int) ≤ (hi : Int) := by omega
                  have hb0 : (0 : Int) ≤ (b : Int) := by omega
                  have hb6 : (b : Int) < 256 := by omega
                  have fb : wr.frozen? ⟨w.heap.size + 1, b, none⟩ = false := boolsO_free HCI.out.a
                  have cb := boolsO_cell HCI.out.a (b := b) (by omega)
                  have HP := Lib.hid (HCI.out.put hd b true)
                  go_wp2_with fail
                  go_roundw
                  case rel =>
                    refine ⟨b + 1, by omega, .inl (by omega), by go_num, aside_mk ?_⟩
                    have h := HP.out
                    have e : (fun c => if c = b then true else A c || (decide (lo ≤ c) && decide (c < b))) = (fun c => A c || (decide (lo ≤ c) && decide (c < b + 1))) := by
                      funext c
                      by_cases h1 : c = b
                      · subst h1
                        rw [if_pos rfl, decide_eq_true hb1, decide_eq_true (Nat.lt_succ_self c), Bool.and_true, Bool.or_true]
                      · rw [if_neg h1]
                        congr 2
                        exact decide_eq_decide.2 (by omega)
                    rw [e] at h
                    exact h
                  case measure => first | (simp [intOf]; done) | (simp [intOf]; omega)
                · have hbl' : (hi : Int) < (b : Int) := by omega
                  go_wp2_with fail
                  go_roundg gk
                  case measure => omega
                  case rel => exact HNX.out b wr hb1 (by omega) HCI.out
          | false =>
            have E45 := Lib.hid h45
            clear h45
            refine (ris_any s q3 d 45 bd3 false _ hs H7.out.b).mono ?_
            rintro e w12 ⟨rfl, F12⟩
            have H12 := Lib.hid (H7.out.move F12)
            clear F12
            rw [E45.out]
            have HSX : Hid ((bd3 = false ∧ (if lo < lo then some (.error 5) else classL s gk (x.addN lo (lo + 1 - lo)) q3) = some m2) ∨ (bd3 = true ∧ m = .error 5)) := by
              have hcl := HCL.out
              refine Lib.hid ?_
              rcases HS3.out with ⟨h1, h2⟩ | ⟨h1, h2⟩
              · rw [h2] at hcl
                dsimp only at hcl
                rw [E45.out] at hcl
                exact .inl ⟨h1, hcl⟩
              · rw [h2] at hcl
                refine .inr ⟨h1, ?_⟩
                simp only [Option.some.injEq] at hcl
                rw [HMF2.out, ← hcl]
                rfl
            have hlt : ¬ lo < lo := Nat.lt_irrefl lo
            have hltI : (lo : Int) ≤ (lo : Int) := by omega
            have HNX := Lib.hid (show ∀ (b : Nat) (wz : World), lo ≤ b → (lo < b ∧ (b ≤ lo + 1 ∨ b = lo)) → CS s d w q3 bd3 (fun c => A c || (decide (lo ≤ c) && decide (c < b))) wz →
                ∃ q bd A x, Aside (q ≤ s.size) ∧ Aside (CS s d w q bd A wz) ∧ Aside ((bd = false ∧ x.Ok ∧ (∀ b, b < 256 → A b = x.has b) ∧ ∃ m2, classL s gk x q = some m2 ∧ m = finC false m2) ∨ (bd = true ∧ m = .error 5)) from fun b wz hb1 hb2 hcs => by
                have hbe : b = lo + 1 := by omega
                refine ⟨q3, bd3, _, x.addN lo (lo + 1 - lo), hq3, hcs, aside_mk ?_⟩
                rcases HSX.out with h | h
                · have h2 := h.2
                  rw [if_neg hlt] at h2
                  refine .inl ⟨h.1, Bs.Ok.addN HXO.out _ _, fun c hc => ?_, m2, h2, HMF2.out⟩
                  try dsimp only
                  rw [Bs.has_addN (lo + 1 - lo) x lo c (by omega) hc, HA.out c hc, hbe, show lo + (lo + 1 - lo) = lo + 1 by omega]
                · exact .inr h)
            go_wp2_with fail
            go_loopw [7] (fun x7 wi => ∃ b : Nat, lo ≤ b ∧ (b ≤ lo + 1 ∨ b = lo) ∧ x7 = .int .i64 (b : Int) ∧ Aside (CS s d w q3 bd3 (fun c => A c || (decide (lo ≤ c) && decide (c < b))) wi)) (fun x7 _ => lo + 1 - (intOf x7).toNat)
            case atStart => exact ⟨lo, Nat.le_refl _, .inr rfl, rfl, aside_mk (by
              have h := H12.out
              have e : (fun c => A c || (decide (lo ≤ c) && decide (c < lo))) = A := by
                funext c
                have : (decide (lo ≤ c) && decide (c < lo)) = false := by
                  cases h : (decide (lo ≤ c) && decide (c < lo)) with
                  | false => rfl
                  | true => simp at h; omega
                rw [this, Bool.or_false]
              rw [e]
              exact h)⟩
            case round =>
              obtain ⟨b, hb1, hb2, rfl, hci⟩ := hrel
              have HCI := Lib.hid hci.out
              clear hci
              by_cases hbl : b ≤ lo
              · have hbl' : (b : Int) ≤ (lo : Int) := by omega
                have hb0 : (0 : Int) ≤ (b : Int) := by omega
                have hb6 : (b : Int) < 256 := by omega
                have fb : wr.frozen? ⟨w.heap.size + 1, b, none⟩ = false := boolsO_free HCI.out.a
                have cb := boolsO_cell HCI.out.a (b := b) (by omega)
                have HP := Lib.hid (HCI.out.put hd b true)
                go_wp2_with fail
                go_roundw
                case rel =>
                  refine ⟨b + 1, by omega, .inl (by omega), by go_num, aside_mk ?_⟩
                  have h := HP.out
                  have e : (fun c => if c = b then true else A c || (decide (lo ≤ c) && decide (c < b))) = (fun c => A c || (decide (lo ≤ c) && decide (c < b + 1))) := by
                    funext c
                    by_cases h1 : c = b
                    · subst h1
                      rw [if_pos rfl, decide_eq_true hb1, decide_eq_true (Nat.lt_succ_self c), Bool.and_true, Bool.or_true]
                    · rw [if_neg h1]
                      congr 2
                      exact decide_eq_decide.2 (by omega)
                  rw [e] at h
                  exact h
                case measure => first | (simp [intOf]; done) | (simp [intOf]; omega)
              · have hbl' : (lo : Int) < (b : Int) := by omega
                go_wp2_with fail
                go_roundg gk
                case measure => omega
                case rel => exact HNX.out b wr hb1 (by omega) HCI.out

set_option maxRecDepth 100000 in
set_option maxHeartbeats 4000000 in
theorem rclass_true (s : ByteArray) (p d k : Nat) (w : World) (m : Got Rx) (hs : s.size ≤ 1000) (hb : w.heap[d]? = some (rrObj s p false false)) (hp : p < s.size) (hm : classB s k (p + 1) = some m) (hnt : isB s (p + 1) 94 = true) :
    Calls Try.prog 53 #[.pointer (some ⟨d, 0, none⟩)] w (RGotR 1 d s w m) := by
  have hd := lt_of_block hb
  obtain ⟨m0, hm0, hmf⟩ := classB_fin hm
  rw [hnt] at hm0 hmf
  simp only [if_true, if_false, Bool.false_eq_true] at hm0
  have HNT := Lib.hid hnt
  have HM0 := Lib.hid hm0
  have HMF := Lib.hid hmf
  obtain ⟨q1, hq1⟩ : ∃ x, p + 1 = x := ⟨_, rfl⟩
  have hc1 : (p : Int) + 1 = (q1 : Int) := by omega
  have hq1s : q1 ≤ s.size := by omega
  rw [hq1] at HNT HM0
  clear hm hm0 hmf hnt
  have C0 : CS s d w q1 false (fun _ => false) (((w.setCell ⟨d, 1, none⟩ (.int .i64 (q1 : Int))).alloc (.cells #[.int .i64 0, .int .u64 0, .int .u64 0, .int .u64 0, .int .u64 0, .slice none 0 0] 28)).alloc (.cells Try.zeroCells84 84)) := by
    have s0 : (w.setCell ⟨d, 1, none⟩ (.int .i64 (q1 : Int))).heap.size = w.heap.size := by simp
    have s1 : ((w.setCell ⟨d, 1, none⟩ (.int .i64 (q1 : Int))).alloc (.cells #[.int .i64 0, .int .u64 0, .int .u64 0, .int .u64 0, .int .u64 0, .slice none 0 0] 28)).heap.size = w.heap.size + 1 := by simp
    refine ⟨(((Fr.refl none_ _).alloc _).alloc _).at_ (rr_step hb q1) (fun h => h), ((Fr.refl none_ _).alloc _).at_ ?_ (fun h => h), ?_, ((rd_set (Fr.refl _ w) 1 _).alloc _).alloc _⟩
    · rw [← s0]; exact alloc_new _ _
    · rw [← s1, alloc_new, boolsO, zero_bools]
  have y0 : w.cell? ⟨d, 1, none⟩ = some (.int .i64 (p : Int)) := cell_of_block hb rfl
  have yf0 : w.frozen? ⟨d, 1, none⟩ = false := free_of_block hb
  have H0 := Lib.hid C0
  clear C0 hb
  go_enter Try.func53, Try.ntmps53
  go_wp2_with fail
  try rw [hc1]
  clear y0 yf0
  have C13 := H0.out
  obtain ⟨w13, hw13⟩ : ∃ x, ((w.setCell ⟨d, 1, none⟩ (.int .i64 (q1 : Int))).alloc (.cells #[.int .i64 0, .int .u64 0, .int .u64 0, .int .u64 0, .int .u64 0, .slice none 0 0] 28)).alloc (.cells Try.zeroCells84 84) = x := ⟨_, rfl⟩
  rw [hw13] at C13 ⊢
  clear hw13
  have H13 := Lib.hid C13
  clear C13
  refine (ris_any s q1 d 94 false false _ hs H13.out.b).mono ?_
  rintro e w14 ⟨rfl, F14⟩
  have H14 := Lib.hid (H13.out.move F14)
  clear F14
  rw [HNT.out]
  obtain ⟨q2, hq2⟩ : ∃ x, q1 + 1 = x := ⟨_, rfl⟩
  have hc2 : (q1 : Int) + 1 = (q2 : Int) := by omega
  have hq2s : q2 ≤ s.size := by have := isB_at HNT.out; omega
  rw [hq2] at HM0
  obtain ⟨y14, yb14, yf14⟩ := H14.out.get
  go_wp2_with fail
  try rw [hc2]
  clear y14 yb14 yf14
  have C15 := H14.out.step hd q2
  obtain ⟨w15, hw15⟩ : ∃ x, w14.setCell ⟨d, 1, none⟩ (.int .i64 (q2 : Int)) = x := ⟨_, rfl⟩
  rw [hw15] at C15 ⊢
  clear hw15
  have H15 := Lib.hid C15
  clear C15
  go_loopg [5, 6, 7] k (fun kk x5 x6 x7 wr => ∃ q bd A x, Aside (q ≤ s.size) ∧ Aside (CS s d w q bd A wr) ∧ Aside ((bd = false ∧ x.Ok ∧ (∀ b, b < 256 → A b = x.has b) ∧ ∃ m2, classL s kk x q = some m2 ∧ m = finC true m2) ∨ (bd = true ∧ m = .error 5)))
  case atStart => exact ⟨q2, false, fun _ => false, Bs.zero, hq2s, H15.out, aside_mk (.inl ⟨rfl, Bs.Ok.zero, fun b _ => (Bs.has_zero b).symm, m0, HM0.out, HMF.out⟩)⟩
  case round =>
    obtain ⟨q, bd, A, x, hqs, hcs, hst⟩ := hrel
    have Hr := Lib.hid hcs.out
    have hqs' := hqs.out
    have HST := Lib.hid hst.out
    clear hqs hcs hst
    cases bd with
    | true =>
      have hme : m = .error 5 := by
        rcases HST.out with h | h
        · simp at h
        · exact h.2
      subst hme
      clear HST
      obtain ⟨yr, ybr, yfr⟩ := Hr.out.get
      go_wp2_with fail
      clear yr ybr yfr
      obtain ⟨q9, hq9⟩ : ∃ x, q + 1 = x := ⟨_, rfl⟩
      have hc9 : (q : Int) + 1 = (q9 : Int) := by omega
      obtain ⟨yr, ybr, yfr⟩ := Hr.out.get
      go_wp2_with fail
      try rw [hc9]
      clear yr ybr yfr
      have C16 := Hr.out.step hd q9
      obtain ⟨w16, hw16⟩ : ∃ x, wr.setCell ⟨d, 1, none⟩ (.int .i64 (q9 : Int)) = x := ⟨_, rfl⟩
      rw [hw16] at C16 ⊢
      clear hw16
      have H16 := Lib.hid C16
      clear C16
      go_loopw [8] (fun x8 wi => ∃ b : Nat, b ≤ 256 ∧ x8 = .int .i64 (b : Int) ∧ Aside (CS s d w q9 true (fun c => if c < b then A c != true else A c) wi)) (fun x8 _ => 256 - (intOf x8).toNat)
      case atStart => exact ⟨0, Nat.zero_le _, rfl, aside_mk (by have h := H16.out; simpa using h)⟩
      case round =>
        obtain ⟨b, hb6, rfl, hci⟩ := hrel
        have HCI := Lib.hid hci.out
        clear hci
        by_cases hbl : b < 256
        · have hbl' : (b : Int) < 256 := by omega
          have hb0 : (0 : Int) ≤ (b : Int) := by omega
          have cb := boolsO_cell HCI.out.a hbl
          rw [if_neg (Nat.lt_irrefl b)] at cb
          have fb : wr.frozen? ⟨w.heap.size + 1, b, none⟩ = false := boolsO_free HCI.out.a
          have HP := Lib.hid (HCI.out.put hd b (A b != true))
          generalize hAb : A b = ab at *
          have HAB := Lib.hid hAb
          clear hAb
          cases ab with
          | true =>
            go_wp2_with fail
            go_roundw
            case rel =>
              refine ⟨b + 1, by omega, by go_num, aside_mk ?_⟩
              have h := HP.out
              have e : (fun c => if c = b then (true != true) else if c < b then A c != true else A c) = (fun c => if c < b + 1 then A c != true else A c) := by
                funext c
                by_cases h1 : c = b
                · subst h1; rw [if_pos rfl, if_pos (by omega), HAB.out]
                · rw [if_neg h1]
                  by_cases h2 : c < b
                  · rw [if_pos h2, if_pos (by omega)]
                  · rw [if_neg h2, if_neg (by omega)]
              rw [e] at h
              exact h
            case measure => first | (simp [intOf]; done) | (simp [intOf]; omega)
          | false =>
            go_wp2_with fail
            go_roundw
            case rel =>
              refine ⟨b + 1, by omega, by go_num, aside_mk ?_⟩
              have h := HP.out
              have e : (fun c => if c = b then (false != true) else if c < b then A c != true else A c) = (fun c => if c < b + 1 then A c != true else A c) := by
                funext c
                by_cases h1 : c = b
                · subst h1; rw [if_pos rfl, if_pos (by omega), HAB.out]
                · rw [if_neg h1]
                  by_cases h2 : c < b
                  · rw [if_pos h2, if_pos (by omega)]
                  · rw [if_neg h2, if_neg (by omega)]
              rw [e] at h
              exact h
            case measure => first | (simp [intOf]; done) | (simp [intOf]; omega)
        · obtain rfl : b = 256 := by omega
          have eA : boolsF (fun c => if c < 256 then A c != true else A c) = boolsF (fun c => A c != true) := boolsF_congr (fun b hb => if_pos hb)
          have hba := HCI.out.a
          rw [boolsO, eA] at hba
          have hlen := boolsF_length (fun c => A c != true)
          have HON := Lib.hid (only_any (fun c => A c != true))
          obtain ⟨v0, hv0⟩ : ∃ v, wordT (fun c => A c != true) 0 64 = v := ⟨_, rfl⟩
          obtain ⟨v1, hv1⟩ : ∃ v, wordT (fun c => A c != true) 1 64 = v := ⟨_, rfl⟩
          obtain ⟨v2, hv2⟩ : ∃ v, wordT (fun c => A c != true) 2 64 = v := ⟨_, rfl⟩
          obtain ⟨v3, hv3⟩ : ∃ v, wordT (fun c => A c != true) 3 64 = v := ⟨_, rfl⟩
          rw [hv0, hv1, hv2, hv3] at HON
          have HVS := Lib.hid (And.intro hv0 (And.intro hv1 (And.intro hv2 hv3)))
          clear hv0 hv1 hv2 hv3
          generalize boolsF (fun c => A c != true) = C at *
          go_wp2_with (refine wpList_load_row_ rfl 84 _ rfl (w.heap.size + 1) 84 C _ rfl hba Try.underlying84 rfl (by rw [hlen]; exact bools_info) ?_)
          refine (HON.out _).mono ?_
          rintro e wo ⟨rfl, Fo⟩
          have HNR := Lib.hid (Fo.at_ HCI.out.r (fun h => h))
          have HNB := Lib.hid (Fo.at_ HCI.out.b (fun h => h))
          have HNF := Lib.hid (HCI.out.f.tr Fo.none)
          obtain ⟨z0, z1, z2, z3, z4, z5⟩ := six HNR.out
          have zf : ∀ o, wo.frozen? ⟨w.heap.size, o, none⟩ = false := fun o => free_of_block HNR.out
          have E2 : ¬ at1 w.heap.size d := by simp only [at1]; omega
          clear Fo hba
          go_wp2_with fail
          refine bodyPost_ret (results_six rfl rfl (set_six HNR.out _ _ _ _ _ _)) rfl ?_
          have fx := fr_six (S := at1 w.heap.size) (r := w.heap.size) (Fr.refl _ wo) (.inl rfl) (.int .i64 1) (.int .u64 (v0 : Nat)) (.int .u64 (v1 : Nat)) (.int .u64 (v2 : Nat)) (.int .u64 (v3 : Nat)) (.slice none 0 0)
          have hbx := fx.at_ HNB.out E2
          have hfx := fr_six HNF.out (.inr (Nat.le_refl _)) (.int .i64 1) (.int .u64 (v0 : Nat)) (.int .u64 (v1 : Nat)) (.int .u64 (v2 : Nat)) (.int .u64 (v3 : Nat)) (.slice none 0 0)
          exact ⟨_, (⟨v0, v1, v2, v3⟩ : Bs).rx, q9, rfl, RxV.bs _ _ (⟨v0, v1, v2, v3⟩ : Bs), by omega, hbx, hfx⟩
    | false =>
      obtain ⟨hxo, hA, m2, hcl, hmf⟩ : x.Ok ∧ (∀ b, b < 256 → A b = x.has b) ∧ ∃ m2, classL s gk x q = some m2 ∧ m = finC true m2 := by
        rcases HST.out with h | h
        · exact ⟨h.2.1, h.2.2.1, h.2.2.2⟩
        · simp at h
      clear HST
      cases gk with
      | zero => simp [classL] at hcl
      | succ gk =>
        rw [classL] at hcl
        have HXO := Lib.hid hxo
        have HA := Lib.hid hA
        have HMF2 := Lib.hid hmf
        clear hxo hA hmf
        cases h93 : isB s q 93 with
        | true =>
          have E93 := Lib.hid h93
          rw [h93, if_pos rfl] at hcl
          obtain ⟨y, hyo, hy, hyy⟩ : ∃ y : Bs, y.Ok ∧ (∀ b, b < 256 → (A b != true) = y.has b) ∧ (if true then x.others else x) = y :=
            ⟨_, HXO.out.others, fun b hb => by
              rw [HA.out b hb]
              rw [Bs.has_others HXO.out]; cases x.has b <;> rfl, rfl⟩
          have HY := Lib.hid (And.intro hyo hy)
          clear hyo hy
          have hm : m = .ok (y.rx, q + 1) := by
            rw [HMF2.out]
            simp only [Option.some.injEq] at hcl
            rw [← hcl, ← hyy]
            rfl
          clear hyy
          subst hm
          clear h93 hcl HMF2
          obtain ⟨yr, ybr, yfr⟩ := Hr.out.get
          go_wp2_with fail
          clear yr ybr yfr
          refine (ris_any s q d 93 false false _ hs Hr.out.b).mono ?_
          rintro e w17 ⟨rfl, F17⟩
          have H17 := Lib.hid (Hr.out.move F17)
          clear F17
          rw [E93.out]
          obtain ⟨q9, hq9⟩ : ∃ x, q + 1 = x := ⟨_, rfl⟩
          have hc9 : (q : Int) + 1 = (q9 : Int) := by omega
          obtain ⟨y17, yb17, yf17⟩ := H17.out.get
          go_wp2_with fail
          try rw [hc9]
          clear y17 yb17 yf17
          have C18 := H17.out.step hd q9
          obtain ⟨w18, hw18⟩ : ∃ x, w17.setCell ⟨d, 1, none⟩ (.int .i64 (q9 : Int)) = x := ⟨_, rfl⟩
          rw [hw18] at C18 ⊢
          clear hw18
          have H18 := Lib.hid C18
          clear C18
          go_loopw [8] (fun x8 wi => ∃ b : Nat, b ≤ 256 ∧ x8 = .int .i64 (b : Int) ∧ Aside (CS s d w q9 false (fun c => if c < b then A c != true else A c) wi)) (fun x8 _ => 256 - (intOf x8).toNat)
          case atStart => exact ⟨0, Nat.zero_le _, rfl, aside_mk (by have h := H18.out; simpa using h)⟩
          case round =>
            obtain ⟨b, hb6, rfl, hci⟩ := hrel
            have HCI := Lib.hid hci.out
            clear hci
            by_cases hbl : b < 256
            · have hbl' : (b : Int) < 256 := by omega
              have hb0 : (0 : Int) ≤ (b : Int) := by omega
              have cb := boolsO_cell HCI.out.a hbl
              rw [if_neg (Nat.lt_irrefl b)] at cb
              have fb : wr.frozen? ⟨w.heap.size + 1, b, none⟩ = false := boolsO_free HCI.out.a
              have HP := Lib.hid (HCI.out.put hd b (A b != true))
              generalize hAb : A b = ab at *
              have HAB := Lib.hid hAb
              clear hAb
              cases ab with
              | true =>
                go_wp2_with fail
                go_roundw
                case rel =>
                  refine ⟨b + 1, by omega, by go_num, aside_mk ?_⟩
                  have h := HP.out
                  have e : (fun c => if c = b then (true != true) else if c < b then A c != true else A c) = (fun c => if c < b + 1 then A c != true else A c) := by
                    funext c
                    by_cases h1 : c = b
                    · subst h1; rw [if_pos rfl, if_pos (by omega), HAB.out]
                    · rw [if_neg h1]
                      by_cases h2 : c < b
                      · rw [if_pos h2, if_pos (by omega)]
                      · rw [if_neg h2, if_neg (by omega)]
                  rw [e] at h
                  exact h
                case measure => first | (simp [intOf]; done) | (simp [intOf]; omega)
              | false =>
                go_wp2_with fail
                go_roundw
                case rel =>
                  refine ⟨b + 1, by omega, by go_num, aside_mk ?_⟩
                  have h := HP.out
                  have e : (fun c => if c = b then (false != true) else if c < b then A c != true else A c) = (fun c => if c < b + 1 then A c != true else A c) := by
                    funext c
                    by_cases h1 : c = b
                    · subst h1; rw [if_pos rfl, if_pos (by omega), HAB.out]
                    · rw [if_neg h1]
                      by_cases h2 : c < b
                      · rw [if_pos h2, if_pos (by omega)]
                      · rw [if_neg h2, if_neg (by omega)]
                  rw [e] at h
                  exact h
                case measure => first | (simp [intOf]; done) | (simp [intOf]; omega)
            · obtain rfl : b = 256 := by omega
              have eA : boolsF (fun c => if c < 256 then A c != true else A c) = boolsF (fun c => A c != true) := boolsF_congr (fun b hb => if_pos hb)
              have hba := HCI.out.a
              rw [boolsO, eA] at hba
              have hlen := boolsF_length (fun c => A c != true)
              have HON := Lib.hid (only_any (fun c => A c != true))
              obtain ⟨v0, hv0⟩ : ∃ v, wordT (fun c => A c != true) 0 64 = v := ⟨_, rfl⟩
              obtain ⟨v1, hv1⟩ : ∃ v, wordT (fun c => A c != true) 1 64 = v := ⟨_, rfl⟩
              obtain ⟨v2, hv2⟩ : ∃ v, wordT (fun c => A c != true) 2 64 = v := ⟨_, rfl⟩
              obtain ⟨v3, hv3⟩ : ∃ v, wordT (fun c => A c != true) 3 64 = v := ⟨_, rfl⟩
              rw [hv0, hv1, hv2, hv3] at HON
              have HVS := Lib.hid (And.intro hv0 (And.intro hv1 (And.intro hv2 hv3)))
              clear hv0 hv1 hv2 hv3
              generalize boolsF (fun c => A c != true) = C at *
              go_wp2_with (refine wpList_load_row_ rfl 84 _ rfl (w.heap.size + 1) 84 C _ rfl hba Try.underlying84 rfl (by rw [hlen]; exact bools_info) ?_)
              refine (HON.out _).mono ?_
              rintro e wo ⟨rfl, Fo⟩
              have HNR := Lib.hid (Fo.at_ HCI.out.r (fun h => h))
              have HNB := Lib.hid (Fo.at_ HCI.out.b (fun h => h))
              have HNF := Lib.hid (HCI.out.f.tr Fo.none)
              obtain ⟨z0, z1, z2, z3, z4, z5⟩ := six HNR.out
              have zf : ∀ o, wo.frozen? ⟨w.heap.size, o, none⟩ = false := fun o => free_of_block HNR.out
              have E2 : ¬ at1 w.heap.size d := by simp only [at1]; omega
              clear Fo hba
              go_wp2_with fail
              refine bodyPost_ret (results_six rfl rfl (set_six HNR.out _ _ _ _ _ _)) rfl ?_
              have fx := fr_six (S := at1 w.heap.size) (r := w.heap.size) (Fr.refl _ wo) (.inl rfl) (.int .i64 1) (.int .u64 (v0 : Nat)) (.int .u64 (v1 : Nat)) (.int .u64 (v2 : Nat)) (.int .u64 (v3 : Nat)) (.slice none 0 0)
              have hbx := fx.at_ HNB.out E2
              have hfx := fr_six HNF.out (.inr (Nat.le_refl _)) (.int .i64 1) (.int .u64 (v0 : Nat)) (.int .u64 (v1 : Nat)) (.int .u64 (v2 : Nat)) (.int .u64 (v3 : Nat)) (.slice none 0 0)
              obtain ⟨e0, e1, e2, e3⟩ := HVS.out
              rw [word_eq HY.out.1 HY.out.2 0 (by omega)] at e0
              rw [word_eq HY.out.1 HY.out.2 1 (by omega)] at e1
              rw [word_eq HY.out.1 HY.out.2 2 (by omega)] at e2
              rw [word_eq HY.out.1 HY.out.2 3 (by omega)] at e3
              subst e0 e1 e2 e3
              exact ⟨_, rfl, RxV.bs _ _ y, by first | exact hbx | (rw [← hq9] at hbx; exact hbx), hfx⟩
        | false =>
          have E93 := Lib.hid h93
          rw [h93, if_neg (by decide)] at hcl
          clear h93
          obtain ⟨yr, ybr, yfr⟩ := Hr.out.get
          go_wp2_with fail
          clear yr ybr yfr
          refine (ris_any s q d 93 false false _ hs Hr.out.b).mono ?_
          rintro e w19 ⟨rfl, F19⟩
          have H19 := Lib.hid (Hr.out.move F19)
          clear F19
          rw [E93.out]
          go_wp2_with fail
          refine (rone_all s q d false _ hs H19.out.b hqs').mono ?_
          rintro e w20 ⟨lo, q3, bd3, rfl, hlo, hq3, hb3, F3, hst3⟩
          have H20 := Lib.hid (H19.out.call hd hb3 F3)
          have HS3 := Lib.hid hst3
          have HCL := Lib.hid hcl
          clear hb3 F3 hst3 hcl
          have hlo0 : (0 : Int) ≤ (lo : Int) := by omega
          go_wp2_with fail
          cases h45 : isB s q3 45 with
          | true =>
            have E45 := Lib.hid h45
            have hq3l := isB_at h45
            clear h45
            refine (ris_any s q3 d 45 bd3 false _ hs H20.out.b).mono ?_
            rintro e w21 ⟨rfl, F21⟩
            have H21 := Lib.hid (H20.out.move F21)
            clear F21
            rw [E45.out]
            obtain ⟨q4, hq4⟩ : ∃ x, q3 + 1 = x := ⟨_, rfl⟩
            have hc4 : (q3 : Int) + 1 = (q4 : Int) := by omega
            have hq4s : q4 ≤ s.size := by omega
            obtain ⟨y21, yb21, yf21⟩ := H21.out.get
            go_wp2_with fail
            try rw [hc4]
            clear y21 yb21 yf21
            have C22 := H21.out.step hd q4
            obtain ⟨w22, hw22⟩ : ∃ x, w21.setCell ⟨d, 1, none⟩ (.int .i64 (q4 : Int)) = x := ⟨_, rfl⟩
            rw [hw22] at C22 ⊢
            clear hw22
            have H22 := Lib.hid C22
            clear C22
            refine (rone_all s q4 d bd3 _ hs H22.out.b hq4s).mono ?_
            rintro e w23 ⟨hi, q5, bd5, rfl, hhi, hq5, hb5, F5, hst5⟩
            have H23 := Lib.hid (H22.out.call hd hb5 F5)
            clear hb5 F5
            have HSX : Hid ((bd5 = false ∧ (if hi < lo then some (.error 5) else classL s gk (x.addN lo (hi + 1 - lo)) q5) = some m2) ∨ (bd5 = true ∧ m = .error 5)) := by
              have hcl := HCL.out
              refine Lib.hid ?_
              rcases HS3.out with ⟨h1, h2⟩ | ⟨h1, h2⟩
              · rw [h2] at hcl
                dsimp only at hcl
                rw [E45.out, if_pos rfl, hq4] at hcl
                rcases hst5 with ⟨h3, h4⟩ | ⟨h3, h4⟩
                · rw [h4] at hcl
                  exact .inl ⟨h3.trans h1, hcl⟩
                · rw [h4] at hcl
                  refine .inr ⟨h3, ?_⟩
                  simp only [Option.some.injEq] at hcl
                  rw [HMF2.out, ← hcl]
                  rfl
              · rw [h2] at hcl
                refine .inr ⟨?_, ?_⟩
                · rcases hst5 with ⟨h3, _⟩ | ⟨h3, _⟩
                  · rw [h3, h1]
                  · exact h3
                · simp only [Option.some.injEq] at hcl
                  rw [HMF2.out, ← hcl]
                  rfl
            clear hst5
            have hhi0 : (0 : Int) ≤ (hi : Int) := by omega
            by_cases hlt : hi < lo
            · have hltI : (hi : Int) < (lo : Int) := by omega
              have hme : m = .error 5 := by
                rcases HSX.out with h | h
                · have h2 := h.2
                  rw [if_pos hlt] at h2
                  rw [HMF2.out]
                  simp only [Option.some.injEq] at h2
                  rw [← h2]
                  rfl
                · exact h.2
              have HNX := Lib.hid (show ∀ (b : Nat) (wz : World), lo ≤ b → (hi < b ∧ (b ≤ hi + 1 ∨ b = lo)) → CS s d w q5 true (fun c => A c || (decide (lo ≤ c) && decide (c < b))) wz →
                  ∃ q bd A x, Aside (q ≤ s.size) ∧ Aside (CS s d w q bd A wz) ∧ Aside ((bd = false ∧ x.Ok ∧ (∀ b, b < 256 → A b = x.has b) ∧ ∃ m2, classL s gk x q = some m2 ∧ m = finC true m2) ∨ (bd = true ∧ m = .error 5)) from fun b wz hb1 hb2 hcs => ⟨q5, true, _, x, hq5, hcs, aside_mk (.inr ⟨rfl, hme⟩)⟩)
              clear hme
              obtain ⟨y23, yb23, yf23⟩ := H23.out.get
              go_wp2_with fail
              clear y23 yb23 yf23
              have C24 := H23.out.bad hd
              obtain ⟨w24, hw24⟩ : ∃ x, w23.setCell ⟨d, 2, none⟩ (.bool true) = x := ⟨_, rfl⟩
              rw [hw24] at C24 ⊢
              clear hw24
              have H24 := Lib.hid C24
              clear C24
              go_loopw [7] (fun x7 wi => ∃ b : Nat, lo ≤ b ∧ (b ≤ hi + 1 ∨ b = lo) ∧ x7 = .int .i64 (b : Int) ∧ Aside (CS s d w q5 true (fun c => A c || (decide (lo ≤ c) && decide (c < b))) wi)) (fun x7 _ => hi + 1 - (intOf x7).toNat)
              case atStart => exact ⟨lo, Nat.le_refl _, .inr rfl, rfl, aside_mk (by
                have h := H24.out
                have e : (fun c => A c || (decide (lo ≤ c) && decide (c < lo))) = A := by
                  funext c
                  have : (decide (lo ≤ c) && decide (c < lo)) = false := by
                    cases h : (decide (lo ≤ c) && decide (c < lo)) with
                    | false => rfl
                    | true => simp at h; omega
                  rw [this, Bool.or_false]
                rw [e]
                exact h)⟩
              case round =>
                obtain ⟨b, hb1, hb2, rfl, hci⟩ := hrel
                have HCI := Lib.hid hci.out
                clear hci
                by_cases hbl : b ≤ hi
                · exact absurd hbl (by omega)
                · have hbl' : (hi : Int) < (b : Int) := by omega
                  go_wp2_with fail
                  go_roundg gk
                  case measure => omega
                  case rel => exact HNX.out b wr hb1 (by omega) HCI.out
            · skip
              have hltI : (lo : Int) ≤ (hi : Int) := by omega
              have HNX := Lib.hid (show ∀ (b : Nat) (wz : World), lo ≤ b → (hi < b ∧ (b ≤ hi + 1 ∨ b = lo)) → CS s d w q5 bd5 (fun c => A c || (decide (lo ≤ c) && decide (c < b))) wz →
                  ∃ q bd A x, Aside (q ≤ s.size) ∧ Aside (CS s d w q bd A wz) ∧ Aside ((bd = false ∧ x.Ok ∧ (∀ b, b < 256 → A b = x.has b) ∧ ∃ m2, classL s gk x q = some m2 ∧ m = finC true m2) ∨ (bd = true ∧ m = .error 5)) from fun b wz hb1 hb2 hcs => by
                  have hbe : b = hi + 1 := by omega
                  refine ⟨q5, bd5, _, x.addN lo (hi + 1 - lo), hq5, hcs, aside_mk ?_⟩
                  rcases HSX.out with h | h
                  · have h2 := h.2
                    rw [if_neg hlt] at h2
                    refine .inl ⟨h.1, Bs.Ok.addN HXO.out _ _, fun c hc => ?_, m2, h2, HMF2.out⟩
                    try dsimp only
                    rw [Bs.has_addN (hi + 1 - lo) x lo c (by omega) hc, HA.out c hc, hbe, show lo + (hi + 1 - lo) = hi + 1 by omega]
                  · exact .inr h)
              go_wp2_with fail
              go_loopw [7] (fun x7 wi => ∃ b : Nat, lo ≤ b ∧ (b ≤ hi + 1 ∨ b = lo) ∧ x7 = .int .i64 (b : Int) ∧ Aside (CS s d w q5 bd5 (fun c => A c || (decide (lo ≤ c) && decide (c < b))) wi)) (fun x7 _ => hi + 1 - (intOf x7).toNat)
              case atStart => exact ⟨lo, Nat.le_refl _, .inr rfl, rfl, aside_mk (by
                have h := H23.out
                have e : (fun c => A c || (decide (lo ≤ c) && decide (c < lo))) = A := by
                  funext c
                  have : (decide (lo ≤ c) && decide (c < lo)) = false := by
                    cases h : (decide (lo ≤ c) && decide (c < lo)) with
                    | false => rfl
                    | true => simp at h; omega
                  rw [this, Bool.or_false]
                rw [e]
                exact h)⟩
              case round =>
                obtain ⟨b, hb1, hb2, rfl, hci⟩ := hrel
                have HCI := Lib.hid hci.out
                clear hci
                by_cases hbl : b ≤ hi
                · have hbl' : (b : Int) ≤ (hi : Int) := by omega
                  have hb0 : (0 : Int) ≤ (b : Int) := by omega
                  have hb6 : (b : Int) < 256 := by omega
                  have fb : wr.frozen? ⟨w.heap.size + 1, b, none⟩ = false := boolsO_free HCI.out.a
                  have cb := boolsO_cell HCI.out.a (b := b) (by omega)
                  have HP := Lib.hid (HCI.out.put hd b true)
                  go_wp2_with fail
                  go_roundw
                  case rel =>
                    refine ⟨b + 1, by omega, .inl (by omega), by go_num, aside_mk ?_⟩
                    have h := HP.out
                    have e : (fun c => if c = b then true else A c || (decide (lo ≤ c) && decide (c < b))) = (fun c => A c || (decide (lo ≤ c) && decide (c < b + 1))) := by
                      funext c
                      by_cases h1 : c = b
                      · subst h1
                        rw [if_pos rfl, decide_eq_true hb1, decide_eq_true (Nat.lt_succ_self c), Bool.and_true, Bool.or_true]
                      · rw [if_neg h1]
                        congr 2
                        exact decide_eq_decide.2 (by omega)
                    rw [e] at h
                    exact h
                  case measure => first | (simp [intOf]; done) | (simp [intOf]; omega)
                · have hbl' : (hi : Int) < (b : Int) := by omega
                  go_wp2_with fail
                  go_roundg gk
                  case measure => omega
                  case rel => exact HNX.out b wr hb1 (by omega) HCI.out
          | false =>
            have E45 := Lib.hid h45
            clear h45
            refine (ris_any s q3 d 45 bd3 false _ hs H20.out.b).mono ?_
            rintro e w25 ⟨rfl, F25⟩
            have H25 := Lib.hid (H20.out.move F25)
            clear F25
            rw [E45.out]
            have HSX : Hid ((bd3 = false ∧ (if lo < lo then some (.error 5) else classL s gk (x.addN lo (lo + 1 - lo)) q3) = some m2) ∨ (bd3 = true ∧ m = .error 5)) := by
              have hcl := HCL.out
              refine Lib.hid ?_
              rcases HS3.out with ⟨h1, h2⟩ | ⟨h1, h2⟩
              · rw [h2] at hcl
                dsimp only at hcl
                rw [E45.out] at hcl
                exact .inl ⟨h1, hcl⟩
              · rw [h2] at hcl
                refine .inr ⟨h1, ?_⟩
                simp only [Option.some.injEq] at hcl
                rw [HMF2.out, ← hcl]
                rfl
            have hlt : ¬ lo < lo := Nat.lt_irrefl lo
            have hltI : (lo : Int) ≤ (lo : Int) := by omega
            have HNX := Lib.hid (show ∀ (b : Nat) (wz : World), lo ≤ b → (lo < b ∧ (b ≤ lo + 1 ∨ b = lo)) → CS s d w q3 bd3 (fun c => A c || (decide (lo ≤ c) && decide (c < b))) wz →
                ∃ q bd A x, Aside (q ≤ s.size) ∧ Aside (CS s d w q bd A wz) ∧ Aside ((bd = false ∧ x.Ok ∧ (∀ b, b < 256 → A b = x.has b) ∧ ∃ m2, classL s gk x q = some m2 ∧ m = finC true m2) ∨ (bd = true ∧ m = .error 5)) from fun b wz hb1 hb2 hcs => by
                have hbe : b = lo + 1 := by omega
                refine ⟨q3, bd3, _, x.addN lo (lo + 1 - lo), hq3, hcs, aside_mk ?_⟩
                rcases HSX.out with h | h
                · have h2 := h.2
                  rw [if_neg hlt] at h2
                  refine .inl ⟨h.1, Bs.Ok.addN HXO.out _ _, fun c hc => ?_, m2, h2, HMF2.out⟩
                  try dsimp only
                  rw [Bs.has_addN (lo + 1 - lo) x lo c (by omega) hc, HA.out c hc, hbe, show lo + (lo + 1 - lo) = lo + 1 by omega]
                · exact .inr h)
            go_wp2_with fail
            go_loopw [7] (fun x7 wi => ∃ b : Nat, lo ≤ b ∧ (b ≤ lo + 1 ∨ b = lo) ∧ x7 = .int .i64 (b : Int) ∧ Aside (CS s d w q3 bd3 (fun c => A c || (decide (lo ≤ c) && decide (c < b))) wi)) (fun x7 _ => lo + 1 - (intOf x7).toNat)
            case atStart => exact ⟨lo, Nat.le_refl _, .inr rfl, rfl, aside_mk (by
              have h := H25.out
              have e : (fun c => A c || (decide (lo ≤ c) && decide (c < lo))) = A := by
                funext c
                have : (decide (lo ≤ c) && decide (c < lo)) = false := by
                  cases h : (decide (lo ≤ c) && decide (c < lo)) with
                  | false => rfl
                  | true => simp at h; omega
                rw [this, Bool.or_false]
              rw [e]
              exact h)⟩
            case round =>
              obtain ⟨b, hb1, hb2, rfl, hci⟩ := hrel
              have HCI := Lib.hid hci.out
              clear hci
              by_cases hbl : b ≤ lo
              · have hbl' : (b : Int) ≤ (lo : Int) := by omega
                have hb0 : (0 : Int) ≤ (b : Int) := by omega
                have hb6 : (b : Int) < 256 := by omega
                have fb : wr.frozen? ⟨w.heap.size + 1, b, none⟩ = false := boolsO_free HCI.out.a
                have cb := boolsO_cell HCI.out.a (b := b) (by omega)
                have HP := Lib.hid (HCI.out.put hd b true)
                go_wp2_with fail
                go_roundw
                case rel =>
                  refine ⟨b + 1, by omega, .inl (by omega), by go_num, aside_mk ?_⟩
                  have h := HP.out
                  have e : (fun c => if c = b then true else A c || (decide (lo ≤ c) && decide (c < b))) = (fun c => A c || (decide (lo ≤ c) && decide (c < b + 1))) := by
                    funext c
                    by_cases h1 : c = b
                    · subst h1
                      rw [if_pos rfl, decide_eq_true hb1, decide_eq_true (Nat.lt_succ_self c), Bool.and_true, Bool.or_true]
                    · rw [if_neg h1]
                      congr 2
                      exact decide_eq_decide.2 (by omega)
                  rw [e] at h
                  exact h
                case measure => first | (simp [intOf]; done) | (simp [intOf]; omega)
              · have hbl' : (lo : Int) < (b : Int) := by omega
                go_wp2_with fail
                go_roundg gk
                case measure => omega
                case rel => exact HNX.out b wr hb1 (by omega) HCI.out


theorem rclass_any (s : ByteArray) (p d k : Nat) (w : World) (m : Got Rx) (hs : s.size ≤ 1000) (hb : w.heap[d]? = some (rrObj s p false false)) (hp : p < s.size) (hm : classB s k (p + 1) = some m) :
    Calls Try.prog 53 #[.pointer (some ⟨d, 0, none⟩)] w (RGotR 1 d s w m) := by
  cases hnt : isB s (p + 1) 94 with
  | true => exact rclass_true s p d k w m hs hb hp hm hnt
  | false => exact rclass_false s p d k w m hs hb hp hm hnt
end Go.Proofs.Ytjbmppbciiemkaa
