/-
  The walk over regex.stars; regex.ends of any regex.
-/
import Derived.Test.YtgpmbkgedhcbjaaRe
namespace Go.Proofs.Ytgpmbkgedhcbjaa
open Go.RowKit

theorem Fr.heap_le {S : Nat → Prop} {w w' : World} (h : Fr S w w') : w.heap.size ≤ w'.heap.size := h.size

/-- How far stars has come: the last two rows. -/
def StarR (s : ByteArray) (P : List Nat → Prop) (F : List Int) (A : List Int) (was : Int) : Prop :=
  StarTo P (bytesN s) F A ∧ (was = -1 ∨ ∃ A0 E, was = (A0.length : Nat) ∧ A = unionM A0 E ∧ StarTo P (bytesN s) F A0 ∧ EndsR P (bytesN s) A0 E)
theorem StarR.end_ {s : ByteArray} {P : List Nat → Prop} {F A : List Int} {was : Int} (h : StarR s P F A was) (hF : Places (bytesN s).length F) (hw : ¬ was < A.length) : EndsR (Star P) (bytesN s) F A := by
  obtain ⟨h1, rfl | ⟨A0, E, rfl, rfl, h2, h3⟩⟩ := h
  · omega
  · exact h2.closed hF h3 (by omega)

set_option maxRecDepth 100000 in
set_option maxHeartbeats 4000000 in
theorem stars_none (s : ByteArray) (hs : s.size ≤ 1000) (k : Int) (b0 b1 b2 b3 : Nat) (F : List Int) (rv v : Value) (w : World) (ok : Nat → Prop) (hrv : RxV ok w rv (.mk k b0 b1 b2 b3 [])) (hv : IntsAt w v F) (hF : Places s.size F) :
    Calls Try.prog 67 #[rv, .string s, v] w (EndsP s (Star (headL [])) F w) := by
  obtain ⟨a, cap, rfl, hc, hl⟩ := hrv.open_
  have F0 := Lib.hid ((Fr.refl none_ w).alloc (.cells #[.int .i64 k, .int .u64 b0, .int .u64 b1, .int .u64 b2, .int .u64 b3, .slice a ([] : List Rx).length cap] 28))
  obtain ⟨z0, z1, z2, z3, z4, z5⟩ := six (alloc_new w (.cells #[.int .i64 k, .int .u64 b0, .int .u64 b1, .int .u64 b2, .int .u64 b3, .slice a ([] : List Rx).length cap] 28))
  have HV := Lib.hid hv
  have HF := Lib.hid hF
  have HBL := Lib.hid (bytesN_length s)
  clear hrv hv hl hF
  go_enter Try.func67, Try.ntmps67
  go_wp2_with fail
  go_loopw [7, 8] (fun x7 x8 wr => x7 = v ∧ x8 = .int .i64 (-1) ∧ wr = w.alloc (.cells #[.int .i64 k, .int .u64 b0, .int .u64 b1, .int .u64 b2, .int .u64 b3, .slice a ([] : List Rx).length cap] 28)) (fun _ _ _ => 0)
  case atStart => exact ⟨rfl, rfl, rfl⟩
  case round =>
    obtain ⟨rfl, rfl, rfl⟩ := hrel
    go_wp2_with fail
    go_ret
    refine ⟨_, F, rfl, HV.out.move F0.out, HF.out, ?_, F0.out⟩
    have h := ends_empty (bs := bytesN s) (F := F) (by rw [HBL.out]; exact HF.out)
    refine h.congr (fun x => ⟨fun e => e ▸ .nil, fun e => ?_⟩)
    cases e with
    | nil => rfl
    | cons a b ha _ => simp [headL] at ha

set_option maxRecDepth 100000 in
set_option maxHeartbeats 4000000 in
theorem stars_some (s : ByteArray) (hs : s.size ≤ 1000) (k : Int) (b0 b1 b2 b3 : Nat) (k' : Int) (x0 x1 x2 x3 : Nat) (kids' rest : List Rx) (hk : rest.length ≤ 1000) (hsub : EndsC s (.mk k' x0 x1 x2 x3 kids')) (F : List Int) (rv v : Value) (w : World) (ok : Nat → Prop) (hrv : RxV ok w rv (.mk k b0 b1 b2 b3 (.mk k' x0 x1 x2 x3 kids' :: rest))) (hv : IntsAt w v F) (hF : Places s.size F) :
    Calls Try.prog 67 #[rv, .string s, v] w (EndsP s (Star (Rx.lang (.mk k' x0 x1 x2 x3 kids'))) F w) := by
  obtain ⟨a, cap, rfl, hc, hl⟩ := hrv.open_
  have hN : (Rx.mk k' x0 x1 x2 x3 kids' :: rest).length = rest.length + 1 := rfl
  rw [hN] at hc ⊢
  have FW := Lib.hid ((Fr.refl none_ w).alloc (.cells #[.int .i64 k, .int .u64 b0, .int .u64 b1, .int .u64 b2, .int .u64 b3, .slice a (rest.length + 1) cap] 28))
  have NX := Lib.hid (alloc_new w (.cells #[.int .i64 k, .int .u64 b0, .int .u64 b1, .int .u64 b2, .int .u64 b3, .slice a (rest.length + 1) cap] 28))
  have HV := Lib.hid (hv.move FW.out)
  have HL := Lib.hid hl
  have HF := Lib.hid hF
  have HBL := Lib.hid (bytesN_length s)
  have HS := Lib.hid hsub
  have hpos : decide ((0 : Int) < ((rest.length : Int) + 1)) = true := by rw [decide_eq_true_eq]; omega
  have HP := Lib.hid hpos
  clear hrv hv hl hF hsub
  go_enter Try.func67, Try.ntmps67
  go_wp2_with fail
  generalize hw1 : w.alloc (.cells #[.int .i64 k, .int .u64 b0, .int .u64 b1, .int .u64 b2, .int .u64 b3, .slice a (rest.length + 1) cap] 28) = w1
  rw [hw1] at FW NX HV
  clear hw1
  go_loopw [7, 8] (fun x7 x8 wr => ∃ was : Int, -1 ≤ was ∧ was ≤ s.size + 1 ∧ x8 = .int .i64 was ∧ Aside (∃ A, IntsAt wr x7 A ∧ StarR s (Rx.lang (.mk k' x0 x1 x2 x3 kids')) F A was) ∧ Aside (Fr none_ w1 wr)) (fun _ x8 _ => s.size + 3 - ((intOf x8) + 1).toNat)
  case atStart => exact ⟨-1, by omega, by omega, rfl, ⟨F, HV.out, StarTo.start (by rw [HBL.out]; exact HF.out), .inl rfl⟩, Fr.refl _ _⟩
  case round =>
    obtain ⟨was, hw1, hw2, rfl, hA', hfr⟩ := hrel
    have HFr := Lib.hid hfr.out
    obtain ⟨A, hA1, hA2⟩ := hA'.out
    have hAp : Places s.size A := by have := hA2.1.places; rw [HBL.out] at this; exact this
    have hAl := hAp.length
    obtain ⟨ma, mc, rfl, hmc⟩ := hA1.slice
    obtain ⟨N, hN'⟩ : ∃ N, A.length = N := ⟨_, rfl⟩
    have HA1 := Lib.hid hA1
    have HA2 := Lib.hid hA2
    have HAP := Lib.hid hAp
    have HN := Lib.hid hN'
    have NXr := Lib.hid (HFr.out.at_ NX.out (fun h => h))
    obtain ⟨z0, z1, z2, z3, z4, z5⟩ := six NXr.out
    clear hfr hA' hA1 hA2 hAp
    rw [hN'] at hmc hAl ⊢
    clear hN'
    by_cases hlt : was < (N : Int)
    · have hmv : RxL ok wr a 0 (.mk k' x0 x1 x2 x3 kids' :: rest) := RxL.move (fun k _ hlt => (HFr.out.block k (Nat.lt_of_lt_of_le hlt FW.out.size) (fun h => h)).trans (FW.out.block k hlt (fun h => h))) _ a 0 HL.out
      obtain ⟨ad, a', cap', rfl, hok, c0, c1, c2, c3, c4, c5, hc', hl'⟩ := hmv.elem (i := 0) rfl
      have HL' := Lib.hid hl'
      have e0 : ad.add (0 * 6) = ad := by simp [Addr.add]
      rw [e0] at c0 c1 c2 c3 c4 c5
      clear hmv hl' e0
      go_wp2_with fail
      refine (HS.out A _ (.slice ma N mc) _ ok (RxV.mk_ hc' HL'.out) (by have := HA1.out; rw [HN.out] at this; exact this) HAP.out).mono ?_
      rintro e w2 ⟨v2, L, rfl, h1, h2, h3, h4⟩
      have K1 := Lib.hid h1
      have K2 := Lib.hid h2
      have K3 := Lib.hid h3
      have K4 := Lib.hid (HFr.out.tr h4)
      have K5 := Lib.hid (HA1.out.move h4)
      clear h1 h2 h3 h4 z0 z1 z2 z3 z4 z5 c0 c1 c2 c3 c4 c5
      obtain ⟨la, lc, rfl, hlc⟩ := K1.out.slice
      go_wp2_with fail
      have FB := Lib.hid ((Fr.refl none_ w2).alloc (.cells #[.slice ma N mc, .slice la L.length lc] 39))
      refine (union_any w2.heap.size _ _ A L _ (alloc_new w2 _) (by have := K5.out.move FB.out; rw [HN.out] at this; exact this) (K1.out.move FB.out) (by rw [HN.out]; omega) (by have := K2.out.length; omega)).mono ?_
      rintro e w3 ⟨v3, rfl, h1, h2⟩
      have Q1 := Lib.hid h1
      have Q2 := Lib.hid ((K4.out.tr FB.out).tr h2)
      clear h1 h2
      go_wp2_with fail
      go_roundw
      case rel => exact ⟨N, by omega, by omega, rfl, ⟨_, Q1.out, HA2.out.1.step K3.out, .inr ⟨A, L, by rw [HN.out], rfl, HA2.out.1, K3.out⟩⟩, Q2.out⟩
      case measure => simp [intOf]; omega
    · go_wp2_with fail
      go_ret
      exact ⟨_, A, rfl, by have := HA1.out; rw [HN.out] at this; exact this, HAP.out, HA2.out.end_ (by rw [HBL.out]; exact HF.out) (by rw [HN.out]; omega), FW.out.tr HFr.out⟩

set_option maxRecDepth 100000 in
set_option maxHeartbeats 4000000 in
theorem ends_4 (s : ByteArray) (hs : s.size ≤ 1000) (b0 b1 b2 b3 : Nat) (kids : List Rx) (hk : kids.length ≤ 1000) (hsub : ∀ r ∈ kids, EndsC s r) : EndsC s (.mk 4 b0 b1 b2 b3 kids) := by
  intro F rv v w ok hrv hv hF
  have HST : ∀ (w1 : World) (rv' : Value), RxV ok w1 rv' (.mk 4 b0 b1 b2 b3 kids) → IntsAt w1 v F → Calls Try.prog 67 #[rv', .string s, v] w1 (EndsP s (Rx.lang (.mk 4 b0 b1 b2 b3 kids)) F w1) := by
    intro w1 rv' h1 h2
    cases kids with
    | nil => exact (stars_none s hs 4 b0 b1 b2 b3 F rv' v w1 ok h1 h2 hF).mono fun e w' h => h.from_ (fun x => by simp [Rx.lang]) (Fr.refl _ _)
    | cons q rest =>
      obtain ⟨k', x0, x1, x2, x3, kids'⟩ := q
      simp only [List.length_cons] at hk
      exact (stars_some s hs 4 b0 b1 b2 b3 k' x0 x1 x2 x3 kids' rest (by omega) (hsub _ (List.mem_cons_self ..)) F rv' v w1 ok h1 h2 hF).mono fun e w' h => h.from_ (fun x => by simp [Rx.lang, headL]) (Fr.refl _ _)
  obtain ⟨a, cap, rfl, hc, hl⟩ := hrv.open_
  have F0 := Lib.hid ((Fr.refl none_ w).alloc (.cells #[.int .i64 4, .int .u64 b0, .int .u64 b1, .int .u64 b2, .int .u64 b3, .slice a kids.length cap] 28))
  obtain ⟨z0, z1, z2, z3, z4, z5⟩ := six (alloc_new w (.cells #[.int .i64 4, .int .u64 b0, .int .u64 b1, .int .u64 b2, .int .u64 b3, .slice a kids.length cap] 28))
  have HV := Lib.hid (hv.move F0.out)
  have HL := Lib.hid hl
  have HS := Lib.hid HST
  clear hrv hv hl hF HST hsub
  go_enter Try.func52, Try.ntmps52
  go_wp2_with fail
  refine (HS.out _ _ (RxV.mk_ hc (RxL.move (fun k _ hlt => F0.out.block k hlt (fun h => h)) _ _ _ HL.out)) HV.out).mono ?_
  rintro e w2 ⟨v2, L, rfl, h1, h2, h3, h4⟩
  have K1 := Lib.hid h1
  have K2 := Lib.hid h2
  have K3 := Lib.hid h3
  have K4 := Lib.hid (F0.out.tr h4)
  clear h1 h2 h3 h4 z0 z1 z2 z3 z4 z5
  go_wp2_with fail
  go_ret
  exact ⟨_, L, rfl, K1.out, K2.out, K3.out, K4.out⟩

theorem Rx.size_kid {k : Int} {b0 b1 b2 b3 : Nat} {kids : List Rx} {r : Rx} (h : r ∈ kids) : r.size + 1 ≤ (Rx.mk k b0 b1 b2 b3 kids).size := by
  obtain ⟨i, hi⟩ := List.mem_iff_getElem?.1 h
  have h1 := Rx.sizes_take_succ kids i r hi
  have h2 := Rx.sizes_le kids (i + 1)
  simp only [Rx.size]
  omega
theorem ends_all (s : ByteArray) (hs : s.size ≤ 1000) : ∀ (n : Nat) (r : Rx), r.size ≤ n → r.size ≤ 1000 → EndsC s r
  | 0, r, h, _ => by have := r.size_pos; omega
  | n + 1, .mk k b0 b1 b2 b3 kids, h, hr => by
    have hsub : ∀ r ∈ kids, EndsC s r := fun r hrm => by
      have := Rx.size_kid (k := k) (b0 := b0) (b1 := b1) (b2 := b2) (b3 := b3) hrm
      exact ends_all s hs n r (by omega) (by omega)
    have hk : kids.length ≤ 1000 := by have := Rx.length_le kids; simp only [Rx.size] at hr; omega
    by_cases h0 : k = 0
    · subst h0; exact ends_0 s hs b0 b1 b2 b3 kids
    by_cases h1 : k = 1
    · subst h1; exact ends_1 s hs b0 b1 b2 b3 kids
    by_cases h2 : k = 2
    · subst h2; exact ends_2 s hs b0 b1 b2 b3 kids hk hsub
    by_cases h3 : k = 3
    · subst h3; exact ends_3 s hs b0 b1 b2 b3 kids hk hsub
    by_cases h4 : k = 4
    · subst h4; exact ends_4 s hs b0 b1 b2 b3 kids hk hsub
    exact ends_other s hs k b0 b1 b2 b3 kids h0 h1 h2 h3 h4
end Go.Proofs.Ytgpmbkgedhcbjaa
