/-
  The reference of layer 3: size, fits.
-/
import Derived.Test.YtjbmppbciiemkaaYg
namespace Go.Proofs.Ytjbmppbciiemkaa set_option linter.unusedVariables false set_option linter.unusedSimpArgs false
open Go.RowKit

set_option maxRecDepth 100000 in
set_option maxHeartbeats 1000000 in
theorem rsize_any (n : Nat) : ∀ (r : Rx) (v : Value) (w : World) (ok : Nat → Prop), r.size ≤ n → r.size < 4611686018427387904 → RxV ok w v r →
    Calls Try.prog 32 #[v] w fun e w' => e = .returned (.int .i64 r.size) ∧ Fr none_ w w' := by
  induction n with
  | zero => intro r v w ok hn; have := r.size_pos; omega
  | succ n ih =>
    rintro ⟨k, b0, b1, b2, b3, kids⟩ v w ok hn hlim hv
    obtain ⟨a, cap, rfl, hc, hl⟩ := hv.open_
    have hsz : Rx.sizes kids < 4611686018427387904 := by simp only [Rx.size] at hlim; omega
    have hlen := Rx.length_le kids
    have HL := Lib.hid hl
    have HN := Lib.hid hn
    have HIH := Lib.hid ih
    have NX := Lib.hid (alloc_new w (.cells #[.int .i64 k, .int .u64 b0, .int .u64 b1, .int .u64 b2, .int .u64 b3, .slice a kids.length cap] 28))
    clear hl hn hv ih
    go_enter Try.func32, Try.ntmps32
    go_wp2_with fail
    have F0 := Lib.hid (((Fr.refl none_ w).alloc (.cells #[.int .i64 k, .int .u64 b0, .int .u64 b1, .int .u64 b2, .int .u64 b3, .slice a kids.length cap] 28)))
    generalize hw1 : w.alloc (.cells #[.int .i64 k, .int .u64 b0, .int .u64 b1, .int .u64 b2, .int .u64 b3, .slice a kids.length cap] 28) = w1
    rw [hw1] at F0 NX
    clear hw1
    go_loopw [3, 4] (fun t x wr => ∃ i : Nat, i ≤ kids.length ∧ x = .int .i64 i ∧ t = .int .i64 ((1 + Rx.sizes (kids.take i) : Nat) : Int) ∧ Aside (Fr none_ w1 wr)) (fun _ x _ => kids.length - (intOf x).toNat)
    case atStart => exact ⟨0, Nat.zero_le _, rfl, by simp [Rx.sizes], Fr.refl _ _⟩
    case round =>
      obtain ⟨i, hi, rfl, rfl, hf⟩ := hrel
      have HF := Lib.hid hf.out
      clear hf
      have z5 : wr.cell? ⟨w.heap.size, 5, none⟩ = some (.slice a kids.length cap) := cell_of_block (HF.out.at_ NX.out (fun h => h)) rfl
      by_cases hlt : i < kids.length
      · have hlt' : (i : Int) < (kids.length : Int) := by omega
        obtain ⟨⟨k', x0, x1, x2, x3, kids'⟩, hki⟩ : ∃ r, kids[i]? = some r := ⟨kids[i]'hlt, List.getElem?_eq_getElem hlt⟩
        have hmv : RxL ok wr a 0 kids := RxL.move (fun k _ hlt => (F0.out.tr HF.out).block k hlt (fun h => h)) kids a 0 HL.out
        obtain ⟨ad, a', cap', rfl, hok, c0, c1, c2, c3, c4, c5, hc', hl'⟩ := hmv.elem hki
        have hsum := Rx.sizes_take_succ kids i _ hki
        have hle := Rx.sizes_le kids (i + 1)
        have HL' := Lib.hid hl'
        have HSUM := Lib.hid hsum
        have hle2 : Rx.sizes (kids.take i) + (Rx.mk k' x0 x1 x2 x3 kids').size < 4611686018427387904 := by omega
        have hsz2 : (Rx.mk k' x0 x1 x2 x3 kids').size ≤ n := by
          have := HN.out
          simp only [Rx.size] at this ⊢
          simp only [Rx.size] at hsum
          omega
        clear hki hmv hl' hsum hle
        go_wp2_with fail
        refine (HIH.out _ _ _ ok hsz2 (by omega) (RxV.mk_ hc' HL'.out)).mono ?_
        rintro e w' ⟨rfl, F2⟩
        have F3 := Lib.hid (HF.out.tr F2)
        clear F2
        obtain ⟨S, hS⟩ : ∃ S, (Rx.mk k' x0 x1 x2 x3 kids').size = S := ⟨_, rfl⟩
        rw [hS] at HSUM hle2 ⊢
        obtain ⟨S2, hS2⟩ : ∃ S2, Rx.sizes (kids.take i) = S2 := ⟨_, rfl⟩
        rw [hS2] at HSUM hle2 ⊢
        clear hS hS2 hsz2
        go_wp2_with fail
        go_roundw
        case rel => exact ⟨i + 1, by omega, by go_num, congrArg (Value.int .i64) (by rw [HSUM.out]; omega), F3.out⟩
        case measure => simp [intOf]; omega
      · obtain rfl : i = kids.length := by omega
        have H : kids.take kids.length = kids := List.take_length
        rw [H]
        clear H
        go_wp2_with fail
        go_ret
        exact ⟨by simp [Rx.size], F0.out.tr HF.out⟩

set_option maxRecDepth 100000 in
set_option maxHeartbeats 1000000 in
theorem rfits_bad (s : ByteArray) (p d : Nat) (many : Bool) (r : Rx) (v : Value) (w : World) (ok : Nat → Prop) (hb : w.heap[d]? = some (rrObj s p true many)) (hv : RxV ok w v r) :
    Calls Try.prog 19 #[.pointer (some ⟨d, 0, none⟩), v] w fun e w' => e = .returned (.tuple #[]) ∧ w'.heap[d]? = some (rrObj s p true many) ∧ Fr (at1 d) w w' := by
  obtain ⟨k, b0, b1, b2, b3, kids⟩ := r
  obtain ⟨a, cap, rfl, hc, hl⟩ := hv.open_
  have F0 := (Fr.refl none_ w).alloc (.cells #[.int .i64 k, .int .u64 b0, .int .u64 b1, .int .u64 b2, .int .u64 b3, .slice a kids.length cap] 28)
  have c2 : (w.alloc (.cells #[.int .i64 k, .int .u64 b0, .int .u64 b1, .int .u64 b2, .int .u64 b3, .slice a kids.length cap] 28)).cell? ⟨d, 2, none⟩ = some (.bool true) := cell_of_block (F0.at_ hb (fun h => h)) rfl
  have HB := Lib.hid (F0.at_ hb (fun h => h))
  have HF := Lib.hid (F0.none (S := at1 d))
  clear hv hl hb F0
  go_enter Try.func19, Try.ntmps19
  go_wp2_with fail
  go_end0
  exact ⟨rfl, HB.out, HF.out⟩

set_option maxRecDepth 100000 in
set_option maxHeartbeats 1000000 in
theorem rfits_ok (s : ByteArray) (p d : Nat) (many : Bool) (r : Rx) (v : Value) (w : World) (ok : Nat → Prop) (hb : w.heap[d]? = some (rrObj s p false many)) (hv : RxV ok w v r) (h5 : r.size ≤ 500) :
    Calls Try.prog 19 #[.pointer (some ⟨d, 0, none⟩), v] w fun e w' => e = .returned (.tuple #[]) ∧ w'.heap[d]? = some (rrObj s p false many) ∧ Fr (at1 d) w w' := by
  obtain ⟨k, b0, b1, b2, b3, kids⟩ := r
  obtain ⟨a, cap, rfl, hc, hl⟩ := hv.open_
  have F0 := (Fr.refl none_ w).alloc (.cells #[.int .i64 k, .int .u64 b0, .int .u64 b1, .int .u64 b2, .int .u64 b3, .slice a kids.length cap] 28)
  have c2 : (w.alloc (.cells #[.int .i64 k, .int .u64 b0, .int .u64 b1, .int .u64 b2, .int .u64 b3, .slice a kids.length cap] 28)).cell? ⟨d, 2, none⟩ = some (.bool false) := cell_of_block (F0.at_ hb (fun h => h)) rfl
  have HB := Lib.hid (F0.at_ hb (fun h => h))
  have HF := Lib.hid (F0.none (S := at1 d))
  have HV := Lib.hid (hv.move F0 (fun _ _ _ h => h))
  obtain ⟨z0, z1, z2, z3, z4, z5⟩ := six (alloc_new w (.cells #[.int .i64 k, .int .u64 b0, .int .u64 b1, .int .u64 b2, .int .u64 b3, .slice a kids.length cap] 28))
  clear hv hl hb F0
  go_enter Try.func19, Try.ntmps19
  go_wp2_with fail
  refine (rsize_any _ (.mk k b0 b1 b2 b3 kids) _ _ ok (Nat.le_refl _) (by omega) HV.out).mono ?_
  rintro e w1 ⟨rfl, F1⟩
  have HB1 := Lib.hid (F1.at_ HB.out (fun h => h))
  have HF1 := Lib.hid (HF.out.tr F1.none)
  have h5' : ((Rx.mk k b0 b1 b2 b3 kids).size : Int) ≤ 500 := by omega
  clear F1 z0 z1 z2 z3 z4 z5
  generalize (Rx.mk k b0 b1 b2 b3 kids).size = S at *
  go_wp2_with fail
  go_end0
  exact ⟨rfl, HB1.out, HF1.out⟩

set_option maxRecDepth 100000 in
set_option maxHeartbeats 1000000 in
theorem rfits_err (s : ByteArray) (p d : Nat) (many : Bool) (r : Rx) (v : Value) (w : World) (ok : Nat → Prop) (hb : w.heap[d]? = some (rrObj s p false many)) (hv : RxV ok w v r) (hsz : r.size < 4611686018427387904) (h5 : 500 < r.size) :
    Calls Try.prog 19 #[.pointer (some ⟨d, 0, none⟩), v] w fun e w' => e = .returned (.tuple #[]) ∧ w'.heap[d]? = some (rrObj s p true true) ∧ Fr (at1 d) w w' := by
  obtain ⟨k, b0, b1, b2, b3, kids⟩ := r
  obtain ⟨a, cap, rfl, hc, hl⟩ := hv.open_
  have F0 := (Fr.refl none_ w).alloc (.cells #[.int .i64 k, .int .u64 b0, .int .u64 b1, .int .u64 b2, .int .u64 b3, .slice a kids.length cap] 28)
  have c2 : (w.alloc (.cells #[.int .i64 k, .int .u64 b0, .int .u64 b1, .int .u64 b2, .int .u64 b3, .slice a kids.length cap] 28)).cell? ⟨d, 2, none⟩ = some (.bool false) := cell_of_block (F0.at_ hb (fun h => h)) rfl
  have HB := Lib.hid (F0.at_ hb (fun h => h))
  have HF := Lib.hid (F0.none (S := at1 d))
  have HV := Lib.hid (hv.move F0 (fun _ _ _ h => h))
  obtain ⟨z0, z1, z2, z3, z4, z5⟩ := six (alloc_new w (.cells #[.int .i64 k, .int .u64 b0, .int .u64 b1, .int .u64 b2, .int .u64 b3, .slice a kids.length cap] 28))
  clear hv hl hb F0
  go_enter Try.func19, Try.ntmps19
  go_wp2_with fail
  refine (rsize_any _ (.mk k b0 b1 b2 b3 kids) _ _ ok (Nat.le_refl _) (by omega) HV.out).mono ?_
  rintro e w1 ⟨rfl, F1⟩
  have hb1 := F1.at_ HB.out (fun h => h)
  have y2 : w1.cell? ⟨d, 2, none⟩ = some (.bool false) := cell_of_block hb1 rfl
  have y3 : w1.cell? ⟨d, 3, none⟩ = some (.bool many) := cell_of_block hb1 rfl
  have yf : ∀ o, w1.frozen? ⟨d, o, none⟩ = false := fun o => free_of_block hb1
  have HB1 := Lib.hid (rr_many (rr_bad hb1 true) true)
  have HF1 := Lib.hid (((HF.out.tr F1.none).setCell (p := ⟨d, 2, none⟩) (.inl rfl) (.bool true)).setCell (p := ⟨d, 3, none⟩) (.inl rfl) (.bool true))
  have h5' : (500 : Int) < ((Rx.mk k b0 b1 b2 b3 kids).size : Int) := by omega
  clear F1 z0 z1 z2 z3 z4 z5 hb1
  generalize (Rx.mk k b0 b1 b2 b3 kids).size = S at *
  go_wp2_with fail
  go_end0
  exact ⟨rfl, HB1.out, HF1.out⟩
end Go.Proofs.Ytjbmppbciiemkaa
