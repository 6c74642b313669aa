/-
  The reference of layer 3: an atom.
-/
import Derived.Test.YtjbmppbciiemkaaYh
namespace Go.Proofs.Ytjbmppbciiemkaa set_option linter.unusedVariables false set_option linter.unusedSimpArgs false
open Go.RowKit

theorem alit0 {α : Type} {x0 : α} {l : List α} : (x0 :: l).toArray[0]? = some x0 := rfl
theorem alit1 {α : Type} {x0 x1 : α} {l : List α} : (x0 :: x1 :: l).toArray[1]? = some x1 := rfl
theorem alit2 {α : Type} {x0 x1 x2 : α} {l : List α} : (x0 :: x1 :: x2 :: l).toArray[2]? = some x2 := rfl
theorem alit3 {α : Type} {x0 x1 x2 x3 : α} {l : List α} : (x0 :: x1 :: x2 :: x3 :: l).toArray[3]? = some x3 := rfl
theorem alit4 {α : Type} {x0 x1 x2 x3 x4 : α} {l : List α} : (x0 :: x1 :: x2 :: x3 :: x4 :: l).toArray[4]? = some x4 := rfl
theorem alit5 {α : Type} {x0 x1 x2 x3 x4 x5 : α} {l : List α} : (x0 :: x1 :: x2 :: x3 :: x4 :: x5 :: l).toArray[5]? = some x5 := rfl
theorem alit6 {α : Type} {x0 x1 x2 x3 x4 x5 x6 : α} {l : List α} : (x0 :: x1 :: x2 :: x3 :: x4 :: x5 :: x6 :: l).toArray[6]? = some x6 := rfl
theorem alit7 {α : Type} {x0 x1 x2 x3 x4 x5 x6 x7 : α} {l : List α} : (x0 :: x1 :: x2 :: x3 :: x4 :: x5 :: x6 :: x7 :: l).toArray[7]? = some x7 := rfl
theorem alit8 {α : Type} {x0 x1 x2 x3 x4 x5 x6 x7 x8 : α} {l : List α} : (x0 :: x1 :: x2 :: x3 :: x4 :: x5 :: x6 :: x7 :: x8 :: l).toArray[8]? = some x8 := rfl
theorem alit9 {α : Type} {x0 x1 x2 x3 x4 x5 x6 x7 x8 x9 : α} {l : List α} : (x0 :: x1 :: x2 :: x3 :: x4 :: x5 :: x6 :: x7 :: x8 :: x9 :: l).toArray[9]? = some x9 := rfl
theorem alit10 {α : Type} {x0 x1 x2 x3 x4 x5 x6 x7 x8 x9 x10 : α} {l : List α} : (x0 :: x1 :: x2 :: x3 :: x4 :: x5 :: x6 :: x7 :: x8 :: x9 :: x10 :: l).toArray[10]? = some x10 := rfl
theorem alit11 {α : Type} {x0 x1 x2 x3 x4 x5 x6 x7 x8 x9 x10 x11 : α} {l : List α} : (x0 :: x1 :: x2 :: x3 :: x4 :: x5 :: x6 :: x7 :: x8 :: x9 :: x10 :: x11 :: l).toArray[11]? = some x11 := rfl
theorem alit12 {α : Type} {x0 x1 x2 x3 x4 x5 x6 x7 x8 x9 x10 x11 x12 : α} {l : List α} : (x0 :: x1 :: x2 :: x3 :: x4 :: x5 :: x6 :: x7 :: x8 :: x9 :: x10 :: x11 :: x12 :: l).toArray[12]? = some x12 := rfl
theorem alit13 {α : Type} {x0 x1 x2 x3 x4 x5 x6 x7 x8 x9 x10 x11 x12 x13 : α} {l : List α} : (x0 :: x1 :: x2 :: x3 :: x4 :: x5 :: x6 :: x7 :: x8 :: x9 :: x10 :: x11 :: x12 :: x13 :: l).toArray[13]? = some x13 := rfl
theorem alit14 {α : Type} {x0 x1 x2 x3 x4 x5 x6 x7 x8 x9 x10 x11 x12 x13 x14 : α} {l : List α} : (x0 :: x1 :: x2 :: x3 :: x4 :: x5 :: x6 :: x7 :: x8 :: x9 :: x10 :: x11 :: x12 :: x13 :: x14 :: l).toArray[14]? = some x14 := rfl
theorem alit15 {α : Type} {x0 x1 x2 x3 x4 x5 x6 x7 x8 x9 x10 x11 x12 x13 x14 x15 : α} {l : List α} : (x0 :: x1 :: x2 :: x3 :: x4 :: x5 :: x6 :: x7 :: x8 :: x9 :: x10 :: x11 :: x12 :: x13 :: x14 :: x15 :: l).toArray[15]? = some x15 := rfl
theorem alit16 {α : Type} {x0 x1 x2 x3 x4 x5 x6 x7 x8 x9 x10 x11 x12 x13 x14 x15 x16 : α} {l : List α} : (x0 :: x1 :: x2 :: x3 :: x4 :: x5 :: x6 :: x7 :: x8 :: x9 :: x10 :: x11 :: x12 :: x13 :: x14 :: x15 :: x16 :: l).toArray[16]? = some x16 := rfl
theorem alit17 {α : Type} {x0 x1 x2 x3 x4 x5 x6 x7 x8 x9 x10 x11 x12 x13 x14 x15 x16 x17 : α} {l : List α} : (x0 :: x1 :: x2 :: x3 :: x4 :: x5 :: x6 :: x7 :: x8 :: x9 :: x10 :: x11 :: x12 :: x13 :: x14 :: x15 :: x16 :: x17 :: l).toArray[17]? = some x17 := rfl
theorem alit18 {α : Type} {x0 x1 x2 x3 x4 x5 x6 x7 x8 x9 x10 x11 x12 x13 x14 x15 x16 x17 x18 : α} {l : List α} : (x0 :: x1 :: x2 :: x3 :: x4 :: x5 :: x6 :: x7 :: x8 :: x9 :: x10 :: x11 :: x12 :: x13 :: x14 :: x15 :: x16 :: x17 :: x18 :: l).toArray[18]? = some x18 := rfl
theorem alit19 {α : Type} {x0 x1 x2 x3 x4 x5 x6 x7 x8 x9 x10 x11 x12 x13 x14 x15 x16 x17 x18 x19 : α} {l : List α} : (x0 :: x1 :: x2 :: x3 :: x4 :: x5 :: x6 :: x7 :: x8 :: x9 :: x10 :: x11 :: x12 :: x13 :: x14 :: x15 :: x16 :: x17 :: x18 :: x19 :: l).toArray[19]? = some x19 := rfl
theorem alit20 {α : Type} {x0 x1 x2 x3 x4 x5 x6 x7 x8 x9 x10 x11 x12 x13 x14 x15 x16 x17 x18 x19 x20 : α} {l : List α} : (x0 :: x1 :: x2 :: x3 :: x4 :: x5 :: x6 :: x7 :: x8 :: x9 :: x10 :: x11 :: x12 :: x13 :: x14 :: x15 :: x16 :: x17 :: x18 :: x19 :: x20 :: l).toArray[20]? = some x20 := rfl
theorem alit21 {α : Type} {x0 x1 x2 x3 x4 x5 x6 x7 x8 x9 x10 x11 x12 x13 x14 x15 x16 x17 x18 x19 x20 x21 : α} {l : List α} : (x0 :: x1 :: x2 :: x3 :: x4 :: x5 :: x6 :: x7 :: x8 :: x9 :: x10 :: x11 :: x12 :: x13 :: x14 :: x15 :: x16 :: x17 :: x18 :: x19 :: x20 :: x21 :: l).toArray[21]? = some x21 := rfl
theorem alit22 {α : Type} {x0 x1 x2 x3 x4 x5 x6 x7 x8 x9 x10 x11 x12 x13 x14 x15 x16 x17 x18 x19 x20 x21 x22 : α} {l : List α} : (x0 :: x1 :: x2 :: x3 :: x4 :: x5 :: x6 :: x7 :: x8 :: x9 :: x10 :: x11 :: x12 :: x13 :: x14 :: x15 :: x16 :: x17 :: x18 :: x19 :: x20 :: x21 :: x22 :: l).toArray[22]? = some x22 := rfl
theorem alit23 {α : Type} {x0 x1 x2 x3 x4 x5 x6 x7 x8 x9 x10 x11 x12 x13 x14 x15 x16 x17 x18 x19 x20 x21 x22 x23 : α} {l : List α} : (x0 :: x1 :: x2 :: x3 :: x4 :: x5 :: x6 :: x7 :: x8 :: x9 :: x10 :: x11 :: x12 :: x13 :: x14 :: x15 :: x16 :: x17 :: x18 :: x19 :: x20 :: x21 :: x22 :: x23 :: l).toArray[23]? = some x23 := rfl
theorem alit24 {α : Type} {x0 x1 x2 x3 x4 x5 x6 x7 x8 x9 x10 x11 x12 x13 x14 x15 x16 x17 x18 x19 x20 x21 x22 x23 x24 : α} {l : List α} : (x0 :: x1 :: x2 :: x3 :: x4 :: x5 :: x6 :: x7 :: x8 :: x9 :: x10 :: x11 :: x12 :: x13 :: x14 :: x15 :: x16 :: x17 :: x18 :: x19 :: x20 :: x21 :: x22 :: x23 :: x24 :: l).toArray[24]? = some x24 := rfl
theorem alit25 {α : Type} {x0 x1 x2 x3 x4 x5 x6 x7 x8 x9 x10 x11 x12 x13 x14 x15 x16 x17 x18 x19 x20 x21 x22 x23 x24 x25 : α} {l : List α} : (x0 :: x1 :: x2 :: x3 :: x4 :: x5 :: x6 :: x7 :: x8 :: x9 :: x10 :: x11 :: x12 :: x13 :: x14 :: x15 :: x16 :: x17 :: x18 :: x19 :: x20 :: x21 :: x22 :: x23 :: x24 :: x25 :: l).toArray[25]? = some x25 := rfl

def RAtomC (s : ByteArray) (k : Nat) : Prop := ∀ (p d : Nat) (w : World) (m : Got Rx), p < s.size → isB s p 124 = false → isB s p 41 = false → w.heap[d]? = some (rrObj s p false false) → atomB s k p = some m →
  Calls Try.prog 42 #[.pointer (some ⟨d, 0, none⟩)] w (RGotR (k + 1) d s w m)
def RWayC (s : ByteArray) (k : Nat) : Prop := ∀ (p d : Nat) (w : World) (m : Got Rx), p ≤ s.size → w.heap[d]? = some (rrObj s p false false) → wayB s k [] p = some m →
  Calls Try.prog 30 #[.pointer (some ⟨d, 0, none⟩)] w (RGotR (k + 1) d s w m)
def RWaysC (s : ByteArray) (k : Nat) : Prop := ∀ (p d : Nat) (w : World) (m : Got Rx), p ≤ s.size → w.heap[d]? = some (rrObj s p false false) → waysB s k p = some m →
  Calls Try.prog 18 #[.pointer (some ⟨d, 0, none⟩)] w (RGotR (k + 1) d s w m)

theorem CS.start {s : ByteArray} {d p : Nat} {w : World} (hb : w.heap[d]? = some (rrObj s p false false)) : CS s d w p false (fun _ => false) ((w.alloc (.cells #[.int .i64 0, .int .u64 0, .int .u64 0, .int .u64 0, .int .u64 0, .slice none 0 0] 28)).alloc (.cells Try.zeroCells84 84)) := by
  have s1 : (w.alloc (.cells #[.int .i64 0, .int .u64 0, .int .u64 0, .int .u64 0, .int .u64 0, .slice none 0 0] 28)).heap.size = w.heap.size + 1 := by simp
  refine ⟨(((Fr.refl none_ w).alloc _).alloc _).at_ hb (fun h => h), ((Fr.refl none_ _).alloc _).at_ (alloc_new w _) (fun h => h), ?_, ((Fr.refl _ w).alloc _).alloc _⟩
  rw [← s1, alloc_new, boolsO, zero_bools]
set_option maxRecDepth 100000 in
set_option maxHeartbeats 4000000 in
theorem ratom_91 (s : ByteArray) (p d k : Nat) (w : World) (m : Got Rx) (hs : s.size ≤ 1000) (hb : w.heap[d]? = some (rrObj s p false false)) (hp : p < s.size) (h40 : isB s p 40 = false) (h91 : isB s p 91 = true) (hm : classB s k (p + 1) = some m) :
    Calls Try.prog 42 #[.pointer (some ⟨d, 0, none⟩)] w (RGotR 1 d s w m) := by
  have hd := lt_of_block hb
  have H0 := Lib.hid (CS.start hb)
  obtain ⟨q1, hq1⟩ : ∃ x, p + 1 = x := ⟨_, rfl⟩
  have hc1 : (p : Int) + 1 = (q1 : Int) := by omega
  have hq1s : q1 ≤ s.size := by omega
  have hp0 : (0 : Int) ≤ (p : Int) := by omega
  clear hb
  have E40 := Lib.hid h40
  clear h40
  have E91 := Lib.hid h91
  clear h91
  have HM := Lib.hid hm
  clear hm
  go_enter Try.func42, Try.ntmps42
  go_wp2_with fail
  have C1 := H0.out
  obtain ⟨w1, hw1⟩ : ∃ x, (w.alloc (.cells #[.int .i64 0, .int .u64 0, .int .u64 0, .int .u64 0, .int .u64 0, .slice none 0 0] 28)).alloc (.cells Try.zeroCells84 84) = x := ⟨_, rfl⟩
  rw [hw1] at C1 ⊢
  clear hw1
  have H1 := Lib.hid C1
  clear C1
  refine (ris_any s p d 40 false false _ hs H1.out.b).mono ?_
  rintro e w2 ⟨rfl, F2⟩
  have H2 := Lib.hid (H1.out.move F2)
  clear F2
  rw [E40.out]
  go_wp2_with fail
  refine (ris_any s p d 91 false false _ hs H2.out.b).mono ?_
  rintro e w3 ⟨rfl, F3⟩
  have H3 := Lib.hid (H2.out.move F3)
  clear F3
  rw [E91.out]
  go_wp2_with fail
  refine (rclass_any s p d k _ m hs H3.out.b hp HM.out).mono ?_
  intro e wb hg
  have hsz := Lib.hid (show w.heap.size < w3.heap.size from lt_of_block H3.out.r)
  have hres : ∃ (v : Value) (r : Rx) (q : Nat) (bd mn : Bool), e = .returned v ∧ RxV (fun i => w3.heap.size ≤ i) wb v r ∧ wb.heap[d]? = some (rrObj s q bd mn) ∧ Fr (at1 d) w3 wb ∧ ((bd = false ∧ mn = false ∧ m = .ok (r, q)) ∨ ∃ n, m = .error n ∧ bd = true ∧ mn = (n == 4) ∧ q ≤ s.size + 1) := by
    cases m with
    | ok x =>
      obtain ⟨v, h1, h2, h3, h4⟩ := hg
      exact ⟨v, _, _, _, _, h1, h2, h3, h4, .inl ⟨rfl, rfl, rfl⟩⟩
    | error n =>
      obtain ⟨v, r, q, h1, h2, h3, h4, h5⟩ := hg
      exact ⟨v, r, q, _, _, h1, h2, h4, h5, .inr ⟨n, rfl, rfl, rfl, h3⟩⟩
  obtain ⟨v, ⟨k', x0, x1, x2, x3, xids⟩, q, bd, mn, rfl, hv, hb2, F2, hst⟩ := hres
  obtain ⟨va, vcap, rfl, hvc, hvl⟩ := hv.open_
  have HVL := Lib.hid hvl
  have HNR := Lib.hid (F2.at_ H3.out.r (by simp only [at1]; omega))
  have HNB := Lib.hid hb2
  have HNF := Lib.hid (H3.out.f.tr F2)
  have HST := Lib.hid hst
  obtain ⟨z0, z1, z2, z3, z4, z5⟩ := six HNR.out
  have zf : ∀ o, wb.frozen? ⟨w.heap.size, o, none⟩ = false := fun o => free_of_block HNR.out
  clear hg hv hvl hb2 F2 hst
  go_wp2_with fail
  refine bodyPost_ret (results_six rfl rfl (set_six HNR.out _ _ _ _ _ _)) rfl ?_
  have fx := fr_six (S := at1 w.heap.size) (r := w.heap.size) (Fr.refl _ wb) (.inl rfl) (.int .i64 k') (.int .u64 x0) (.int .u64 x1) (.int .u64 x2) (.int .u64 x3) (.slice va xids.length vcap)
  have hbx := fx.at_ HNB.out (by simp only [at1]; omega)
  have hfx := fr_six HNF.out (.inr (Nat.le_refl _)) (.int .i64 k') (.int .u64 x0) (.int .u64 x1) (.int .u64 x2) (.int .u64 x3) (.slice va xids.length vcap)
  have hrx := ((RxV.mk_ (k := k') (b0 := x0) (b1 := x1) (b2 := x2) (b3 := x3) hvc HVL.out).move fx (fun i hi _ => by have := hsz.out; simp only [at1]; omega)).mono (ok' := fun i => w.heap.size ≤ i) (fun i hi => by have := hsz.out; omega)
  rcases HST.out with ⟨rfl, rfl, rfl⟩ | ⟨n, rfl, rfl, rfl, hq⟩
  · exact ⟨_, rfl, hrx, hbx, hfx⟩
  · exact ⟨_, _, q, rfl, hrx, hq, hbx, hfx⟩
set_option maxRecDepth 100000 in
set_option maxHeartbeats 4000000 in
theorem ratom_46 (s : ByteArray) (p d k : Nat) (w : World) (m : Got Rx) (hs : s.size ≤ 1000) (hb : w.heap[d]? = some (rrObj s p false false)) (hp : p < s.size) (h40 : isB s p 40 = false) (h91 : isB s p 91 = false) (h46 : isB s p 46 = true) (y : Bs) (hyy : (Bs.zero.add 10).others = y) :
    Calls Try.prog 42 #[.pointer (some ⟨d, 0, none⟩)] w (RGotR 1 d s w (.ok (y.rx, p + 1))) := by
  have hd := lt_of_block hb
  have H0 := Lib.hid (CS.start hb)
  obtain ⟨q1, hq1⟩ : ∃ x, p + 1 = x := ⟨_, rfl⟩
  have hc1 : (p : Int) + 1 = (q1 : Int) := by omega
  have hq1s : q1 ≤ s.size := by omega
  have hp0 : (0 : Int) ≤ (p : Int) := by omega
  clear hb
  have E40 := Lib.hid h40
  clear h40
  have E91 := Lib.hid h91
  clear h91
  have E46 := Lib.hid h46
  clear h46
  have HYY := Lib.hid hyy
  clear hyy
  go_enter Try.func42, Try.ntmps42
  go_wp2_with fail
  have C4 := H0.out
  obtain ⟨w4, hw4⟩ : ∃ x, (w.alloc (.cells #[.int .i64 0, .int .u64 0, .int .u64 0, .int .u64 0, .int .u64 0, .slice none 0 0] 28)).alloc (.cells Try.zeroCells84 84) = x := ⟨_, rfl⟩
  rw [hw4] at C4 ⊢
  clear hw4
  have H4 := Lib.hid C4
  clear C4
  refine (ris_any s p d 40 false false _ hs H4.out.b).mono ?_
  rintro e w5 ⟨rfl, F5⟩
  have H5 := Lib.hid (H4.out.move F5)
  clear F5
  rw [E40.out]
  go_wp2_with fail
  refine (ris_any s p d 91 false false _ hs H5.out.b).mono ?_
  rintro e w6 ⟨rfl, F6⟩
  have H6 := Lib.hid (H5.out.move F6)
  clear F6
  rw [E91.out]
  go_wp2_with fail
  refine (ris_any s p d 46 false false _ hs H6.out.b).mono ?_
  rintro e w7 ⟨rfl, F7⟩
  have H7 := Lib.hid (H6.out.move F7)
  clear F7
  rw [E46.out]
  go_wp2_with fail
  go_loopw [5] (fun x5 wi => ∃ b : Nat, b ≤ 256 ∧ x5 = .int .i64 (b : Int) ∧ Aside (CS s d w p false (fun c => if c < b then c != 10 else false) wi)) (fun x5 _ => 256 - (intOf x5).toNat)
  case atStart => exact ⟨0, Nat.zero_le _, rfl, aside_mk (by have h := H7.out; simpa using h)⟩
  case round =>
    obtain ⟨b, hb6, rfl, hci⟩ := hrel
    have HCI := Lib.hid hci.out
    clear hci
    by_cases hbl : b < 256
    · have hbl' : (b : Int) < 256 := by omega
      have hb0 : (0 : Int) ≤ (b : Int) := by omega
      have cb := boolsO_cell HCI.out.a hbl
      rw [if_neg (Nat.lt_irrefl b)] at cb
      have fb : wr.frozen? ⟨w.heap.size + 1, b, none⟩ = false := boolsO_free HCI.out.a
      have HP := Lib.hid (HCI.out.put hd b (b != 10))
      have e : (fun c => if c = b then (b != 10) else if c < b then c != 10 else false) = (fun c => if c < b + 1 then c != 10 else false) := by
        funext c
        by_cases h1 : c = b
        · subst h1; rw [if_pos rfl, if_pos (by omega)]
        · rw [if_neg h1]
          by_cases h2 : c < b
          · rw [if_pos h2, if_pos (by omega)]
          · rw [if_neg h2, if_neg (by omega)]
      rw [e] at HP
      clear e
      by_cases h10 : b = 10
      · have e10 : ((b : Int) != 10) = false := by simp; omega
        have e11 : (b != 10) = false := by simp; omega
        rw [e11] at HP
        clear h10
        go_wp2_with fail
        go_roundw
        case rel => exact ⟨b + 1, by omega, by go_num, HP.out⟩
        case measure => first | (simp [intOf]; done) | (simp [intOf]; omega)
      · have e10 : ((b : Int) != 10) = true := by simp; omega
        have e11 : (b != 10) = true := by simp; omega
        rw [e11] at HP
        clear h10
        go_wp2_with fail
        go_roundw
        case rel => exact ⟨b + 1, by omega, by go_num, HP.out⟩
        case measure => first | (simp [intOf]; done) | (simp [intOf]; omega)
    · obtain rfl : b = 256 := by omega
      obtain ⟨A, hA⟩ : ∃ A : Nat → Bool, (fun c => if c < 256 then c != 10 else false) = A := ⟨_, rfl⟩
      have hyo : y.Ok := by rw [← HYY.out]; exact (Bs.Ok.zero.add 10).others
      have hy : ∀ b, b < 256 → A b = y.has b := fun b hb => by
        rw [← hA, ← HYY.out, Bs.has_others (Bs.Ok.zero.add 10), Bs.has_add _ 10 b (by omega) hb, Bs.has_zero, Bool.false_or]
        show (if b < 256 then b != 10 else false) = _
        rw [if_pos hb]
        by_cases h : b = 10
        · subst h; rfl
        · rw [decide_eq_false h]; simpa using h
      have HY := Lib.hid (And.intro hyo hy)
      rw [hA] at HCI
      clear hyo hy hA
      obtain ⟨yI, ybI, yfI⟩ := HCI.out.get
      go_wp2_with fail
      try rw [hc1]
      clear yI ybI yfI
      have C8 := HCI.out.step hd q1
      obtain ⟨w8, hw8⟩ : ∃ x, wr.setCell ⟨d, 1, none⟩ (.int .i64 (q1 : Int)) = x := ⟨_, rfl⟩
      rw [hw8] at C8 ⊢
      clear hw8
      have H8 := Lib.hid C8
      clear C8
      have hba := H8.out.a
      rw [boolsO] at hba
      have hlen := boolsF_length (A)
      have HON := Lib.hid (only_any (A))
      obtain ⟨v0, hv0⟩ : ∃ v, wordT (A) 0 64 = v := ⟨_, rfl⟩
      obtain ⟨v1, hv1⟩ : ∃ v, wordT (A) 1 64 = v := ⟨_, rfl⟩
      obtain ⟨v2, hv2⟩ : ∃ v, wordT (A) 2 64 = v := ⟨_, rfl⟩
      obtain ⟨v3, hv3⟩ : ∃ v, wordT (A) 3 64 = v := ⟨_, rfl⟩
      rw [hv0, hv1, hv2, hv3] at HON
      have HVS := Lib.hid (And.intro hv0 (And.intro hv1 (And.intro hv2 hv3)))
      clear hv0 hv1 hv2 hv3
      generalize boolsF (A) = C at *
      first
        | (refine wp_load_mid 84 _ rfl (w.heap.size + 1) 0 rfl C _ (range_of_ hba) Try.underlying84 rfl (by rw [hlen]; exact bools_info) ?_; go_wp2_with fail)
        | go_wp2_with (refine wpList_load_row_ rfl 84 _ rfl (w.heap.size + 1) 84 C _ rfl hba Try.underlying84 rfl (by rw [hlen]; exact bools_info) ?_)
      refine (HON.out _).mono ?_
      rintro e wo ⟨rfl, Fo⟩
      have HNR := Lib.hid (Fo.at_ H8.out.r (fun h => h))
      have HNB := Lib.hid (Fo.at_ H8.out.b (fun h => h))
      have HNF := Lib.hid (H8.out.f.tr Fo.none)
      obtain ⟨z0, z1, z2, z3, z4, z5⟩ := six HNR.out
      have zf : ∀ o, wo.frozen? ⟨w.heap.size, o, none⟩ = false := fun o => free_of_block HNR.out
      have E2 : ¬ at1 w.heap.size d := by simp only [at1]; omega
      clear Fo hba
      go_wp2_with fail
      refine bodyPost_ret (results_six rfl rfl (set_six HNR.out _ _ _ _ _ _)) rfl ?_
      have fx := fr_six (S := at1 w.heap.size) (r := w.heap.size) (Fr.refl _ wo) (.inl rfl) (.int .i64 1) (.int .u64 (v0 : Nat)) (.int .u64 (v1 : Nat)) (.int .u64 (v2 : Nat)) (.int .u64 (v3 : Nat)) (.slice none 0 0)
      have hbx := fx.at_ HNB.out E2
      have hfx := fr_six HNF.out (.inr (Nat.le_refl _)) (.int .i64 1) (.int .u64 (v0 : Nat)) (.int .u64 (v1 : Nat)) (.int .u64 (v2 : Nat)) (.int .u64 (v3 : Nat)) (.slice none 0 0)
      obtain ⟨e0, e1, e2, e3⟩ := HVS.out
      rw [word_eq HY.out.1 HY.out.2 0 (by omega)] at e0
      rw [word_eq HY.out.1 HY.out.2 1 (by omega)] at e1
      rw [word_eq HY.out.1 HY.out.2 2 (by omega)] at e2
      rw [word_eq HY.out.1 HY.out.2 3 (by omega)] at e3
      subst e0 e1 e2 e3
      exact ⟨_, rfl, RxV.bs _ _ y, by first | exact hbx | (rw [hq1]; exact hbx), hfx⟩
set_option maxRecDepth 100000 in
set_option maxHeartbeats 4000000 in
theorem ratom_92 (s : ByteArray) (p d k : Nat) (w : World) (m : Got Rx) (hs : s.size ≤ 1000) (hb : w.heap[d]? = some (rrObj s p false false)) (hp : p < s.size) (h40 : isB s p 40 = false) (h91 : isB s p 91 = false) (h46 : isB s p 46 = false) (h92 : isB s p 92 = true) (hm : m = match charB s (p + 1) with | .error e => .error e | .ok (c, q2) => .ok ((Bs.zero.add c).rx, q2)) :
    Calls Try.prog 42 #[.pointer (some ⟨d, 0, none⟩)] w (RGotR 1 d s w m) := by
  have hd := lt_of_block hb
  have H0 := Lib.hid (CS.start hb)
  obtain ⟨q1, hq1⟩ : ∃ x, p + 1 = x := ⟨_, rfl⟩
  have hc1 : (p : Int) + 1 = (q1 : Int) := by omega
  have hq1s : q1 ≤ s.size := by omega
  have hp0 : (0 : Int) ≤ (p : Int) := by omega
  clear hb
  have E40 := Lib.hid h40
  clear h40
  have E91 := Lib.hid h91
  clear h91
  have E46 := Lib.hid h46
  clear h46
  have E92 := Lib.hid h92
  clear h92
  have HM := Lib.hid hm
  clear hm
  go_enter Try.func42, Try.ntmps42
  go_wp2_with fail
  have C9 := H0.out
  obtain ⟨w9, hw9⟩ : ∃ x, (w.alloc (.cells #[.int .i64 0, .int .u64 0, .int .u64 0, .int .u64 0, .int .u64 0, .slice none 0 0] 28)).alloc (.cells Try.zeroCells84 84) = x := ⟨_, rfl⟩
  rw [hw9] at C9 ⊢
  clear hw9
  have H9 := Lib.hid C9
  clear C9
  refine (ris_any s p d 40 false false _ hs H9.out.b).mono ?_
  rintro e w10 ⟨rfl, F10⟩
  have H10 := Lib.hid (H9.out.move F10)
  clear F10
  rw [E40.out]
  go_wp2_with fail
  refine (ris_any s p d 91 false false _ hs H10.out.b).mono ?_
  rintro e w11 ⟨rfl, F11⟩
  have H11 := Lib.hid (H10.out.move F11)
  clear F11
  rw [E91.out]
  go_wp2_with fail
  refine (ris_any s p d 46 false false _ hs H11.out.b).mono ?_
  rintro e w12 ⟨rfl, F12⟩
  have H12 := Lib.hid (H11.out.move F12)
  clear F12
  rw [E46.out]
  go_wp2_with fail
  refine (ris_any s p d 92 false false _ hs H12.out.b).mono ?_
  rintro e w13 ⟨rfl, F13⟩
  have H13 := Lib.hid (H12.out.move F13)
  clear F13
  rw [E92.out]
  go_wp2_with fail
  refine (rchar_any s p d false false _ hs H13.out.b hp).mono ?_
  intro e wb hg
  have hres : ∃ (c q : Nat) (bd : Bool), e = .returned (.int .u8 (c : Nat)) ∧ c < 256 ∧ q ≤ s.size ∧ wb.heap[d]? = some (rrObj s q bd false) ∧ Fr (at1 d) w13 wb ∧ ((bd = false ∧ m = .ok ((Bs.zero.add c).rx, q)) ∨ (bd = true ∧ m = .error 5)) := by
    have hm := HM.out
    cases hc : charB s (p + 1) with
    | ok x =>
      obtain ⟨c, q⟩ := x
      rw [hc] at hg hm
      obtain ⟨_, hq, _⟩ := charB_lt hc
      exact ⟨c, q, false, hg.1, (charB_lt hc).1, (charB_lt hc).2.2, hg.2.1, hg.2.2, .inl ⟨rfl, hm⟩⟩
    | error n =>
      rw [hc] at hg hm
      obtain ⟨b, q, h1, h2, h3, h4, h5⟩ := hg
      have := charB_err hc
      subst this
      exact ⟨b, q, true, h3, h1, h2, h4, h5, .inr ⟨rfl, hm⟩⟩
  obtain ⟨c, q, bd, rfl, hcl, hq, hb2, F2, hst⟩ := hres
  have HST := Lib.hid hst
  have HQ := Lib.hid (H13.out.call hd hb2 F2)
  have hc0 : (0 : Int) ≤ (c : Int) := by omega
  have hc256 : (c : Int) < 256 := by omega
  have cb := boolsO_cell HQ.out.a hcl
  have fb : wb.frozen? ⟨w.heap.size + 1, c, none⟩ = false := boolsO_free HQ.out.a
  have HP := Lib.hid (HQ.out.put hd c true)
  clear hg hst hb2 F2
  go_wp2_with fail
  clear cb fb
  have C14 := HP.out
  obtain ⟨w14, hw14⟩ : ∃ x, wb.setCell ⟨w.heap.size + 1, c, none⟩ (.bool true) = x := ⟨_, rfl⟩
  rw [hw14] at C14 ⊢
  clear hw14
  have H14 := Lib.hid C14
  clear C14
  obtain ⟨A, hA⟩ : ∃ A : Nat → Bool, (fun b => if b = c then true else false) = A := ⟨_, rfl⟩
  rw [hA] at H14 HP
  have hy : ∀ b, b < 256 → A b = (Bs.zero.add c).has b := fun b hb => by
    rw [← hA, Bs.has_add _ c b hcl hb, Bs.has_zero, Bool.false_or]
    by_cases h : b = c
    · subst h; simp
    · simp [h]
  have HY := Lib.hid (And.intro (Bs.Ok.zero.add c) hy)
  clear hy hA
  have hba := H14.out.a
  rw [boolsO] at hba
  have hlen := boolsF_length (A)
  have HON := Lib.hid (only_any (A))
  obtain ⟨v0, hv0⟩ : ∃ v, wordT (A) 0 64 = v := ⟨_, rfl⟩
  obtain ⟨v1, hv1⟩ : ∃ v, wordT (A) 1 64 = v := ⟨_, rfl⟩
  obtain ⟨v2, hv2⟩ : ∃ v, wordT (A) 2 64 = v := ⟨_, rfl⟩
  obtain ⟨v3, hv3⟩ : ∃ v, wordT (A) 3 64 = v := ⟨_, rfl⟩
  rw [hv0, hv1, hv2, hv3] at HON
  have HVS := Lib.hid (And.intro hv0 (And.intro hv1 (And.intro hv2 hv3)))
  clear hv0 hv1 hv2 hv3
  generalize boolsF (A) = C at *
  first
    | (refine wp_load_mid 84 _ rfl (w.heap.size + 1) 0 rfl C _ (range_of_ hba) Try.underlying84 rfl (by rw [hlen]; exact bools_info) ?_; go_wp2_with fail)
    | go_wp2_with (refine wpList_load_row_ rfl 84 _ rfl (w.heap.size + 1) 84 C _ rfl hba Try.underlying84 rfl (by rw [hlen]; exact bools_info) ?_)
  refine (HON.out _).mono ?_
  rintro e wo ⟨rfl, Fo⟩
  have HNR := Lib.hid (Fo.at_ H14.out.r (fun h => h))
  have HNB := Lib.hid (Fo.at_ H14.out.b (fun h => h))
  have HNF := Lib.hid (H14.out.f.tr Fo.none)
  obtain ⟨z0, z1, z2, z3, z4, z5⟩ := six HNR.out
  have zf : ∀ o, wo.frozen? ⟨w.heap.size, o, none⟩ = false := fun o => free_of_block HNR.out
  have E2 : ¬ at1 w.heap.size d := by simp only [at1]; omega
  clear Fo hba
  go_wp2_with fail
  refine bodyPost_ret (results_six rfl rfl (set_six HNR.out _ _ _ _ _ _)) rfl ?_
  have fx := fr_six (S := at1 w.heap.size) (r := w.heap.size) (Fr.refl _ wo) (.inl rfl) (.int .i64 1) (.int .u64 (v0 : Nat)) (.int .u64 (v1 : Nat)) (.int .u64 (v2 : Nat)) (.int .u64 (v3 : Nat)) (.slice none 0 0)
  have hbx := fx.at_ HNB.out E2
  have hfx := fr_six HNF.out (.inr (Nat.le_refl _)) (.int .i64 1) (.int .u64 (v0 : Nat)) (.int .u64 (v1 : Nat)) (.int .u64 (v2 : Nat)) (.int .u64 (v3 : Nat)) (.slice none 0 0)
  rcases HST.out with ⟨rfl, rfl⟩ | ⟨rfl, rfl⟩
  · obtain ⟨e0, e1, e2, e3⟩ := HVS.out
    rw [word_eq HY.out.1 HY.out.2 0 (by omega)] at e0
    rw [word_eq HY.out.1 HY.out.2 1 (by omega)] at e1
    rw [word_eq HY.out.1 HY.out.2 2 (by omega)] at e2
    rw [word_eq HY.out.1 HY.out.2 3 (by omega)] at e3
    subst e0 e1 e2 e3
    exact ⟨_, rfl, RxV.bs _ _ (Bs.zero.add c), hbx, hfx⟩
  · exact ⟨_, (⟨v0, v1, v2, v3⟩ : Bs).rx, q, rfl, RxV.bs _ _ (⟨v0, v1, v2, v3⟩ : Bs), by omega, hbx, hfx⟩
set_option maxRecDepth 100000 in
set_option maxHeartbeats 4000000 in
theorem ratom_42 (s : ByteArray) (p d k : Nat) (w : World) (m : Got Rx) (hs : s.size ≤ 1000) (hb : w.heap[d]? = some (rrObj s p false false)) (hp : p < s.size) (h40 : isB s p 40 = false) (h91 : isB s p 91 = false) (h46 : isB s p 46 = false) (h92 : isB s p 92 = false) (h42 : isB s p 42 = true)  :
    Calls Try.prog 42 #[.pointer (some ⟨d, 0, none⟩)] w (RGotR 1 d s w (.error 5)) := by
  have hd := lt_of_block hb
  have H0 := Lib.hid (CS.start hb)
  obtain ⟨q1, hq1⟩ : ∃ x, p + 1 = x := ⟨_, rfl⟩
  have hc1 : (p : Int) + 1 = (q1 : Int) := by omega
  have hq1s : q1 ≤ s.size := by omega
  have hp0 : (0 : Int) ≤ (p : Int) := by omega
  clear hb
  have E40 := Lib.hid h40
  clear h40
  have E91 := Lib.hid h91
  clear h91
  have E46 := Lib.hid h46
  clear h46
  have E92 := Lib.hid h92
  clear h92
  have E42 := Lib.hid h42
  clear h42
  have hge : decide ((s.size : Int) ≤ (p : Int)) = false := by simp; omega
  have hgn : decide (s.size ≤ p) = false := by simp; omega
  go_enter Try.func42, Try.ntmps42
  go_wp2_with fail
  have C15 := H0.out
  obtain ⟨w15, hw15⟩ : ∃ x, (w.alloc (.cells #[.int .i64 0, .int .u64 0, .int .u64 0, .int .u64 0, .int .u64 0, .slice none 0 0] 28)).alloc (.cells Try.zeroCells84 84) = x := ⟨_, rfl⟩
  rw [hw15] at C15 ⊢
  clear hw15
  have H15 := Lib.hid C15
  clear C15
  refine (ris_any s p d 40 false false _ hs H15.out.b).mono ?_
  rintro e w16 ⟨rfl, F16⟩
  have H16 := Lib.hid (H15.out.move F16)
  clear F16
  rw [E40.out]
  go_wp2_with fail
  refine (ris_any s p d 91 false false _ hs H16.out.b).mono ?_
  rintro e w17 ⟨rfl, F17⟩
  have H17 := Lib.hid (H16.out.move F17)
  clear F17
  rw [E91.out]
  go_wp2_with fail
  refine (ris_any s p d 46 false false _ hs H17.out.b).mono ?_
  rintro e w18 ⟨rfl, F18⟩
  have H18 := Lib.hid (H17.out.move F18)
  clear F18
  rw [E46.out]
  go_wp2_with fail
  refine (ris_any s p d 92 false false _ hs H18.out.b).mono ?_
  rintro e w19 ⟨rfl, F19⟩
  have H19 := Lib.hid (H18.out.move F19)
  clear F19
  rw [E92.out]
  have HG0 := Lib.hid (H19.out.move ((Fr.refl none_ _).drew))
  go_wp2_with fail
  refine wp_region_held_drew (S := (fun w' => w'.cell? ⟨d, 0, none⟩ = some (.string s) ∧ w'.cell? ⟨d, 1, none⟩ = some (.int .i64 (p : Int)))) (by kernel_rfl) ⟨cell_of_block HG0.out.b rfl, cell_of_block HG0.out.b rfl⟩ (fun hHeld => ?_)
  refine wpAnyH_take (i := 0) (v := ?_) alit0 (by kernel_rfl) (by kernel_rfl) (by kernel_rfl) (fun _ _ _ h => h) (Or.inl ⟨by rfl, ?_⟩) (by assumption) ?_
  rotate_left
  · (intro w hSw; (try dsimp only at hSw); go_simp) <;> with_reducible rfl
  try simp only [Act.put, List.setIfInBounds_toArray, List.set_cons_zero, List.set_cons_succ]
  refine wpAnyH_take (i := 1) (v := ?_) alit1 (by kernel_rfl) (by kernel_rfl) (by kernel_rfl) (fun _ _ _ h => h) (Or.inl ⟨by rfl, ?_⟩) (by assumption) ?_
  rotate_left
  · (intro w hSw; (try dsimp only at hSw); go_simp) <;> with_reducible rfl
  try simp only [Act.put, List.setIfInBounds_toArray, List.set_cons_zero, List.set_cons_succ]
  refine wpAnyH_take (i := 2) (v := ?_) alit2 (by kernel_rfl) (by kernel_rfl) (by kernel_rfl) (fun _ _ _ h => h) (Or.inl ⟨by rfl, ?_⟩) (by assumption) ?_
  rotate_left
  · (intro w hSw; (try dsimp only at hSw); go_simp) <;> with_reducible rfl
  try simp only [Act.put, List.setIfInBounds_toArray, List.set_cons_zero, List.set_cons_succ]
  refine wpAnyH_take (i := 3) (v := ?_) alit3 (by kernel_rfl) (by kernel_rfl) (by kernel_rfl) (fun _ _ _ h => h) (Or.inl ⟨by rfl, ?_⟩) (by assumption) ?_
  rotate_left
  · (intro w hSw; (try dsimp only at hSw); go_simp) <;> with_reducible rfl
  try simp only [Act.put, List.setIfInBounds_toArray, List.set_cons_zero, List.set_cons_succ]
  refine wpAnyH_take (i := 4) (v := ?_) alit4 (by kernel_rfl) (by kernel_rfl) (by kernel_rfl) (fun _ _ _ h => h) (Or.inl ⟨by rfl, ?_⟩) (by assumption) ?_
  rotate_left
  · (intro w hSw; (try dsimp only at hSw); go_simp) <;> with_reducible rfl
  try simp only [Act.put, List.setIfInBounds_toArray, List.set_cons_zero, List.set_cons_succ]
  refine wpAnyH_take (i := 5) (v := ?_) alit5 (by kernel_rfl) (by kernel_rfl) (by kernel_rfl) (fun _ _ _ h => h) (Or.inl ⟨by rfl, ?_⟩) (by assumption) ?_
  rotate_left
  · (intro w hSw; (try dsimp only at hSw); go_simp) <;> with_reducible rfl
  try simp only [Act.put, List.setIfInBounds_toArray, List.set_cons_zero, List.set_cons_succ]
  refine wpAnyH_take (i := 6) (v := ?_) alit6 (by kernel_rfl) (by kernel_rfl) (by kernel_rfl) (fun _ _ _ h => h) (Or.inl ⟨by rfl, ?_⟩) (by assumption) ?_
  rotate_left
  · (intro w hSw; (try dsimp only at hSw); go_simp) <;> with_reducible rfl
  try simp only [Act.put, List.setIfInBounds_toArray, List.set_cons_zero, List.set_cons_succ]
  refine wpAnyH_take (i := 7) (v := ?_) alit7 (by kernel_rfl) (by kernel_rfl) (by kernel_rfl) (fun _ _ _ h => h) (Or.inl ⟨by rfl, ?_⟩) (by assumption) ?_
  rotate_left
  · (intro w hSw; (try dsimp only at hSw); go_simp) <;> with_reducible rfl
  try simp only [Act.put, List.setIfInBounds_toArray, List.set_cons_zero, List.set_cons_succ]
  refine wpAnyH_take (i := 8) (v := ?_) alit8 (by kernel_rfl) (by kernel_rfl) (by kernel_rfl) (fun _ _ _ h => h) (Or.inl ⟨by rfl, ?_⟩) (by assumption) ?_
  rotate_left
  · (intro w hSw; (try dsimp only at hSw); go_simp) <;> with_reducible rfl
  try simp only [Act.put, List.setIfInBounds_toArray, List.set_cons_zero, List.set_cons_succ]
  refine wpAnyH_take (i := 9) (v := ?_) alit9 (by kernel_rfl) (by kernel_rfl) (by kernel_rfl) (fun _ _ _ h => h) (Or.inl ⟨by rfl, ?_⟩) (by assumption) ?_
  rotate_left
  · (intro w hSw; (try dsimp only at hSw); go_simp) <;> with_reducible rfl
  try simp only [Act.put, List.setIfInBounds_toArray, List.set_cons_zero, List.set_cons_succ]
  refine wpAnyH_take (i := 10) (v := ?_) alit10 (by kernel_rfl) (by kernel_rfl) (by kernel_rfl) (fun _ _ _ h => h) (Or.inl ⟨by rfl, ?_⟩) (by assumption) ?_
  rotate_left
  · (intro w hSw; (try dsimp only at hSw); go_simp) <;> with_reducible rfl
  try simp only [Act.put, List.setIfInBounds_toArray, List.set_cons_zero, List.set_cons_succ]
  refine wpAnyH_take (i := 11) (v := ?_) alit11 (by kernel_rfl) (by kernel_rfl) (by kernel_rfl) (fun _ _ _ h => h) (Or.inl ⟨by rfl, ?_⟩) (by assumption) ?_
  rotate_left
  · (intro w hSw; (try dsimp only at hSw); go_simp) <;> with_reducible rfl
  try simp only [Act.put, List.setIfInBounds_toArray, List.set_cons_zero, List.set_cons_succ]
  refine wpAnyH_ready (rs := [12]) (by kernel_rfl) (by simp) ?_
  refine AllReadyH.cons alit12 (fun K hK => ?_) AllReadyH.nil
  go_simp
  go_at_call 31
  refine (ris_any s p d 42 false false _ hs HG0.out.b).mono ?_
  rintro e wx0 ⟨rfl, Fx⟩
  have HG1 := Lib.hid (HG0.out.move Fx)
  clear Fx
  rw [E42.out]
  refine hK.out _ _ ⟨cell_of_block HG1.out.b rfl, cell_of_block HG1.out.b rfl⟩ (fun hHeld => ?_)
  clear hK K
  try simp only [Act.put, List.setIfInBounds_toArray, List.set_cons_zero, List.set_cons_succ]
  refine wpAnyH_take (i := 13) (v := ?_) alit13 (by kernel_rfl) (by kernel_rfl) (by kernel_rfl) (fun _ _ _ h => h) (Or.inl ⟨by rfl, ?_⟩) (by assumption) ?_
  rotate_left
  · (intro w hSw; (try dsimp only at hSw); go_simp) <;> with_reducible rfl
  try simp only [Act.put, List.setIfInBounds_toArray, List.set_cons_zero, List.set_cons_succ]
  refine wpAnyH_take (i := 14) (v := ?_) alit14 (by kernel_rfl) (by kernel_rfl) (by kernel_rfl) (fun _ _ _ h => h) (Or.inl ⟨by rfl, ?_⟩) (by assumption) ?_
  rotate_left
  · (intro w hSw; (try dsimp only at hSw); go_simp) <;> with_reducible rfl
  try simp only [Act.put, List.setIfInBounds_toArray, List.set_cons_zero, List.set_cons_succ]
  refine wpAnyH_take (i := 15) alit15 (by kernel_rfl) (by kernel_rfl) (by kernel_rfl) (fun _ _ _ h => h) (Or.inr ⟨by rfl, rfl⟩) (by assumption) ?_
  try simp only [Act.put, List.setIfInBounds_toArray, List.set_cons_zero, List.set_cons_succ]
  refine wpAnyH_take (i := 16) alit16 (by kernel_rfl) (by kernel_rfl) (by kernel_rfl) (fun _ _ _ h => h) (Or.inr ⟨by rfl, rfl⟩) (by assumption) ?_
  try simp only [Act.put, List.setIfInBounds_toArray, List.set_cons_zero, List.set_cons_succ]
  refine wpAnyH_take (i := 17) (v := ?_) alit17 (by kernel_rfl) (by kernel_rfl) (by kernel_rfl) (fun _ _ _ h => h) (Or.inl ⟨by rfl, ?_⟩) (by assumption) ?_
  rotate_left
  · (intro w hSw; (try dsimp only at hSw); go_simp) <;> with_reducible rfl
  try simp only [Act.put, List.setIfInBounds_toArray, List.set_cons_zero, List.set_cons_succ]
  refine wpAnyH_take (i := 18) (v := ?_) alit18 (by kernel_rfl) (by kernel_rfl) (by kernel_rfl) (fun _ _ _ h => h) (Or.inl ⟨by rfl, ?_⟩) (by assumption) ?_
  rotate_left
  · (intro w hSw; (try dsimp only at hSw); go_simp) <;> with_reducible rfl
  try simp only [Act.put, List.setIfInBounds_toArray, List.set_cons_zero, List.set_cons_succ]
  refine wpAnyH_take (i := 19) alit19 (by kernel_rfl) (by kernel_rfl) (by kernel_rfl) (fun _ _ _ h => h) (Or.inr ⟨by rfl, rfl⟩) (by assumption) ?_
  try simp only [Act.put, List.setIfInBounds_toArray, List.set_cons_zero, List.set_cons_succ]
  refine wpAnyH_take (i := 20) alit20 (by kernel_rfl) (by kernel_rfl) (by kernel_rfl) (fun _ _ _ h => h) (Or.inr ⟨by rfl, rfl⟩) (by assumption) ?_
  try simp only [Act.put, List.setIfInBounds_toArray, List.set_cons_zero, List.set_cons_succ]
  refine wpAnyH_take (i := 21) (v := ?_) alit21 (by kernel_rfl) (by kernel_rfl) (by kernel_rfl) (fun _ _ _ h => h) (Or.inl ⟨by rfl, ?_⟩) (by assumption) ?_
  rotate_left
  · (intro w hSw; (try dsimp only at hSw); go_simp) <;> with_reducible rfl
  try simp only [Act.put, List.setIfInBounds_toArray, List.set_cons_zero, List.set_cons_succ]
  refine wpAnyH_take (i := 22) (v := ?_) alit22 (by kernel_rfl) (by kernel_rfl) (by kernel_rfl) (fun _ _ _ h => h) (Or.inl ⟨by rfl, ?_⟩) (by assumption) ?_
  rotate_left
  · (intro w hSw; (try dsimp only at hSw); go_simp) <;> with_reducible rfl
  try simp only [Act.put, List.setIfInBounds_toArray, List.set_cons_zero, List.set_cons_succ]
  refine wpAnyH_take (i := 23) alit23 (by kernel_rfl) (by kernel_rfl) (by kernel_rfl) (fun _ _ _ h => h) (Or.inr ⟨by rfl, rfl⟩) (by assumption) ?_
  try simp only [Act.put, List.setIfInBounds_toArray, List.set_cons_zero, List.set_cons_succ]
  refine wpAnyH_take (i := 24) alit24 (by kernel_rfl) (by kernel_rfl) (by kernel_rfl) (fun _ _ _ h => h) (Or.inr ⟨by rfl, rfl⟩) (by assumption) ?_
  try simp only [Act.put, List.setIfInBounds_toArray, List.set_cons_zero, List.set_cons_succ]
  refine wpAnyH_take (i := 25) (v := ?_) alit25 (by kernel_rfl) (by kernel_rfl) (by kernel_rfl) (fun _ _ _ h => h) (Or.inl ⟨by rfl, ?_⟩) (by assumption) ?_
  rotate_left
  · (intro w hSw; (try dsimp only at hSw); go_simp) <;> with_reducible rfl
  try simp only [Act.put, List.setIfInBounds_toArray, List.set_cons_zero, List.set_cons_succ]
  refine wpAnyH_done (by kernel_rfl) ?_ _
  generalize wx0 = wx at *
  obtain ⟨y1, yb, yf⟩ := HG1.out.get
  have HC := Lib.hid (HG1.out.bad hd)
  have g0 : ∀ o, (wx.setCell ⟨d, 2, none⟩ (.bool true)).frozen? ⟨w.heap.size, o, none⟩ = false := fun o => free_of_block HC.out.r
  have g1 : ∀ o, wx.frozen? ⟨w.heap.size, o, none⟩ = false := fun o => free_of_block HG1.out.r
  obtain ⟨c0, c1, c2, c3, c4, c5⟩ := six HG1.out.r
  go_wp2_with fail
  refine bodyPost_ret (results_six rfl rfl (set_six HC.out.r _ _ _ _ _ _)) rfl ?_
  refine ⟨_, Rx.zero, p, rfl, RxV.zero_ _ _, by omega, ?_, fr_six HC.out.f (.inr (Nat.le_refl _)) _ _ _ _ _ _⟩
  exact (fr_six (S := at1 w.heap.size) (r := w.heap.size) (Fr.refl _ _) (.inl rfl) _ _ _ _ _ _).at_ HC.out.b (by simp only [at1]; omega)
set_option maxRecDepth 100000 in
set_option maxHeartbeats 4000000 in
theorem ratom_43 (s : ByteArray) (p d k : Nat) (w : World) (m : Got Rx) (hs : s.size ≤ 1000) (hb : w.heap[d]? = some (rrObj s p false false)) (hp : p < s.size) (h40 : isB s p 40 = false) (h91 : isB s p 91 = false) (h46 : isB s p 46 = false) (h92 : isB s p 92 = false) (h42 : isB s p 42 = false) (h43 : isB s p 43 = true)  :
    Calls Try.prog 42 #[.pointer (some ⟨d, 0, none⟩)] w (RGotR 1 d s w (.error 5)) := by
  have hd := lt_of_block hb
  have H0 := Lib.hid (CS.start hb)
  obtain ⟨q1, hq1⟩ : ∃ x, p + 1 = x := ⟨_, rfl⟩
  have hc1 : (p : Int) + 1 = (q1 : Int) := by omega
  have hq1s : q1 ≤ s.size := by omega
  have hp0 : (0 : Int) ≤ (p : Int) := by omega
  clear hb
  have E40 := Lib.hid h40
  clear h40
  have E91 := Lib.hid h91
  clear h91
  have E46 := Lib.hid h46
  clear h46
  have E92 := Lib.hid h92
  clear h92
  have E42 := Lib.hid h42
  clear h42
  have E43 := Lib.hid h43
  clear h43
  have hge : decide ((s.size : Int) ≤ (p : Int)) = false := by simp; omega
  have hgn : decide (s.size ≤ p) = false := by simp; omega
  go_enter Try.func42, Try.ntmps42
  go_wp2_with fail
  have C20 := H0.out
  obtain ⟨w20, hw20⟩ : ∃ x, (w.alloc (.cells #[.int .i64 0, .int .u64 0, .int .u64 0, .int .u64 0, .int .u64 0, .slice none 0 0] 28)).alloc (.cells Try.zeroCells84 84) = x := ⟨_, rfl⟩
  rw [hw20] at C20 ⊢
  clear hw20
  have H20 := Lib.hid C20
  clear C20
  refine (ris_any s p d 40 false false _ hs H20.out.b).mono ?_
  rintro e w21 ⟨rfl, F21⟩
  have H21 := Lib.hid (H20.out.move F21)
  clear F21
  rw [E40.out]
  go_wp2_with fail
  refine (ris_any s p d 91 false false _ hs H21.out.b).mono ?_
  rintro e w22 ⟨rfl, F22⟩
  have H22 := Lib.hid (H21.out.move F22)
  clear F22
  rw [E91.out]
  go_wp2_with fail
  refine (ris_any s p d 46 false false _ hs H22.out.b).mono ?_
  rintro e w23 ⟨rfl, F23⟩
  have H23 := Lib.hid (H22.out.move F23)
  clear F23
  rw [E46.out]
  go_wp2_with fail
  refine (ris_any s p d 92 false false _ hs H23.out.b).mono ?_
  rintro e w24 ⟨rfl, F24⟩
  have H24 := Lib.hid (H23.out.move F24)
  clear F24
  rw [E92.out]
  have HG0 := Lib.hid (H24.out.move ((Fr.refl none_ _).drew))
  go_wp2_with fail
  refine wp_region_held_drew (S := (fun w' => w'.cell? ⟨d, 0, none⟩ = some (.string s) ∧ w'.cell? ⟨d, 1, none⟩ = some (.int .i64 (p : Int)))) (by kernel_rfl) ⟨cell_of_block HG0.out.b rfl, cell_of_block HG0.out.b rfl⟩ (fun hHeld => ?_)
  refine wpAnyH_take (i := 0) (v := ?_) alit0 (by kernel_rfl) (by kernel_rfl) (by kernel_rfl) (fun _ _ _ h => h) (Or.inl ⟨by rfl, ?_⟩) (by assumption) ?_
  rotate_left
  · (intro w hSw; (try dsimp only at hSw); go_simp) <;> with_reducible rfl
  try simp only [Act.put, List.setIfInBounds_toArray, List.set_cons_zero, List.set_cons_succ]
  refine wpAnyH_take (i := 1) (v := ?_) alit1 (by kernel_rfl) (by kernel_rfl) (by kernel_rfl) (fun _ _ _ h => h) (Or.inl ⟨by rfl, ?_⟩) (by assumption) ?_
  rotate_left
  · (intro w hSw; (try dsimp only at hSw); go_simp) <;> with_reducible rfl
  try simp only [Act.put, List.setIfInBounds_toArray, List.set_cons_zero, List.set_cons_succ]
  refine wpAnyH_take (i := 2) (v := ?_) alit2 (by kernel_rfl) (by kernel_rfl) (by kernel_rfl) (fun _ _ _ h => h) (Or.inl ⟨by rfl, ?_⟩) (by assumption) ?_
  rotate_left
  · (intro w hSw; (try dsimp only at hSw); go_simp) <;> with_reducible rfl
  try simp only [Act.put, List.setIfInBounds_toArray, List.set_cons_zero, List.set_cons_succ]
  refine wpAnyH_take (i := 3) (v := ?_) alit3 (by kernel_rfl) (by kernel_rfl) (by kernel_rfl) (fun _ _ _ h => h) (Or.inl ⟨by rfl, ?_⟩) (by assumption) ?_
  rotate_left
  · (intro w hSw; (try dsimp only at hSw); go_simp) <;> with_reducible rfl
  try simp only [Act.put, List.setIfInBounds_toArray, List.set_cons_zero, List.set_cons_succ]
  refine wpAnyH_take (i := 4) (v := ?_) alit4 (by kernel_rfl) (by kernel_rfl) (by kernel_rfl) (fun _ _ _ h => h) (Or.inl ⟨by rfl, ?_⟩) (by assumption) ?_
  rotate_left
  · (intro w hSw; (try dsimp only at hSw); go_simp) <;> with_reducible rfl
  try simp only [Act.put, List.setIfInBounds_toArray, List.set_cons_zero, List.set_cons_succ]
  refine wpAnyH_take (i := 5) (v := ?_) alit5 (by kernel_rfl) (by kernel_rfl) (by kernel_rfl) (fun _ _ _ h => h) (Or.inl ⟨by rfl, ?_⟩) (by assumption) ?_
  rotate_left
  · (intro w hSw; (try dsimp only at hSw); go_simp) <;> with_reducible rfl
  try simp only [Act.put, List.setIfInBounds_toArray, List.set_cons_zero, List.set_cons_succ]
  refine wpAnyH_take (i := 6) (v := ?_) alit6 (by kernel_rfl) (by kernel_rfl) (by kernel_rfl) (fun _ _ _ h => h) (Or.inl ⟨by rfl, ?_⟩) (by assumption) ?_
  rotate_left
  · (intro w hSw; (try dsimp only at hSw); go_simp) <;> with_reducible rfl
  try simp only [Act.put, List.setIfInBounds_toArray, List.set_cons_zero, List.set_cons_succ]
  refine wpAnyH_take (i := 7) (v := ?_) alit7 (by kernel_rfl) (by kernel_rfl) (by kernel_rfl) (fun _ _ _ h => h) (Or.inl ⟨by rfl, ?_⟩) (by assumption) ?_
  rotate_left
  · (intro w hSw; (try dsimp only at hSw); go_simp) <;> with_reducible rfl
  try simp only [Act.put, List.setIfInBounds_toArray, List.set_cons_zero, List.set_cons_succ]
  refine wpAnyH_take (i := 8) (v := ?_) alit8 (by kernel_rfl) (by kernel_rfl) (by kernel_rfl) (fun _ _ _ h => h) (Or.inl ⟨by rfl, ?_⟩) (by assumption) ?_
  rotate_left
  · (intro w hSw; (try dsimp only at hSw); go_simp) <;> with_reducible rfl
  try simp only [Act.put, List.setIfInBounds_toArray, List.set_cons_zero, List.set_cons_succ]
  refine wpAnyH_take (i := 9) (v := ?_) alit9 (by kernel_rfl) (by kernel_rfl) (by kernel_rfl) (fun _ _ _ h => h) (Or.inl ⟨by rfl, ?_⟩) (by assumption) ?_
  rotate_left
  · (intro w hSw; (try dsimp only at hSw); go_simp) <;> with_reducible rfl
  try simp only [Act.put, List.setIfInBounds_toArray, List.set_cons_zero, List.set_cons_succ]
  refine wpAnyH_take (i := 10) (v := ?_) alit10 (by kernel_rfl) (by kernel_rfl) (by kernel_rfl) (fun _ _ _ h => h) (Or.inl ⟨by rfl, ?_⟩) (by assumption) ?_
  rotate_left
  · (intro w hSw; (try dsimp only at hSw); go_simp) <;> with_reducible rfl
  try simp only [Act.put, List.setIfInBounds_toArray, List.set_cons_zero, List.set_cons_succ]
  refine wpAnyH_take (i := 11) (v := ?_) alit11 (by kernel_rfl) (by kernel_rfl) (by kernel_rfl) (fun _ _ _ h => h) (Or.inl ⟨by rfl, ?_⟩) (by assumption) ?_
  rotate_left
  · (intro w hSw; (try dsimp only at hSw); go_simp) <;> with_reducible rfl
  try simp only [Act.put, List.setIfInBounds_toArray, List.set_cons_zero, List.set_cons_succ]
  refine wpAnyH_ready (rs := [12]) (by kernel_rfl) (by simp) ?_
  refine AllReadyH.cons alit12 (fun K hK => ?_) AllReadyH.nil
  go_simp
  go_at_call 31
  refine (ris_any s p d 42 false false _ hs HG0.out.b).mono ?_
  rintro e wx0 ⟨rfl, Fx⟩
  have HG1 := Lib.hid (HG0.out.move Fx)
  clear Fx
  rw [E42.out]
  refine hK.out _ _ ⟨cell_of_block HG1.out.b rfl, cell_of_block HG1.out.b rfl⟩ (fun hHeld => ?_)
  clear hK K
  try simp only [Act.put, List.setIfInBounds_toArray, List.set_cons_zero, List.set_cons_succ]
  refine wpAnyH_take (i := 13) (v := ?_) alit13 (by kernel_rfl) (by kernel_rfl) (by kernel_rfl) (fun _ _ _ h => h) (Or.inl ⟨by rfl, ?_⟩) (by assumption) ?_
  rotate_left
  · (intro w hSw; (try dsimp only at hSw); go_simp) <;> with_reducible rfl
  try simp only [Act.put, List.setIfInBounds_toArray, List.set_cons_zero, List.set_cons_succ]
  refine wpAnyH_take (i := 14) (v := ?_) alit14 (by kernel_rfl) (by kernel_rfl) (by kernel_rfl) (fun _ _ _ h => h) (Or.inl ⟨by rfl, ?_⟩) (by assumption) ?_
  rotate_left
  · (intro w hSw; (try dsimp only at hSw); go_simp) <;> with_reducible rfl
  try simp only [Act.put, List.setIfInBounds_toArray, List.set_cons_zero, List.set_cons_succ]
  refine wpAnyH_take (i := 15) (v := ?_) alit15 (by kernel_rfl) (by kernel_rfl) (by kernel_rfl) (fun _ _ _ h => h) (Or.inl ⟨by rfl, ?_⟩) (by assumption) ?_
  rotate_left
  · (intro w hSw; (try dsimp only at hSw); go_simp) <;> with_reducible rfl
  try simp only [Act.put, List.setIfInBounds_toArray, List.set_cons_zero, List.set_cons_succ]
  refine wpAnyH_ready (rs := [16]) (by kernel_rfl) (by simp) ?_
  refine AllReadyH.cons alit16 (fun K hK => ?_) AllReadyH.nil
  go_simp
  go_at_call 31
  refine (ris_any s p d 43 false false _ hs HG1.out.b).mono ?_
  rintro e wx1 ⟨rfl, Fx⟩
  have HG2 := Lib.hid (HG1.out.move Fx)
  clear Fx
  rw [E43.out]
  refine hK.out _ _ ⟨cell_of_block HG2.out.b rfl, cell_of_block HG2.out.b rfl⟩ (fun hHeld => ?_)
  clear hK K
  try simp only [Act.put, List.setIfInBounds_toArray, List.set_cons_zero, List.set_cons_succ]
  refine wpAnyH_take (i := 17) (v := ?_) alit17 (by kernel_rfl) (by kernel_rfl) (by kernel_rfl) (fun _ _ _ h => h) (Or.inl ⟨by rfl, ?_⟩) (by assumption) ?_
  rotate_left
  · (intro w hSw; (try dsimp only at hSw); go_simp) <;> with_reducible rfl
  try simp only [Act.put, List.setIfInBounds_toArray, List.set_cons_zero, List.set_cons_succ]
  refine wpAnyH_take (i := 18) (v := ?_) alit18 (by kernel_rfl) (by kernel_rfl) (by kernel_rfl) (fun _ _ _ h => h) (Or.inl ⟨by rfl, ?_⟩) (by assumption) ?_
  rotate_left
  · (intro w hSw; (try dsimp only at hSw); go_simp) <;> with_reducible rfl
  try simp only [Act.put, List.setIfInBounds_toArray, List.set_cons_zero, List.set_cons_succ]
  refine wpAnyH_take (i := 19) alit19 (by kernel_rfl) (by kernel_rfl) (by kernel_rfl) (fun _ _ _ h => h) (Or.inr ⟨by rfl, rfl⟩) (by assumption) ?_
  try simp only [Act.put, List.setIfInBounds_toArray, List.set_cons_zero, List.set_cons_succ]
  refine wpAnyH_take (i := 20) alit20 (by kernel_rfl) (by kernel_rfl) (by kernel_rfl) (fun _ _ _ h => h) (Or.inr ⟨by rfl, rfl⟩) (by assumption) ?_
  try simp only [Act.put, List.setIfInBounds_toArray, List.set_cons_zero, List.set_cons_succ]
  refine wpAnyH_take (i := 21) (v := ?_) alit21 (by kernel_rfl) (by kernel_rfl) (by kernel_rfl) (fun _ _ _ h => h) (Or.inl ⟨by rfl, ?_⟩) (by assumption) ?_
  rotate_left
  · (intro w hSw; (try dsimp only at hSw); go_simp) <;> with_reducible rfl
  try simp only [Act.put, List.setIfInBounds_toArray, List.set_cons_zero, List.set_cons_succ]
  refine wpAnyH_take (i := 22) (v := ?_) alit22 (by kernel_rfl) (by kernel_rfl) (by kernel_rfl) (fun _ _ _ h => h) (Or.inl ⟨by rfl, ?_⟩) (by assumption) ?_
  rotate_left
  · (intro w hSw; (try dsimp only at hSw); go_simp) <;> with_reducible rfl
  try simp only [Act.put, List.setIfInBounds_toArray, List.set_cons_zero, List.set_cons_succ]
  refine wpAnyH_take (i := 23) alit23 (by kernel_rfl) (by kernel_rfl) (by kernel_rfl) (fun _ _ _ h => h) (Or.inr ⟨by rfl, rfl⟩) (by assumption) ?_
  try simp only [Act.put, List.setIfInBounds_toArray, List.set_cons_zero, List.set_cons_succ]
  refine wpAnyH_take (i := 24) alit24 (by kernel_rfl) (by kernel_rfl) (by kernel_rfl) (fun _ _ _ h => h) (Or.inr ⟨by rfl, rfl⟩) (by assumption) ?_
  try simp only [Act.put, List.setIfInBounds_toArray, List.set_cons_zero, List.set_cons_succ]
  refine wpAnyH_take (i := 25) (v := ?_) alit25 (by kernel_rfl) (by kernel_rfl) (by kernel_rfl) (fun _ _ _ h => h) (Or.inl ⟨by rfl, ?_⟩) (by assumption) ?_
  rotate_left
  · (intro w hSw; (try dsimp only at hSw); go_simp) <;> with_reducible rfl
  try simp only [Act.put, List.setIfInBounds_toArray, List.set_cons_zero, List.set_cons_succ]
  refine wpAnyH_done (by kernel_rfl) ?_ _
  generalize wx1 = wx at *
  obtain ⟨y1, yb, yf⟩ := HG2.out.get
  have HC := Lib.hid (HG2.out.bad hd)
  have g0 : ∀ o, (wx.setCell ⟨d, 2, none⟩ (.bool true)).frozen? ⟨w.heap.size, o, none⟩ = false := fun o => free_of_block HC.out.r
  have g1 : ∀ o, wx.frozen? ⟨w.heap.size, o, none⟩ = false := fun o => free_of_block HG2.out.r
  obtain ⟨c0, c1, c2, c3, c4, c5⟩ := six HG2.out.r
  go_wp2_with fail
  refine bodyPost_ret (results_six rfl rfl (set_six HC.out.r _ _ _ _ _ _)) rfl ?_
  refine ⟨_, Rx.zero, p, rfl, RxV.zero_ _ _, by omega, ?_, fr_six HC.out.f (.inr (Nat.le_refl _)) _ _ _ _ _ _⟩
  exact (fr_six (S := at1 w.heap.size) (r := w.heap.size) (Fr.refl _ _) (.inl rfl) _ _ _ _ _ _).at_ HC.out.b (by simp only [at1]; omega)
set_option maxRecDepth 100000 in
set_option maxHeartbeats 4000000 in
theorem ratom_63 (s : ByteArray) (p d k : Nat) (w : World) (m : Got Rx) (hs : s.size ≤ 1000) (hb : w.heap[d]? = some (rrObj s p false false)) (hp : p < s.size) (h40 : isB s p 40 = false) (h91 : isB s p 91 = false) (h46 : isB s p 46 = false) (h92 : isB s p 92 = false) (h42 : isB s p 42 = false) (h43 : isB s p 43 = false) (h63 : isB s p 63 = true)  :
    Calls Try.prog 42 #[.pointer (some ⟨d, 0, none⟩)] w (RGotR 1 d s w (.error 5)) := by
  have hd := lt_of_block hb
  have H0 := Lib.hid (CS.start hb)
  obtain ⟨q1, hq1⟩ : ∃ x, p + 1 = x := ⟨_, rfl⟩
  have hc1 : (p : Int) + 1 = (q1 : Int) := by omega
  have hq1s : q1 ≤ s.size := by omega
  have hp0 : (0 : Int) ≤ (p : Int) := by omega
  clear hb
  have E40 := Lib.hid h40
  clear h40
  have E91 := Lib.hid h91
  clear h91
  have E46 := Lib.hid h46
  clear h46
  have E92 := Lib.hid h92
  clear h92
  have E42 := Lib.hid h42
  clear h42
  have E43 := Lib.hid h43
  clear h43
  have E63 := Lib.hid h63
  clear h63
  have hge : decide ((s.size : Int) ≤ (p : Int)) = false := by simp; omega
  have hgn : decide (s.size ≤ p) = false := by simp; omega
  go_enter Try.func42, Try.ntmps42
  go_wp2_with fail
  have C25 := H0.out
  obtain ⟨w25, hw25⟩ : ∃ x, (w.alloc (.cells #[.int .i64 0, .int .u64 0, .int .u64 0, .int .u64 0, .int .u64 0, .slice none 0 0] 28)).alloc (.cells Try.zeroCells84 84) = x := ⟨_, rfl⟩
  rw [hw25] at C25 ⊢
  clear hw25
  have H25 := Lib.hid C25
  clear C25
  refine (ris_any s p d 40 false false _ hs H25.out.b).mono ?_
  rintro e w26 ⟨rfl, F26⟩
  have H26 := Lib.hid (H25.out.move F26)
  clear F26
  rw [E40.out]
  go_wp2_with fail
  refine (ris_any s p d 91 false false _ hs H26.out.b).mono ?_
  rintro e w27 ⟨rfl, F27⟩
  have H27 := Lib.hid (H26.out.move F27)
  clear F27
  rw [E91.out]
  go_wp2_with fail
  refine (ris_any s p d 46 false false _ hs H27.out.b).mono ?_
  rintro e w28 ⟨rfl, F28⟩
  have H28 := Lib.hid (H27.out.move F28)
  clear F28
  rw [E46.out]
  go_wp2_with fail
  refine (ris_any s p d 92 false false _ hs H28.out.b).mono ?_
  rintro e w29 ⟨rfl, F29⟩
  have H29 := Lib.hid (H28.out.move F29)
  clear F29
  rw [E92.out]
  have HG0 := Lib.hid (H29.out.move ((Fr.refl none_ _).drew))
  go_wp2_with fail
  refine wp_region_held_drew (S := (fun w' => w'.cell? ⟨d, 0, none⟩ = some (.string s) ∧ w'.cell? ⟨d, 1, none⟩ = some (.int .i64 (p : Int)))) (by kernel_rfl) ⟨cell_of_block HG0.out.b rfl, cell_of_block HG0.out.b rfl⟩ (fun hHeld => ?_)
  refine wpAnyH_take (i := 0) (v := ?_) alit0 (by kernel_rfl) (by kernel_rfl) (by kernel_rfl) (fun _ _ _ h => h) (Or.inl ⟨by rfl, ?_⟩) (by assumption) ?_
  rotate_left
  · (intro w hSw; (try dsimp only at hSw); go_simp) <;> with_reducible rfl
  try simp only [Act.put, List.setIfInBounds_toArray, List.set_cons_zero, List.set_cons_succ]
  refine wpAnyH_take (i := 1) (v := ?_) alit1 (by kernel_rfl) (by kernel_rfl) (by kernel_rfl) (fun _ _ _ h => h) (Or.inl ⟨by rfl, ?_⟩) (by assumption) ?_
  rotate_left
  · (intro w hSw; (try dsimp only at hSw); go_simp) <;> with_reducible rfl
  try simp only [Act.put, List.setIfInBounds_toArray, List.set_cons_zero, List.set_cons_succ]
  refine wpAnyH_take (i := 2) (v := ?_) alit2 (by kernel_rfl) (by kernel_rfl) (by kernel_rfl) (fun _ _ _ h => h) (Or.inl ⟨by rfl, ?_⟩) (by assumption) ?_
  rotate_left
  · (intro w hSw; (try dsimp only at hSw); go_simp) <;> with_reducible rfl
  try simp only [Act.put, List.setIfInBounds_toArray, List.set_cons_zero, List.set_cons_succ]
  refine wpAnyH_take (i := 3) (v := ?_) alit3 (by kernel_rfl) (by kernel_rfl) (by kernel_rfl) (fun _ _ _ h => h) (Or.inl ⟨by rfl, ?_⟩) (by assumption) ?_
  rotate_left
  · (intro w hSw; (try dsimp only at hSw); go_simp) <;> with_reducible rfl
  try simp only [Act.put, List.setIfInBounds_toArray, List.set_cons_zero, List.set_cons_succ]
  refine wpAnyH_take (i := 4) (v := ?_) alit4 (by kernel_rfl) (by kernel_rfl) (by kernel_rfl) (fun _ _ _ h => h) (Or.inl ⟨by rfl, ?_⟩) (by assumption) ?_
  rotate_left
  · (intro w hSw; (try dsimp only at hSw); go_simp) <;> with_reducible rfl
  try simp only [Act.put, List.setIfInBounds_toArray, List.set_cons_zero, List.set_cons_succ]
  refine wpAnyH_take (i := 5) (v := ?_) alit5 (by kernel_rfl) (by kernel_rfl) (by kernel_rfl) (fun _ _ _ h => h) (Or.inl ⟨by rfl, ?_⟩) (by assumption) ?_
  rotate_left
  · (intro w hSw; (try dsimp only at hSw); go_simp) <;> with_reducible rfl
  try simp only [Act.put, List.setIfInBounds_toArray, List.set_cons_zero, List.set_cons_succ]
  refine wpAnyH_take (i := 6) (v := ?_) alit6 (by kernel_rfl) (by kernel_rfl) (by kernel_rfl) (fun _ _ _ h => h) (Or.inl ⟨by rfl, ?_⟩) (by assumption) ?_
  rotate_left
  · (intro w hSw; (try dsimp only at hSw); go_simp) <;> with_reducible rfl
  try simp only [Act.put, List.setIfInBounds_toArray, List.set_cons_zero, List.set_cons_succ]
  refine wpAnyH_take (i := 7) (v := ?_) alit7 (by kernel_rfl) (by kernel_rfl) (by kernel_rfl) (fun _ _ _ h => h) (Or.inl ⟨by rfl, ?_⟩) (by assumption) ?_
  rotate_left
  · (intro w hSw; (try dsimp only at hSw); go_simp) <;> with_reducible rfl
  try simp only [Act.put, List.setIfInBounds_toArray, List.set_cons_zero, List.set_cons_succ]
  refine wpAnyH_take (i := 8) (v := ?_) alit8 (by kernel_rfl) (by kernel_rfl) (by kernel_rfl) (fun _ _ _ h => h) (Or.inl ⟨by rfl, ?_⟩) (by assumption) ?_
  rotate_left
  · (intro w hSw; (try dsimp only at hSw); go_simp) <;> with_reducible rfl
  try simp only [Act.put, List.setIfInBounds_toArray, List.set_cons_zero, List.set_cons_succ]
  refine wpAnyH_take (i := 9) (v := ?_) alit9 (by kernel_rfl) (by kernel_rfl) (by kernel_rfl) (fun _ _ _ h => h) (Or.inl ⟨by rfl, ?_⟩) (by assumption) ?_
  rotate_left
  · (intro w hSw; (try dsimp only at hSw); go_simp) <;> with_reducible rfl
  try simp only [Act.put, List.setIfInBounds_toArray, List.set_cons_zero, List.set_cons_succ]
  refine wpAnyH_take (i := 10) (v := ?_) alit10 (by kernel_rfl) (by kernel_rfl) (by kernel_rfl) (fun _ _ _ h => h) (Or.inl ⟨by rfl, ?_⟩) (by assumption) ?_
  rotate_left
  · (intro w hSw; (try dsimp only at hSw); go_simp) <;> with_reducible rfl
  try simp only [Act.put, List.setIfInBounds_toArray, List.set_cons_zero, List.set_cons_succ]
  refine wpAnyH_take (i := 11) (v := ?_) alit11 (by kernel_rfl) (by kernel_rfl) (by kernel_rfl) (fun _ _ _ h => h) (Or.inl ⟨by rfl, ?_⟩) (by assumption) ?_
  rotate_left
  · (intro w hSw; (try dsimp only at hSw); go_simp) <;> with_reducible rfl
  try simp only [Act.put, List.setIfInBounds_toArray, List.set_cons_zero, List.set_cons_succ]
  refine wpAnyH_ready (rs := [12]) (by kernel_rfl) (by simp) ?_
  refine AllReadyH.cons alit12 (fun K hK => ?_) AllReadyH.nil
  go_simp
  go_at_call 31
  refine (ris_any s p d 42 false false _ hs HG0.out.b).mono ?_
  rintro e wx0 ⟨rfl, Fx⟩
  have HG1 := Lib.hid (HG0.out.move Fx)
  clear Fx
  rw [E42.out]
  refine hK.out _ _ ⟨cell_of_block HG1.out.b rfl, cell_of_block HG1.out.b rfl⟩ (fun hHeld => ?_)
  clear hK K
  try simp only [Act.put, List.setIfInBounds_toArray, List.set_cons_zero, List.set_cons_succ]
  refine wpAnyH_take (i := 13) (v := ?_) alit13 (by kernel_rfl) (by kernel_rfl) (by kernel_rfl) (fun _ _ _ h => h) (Or.inl ⟨by rfl, ?_⟩) (by assumption) ?_
  rotate_left
  · (intro w hSw; (try dsimp only at hSw); go_simp) <;> with_reducible rfl
  try simp only [Act.put, List.setIfInBounds_toArray, List.set_cons_zero, List.set_cons_succ]
  refine wpAnyH_take (i := 14) (v := ?_) alit14 (by kernel_rfl) (by kernel_rfl) (by kernel_rfl) (fun _ _ _ h => h) (Or.inl ⟨by rfl, ?_⟩) (by assumption) ?_
  rotate_left
  · (intro w hSw; (try dsimp only at hSw); go_simp) <;> with_reducible rfl
  try simp only [Act.put, List.setIfInBounds_toArray, List.set_cons_zero, List.set_cons_succ]
  refine wpAnyH_take (i := 15) (v := ?_) alit15 (by kernel_rfl) (by kernel_rfl) (by kernel_rfl) (fun _ _ _ h => h) (Or.inl ⟨by rfl, ?_⟩) (by assumption) ?_
  rotate_left
  · (intro w hSw; (try dsimp only at hSw); go_simp) <;> with_reducible rfl
  try simp only [Act.put, List.setIfInBounds_toArray, List.set_cons_zero, List.set_cons_succ]
  refine wpAnyH_ready (rs := [16]) (by kernel_rfl) (by simp) ?_
  refine AllReadyH.cons alit16 (fun K hK => ?_) AllReadyH.nil
  go_simp
  go_at_call 31
  refine (ris_any s p d 43 false false _ hs HG1.out.b).mono ?_
  rintro e wx1 ⟨rfl, Fx⟩
  have HG2 := Lib.hid (HG1.out.move Fx)
  clear Fx
  rw [E43.out]
  refine hK.out _ _ ⟨cell_of_block HG2.out.b rfl, cell_of_block HG2.out.b rfl⟩ (fun hHeld => ?_)
  clear hK K
  try simp only [Act.put, List.setIfInBounds_toArray, List.set_cons_zero, List.set_cons_succ]
  refine wpAnyH_take (i := 17) (v := ?_) alit17 (by kernel_rfl) (by kernel_rfl) (by kernel_rfl) (fun _ _ _ h => h) (Or.inl ⟨by rfl, ?_⟩) (by assumption) ?_
  rotate_left
  · (intro w hSw; (try dsimp only at hSw); go_simp) <;> with_reducible rfl
  try simp only [Act.put, List.setIfInBounds_toArray, List.set_cons_zero, List.set_cons_succ]
  refine wpAnyH_take (i := 18) (v := ?_) alit18 (by kernel_rfl) (by kernel_rfl) (by kernel_rfl) (fun _ _ _ h => h) (Or.inl ⟨by rfl, ?_⟩) (by assumption) ?_
  rotate_left
  · (intro w hSw; (try dsimp only at hSw); go_simp) <;> with_reducible rfl
  try simp only [Act.put, List.setIfInBounds_toArray, List.set_cons_zero, List.set_cons_succ]
  refine wpAnyH_take (i := 19) (v := ?_) alit19 (by kernel_rfl) (by kernel_rfl) (by kernel_rfl) (fun _ _ _ h => h) (Or.inl ⟨by rfl, ?_⟩) (by assumption) ?_
  rotate_left
  · (intro w hSw; (try dsimp only at hSw); go_simp) <;> with_reducible rfl
  try simp only [Act.put, List.setIfInBounds_toArray, List.set_cons_zero, List.set_cons_succ]
  refine wpAnyH_ready (rs := [20]) (by kernel_rfl) (by simp) ?_
  refine AllReadyH.cons alit20 (fun K hK => ?_) AllReadyH.nil
  go_simp
  go_at_call 31
  refine (ris_any s p d 63 false false _ hs HG2.out.b).mono ?_
  rintro e wx2 ⟨rfl, Fx⟩
  have HG3 := Lib.hid (HG2.out.move Fx)
  clear Fx
  rw [E63.out]
  refine hK.out _ _ ⟨cell_of_block HG3.out.b rfl, cell_of_block HG3.out.b rfl⟩ (fun hHeld => ?_)
  clear hK K
  try simp only [Act.put, List.setIfInBounds_toArray, List.set_cons_zero, List.set_cons_succ]
  refine wpAnyH_take (i := 21) (v := ?_) alit21 (by kernel_rfl) (by kernel_rfl) (by kernel_rfl) (fun _ _ _ h => h) (Or.inl ⟨by rfl, ?_⟩) (by assumption) ?_
  rotate_left
  · (intro w hSw; (try dsimp only at hSw); go_simp) <;> with_reducible rfl
  try simp only [Act.put, List.setIfInBounds_toArray, List.set_cons_zero, List.set_cons_succ]
  refine wpAnyH_take (i := 22) (v := ?_) alit22 (by kernel_rfl) (by kernel_rfl) (by kernel_rfl) (fun _ _ _ h => h) (Or.inl ⟨by rfl, ?_⟩) (by assumption) ?_
  rotate_left
  · (intro w hSw; (try dsimp only at hSw); go_simp) <;> with_reducible rfl
  try simp only [Act.put, List.setIfInBounds_toArray, List.set_cons_zero, List.set_cons_succ]
  refine wpAnyH_take (i := 23) alit23 (by kernel_rfl) (by kernel_rfl) (by kernel_rfl) (fun _ _ _ h => h) (Or.inr ⟨by rfl, rfl⟩) (by assumption) ?_
  try simp only [Act.put, List.setIfInBounds_toArray, List.set_cons_zero, List.set_cons_succ]
  refine wpAnyH_take (i := 24) alit24 (by kernel_rfl) (by kernel_rfl) (by kernel_rfl) (fun _ _ _ h => h) (Or.inr ⟨by rfl, rfl⟩) (by assumption) ?_
  try simp only [Act.put, List.setIfInBounds_toArray, List.set_cons_zero, List.set_cons_succ]
  refine wpAnyH_take (i := 25) (v := ?_) alit25 (by kernel_rfl) (by kernel_rfl) (by kernel_rfl) (fun _ _ _ h => h) (Or.inl ⟨by rfl, ?_⟩) (by assumption) ?_
  rotate_left
  · (intro w hSw; (try dsimp only at hSw); go_simp) <;> with_reducible rfl
  try simp only [Act.put, List.setIfInBounds_toArray, List.set_cons_zero, List.set_cons_succ]
  refine wpAnyH_done (by kernel_rfl) ?_ _
  generalize wx2 = wx at *
  obtain ⟨y1, yb, yf⟩ := HG3.out.get
  have HC := Lib.hid (HG3.out.bad hd)
  have g0 : ∀ o, (wx.setCell ⟨d, 2, none⟩ (.bool true)).frozen? ⟨w.heap.size, o, none⟩ = false := fun o => free_of_block HC.out.r
  have g1 : ∀ o, wx.frozen? ⟨w.heap.size, o, none⟩ = false := fun o => free_of_block HG3.out.r
  obtain ⟨c0, c1, c2, c3, c4, c5⟩ := six HG3.out.r
  go_wp2_with fail
  refine bodyPost_ret (results_six rfl rfl (set_six HC.out.r _ _ _ _ _ _)) rfl ?_
  refine ⟨_, Rx.zero, p, rfl, RxV.zero_ _ _, by omega, ?_, fr_six HC.out.f (.inr (Nat.le_refl _)) _ _ _ _ _ _⟩
  exact (fr_six (S := at1 w.heap.size) (r := w.heap.size) (Fr.refl _ _) (.inl rfl) _ _ _ _ _ _).at_ HC.out.b (by simp only [at1]; omega)
set_option maxRecDepth 100000 in
set_option maxHeartbeats 4000000 in
theorem ratom_93 (s : ByteArray) (p d k : Nat) (w : World) (m : Got Rx) (hs : s.size ≤ 1000) (hb : w.heap[d]? = some (rrObj s p false false)) (hp : p < s.size) (h40 : isB s p 40 = false) (h91 : isB s p 91 = false) (h46 : isB s p 46 = false) (h92 : isB s p 92 = false) (h42 : isB s p 42 = false) (h43 : isB s p 43 = false) (h63 : isB s p 63 = false) (h93 : isB s p 93 = true)  :
    Calls Try.prog 42 #[.pointer (some ⟨d, 0, none⟩)] w (RGotR 1 d s w (.error 5)) := by
  have hd := lt_of_block hb
  have H0 := Lib.hid (CS.start hb)
  obtain ⟨q1, hq1⟩ : ∃ x, p + 1 = x := ⟨_, rfl⟩
  have hc1 : (p : Int) + 1 = (q1 : Int) := by omega
  have hq1s : q1 ≤ s.size := by omega
  have hp0 : (0 : Int) ≤ (p : Int) := by omega
  clear hb
  have E40 := Lib.hid h40
  clear h40
  have E91 := Lib.hid h91
  clear h91
  have E46 := Lib.hid h46
  clear h46
  have E92 := Lib.hid h92
  clear h92
  have E42 := Lib.hid h42
  clear h42
  have E43 := Lib.hid h43
  clear h43
  have E63 := Lib.hid h63
  clear h63
  have E93 := Lib.hid h93
  clear h93
  have hge : decide ((s.size : Int) ≤ (p : Int)) = false := by simp; omega
  have hgn : decide (s.size ≤ p) = false := by simp; omega
  go_enter Try.func42, Try.ntmps42
  go_wp2_with fail
  have C30 := H0.out
  obtain ⟨w30, hw30⟩ : ∃ x, (w.alloc (.cells #[.int .i64 0, .int .u64 0, .int .u64 0, .int .u64 0, .int .u64 0, .slice none 0 0] 28)).alloc (.cells Try.zeroCells84 84) = x := ⟨_, rfl⟩
  rw [hw30] at C30 ⊢
  clear hw30
  have H30 := Lib.hid C30
  clear C30
  refine (ris_any s p d 40 false false _ hs H30.out.b).mono ?_
  rintro e w31 ⟨rfl, F31⟩
  have H31 := Lib.hid (H30.out.move F31)
  clear F31
  rw [E40.out]
  go_wp2_with fail
  refine (ris_any s p d 91 false false _ hs H31.out.b).mono ?_
  rintro e w32 ⟨rfl, F32⟩
  have H32 := Lib.hid (H31.out.move F32)
  clear F32
  rw [E91.out]
  go_wp2_with fail
  refine (ris_any s p d 46 false false _ hs H32.out.b).mono ?_
  rintro e w33 ⟨rfl, F33⟩
  have H33 := Lib.hid (H32.out.move F33)
  clear F33
  rw [E46.out]
  go_wp2_with fail
  refine (ris_any s p d 92 false false _ hs H33.out.b).mono ?_
  rintro e w34 ⟨rfl, F34⟩
  have H34 := Lib.hid (H33.out.move F34)
  clear F34
  rw [E92.out]
  have HG0 := Lib.hid (H34.out.move ((Fr.refl none_ _).drew))
  go_wp2_with fail
  refine wp_region_held_drew (S := (fun w' => w'.cell? ⟨d, 0, none⟩ = some (.string s) ∧ w'.cell? ⟨d, 1, none⟩ = some (.int .i64 (p : Int)))) (by kernel_rfl) ⟨cell_of_block HG0.out.b rfl, cell_of_block HG0.out.b rfl⟩ (fun hHeld => ?_)
  refine wpAnyH_take (i := 0) (v := ?_) alit0 (by kernel_rfl) (by kernel_rfl) (by kernel_rfl) (fun _ _ _ h => h) (Or.inl ⟨by rfl, ?_⟩) (by assumption) ?_
  rotate_left
  · (intro w hSw; (try dsimp only at hSw); go_simp) <;> with_reducible rfl
  try simp only [Act.put, List.setIfInBounds_toArray, List.set_cons_zero, List.set_cons_succ]
  refine wpAnyH_take (i := 1) (v := ?_) alit1 (by kernel_rfl) (by kernel_rfl) (by kernel_rfl) (fun _ _ _ h => h) (Or.inl ⟨by rfl, ?_⟩) (by assumption) ?_
  rotate_left
  · (intro w hSw; (try dsimp only at hSw); go_simp) <;> with_reducible rfl
  try simp only [Act.put, List.setIfInBounds_toArray, List.set_cons_zero, List.set_cons_succ]
  refine wpAnyH_take (i := 2) (v := ?_) alit2 (by kernel_rfl) (by kernel_rfl) (by kernel_rfl) (fun _ _ _ h => h) (Or.inl ⟨by rfl, ?_⟩) (by assumption) ?_
  rotate_left
  · (intro w hSw; (try dsimp only at hSw); go_simp) <;> with_reducible rfl
  try simp only [Act.put, List.setIfInBounds_toArray, List.set_cons_zero, List.set_cons_succ]
  refine wpAnyH_take (i := 3) (v := ?_) alit3 (by kernel_rfl) (by kernel_rfl) (by kernel_rfl) (fun _ _ _ h => h) (Or.inl ⟨by rfl, ?_⟩) (by assumption) ?_
  rotate_left
  · (intro w hSw; (try dsimp only at hSw); go_simp) <;> with_reducible rfl
  try simp only [Act.put, List.setIfInBounds_toArray, List.set_cons_zero, List.set_cons_succ]
  refine wpAnyH_take (i := 4) (v := ?_) alit4 (by kernel_rfl) (by kernel_rfl) (by kernel_rfl) (fun _ _ _ h => h) (Or.inl ⟨by rfl, ?_⟩) (by assumption) ?_
  rotate_left
  · (intro w hSw; (try dsimp only at hSw); go_simp) <;> with_reducible rfl
  try simp only [Act.put, List.setIfInBounds_toArray, List.set_cons_zero, List.set_cons_succ]
  refine wpAnyH_take (i := 5) (v := ?_) alit5 (by kernel_rfl) (by kernel_rfl) (by kernel_rfl) (fun _ _ _ h => h) (Or.inl ⟨by rfl, ?_⟩) (by assumption) ?_
  rotate_left
  · (intro w hSw; (try dsimp only at hSw); go_simp) <;> with_reducible rfl
  try simp only [Act.put, List.setIfInBounds_toArray, List.set_cons_zero, List.set_cons_succ]
  refine wpAnyH_take (i := 6) (v := ?_) alit6 (by kernel_rfl) (by kernel_rfl) (by kernel_rfl) (fun _ _ _ h => h) (Or.inl ⟨by rfl, ?_⟩) (by assumption) ?_
  rotate_left
  · (intro w hSw; (try dsimp only at hSw); go_simp) <;> with_reducible rfl
  try simp only [Act.put, List.setIfInBounds_toArray, List.set_cons_zero, List.set_cons_succ]
  refine wpAnyH_take (i := 7) (v := ?_) alit7 (by kernel_rfl) (by kernel_rfl) (by kernel_rfl) (fun _ _ _ h => h) (Or.inl ⟨by rfl, ?_⟩) (by assumption) ?_
  rotate_left
  · (intro w hSw; (try dsimp only at hSw); go_simp) <;> with_reducible rfl
  try simp only [Act.put, List.setIfInBounds_toArray, List.set_cons_zero, List.set_cons_succ]
  refine wpAnyH_take (i := 8) (v := ?_) alit8 (by kernel_rfl) (by kernel_rfl) (by kernel_rfl) (fun _ _ _ h => h) (Or.inl ⟨by rfl, ?_⟩) (by assumption) ?_
  rotate_left
  · (intro w hSw; (try dsimp only at hSw); go_simp) <;> with_reducible rfl
  try simp only [Act.put, List.setIfInBounds_toArray, List.set_cons_zero, List.set_cons_succ]
  refine wpAnyH_take (i := 9) (v := ?_) alit9 (by kernel_rfl) (by kernel_rfl) (by kernel_rfl) (fun _ _ _ h => h) (Or.inl ⟨by rfl, ?_⟩) (by assumption) ?_
  rotate_left
  · (intro w hSw; (try dsimp only at hSw); go_simp) <;> with_reducible rfl
  try simp only [Act.put, List.setIfInBounds_toArray, List.set_cons_zero, List.set_cons_succ]
  refine wpAnyH_take (i := 10) (v := ?_) alit10 (by kernel_rfl) (by kernel_rfl) (by kernel_rfl) (fun _ _ _ h => h) (Or.inl ⟨by rfl, ?_⟩) (by assumption) ?_
  rotate_left
  · (intro w hSw; (try dsimp only at hSw); go_simp) <;> with_reducible rfl
  try simp only [Act.put, List.setIfInBounds_toArray, List.set_cons_zero, List.set_cons_succ]
  refine wpAnyH_take (i := 11) (v := ?_) alit11 (by kernel_rfl) (by kernel_rfl) (by kernel_rfl) (fun _ _ _ h => h) (Or.inl ⟨by rfl, ?_⟩) (by assumption) ?_
  rotate_left
  · (intro w hSw; (try dsimp only at hSw); go_simp) <;> with_reducible rfl
  try simp only [Act.put, List.setIfInBounds_toArray, List.set_cons_zero, List.set_cons_succ]
  refine wpAnyH_ready (rs := [12]) (by kernel_rfl) (by simp) ?_
  refine AllReadyH.cons alit12 (fun K hK => ?_) AllReadyH.nil
  go_simp
  go_at_call 31
  refine (ris_any s p d 42 false false _ hs HG0.out.b).mono ?_
  rintro e wx0 ⟨rfl, Fx⟩
  have HG1 := Lib.hid (HG0.out.move Fx)
  clear Fx
  rw [E42.out]
  refine hK.out _ _ ⟨cell_of_block HG1.out.b rfl, cell_of_block HG1.out.b rfl⟩ (fun hHeld => ?_)
  clear hK K
  try simp only [Act.put, List.setIfInBounds_toArray, List.set_cons_zero, List.set_cons_succ]
  refine wpAnyH_take (i := 13) (v := ?_) alit13 (by kernel_rfl) (by kernel_rfl) (by kernel_rfl) (fun _ _ _ h => h) (Or.inl ⟨by rfl, ?_⟩) (by assumption) ?_
  rotate_left
  · (intro w hSw; (try dsimp only at hSw); go_simp) <;> with_reducible rfl
  try simp only [Act.put, List.setIfInBounds_toArray, List.set_cons_zero, List.set_cons_succ]
  refine wpAnyH_take (i := 14) (v := ?_) alit14 (by kernel_rfl) (by kernel_rfl) (by kernel_rfl) (fun _ _ _ h => h) (Or.inl ⟨by rfl, ?_⟩) (by assumption) ?_
  rotate_left
  · (intro w hSw; (try dsimp only at hSw); go_simp) <;> with_reducible rfl
  try simp only [Act.put, List.setIfInBounds_toArray, List.set_cons_zero, List.set_cons_succ]
  refine wpAnyH_take (i := 15) (v := ?_) alit15 (by kernel_rfl) (by kernel_rfl) (by kernel_rfl) (fun _ _ _ h => h) (Or.inl ⟨by rfl, ?_⟩) (by assumption) ?_
  rotate_left
  · (intro w hSw; (try dsimp only at hSw); go_simp) <;> with_reducible rfl
  try simp only [Act.put, List.setIfInBounds_toArray, List.set_cons_zero, List.set_cons_succ]
  refine wpAnyH_ready (rs := [16]) (by kernel_rfl) (by simp) ?_
  refine AllReadyH.cons alit16 (fun K hK => ?_) AllReadyH.nil
  go_simp
  go_at_call 31
  refine (ris_any s p d 43 false false _ hs HG1.out.b).mono ?_
  rintro e wx1 ⟨rfl, Fx⟩
  have HG2 := Lib.hid (HG1.out.move Fx)
  clear Fx
  rw [E43.out]
  refine hK.out _ _ ⟨cell_of_block HG2.out.b rfl, cell_of_block HG2.out.b rfl⟩ (fun hHeld => ?_)
  clear hK K
  try simp only [Act.put, List.setIfInBounds_toArray, List.set_cons_zero, List.set_cons_succ]
  refine wpAnyH_take (i := 17) (v := ?_) alit17 (by kernel_rfl) (by kernel_rfl) (by kernel_rfl) (fun _ _ _ h => h) (Or.inl ⟨by rfl, ?_⟩) (by assumption) ?_
  rotate_left
  · (intro w hSw; (try dsimp only at hSw); go_simp) <;> with_reducible rfl
  try simp only [Act.put, List.setIfInBounds_toArray, List.set_cons_zero, List.set_cons_succ]
  refine wpAnyH_take (i := 18) (v := ?_) alit18 (by kernel_rfl) (by kernel_rfl) (by kernel_rfl) (fun _ _ _ h => h) (Or.inl ⟨by rfl, ?_⟩) (by assumption) ?_
  rotate_left
  · (intro w hSw; (try dsimp only at hSw); go_simp) <;> with_reducible rfl
  try simp only [Act.put, List.setIfInBounds_toArray, List.set_cons_zero, List.set_cons_succ]
  refine wpAnyH_take (i := 19) (v := ?_) alit19 (by kernel_rfl) (by kernel_rfl) (by kernel_rfl) (fun _ _ _ h => h) (Or.inl ⟨by rfl, ?_⟩) (by assumption) ?_
  rotate_left
  · (intro w hSw; (try dsimp only at hSw); go_simp) <;> with_reducible rfl
  try simp only [Act.put, List.setIfInBounds_toArray, List.set_cons_zero, List.set_cons_succ]
  refine wpAnyH_ready (rs := [20]) (by kernel_rfl) (by simp) ?_
  refine AllReadyH.cons alit20 (fun K hK => ?_) AllReadyH.nil
  go_simp
  go_at_call 31
  refine (ris_any s p d 63 false false _ hs HG2.out.b).mono ?_
  rintro e wx2 ⟨rfl, Fx⟩
  have HG3 := Lib.hid (HG2.out.move Fx)
  clear Fx
  rw [E63.out]
  refine hK.out _ _ ⟨cell_of_block HG3.out.b rfl, cell_of_block HG3.out.b rfl⟩ (fun hHeld => ?_)
  clear hK K
  try simp only [Act.put, List.setIfInBounds_toArray, List.set_cons_zero, List.set_cons_succ]
  refine wpAnyH_take (i := 21) (v := ?_) alit21 (by kernel_rfl) (by kernel_rfl) (by kernel_rfl) (fun _ _ _ h => h) (Or.inl ⟨by rfl, ?_⟩) (by assumption) ?_
  rotate_left
  · (intro w hSw; (try dsimp only at hSw); go_simp) <;> with_reducible rfl
  try simp only [Act.put, List.setIfInBounds_toArray, List.set_cons_zero, List.set_cons_succ]
  refine wpAnyH_take (i := 22) (v := ?_) alit22 (by kernel_rfl) (by kernel_rfl) (by kernel_rfl) (fun _ _ _ h => h) (Or.inl ⟨by rfl, ?_⟩) (by assumption) ?_
  rotate_left
  · (intro w hSw; (try dsimp only at hSw); go_simp) <;> with_reducible rfl
  try simp only [Act.put, List.setIfInBounds_toArray, List.set_cons_zero, List.set_cons_succ]
  refine wpAnyH_take (i := 23) (v := ?_) alit23 (by kernel_rfl) (by kernel_rfl) (by kernel_rfl) (fun _ _ _ h => h) (Or.inl ⟨by rfl, ?_⟩) (by assumption) ?_
  rotate_left
  · (intro w hSw; (try dsimp only at hSw); go_simp) <;> with_reducible rfl
  try simp only [Act.put, List.setIfInBounds_toArray, List.set_cons_zero, List.set_cons_succ]
  refine wpAnyH_ready (rs := [24]) (by kernel_rfl) (by simp) ?_
  refine AllReadyH.cons alit24 (fun K hK => ?_) AllReadyH.nil
  go_simp
  go_at_call 31
  refine (ris_any s p d 93 false false _ hs HG3.out.b).mono ?_
  rintro e wx3 ⟨rfl, Fx⟩
  have HG4 := Lib.hid (HG3.out.move Fx)
  clear Fx
  rw [E93.out]
  refine hK.out _ _ ⟨cell_of_block HG4.out.b rfl, cell_of_block HG4.out.b rfl⟩ (fun hHeld => ?_)
  clear hK K
  try simp only [Act.put, List.setIfInBounds_toArray, List.set_cons_zero, List.set_cons_succ]
  refine wpAnyH_take (i := 25) (v := ?_) alit25 (by kernel_rfl) (by kernel_rfl) (by kernel_rfl) (fun _ _ _ h => h) (Or.inl ⟨by rfl, ?_⟩) (by assumption) ?_
  rotate_left
  · (intro w hSw; (try dsimp only at hSw); go_simp) <;> with_reducible rfl
  try simp only [Act.put, List.setIfInBounds_toArray, List.set_cons_zero, List.set_cons_succ]
  refine wpAnyH_done (by kernel_rfl) ?_ _
  generalize wx3 = wx at *
  obtain ⟨y1, yb, yf⟩ := HG4.out.get
  have HC := Lib.hid (HG4.out.bad hd)
  have g0 : ∀ o, (wx.setCell ⟨d, 2, none⟩ (.bool true)).frozen? ⟨w.heap.size, o, none⟩ = false := fun o => free_of_block HC.out.r
  have g1 : ∀ o, wx.frozen? ⟨w.heap.size, o, none⟩ = false := fun o => free_of_block HG4.out.r
  obtain ⟨c0, c1, c2, c3, c4, c5⟩ := six HG4.out.r
  go_wp2_with fail
  refine bodyPost_ret (results_six rfl rfl (set_six HC.out.r _ _ _ _ _ _)) rfl ?_
  refine ⟨_, Rx.zero, p, rfl, RxV.zero_ _ _, by omega, ?_, fr_six HC.out.f (.inr (Nat.le_refl _)) _ _ _ _ _ _⟩
  exact (fr_six (S := at1 w.heap.size) (r := w.heap.size) (Fr.refl _ _) (.inl rfl) _ _ _ _ _ _).at_ HC.out.b (by simp only [at1]; omega)
set_option maxRecDepth 100000 in
set_option maxHeartbeats 4000000 in
theorem ratom_byte (s : ByteArray) (p d k : Nat) (w : World) (m : Got Rx) (hs : s.size ≤ 1000) (hb : w.heap[d]? = some (rrObj s p false false)) (hp : p < s.size) (h40 : isB s p 40 = false) (h91 : isB s p 91 = false) (h46 : isB s p 46 = false) (h92 : isB s p 92 = false) (h42 : isB s p 42 = false) (h43 : isB s p 43 = false) (h63 : isB s p 63 = false) (h93 : isB s p 93 = false) (c : Nat) (hcc : byteAt s p = c) (y : Bs) (hyy : Bs.zero.add c = y) :
    Calls Try.prog 42 #[.pointer (some ⟨d, 0, none⟩)] w (RGotR 1 d s w (.ok (y.rx, p + 1))) := by
  have hd := lt_of_block hb
  have H0 := Lib.hid (CS.start hb)
  obtain ⟨q1, hq1⟩ : ∃ x, p + 1 = x := ⟨_, rfl⟩
  have hc1 : (p : Int) + 1 = (q1 : Int) := by omega
  have hq1s : q1 ≤ s.size := by omega
  have hp0 : (0 : Int) ≤ (p : Int) := by omega
  clear hb
  have E40 := Lib.hid h40
  clear h40
  have E91 := Lib.hid h91
  clear h91
  have E46 := Lib.hid h46
  clear h46
  have E92 := Lib.hid h92
  clear h92
  have E42 := Lib.hid h42
  clear h42
  have E43 := Lib.hid h43
  clear h43
  have E63 := Lib.hid h63
  clear h63
  have E93 := Lib.hid h93
  clear h93
  have hge : decide ((s.size : Int) ≤ (p : Int)) = false := by simp; omega
  have hgn : decide (s.size ≤ p) = false := by simp; omega
  go_enter Try.func42, Try.ntmps42
  go_wp2_with fail
  have C35 := H0.out
  obtain ⟨w35, hw35⟩ : ∃ x, (w.alloc (.cells #[.int .i64 0, .int .u64 0, .int .u64 0, .int .u64 0, .int .u64 0, .slice none 0 0] 28)).alloc (.cells Try.zeroCells84 84) = x := ⟨_, rfl⟩
  rw [hw35] at C35 ⊢
  clear hw35
  have H35 := Lib.hid C35
  clear C35
  refine (ris_any s p d 40 false false _ hs H35.out.b).mono ?_
  rintro e w36 ⟨rfl, F36⟩
  have H36 := Lib.hid (H35.out.move F36)
  clear F36
  rw [E40.out]
  go_wp2_with fail
  refine (ris_any s p d 91 false false _ hs H36.out.b).mono ?_
  rintro e w37 ⟨rfl, F37⟩
  have H37 := Lib.hid (H36.out.move F37)
  clear F37
  rw [E91.out]
  go_wp2_with fail
  refine (ris_any s p d 46 false false _ hs H37.out.b).mono ?_
  rintro e w38 ⟨rfl, F38⟩
  have H38 := Lib.hid (H37.out.move F38)
  clear F38
  rw [E46.out]
  go_wp2_with fail
  refine (ris_any s p d 92 false false _ hs H38.out.b).mono ?_
  rintro e w39 ⟨rfl, F39⟩
  have H39 := Lib.hid (H38.out.move F39)
  clear F39
  rw [E92.out]
  have HG0 := Lib.hid (H39.out.move ((Fr.refl none_ _).drew))
  go_wp2_with fail
  refine wp_region_held_drew (S := (fun w' => w'.cell? ⟨d, 0, none⟩ = some (.string s) ∧ w'.cell? ⟨d, 1, none⟩ = some (.int .i64 (p : Int)))) (by kernel_rfl) ⟨cell_of_block HG0.out.b rfl, cell_of_block HG0.out.b rfl⟩ (fun hHeld => ?_)
  refine wpAnyH_take (i := 0) (v := ?_) alit0 (by kernel_rfl) (by kernel_rfl) (by kernel_rfl) (fun _ _ _ h => h) (Or.inl ⟨by rfl, ?_⟩) (by assumption) ?_
  rotate_left
  · (intro w hSw; (try dsimp only at hSw); go_simp) <;> with_reducible rfl
  try simp only [Act.put, List.setIfInBounds_toArray, List.set_cons_zero, List.set_cons_succ]
  refine wpAnyH_take (i := 1) (v := ?_) alit1 (by kernel_rfl) (by kernel_rfl) (by kernel_rfl) (fun _ _ _ h => h) (Or.inl ⟨by rfl, ?_⟩) (by assumption) ?_
  rotate_left
  · (intro w hSw; (try dsimp only at hSw); go_simp) <;> with_reducible rfl
  try simp only [Act.put, List.setIfInBounds_toArray, List.set_cons_zero, List.set_cons_succ]
  refine wpAnyH_take (i := 2) (v := ?_) alit2 (by kernel_rfl) (by kernel_rfl) (by kernel_rfl) (fun _ _ _ h => h) (Or.inl ⟨by rfl, ?_⟩) (by assumption) ?_
  rotate_left
  · (intro w hSw; (try dsimp only at hSw); go_simp) <;> with_reducible rfl
  try simp only [Act.put, List.setIfInBounds_toArray, List.set_cons_zero, List.set_cons_succ]
  refine wpAnyH_take (i := 3) (v := ?_) alit3 (by kernel_rfl) (by kernel_rfl) (by kernel_rfl) (fun _ _ _ h => h) (Or.inl ⟨by rfl, ?_⟩) (by assumption) ?_
  rotate_left
  · (intro w hSw; (try dsimp only at hSw); go_simp) <;> with_reducible rfl
  try simp only [Act.put, List.setIfInBounds_toArray, List.set_cons_zero, List.set_cons_succ]
  refine wpAnyH_take (i := 4) (v := ?_) alit4 (by kernel_rfl) (by kernel_rfl) (by kernel_rfl) (fun _ _ _ h => h) (Or.inl ⟨by rfl, ?_⟩) (by assumption) ?_
  rotate_left
  · (intro w hSw; (try dsimp only at hSw); go_simp) <;> with_reducible rfl
  try simp only [Act.put, List.setIfInBounds_toArray, List.set_cons_zero, List.set_cons_succ]
  refine wpAnyH_take (i := 5) (v := ?_) alit5 (by kernel_rfl) (by kernel_rfl) (by kernel_rfl) (fun _ _ _ h => h) (Or.inl ⟨by rfl, ?_⟩) (by assumption) ?_
  rotate_left
  · (intro w hSw; (try dsimp only at hSw); go_simp) <;> with_reducible rfl
  try simp only [Act.put, List.setIfInBounds_toArray, List.set_cons_zero, List.set_cons_succ]
  refine wpAnyH_take (i := 6) (v := ?_) alit6 (by kernel_rfl) (by kernel_rfl) (by kernel_rfl) (fun _ _ _ h => h) (Or.inl ⟨by rfl, ?_⟩) (by assumption) ?_
  rotate_left
  · (intro w hSw; (try dsimp only at hSw); go_simp) <;> with_reducible rfl
  try simp only [Act.put, List.setIfInBounds_toArray, List.set_cons_zero, List.set_cons_succ]
  refine wpAnyH_take (i := 7) (v := ?_) alit7 (by kernel_rfl) (by kernel_rfl) (by kernel_rfl) (fun _ _ _ h => h) (Or.inl ⟨by rfl, ?_⟩) (by assumption) ?_
  rotate_left
  · (intro w hSw; (try dsimp only at hSw); go_simp) <;> with_reducible rfl
  try simp only [Act.put, List.setIfInBounds_toArray, List.set_cons_zero, List.set_cons_succ]
  refine wpAnyH_take (i := 8) (v := ?_) alit8 (by kernel_rfl) (by kernel_rfl) (by kernel_rfl) (fun _ _ _ h => h) (Or.inl ⟨by rfl, ?_⟩) (by assumption) ?_
  rotate_left
  · (intro w hSw; (try dsimp only at hSw); go_simp) <;> with_reducible rfl
  try simp only [Act.put, List.setIfInBounds_toArray, List.set_cons_zero, List.set_cons_succ]
  refine wpAnyH_take (i := 9) (v := ?_) alit9 (by kernel_rfl) (by kernel_rfl) (by kernel_rfl) (fun _ _ _ h => h) (Or.inl ⟨by rfl, ?_⟩) (by assumption) ?_
  rotate_left
  · (intro w hSw; (try dsimp only at hSw); go_simp) <;> with_reducible rfl
  try simp only [Act.put, List.setIfInBounds_toArray, List.set_cons_zero, List.set_cons_succ]
  refine wpAnyH_take (i := 10) (v := ?_) alit10 (by kernel_rfl) (by kernel_rfl) (by kernel_rfl) (fun _ _ _ h => h) (Or.inl ⟨by rfl, ?_⟩) (by assumption) ?_
  rotate_left
  · (intro w hSw; (try dsimp only at hSw); go_simp) <;> with_reducible rfl
  try simp only [Act.put, List.setIfInBounds_toArray, List.set_cons_zero, List.set_cons_succ]
  refine wpAnyH_take (i := 11) (v := ?_) alit11 (by kernel_rfl) (by kernel_rfl) (by kernel_rfl) (fun _ _ _ h => h) (Or.inl ⟨by rfl, ?_⟩) (by assumption) ?_
  rotate_left
  · (intro w hSw; (try dsimp only at hSw); go_simp) <;> with_reducible rfl
  try simp only [Act.put, List.setIfInBounds_toArray, List.set_cons_zero, List.set_cons_succ]
  refine wpAnyH_ready (rs := [12]) (by kernel_rfl) (by simp) ?_
  refine AllReadyH.cons alit12 (fun K hK => ?_) AllReadyH.nil
  go_simp
  go_at_call 31
  refine (ris_any s p d 42 false false _ hs HG0.out.b).mono ?_
  rintro e wx0 ⟨rfl, Fx⟩
  have HG1 := Lib.hid (HG0.out.move Fx)
  clear Fx
  rw [E42.out]
  refine hK.out _ _ ⟨cell_of_block HG1.out.b rfl, cell_of_block HG1.out.b rfl⟩ (fun hHeld => ?_)
  clear hK K
  try simp only [Act.put, List.setIfInBounds_toArray, List.set_cons_zero, List.set_cons_succ]
  refine wpAnyH_take (i := 13) (v := ?_) alit13 (by kernel_rfl) (by kernel_rfl) (by kernel_rfl) (fun _ _ _ h => h) (Or.inl ⟨by rfl, ?_⟩) (by assumption) ?_
  rotate_left
  · (intro w hSw; (try dsimp only at hSw); go_simp) <;> with_reducible rfl
  try simp only [Act.put, List.setIfInBounds_toArray, List.set_cons_zero, List.set_cons_succ]
  refine wpAnyH_take (i := 14) (v := ?_) alit14 (by kernel_rfl) (by kernel_rfl) (by kernel_rfl) (fun _ _ _ h => h) (Or.inl ⟨by rfl, ?_⟩) (by assumption) ?_
  rotate_left
  · (intro w hSw; (try dsimp only at hSw); go_simp) <;> with_reducible rfl
  try simp only [Act.put, List.setIfInBounds_toArray, List.set_cons_zero, List.set_cons_succ]
  refine wpAnyH_take (i := 15) (v := ?_) alit15 (by kernel_rfl) (by kernel_rfl) (by kernel_rfl) (fun _ _ _ h => h) (Or.inl ⟨by rfl, ?_⟩) (by assumption) ?_
  rotate_left
  · (intro w hSw; (try dsimp only at hSw); go_simp) <;> with_reducible rfl
  try simp only [Act.put, List.setIfInBounds_toArray, List.set_cons_zero, List.set_cons_succ]
  refine wpAnyH_ready (rs := [16]) (by kernel_rfl) (by simp) ?_
  refine AllReadyH.cons alit16 (fun K hK => ?_) AllReadyH.nil
  go_simp
  go_at_call 31
  refine (ris_any s p d 43 false false _ hs HG1.out.b).mono ?_
  rintro e wx1 ⟨rfl, Fx⟩
  have HG2 := Lib.hid (HG1.out.move Fx)
  clear Fx
  rw [E43.out]
  refine hK.out _ _ ⟨cell_of_block HG2.out.b rfl, cell_of_block HG2.out.b rfl⟩ (fun hHeld => ?_)
  clear hK K
  try simp only [Act.put, List.setIfInBounds_toArray, List.set_cons_zero, List.set_cons_succ]
  refine wpAnyH_take (i := 17) (v := ?_) alit17 (by kernel_rfl) (by kernel_rfl) (by kernel_rfl) (fun _ _ _ h => h) (Or.inl ⟨by rfl, ?_⟩) (by assumption) ?_
  rotate_left
  · (intro w hSw; (try dsimp only at hSw); go_simp) <;> with_reducible rfl
  try simp only [Act.put, List.setIfInBounds_toArray, List.set_cons_zero, List.set_cons_succ]
  refine wpAnyH_take (i := 18) (v := ?_) alit18 (by kernel_rfl) (by kernel_rfl) (by kernel_rfl) (fun _ _ _ h => h) (Or.inl ⟨by rfl, ?_⟩) (by assumption) ?_
  rotate_left
  · (intro w hSw; (try dsimp only at hSw); go_simp) <;> with_reducible rfl
  try simp only [Act.put, List.setIfInBounds_toArray, List.set_cons_zero, List.set_cons_succ]
  refine wpAnyH_take (i := 19) (v := ?_) alit19 (by kernel_rfl) (by kernel_rfl) (by kernel_rfl) (fun _ _ _ h => h) (Or.inl ⟨by rfl, ?_⟩) (by assumption) ?_
  rotate_left
  · (intro w hSw; (try dsimp only at hSw); go_simp) <;> with_reducible rfl
  try simp only [Act.put, List.setIfInBounds_toArray, List.set_cons_zero, List.set_cons_succ]
  refine wpAnyH_ready (rs := [20]) (by kernel_rfl) (by simp) ?_
  refine AllReadyH.cons alit20 (fun K hK => ?_) AllReadyH.nil
  go_simp
  go_at_call 31
  refine (ris_any s p d 63 false false _ hs HG2.out.b).mono ?_
  rintro e wx2 ⟨rfl, Fx⟩
  have HG3 := Lib.hid (HG2.out.move Fx)
  clear Fx
  rw [E63.out]
  refine hK.out _ _ ⟨cell_of_block HG3.out.b rfl, cell_of_block HG3.out.b rfl⟩ (fun hHeld => ?_)
  clear hK K
  try simp only [Act.put, List.setIfInBounds_toArray, List.set_cons_zero, List.set_cons_succ]
  refine wpAnyH_take (i := 21) (v := ?_) alit21 (by kernel_rfl) (by kernel_rfl) (by kernel_rfl) (fun _ _ _ h => h) (Or.inl ⟨by rfl, ?_⟩) (by assumption) ?_
  rotate_left
  · (intro w hSw; (try dsimp only at hSw); go_simp) <;> with_reducible rfl
  try simp only [Act.put, List.setIfInBounds_toArray, List.set_cons_zero, List.set_cons_succ]
  refine wpAnyH_take (i := 22) (v := ?_) alit22 (by kernel_rfl) (by kernel_rfl) (by kernel_rfl) (fun _ _ _ h => h) (Or.inl ⟨by rfl, ?_⟩) (by assumption) ?_
  rotate_left
  · (intro w hSw; (try dsimp only at hSw); go_simp) <;> with_reducible rfl
  try simp only [Act.put, List.setIfInBounds_toArray, List.set_cons_zero, List.set_cons_succ]
  refine wpAnyH_take (i := 23) (v := ?_) alit23 (by kernel_rfl) (by kernel_rfl) (by kernel_rfl) (fun _ _ _ h => h) (Or.inl ⟨by rfl, ?_⟩) (by assumption) ?_
  rotate_left
  · (intro w hSw; (try dsimp only at hSw); go_simp) <;> with_reducible rfl
  try simp only [Act.put, List.setIfInBounds_toArray, List.set_cons_zero, List.set_cons_succ]
  refine wpAnyH_ready (rs := [24]) (by kernel_rfl) (by simp) ?_
  refine AllReadyH.cons alit24 (fun K hK => ?_) AllReadyH.nil
  go_simp
  go_at_call 31
  refine (ris_any s p d 93 false false _ hs HG3.out.b).mono ?_
  rintro e wx3 ⟨rfl, Fx⟩
  have HG4 := Lib.hid (HG3.out.move Fx)
  clear Fx
  rw [E93.out]
  refine hK.out _ _ ⟨cell_of_block HG4.out.b rfl, cell_of_block HG4.out.b rfl⟩ (fun hHeld => ?_)
  clear hK K
  try simp only [Act.put, List.setIfInBounds_toArray, List.set_cons_zero, List.set_cons_succ]
  refine wpAnyH_take (i := 25) (v := ?_) alit25 (by kernel_rfl) (by kernel_rfl) (by kernel_rfl) (fun _ _ _ h => h) (Or.inl ⟨by rfl, ?_⟩) (by assumption) ?_
  rotate_left
  · (intro w hSw; (try dsimp only at hSw); go_simp) <;> with_reducible rfl
  try simp only [Act.put, List.setIfInBounds_toArray, List.set_cons_zero, List.set_cons_succ]
  refine wpAnyH_done (by kernel_rfl) ?_ _
  generalize wx3 = wx at *
  have hcl : c < 256 := by rw [← hcc]; exact byteAt_lt _ _
  have y0 : wx.cell? ⟨d, 0, none⟩ = some (.string s) := cell_of_block HG4.out.b rfl
  have y1 : wx.cell? ⟨d, 1, none⟩ = some (.int .i64 (p : Int)) := cell_of_block HG4.out.b rfl
  have yf : wx.frozen? ⟨d, 1, none⟩ = false := free_of_block HG4.out.b
  have hlt2 : (p : Int) < (s.size : Int) := by omega
  have hbe := byteAt_eq s p hp
  rw [hcc] at hbe
  have hc0 : (0 : Int) ≤ (c : Int) := by omega
  have hc256 : (c : Int) < 256 := by omega
  have fb0 : wx.frozen? ⟨w.heap.size + 1, c, none⟩ = false := boolsO_free HG4.out.a
  have cb := boolsO_cell HG4.out.a hcl
  have y2 : (wx.setCell ⟨w.heap.size + 1, c, none⟩ (.bool true)).cell? ⟨d, 1, none⟩ = some (.int .i64 (p : Int)) := cell_of_block (HG4.out.put hd c true).b rfl
  have yf2 : (wx.setCell ⟨w.heap.size + 1, c, none⟩ (.bool true)).frozen? ⟨d, 1, none⟩ = false := free_of_block (HG4.out.put hd c true).b
  have HP := Lib.hid (((HG4.out.put hd c true).step hd q1).move ((Fr.refl none_ _).drew))
  have HCC := Lib.hid hcc
  have HYY := Lib.hid hyy
  clear hcc hyy
  go_wp2_with fail
  go_still_tail 10, (by kernel_rfl)
  change wpList _ _ _ _ _ wx.drew
  go_wp2_with fail
  clear y0 y1 yf fb0 hbe y2 yf2 cb
  have C40 := HP.out
  obtain ⟨w40, hw40⟩ : ∃ x, ((wx.setCell ⟨w.heap.size + 1, c, none⟩ (.bool true)).setCell ⟨d, 1, none⟩ (.int .i64 (q1 : Int))).drew = x := ⟨_, rfl⟩
  rw [hw40] at C40 ⊢
  clear hw40
  have H40 := Lib.hid C40
  clear C40
  obtain ⟨A, hA⟩ : ∃ A : Nat → Bool, (fun b => if b = c then true else false) = A := ⟨_, rfl⟩
  rw [hA] at H40 HP
  have hyo : y.Ok := by rw [← HYY.out]; exact Bs.Ok.zero.add c
  have hy : ∀ b, b < 256 → A b = y.has b := fun b hb => by
    rw [← hA, ← HYY.out, Bs.has_add _ c b hcl hb, Bs.has_zero, Bool.false_or]
    by_cases h : b = c
    · subst h; simp
    · simp [h]
  have HY := Lib.hid (And.intro hyo hy)
  clear hy hA hyo
  have hba := H40.out.a
  rw [boolsO] at hba
  have hlen := boolsF_length (A)
  have HON := Lib.hid (only_any (A))
  obtain ⟨v0, hv0⟩ : ∃ v, wordT (A) 0 64 = v := ⟨_, rfl⟩
  obtain ⟨v1, hv1⟩ : ∃ v, wordT (A) 1 64 = v := ⟨_, rfl⟩
  obtain ⟨v2, hv2⟩ : ∃ v, wordT (A) 2 64 = v := ⟨_, rfl⟩
  obtain ⟨v3, hv3⟩ : ∃ v, wordT (A) 3 64 = v := ⟨_, rfl⟩
  rw [hv0, hv1, hv2, hv3] at HON
  have HVS := Lib.hid (And.intro hv0 (And.intro hv1 (And.intro hv2 hv3)))
  clear hv0 hv1 hv2 hv3
  generalize boolsF (A) = C at *
  first
    | (refine wp_load_mid 84 _ rfl (w.heap.size + 1) 0 rfl C _ (range_of_ hba) Try.underlying84 rfl (by rw [hlen]; exact bools_info) ?_; go_wp2_with fail)
    | go_wp2_with (refine wpList_load_row_ rfl 84 _ rfl (w.heap.size + 1) 84 C _ rfl hba Try.underlying84 rfl (by rw [hlen]; exact bools_info) ?_)
  refine (HON.out _).mono ?_
  rintro e wo ⟨rfl, Fo⟩
  have HNR := Lib.hid (Fo.at_ H40.out.r (fun h => h))
  have HNB := Lib.hid (Fo.at_ H40.out.b (fun h => h))
  have HNF := Lib.hid (H40.out.f.tr Fo.none)
  obtain ⟨z0, z1, z2, z3, z4, z5⟩ := six HNR.out
  have zf : ∀ o, wo.frozen? ⟨w.heap.size, o, none⟩ = false := fun o => free_of_block HNR.out
  have E2 : ¬ at1 w.heap.size d := by simp only [at1]; omega
  clear Fo hba
  go_wp2_with fail
  refine bodyPost_ret (results_six rfl rfl (set_six HNR.out _ _ _ _ _ _)) rfl ?_
  have fx := fr_six (S := at1 w.heap.size) (r := w.heap.size) (Fr.refl _ wo) (.inl rfl) (.int .i64 1) (.int .u64 (v0 : Nat)) (.int .u64 (v1 : Nat)) (.int .u64 (v2 : Nat)) (.int .u64 (v3 : Nat)) (.slice none 0 0)
  have hbx := fx.at_ HNB.out E2
  have hfx := fr_six HNF.out (.inr (Nat.le_refl _)) (.int .i64 1) (.int .u64 (v0 : Nat)) (.int .u64 (v1 : Nat)) (.int .u64 (v2 : Nat)) (.int .u64 (v3 : Nat)) (.slice none 0 0)
  obtain ⟨e0, e1, e2, e3⟩ := HVS.out
  rw [word_eq HY.out.1 HY.out.2 0 (by omega)] at e0
  rw [word_eq HY.out.1 HY.out.2 1 (by omega)] at e1
  rw [word_eq HY.out.1 HY.out.2 2 (by omega)] at e2
  rw [word_eq HY.out.1 HY.out.2 3 (by omega)] at e3
  subst e0 e1 e2 e3
  exact ⟨_, rfl, RxV.bs _ _ y, by first | exact hbx | (rw [hq1]; exact hbx), hfx⟩
end Go.Proofs.Ytjbmppbciiemkaa
