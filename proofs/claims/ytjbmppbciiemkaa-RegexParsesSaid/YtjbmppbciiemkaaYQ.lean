/-
  The reference of layer 3: hex.
  The reference of layer 3: Show of a class.
  The reference of layer 3: Show, all of it.
  The reference of layer 3: Same of two that are one.
  The law RegexParses: the regex that any text is, or that it is none, and a text of it, is just what the document says.
-/
import Derived.Test.YtjbmppbciiemkaaYo
import Derived.Test.YtjbmppbciiemkaaRb
import Derived.Laws.IdiomStrings
import Derived.Test.YtjbmppbciiemkaaSh
import Derived.Test.YtjbmppbciiemkaaRw
import Derived.Test.YtjbmppbciiemkaaRg
import Derived.Test.YtjbmppbciiemkaaNA
namespace Go.Proofs.Ytjbmppbciiemkaa set_option linter.unusedVariables false set_option linter.unusedSimpArgs false
open Go.RowKit

theorem conv_bytes1 (x : Nat) (hx : x < 256) (w : World) :
    (convert 52 9 (.slice (some ⟨w.heap.size, 0, none⟩) 1 1)).run Try.prog (w.alloc (.cells #[.int .u8 (x : Int)] 5)) = .ok (.string ⟨#[UInt8.ofNat x]⟩) (w.alloc (.cells #[.int .u8 (x : Int)] 5)) := by
  have h := run_convert_bytes_back (P := Try.prog) (w.alloc (.cells #[.int .u8 (x : Int)] 5)) 52 9 5 ⟨w.heap.size, 0, none⟩ 1 [UInt8.ofNat x] Try.underlying52 Try.underlying5 Try.underlying9 (fun j hj => by
    obtain rfl : j = 0 := by simpa using hj
    have e : (UInt8.ofNat x).toNat = x := by simp; omega
    show (w.alloc (.cells #[.int .u8 (x : Int)] 5)).cell? ⟨w.heap.size, 0, none⟩ = some (.int .u8 ((UInt8.ofNat x).toNat : Int))
    rw [e, Lib.cell_of_heap (alloc_new w (.cells #[.int .u8 (x : Int)] 5))]
    rfl)
  exact h
theorem conv_bytes2 (x y : Nat) (hx : x < 256) (hy : y < 256) (w : World) :
    (convert 52 9 (.slice (some ⟨w.heap.size, 0, none⟩) 2 2)).run Try.prog (w.alloc (.cells #[.int .u8 (x : Int), .int .u8 (y : Int)] 5)) = .ok (.string ⟨#[UInt8.ofNat x, UInt8.ofNat y]⟩) (w.alloc (.cells #[.int .u8 (x : Int), .int .u8 (y : Int)] 5)) := by
  have h := run_convert_bytes_back (P := Try.prog) (w.alloc (.cells #[.int .u8 (x : Int), .int .u8 (y : Int)] 5)) 52 9 5 ⟨w.heap.size, 0, none⟩ 2 [UInt8.ofNat x, UInt8.ofNat y] Try.underlying52 Try.underlying5 Try.underlying9 (fun j hj => by
    have e : (UInt8.ofNat x).toNat = x := by simp; omega
    have e2 : (UInt8.ofNat y).toNat = y := by simp; omega
    have hj2 : j < 2 := by simpa using hj
    have : j = 0 ∨ j = 1 := by omega
    rcases this with rfl | rfl
    · show (w.alloc (.cells #[.int .u8 (x : Int), .int .u8 (y : Int)] 5)).cell? ⟨w.heap.size, 0, none⟩ = some (.int .u8 ((UInt8.ofNat x).toNat : Int))
      rw [e, Lib.cell_of_heap (alloc_new w (.cells #[.int .u8 (x : Int), .int .u8 (y : Int)] 5))]
      rfl
    · show (w.alloc (.cells #[.int .u8 (x : Int), .int .u8 (y : Int)] 5)).cell? ⟨w.heap.size, 1, none⟩ = some (.int .u8 ((UInt8.ofNat y).toNat : Int))
      rw [e2, Lib.cell_of_heap (alloc_new w (.cells #[.int .u8 (x : Int), .int .u8 (y : Int)] 5))]
      rfl)
  exact h
def hexS3 : ByteArray := ⟨#[48, 49, 50, 51, 52, 53, 54, 55, 56, 57, 97, 98, 99, 100, 101, 102]⟩
theorem hexS3_size : hexS3.size = 16 := rfl
theorem hexS3_at (i : Nat) (h : i < hexS3.size) : hexS3[i].toNat = (hexB i).toNat := by
  have : ∀ i : Fin 16, (hexS3[i.val]'(i.isLt)).toNat = (hexB i.val).toNat := by decide
  exact this ⟨i, h⟩

set_option maxRecDepth 100000 in
set_option maxHeartbeats 2000000 in
theorem refhex_any (n : Nat) (hn : n < 256) (w : World) :
    Calls Try.prog 23 #[.int .i64 n] w fun e w' => e = .returned (.string (bstr [hexB (n / 16), hexB (n % 16)])) ∧ Fr none_ w w' := by
  have e1 : (n : Int) / 16 = ((n / 16 : Nat) : Int) := by omega
  have e2 : (n : Int) % 16 = ((n % 16 : Nat) : Int) := by omega
  have e3 : (n : Int).tdiv 16 = ((n / 16 : Nat) : Int) := by rw [Int.tdiv_eq_ediv_of_nonneg (by omega)]; exact e1
  have e4 : (n : Int).tmod 16 = ((n % 16 : Nat) : Int) := by rw [Int.tmod_eq_emod_of_nonneg (by omega)]; exact e2
  obtain ⟨x, hx⟩ : ∃ x, n / 16 = x := ⟨_, rfl⟩
  obtain ⟨y, hy⟩ : ∃ y, n % 16 = y := ⟨_, rfl⟩
  have hx16 : x < 16 := by omega
  have hy16 : y < 16 := by omega
  rw [hx] at e1 e3
  rw [hy] at e2 e4
  rw [hx, hy]
  clear hx hy
  have HX := Lib.hid (show ((⟨#[48, 49, 50, 51, 52, 53, 54, 55, 56, 57, 97, 98, 99, 100, 101, 102]⟩ : ByteArray)[x]'(by rw [← hexS3_size] at hx16; exact hx16)).toNat = (hexB x).toNat from hexS3_at x (by rw [hexS3_size]; exact hx16))
  have HY := Lib.hid (show ((⟨#[48, 49, 50, 51, 52, 53, 54, 55, 56, 57, 97, 98, 99, 100, 101, 102]⟩ : ByteArray)[y]'(by rw [← hexS3_size] at hy16; exact hy16)).toNat = (hexB y).toNat from hexS3_at y (by rw [hexS3_size]; exact hy16))
  have hx0 : (0 : Int) ≤ (x : Int) := by omega
  have hy0 : (0 : Int) ≤ (y : Int) := by omega
  have hx1 : (x : Int) < 16 := by omega
  have hy1 : (y : Int) < 16 := by omega
  have hn0 : (0 : Int) ≤ (n : Int) := by omega
  have hwx := wrap_sm (x : Int) hx0 (by omega)
  have hwy := wrap_sm (y : Int) hy0 (by omega)
  have hsz : (⟨#[48, 49, 50, 51, 52, 53, 54, 55, 56, 57, 97, 98, 99, 100, 101, 102]⟩ : ByteArray).size = 16 := rfl
  go_enter Try.func23, Try.ntmps23
  go_wp2_with fail
  go_still_tail 8, (by kernel_rfl)
  change wpList _ _ _ _ _ w.drew
  erw [HX.out, HY.out]
  have kb : (convert 52 9 (.slice (some ⟨w.heap.size, 0, none⟩) 2 2)).run Try.prog ((w.alloc (.cells #[.int .u8 ((hexB x).toNat : Int), .int .u8 ((hexB y).toNat : Int)] 5)).drew) = .ok (.string ⟨#[UInt8.ofNat (hexB x).toNat, UInt8.ofNat (hexB y).toNat]⟩) ((w.alloc (.cells #[.int .u8 ((hexB x).toNat : Int), .int .u8 ((hexB y).toNat : Int)] 5)).drew) := conv_bytes2 (hexB x).toNat (hexB y).toNat (UInt8.toNat_lt _) (UInt8.toNat_lt _) w.drew
  have HR := Lib.hid (show (⟨#[UInt8.ofNat (hexB x).toNat, UInt8.ofNat (hexB y).toNat]⟩ : ByteArray) = bstr [hexB x, hexB y] by simp [bstr])
  generalize (hexB x).toNat = bx at *
  generalize (hexB y).toNat = bby at *
  go_wp2_with fail
  go_ret
  exact ⟨by rw [← HR.out]; rfl, ((Fr.refl _ _).alloc _).drew⟩
end Go.Proofs.Ytjbmppbciiemkaa

namespace Go.Proofs.Ytjbmppbciiemkaa set_option linter.unusedVariables false set_option linter.unusedSimpArgs false
open Go.RowKit

theorem slit0 {α : Type} {x0 : α} {l : List α} : (x0 :: l).toArray[0]? = some x0 := rfl
theorem slit1 {α : Type} {x0 x1 : α} {l : List α} : (x0 :: x1 :: l).toArray[1]? = some x1 := rfl
theorem slit2 {α : Type} {x0 x1 x2 : α} {l : List α} : (x0 :: x1 :: x2 :: l).toArray[2]? = some x2 := rfl
theorem slit3 {α : Type} {x0 x1 x2 x3 : α} {l : List α} : (x0 :: x1 :: x2 :: x3 :: l).toArray[3]? = some x3 := rfl
theorem slit4 {α : Type} {x0 x1 x2 x3 x4 : α} {l : List α} : (x0 :: x1 :: x2 :: x3 :: x4 :: l).toArray[4]? = some x4 := rfl
theorem slit5 {α : Type} {x0 x1 x2 x3 x4 x5 : α} {l : List α} : (x0 :: x1 :: x2 :: x3 :: x4 :: x5 :: l).toArray[5]? = some x5 := rfl
theorem slit6 {α : Type} {x0 x1 x2 x3 x4 x5 x6 : α} {l : List α} : (x0 :: x1 :: x2 :: x3 :: x4 :: x5 :: x6 :: l).toArray[6]? = some x6 := rfl
theorem slit7 {α : Type} {x0 x1 x2 x3 x4 x5 x6 x7 : α} {l : List α} : (x0 :: x1 :: x2 :: x3 :: x4 :: x5 :: x6 :: x7 :: l).toArray[7]? = some x7 := rfl
theorem slit8 {α : Type} {x0 x1 x2 x3 x4 x5 x6 x7 x8 : α} {l : List α} : (x0 :: x1 :: x2 :: x3 :: x4 :: x5 :: x6 :: x7 :: x8 :: l).toArray[8]? = some x8 := rfl

theorem bstr_size3 (l : List UInt8) : (bstr l).size = l.length := by simp [bstr, ByteArray.size]
def RShowC (r : Rx) : Prop := ∀ (v : Value) (w : World) (ok : Nat → Prop), RxV ok w v r → r.fine →
  Calls Try.prog 9 #[v] w fun e w' => e = .returned (.string (bstr (showL r))) ∧ Fr none_ w w'
theorem conv_block1 (x : Nat) (hx : x < 256) {w : World} {g : Nat} (h : w.heap[g]? = some (.cells #[.int .u8 (x : Int)] 5 (0, 0))) :
    (convert 52 9 (.slice (some ⟨g, 0, none⟩) 1 1)).run Try.prog w = .ok (.string ⟨#[UInt8.ofNat x]⟩) w :=
  run_convert_bytes_back (P := Try.prog) w 52 9 5 ⟨g, 0, none⟩ 1 [UInt8.ofNat x] Try.underlying52 Try.underlying5 Try.underlying9 (fun j hj => by
    obtain rfl : j = 0 := by simpa using hj
    have e : (UInt8.ofNat x).toNat = x := by simp; omega
    show w.cell? ⟨g, 0, none⟩ = some (.int .u8 ((UInt8.ofNat x).toNat : Int))
    rw [e, Lib.cell_of_heap h]
    rfl)
theorem classS_kids (k : Int) (b0 b1 b2 b3 : Nat) (l : List Rx) (n : Nat) : classS (.mk k b0 b1 b2 b3 l) n = classS (.mk k b0 b1 b2 b3 []) n := by
  simp only [classS]
  congr 1

set_option maxRecDepth 100000 in
set_option maxHeartbeats 4000000 in
theorem refshow_1 (b0 b1 b2 b3 : Nat) (kids : List Rx) : RShowC (.mk 1 b0 b1 b2 b3 kids) := by
  intro v w ok hv hf
  obtain ⟨a, cap, rfl, hc, hl⟩ := hv.open_
  have HFI := Lib.hid hf
  have HL := Lib.hid hl
  have HSH := Lib.hid (show showL (.mk 1 b0 b1 b2 b3 kids) = [91] ++ classS (.mk 1 b0 b1 b2 b3 []) 256 ++ [93] by simp [showL])
  have F0 := Lib.hid ((Fr.refl none_ w).alloc (.cells #[.int .i64 1, .int .u64 b0, .int .u64 b1, .int .u64 b2, .int .u64 b3, .slice a kids.length cap] 28))
  have NX := Lib.hid (alloc_new w (.cells #[.int .i64 1, .int .u64 b0, .int .u64 b1, .int .u64 b2, .int .u64 b3, .slice a kids.length cap] 28))
  obtain ⟨z0, z1, z2, z3, z4, z5⟩ := six NX.out
  clear hv hl hf
  go_enter Try.func9, Try.ntmps9
  go_wp2_with fail
  clear z0 z1 z2 z3 z4 z5
  generalize hw1 : w.alloc (.cells #[.int .i64 1, .int .u64 b0, .int .u64 b1, .int .u64 b2, .int .u64 b3, .slice a kids.length cap] 28) = w1
  rw [hw1] at F0 NX
  clear hw1
  obtain ⟨RR, hRR⟩ : ∃ RR, Rx.mk 1 b0 b1 b2 b3 [] = RR := ⟨_, rfl⟩
  have HRR := Lib.hid hRR
  rw [hRR] at HSH
  clear hRR
  go_loopw [3, 4] (fun x3 x4 wr => ∃ b : Nat, b ≤ 256 ∧ x4 = .int .i64 b ∧ x3 = .string (bstr (classS RR b)) ∧ Aside (Fr none_ w1 wr)) (fun _ x4 _ => 256 - (intOf x4).toNat)
  case atStart => exact ⟨0, Nat.zero_le _, rfl, rfl, Fr.refl _ _⟩
  case round =>
    obtain ⟨b, hb, rfl, rfl, hfr⟩ := hrel
    have HF := Lib.hid hfr.out
    clear hfr
    have hlen := classS_length RR b
    have hsz := bstr_size3 (classS RR b)
    by_cases hb6 : b < 256
    · have hbI : (b : Int) < 256 := by omega
      have hb0 : (0 : Int) ≤ (b : Int) := by omega
      have hw8 := wrap_8 (b : Int) hb0 hbI
      have HSU := Lib.hid (classS_succ RR b)
      obtain ⟨z0, z1, z2, z3, z4, z5⟩ := six (HF.out.at_ NX.out (fun h => h))
      have hhas : (Rx.mk 1 b0 b1 b2 b3 kids).has b = RR.has b := by rw [← HRR.out]; rfl
      obtain ⟨t, ht⟩ : ∃ t, RR.has b = t := ⟨_, rfl⟩
      rw [ht] at hhas HSU
      obtain ⟨sb, hsb⟩ : ∃ t, bstr (classS RR b) = t := ⟨_, rfl⟩
      have HSB := Lib.hid hsb
      rw [hsb] at hsz ⊢
      have hss : sb.size ≤ 1024 := by omega
      clear hsb ht hlen hsz
      go_wp2_with fail
      refine (refhas3_any (.mk 1 b0 b1 b2 b3 kids) b _ ok _ (RxV.mk_ hc (RxL.move (fun k _ hlt => (F0.out.tr HF.out).block k hlt (fun h => h)) kids a 0 HL.out)) HFI.out hb6).mono ?_
      rintro e w2 ⟨rfl, Fh⟩
      rw [hhas]
      have HF2 := Lib.hid (HF.out.tr Fh)
      clear Fh z0 z1 z2 z3 z4 z5 hhas
      cases t with
      | false =>
        have HT := Lib.hid (show bstr (classS RR (b + 1)) = sb by rw [HSU.out, ← HSB.out]; simp)
        go_wp2_with fail
        go_roundw
        case rel => exact ⟨b + 1, by omega, by go_num, by rw [HT.out], HF2.out⟩
        case measure => first | (simp [intOf]; done) | (simp [intOf]; omega)
      | true =>
        have HT := Lib.hid (show bstr (classS RR (b + 1)) = ((sb ++ (⟨#[92]⟩ : ByteArray)) ++ (⟨#[120]⟩ : ByteArray)) ++ bstr [hexB (b / 16), hexB (b % 16)] by
          rw [HSU.out, ← HSB.out]
          show _ = ((bstr _ ++ bstr [92]) ++ bstr [120]) ++ bstr _
          simp only [bstr_append, if_true]
          simp)
        have q1 : ¬ 9223372036854775807 < sb.size + 1 := by omega
        have q2 : ¬ 9223372036854775807 < sb.size + 1 + 1 := by omega
        have q3 : ¬ 9223372036854775807 < sb.size + 1 + 1 + 2 := by omega
        obtain ⟨hx2, hhx⟩ : ∃ t, bstr [hexB (b / 16), hexB (b % 16)] = t := ⟨_, rfl⟩
        have hhs : hx2.size = 2 := by rw [← hhx]; rfl
        go_wp2_with fail
        refine wp_region_held_drew (S := fun _ => True) (by kernel_rfl) trivial (fun hHeld => ?_)
        refine wpAnyH_take (i := 0) (v := ?_) slit0 (by kernel_rfl) (by kernel_rfl) (by kernel_rfl) (fun _ _ _ h => h) (Or.inl ⟨by rfl, ?_⟩) (by assumption) ?_
        rotate_left
        · (intro w hSw; (try dsimp only at hSw); go_simp) <;> with_reducible rfl
        try simp only [Act.put, List.setIfInBounds_toArray, List.set_cons_zero, List.set_cons_succ]
        refine wpAnyH_take (i := 5) (v := ?_) slit5 (by kernel_rfl) (by kernel_rfl) (by kernel_rfl) (fun _ _ _ h => h) (Or.inl ⟨by rfl, ?_⟩) (by assumption) ?_
        rotate_left
        · (intro w hSw; (try dsimp only at hSw); go_simp) <;> with_reducible rfl
        try simp only [Act.put, List.setIfInBounds_toArray, List.set_cons_zero, List.set_cons_succ]
        refine wpAnyH_ready (rs := [1, 6]) (by kernel_rfl) (by simp) ?_
        refine AllReadyH.cons slit1 (fun K hK => ?_) (AllReadyH.cons slit6 (fun K hK => ?_) AllReadyH.nil)
        · go_simp
          refine hK.out _ _ trivial (fun hHeld => ?_)
          clear hK K
          try simp only [Act.put, List.setIfInBounds_toArray, List.set_cons_zero, List.set_cons_succ]
          refine wpAnyH_ready (rs := [2, 6]) (by kernel_rfl) (by simp) ?_
          refine AllReadyH.cons slit2 (fun K hK => ?_) (AllReadyH.cons slit6 (fun K hK => ?_) AllReadyH.nil)
          · have kb : (convert 52 9 (.slice (some ⟨w2.heap.size, 0, none⟩) 1 1)).run Try.prog ((w2.alloc (.cells #[.int .u8 92] 5)).drew) = .ok (.string ⟨#[92]⟩) ((w2.alloc (.cells #[.int .u8 92] 5)).drew) := conv_block1 92 (by decide) (alloc_new w2 _)
            go_simp
            refine hK.out _ _ trivial (fun hHeld => ?_)
            clear hK K
            try simp only [Act.put, List.setIfInBounds_toArray, List.set_cons_zero, List.set_cons_succ]
            clear kb
            refine wpAnyH_take (i := 3) (v := ?_) slit3 (by kernel_rfl) (by kernel_rfl) (by kernel_rfl) (fun _ _ _ h => h) (Or.inl ⟨by rfl, ?_⟩) (by assumption) ?_
            rotate_left
            · (intro w hSw; (try dsimp only at hSw); go_simp) <;> with_reducible rfl
            try simp only [Act.put, List.setIfInBounds_toArray, List.set_cons_zero, List.set_cons_succ]
            refine wpAnyH_take (i := 4) (v := ?_) slit4 (by kernel_rfl) (by kernel_rfl) (by kernel_rfl) (fun _ _ _ h => h) (Or.inl ⟨by rfl, ?_⟩) (by assumption) ?_
            rotate_left
            · (intro w hSw; (try dsimp only at hSw); go_simp) <;> with_reducible rfl
            try simp only [Act.put, List.setIfInBounds_toArray, List.set_cons_zero, List.set_cons_succ]
            refine wpAnyH_ready (rs := [6]) (by kernel_rfl) (by simp) ?_
            refine AllReadyH.cons slit6 (fun K hK => ?_) AllReadyH.nil
            go_simp
            go_at_call 23
            refine (refhex_any b hb6 _).mono ?_
            rintro e wx ⟨rfl, Fx⟩
            have HNF := Lib.hid ((((HF2.out).alloc (.cells #[.int .u8 92] 5)).drew).tr Fx)
            clear Fx
            refine hK.out _ _ trivial (fun hHeld => ?_)
            clear hK K
            try simp only [Act.put, List.setIfInBounds_toArray, List.set_cons_zero, List.set_cons_succ]
            refine wpAnyH_take (i := 7) (v := ?_) slit7 (by kernel_rfl) (by kernel_rfl) (by kernel_rfl) (fun _ _ _ h => h) (Or.inl ⟨by rfl, ?_⟩) (by assumption) ?_
            rotate_left
            · (intro w hSw; (try dsimp only at hSw); go_simp) <;> with_reducible rfl
            try simp only [Act.put, List.setIfInBounds_toArray, List.set_cons_zero, List.set_cons_succ]
            refine wpAnyH_take (i := 8) (v := ?_) slit8 (by kernel_rfl) (by kernel_rfl) (by kernel_rfl) (fun _ _ _ h => h) (Or.inl ⟨by rfl, ?_⟩) (by assumption) ?_
            rotate_left
            · (intro w hSw; (try dsimp only at hSw); go_simp) <;> with_reducible rfl
            try simp only [Act.put, List.setIfInBounds_toArray, List.set_cons_zero, List.set_cons_succ]
            refine wpAnyH_done (by kernel_rfl) ?_ _
            go_wp2_with fail
            go_roundw
            case rel => exact ⟨b + 1, by omega, by go_num, by rw [HT.out, hhx], HNF.out⟩
            case measure => first | (simp [intOf]; done) | (simp [intOf]; omega)
          · go_simp
            go_at_call 23
            refine (refhex_any b hb6 _).mono ?_
            rintro e wx ⟨rfl, Fx⟩
            have HNF := Lib.hid ((((HF2.out).alloc (.cells #[.int .u8 92] 5)).drew).tr Fx)
            have kb : (convert 52 9 (.slice (some ⟨w2.heap.size, 0, none⟩) 1 1)).run Try.prog wx = .ok (.string ⟨#[92]⟩) wx := conv_block1 92 (by decide) (Fx.at_ (w := (w2.alloc (.cells #[.int .u8 92] 5)).drew) (alloc_new w2 _) (fun h => h))
            clear Fx
            refine hK.out _ _ trivial (fun hHeld => ?_)
            clear hK K
            try simp only [Act.put, List.setIfInBounds_toArray, List.set_cons_zero, List.set_cons_succ]
            refine wpAnyH_ready (rs := [2]) (by kernel_rfl) (by simp) ?_
            refine AllReadyH.cons slit2 (fun K hK => ?_) AllReadyH.nil
            go_simp
            refine hK.out _ _ trivial (fun hHeld => ?_)
            clear hK K
            try simp only [Act.put, List.setIfInBounds_toArray, List.set_cons_zero, List.set_cons_succ]
            clear kb
            refine wpAnyH_take (i := 3) (v := ?_) slit3 (by kernel_rfl) (by kernel_rfl) (by kernel_rfl) (fun _ _ _ h => h) (Or.inl ⟨by rfl, ?_⟩) (by assumption) ?_
            rotate_left
            · (intro w hSw; (try dsimp only at hSw); go_simp) <;> with_reducible rfl
            try simp only [Act.put, List.setIfInBounds_toArray, List.set_cons_zero, List.set_cons_succ]
            refine wpAnyH_take (i := 4) (v := ?_) slit4 (by kernel_rfl) (by kernel_rfl) (by kernel_rfl) (fun _ _ _ h => h) (Or.inl ⟨by rfl, ?_⟩) (by assumption) ?_
            rotate_left
            · (intro w hSw; (try dsimp only at hSw); go_simp) <;> with_reducible rfl
            try simp only [Act.put, List.setIfInBounds_toArray, List.set_cons_zero, List.set_cons_succ]
            refine wpAnyH_take (i := 7) (v := ?_) slit7 (by kernel_rfl) (by kernel_rfl) (by kernel_rfl) (fun _ _ _ h => h) (Or.inl ⟨by rfl, ?_⟩) (by assumption) ?_
            rotate_left
            · (intro w hSw; (try dsimp only at hSw); go_simp) <;> with_reducible rfl
            try simp only [Act.put, List.setIfInBounds_toArray, List.set_cons_zero, List.set_cons_succ]
            refine wpAnyH_take (i := 8) (v := ?_) slit8 (by kernel_rfl) (by kernel_rfl) (by kernel_rfl) (fun _ _ _ h => h) (Or.inl ⟨by rfl, ?_⟩) (by assumption) ?_
            rotate_left
            · (intro w hSw; (try dsimp only at hSw); go_simp) <;> with_reducible rfl
            try simp only [Act.put, List.setIfInBounds_toArray, List.set_cons_zero, List.set_cons_succ]
            refine wpAnyH_done (by kernel_rfl) ?_ _
            go_wp2_with fail
            go_roundw
            case rel => exact ⟨b + 1, by omega, by go_num, by rw [HT.out, hhx], HNF.out⟩
            case measure => first | (simp [intOf]; done) | (simp [intOf]; omega)
        · go_simp
          go_at_call 23
          refine (refhex_any b hb6 _).mono ?_
          rintro e wx ⟨rfl, Fx⟩
          have HN0 := Lib.hid ((HF2.out.drew).tr Fx)
          clear Fx
          refine hK.out _ _ trivial (fun hHeld => ?_)
          clear hK K
          try simp only [Act.put, List.setIfInBounds_toArray, List.set_cons_zero, List.set_cons_succ]
          refine wpAnyH_ready (rs := [1]) (by kernel_rfl) (by simp) ?_
          refine AllReadyH.cons slit1 (fun K hK => ?_) AllReadyH.nil
          go_simp
          refine hK.out _ _ trivial (fun hHeld => ?_)
          clear hK K
          try simp only [Act.put, List.setIfInBounds_toArray, List.set_cons_zero, List.set_cons_succ]
          have kb : (convert 52 9 (.slice (some ⟨wx.heap.size, 0, none⟩) 1 1)).run Try.prog (wx.alloc (.cells #[.int .u8 92] 5)) = .ok (.string ⟨#[92]⟩) (wx.alloc (.cells #[.int .u8 92] 5)) := conv_block1 92 (by decide) (alloc_new wx _)
          have HNF := Lib.hid (HN0.out.alloc (.cells #[.int .u8 92] 5))
          refine wpAnyH_ready (rs := [2]) (by kernel_rfl) (by simp) ?_
          refine AllReadyH.cons slit2 (fun K hK => ?_) AllReadyH.nil
          go_simp
          refine hK.out _ _ trivial (fun hHeld => ?_)
          clear hK K
          try simp only [Act.put, List.setIfInBounds_toArray, List.set_cons_zero, List.set_cons_succ]
          clear kb
          refine wpAnyH_take (i := 3) (v := ?_) slit3 (by kernel_rfl) (by kernel_rfl) (by kernel_rfl) (fun _ _ _ h => h) (Or.inl ⟨by rfl, ?_⟩) (by assumption) ?_
          rotate_left
          · (intro w hSw; (try dsimp only at hSw); go_simp) <;> with_reducible rfl
          try simp only [Act.put, List.setIfInBounds_toArray, List.set_cons_zero, List.set_cons_succ]
          refine wpAnyH_take (i := 4) (v := ?_) slit4 (by kernel_rfl) (by kernel_rfl) (by kernel_rfl) (fun _ _ _ h => h) (Or.inl ⟨by rfl, ?_⟩) (by assumption) ?_
          rotate_left
          · (intro w hSw; (try dsimp only at hSw); go_simp) <;> with_reducible rfl
          try simp only [Act.put, List.setIfInBounds_toArray, List.set_cons_zero, List.set_cons_succ]
          refine wpAnyH_take (i := 7) (v := ?_) slit7 (by kernel_rfl) (by kernel_rfl) (by kernel_rfl) (fun _ _ _ h => h) (Or.inl ⟨by rfl, ?_⟩) (by assumption) ?_
          rotate_left
          · (intro w hSw; (try dsimp only at hSw); go_simp) <;> with_reducible rfl
          try simp only [Act.put, List.setIfInBounds_toArray, List.set_cons_zero, List.set_cons_succ]
          refine wpAnyH_take (i := 8) (v := ?_) slit8 (by kernel_rfl) (by kernel_rfl) (by kernel_rfl) (fun _ _ _ h => h) (Or.inl ⟨by rfl, ?_⟩) (by assumption) ?_
          rotate_left
          · (intro w hSw; (try dsimp only at hSw); go_simp) <;> with_reducible rfl
          try simp only [Act.put, List.setIfInBounds_toArray, List.set_cons_zero, List.set_cons_succ]
          refine wpAnyH_done (by kernel_rfl) ?_ _
          go_wp2_with fail
          go_roundw
          case rel => exact ⟨b + 1, by omega, by go_num, by rw [HT.out, hhx], HNF.out⟩
          case measure => first | (simp [intOf]; done) | (simp [intOf]; omega)
    · obtain rfl : b = 256 := by omega
      have HSS := Lib.hid (show (⟨#[91]⟩ : ByteArray) ++ bstr (classS RR 256) ++ (⟨#[93]⟩ : ByteArray) = bstr (showL (.mk 1 b0 b1 b2 b3 kids)) by
        rw [HSH.out]
        show bstr [91] ++ bstr _ ++ bstr [93] = _
        simp only [bstr_append])
      obtain ⟨sb, hsb⟩ : ∃ t, bstr (classS RR 256) = t := ⟨_, rfl⟩
      rw [hsb] at HSS hsz ⊢
      have q1 : 1 + sb.size ≤ 9223372036854775807 := by omega
      have q2 : 1 + sb.size + 1 ≤ 9223372036854775807 := by omega
      have HFW := Lib.hid (F0.out.tr HF.out)
      clear hsb
      go_wp2_with fail
      go_ret
      exact ⟨by rw [← HSS.out]; rfl, HFW.out⟩
end Go.Proofs.Ytjbmppbciiemkaa

namespace Go.Proofs.Ytjbmppbciiemkaa set_option linter.unusedVariables false set_option linter.unusedSimpArgs false
open Go.RowKit

def joinP (kids : List Rx) (sep : List UInt8) (i : Nat) : List UInt8 := Lib.join (showLs (kids.take i)) sep
theorem joinP_succ (kids : List Rx) (sep : List UInt8) (i : Nat) (r : Rx) (h : kids[i]? = some r) : joinP kids sep (i + 1) = if i = 0 then showL r else joinP kids sep i ++ sep ++ showL r := by
  have ht : kids.take (i + 1) = kids.take i ++ [r] := by rw [List.take_add_one, h]; rfl
  unfold joinP
  rw [ht, showLs_eq, showLs_eq, List.map_append]
  by_cases hi : i = 0
  · subst hi
    simp [Lib.join_one]
  · rw [if_neg hi]
    cases hk : (kids.take i).map showL with
    | nil =>
      have h1 : (kids.take i).length = 0 := by have := congrArg List.length hk; simpa using this
      have h2 := (List.getElem?_eq_some_iff.1 h).1
      rw [List.length_take] at h1
      omega
    | cons x l =>
      rw [List.cons_append, Lib.join_cons, Lib.join_cons]
      simp [Lib.joinTail]
theorem joinP_length (kids : List Rx) (sep : List UInt8) (i : Nat) (hs : sep.length ≤ 1) (hk : Rx.sizes kids ≤ 1000) : (joinP kids sep i).length ≤ 1030000 := by
  have h1 := join_length (showLs (kids.take i)) sep hs
  have h2 := showLs_length (kids.take i)
  have h3 := Rx.sizes_le kids i
  unfold joinP
  omega
theorem showL_le {r : Rx} (h : r.size ≤ 1000) : (bstr (showL r)).size ≤ 1030000 := by
  have := showL_length r
  rw [bstr_size3]
  omega

set_option maxRecDepth 100000 in
set_option maxHeartbeats 4000000 in
theorem refshow_0  (b0 b1 b2 b3 : Nat) (kids : List Rx) (hsz : Rx.sizes kids ≤ 1000) (hsub : ∀ r ∈ kids, RShowC r) : RShowC (.mk 0 b0 b1 b2 b3 kids) := by
  intro v w ok hv hf
  obtain ⟨a, cap, rfl, hc, hl⟩ := hv.open_
  have HL := Lib.hid hl
  have HS := Lib.hid hsub
  have HFI := Lib.hid ((fines_iff kids).1 hf.2.2.2.2)
  have F0 := Lib.hid ((Fr.refl none_ w).alloc (.cells #[.int .i64 0, .int .u64 b0, .int .u64 b1, .int .u64 b2, .int .u64 b3, .slice a kids.length cap] 28))
  have NX := Lib.hid (alloc_new w (.cells #[.int .i64 0, .int .u64 b0, .int .u64 b1, .int .u64 b2, .int .u64 b3, .slice a kids.length cap] 28))
  obtain ⟨z0, z1, z2, z3, z4, z5⟩ := six NX.out
  clear hv hl hf hsub
  go_enter Try.func9, Try.ntmps9
  go_wp2_with fail
  go_ret
  exact ⟨by simp [showL, bstr], F0.out⟩

set_option maxRecDepth 100000 in
set_option maxHeartbeats 4000000 in
theorem refshow_other (k : Int) (h0 : k ≠ 0) (h1 : k ≠ 1) (h2 : k ≠ 2) (h3 : k ≠ 3) (h4 : k ≠ 4) (b0 b1 b2 b3 : Nat) (kids : List Rx) (hsz : Rx.sizes kids ≤ 1000) (hsub : ∀ r ∈ kids, RShowC r) : RShowC (.mk k b0 b1 b2 b3 kids) := by
  intro v w ok hv hf
  obtain ⟨a, cap, rfl, hc, hl⟩ := hv.open_
  have HL := Lib.hid hl
  have HS := Lib.hid hsub
  have HFI := Lib.hid ((fines_iff kids).1 hf.2.2.2.2)
  have F0 := Lib.hid ((Fr.refl none_ w).alloc (.cells #[.int .i64 k, .int .u64 b0, .int .u64 b1, .int .u64 b2, .int .u64 b3, .slice a kids.length cap] 28))
  have NX := Lib.hid (alloc_new w (.cells #[.int .i64 k, .int .u64 b0, .int .u64 b1, .int .u64 b2, .int .u64 b3, .slice a kids.length cap] 28))
  obtain ⟨z0, z1, z2, z3, z4, z5⟩ := six NX.out
  clear hv hl hf hsub
  have e0 : (k == 0) = false := by rw [beq_eq_false_iff_ne]; exact h0
  have e1 : (k == 1) = false := by rw [beq_eq_false_iff_ne]; exact h1
  have e2 : (k == 2) = false := by rw [beq_eq_false_iff_ne]; exact h2
  have e3 : (k == 3) = false := by rw [beq_eq_false_iff_ne]; exact h3
  have e4 : (k == 4) = false := by rw [beq_eq_false_iff_ne]; exact h4
  have HLA := Lib.hid (show showL (.mk k b0 b1 b2 b3 kids) = [91, 93] by simp [showL, h0, h1, h2, h3, h4])
  clear h0 h1 h2 h3 h4
  go_enter Try.func9, Try.ntmps9
  go_wp2_with fail
  go_ret
  exact ⟨by rw [HLA.out]; rfl, F0.out⟩

set_option maxRecDepth 100000 in
set_option maxHeartbeats 4000000 in
theorem refshow_4n  (b0 b1 b2 b3 : Nat) (kids : List Rx) (hsz : Rx.sizes kids ≤ 1000) (hsub : ∀ r ∈ kids, RShowC r) (hk : kids = []) : RShowC (.mk 4 b0 b1 b2 b3 kids) := by
  intro v w ok hv hf
  obtain ⟨a, cap, rfl, hc, hl⟩ := hv.open_
  have HL := Lib.hid hl
  have HS := Lib.hid hsub
  have HFI := Lib.hid ((fines_iff kids).1 hf.2.2.2.2)
  have F0 := Lib.hid ((Fr.refl none_ w).alloc (.cells #[.int .i64 4, .int .u64 b0, .int .u64 b1, .int .u64 b2, .int .u64 b3, .slice a kids.length cap] 28))
  have NX := Lib.hid (alloc_new w (.cells #[.int .i64 4, .int .u64 b0, .int .u64 b1, .int .u64 b2, .int .u64 b3, .slice a kids.length cap] 28))
  obtain ⟨z0, z1, z2, z3, z4, z5⟩ := six NX.out
  clear hv hl hf hsub
  subst hk
  have e0 : (((([] : List Rx).length : Nat) : Int) == 0) = true := rfl
  go_enter Try.func9, Try.ntmps9
  go_wp2_with fail
  go_ret
  exact ⟨by simp [showL, showLs, bstr], F0.out⟩

set_option maxRecDepth 100000 in
set_option maxHeartbeats 4000000 in
theorem refshow_4c  (b0 b1 b2 b3 : Nat) (kids : List Rx) (hsz : Rx.sizes kids ≤ 1000) (hsub : ∀ r ∈ kids, RShowC r) (c : Int) (x0 x1 x2 x3 : Nat) (ks rest : List Rx) (hk : kids = .mk c x0 x1 x2 x3 ks :: rest) : RShowC (.mk 4 b0 b1 b2 b3 kids) := by
  intro v w ok hv hf
  obtain ⟨a, cap, rfl, hc, hl⟩ := hv.open_
  have HL := Lib.hid hl
  have HS := Lib.hid hsub
  have HFI := Lib.hid ((fines_iff kids).1 hf.2.2.2.2)
  have F0 := Lib.hid ((Fr.refl none_ w).alloc (.cells #[.int .i64 4, .int .u64 b0, .int .u64 b1, .int .u64 b2, .int .u64 b3, .slice a kids.length cap] 28))
  have NX := Lib.hid (alloc_new w (.cells #[.int .i64 4, .int .u64 b0, .int .u64 b1, .int .u64 b2, .int .u64 b3, .slice a kids.length cap] 28))
  obtain ⟨z0, z1, z2, z3, z4, z5⟩ := six NX.out
  clear hv hl hf hsub
  subst hk
  have e0 : (((((.mk c x0 x1 x2 x3 ks :: rest) : List Rx).length : Nat) : Int) == 0) = false := by rw [beq_eq_false_iff_ne]; first | (simp; done) | (simp; omega)
  have hpos : (0 : Int) < ((((.mk c x0 x1 x2 x3 ks :: rest) : List Rx).length : Nat) : Int) := by first | (simp; done) | (simp; omega)
  have HLA := Lib.hid (show showL (.mk 4 b0 b1 b2 b3 (.mk c x0 x1 x2 x3 ks :: rest)) = showL (.mk c x0 x1 x2 x3 ks) ++ [42] by simp [showL, showLs])
  have hr1 : (Rx.mk c x0 x1 x2 x3 ks).size ≤ 1000 := by simp only [Rx.sizes] at hsz; omega
  obtain ⟨ad, a', cap', had, hok, c0, c1, c2, c3, c4, c5, hc', hl'⟩ := (RxL.move (fun k _ hlt => F0.out.block k hlt (fun h => h)) _ a 0 HL.out).elem (i := 0) rfl
  subst had
  have ha0 : ad.add (0 * 6) = ad := by simp [Addr.add]
  rw [ha0] at c0 c1 c2 c3 c4 c5
  have HL' := Lib.hid hl'
  have HK := Lib.hid (HS.out _ (List.mem_cons_self ..))
  have HKF := Lib.hid (HFI.out _ (List.mem_cons_self ..))
  have hzz := showL_le hr1
  clear ha0 hl' hsz
  generalize (Rx.mk c x0 x1 x2 x3 ks :: rest) = L at *
  go_enter Try.func9, Try.ntmps9
  go_wp2_with fail
  refine (HK.out _ _ ok (RxV.mk_ hc' HL'.out) HKF.out).mono ?_
  rintro e w2 ⟨rfl, F2⟩
  have HF2 := Lib.hid (F0.out.tr F2)
  have HSS := Lib.hid (show bstr (showL (.mk c x0 x1 x2 x3 ks)) ++ (⟨#[42]⟩ : ByteArray) = bstr (showL (.mk 4 b0 b1 b2 b3 L)) by
    rw [HLA.out]
    show _ ++ bstr [42] = _
    rw [bstr_append])
  obtain ⟨sb, hsb⟩ : ∃ t, bstr (showL (.mk c x0 x1 x2 x3 ks)) = t := ⟨_, rfl⟩
  rw [hsb] at HSS hzz ⊢
  have q1 : sb.size + 1 ≤ 9223372036854775807 := by omega
  clear hsb F2 z0 z1 z2 z3 z4 z5 c0 c1 c2 c3 c4 c5
  go_wp2_with fail
  go_ret
  exact ⟨by rw [← HSS.out]; rfl, HF2.out⟩

set_option maxRecDepth 100000 in
set_option maxHeartbeats 4000000 in
theorem refshow_3n  (b0 b1 b2 b3 : Nat) (kids : List Rx) (hsz : Rx.sizes kids ≤ 1000) (hsub : ∀ r ∈ kids, RShowC r) (hk : kids = []) : RShowC (.mk 3 b0 b1 b2 b3 kids) := by
  intro v w ok hv hf
  obtain ⟨a, cap, rfl, hc, hl⟩ := hv.open_
  have HL := Lib.hid hl
  have HS := Lib.hid hsub
  have HFI := Lib.hid ((fines_iff kids).1 hf.2.2.2.2)
  have F0 := Lib.hid ((Fr.refl none_ w).alloc (.cells #[.int .i64 3, .int .u64 b0, .int .u64 b1, .int .u64 b2, .int .u64 b3, .slice a kids.length cap] 28))
  have NX := Lib.hid (alloc_new w (.cells #[.int .i64 3, .int .u64 b0, .int .u64 b1, .int .u64 b2, .int .u64 b3, .slice a kids.length cap] 28))
  obtain ⟨z0, z1, z2, z3, z4, z5⟩ := six NX.out
  clear hv hl hf hsub
  subst hk
  have e0 : (((([] : List Rx).length : Nat) : Int) == 0) = true := rfl
  go_enter Try.func9, Try.ntmps9
  go_wp2_with fail
  go_ret
  exact ⟨by simp [showL, bstr], F0.out⟩

set_option maxRecDepth 100000 in
set_option maxHeartbeats 4000000 in
theorem refshow_2  (b0 b1 b2 b3 : Nat) (kids : List Rx) (hsz : Rx.sizes kids ≤ 1000) (hsub : ∀ r ∈ kids, RShowC r) (hk1 : kids.length ≤ 1000) : RShowC (.mk 2 b0 b1 b2 b3 kids) := by
  intro v w ok hv hf
  obtain ⟨a, cap, rfl, hc, hl⟩ := hv.open_
  have HL := Lib.hid hl
  have HS := Lib.hid hsub
  have HFI := Lib.hid ((fines_iff kids).1 hf.2.2.2.2)
  have F0 := Lib.hid ((Fr.refl none_ w).alloc (.cells #[.int .i64 2, .int .u64 b0, .int .u64 b1, .int .u64 b2, .int .u64 b3, .slice a kids.length cap] 28))
  have NX := Lib.hid (alloc_new w (.cells #[.int .i64 2, .int .u64 b0, .int .u64 b1, .int .u64 b2, .int .u64 b3, .slice a kids.length cap] 28))
  obtain ⟨z0, z1, z2, z3, z4, z5⟩ := six NX.out
  clear hv hl hf hsub
  have HLA := Lib.hid (show showL (.mk 2 b0 b1 b2 b3 kids) = [40] ++ joinP kids [] kids.length ++ [41] by simp [showL, joinP])
  go_enter Try.func9, Try.ntmps9
  go_wp2_with fail
  clear z0 z1 z2 z3 z4 z5
  generalize hw1 : w.alloc (.cells #[.int .i64 2, .int .u64 b0, .int .u64 b1, .int .u64 b2, .int .u64 b3, .slice a kids.length cap] 28) = w1
  rw [hw1] at F0 NX
  clear hw1
  go_loopw [3, 5] (fun x3 x5 wr => ∃ i : Nat, i ≤ kids.length ∧ x5 = .int .i64 i ∧ x3 = .string (bstr (joinP kids [] i)) ∧ Aside (Fr none_ w1 wr)) (fun _ x5 _ => kids.length - (intOf x5).toNat)
  case atStart => exact ⟨0, Nat.zero_le _, rfl, by simp [joinP, showLs, Lib.join_nil, bstr], Fr.refl _ _⟩
  case round =>
    obtain ⟨i, hi, rfl, rfl, hfr⟩ := hrel
    have HF := Lib.hid hfr.out
    clear hfr
    obtain ⟨z0, z1, z2, z3, z4, z5⟩ := six (HF.out.at_ NX.out (fun h => h))
    have hjl : (bstr (joinP kids [] i)).size ≤ 1030000 := by rw [bstr_size3]; exact joinP_length kids [] i (by simp) hsz
    by_cases hlt : i < kids.length
    · have hlt' : (i : Int) < (kids.length : Int) := by omega
      have hi0I : (0 : Int) ≤ (i : Int) := by omega
      obtain ⟨⟨c, x0, x1, x2, x3, ks⟩, hki⟩ : ∃ r, kids[i]? = some r := ⟨kids[i]'hlt, List.getElem?_eq_getElem hlt⟩
      have hmv : RxL ok wr a 0 kids := RxL.move (fun k _ hlt => (F0.out.tr HF.out).block k hlt (fun h => h)) kids a 0 HL.out
      obtain ⟨ad, a', cap', rfl, hok, c0, c1, c2, c3, c4, c5, hc', hl'⟩ := hmv.elem hki
      have HL' := Lib.hid hl'
      have HK := Lib.hid (HS.out _ (List.mem_of_getElem? hki))
      have HKF := Lib.hid (HFI.out _ (List.mem_of_getElem? hki))
      have hr1 : (Rx.mk c x0 x1 x2 x3 ks).size ≤ 1000 := by
        have h1 := Rx.sizes_take_succ kids i _ hki
        have h2 := Rx.sizes_le kids (i + 1)
        omega
      have hzz := showL_le hr1
      clear hmv hl'
      by_cases hi0 : i = 0
      · subst hi0
        have ha0 : ad.add (0 * 6) = ad := by simp [Addr.add]
        rw [ha0] at c0 c1 c2 c3 c4 c5
        clear ha0
        have HT := Lib.hid (show bstr (joinP kids [] (0 + 1)) = bstr (joinP kids [] 0) ++ bstr (showL (.mk c x0 x1 x2 x3 ks)) by
          rw [joinP_succ kids [] 0 _ hki]
          rw [if_pos rfl, bstr_append]; simp [joinP, showLs, Lib.join_nil])
        have hgi : ¬ (0 : Int) < ((0 : Nat) : Int) := by omega
        have hgb : True := trivial
        have hgn : True := trivial
        obtain ⟨sb, hsb⟩ : ∃ t, bstr (joinP kids [] 0) = t := ⟨_, rfl⟩
        obtain ⟨sk, hsk⟩ : ∃ t, bstr (showL (.mk c x0 x1 x2 x3 ks)) = t := ⟨_, rfl⟩
        have HSK := Lib.hid hsk
        rw [hsb, hsk] at HT
        rw [hsb] at hjl ⊢
        rw [hsk] at hzz
        have q2 : sb.size + sk.size ≤ 9223372036854775807 := by omega
        clear hsb hsk hki
        go_wp2_with fail
        refine (HK.out _ _ ok (RxV.mk_ hc' HL'.out) HKF.out).mono ?_
        rintro e w2 ⟨rfl, F2⟩
        rw [HSK.out]
        have HF2 := Lib.hid (HF.out.tr F2)
        clear F2 z0 z1 z2 z3 z4 z5 c0 c1 c2 c3 c4 c5
        go_wp2_with fail
        go_roundw
        case rel => exact ⟨0 + 1, by omega, by go_num, by rw [HT.out], HF2.out⟩
        case measure => first | (simp [intOf]; done) | (simp [intOf]; omega)
      · skip
        have HT := Lib.hid (show bstr (joinP kids [] (i + 1)) = bstr (joinP kids [] i) ++ bstr (showL (.mk c x0 x1 x2 x3 ks)) by
          rw [joinP_succ kids [] i _ hki]
          rw [if_neg hi0, bstr_append]; simp)
        have hgi : (0 : Int) < (i : Int) := by omega
        have hgb : decide ((0 : Int) < (i : Int)) = true := by simp; omega
        have hgn : decide (0 < i) = true := by simp; omega
        obtain ⟨sb, hsb⟩ : ∃ t, bstr (joinP kids [] i) = t := ⟨_, rfl⟩
        obtain ⟨sk, hsk⟩ : ∃ t, bstr (showL (.mk c x0 x1 x2 x3 ks)) = t := ⟨_, rfl⟩
        have HSK := Lib.hid hsk
        rw [hsb, hsk] at HT
        rw [hsb] at hjl ⊢
        rw [hsk] at hzz
        have q2 : sb.size + sk.size ≤ 9223372036854775807 := by omega
        clear hsb hsk hki
        go_wp2_with fail
        refine (HK.out _ _ ok (RxV.mk_ hc' HL'.out) HKF.out).mono ?_
        rintro e w2 ⟨rfl, F2⟩
        rw [HSK.out]
        have HF2 := Lib.hid (HF.out.tr F2)
        clear F2 z0 z1 z2 z3 z4 z5 c0 c1 c2 c3 c4 c5
        go_wp2_with fail
        go_roundw
        case rel => exact ⟨i + 1, by omega, by go_num, by rw [HT.out], HF2.out⟩
        case measure => first | (simp [intOf]; done) | (simp [intOf]; omega)
    · obtain rfl : i = kids.length := by omega
      have HSS := Lib.hid (show (⟨#[40]⟩ : ByteArray) ++ bstr (joinP kids [] kids.length) ++ (⟨#[41]⟩ : ByteArray) = bstr (showL (.mk 2 b0 b1 b2 b3 kids)) by
        rw [HLA.out]
        show bstr [40] ++ bstr _ ++ bstr [41] = _
        simp only [bstr_append])
      obtain ⟨sb, hsb⟩ : ∃ t, bstr (joinP kids [] kids.length) = t := ⟨_, rfl⟩
      rw [hsb] at HSS hjl ⊢
      have q1 : 1 + sb.size ≤ 9223372036854775807 := by omega
      have q2 : 1 + sb.size + 1 ≤ 9223372036854775807 := by omega
      have HFW := Lib.hid (F0.out.tr HF.out)
      clear hsb
      go_wp2_with fail
      go_ret
      exact ⟨by rw [← HSS.out]; rfl, HFW.out⟩

set_option maxRecDepth 100000 in
set_option maxHeartbeats 4000000 in
theorem refshow_3  (b0 b1 b2 b3 : Nat) (kids : List Rx) (hsz : Rx.sizes kids ≤ 1000) (hsub : ∀ r ∈ kids, RShowC r) (hk1 : kids.length ≤ 1000) (hne : kids ≠ []) : RShowC (.mk 3 b0 b1 b2 b3 kids) := by
  intro v w ok hv hf
  obtain ⟨a, cap, rfl, hc, hl⟩ := hv.open_
  have HL := Lib.hid hl
  have HS := Lib.hid hsub
  have HFI := Lib.hid ((fines_iff kids).1 hf.2.2.2.2)
  have F0 := Lib.hid ((Fr.refl none_ w).alloc (.cells #[.int .i64 3, .int .u64 b0, .int .u64 b1, .int .u64 b2, .int .u64 b3, .slice a kids.length cap] 28))
  have NX := Lib.hid (alloc_new w (.cells #[.int .i64 3, .int .u64 b0, .int .u64 b1, .int .u64 b2, .int .u64 b3, .slice a kids.length cap] 28))
  obtain ⟨z0, z1, z2, z3, z4, z5⟩ := six NX.out
  clear hv hl hf hsub
  have hpos : 0 < kids.length := by cases kids with
    | nil => exact absurd rfl hne
    | cons x l => simp
  have e0 : (((kids.length : Nat) : Int) == 0) = false := by rw [beq_eq_false_iff_ne]; omega
  have HLA := Lib.hid (show showL (.mk 3 b0 b1 b2 b3 kids) = [40] ++ joinP kids [124] kids.length ++ [41] by simp [showL, joinP, hne])
  go_enter Try.func9, Try.ntmps9
  go_wp2_with fail
  clear z0 z1 z2 z3 z4 z5
  generalize hw1 : w.alloc (.cells #[.int .i64 3, .int .u64 b0, .int .u64 b1, .int .u64 b2, .int .u64 b3, .slice a kids.length cap] 28) = w1
  rw [hw1] at F0 NX
  clear hw1
  go_loopw [3, 5] (fun x3 x5 wr => ∃ i : Nat, i ≤ kids.length ∧ x5 = .int .i64 i ∧ x3 = .string (bstr (joinP kids [124] i)) ∧ Aside (Fr none_ w1 wr)) (fun _ x5 _ => kids.length - (intOf x5).toNat)
  case atStart => exact ⟨0, Nat.zero_le _, rfl, by simp [joinP, showLs, Lib.join_nil, bstr], Fr.refl _ _⟩
  case round =>
    obtain ⟨i, hi, rfl, rfl, hfr⟩ := hrel
    have HF := Lib.hid hfr.out
    clear hfr
    obtain ⟨z0, z1, z2, z3, z4, z5⟩ := six (HF.out.at_ NX.out (fun h => h))
    have hjl : (bstr (joinP kids [124] i)).size ≤ 1030000 := by rw [bstr_size3]; exact joinP_length kids [124] i (by simp) hsz
    by_cases hlt : i < kids.length
    · have hlt' : (i : Int) < (kids.length : Int) := by omega
      have hi0I : (0 : Int) ≤ (i : Int) := by omega
      obtain ⟨⟨c, x0, x1, x2, x3, ks⟩, hki⟩ : ∃ r, kids[i]? = some r := ⟨kids[i]'hlt, List.getElem?_eq_getElem hlt⟩
      have hmv : RxL ok wr a 0 kids := RxL.move (fun k _ hlt => (F0.out.tr HF.out).block k hlt (fun h => h)) kids a 0 HL.out
      obtain ⟨ad, a', cap', rfl, hok, c0, c1, c2, c3, c4, c5, hc', hl'⟩ := hmv.elem hki
      have HL' := Lib.hid hl'
      have HK := Lib.hid (HS.out _ (List.mem_of_getElem? hki))
      have HKF := Lib.hid (HFI.out _ (List.mem_of_getElem? hki))
      have hr1 : (Rx.mk c x0 x1 x2 x3 ks).size ≤ 1000 := by
        have h1 := Rx.sizes_take_succ kids i _ hki
        have h2 := Rx.sizes_le kids (i + 1)
        omega
      have hzz := showL_le hr1
      clear hmv hl'
      by_cases hi0 : i = 0
      · subst hi0
        have ha0 : ad.add (0 * 6) = ad := by simp [Addr.add]
        rw [ha0] at c0 c1 c2 c3 c4 c5
        clear ha0
        have HT := Lib.hid (show bstr (joinP kids [124] (0 + 1)) = bstr (joinP kids [124] 0) ++ bstr (showL (.mk c x0 x1 x2 x3 ks)) by
          rw [joinP_succ kids [124] 0 _ hki]
          rw [if_pos rfl, bstr_append]; simp [joinP, showLs, Lib.join_nil])
        have hgi : ¬ (0 : Int) < ((0 : Nat) : Int) := by omega
        have hgb : True := trivial
        have hgn : True := trivial
        obtain ⟨sb, hsb⟩ : ∃ t, bstr (joinP kids [124] 0) = t := ⟨_, rfl⟩
        obtain ⟨sk, hsk⟩ : ∃ t, bstr (showL (.mk c x0 x1 x2 x3 ks)) = t := ⟨_, rfl⟩
        have HSK := Lib.hid hsk
        rw [hsb, hsk] at HT
        rw [hsb] at hjl ⊢
        rw [hsk] at hzz
        have q2 : sb.size + sk.size ≤ 9223372036854775807 := by omega
        clear hsb hsk hki
        go_wp2_with fail
        refine (HK.out _ _ ok (RxV.mk_ hc' HL'.out) HKF.out).mono ?_
        rintro e w2 ⟨rfl, F2⟩
        rw [HSK.out]
        have HF2 := Lib.hid (HF.out.tr F2)
        clear F2 z0 z1 z2 z3 z4 z5 c0 c1 c2 c3 c4 c5
        go_wp2_with fail
        go_roundw
        case rel => exact ⟨0 + 1, by omega, by go_num, by rw [HT.out], HF2.out⟩
        case measure => first | (simp [intOf]; done) | (simp [intOf]; omega)
      · skip
        have HT := Lib.hid (show bstr (joinP kids [124] (i + 1)) = (bstr (joinP kids [124] i) ++ (⟨#[124]⟩ : ByteArray)) ++ bstr (showL (.mk c x0 x1 x2 x3 ks)) by
          rw [joinP_succ kids [124] i _ hki, if_neg hi0]
          show _ = (bstr _ ++ bstr [124]) ++ bstr _
          rw [bstr_append, bstr_append])
        have hgi : (0 : Int) < (i : Int) := by omega
        have hgb : decide ((0 : Int) < (i : Int)) = true := by simp; omega
        have hgn : decide (0 < i) = true := by simp; omega
        obtain ⟨sb, hsb⟩ : ∃ t, bstr (joinP kids [124] i) = t := ⟨_, rfl⟩
        obtain ⟨sk, hsk⟩ : ∃ t, bstr (showL (.mk c x0 x1 x2 x3 ks)) = t := ⟨_, rfl⟩
        have HSK := Lib.hid hsk
        rw [hsb, hsk] at HT
        rw [hsb] at hjl ⊢
        rw [hsk] at hzz
        have q1 : sb.size + 1 ≤ 9223372036854775807 := by omega
        have q2 : sb.size + 1 + sk.size ≤ 9223372036854775807 := by omega
        clear hsb hsk hki
        go_wp2_with fail
        refine (HK.out _ _ ok (RxV.mk_ hc' HL'.out) HKF.out).mono ?_
        rintro e w2 ⟨rfl, F2⟩
        rw [HSK.out]
        have HF2 := Lib.hid (HF.out.tr F2)
        clear F2 z0 z1 z2 z3 z4 z5 c0 c1 c2 c3 c4 c5
        go_wp2_with fail
        go_roundw
        case rel => exact ⟨i + 1, by omega, by go_num, by rw [HT.out], HF2.out⟩
        case measure => first | (simp [intOf]; done) | (simp [intOf]; omega)
    · obtain rfl : i = kids.length := by omega
      have HSS := Lib.hid (show (⟨#[40]⟩ : ByteArray) ++ bstr (joinP kids [124] kids.length) ++ (⟨#[41]⟩ : ByteArray) = bstr (showL (.mk 3 b0 b1 b2 b3 kids)) by
        rw [HLA.out]
        show bstr [40] ++ bstr _ ++ bstr [41] = _
        simp only [bstr_append])
      obtain ⟨sb, hsb⟩ : ∃ t, bstr (joinP kids [124] kids.length) = t := ⟨_, rfl⟩
      rw [hsb] at HSS hjl ⊢
      have q1 : 1 + sb.size ≤ 9223372036854775807 := by omega
      have q2 : 1 + sb.size + 1 ≤ 9223372036854775807 := by omega
      have HFW := Lib.hid (F0.out.tr HF.out)
      clear hsb
      go_wp2_with fail
      go_ret
      exact ⟨by rw [← HSS.out]; rfl, HFW.out⟩

theorem refshow_all (n : Nat) : ∀ r : Rx, r.size ≤ n → r.size ≤ 1000 → RShowC r := by
  induction n with
  | zero => intro r hn; have := r.size_pos; omega
  | succ n ih =>
    rintro ⟨k, b0, b1, b2, b3, kids⟩ hn h1
    have hsz : Rx.sizes kids ≤ 1000 := by simp only [Rx.size] at h1; omega
    have hk1 : kids.length ≤ 1000 := Nat.le_trans (Rx.length_le kids) hsz
    have hsub : ∀ r ∈ kids, RShowC r := fun r hr => by
      obtain ⟨i, hi⟩ := List.getElem?_of_mem hr
      have h2 := Rx.sizes_take_succ kids i r hi
      have h3 := Rx.sizes_le kids (i + 1)
      have h4 : 1 + Rx.sizes kids ≤ n + 1 := by simpa only [Rx.size] using hn
      exact ih r (by omega) (by omega)
    by_cases h0 : k = 0
    · subst h0; exact refshow_0 b0 b1 b2 b3 kids hsz hsub
    by_cases h1 : k = 1
    · subst h1; exact refshow_1 b0 b1 b2 b3 kids
    by_cases h2 : k = 2
    · subst h2; exact refshow_2 b0 b1 b2 b3 kids hsz hsub hk1
    by_cases h3 : k = 3
    · subst h3
      by_cases hn : kids = []
      · exact refshow_3n b0 b1 b2 b3 kids hsz hsub hn
      · exact refshow_3 b0 b1 b2 b3 kids hsz hsub hk1 hn
    by_cases h4 : k = 4
    · subst h4
      rcases kids with _ | ⟨⟨c, x0, x1, x2, x3, ks⟩, rest⟩
      · exact refshow_4n b0 b1 b2 b3 [] hsz hsub rfl
      · exact refshow_4c b0 b1 b2 b3 _ hsz hsub c x0 x1 x2 x3 ks rest rfl
    exact refshow_other k h0 h1 h2 h3 h4 b0 b1 b2 b3 kids hsz hsub
end Go.Proofs.Ytjbmppbciiemkaa

namespace Go.Proofs.Ytjbmppbciiemkaa set_option linter.unusedVariables false set_option linter.unusedSimpArgs false
open Go.RowKit

theorem ulit0 {α : Type} {x0 : α} {l : List α} : (x0 :: l).toArray[0]? = some x0 := rfl
theorem ulit1 {α : Type} {x0 x1 : α} {l : List α} : (x0 :: x1 :: l).toArray[1]? = some x1 := rfl
theorem ulit2 {α : Type} {x0 x1 x2 : α} {l : List α} : (x0 :: x1 :: x2 :: l).toArray[2]? = some x2 := rfl
theorem ulit3 {α : Type} {x0 x1 x2 x3 : α} {l : List α} : (x0 :: x1 :: x2 :: x3 :: l).toArray[3]? = some x3 := rfl
theorem ulit4 {α : Type} {x0 x1 x2 x3 x4 : α} {l : List α} : (x0 :: x1 :: x2 :: x3 :: x4 :: l).toArray[4]? = some x4 := rfl
theorem ulit5 {α : Type} {x0 x1 x2 x3 x4 x5 : α} {l : List α} : (x0 :: x1 :: x2 :: x3 :: x4 :: x5 :: l).toArray[5]? = some x5 := rfl
theorem ulit6 {α : Type} {x0 x1 x2 x3 x4 x5 x6 : α} {l : List α} : (x0 :: x1 :: x2 :: x3 :: x4 :: x5 :: x6 :: l).toArray[6]? = some x6 := rfl
theorem ulit7 {α : Type} {x0 x1 x2 x3 x4 x5 x6 x7 : α} {l : List α} : (x0 :: x1 :: x2 :: x3 :: x4 :: x5 :: x6 :: x7 :: l).toArray[7]? = some x7 := rfl
theorem ulit8 {α : Type} {x0 x1 x2 x3 x4 x5 x6 x7 x8 : α} {l : List α} : (x0 :: x1 :: x2 :: x3 :: x4 :: x5 :: x6 :: x7 :: x8 :: l).toArray[8]? = some x8 := rfl
theorem ulit9 {α : Type} {x0 x1 x2 x3 x4 x5 x6 x7 x8 x9 : α} {l : List α} : (x0 :: x1 :: x2 :: x3 :: x4 :: x5 :: x6 :: x7 :: x8 :: x9 :: l).toArray[9]? = some x9 := rfl
theorem ulit10 {α : Type} {x0 x1 x2 x3 x4 x5 x6 x7 x8 x9 x10 : α} {l : List α} : (x0 :: x1 :: x2 :: x3 :: x4 :: x5 :: x6 :: x7 :: x8 :: x9 :: x10 :: l).toArray[10]? = some x10 := rfl
theorem ulit11 {α : Type} {x0 x1 x2 x3 x4 x5 x6 x7 x8 x9 x10 x11 : α} {l : List α} : (x0 :: x1 :: x2 :: x3 :: x4 :: x5 :: x6 :: x7 :: x8 :: x9 :: x10 :: x11 :: l).toArray[11]? = some x11 := rfl
theorem u64_size : (Try.prog.info? 24).map (fun i => i.size) = some 1 := by kernel_rfl
theorem u64_cells : Try.prog.cellsOf 24 = 1 := by kernel_rfl
def u64V (l : List Nat) : List Value := l.map fun (b : Nat) => Value.int .u64 (b : Int)
theorem neq_same4 (xs : List Nat) (hx : xs.length = 4) (w : World) :
    (binOp .neq 25 (.agg (u64V xs).toArray) (.agg (u64V xs).toArray)).run Try.prog w = .ok (.bool false) w := by
  have key : ∀ w, (Op.equalIn (9998 + 2) 25 (.agg (u64V xs).toArray) (.agg (u64V xs).toArray)).run Try.prog w = .ok true w := by
    intro w
    obtain ⟨i0, hi⟩ : ∃ i, Try.prog.info? 24 = some i := by
      have h := u64_size
      cases hq : Try.prog.info? 24 with
      | none => rw [hq] at h; simp at h
      | some i => exact ⟨i, rfl⟩
    rw [run_equalIn_array w 9999 _ _ Try.underlying25 hi, u64_cells]
    have hl : ∀ i ∈ List.range 4, i < 4 := fun i hi => by simpa using hi
    generalize List.range 4 = l at hl ⊢
    induction l with
    | nil => simp [Op.eqItems]
    | cons i l ih =>
      have hi' : i < 4 := hl i (by simp)
      have px : (part 24 (u64V xs).toArray (i * 1)).run Try.prog w = .ok (.int .u64 ((xs.getD i 0 : Nat) : Int)) w := by
        simp [part, isAgg, run_underlying Try.underlying24, u64V, List.getD, List.getElem?_eq_getElem (show i < xs.length by omega)]
      have pe : (Op.equalIn 9999 24 (.int .u64 ((xs.getD i 0 : Nat) : Int)) (.int .u64 ((xs.getD i 0 : Nat) : Int))).run Try.prog w = .ok (((xs.getD i 0 : Nat) : Int) == ((xs.getD i 0 : Nat) : Int)) w := by
        rw [run_equalIn_int w 9998 24 .u64 .u64 _ _ Try.underlying24]
      simp only [Op.eqItems, Sem.run_bind, px, pe, Result.andThen_ok, beq_self_eq_true, Bool.not_true, Bool.false_eq_true, if_false]
      exact ih fun j hj => hl j (by simp [hj])
  rw [run_neq_struct, key w]
  rfl
def RSameC (r : Rx) : Prop := ∀ (v v' : Value) (w : World) (ok ok' : Nat → Prop), RxV ok w v r → RxV ok' w v' r →
  Calls Try.prog 7 #[v, v'] w fun e w' => e = .returned (.bool true) ∧ Fr none_ w w'

set_option maxRecDepth 100000 in
set_option maxHeartbeats 4000000 in
theorem refsame3_step (k : Int) (b0 b1 b2 b3 : Nat) (kids : List Rx) (hk1 : kids.length ≤ 1000) (hsub : ∀ r ∈ kids, RSameC r) : RSameC (.mk k b0 b1 b2 b3 kids) := by
  intro v v' w ok ok' hv hv'
  obtain ⟨a, cap, rfl, hc, hl⟩ := hv.open_
  obtain ⟨a', cap', rfl, hc', hl'⟩ := hv'.open_
  have HL := Lib.hid hl
  have HL' := Lib.hid hl'
  have HS := Lib.hid hsub
  have s1 : (w.alloc (.cells #[.int .i64 k, .int .u64 b0, .int .u64 b1, .int .u64 b2, .int .u64 b3, .slice a kids.length cap] 28)).heap.size = w.heap.size + 1 := by simp
  have F1 := (Fr.refl none_ (w.alloc (.cells #[.int .i64 k, .int .u64 b0, .int .u64 b1, .int .u64 b2, .int .u64 b3, .slice a kids.length cap] 28))).alloc (.cells #[.int .i64 k, .int .u64 b0, .int .u64 b1, .int .u64 b2, .int .u64 b3, .slice a' kids.length cap'] 28)
  have N0 := F1.at_ (alloc_new w (.cells #[.int .i64 k, .int .u64 b0, .int .u64 b1, .int .u64 b2, .int .u64 b3, .slice a kids.length cap] 28)) (fun h => h)
  have N1 := alloc_new (w.alloc (.cells #[.int .i64 k, .int .u64 b0, .int .u64 b1, .int .u64 b2, .int .u64 b3, .slice a kids.length cap] 28)) (.cells #[.int .i64 k, .int .u64 b0, .int .u64 b1, .int .u64 b2, .int .u64 b3, .slice a' kids.length cap'] 28)
  rw [s1] at N1
  have F0 := Lib.hid (((Fr.refl none_ w).alloc (.cells #[.int .i64 k, .int .u64 b0, .int .u64 b1, .int .u64 b2, .int .u64 b3, .slice a kids.length cap] 28)).alloc (.cells #[.int .i64 k, .int .u64 b0, .int .u64 b1, .int .u64 b2, .int .u64 b3, .slice a' kids.length cap'] 28))
  obtain ⟨z0, z1, z2, z3, z4, z5⟩ := six N0
  obtain ⟨y0, y1, y2, y3, y4, y5⟩ := six N1
  have HN0 := Lib.hid N0
  have HN1 := Lib.hid N1
  clear hv hv' hl hl' hsub s1 F1 N0 N1
  have kn := fun (w : World) => neq_same4 [b0, b1, b2, b3] rfl w
  simp only [u64V, List.map_cons, List.map_nil] at kn
  go_enter Try.func7, Try.ntmps7
  go_wp2_with fail
  clear z0 z1 z2 z3 z4 z5 y0 y1 y2 y3 y4 y5 kn
  obtain ⟨w1, hw1⟩ : ∃ x, (w.alloc (.cells #[.int .i64 k, .int .u64 b0, .int .u64 b1, .int .u64 b2, .int .u64 b3, .slice a kids.length cap] 28)).alloc (.cells #[.int .i64 k, .int .u64 b0, .int .u64 b1, .int .u64 b2, .int .u64 b3, .slice a' kids.length cap'] 28) = x := ⟨_, rfl⟩
  rw [hw1] at F0 HN0 HN1 ⊢
  clear hw1
  go_loopw [5] (fun x5 wr => ∃ i : Nat, i ≤ kids.length ∧ x5 = .int .i64 i ∧ Aside (Fr none_ w1 wr)) (fun x5 _ => kids.length - (intOf x5).toNat)
  case atStart => exact ⟨0, Nat.zero_le _, rfl, Fr.refl _ _⟩
  case round =>
    obtain ⟨i, hi, rfl, hfr⟩ := hrel
    have HF := Lib.hid hfr.out
    clear hfr
    have z5 : wr.cell? ⟨w.heap.size, 5, none⟩ = some (.slice a kids.length cap) := cell_of_block (HF.out.at_ HN0.out (fun h => h)) rfl
    have y5 : wr.cell? ⟨w.heap.size + 1, 5, none⟩ = some (.slice a' kids.length cap') := cell_of_block (HF.out.at_ HN1.out (fun h => h)) rfl
    by_cases hlt : i < kids.length
    · have hlt' : (i : Int) < (kids.length : Int) := by omega
      have hi0I : (0 : Int) ≤ (i : Int) := by omega
      obtain ⟨⟨c, x0, x1, x2, x3, ks⟩, hki⟩ : ∃ r, kids[i]? = some r := ⟨kids[i]'hlt, List.getElem?_eq_getElem hlt⟩
      obtain ⟨ad, u', ucap, rfl, _, c0, c1, c2, c3, c4, c5, hcu, hlu⟩ := (RxL.move (fun k _ hlt => (F0.out.tr HF.out).block k hlt (fun h => h)) kids a 0 HL.out).elem hki
      obtain ⟨ad2, t', tcap, rfl, _, d0, d1, d2, d3, d4, d5, hct, hlt2⟩ := (RxL.move (fun k _ hlt => (F0.out.tr HF.out).block k hlt (fun h => h)) kids a' 0 HL'.out).elem hki
      have HU := Lib.hid (RxL.move (w' := wr.drew) (fun i _ hlt => ((Fr.refl none_ wr).drew).block i hlt (fun h => h)) ks u' 0 hlu)
      have HT := Lib.hid (RxL.move (w' := wr.drew) (fun i _ hlt => ((Fr.refl none_ wr).drew).block i hlt (fun h => h)) ks t' 0 hlt2)
      have HK := Lib.hid (HS.out _ (List.mem_of_getElem? hki))
      clear hlu hlt2 hki
      go_wp2_with fail
      refine wp_region_held_drew (S := (fun w' => w'.cell? ⟨w.heap.size, 5, none⟩ = some (.slice (some ad) kids.length cap) ∧ w'.cell? ⟨w.heap.size + 1, 5, none⟩ = some (.slice (some ad2) kids.length cap') ∧ w'.cell? (ad.add (i * 6)) = some (.int .i64 c) ∧ w'.cell? ⟨(ad.add (i * 6)).block, (ad.add (i * 6)).off + 1, none⟩ = some (.int .u64 (x0 : Int)) ∧ w'.cell? ⟨(ad.add (i * 6)).block, (ad.add (i * 6)).off + 2, none⟩ = some (.int .u64 (x1 : Int)) ∧ w'.cell? ⟨(ad.add (i * 6)).block, (ad.add (i * 6)).off + 3, none⟩ = some (.int .u64 (x2 : Int)) ∧ w'.cell? ⟨(ad.add (i * 6)).block, (ad.add (i * 6)).off + 4, none⟩ = some (.int .u64 (x3 : Int)) ∧ w'.cell? ⟨(ad.add (i * 6)).block, (ad.add (i * 6)).off + 5, none⟩ = some (.slice u' ks.length ucap) ∧ w'.cell? (ad2.add (i * 6)) = some (.int .i64 c) ∧ w'.cell? ⟨(ad2.add (i * 6)).block, (ad2.add (i * 6)).off + 1, none⟩ = some (.int .u64 (x0 : Int)) ∧ w'.cell? ⟨(ad2.add (i * 6)).block, (ad2.add (i * 6)).off + 2, none⟩ = some (.int .u64 (x1 : Int)) ∧ w'.cell? ⟨(ad2.add (i * 6)).block, (ad2.add (i * 6)).off + 3, none⟩ = some (.int .u64 (x2 : Int)) ∧ w'.cell? ⟨(ad2.add (i * 6)).block, (ad2.add (i * 6)).off + 4, none⟩ = some (.int .u64 (x3 : Int)) ∧ w'.cell? ⟨(ad2.add (i * 6)).block, (ad2.add (i * 6)).off + 5, none⟩ = some (.slice t' ks.length tcap))) (by kernel_rfl) ⟨z5, y5, c0, c1, c2, c3, c4, c5, d0, d1, d2, d3, d4, d5⟩ (fun hHeld => ?_)
      refine wpAnyH_take (i := 0) (v := ?_) ulit0 (by kernel_rfl) (by kernel_rfl) (by kernel_rfl) (fun _ _ _ h => h) (Or.inl ⟨by rfl, ?_⟩) (by assumption) ?_
      rotate_left
      · (intro w hSw; (try dsimp only at hSw); go_simp) <;> with_reducible rfl
      try simp only [Act.put, List.setIfInBounds_toArray, List.set_cons_zero, List.set_cons_succ]
      refine wpAnyH_take (i := 1) (v := ?_) ulit1 (by kernel_rfl) (by kernel_rfl) (by kernel_rfl) (fun _ _ _ h => h) (Or.inl ⟨by rfl, ?_⟩) (by assumption) ?_
      rotate_left
      · (intro w hSw; (try dsimp only at hSw); go_simp) <;> with_reducible rfl
      try simp only [Act.put, List.setIfInBounds_toArray, List.set_cons_zero, List.set_cons_succ]
      refine wpAnyH_take (i := 2) (v := ?_) ulit2 (by kernel_rfl) (by kernel_rfl) (by kernel_rfl) (fun _ _ _ h => h) (Or.inl ⟨by rfl, ?_⟩) (by assumption) ?_
      rotate_left
      · (intro w hSw; (try dsimp only at hSw); go_simp) <;> with_reducible rfl
      try simp only [Act.put, List.setIfInBounds_toArray, List.set_cons_zero, List.set_cons_succ]
      refine wpAnyH_take (i := 3) (v := ?_) ulit3 (by kernel_rfl) (by kernel_rfl) (by kernel_rfl) (fun _ _ _ h => h) (Or.inl ⟨by rfl, ?_⟩) (by assumption) ?_
      rotate_left
      · (intro w hSw; (try dsimp only at hSw); go_simp) <;> with_reducible rfl
      try simp only [Act.put, List.setIfInBounds_toArray, List.set_cons_zero, List.set_cons_succ]
      refine wpAnyH_take (i := 4) (v := ?_) ulit4 (by kernel_rfl) (by kernel_rfl) (by kernel_rfl) (fun _ _ _ h => h) (Or.inl ⟨by rfl, ?_⟩) (by assumption) ?_
      rotate_left
      · (intro w hSw; (try dsimp only at hSw); go_simp) <;> with_reducible rfl
      try simp only [Act.put, List.setIfInBounds_toArray, List.set_cons_zero, List.set_cons_succ]
      refine wpAnyH_take (i := 5) (v := ?_) ulit5 (by kernel_rfl) (by kernel_rfl) (by kernel_rfl) (fun _ _ _ h => h) (Or.inl ⟨by rfl, ?_⟩) (by assumption) ?_
      rotate_left
      · (intro w hSw; (try dsimp only at hSw); go_simp) <;> with_reducible rfl
      try simp only [Act.put, List.setIfInBounds_toArray, List.set_cons_zero, List.set_cons_succ]
      refine wpAnyH_take (i := 6) (v := ?_) ulit6 (by kernel_rfl) (by kernel_rfl) (by kernel_rfl) (fun _ _ _ h => h) (Or.inl ⟨by rfl, ?_⟩) (by assumption) ?_
      rotate_left
      · (intro w hSw; (try dsimp only at hSw); go_simp) <;> with_reducible rfl
      try simp only [Act.put, List.setIfInBounds_toArray, List.set_cons_zero, List.set_cons_succ]
      refine wpAnyH_take (i := 7) (v := ?_) ulit7 (by kernel_rfl) (by kernel_rfl) (by kernel_rfl) (fun _ _ _ h => h) (Or.inl ⟨by rfl, ?_⟩) (by assumption) ?_
      rotate_left
      · (intro w hSw; (try dsimp only at hSw); go_simp) <;> with_reducible rfl
      try simp only [Act.put, List.setIfInBounds_toArray, List.set_cons_zero, List.set_cons_succ]
      refine wpAnyH_take (i := 8) (v := ?_) ulit8 (by kernel_rfl) (by kernel_rfl) (by kernel_rfl) (fun _ _ _ h => h) (Or.inl ⟨by rfl, ?_⟩) (by assumption) ?_
      rotate_left
      · (intro w hSw; (try dsimp only at hSw); go_simp) <;> with_reducible rfl
      try simp only [Act.put, List.setIfInBounds_toArray, List.set_cons_zero, List.set_cons_succ]
      refine wpAnyH_take (i := 9) (v := ?_) ulit9 (by kernel_rfl) (by kernel_rfl) (by kernel_rfl) (fun _ _ _ h => h) (Or.inl ⟨by rfl, ?_⟩) (by assumption) ?_
      rotate_left
      · (intro w hSw; (try dsimp only at hSw); go_simp) <;> with_reducible rfl
      try simp only [Act.put, List.setIfInBounds_toArray, List.set_cons_zero, List.set_cons_succ]
      refine wpAnyH_ready (rs := [10]) (by kernel_rfl) (by simp) ?_
      refine AllReadyH.cons ulit10 (fun K hK => ?_) AllReadyH.nil
      go_simp
      go_at_call 7
      refine (HK.out _ _ _ ok ok' (RxV.mk_ hcu HU.out) (RxV.mk_ hct HT.out)).mono ?_
      rintro e wx ⟨rfl, Fx⟩
      have HX := Lib.hid ((HF.out.drew).tr Fx)
      have v0 := Fx.cell z5 (fun h => h)
      have v1 := Fx.cell y5 (fun h => h)
      have p0 := Fx.cell c0 (fun h => h)
      have p1 := Fx.cell c1 (fun h => h)
      have p2 := Fx.cell c2 (fun h => h)
      have p3 := Fx.cell c3 (fun h => h)
      have p4 := Fx.cell c4 (fun h => h)
      have p5 := Fx.cell c5 (fun h => h)
      have r0 := Fx.cell d0 (fun h => h)
      have r1 := Fx.cell d1 (fun h => h)
      have r2 := Fx.cell d2 (fun h => h)
      have r3 := Fx.cell d3 (fun h => h)
      have r4 := Fx.cell d4 (fun h => h)
      have r5 := Fx.cell d5 (fun h => h)
      clear Fx
      refine hK.out _ _ ⟨v0, v1, p0, p1, p2, p3, p4, p5, r0, r1, r2, r3, r4, r5⟩ (fun hHeld => ?_)
      clear hK K
      try simp only [Act.put, List.setIfInBounds_toArray, List.set_cons_zero, List.set_cons_succ]
      refine wpAnyH_take (i := 11) (v := ?_) ulit11 (by kernel_rfl) (by kernel_rfl) (by kernel_rfl) (fun _ _ _ h => h) (Or.inl ⟨by rfl, ?_⟩) (by assumption) ?_
      rotate_left
      · (intro w hSw; (try dsimp only at hSw); go_simp) <;> with_reducible rfl
      try simp only [Act.put, List.setIfInBounds_toArray, List.set_cons_zero, List.set_cons_succ]
      refine wpAnyH_done (by kernel_rfl) ?_ _
      go_wp2_with fail
      go_roundw
      case rel => exact ⟨i + 1, by omega, by go_num, HX.out⟩
      case measure => first | (simp [intOf]; done) | (simp [intOf]; omega)
    · obtain rfl : i = kids.length := by omega
      go_wp2_with fail
      go_ret
      exact ⟨rfl, F0.out.tr HF.out⟩

theorem refsame3_all (n : Nat) : ∀ r : Rx, r.size ≤ n → r.size ≤ 1000 → RSameC r := by
  induction n with
  | zero => intro r hn; have := r.size_pos; omega
  | succ n ih =>
    rintro ⟨k, b0, b1, b2, b3, kids⟩ hn h1
    have hsz : Rx.sizes kids ≤ 1000 := by simp only [Rx.size] at h1; omega
    have hk1 : kids.length ≤ 1000 := Nat.le_trans (Rx.length_le kids) hsz
    refine refsame3_step k b0 b1 b2 b3 kids hk1 (fun r hr => ?_)
    obtain ⟨i, hi⟩ := List.getElem?_of_mem hr
    have h2 := Rx.sizes_take_succ kids i r hi
    have h3 := Rx.sizes_le kids (i + 1)
    have h4 : 1 + Rx.sizes kids ≤ n + 1 := by simpa only [Rx.size] using hn
    exact ih r (by omega) (by omega)
end Go.Proofs.Ytjbmppbciiemkaa

namespace Go.Proofs.Ytjbmppbciiemkaa set_option linter.unusedVariables false set_option linter.unusedSimpArgs false
open Go.RowKit

theorem vlit0 {α : Type} {x0 : α} {l : List α} : (x0 :: l).toArray[0]? = some x0 := rfl
theorem vlit1 {α : Type} {x0 x1 : α} {l : List α} : (x0 :: x1 :: l).toArray[1]? = some x1 := rfl
theorem vlit2 {α : Type} {x0 x1 x2 : α} {l : List α} : (x0 :: x1 :: x2 :: l).toArray[2]? = some x2 := rfl
theorem vlit3 {α : Type} {x0 x1 x2 x3 : α} {l : List α} : (x0 :: x1 :: x2 :: x3 :: l).toArray[3]? = some x3 := rfl
theorem vlit4 {α : Type} {x0 x1 x2 x3 x4 : α} {l : List α} : (x0 :: x1 :: x2 :: x3 :: x4 :: l).toArray[4]? = some x4 := rfl
theorem vlit5 {α : Type} {x0 x1 x2 x3 x4 x5 : α} {l : List α} : (x0 :: x1 :: x2 :: x3 :: x4 :: x5 :: l).toArray[5]? = some x5 := rfl
theorem vlit6 {α : Type} {x0 x1 x2 x3 x4 x5 x6 : α} {l : List α} : (x0 :: x1 :: x2 :: x3 :: x4 :: x5 :: x6 :: l).toArray[6]? = some x6 := rfl
theorem vlit7 {α : Type} {x0 x1 x2 x3 x4 x5 x6 x7 : α} {l : List α} : (x0 :: x1 :: x2 :: x3 :: x4 :: x5 :: x6 :: x7 :: l).toArray[7]? = some x7 := rfl
theorem vlit8 {α : Type} {x0 x1 x2 x3 x4 x5 x6 x7 x8 : α} {l : List α} : (x0 :: x1 :: x2 :: x3 :: x4 :: x5 :: x6 :: x7 :: x8 :: l).toArray[8]? = some x8 := rfl
theorem vlit9 {α : Type} {x0 x1 x2 x3 x4 x5 x6 x7 x8 x9 : α} {l : List α} : (x0 :: x1 :: x2 :: x3 :: x4 :: x5 :: x6 :: x7 :: x8 :: x9 :: l).toArray[9]? = some x9 := rfl
theorem vlit10 {α : Type} {x0 x1 x2 x3 x4 x5 x6 x7 x8 x9 x10 : α} {l : List α} : (x0 :: x1 :: x2 :: x3 :: x4 :: x5 :: x6 :: x7 :: x8 :: x9 :: x10 :: l).toArray[10]? = some x10 := rfl
theorem vlit11 {α : Type} {x0 x1 x2 x3 x4 x5 x6 x7 x8 x9 x10 x11 : α} {l : List α} : (x0 :: x1 :: x2 :: x3 :: x4 :: x5 :: x6 :: x7 :: x8 :: x9 :: x10 :: x11 :: l).toArray[11]? = some x11 := rfl
theorem vlit12 {α : Type} {x0 x1 x2 x3 x4 x5 x6 x7 x8 x9 x10 x11 x12 : α} {l : List α} : (x0 :: x1 :: x2 :: x3 :: x4 :: x5 :: x6 :: x7 :: x8 :: x9 :: x10 :: x11 :: x12 :: l).toArray[12]? = some x12 := rfl
theorem vlit13 {α : Type} {x0 x1 x2 x3 x4 x5 x6 x7 x8 x9 x10 x11 x12 x13 : α} {l : List α} : (x0 :: x1 :: x2 :: x3 :: x4 :: x5 :: x6 :: x7 :: x8 :: x9 :: x10 :: x11 :: x12 :: x13 :: l).toArray[13]? = some x13 := rfl
theorem vlit14 {α : Type} {x0 x1 x2 x3 x4 x5 x6 x7 x8 x9 x10 x11 x12 x13 x14 : α} {l : List α} : (x0 :: x1 :: x2 :: x3 :: x4 :: x5 :: x6 :: x7 :: x8 :: x9 :: x10 :: x11 :: x12 :: x13 :: x14 :: l).toArray[14]? = some x14 := rfl
theorem vlit15 {α : Type} {x0 x1 x2 x3 x4 x5 x6 x7 x8 x9 x10 x11 x12 x13 x14 x15 : α} {l : List α} : (x0 :: x1 :: x2 :: x3 :: x4 :: x5 :: x6 :: x7 :: x8 :: x9 :: x10 :: x11 :: x12 :: x13 :: x14 :: x15 :: l).toArray[15]? = some x15 := rfl
theorem vlit16 {α : Type} {x0 x1 x2 x3 x4 x5 x6 x7 x8 x9 x10 x11 x12 x13 x14 x15 x16 : α} {l : List α} : (x0 :: x1 :: x2 :: x3 :: x4 :: x5 :: x6 :: x7 :: x8 :: x9 :: x10 :: x11 :: x12 :: x13 :: x14 :: x15 :: x16 :: l).toArray[16]? = some x16 := rfl
theorem vlit17 {α : Type} {x0 x1 x2 x3 x4 x5 x6 x7 x8 x9 x10 x11 x12 x13 x14 x15 x16 x17 : α} {l : List α} : (x0 :: x1 :: x2 :: x3 :: x4 :: x5 :: x6 :: x7 :: x8 :: x9 :: x10 :: x11 :: x12 :: x13 :: x14 :: x15 :: x16 :: x17 :: l).toArray[17]? = some x17 := rfl
theorem vlit18 {α : Type} {x0 x1 x2 x3 x4 x5 x6 x7 x8 x9 x10 x11 x12 x13 x14 x15 x16 x17 x18 : α} {l : List α} : (x0 :: x1 :: x2 :: x3 :: x4 :: x5 :: x6 :: x7 :: x8 :: x9 :: x10 :: x11 :: x12 :: x13 :: x14 :: x15 :: x16 :: x17 :: x18 :: l).toArray[18]? = some x18 := rfl
theorem vlit19 {α : Type} {x0 x1 x2 x3 x4 x5 x6 x7 x8 x9 x10 x11 x12 x13 x14 x15 x16 x17 x18 x19 : α} {l : List α} : (x0 :: x1 :: x2 :: x3 :: x4 :: x5 :: x6 :: x7 :: x8 :: x9 :: x10 :: x11 :: x12 :: x13 :: x14 :: x15 :: x16 :: x17 :: x18 :: x19 :: l).toArray[19]? = some x19 := rfl
theorem vlit20 {α : Type} {x0 x1 x2 x3 x4 x5 x6 x7 x8 x9 x10 x11 x12 x13 x14 x15 x16 x17 x18 x19 x20 : α} {l : List α} : (x0 :: x1 :: x2 :: x3 :: x4 :: x5 :: x6 :: x7 :: x8 :: x9 :: x10 :: x11 :: x12 :: x13 :: x14 :: x15 :: x16 :: x17 :: x18 :: x19 :: x20 :: l).toArray[20]? = some x20 := rfl
theorem vlit21 {α : Type} {x0 x1 x2 x3 x4 x5 x6 x7 x8 x9 x10 x11 x12 x13 x14 x15 x16 x17 x18 x19 x20 x21 : α} {l : List α} : (x0 :: x1 :: x2 :: x3 :: x4 :: x5 :: x6 :: x7 :: x8 :: x9 :: x10 :: x11 :: x12 :: x13 :: x14 :: x15 :: x16 :: x17 :: x18 :: x19 :: x20 :: x21 :: l).toArray[21]? = some x21 := rfl
theorem vlit22 {α : Type} {x0 x1 x2 x3 x4 x5 x6 x7 x8 x9 x10 x11 x12 x13 x14 x15 x16 x17 x18 x19 x20 x21 x22 : α} {l : List α} : (x0 :: x1 :: x2 :: x3 :: x4 :: x5 :: x6 :: x7 :: x8 :: x9 :: x10 :: x11 :: x12 :: x13 :: x14 :: x15 :: x16 :: x17 :: x18 :: x19 :: x20 :: x21 :: x22 :: l).toArray[22]? = some x22 := rfl
theorem vlit23 {α : Type} {x0 x1 x2 x3 x4 x5 x6 x7 x8 x9 x10 x11 x12 x13 x14 x15 x16 x17 x18 x19 x20 x21 x22 x23 : α} {l : List α} : (x0 :: x1 :: x2 :: x3 :: x4 :: x5 :: x6 :: x7 :: x8 :: x9 :: x10 :: x11 :: x12 :: x13 :: x14 :: x15 :: x16 :: x17 :: x18 :: x19 :: x20 :: x21 :: x22 :: x23 :: l).toArray[23]? = some x23 := rfl
theorem vlit24 {α : Type} {x0 x1 x2 x3 x4 x5 x6 x7 x8 x9 x10 x11 x12 x13 x14 x15 x16 x17 x18 x19 x20 x21 x22 x23 x24 : α} {l : List α} : (x0 :: x1 :: x2 :: x3 :: x4 :: x5 :: x6 :: x7 :: x8 :: x9 :: x10 :: x11 :: x12 :: x13 :: x14 :: x15 :: x16 :: x17 :: x18 :: x19 :: x20 :: x21 :: x22 :: x23 :: x24 :: l).toArray[24]? = some x24 := rfl
theorem vlit25 {α : Type} {x0 x1 x2 x3 x4 x5 x6 x7 x8 x9 x10 x11 x12 x13 x14 x15 x16 x17 x18 x19 x20 x21 x22 x23 x24 x25 : α} {l : List α} : (x0 :: x1 :: x2 :: x3 :: x4 :: x5 :: x6 :: x7 :: x8 :: x9 :: x10 :: x11 :: x12 :: x13 :: x14 :: x15 :: x16 :: x17 :: x18 :: x19 :: x20 :: x21 :: x22 :: x23 :: x24 :: x25 :: l).toArray[25]? = some x25 := rfl

theorem parseN_long {s : ByteArray} (h : 200 < s.size) : parseN s = 4 := by
  have : parseM s = .error 4 := by
    have hb := parseB_total s
    rw [parseB, if_pos h] at hb
    simpa using hb.symm
  simp [parseN, this]
set_option maxRecDepth 100000 in
set_option maxHeartbeats 4000000 in
theorem parses_far (s : ByteArray) (b : Int) (w : World) (hs : s.size ≤ 140737488351232) (h : 40 < s.size) :
    Calls Try.prog 3 #[.string s, .int .u8 b] w fun e w' => e = .returned (.bool true) ∧ Below w.heap.size w w' := by
  have h40 : (40 : Int) < (s.size : Int) := by omega
  by_cases h1 : 200 < s.size
  · have h1' : (200 : Int) < (s.size : Int) := by omega
    by_cases h2 : s.size < 300
    · have h2' : (s.size : Int) < 300 := by omega
      have hpn := parseN_long h1
      go_enter Try.func3, Try.ntmps3
      go_wp2_with fail
      refine (works3_any _).mono ?_
      rintro e w1 ⟨rfl, F1⟩
      have HF := Lib.hid F1
      clear F1
      go_wp2_with fail
      refine (parse_un s (by omega) _).mono ?_
      rintro e w2 ⟨v, rfl, hv, F2⟩
      rw [hpn]
      obtain ⟨r, hr⟩ : ∃ r, parseR s = r := ⟨_, rfl⟩
      rw [hr] at hv
      obtain ⟨c, x0, x1, x2, x3, ks⟩ := r
      obtain ⟨a8, p8, rfl, hc8, hl8⟩ := hv.open_
      have HG := Lib.hid ((HF.out.tr F2).alloc (.cells #[.int .i64 c, .int .u64 x0, .int .u64 x1, .int .u64 x2, .int .u64 x3, .slice a8 ks.length p8] 28))
      clear hv hl8 F2 hr
      go_wp2_with fail
      go_ret
      exact ⟨rfl, HG.out.below⟩
    · have h2' : (300 : Int) ≤ (s.size : Int) := by omega
      go_enter Try.func3, Try.ntmps3
      go_wp2_with fail
      refine (works3_any _).mono ?_
      rintro e w1 ⟨rfl, F1⟩
      have HF := Lib.hid F1
      clear F1
      go_wp2_with fail
      go_ret
      exact ⟨rfl, HF.out.below⟩
  · have h1' : (s.size : Int) ≤ 200 := by omega
    go_enter Try.func3, Try.ntmps3
    go_wp2_with fail
    refine (works3_any _).mono ?_
    rintro e w1 ⟨rfl, F1⟩
    have HF := Lib.hid F1
    clear F1
    go_wp2_with fail
    go_ret
    exact ⟨rfl, HF.out.below⟩

set_option maxRecDepth 100000 in
set_option maxHeartbeats 4000000 in
theorem parses_near (s : ByteArray) (b : Nat) (w : World) (hb : b < 256) (h : s.size ≤ 40) :
    Calls Try.prog 3 #[.string s, .int .u8 (b : Int)] w fun e w' => e = .returned (.bool true) ∧ Below w.heap.size w w' := by
  have h40 : (s.size : Int) ≤ 40 := by omega
  have h200 : (s.size : Int) ≤ 200 := by omega
  have hbI : (0 : Int) ≤ (b : Int) := by omega
  obtain ⟨pn, hpn⟩ : ∃ n, parseN s = n := ⟨_, rfl⟩
  obtain ⟨r, hr⟩ : ∃ r, parseR s = r := ⟨_, rfl⟩
  have hsz := parseR_size s
  have hfi := parseR_fine (s := s) (by omega)
  rw [hr] at hsz hfi
  have C1 := Lib.hid (parse_un s (by omega))
  have C2 := Lib.hid (rparse_any s (by omega))
  rw [hpn, hr] at C1 C2
  obtain ⟨c, x0, x1, x2, x3, ks⟩ := r
  have HSZ := Lib.hid (show (Rx.mk c x0 x1 x2 x3 ks).size ≤ 1000 by omega)
  have HFI := Lib.hid hfi
  clear hsz hfi hpn hr
  go_enter Try.func3, Try.ntmps3
  go_wp2_with fail
  refine (works3_any _).mono ?_
  rintro e w1 ⟨rfl, F1⟩
  have HF := Lib.hid F1
  clear F1
  go_wp2_with fail
  refine (C1.out _).mono ?_
  rintro e w2 ⟨v, rfl, hv, F2⟩
  obtain ⟨a8, p8, rfl, hc8, hl8⟩ := hv.open_
  have N8 := Lib.hid (alloc_new w2 (.cells #[.int .i64 c, .int .u64 x0, .int .u64 x1, .int .u64 x2, .int .u64 x3, .slice a8 ks.length p8] 28))
  have A8 := Lib.hid ((Fr.refl none_ w2).alloc (.cells #[.int .i64 c, .int .u64 x0, .int .u64 x1, .int .u64 x2, .int .u64 x3, .slice a8 ks.length p8] 28))
  have HG := Lib.hid ((HF.out.tr F2).alloc (.cells #[.int .i64 c, .int .u64 x0, .int .u64 x1, .int .u64 x2, .int .u64 x3, .slice a8 ks.length p8] 28))
  have HL8 := Lib.hid hl8
  clear hv hl8 F2
  go_wp2_with fail
  obtain ⟨g8, hg8⟩ : ∃ x, w2.heap.size = x := ⟨_, rfl⟩
  obtain ⟨w3, hw3⟩ : ∃ x, w2.alloc (.cells #[.int .i64 c, .int .u64 x0, .int .u64 x1, .int .u64 x2, .int .u64 x3, .slice a8 ks.length p8] 28) = x := ⟨_, rfl⟩
  rw [hg8, hw3] at N8
  rw [hw3] at A8 HG ⊢
  rw [hg8]
  clear hg8 hw3
  refine (C2.out _).mono ?_
  rintro e w4 ⟨v, rfl, hv, F4⟩
  obtain ⟨a10, p10, rfl, hc10, hl10⟩ := hv.open_
  have A10 := Lib.hid ((Fr.refl none_ w4).alloc (.cells #[.int .i64 c, .int .u64 x0, .int .u64 x1, .int .u64 x2, .int .u64 x3, .slice a10 ks.length p10] 28))
  have N10 := Lib.hid (alloc_new w4 (.cells #[.int .i64 c, .int .u64 x0, .int .u64 x1, .int .u64 x2, .int .u64 x3, .slice a10 ks.length p10] 28))
  have N8b := (F4.alloc (.cells #[.int .i64 c, .int .u64 x0, .int .u64 x1, .int .u64 x2, .int .u64 x3, .slice a10 ks.length p10] 28)).at_ N8.out (fun h => h)
  replace N8 := Lib.hid N8b
  have HL10 := Lib.hid (RxL.move (w' := w4.alloc (.cells #[.int .i64 c, .int .u64 x0, .int .u64 x1, .int .u64 x2, .int .u64 x3, .slice a10 ks.length p10] 28)) (fun i _ hlt => A10.out.block i hlt (fun h => h)) ks a10 0 hl10)
  replace HL8 := Lib.hid (RxL.move (w' := w4.alloc (.cells #[.int .i64 c, .int .u64 x0, .int .u64 x1, .int .u64 x2, .int .u64 x3, .slice a10 ks.length p10] 28)) (fun i _ hlt => ((A8.out.tr F4).tr A10.out).block i hlt (fun h => h)) ks a8 0 HL8.out)
  have HG0 := Lib.hid ((HG.out.tr F4).tr A10.out)
  obtain ⟨z0, z1, z2, z3, z4, z5⟩ := six N8.out
  obtain ⟨y0, y1, y2, y3, y4, y5⟩ := six N10.out
  clear hv hl10 F4 N8b A10 A8 HG
  go_wp2_with fail
  clear z0 z1 z2 z3 z4 z5 y0 y1 y2 y3 y4 y5
  obtain ⟨g10, hg10⟩ : ∃ x, w4.heap.size = x := ⟨_, rfl⟩
  obtain ⟨w5, hw5⟩ : ∃ x, w4.alloc (.cells #[.int .i64 c, .int .u64 x0, .int .u64 x1, .int .u64 x2, .int .u64 x3, .slice a10 ks.length p10] 28) = x := ⟨_, rfl⟩
  rw [hg10] at N10
  rw [hw5] at N8 N10 HL8 HL10 HG0 ⊢
  rw [hg10]
  clear hg10 hw5
  refine (refsame3_all 1000 (.mk c x0 x1 x2 x3 ks) HSZ.out HSZ.out _ _ _ (fun _ => True) (fun _ => True) (RxV.mk_ hc8 HL8.out) (RxV.mk_ hc10 HL10.out)).mono ?_
  rintro e w6 ⟨rfl, F6⟩
  have GG := Lib.hid F6.drew
  obtain ⟨z0, z1, z2, z3, z4, z5⟩ := six (F6.at_ N8.out (fun h => h))
  obtain ⟨y0, y1, y2, y3, y4, y5⟩ := six (F6.at_ N10.out (fun h => h))
  clear F6
  go_wp2_with fail
  refine wp_region_held_drew (S := (fun w' => w'.cell? ⟨g8, 0, none⟩ = some (.int .i64 c) ∧ w'.cell? ⟨g8, 1, none⟩ = some (.int .u64 (x0 : Int)) ∧ w'.cell? ⟨g8, 2, none⟩ = some (.int .u64 (x1 : Int)) ∧ w'.cell? ⟨g8, 3, none⟩ = some (.int .u64 (x2 : Int)) ∧ w'.cell? ⟨g8, 4, none⟩ = some (.int .u64 (x3 : Int)) ∧ w'.cell? ⟨g8, 5, none⟩ = some (.slice a8 ks.length p8) ∧ w'.cell? ⟨g10, 0, none⟩ = some (.int .i64 c) ∧ w'.cell? ⟨g10, 1, none⟩ = some (.int .u64 (x0 : Int)) ∧ w'.cell? ⟨g10, 2, none⟩ = some (.int .u64 (x1 : Int)) ∧ w'.cell? ⟨g10, 3, none⟩ = some (.int .u64 (x2 : Int)) ∧ w'.cell? ⟨g10, 4, none⟩ = some (.int .u64 (x3 : Int)) ∧ w'.cell? ⟨g10, 5, none⟩ = some (.slice a10 ks.length p10))) (by kernel_rfl) ⟨z0, z1, z2, z3, z4, z5, y0, y1, y2, y3, y4, y5⟩ (fun hHeld => ?_)
  refine wpAnyH_take (i := 0) (v := ?_) vlit0 (by kernel_rfl) (by kernel_rfl) (by kernel_rfl) (fun _ _ _ h => h) (Or.inl ⟨by rfl, ?_⟩) (by assumption) ?_
  rotate_left
  · (intro w hSw; (try dsimp only at hSw); go_simp) <;> with_reducible rfl
  try simp only [Act.put, List.setIfInBounds_toArray, List.set_cons_zero, List.set_cons_succ]
  refine wpAnyH_take (i := 1) (v := ?_) vlit1 (by kernel_rfl) (by kernel_rfl) (by kernel_rfl) (fun _ _ _ h => h) (Or.inl ⟨by rfl, ?_⟩) (by assumption) ?_
  rotate_left
  · (intro w hSw; (try dsimp only at hSw); go_simp) <;> with_reducible rfl
  try simp only [Act.put, List.setIfInBounds_toArray, List.set_cons_zero, List.set_cons_succ]
  refine wpAnyH_take (i := 2) (v := ?_) vlit2 (by kernel_rfl) (by kernel_rfl) (by kernel_rfl) (fun _ _ _ h => h) (Or.inl ⟨by rfl, ?_⟩) (by assumption) ?_
  rotate_left
  · (intro w hSw; (try dsimp only at hSw); go_simp) <;> with_reducible rfl
  try simp only [Act.put, List.setIfInBounds_toArray, List.set_cons_zero, List.set_cons_succ]
  refine wpAnyH_take (i := 3) (v := ?_) vlit3 (by kernel_rfl) (by kernel_rfl) (by kernel_rfl) (fun _ _ _ h => h) (Or.inl ⟨by rfl, ?_⟩) (by assumption) ?_
  rotate_left
  · (intro w hSw; (try dsimp only at hSw); go_simp) <;> with_reducible rfl
  try simp only [Act.put, List.setIfInBounds_toArray, List.set_cons_zero, List.set_cons_succ]
  refine wpAnyH_take (i := 4) (v := ?_) vlit4 (by kernel_rfl) (by kernel_rfl) (by kernel_rfl) (fun _ _ _ h => h) (Or.inl ⟨by rfl, ?_⟩) (by assumption) ?_
  rotate_left
  · (intro w hSw; (try dsimp only at hSw); go_simp) <;> with_reducible rfl
  try simp only [Act.put, List.setIfInBounds_toArray, List.set_cons_zero, List.set_cons_succ]
  refine wpAnyH_take (i := 5) (v := ?_) vlit5 (by kernel_rfl) (by kernel_rfl) (by kernel_rfl) (fun _ _ _ h => h) (Or.inl ⟨by rfl, ?_⟩) (by assumption) ?_
  rotate_left
  · (intro w hSw; (try dsimp only at hSw); go_simp) <;> with_reducible rfl
  try simp only [Act.put, List.setIfInBounds_toArray, List.set_cons_zero, List.set_cons_succ]
  refine wpAnyH_take (i := 6) (v := ?_) vlit6 (by kernel_rfl) (by kernel_rfl) (by kernel_rfl) (fun _ _ _ h => h) (Or.inl ⟨by rfl, ?_⟩) (by assumption) ?_
  rotate_left
  · (intro w hSw; (try dsimp only at hSw); go_simp) <;> with_reducible rfl
  try simp only [Act.put, List.setIfInBounds_toArray, List.set_cons_zero, List.set_cons_succ]
  refine wpAnyH_take (i := 7) (v := ?_) vlit7 (by kernel_rfl) (by kernel_rfl) (by kernel_rfl) (fun _ _ _ h => h) (Or.inl ⟨by rfl, ?_⟩) (by assumption) ?_
  rotate_left
  · (intro w hSw; (try dsimp only at hSw); go_simp) <;> with_reducible rfl
  try simp only [Act.put, List.setIfInBounds_toArray, List.set_cons_zero, List.set_cons_succ]
  refine wpAnyH_take (i := 8) (v := ?_) vlit8 (by kernel_rfl) (by kernel_rfl) (by kernel_rfl) (fun _ _ _ h => h) (Or.inl ⟨by rfl, ?_⟩) (by assumption) ?_
  rotate_left
  · (intro w hSw; (try dsimp only at hSw); go_simp) <;> with_reducible rfl
  try simp only [Act.put, List.setIfInBounds_toArray, List.set_cons_zero, List.set_cons_succ]
  refine wpAnyH_take (i := 9) (v := ?_) vlit9 (by kernel_rfl) (by kernel_rfl) (by kernel_rfl) (fun _ _ _ h => h) (Or.inl ⟨by rfl, ?_⟩) (by assumption) ?_
  rotate_left
  · (intro w hSw; (try dsimp only at hSw); go_simp) <;> with_reducible rfl
  try simp only [Act.put, List.setIfInBounds_toArray, List.set_cons_zero, List.set_cons_succ]
  refine wpAnyH_take (i := 10) (v := ?_) vlit10 (by kernel_rfl) (by kernel_rfl) (by kernel_rfl) (fun _ _ _ h => h) (Or.inl ⟨by rfl, ?_⟩) (by assumption) ?_
  rotate_left
  · (intro w hSw; (try dsimp only at hSw); go_simp) <;> with_reducible rfl
  try simp only [Act.put, List.setIfInBounds_toArray, List.set_cons_zero, List.set_cons_succ]
  refine wpAnyH_take (i := 12) (v := ?_) vlit12 (by kernel_rfl) (by kernel_rfl) (by kernel_rfl) (fun _ _ _ h => h) (Or.inl ⟨by rfl, ?_⟩) (by assumption) ?_
  rotate_left
  · (intro w hSw; (try dsimp only at hSw); go_simp) <;> with_reducible rfl
  try simp only [Act.put, List.setIfInBounds_toArray, List.set_cons_zero, List.set_cons_succ]
  refine wpAnyH_ready (rs := [11]) (by kernel_rfl) (by simp) ?_
  refine AllReadyH.cons vlit11 (fun K hK => ?_) AllReadyH.nil
  go_simp
  go_at_call 8
  refine (show_any (.mk c x0 x1 x2 x3 ks) _ (fun _ => True) _ HSZ.out (RxV.mk_ hc8 (RxL.move (fun i _ hlt => GG.out.block i hlt (fun h => h)) ks a8 0 HL8.out))).mono ?_
  rintro e wx ⟨rfl, Fx⟩
  have GX := Lib.hid (GG.out.tr Fx)
  clear GG
  obtain ⟨z0, z1, z2, z3, z4, z5⟩ := six (GX.out.at_ N8.out (fun h => h))
  obtain ⟨y0, y1, y2, y3, y4, y5⟩ := six (GX.out.at_ N10.out (fun h => h))
  clear Fx
  obtain ⟨wn, hwn⟩ : ∃ x, x = wx := ⟨_, rfl⟩
  have GG := GX
  clear GX
  refine hK.out _ _ ⟨z0, z1, z2, z3, z4, z5, y0, y1, y2, y3, y4, y5⟩ (fun hHeld => ?_)
  clear hK K
  try simp only [Act.put, List.setIfInBounds_toArray, List.set_cons_zero, List.set_cons_succ]
  refine wpAnyH_ready (rs := [13]) (by kernel_rfl) (by simp) ?_
  refine AllReadyH.cons vlit13 (fun K hK => ?_) AllReadyH.nil
  go_simp
  go_at_call 9
  refine (refshow_all 1000 (.mk c x0 x1 x2 x3 ks) HSZ.out HSZ.out _ _ (fun _ => True) (RxV.mk_ hc10 (RxL.move (fun i _ hlt => GG.out.block i hlt (fun h => h)) ks a10 0 HL10.out)) HFI.out).mono ?_
  rintro e wx ⟨rfl, Fx⟩
  have GX := Lib.hid (GG.out.tr Fx)
  clear GG
  obtain ⟨z0, z1, z2, z3, z4, z5⟩ := six (GX.out.at_ N8.out (fun h => h))
  obtain ⟨y0, y1, y2, y3, y4, y5⟩ := six (GX.out.at_ N10.out (fun h => h))
  clear Fx
  obtain ⟨wn, hwn⟩ : ∃ x, x = wx := ⟨_, rfl⟩
  have GG := GX
  clear GX
  refine hK.out _ _ ⟨z0, z1, z2, z3, z4, z5, y0, y1, y2, y3, y4, y5⟩ (fun hHeld => ?_)
  clear hK K
  try simp only [Act.put, List.setIfInBounds_toArray, List.set_cons_zero, List.set_cons_succ]
  refine wpAnyH_take (i := 14) (v := ?_) vlit14 (by kernel_rfl) (by kernel_rfl) (by kernel_rfl) (fun _ _ _ h => h) (Or.inl ⟨by rfl, ?_⟩) (by assumption) ?_
  rotate_left
  · (intro w hSw; (try dsimp only at hSw); go_simp) <;> with_reducible rfl
  try simp only [Act.put, List.setIfInBounds_toArray, List.set_cons_zero, List.set_cons_succ]
  refine wpAnyH_take (i := 15) (v := ?_) vlit15 (by kernel_rfl) (by kernel_rfl) (by kernel_rfl) (fun _ _ _ h => h) (Or.inl ⟨by rfl, ?_⟩) (by assumption) ?_
  rotate_left
  · (intro w hSw; (try dsimp only at hSw); go_simp) <;> with_reducible rfl
  try simp only [Act.put, List.setIfInBounds_toArray, List.set_cons_zero, List.set_cons_succ]
  refine wpAnyH_take (i := 16) (v := ?_) vlit16 (by kernel_rfl) (by kernel_rfl) (by kernel_rfl) (fun _ _ _ h => h) (Or.inl ⟨by rfl, ?_⟩) (by assumption) ?_
  rotate_left
  · (intro w hSw; (try dsimp only at hSw); go_simp) <;> with_reducible rfl
  try simp only [Act.put, List.setIfInBounds_toArray, List.set_cons_zero, List.set_cons_succ]
  refine wpAnyH_take (i := 17) (v := ?_) vlit17 (by kernel_rfl) (by kernel_rfl) (by kernel_rfl) (fun _ _ _ h => h) (Or.inl ⟨by rfl, ?_⟩) (by assumption) ?_
  rotate_left
  · (intro w hSw; (try dsimp only at hSw); go_simp) <;> with_reducible rfl
  try simp only [Act.put, List.setIfInBounds_toArray, List.set_cons_zero, List.set_cons_succ]
  refine wpAnyH_take (i := 18) (v := ?_) vlit18 (by kernel_rfl) (by kernel_rfl) (by kernel_rfl) (fun _ _ _ h => h) (Or.inl ⟨by rfl, ?_⟩) (by assumption) ?_
  rotate_left
  · (intro w hSw; (try dsimp only at hSw); go_simp) <;> with_reducible rfl
  try simp only [Act.put, List.setIfInBounds_toArray, List.set_cons_zero, List.set_cons_succ]
  refine wpAnyH_take (i := 20) (v := ?_) vlit20 (by kernel_rfl) (by kernel_rfl) (by kernel_rfl) (fun _ _ _ h => h) (Or.inl ⟨by rfl, ?_⟩) (by assumption) ?_
  rotate_left
  · (intro w hSw; (try dsimp only at hSw); go_simp) <;> with_reducible rfl
  try simp only [Act.put, List.setIfInBounds_toArray, List.set_cons_zero, List.set_cons_succ]
  refine wpAnyH_take (i := 21) (v := ?_) vlit21 (by kernel_rfl) (by kernel_rfl) (by kernel_rfl) (fun _ _ _ h => h) (Or.inl ⟨by rfl, ?_⟩) (by assumption) ?_
  rotate_left
  · (intro w hSw; (try dsimp only at hSw); go_simp) <;> with_reducible rfl
  try simp only [Act.put, List.setIfInBounds_toArray, List.set_cons_zero, List.set_cons_succ]
  refine wpAnyH_ready (rs := [19]) (by kernel_rfl) (by simp) ?_
  refine AllReadyH.cons vlit19 (fun K hK => ?_) AllReadyH.nil
  go_simp
  go_at_call 10
  refine (rhas_any (.mk c x0 x1 x2 x3 ks) b _ (fun _ => True) _ (RxV.mk_ hc8 (RxL.move (fun i _ hlt => GG.out.block i hlt (fun h => h)) ks a8 0 HL8.out)) hb).mono ?_
  rintro e wx ⟨rfl, Fx⟩
  have GX := Lib.hid (GG.out.tr Fx)
  clear GG
  obtain ⟨z0, z1, z2, z3, z4, z5⟩ := six (GX.out.at_ N8.out (fun h => h))
  obtain ⟨y0, y1, y2, y3, y4, y5⟩ := six (GX.out.at_ N10.out (fun h => h))
  clear Fx
  obtain ⟨wn, hwn⟩ : ∃ x, x = wx := ⟨_, rfl⟩
  have GG := GX
  clear GX
  refine hK.out _ _ ⟨z0, z1, z2, z3, z4, z5, y0, y1, y2, y3, y4, y5⟩ (fun hHeld => ?_)
  clear hK K
  try simp only [Act.put, List.setIfInBounds_toArray, List.set_cons_zero, List.set_cons_succ]
  refine wpAnyH_ready (rs := [22]) (by kernel_rfl) (by simp) ?_
  refine AllReadyH.cons vlit22 (fun K hK => ?_) AllReadyH.nil
  go_simp
  go_at_call 11
  refine (refhas3_any (.mk c x0 x1 x2 x3 ks) b _ (fun _ => True) _ (RxV.mk_ hc10 (RxL.move (fun i _ hlt => GG.out.block i hlt (fun h => h)) ks a10 0 HL10.out)) HFI.out hb).mono ?_
  rintro e wx ⟨rfl, Fx⟩
  have GX := Lib.hid (GG.out.tr Fx)
  clear GG
  obtain ⟨z0, z1, z2, z3, z4, z5⟩ := six (GX.out.at_ N8.out (fun h => h))
  obtain ⟨y0, y1, y2, y3, y4, y5⟩ := six (GX.out.at_ N10.out (fun h => h))
  clear Fx
  obtain ⟨wn, hwn⟩ : ∃ x, x = wx := ⟨_, rfl⟩
  have GG := GX
  clear GX
  refine hK.out _ _ ⟨z0, z1, z2, z3, z4, z5, y0, y1, y2, y3, y4, y5⟩ (fun hHeld => ?_)
  clear hK K
  try simp only [Act.put, List.setIfInBounds_toArray, List.set_cons_zero, List.set_cons_succ]
  refine wpAnyH_take (i := 23) (v := ?_) vlit23 (by kernel_rfl) (by kernel_rfl) (by kernel_rfl) (fun _ _ _ h => h) (Or.inl ⟨by rfl, ?_⟩) (by assumption) ?_
  rotate_left
  · (intro w hSw; (try dsimp only at hSw); go_simp) <;> with_reducible rfl
  try simp only [Act.put, List.setIfInBounds_toArray, List.set_cons_zero, List.set_cons_succ]
  refine wpAnyH_take (i := 24) (v := ?_) vlit24 (by kernel_rfl) (by kernel_rfl) (by kernel_rfl) (fun _ _ _ h => h) (Or.inl ⟨by rfl, ?_⟩) (by assumption) ?_
  rotate_left
  · (intro w hSw; (try dsimp only at hSw); go_simp) <;> with_reducible rfl
  try simp only [Act.put, List.setIfInBounds_toArray, List.set_cons_zero, List.set_cons_succ]
  refine wpAnyH_take (i := 25) (v := ?_) vlit25 (by kernel_rfl) (by kernel_rfl) (by kernel_rfl) (fun _ _ _ h => h) (Or.inl ⟨by rfl, ?_⟩) (by assumption) ?_
  rotate_left
  · (intro w hSw; (try dsimp only at hSw); go_simp) <;> with_reducible rfl
  try simp only [Act.put, List.setIfInBounds_toArray, List.set_cons_zero, List.set_cons_succ]
  refine wpAnyH_done (by kernel_rfl) ?_ _
  go_wp2_with fail
  go_ret
  exact ⟨rfl, (HG0.out.tr GG.out).below⟩

theorem parses_any (s : ByteArray) (b : Int) (w : World) (hs : s.size ≤ 140737488351232) (hb : 0 ≤ b ∧ b < 256) :
    Calls Try.prog 3 #[.string s, .int .u8 b] w fun e w' => e = .returned (.bool true) ∧ Below w.heap.size w w' := by
  by_cases h : 40 < s.size
  · exact parses_far s b w hs h
  · obtain ⟨n, rfl⟩ := Int.eq_ofNat_of_zero_le hb.1
    exact parses_near s n w (by omega) (by omega)
end Go.Proofs.Ytjbmppbciiemkaa
