/-
  The law RegexSigns: with a plus it is once, and then any number of times; with a question mark once, or not.
-/
import Derived.Test.YtgpmbkgedhcbjaaRg
namespace Go.Proofs.Ytgpmbkgedhcbjaa
open Go.RowKit

theorem lit0 {α : Type} {x0 : α} {l : List α} : (x0 :: l).toArray[0]? = some x0 := rfl
theorem lit1 {α : Type} {x0 x1 : α} {l : List α} : (x0 :: x1 :: l).toArray[1]? = some x1 := rfl
theorem lit2 {α : Type} {x0 x1 x2 : α} {l : List α} : (x0 :: x1 :: x2 :: l).toArray[2]? = some x2 := rfl
theorem lit3 {α : Type} {x0 x1 x2 x3 : α} {l : List α} : (x0 :: x1 :: x2 :: x3 :: l).toArray[3]? = some x3 := rfl
theorem lit4 {α : Type} {x0 x1 x2 x3 x4 : α} {l : List α} : (x0 :: x1 :: x2 :: x3 :: x4 :: l).toArray[4]? = some x4 := rfl
theorem lit5 {α : Type} {x0 x1 x2 x3 x4 x5 : α} {l : List α} : (x0 :: x1 :: x2 :: x3 :: x4 :: x5 :: l).toArray[5]? = some x5 := rfl
theorem lit6 {α : Type} {x0 x1 x2 x3 x4 x5 x6 : α} {l : List α} : (x0 :: x1 :: x2 :: x3 :: x4 :: x5 :: x6 :: l).toArray[6]? = some x6 := rfl
theorem lit7 {α : Type} {x0 x1 x2 x3 x4 x5 x6 x7 : α} {l : List α} : (x0 :: x1 :: x2 :: x3 :: x4 :: x5 :: x6 :: x7 :: l).toArray[7]? = some x7 := rfl
theorem lit8 {α : Type} {x0 x1 x2 x3 x4 x5 x6 x7 x8 : α} {l : List α} : (x0 :: x1 :: x2 :: x3 :: x4 :: x5 :: x6 :: x7 :: x8 :: l).toArray[8]? = some x8 := rfl
theorem lit9 {α : Type} {x0 x1 x2 x3 x4 x5 x6 x7 x8 x9 : α} {l : List α} : (x0 :: x1 :: x2 :: x3 :: x4 :: x5 :: x6 :: x7 :: x8 :: x9 :: l).toArray[9]? = some x9 := rfl
theorem lit10 {α : Type} {x0 x1 x2 x3 x4 x5 x6 x7 x8 x9 x10 : α} {l : List α} : (x0 :: x1 :: x2 :: x3 :: x4 :: x5 :: x6 :: x7 :: x8 :: x9 :: x10 :: l).toArray[10]? = some x10 := rfl
theorem lit11 {α : Type} {x0 x1 x2 x3 x4 x5 x6 x7 x8 x9 x10 x11 : α} {l : List α} : (x0 :: x1 :: x2 :: x3 :: x4 :: x5 :: x6 :: x7 :: x8 :: x9 :: x10 :: x11 :: l).toArray[11]? = some x11 := rfl
theorem lit12 {α : Type} {x0 x1 x2 x3 x4 x5 x6 x7 x8 x9 x10 x11 x12 : α} {l : List α} : (x0 :: x1 :: x2 :: x3 :: x4 :: x5 :: x6 :: x7 :: x8 :: x9 :: x10 :: x11 :: x12 :: l).toArray[12]? = some x12 := rfl
theorem lit13 {α : Type} {x0 x1 x2 x3 x4 x5 x6 x7 x8 x9 x10 x11 x12 x13 : α} {l : List α} : (x0 :: x1 :: x2 :: x3 :: x4 :: x5 :: x6 :: x7 :: x8 :: x9 :: x10 :: x11 :: x12 :: x13 :: l).toArray[13]? = some x13 := rfl
theorem lit14 {α : Type} {x0 x1 x2 x3 x4 x5 x6 x7 x8 x9 x10 x11 x12 x13 x14 : α} {l : List α} : (x0 :: x1 :: x2 :: x3 :: x4 :: x5 :: x6 :: x7 :: x8 :: x9 :: x10 :: x11 :: x12 :: x13 :: x14 :: l).toArray[14]? = some x14 := rfl
theorem lit15 {α : Type} {x0 x1 x2 x3 x4 x5 x6 x7 x8 x9 x10 x11 x12 x13 x14 x15 : α} {l : List α} : (x0 :: x1 :: x2 :: x3 :: x4 :: x5 :: x6 :: x7 :: x8 :: x9 :: x10 :: x11 :: x12 :: x13 :: x14 :: x15 :: l).toArray[15]? = some x15 := rfl
theorem lit16 {α : Type} {x0 x1 x2 x3 x4 x5 x6 x7 x8 x9 x10 x11 x12 x13 x14 x15 x16 : α} {l : List α} : (x0 :: x1 :: x2 :: x3 :: x4 :: x5 :: x6 :: x7 :: x8 :: x9 :: x10 :: x11 :: x12 :: x13 :: x14 :: x15 :: x16 :: l).toArray[16]? = some x16 := rfl
theorem lit17 {α : Type} {x0 x1 x2 x3 x4 x5 x6 x7 x8 x9 x10 x11 x12 x13 x14 x15 x16 x17 : α} {l : List α} : (x0 :: x1 :: x2 :: x3 :: x4 :: x5 :: x6 :: x7 :: x8 :: x9 :: x10 :: x11 :: x12 :: x13 :: x14 :: x15 :: x16 :: x17 :: l).toArray[17]? = some x17 := rfl
theorem lit18 {α : Type} {x0 x1 x2 x3 x4 x5 x6 x7 x8 x9 x10 x11 x12 x13 x14 x15 x16 x17 x18 : α} {l : List α} : (x0 :: x1 :: x2 :: x3 :: x4 :: x5 :: x6 :: x7 :: x8 :: x9 :: x10 :: x11 :: x12 :: x13 :: x14 :: x15 :: x16 :: x17 :: x18 :: l).toArray[18]? = some x18 := rfl
theorem lit19 {α : Type} {x0 x1 x2 x3 x4 x5 x6 x7 x8 x9 x10 x11 x12 x13 x14 x15 x16 x17 x18 x19 : α} {l : List α} : (x0 :: x1 :: x2 :: x3 :: x4 :: x5 :: x6 :: x7 :: x8 :: x9 :: x10 :: x11 :: x12 :: x13 :: x14 :: x15 :: x16 :: x17 :: x18 :: x19 :: l).toArray[19]? = some x19 := rfl
theorem lit20 {α : Type} {x0 x1 x2 x3 x4 x5 x6 x7 x8 x9 x10 x11 x12 x13 x14 x15 x16 x17 x18 x19 x20 : α} {l : List α} : (x0 :: x1 :: x2 :: x3 :: x4 :: x5 :: x6 :: x7 :: x8 :: x9 :: x10 :: x11 :: x12 :: x13 :: x14 :: x15 :: x16 :: x17 :: x18 :: x19 :: x20 :: l).toArray[20]? = some x20 := rfl
theorem lit21 {α : Type} {x0 x1 x2 x3 x4 x5 x6 x7 x8 x9 x10 x11 x12 x13 x14 x15 x16 x17 x18 x19 x20 x21 : α} {l : List α} : (x0 :: x1 :: x2 :: x3 :: x4 :: x5 :: x6 :: x7 :: x8 :: x9 :: x10 :: x11 :: x12 :: x13 :: x14 :: x15 :: x16 :: x17 :: x18 :: x19 :: x20 :: x21 :: l).toArray[21]? = some x21 := rfl
theorem lit22 {α : Type} {x0 x1 x2 x3 x4 x5 x6 x7 x8 x9 x10 x11 x12 x13 x14 x15 x16 x17 x18 x19 x20 x21 x22 : α} {l : List α} : (x0 :: x1 :: x2 :: x3 :: x4 :: x5 :: x6 :: x7 :: x8 :: x9 :: x10 :: x11 :: x12 :: x13 :: x14 :: x15 :: x16 :: x17 :: x18 :: x19 :: x20 :: x21 :: x22 :: l).toArray[22]? = some x22 := rfl
theorem lit23 {α : Type} {x0 x1 x2 x3 x4 x5 x6 x7 x8 x9 x10 x11 x12 x13 x14 x15 x16 x17 x18 x19 x20 x21 x22 x23 : α} {l : List α} : (x0 :: x1 :: x2 :: x3 :: x4 :: x5 :: x6 :: x7 :: x8 :: x9 :: x10 :: x11 :: x12 :: x13 :: x14 :: x15 :: x16 :: x17 :: x18 :: x19 :: x20 :: x21 :: x22 :: x23 :: l).toArray[23]? = some x23 := rfl
theorem lit24 {α : Type} {x0 x1 x2 x3 x4 x5 x6 x7 x8 x9 x10 x11 x12 x13 x14 x15 x16 x17 x18 x19 x20 x21 x22 x23 x24 : α} {l : List α} : (x0 :: x1 :: x2 :: x3 :: x4 :: x5 :: x6 :: x7 :: x8 :: x9 :: x10 :: x11 :: x12 :: x13 :: x14 :: x15 :: x16 :: x17 :: x18 :: x19 :: x20 :: x21 :: x22 :: x23 :: x24 :: l).toArray[24]? = some x24 := rfl
theorem lit25 {α : Type} {x0 x1 x2 x3 x4 x5 x6 x7 x8 x9 x10 x11 x12 x13 x14 x15 x16 x17 x18 x19 x20 x21 x22 x23 x24 x25 : α} {l : List α} : (x0 :: x1 :: x2 :: x3 :: x4 :: x5 :: x6 :: x7 :: x8 :: x9 :: x10 :: x11 :: x12 :: x13 :: x14 :: x15 :: x16 :: x17 :: x18 :: x19 :: x20 :: x21 :: x22 :: x23 :: x24 :: x25 :: l).toArray[25]? = some x25 := rfl
theorem lit26 {α : Type} {x0 x1 x2 x3 x4 x5 x6 x7 x8 x9 x10 x11 x12 x13 x14 x15 x16 x17 x18 x19 x20 x21 x22 x23 x24 x25 x26 : α} {l : List α} : (x0 :: x1 :: x2 :: x3 :: x4 :: x5 :: x6 :: x7 :: x8 :: x9 :: x10 :: x11 :: x12 :: x13 :: x14 :: x15 :: x16 :: x17 :: x18 :: x19 :: x20 :: x21 :: x22 :: x23 :: x24 :: x25 :: x26 :: l).toArray[26]? = some x26 := rfl
theorem lit27 {α : Type} {x0 x1 x2 x3 x4 x5 x6 x7 x8 x9 x10 x11 x12 x13 x14 x15 x16 x17 x18 x19 x20 x21 x22 x23 x24 x25 x26 x27 : α} {l : List α} : (x0 :: x1 :: x2 :: x3 :: x4 :: x5 :: x6 :: x7 :: x8 :: x9 :: x10 :: x11 :: x12 :: x13 :: x14 :: x15 :: x16 :: x17 :: x18 :: x19 :: x20 :: x21 :: x22 :: x23 :: x24 :: x25 :: x26 :: x27 :: l).toArray[27]? = some x27 := rfl
theorem lit28 {α : Type} {x0 x1 x2 x3 x4 x5 x6 x7 x8 x9 x10 x11 x12 x13 x14 x15 x16 x17 x18 x19 x20 x21 x22 x23 x24 x25 x26 x27 x28 : α} {l : List α} : (x0 :: x1 :: x2 :: x3 :: x4 :: x5 :: x6 :: x7 :: x8 :: x9 :: x10 :: x11 :: x12 :: x13 :: x14 :: x15 :: x16 :: x17 :: x18 :: x19 :: x20 :: x21 :: x22 :: x23 :: x24 :: x25 :: x26 :: x27 :: x28 :: l).toArray[28]? = some x28 := rfl
theorem lit29 {α : Type} {x0 x1 x2 x3 x4 x5 x6 x7 x8 x9 x10 x11 x12 x13 x14 x15 x16 x17 x18 x19 x20 x21 x22 x23 x24 x25 x26 x27 x28 x29 : α} {l : List α} : (x0 :: x1 :: x2 :: x3 :: x4 :: x5 :: x6 :: x7 :: x8 :: x9 :: x10 :: x11 :: x12 :: x13 :: x14 :: x15 :: x16 :: x17 :: x18 :: x19 :: x20 :: x21 :: x22 :: x23 :: x24 :: x25 :: x26 :: x27 :: x28 :: x29 :: l).toArray[29]? = some x29 := rfl
theorem lit30 {α : Type} {x0 x1 x2 x3 x4 x5 x6 x7 x8 x9 x10 x11 x12 x13 x14 x15 x16 x17 x18 x19 x20 x21 x22 x23 x24 x25 x26 x27 x28 x29 x30 : α} {l : List α} : (x0 :: x1 :: x2 :: x3 :: x4 :: x5 :: x6 :: x7 :: x8 :: x9 :: x10 :: x11 :: x12 :: x13 :: x14 :: x15 :: x16 :: x17 :: x18 :: x19 :: x20 :: x21 :: x22 :: x23 :: x24 :: x25 :: x26 :: x27 :: x28 :: x29 :: x30 :: l).toArray[30]? = some x30 := rfl
theorem lit31 {α : Type} {x0 x1 x2 x3 x4 x5 x6 x7 x8 x9 x10 x11 x12 x13 x14 x15 x16 x17 x18 x19 x20 x21 x22 x23 x24 x25 x26 x27 x28 x29 x30 x31 : α} {l : List α} : (x0 :: x1 :: x2 :: x3 :: x4 :: x5 :: x6 :: x7 :: x8 :: x9 :: x10 :: x11 :: x12 :: x13 :: x14 :: x15 :: x16 :: x17 :: x18 :: x19 :: x20 :: x21 :: x22 :: x23 :: x24 :: x25 :: x26 :: x27 :: x28 :: x29 :: x30 :: x31 :: l).toArray[31]? = some x31 := rfl
theorem lit32 {α : Type} {x0 x1 x2 x3 x4 x5 x6 x7 x8 x9 x10 x11 x12 x13 x14 x15 x16 x17 x18 x19 x20 x21 x22 x23 x24 x25 x26 x27 x28 x29 x30 x31 x32 : α} {l : List α} : (x0 :: x1 :: x2 :: x3 :: x4 :: x5 :: x6 :: x7 :: x8 :: x9 :: x10 :: x11 :: x12 :: x13 :: x14 :: x15 :: x16 :: x17 :: x18 :: x19 :: x20 :: x21 :: x22 :: x23 :: x24 :: x25 :: x26 :: x27 :: x28 :: x29 :: x30 :: x31 :: x32 :: l).toArray[32]? = some x32 := rfl
theorem lit33 {α : Type} {x0 x1 x2 x3 x4 x5 x6 x7 x8 x9 x10 x11 x12 x13 x14 x15 x16 x17 x18 x19 x20 x21 x22 x23 x24 x25 x26 x27 x28 x29 x30 x31 x32 x33 : α} {l : List α} : (x0 :: x1 :: x2 :: x3 :: x4 :: x5 :: x6 :: x7 :: x8 :: x9 :: x10 :: x11 :: x12 :: x13 :: x14 :: x15 :: x16 :: x17 :: x18 :: x19 :: x20 :: x21 :: x22 :: x23 :: x24 :: x25 :: x26 :: x27 :: x28 :: x29 :: x30 :: x31 :: x32 :: x33 :: l).toArray[33]? = some x33 := rfl
theorem toList_nil (s : ByteArray) : (s.toList == []) = decide (s.size = 0) := by
  have h := Lib.bytes_beq_iff s ⟨#[]⟩
  have e : (⟨#[]⟩ : ByteArray).toList = [] := by rw [ByteArray.toList_eq]
  rw [e] at h
  rw [Bool.eq_iff_iff, h, decide_eq_true_eq]
  constructor
  · rintro rfl; rfl
  · intro hs; exact ByteArray.ext (Array.eq_empty_of_size_eq_zero hs)
theorem signs_1 {a : ByteArray} {r : Rx} (h : a.size ≤ 12) (hp : parseM a = .ok r) : parseM ((⟨#[40]⟩ : ByteArray) ++ a ++ ⟨#[41, 43]⟩) = fitR (.mk 2 0 0 0 0 [r, starR r]) :=
  parse_sign (c := 43) (by omega) hp (by simp only [ByteArray.size_append]; show 1 + a.size + 2 = _; omega) (byteAt_head _ _ _ 0 (by decide)) (Inside.mk_ ⟨#[40]⟩ a _ (by decide) (by decide))
    (byteAt_tail _ _ _ _ 1 (by show _ = 1 + a.size + 1; omega)) (.inr (.inl ⟨rfl, rfl⟩))
theorem signs_2 {a : ByteArray} {r : Rx} (h : a.size ≤ 12) (hp : parseM a = .ok r) : parseM ((⟨#[40]⟩ : ByteArray) ++ a ++ ⟨#[41, 63]⟩) = fitR (.mk 3 0 0 0 0 [r, .zero]) :=
  parse_sign (c := 63) (by omega) hp (by simp only [ByteArray.size_append]; show 1 + a.size + 2 = _; omega) (byteAt_head _ _ _ 0 (by decide)) (Inside.mk_ ⟨#[40]⟩ a _ (by decide) (by decide))
    (byteAt_tail _ _ _ _ 1 (by show _ = 1 + a.size + 1; omega)) (.inr (.inr ⟨rfl, rfl⟩))
theorem signs_3 {a : ByteArray} {r : Rx} (h : a.size ≤ 12) (hp : parseM a = .ok r) : parseM ((⟨#[40]⟩ : ByteArray) ++ a ++ ⟨#[41, 40]⟩ ++ a ++ ⟨#[41, 42]⟩) = if (starR r).size ≤ 500 then fitR (.mk 2 0 0 0 0 [r, starR r]) else .error 4 := by
  have hs : ((⟨#[40]⟩ : ByteArray) ++ a ++ ⟨#[41, 40]⟩).size = a.size + 3 := by simp only [ByteArray.size_append]; show 1 + a.size + 2 = _; omega
  have hs1 : ((⟨#[40]⟩ : ByteArray) ++ a).size = a.size + 1 := by simp only [ByteArray.size_append]; show 1 + a.size = _; omega
  have hd : ∀ j, j < a.size + 3 → byteAt ((⟨#[40]⟩ : ByteArray) ++ a ++ ⟨#[41, 40]⟩ ++ a ++ ⟨#[41, 42]⟩) j = byteAt ((⟨#[40]⟩ : ByteArray) ++ a ++ ⟨#[41, 40]⟩) j := fun j hj => byteAt_head _ _ _ j (by rw [hs]; exact hj)
  have hI : Inside a ((⟨#[40]⟩ : ByteArray) ++ a ++ ⟨#[41, 40]⟩) 1 := Inside.mk_ ⟨#[40]⟩ a _ (by decide) (by decide)
  have hJ := Inside.mk_ ((⟨#[40]⟩ : ByteArray) ++ a ++ ⟨#[41, 40]⟩) a ⟨#[41, 42]⟩ (by decide) (by decide)
  have hsz : ((⟨#[40]⟩ : ByteArray) ++ a ++ ⟨#[41, 40]⟩ ++ a ++ ⟨#[41, 42]⟩).size = a.size + a.size + 5 := by rw [ByteArray.size_append, ByteArray.size_append, hs]; show a.size + 3 + a.size + 2 = _; omega
  rw [hs] at hJ
  refine parse_catstar (by omega) (by omega) hp hp hsz ((hd 0 (by omega)).trans (byteAt_head _ _ _ 0 (by decide))) ⟨fun p hpl => ?_, ?_⟩ ((hd _ (by omega)).trans (byteAt_tail _ _ _ _ 1 (by show _ = 1 + a.size + 1; omega))) hJ
    (byteAt_tail _ _ _ _ 1 (by rw [hs]; omega))
  · obtain ⟨h1, h2⟩ := hI.at_ p hpl
    exact ⟨by rw [hsz]; omega, (hd _ (by omega)).trans h2⟩
  · exact ⟨by rw [hsz]; omega, (hd _ (by omega)).trans hI.end_.2⟩

set_option maxRecDepth 100000 in
set_option maxHeartbeats 4000000 in
theorem signs_far (a s : ByteArray) (w : World) (ha : a.size ≤ 140737488351232) (hs : s.size ≤ 140737488351232) (h : 12 < a.size ∨ 12 < s.size) :
    Calls Try.prog 11 #[.string a, .string s] w fun e w' => e = .returned (.bool true) ∧ Below w.heap.size w w' := by
  by_cases h1 : 12 < a.size
  · have h1' : (12 : Int) < (a.size : Int) := by omega
    clear h
    go_enter Try.func11, Try.ntmps11
    go_wp2_with fail
    refine (works3_any _).mono ?_
    rintro e w1 ⟨rfl, F1⟩
    have HF := Lib.hid F1
    clear F1
    go_wp2_with fail
    go_ret
    exact ⟨rfl, HF.out.below⟩
  · have h2 : 12 < s.size := by omega
    have h1' : (a.size : Int) ≤ 12 := by omega
    have h2' : (12 : Int) < (s.size : Int) := by omega
    clear h
    go_enter Try.func11, Try.ntmps11
    go_wp2_with fail
    refine (works3_any _).mono ?_
    rintro e w1 ⟨rfl, F1⟩
    have HF := Lib.hid F1
    clear F1
    go_wp2_with fail
    go_ret
    exact ⟨rfl, HF.out.below⟩

set_option maxRecDepth 100000 in
set_option maxHeartbeats 4000000 in
theorem signs_near (a s : ByteArray) (w : World) (h1 : a.size ≤ 12) (h2 : s.size ≤ 12) :
    Calls Try.prog 11 #[.string a, .string s] w fun e w' => e = .returned (.bool true) ∧ Below w.heap.size w w' := by
  have h1' : (a.size : Int) ≤ 12 := by omega
  have h2' : (s.size : Int) ≤ 12 := by omega
  have HT1 := Lib.hid (show ((⟨#[40]⟩ : ByteArray) ++ a ++ ⟨#[41, 43]⟩).size = 1 + a.size + 2 by simp only [ByteArray.size_append]; rfl)
  have HT2 := Lib.hid (show ((⟨#[40]⟩ : ByteArray) ++ a ++ ⟨#[41, 63]⟩).size = 1 + a.size + 2 by simp only [ByteArray.size_append]; rfl)
  have HT3 := Lib.hid (show ((⟨#[40]⟩ : ByteArray) ++ a ++ ⟨#[41, 40]⟩ ++ a ++ ⟨#[41, 42]⟩).size = 1 + a.size + 2 + a.size + 2 by simp only [ByteArray.size_append]; rfl)
  have q1 : 1 + a.size ≤ 9223372036854775807 := by omega
  have q2 : 1 + a.size + 2 ≤ 9223372036854775807 := by omega
  have q3 : 1 + a.size + 2 + a.size ≤ 9223372036854775807 := by omega
  have q4 : 1 + a.size + 2 + a.size + 2 ≤ 9223372036854775807 := by omega
  go_enter Try.func11, Try.ntmps11
  go_wp2_with fail
  refine (works3_any _).mono ?_
  rintro e w0 ⟨rfl, F0⟩
  have HF0 := Lib.hid F0
  clear F0
  go_wp2_with fail
  refine (parse_un a (by omega) _).mono ?_
  rintro e w1 ⟨v0, rfl, hv, Fi⟩
  obtain ⟨r0, hr0⟩ : ∃ r, parseR a = r := ⟨_, rfl⟩
  rw [hr0] at hv
  obtain ⟨k0, b00, b01, b02, b03, ks0⟩ := r0
  have HR0 := Lib.hid hr0
  obtain ⟨a0, c0, rfl, hc0, hl⟩ := hv.open_
  have HL0 := Lib.hid hl
  obtain ⟨n0, hn0⟩ : ∃ n, parseN a = n := ⟨_, rfl⟩
  rw [hn0]
  have HN0 := Lib.hid hn0
  have FS0 := Lib.hid (Fi.alloc (.cells #[.int .i64 k0, .int .u64 b00, .int .u64 b01, .int .u64 b02, .int .u64 b03, .slice a0 ks0.length c0] 28))
  have NB0 := Lib.hid (alloc_new w1 (.cells #[.int .i64 k0, .int .u64 b00, .int .u64 b01, .int .u64 b02, .int .u64 b03, .slice a0 ks0.length c0] 28))
  have HA0 := Lib.hid ((Fr.refl none_ w1).alloc (.cells #[.int .i64 k0, .int .u64 b00, .int .u64 b01, .int .u64 b02, .int .u64 b03, .slice a0 ks0.length c0] 28))
  clear hv hl Fi hr0 hn0
  go_wp2_with fail
  obtain ⟨t1, ht1⟩ : ∃ t, ((⟨#[40]⟩ : ByteArray) ++ a ++ ⟨#[41, 43]⟩) = t := ⟨_, rfl⟩
  have hz1 : t1.size < 9223372036854775808 := by rw [← ht1, HT1.out]; omega
  rw [ht1]
  have HX1 := Lib.hid ht1
  clear ht1 HT1
  refine (parse_un t1 hz1 _).mono ?_
  rintro e w2 ⟨v1, rfl, hv, Fi⟩
  obtain ⟨r1, hr1⟩ : ∃ r, parseR t1 = r := ⟨_, rfl⟩
  rw [hr1] at hv
  obtain ⟨k1, b10, b11, b12, b13, ks1⟩ := r1
  have HR1 := Lib.hid hr1
  obtain ⟨a1, c1, rfl, hc1, hl⟩ := hv.open_
  have HL1 := Lib.hid hl
  obtain ⟨n1, hn1⟩ : ∃ n, parseN t1 = n := ⟨_, rfl⟩
  rw [hn1]
  have HN1 := Lib.hid hn1
  have FS1 := Lib.hid (Fi.alloc (.cells #[.int .i64 k1, .int .u64 b10, .int .u64 b11, .int .u64 b12, .int .u64 b13, .slice a1 ks1.length c1] 28))
  have NB1 := Lib.hid (alloc_new w2 (.cells #[.int .i64 k1, .int .u64 b10, .int .u64 b11, .int .u64 b12, .int .u64 b13, .slice a1 ks1.length c1] 28))
  have HA1 := Lib.hid ((Fr.refl none_ w2).alloc (.cells #[.int .i64 k1, .int .u64 b10, .int .u64 b11, .int .u64 b12, .int .u64 b13, .slice a1 ks1.length c1] 28))
  clear hv hl Fi hr1 hn1
  go_wp2_with fail
  obtain ⟨t2, ht2⟩ : ∃ t, ((⟨#[40]⟩ : ByteArray) ++ a ++ ⟨#[41, 63]⟩) = t := ⟨_, rfl⟩
  have hz2 : t2.size < 9223372036854775808 := by rw [← ht2, HT2.out]; omega
  rw [ht2]
  have HX2 := Lib.hid ht2
  clear ht2 HT2
  refine (parse_un t2 hz2 _).mono ?_
  rintro e w3 ⟨v2, rfl, hv, Fi⟩
  obtain ⟨r2, hr2⟩ : ∃ r, parseR t2 = r := ⟨_, rfl⟩
  rw [hr2] at hv
  obtain ⟨k2, b20, b21, b22, b23, ks2⟩ := r2
  have HR2 := Lib.hid hr2
  obtain ⟨a2, c2, rfl, hc2, hl⟩ := hv.open_
  have HL2 := Lib.hid hl
  obtain ⟨n2, hn2⟩ : ∃ n, parseN t2 = n := ⟨_, rfl⟩
  rw [hn2]
  have HN2 := Lib.hid hn2
  have FS2 := Lib.hid (Fi.alloc (.cells #[.int .i64 k2, .int .u64 b20, .int .u64 b21, .int .u64 b22, .int .u64 b23, .slice a2 ks2.length c2] 28))
  have NB2 := Lib.hid (alloc_new w3 (.cells #[.int .i64 k2, .int .u64 b20, .int .u64 b21, .int .u64 b22, .int .u64 b23, .slice a2 ks2.length c2] 28))
  have HA2 := Lib.hid ((Fr.refl none_ w3).alloc (.cells #[.int .i64 k2, .int .u64 b20, .int .u64 b21, .int .u64 b22, .int .u64 b23, .slice a2 ks2.length c2] 28))
  clear hv hl Fi hr2 hn2
  go_wp2_with fail
  obtain ⟨t3, ht3⟩ : ∃ t, ((⟨#[40]⟩ : ByteArray) ++ a ++ ⟨#[41, 40]⟩ ++ a ++ ⟨#[41, 42]⟩) = t := ⟨_, rfl⟩
  have hz3 : t3.size < 9223372036854775808 := by rw [← ht3, HT3.out]; omega
  rw [ht3]
  have HX3 := Lib.hid ht3
  clear ht3 HT3
  refine (parse_un t3 hz3 _).mono ?_
  rintro e w4 ⟨v3, rfl, hv, Fi⟩
  obtain ⟨r3, hr3⟩ : ∃ r, parseR t3 = r := ⟨_, rfl⟩
  rw [hr3] at hv
  obtain ⟨k3, b30, b31, b32, b33, ks3⟩ := r3
  have HR3 := Lib.hid hr3
  obtain ⟨a3, c3, rfl, hc3, hl⟩ := hv.open_
  have HL3 := Lib.hid hl
  obtain ⟨n3, hn3⟩ : ∃ n, parseN t3 = n := ⟨_, rfl⟩
  rw [hn3]
  have HN3 := Lib.hid hn3
  have FS3 := Lib.hid (Fi.alloc (.cells #[.int .i64 k3, .int .u64 b30, .int .u64 b31, .int .u64 b32, .int .u64 b33, .slice a3 ks3.length c3] 28))
  have NB3 := Lib.hid (alloc_new w4 (.cells #[.int .i64 k3, .int .u64 b30, .int .u64 b31, .int .u64 b32, .int .u64 b33, .slice a3 ks3.length c3] 28))
  have HA3 := Lib.hid ((Fr.refl none_ w4).alloc (.cells #[.int .i64 k3, .int .u64 b30, .int .u64 b31, .int .u64 b32, .int .u64 b33, .slice a3 ks3.length c3] 28))
  clear hv hl Fi hr3 hn3
  have G := Lib.hid ((((HF0.out.tr FS0.out).tr FS1.out).tr FS2.out).tr FS3.out)
  by_cases z0 : n0 = 0
  case neg =>
    have e0 : (n0 == 0) = false := by rw [beq_eq_false_iff_ne]; exact z0
    go_wp2_with fail
    go_ret
    exact ⟨rfl, G.out.below⟩
  by_cases z1 : n1 = 4
  case pos =>
    subst z0 z1
    go_wp2_with fail
    go_ret
    exact ⟨rfl, G.out.below⟩
  have e1 : (n1 == 4) = false := by rw [beq_eq_false_iff_ne]; exact z1
  by_cases z2 : n2 = 4
  case pos =>
    subst z0 z2
    go_wp2_with fail
    go_ret
    exact ⟨rfl, G.out.below⟩
  have e2 : (n2 == 4) = false := by rw [beq_eq_false_iff_ne]; exact z2
  by_cases z3 : n3 = 4
  case pos =>
    subst z0 z3
    go_wp2_with fail
    go_ret
    exact ⟨rfl, G.out.below⟩
  have e3 : (n3 == 4) = false := by rw [beq_eq_false_iff_ne]; exact z3
  have hpa : parseM a = .ok (.mk k0 b00 b01 b02 b03 ks0) := by have := parseN_of (s := a) (by rw [HN0.out]; exact z0); rw [HR0.out] at this; exact this
  have E1 : n1 = 0 ∧ (Rx.mk k1 b10 b11 b12 b13 ks1) = .mk 2 0 0 0 0 [(.mk k0 b00 b01 b02 b03 ks0), starR (.mk k0 b00 b01 b02 b03 ks0)] := by
    have h := parseN_fit (signs_1 h1 hpa)
    rw [HX1.out, HN1.out, HR1.out] at h
    exact h.resolve_left z1
  have E2 : n2 = 0 ∧ (Rx.mk k2 b20 b21 b22 b23 ks2) = .mk 3 0 0 0 0 [(.mk k0 b00 b01 b02 b03 ks0), .zero] := by
    have h := parseN_fit (signs_2 h1 hpa)
    rw [HX2.out, HN2.out, HR2.out] at h
    exact h.resolve_left z2
  have E3 : n3 = 0 ∧ (Rx.mk k3 b30 b31 b32 b33 ks3) = .mk 2 0 0 0 0 [(.mk k0 b00 b01 b02 b03 ks0), starR (.mk k0 b00 b01 b02 b03 ks0)] := by
    have h := signs_3 h1 hpa
    split at h
    · have h := parseN_fit h
      rw [HX3.out, HN3.out, HR3.out] at h
      exact h.resolve_left z3
    · exfalso
      have h4 := parseN_err h
      rw [HX3.out, HN3.out] at h4
      exact z3 h4
  have M1 := Lib.hid (show matchP (.mk k1 b10 b11 b12 b13 ks1) s = matchP (.mk k3 b30 b31 b32 b33 ks3) s by rw [E1.2, E3.2])
  have M2 := Lib.hid (show matchP (.mk k2 b20 b21 b22 b23 ks2) s = (matchP (.mk k0 b00 b01 b02 b03 ks0) s || decide (s.size = 0)) by rw [E2.2, match_or, match_zero])
  have y1 := E1.1
  have y2 := E2.1
  have y3 := E3.1
  clear E1 E2 E3 e1 e2 e3 z1 z2 z3 hpa
  subst z0 y1 y2 y3
  have T3 := Lib.hid HA3.out
  have T2 := Lib.hid (HA2.out.tr FS3.out)
  have T1 := Lib.hid ((HA1.out.tr FS2.out).tr FS3.out)
  have T0 := Lib.hid (((HA0.out.tr FS1.out).tr FS2.out).tr FS3.out)
  have C3 := Lib.hid NB3.out
  have C2 := Lib.hid (FS3.out.at_ NB2.out (fun h => h))
  have C1 := Lib.hid ((FS2.out.tr FS3.out).at_ NB1.out (fun h => h))
  have C0 := Lib.hid (((FS1.out.tr FS2.out).tr FS3.out).at_ NB0.out (fun h => h))
  have X0 := Lib.hid (Fr.refl none_ (w4.alloc (.cells #[.int .i64 k3, .int .u64 b30, .int .u64 b31, .int .u64 b32, .int .u64 b33, .slice a3 ks3.length c3] 28)))
  obtain ⟨z00, z01, z02, z03, z04, z05⟩ := six (X0.out.at_ C0.out (fun h => h))
  go_wp2_with fail
  have hse := toList_nil s
  refine (match_any (.mk k0 b00 b01 b02 b03 ks0) s _ (fun _ => True) _ (by omega) (by have := parseR_size a; rw [HR0.out] at this; omega) (RxV.mk_ hc0 (RxL.move (fun i _ hlt => (T0.out.tr X0.out).block i hlt (fun h => h)) _ _ _ HL0.out))).mono ?_
  rintro e u0 ⟨rfl, Fu⟩
  have X1 := Lib.hid (X0.out.tr Fu)
  clear Fu z00 z01 z02 z03 z04 z05
  obtain ⟨m0, hm0⟩ : ∃ m, matchP (.mk k0 b00 b01 b02 b03 ks0) s = m := ⟨_, rfl⟩
  obtain ⟨m3, hm3⟩ : ∃ m, matchP (.mk k3 b30 b31 b32 b33 ks3) s = m := ⟨_, rfl⟩
  have HM1 := M1.out
  have HM2 := M2.out
  rw [hm3] at HM1
  rw [hm0] at HM2 ⊢
  have HC1 := Lib.hid (fun (wx : World) (hx : Fr none_ u0 wx) => match_any (.mk k1 b10 b11 b12 b13 ks1) s _ (fun _ => True) wx (by omega) (by have := parseR_size t1; rw [HR1.out] at this; omega) (RxV.mk_ hc1 (RxL.move (fun i _ hlt => ((T1.out.tr X1.out).tr hx).block i hlt (fun h => h)) _ _ _ HL1.out)))
  have HC2 := Lib.hid (fun (wx : World) (hx : Fr none_ u0 wx) => match_any (.mk k2 b20 b21 b22 b23 ks2) s _ (fun _ => True) wx (by omega) (by have := parseR_size t2; rw [HR2.out] at this; omega) (RxV.mk_ hc2 (RxL.move (fun i _ hlt => ((T2.out.tr X1.out).tr hx).block i hlt (fun h => h)) _ _ _ HL2.out)))
  have HC3 := Lib.hid (fun (wx : World) (hx : Fr none_ u0 wx) => match_any (.mk k3 b30 b31 b32 b33 ks3) s _ (fun _ => True) wx (by omega) (by have := parseR_size t3; rw [HR3.out] at this; omega) (RxV.mk_ hc3 (RxL.move (fun i _ hlt => ((T3.out.tr X1.out).tr hx).block i hlt (fun h => h)) _ _ _ HL3.out)))
  rw [HM1] at HC1
  rw [HM2] at HC2
  rw [hm3] at HC3
  have D1 := Lib.hid (X1.out.at_ C1.out (fun h => h))
  have D2 := Lib.hid (X1.out.at_ C2.out (fun h => h))
  have D3 := Lib.hid (X1.out.at_ C3.out (fun h => h))
  have HG := Lib.hid (G.out.tr X1.out)
  clear HM1 HM2 hm0 hm3 M1 M2 G X0 X1 C0 C1 C2 C3 T0 T1 T2 T3 HF0 FS0 FS1 FS2 FS3 NB0 NB1 NB2 NB3 HA0 HA1 HA2 HA3 HX1 HX2 HX3 HR0 HR1 HR2 HR3 HL0 HL1 HL2 HL3 HN0 HN1 HN2 HN3 hc0 hc1 hc2 hc3 hz1 hz2 hz3 q1 q2 q3 q4 h1' h2'
  have G0 : Fr none_ u0 u0.drew := (Fr.refl none_ u0).drew
  obtain ⟨z10, z11, z12, z13, z14, z15⟩ := six D1.out
  obtain ⟨z20, z21, z22, z23, z24, z25⟩ := six D2.out
  obtain ⟨z30, z31, z32, z33, z34, z35⟩ := six D3.out
  obtain ⟨se, hsz⟩ : ∃ b, decide (s.size = 0) = b := ⟨_, rfl⟩
  rw [hsz] at hse HC2
  clear hsz
  cases m0
  · cases m3 <;> cases se
    all_goals
      simp only [Bool.or_true, Bool.or_false] at HC2
      go_wp2_with fail
      first | (go_region_held3 (fun w' => w'.cell? ⟨w2.heap.size, 0, none⟩ = some (.int .i64 k1) ∧ w'.cell? ⟨w2.heap.size, 1, none⟩ = some (.int .u64 b10) ∧ w'.cell? ⟨w2.heap.size, 2, none⟩ = some (.int .u64 b11) ∧ w'.cell? ⟨w2.heap.size, 3, none⟩ = some (.int .u64 b12) ∧ w'.cell? ⟨w2.heap.size, 4, none⟩ = some (.int .u64 b13) ∧ w'.cell? ⟨w2.heap.size, 5, none⟩ = some (.slice a1 ks1.length c1) ∧ w'.cell? ⟨w3.heap.size, 0, none⟩ = some (.int .i64 k2) ∧ w'.cell? ⟨w3.heap.size, 1, none⟩ = some (.int .u64 b20) ∧ w'.cell? ⟨w3.heap.size, 2, none⟩ = some (.int .u64 b21) ∧ w'.cell? ⟨w3.heap.size, 3, none⟩ = some (.int .u64 b22) ∧ w'.cell? ⟨w3.heap.size, 4, none⟩ = some (.int .u64 b23) ∧ w'.cell? ⟨w3.heap.size, 5, none⟩ = some (.slice a2 ks2.length c2) ∧ w'.cell? ⟨w4.heap.size, 0, none⟩ = some (.int .i64 k3) ∧ w'.cell? ⟨w4.heap.size, 1, none⟩ = some (.int .u64 b30) ∧ w'.cell? ⟨w4.heap.size, 2, none⟩ = some (.int .u64 b31) ∧ w'.cell? ⟨w4.heap.size, 3, none⟩ = some (.int .u64 b32) ∧ w'.cell? ⟨w4.heap.size, 4, none⟩ = some (.int .u64 b33) ∧ w'.cell? ⟨w4.heap.size, 5, none⟩ = some (.slice a3 ks3.length c3)) ((exact ⟨z10, z11, z12, z13, z14, z15, z20, z21, z22, z23, z24, z25, z30, z31, z32, z33, z34, z35⟩)) (first
      | (go_at_call 33; with_reducible refine (HC1.out _ (by assumption)).mono ?_; rintro e wx ⟨rfl, Fx⟩; have Gx := Fr.tr (a := u0) (by assumption) Fx; obtain ⟨z10, z11, z12, z13, z14, z15⟩ := six (Gx.at_ D1.out (fun h => h)); obtain ⟨z20, z21, z22, z23, z24, z25⟩ := six (Gx.at_ D2.out (fun h => h)); obtain ⟨z30, z31, z32, z33, z34, z35⟩ := six (Gx.at_ D3.out (fun h => h)); clear Fx)
      | (go_at_call 33; with_reducible refine (HC3.out _ (by assumption)).mono ?_; rintro e wx ⟨rfl, Fx⟩; have Gx := Fr.tr (a := u0) (by assumption) Fx; obtain ⟨z10, z11, z12, z13, z14, z15⟩ := six (Gx.at_ D1.out (fun h => h)); obtain ⟨z20, z21, z22, z23, z24, z25⟩ := six (Gx.at_ D2.out (fun h => h)); obtain ⟨z30, z31, z32, z33, z34, z35⟩ := six (Gx.at_ D3.out (fun h => h)); clear Fx)
      | (go_at_call 33; with_reducible refine (HC2.out _ (by assumption)).mono ?_; rintro e wx ⟨rfl, Fx⟩; have Gx := Fr.tr (a := u0) (by assumption) Fx; obtain ⟨z10, z11, z12, z13, z14, z15⟩ := six (Gx.at_ D1.out (fun h => h)); obtain ⟨z20, z21, z22, z23, z24, z25⟩ := six (Gx.at_ D2.out (fun h => h)); obtain ⟨z30, z31, z32, z33, z34, z35⟩ := six (Gx.at_ D3.out (fun h => h)); clear Fx))) | fail
      all_goals
        go_wp2_with fail
        go_ret
        exact ⟨rfl, (HG.out.tr (by assumption)).below⟩
  · rw [Bool.true_or] at HC2
    cases m3
    all_goals
      go_wp2_with fail
      refine wp_region_held_drew (S := (fun w' => w'.cell? ⟨w2.heap.size, 0, none⟩ = some (.int .i64 k1) ∧ w'.cell? ⟨w2.heap.size, 1, none⟩ = some (.int .u64 b10) ∧ w'.cell? ⟨w2.heap.size, 2, none⟩ = some (.int .u64 b11) ∧ w'.cell? ⟨w2.heap.size, 3, none⟩ = some (.int .u64 b12) ∧ w'.cell? ⟨w2.heap.size, 4, none⟩ = some (.int .u64 b13) ∧ w'.cell? ⟨w2.heap.size, 5, none⟩ = some (.slice a1 ks1.length c1) ∧ w'.cell? ⟨w3.heap.size, 0, none⟩ = some (.int .i64 k2) ∧ w'.cell? ⟨w3.heap.size, 1, none⟩ = some (.int .u64 b20) ∧ w'.cell? ⟨w3.heap.size, 2, none⟩ = some (.int .u64 b21) ∧ w'.cell? ⟨w3.heap.size, 3, none⟩ = some (.int .u64 b22) ∧ w'.cell? ⟨w3.heap.size, 4, none⟩ = some (.int .u64 b23) ∧ w'.cell? ⟨w3.heap.size, 5, none⟩ = some (.slice a2 ks2.length c2) ∧ w'.cell? ⟨w4.heap.size, 0, none⟩ = some (.int .i64 k3) ∧ w'.cell? ⟨w4.heap.size, 1, none⟩ = some (.int .u64 b30) ∧ w'.cell? ⟨w4.heap.size, 2, none⟩ = some (.int .u64 b31) ∧ w'.cell? ⟨w4.heap.size, 3, none⟩ = some (.int .u64 b32) ∧ w'.cell? ⟨w4.heap.size, 4, none⟩ = some (.int .u64 b33) ∧ w'.cell? ⟨w4.heap.size, 5, none⟩ = some (.slice a3 ks3.length c3))) (by kernel_rfl) ⟨z10, z11, z12, z13, z14, z15, z20, z21, z22, z23, z24, z25, z30, z31, z32, z33, z34, z35⟩ (fun hHeld => ?_)
      refine wpAnyH_take (i := 0) (v := ?_) lit0 (by kernel_rfl) (by kernel_rfl) (by kernel_rfl) (fun _ _ _ h => h) (Or.inl ⟨by rfl, ?_⟩) (by assumption) ?_
      rotate_left
      · (intro w hSw; (try dsimp only at hSw); go_simp) <;> with_reducible rfl
      try simp only [Act.put, List.setIfInBounds_toArray, List.set_cons_zero, List.set_cons_succ]
      refine wpAnyH_take (i := 1) (v := ?_) lit1 (by kernel_rfl) (by kernel_rfl) (by kernel_rfl) (fun _ _ _ h => h) (Or.inl ⟨by rfl, ?_⟩) (by assumption) ?_
      rotate_left
      · (intro w hSw; (try dsimp only at hSw); go_simp) <;> with_reducible rfl
      try simp only [Act.put, List.setIfInBounds_toArray, List.set_cons_zero, List.set_cons_succ]
      refine wpAnyH_take (i := 2) (v := ?_) lit2 (by kernel_rfl) (by kernel_rfl) (by kernel_rfl) (fun _ _ _ h => h) (Or.inl ⟨by rfl, ?_⟩) (by assumption) ?_
      rotate_left
      · (intro w hSw; (try dsimp only at hSw); go_simp) <;> with_reducible rfl
      try simp only [Act.put, List.setIfInBounds_toArray, List.set_cons_zero, List.set_cons_succ]
      refine wpAnyH_take (i := 3) (v := ?_) lit3 (by kernel_rfl) (by kernel_rfl) (by kernel_rfl) (fun _ _ _ h => h) (Or.inl ⟨by rfl, ?_⟩) (by assumption) ?_
      rotate_left
      · (intro w hSw; (try dsimp only at hSw); go_simp) <;> with_reducible rfl
      try simp only [Act.put, List.setIfInBounds_toArray, List.set_cons_zero, List.set_cons_succ]
      refine wpAnyH_take (i := 4) (v := ?_) lit4 (by kernel_rfl) (by kernel_rfl) (by kernel_rfl) (fun _ _ _ h => h) (Or.inl ⟨by rfl, ?_⟩) (by assumption) ?_
      rotate_left
      · (intro w hSw; (try dsimp only at hSw); go_simp) <;> with_reducible rfl
      try simp only [Act.put, List.setIfInBounds_toArray, List.set_cons_zero, List.set_cons_succ]
      refine wpAnyH_take (i := 5) (v := ?_) lit5 (by kernel_rfl) (by kernel_rfl) (by kernel_rfl) (fun _ _ _ h => h) (Or.inl ⟨by rfl, ?_⟩) (by assumption) ?_
      rotate_left
      · (intro w hSw; (try dsimp only at hSw); go_simp) <;> with_reducible rfl
      try simp only [Act.put, List.setIfInBounds_toArray, List.set_cons_zero, List.set_cons_succ]
      refine wpAnyH_take (i := 6) (v := ?_) lit6 (by kernel_rfl) (by kernel_rfl) (by kernel_rfl) (fun _ _ _ h => h) (Or.inl ⟨by rfl, ?_⟩) (by assumption) ?_
      rotate_left
      · (intro w hSw; (try dsimp only at hSw); go_simp) <;> with_reducible rfl
      try simp only [Act.put, List.setIfInBounds_toArray, List.set_cons_zero, List.set_cons_succ]
      refine wpAnyH_take (i := 7) (v := ?_) lit7 (by kernel_rfl) (by kernel_rfl) (by kernel_rfl) (fun _ _ _ h => h) (Or.inl ⟨by rfl, ?_⟩) (by assumption) ?_
      rotate_left
      · (intro w hSw; (try dsimp only at hSw); go_simp) <;> with_reducible rfl
      try simp only [Act.put, List.setIfInBounds_toArray, List.set_cons_zero, List.set_cons_succ]
      refine wpAnyH_take (i := 8) (v := ?_) lit8 (by kernel_rfl) (by kernel_rfl) (by kernel_rfl) (fun _ _ _ h => h) (Or.inl ⟨by rfl, ?_⟩) (by assumption) ?_
      rotate_left
      · (intro w hSw; (try dsimp only at hSw); go_simp) <;> with_reducible rfl
      try simp only [Act.put, List.setIfInBounds_toArray, List.set_cons_zero, List.set_cons_succ]
      refine wpAnyH_take (i := 9) (v := ?_) lit9 (by kernel_rfl) (by kernel_rfl) (by kernel_rfl) (fun _ _ _ h => h) (Or.inl ⟨by rfl, ?_⟩) (by assumption) ?_
      rotate_left
      · (intro w hSw; (try dsimp only at hSw); go_simp) <;> with_reducible rfl
      try simp only [Act.put, List.setIfInBounds_toArray, List.set_cons_zero, List.set_cons_succ]
      refine wpAnyH_take (i := 10) (v := ?_) lit10 (by kernel_rfl) (by kernel_rfl) (by kernel_rfl) (fun _ _ _ h => h) (Or.inl ⟨by rfl, ?_⟩) (by assumption) ?_
      rotate_left
      · (intro w hSw; (try dsimp only at hSw); go_simp) <;> with_reducible rfl
      try simp only [Act.put, List.setIfInBounds_toArray, List.set_cons_zero, List.set_cons_succ]
      refine wpAnyH_take (i := 11) (v := ?_) lit11 (by kernel_rfl) (by kernel_rfl) (by kernel_rfl) (fun _ _ _ h => h) (Or.inl ⟨by rfl, ?_⟩) (by assumption) ?_
      rotate_left
      · (intro w hSw; (try dsimp only at hSw); go_simp) <;> with_reducible rfl
      try simp only [Act.put, List.setIfInBounds_toArray, List.set_cons_zero, List.set_cons_succ]
      refine wpAnyH_take (i := 12) (v := ?_) lit12 (by kernel_rfl) (by kernel_rfl) (by kernel_rfl) (fun _ _ _ h => h) (Or.inl ⟨by rfl, ?_⟩) (by assumption) ?_
      rotate_left
      · (intro w hSw; (try dsimp only at hSw); go_simp) <;> with_reducible rfl
      try simp only [Act.put, List.setIfInBounds_toArray, List.set_cons_zero, List.set_cons_succ]
      refine wpAnyH_take (i := 13) (v := ?_) lit13 (by kernel_rfl) (by kernel_rfl) (by kernel_rfl) (fun _ _ _ h => h) (Or.inl ⟨by rfl, ?_⟩) (by assumption) ?_
      rotate_left
      · (intro w hSw; (try dsimp only at hSw); go_simp) <;> with_reducible rfl
      try simp only [Act.put, List.setIfInBounds_toArray, List.set_cons_zero, List.set_cons_succ]
      refine wpAnyH_take (i := 14) (v := ?_) lit14 (by kernel_rfl) (by kernel_rfl) (by kernel_rfl) (fun _ _ _ h => h) (Or.inl ⟨by rfl, ?_⟩) (by assumption) ?_
      rotate_left
      · (intro w hSw; (try dsimp only at hSw); go_simp) <;> with_reducible rfl
      try simp only [Act.put, List.setIfInBounds_toArray, List.set_cons_zero, List.set_cons_succ]
      refine wpAnyH_take (i := 15) (v := ?_) lit15 (by kernel_rfl) (by kernel_rfl) (by kernel_rfl) (fun _ _ _ h => h) (Or.inl ⟨by rfl, ?_⟩) (by assumption) ?_
      rotate_left
      · (intro w hSw; (try dsimp only at hSw); go_simp) <;> with_reducible rfl
      try simp only [Act.put, List.setIfInBounds_toArray, List.set_cons_zero, List.set_cons_succ]
      refine wpAnyH_take (i := 17) (v := ?_) lit17 (by kernel_rfl) (by kernel_rfl) (by kernel_rfl) (fun _ _ _ h => h) (Or.inl ⟨by rfl, ?_⟩) (by assumption) ?_
      rotate_left
      · (intro w hSw; (try dsimp only at hSw); go_simp) <;> with_reducible rfl
      try simp only [Act.put, List.setIfInBounds_toArray, List.set_cons_zero, List.set_cons_succ]
      refine wpAnyH_take (i := 18) (v := ?_) lit18 (by kernel_rfl) (by kernel_rfl) (by kernel_rfl) (fun _ _ _ h => h) (Or.inl ⟨by rfl, ?_⟩) (by assumption) ?_
      rotate_left
      · (intro w hSw; (try dsimp only at hSw); go_simp) <;> with_reducible rfl
      try simp only [Act.put, List.setIfInBounds_toArray, List.set_cons_zero, List.set_cons_succ]
      refine wpAnyH_ready (rs := [16]) (by kernel_rfl) (by simp) ?_
      refine AllReadyH.cons lit16 (fun K hK => ?_) AllReadyH.nil
      go_simp
      go_at_call 33
      with_reducible refine (HC1.out _ (by assumption)).mono ?_
      rintro e wx ⟨rfl, Fx⟩
      have Gx := Fr.tr (a := u0) (by assumption) Fx
      obtain ⟨z10, z11, z12, z13, z14, z15⟩ := six (Gx.at_ D1.out (fun h => h))
      obtain ⟨z20, z21, z22, z23, z24, z25⟩ := six (Gx.at_ D2.out (fun h => h))
      obtain ⟨z30, z31, z32, z33, z34, z35⟩ := six (Gx.at_ D3.out (fun h => h))
      clear Fx
      refine hK.out _ _ ⟨z10, z11, z12, z13, z14, z15, z20, z21, z22, z23, z24, z25, z30, z31, z32, z33, z34, z35⟩ (fun hHeld => ?_)
      clear hK K
      try simp only [Act.put, List.setIfInBounds_toArray, List.set_cons_zero, List.set_cons_succ]
      refine wpAnyH_ready (rs := [19]) (by kernel_rfl) (by simp) ?_
      refine AllReadyH.cons lit19 (fun K hK => ?_) AllReadyH.nil
      go_simp
      go_at_call 33
      with_reducible refine (HC3.out _ (by assumption)).mono ?_
      rintro e wx ⟨rfl, Fx⟩
      have Gx := Fr.tr (a := u0) (by assumption) Fx
      obtain ⟨z10, z11, z12, z13, z14, z15⟩ := six (Gx.at_ D1.out (fun h => h))
      obtain ⟨z20, z21, z22, z23, z24, z25⟩ := six (Gx.at_ D2.out (fun h => h))
      obtain ⟨z30, z31, z32, z33, z34, z35⟩ := six (Gx.at_ D3.out (fun h => h))
      clear Fx
      refine hK.out _ _ ⟨z10, z11, z12, z13, z14, z15, z20, z21, z22, z23, z24, z25, z30, z31, z32, z33, z34, z35⟩ (fun hHeld => ?_)
      clear hK K
      try simp only [Act.put, List.setIfInBounds_toArray, List.set_cons_zero, List.set_cons_succ]
      refine wpAnyH_take (i := 20) (v := ?_) lit20 (by kernel_rfl) (by kernel_rfl) (by kernel_rfl) (fun _ _ _ h => h) (Or.inl ⟨by rfl, ?_⟩) (by assumption) ?_
      rotate_left
      · (intro w hSw; (try dsimp only at hSw); go_simp) <;> with_reducible rfl
      try simp only [Act.put, List.setIfInBounds_toArray, List.set_cons_zero, List.set_cons_succ]
      refine wpAnyH_take (i := 21) (v := ?_) lit21 (by kernel_rfl) (by kernel_rfl) (by kernel_rfl) (fun _ _ _ h => h) (Or.inl ⟨by rfl, ?_⟩) (by assumption) ?_
      rotate_left
      · (intro w hSw; (try dsimp only at hSw); go_simp) <;> with_reducible rfl
      try simp only [Act.put, List.setIfInBounds_toArray, List.set_cons_zero, List.set_cons_succ]
      refine wpAnyH_take (i := 22) (v := ?_) lit22 (by kernel_rfl) (by kernel_rfl) (by kernel_rfl) (fun _ _ _ h => h) (Or.inl ⟨by rfl, ?_⟩) (by assumption) ?_
      rotate_left
      · (intro w hSw; (try dsimp only at hSw); go_simp) <;> with_reducible rfl
      try simp only [Act.put, List.setIfInBounds_toArray, List.set_cons_zero, List.set_cons_succ]
      refine wpAnyH_take (i := 23) (v := ?_) lit23 (by kernel_rfl) (by kernel_rfl) (by kernel_rfl) (fun _ _ _ h => h) (Or.inl ⟨by rfl, ?_⟩) (by assumption) ?_
      rotate_left
      · (intro w hSw; (try dsimp only at hSw); go_simp) <;> with_reducible rfl
      try simp only [Act.put, List.setIfInBounds_toArray, List.set_cons_zero, List.set_cons_succ]
      refine wpAnyH_take (i := 24) (v := ?_) lit24 (by kernel_rfl) (by kernel_rfl) (by kernel_rfl) (fun _ _ _ h => h) (Or.inl ⟨by rfl, ?_⟩) (by assumption) ?_
      rotate_left
      · (intro w hSw; (try dsimp only at hSw); go_simp) <;> with_reducible rfl
      try simp only [Act.put, List.setIfInBounds_toArray, List.set_cons_zero, List.set_cons_succ]
      refine wpAnyH_take (i := 26) (v := ?_) lit26 (by kernel_rfl) (by kernel_rfl) (by kernel_rfl) (fun _ _ _ h => h) (Or.inl ⟨by rfl, ?_⟩) (by assumption) ?_
      rotate_left
      · (intro w hSw; (try dsimp only at hSw); go_simp) <;> with_reducible rfl
      try simp only [Act.put, List.setIfInBounds_toArray, List.set_cons_zero, List.set_cons_succ]
      refine wpAnyH_ready (rs := [25]) (by kernel_rfl) (by simp) ?_
      refine AllReadyH.cons lit25 (fun K hK => ?_) AllReadyH.nil
      go_simp
      go_at_call 33
      with_reducible refine (HC2.out _ (by assumption)).mono ?_
      rintro e wx ⟨rfl, Fx⟩
      have Gx := Fr.tr (a := u0) (by assumption) Fx
      obtain ⟨z10, z11, z12, z13, z14, z15⟩ := six (Gx.at_ D1.out (fun h => h))
      obtain ⟨z20, z21, z22, z23, z24, z25⟩ := six (Gx.at_ D2.out (fun h => h))
      obtain ⟨z30, z31, z32, z33, z34, z35⟩ := six (Gx.at_ D3.out (fun h => h))
      clear Fx
      refine hK.out _ _ ⟨z10, z11, z12, z13, z14, z15, z20, z21, z22, z23, z24, z25, z30, z31, z32, z33, z34, z35⟩ (fun hHeld => ?_)
      clear hK K
      try simp only [Act.put, List.setIfInBounds_toArray, List.set_cons_zero, List.set_cons_succ]
      refine wpAnyH_take (i := 27) (v := ?_) lit27 (by kernel_rfl) (by kernel_rfl) (by kernel_rfl) (fun _ _ _ h => h) (Or.inl ⟨by rfl, ?_⟩) (by assumption) ?_
      rotate_left
      · (intro w hSw; (try dsimp only at hSw); go_simp) <;> with_reducible rfl
      try simp only [Act.put, List.setIfInBounds_toArray, List.set_cons_zero, List.set_cons_succ]
      refine wpAnyH_take (i := 28) lit28 (by kernel_rfl) (by kernel_rfl) (by kernel_rfl) (fun _ _ _ h => h) (Or.inr ⟨by rfl, rfl⟩) (by assumption) ?_
      try simp only [Act.put, List.setIfInBounds_toArray, List.set_cons_zero, List.set_cons_succ]
      refine wpAnyH_take (i := 29) lit29 (by kernel_rfl) (by kernel_rfl) (by kernel_rfl) (fun _ _ _ h => h) (Or.inr ⟨by rfl, rfl⟩) (by assumption) ?_
      try simp only [Act.put, List.setIfInBounds_toArray, List.set_cons_zero, List.set_cons_succ]
      refine wpAnyH_take (i := 30) (v := ?_) lit30 (by kernel_rfl) (by kernel_rfl) (by kernel_rfl) (fun _ _ _ h => h) (Or.inl ⟨by rfl, ?_⟩) (by assumption) ?_
      rotate_left
      · (intro w hSw; (try dsimp only at hSw); go_simp) <;> with_reducible rfl
      try simp only [Act.put, List.setIfInBounds_toArray, List.set_cons_zero, List.set_cons_succ]
      refine wpAnyH_take (i := 31) (v := ?_) lit31 (by kernel_rfl) (by kernel_rfl) (by kernel_rfl) (fun _ _ _ h => h) (Or.inl ⟨by rfl, ?_⟩) (by assumption) ?_
      rotate_left
      · (intro w hSw; (try dsimp only at hSw); go_simp) <;> with_reducible rfl
      try simp only [Act.put, List.setIfInBounds_toArray, List.set_cons_zero, List.set_cons_succ]
      refine wpAnyH_take (i := 32) (v := ?_) lit32 (by kernel_rfl) (by kernel_rfl) (by kernel_rfl) (fun _ _ _ h => h) (Or.inl ⟨by rfl, ?_⟩) (by assumption) ?_
      rotate_left
      · (intro w hSw; (try dsimp only at hSw); go_simp) <;> with_reducible rfl
      try simp only [Act.put, List.setIfInBounds_toArray, List.set_cons_zero, List.set_cons_succ]
      refine wpAnyH_take (i := 33) (v := ?_) lit33 (by kernel_rfl) (by kernel_rfl) (by kernel_rfl) (fun _ _ _ h => h) (Or.inl ⟨by rfl, ?_⟩) (by assumption) ?_
      rotate_left
      · (intro w hSw; (try dsimp only at hSw); go_simp) <;> with_reducible rfl
      try simp only [Act.put, List.setIfInBounds_toArray, List.set_cons_zero, List.set_cons_succ]
      refine wpAnyH_done (by kernel_rfl) ?_ _
      go_wp2_with fail
      go_ret
      exact ⟨rfl, (HG.out.tr (by assumption)).below⟩

theorem regexSigns_any (a s : ByteArray) (w : World) (ha : a.size ≤ 140737488351232) (hs : s.size ≤ 140737488351232) :
    Calls Try.prog 11 #[.string a, .string s] w fun e w' => e = .returned (.bool true) ∧ Below w.heap.size w w' := by
  by_cases h : 12 < a.size ∨ 12 < s.size
  · exact signs_far a s w ha hs h
  · exact signs_near a s w (by omega) (by omega)

end Go.Proofs.Ytgpmbkgedhcbjaa
