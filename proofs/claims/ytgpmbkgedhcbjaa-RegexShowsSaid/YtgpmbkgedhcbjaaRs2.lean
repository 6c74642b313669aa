/-
  The law RegexShows: what is shown is parsed into what matches the same.
-/
import Derived.Test.YtgpmbkgedhcbjaaRo
namespace Go.Proofs.Ytgpmbkgedhcbjaa
open Go.RowKit

theorem lot0 {α : Type} {x0 : α} {l : List α} : (x0 :: l).toArray[0]? = some x0 := rfl
theorem lot1 {α : Type} {x0 x1 : α} {l : List α} : (x0 :: x1 :: l).toArray[1]? = some x1 := rfl
theorem lot2 {α : Type} {x0 x1 x2 : α} {l : List α} : (x0 :: x1 :: x2 :: l).toArray[2]? = some x2 := rfl
theorem lot3 {α : Type} {x0 x1 x2 x3 : α} {l : List α} : (x0 :: x1 :: x2 :: x3 :: l).toArray[3]? = some x3 := rfl
theorem lot4 {α : Type} {x0 x1 x2 x3 x4 : α} {l : List α} : (x0 :: x1 :: x2 :: x3 :: x4 :: l).toArray[4]? = some x4 := rfl
theorem lot5 {α : Type} {x0 x1 x2 x3 x4 x5 : α} {l : List α} : (x0 :: x1 :: x2 :: x3 :: x4 :: x5 :: l).toArray[5]? = some x5 := rfl
theorem lot6 {α : Type} {x0 x1 x2 x3 x4 x5 x6 : α} {l : List α} : (x0 :: x1 :: x2 :: x3 :: x4 :: x5 :: x6 :: l).toArray[6]? = some x6 := rfl
theorem lot7 {α : Type} {x0 x1 x2 x3 x4 x5 x6 x7 : α} {l : List α} : (x0 :: x1 :: x2 :: x3 :: x4 :: x5 :: x6 :: x7 :: l).toArray[7]? = some x7 := rfl
theorem lot8 {α : Type} {x0 x1 x2 x3 x4 x5 x6 x7 x8 : α} {l : List α} : (x0 :: x1 :: x2 :: x3 :: x4 :: x5 :: x6 :: x7 :: x8 :: l).toArray[8]? = some x8 := rfl
theorem lot9 {α : Type} {x0 x1 x2 x3 x4 x5 x6 x7 x8 x9 : α} {l : List α} : (x0 :: x1 :: x2 :: x3 :: x4 :: x5 :: x6 :: x7 :: x8 :: x9 :: l).toArray[9]? = some x9 := rfl
theorem lot10 {α : Type} {x0 x1 x2 x3 x4 x5 x6 x7 x8 x9 x10 : α} {l : List α} : (x0 :: x1 :: x2 :: x3 :: x4 :: x5 :: x6 :: x7 :: x8 :: x9 :: x10 :: l).toArray[10]? = some x10 := rfl
theorem lot11 {α : Type} {x0 x1 x2 x3 x4 x5 x6 x7 x8 x9 x10 x11 : α} {l : List α} : (x0 :: x1 :: x2 :: x3 :: x4 :: x5 :: x6 :: x7 :: x8 :: x9 :: x10 :: x11 :: l).toArray[11]? = some x11 := rfl
theorem lot12 {α : Type} {x0 x1 x2 x3 x4 x5 x6 x7 x8 x9 x10 x11 x12 : α} {l : List α} : (x0 :: x1 :: x2 :: x3 :: x4 :: x5 :: x6 :: x7 :: x8 :: x9 :: x10 :: x11 :: x12 :: l).toArray[12]? = some x12 := rfl
theorem lot13 {α : Type} {x0 x1 x2 x3 x4 x5 x6 x7 x8 x9 x10 x11 x12 x13 : α} {l : List α} : (x0 :: x1 :: x2 :: x3 :: x4 :: x5 :: x6 :: x7 :: x8 :: x9 :: x10 :: x11 :: x12 :: x13 :: l).toArray[13]? = some x13 := rfl
theorem lot14 {α : Type} {x0 x1 x2 x3 x4 x5 x6 x7 x8 x9 x10 x11 x12 x13 x14 : α} {l : List α} : (x0 :: x1 :: x2 :: x3 :: x4 :: x5 :: x6 :: x7 :: x8 :: x9 :: x10 :: x11 :: x12 :: x13 :: x14 :: l).toArray[14]? = some x14 := rfl
theorem lot15 {α : Type} {x0 x1 x2 x3 x4 x5 x6 x7 x8 x9 x10 x11 x12 x13 x14 x15 : α} {l : List α} : (x0 :: x1 :: x2 :: x3 :: x4 :: x5 :: x6 :: x7 :: x8 :: x9 :: x10 :: x11 :: x12 :: x13 :: x14 :: x15 :: l).toArray[15]? = some x15 := rfl
theorem lot16 {α : Type} {x0 x1 x2 x3 x4 x5 x6 x7 x8 x9 x10 x11 x12 x13 x14 x15 x16 : α} {l : List α} : (x0 :: x1 :: x2 :: x3 :: x4 :: x5 :: x6 :: x7 :: x8 :: x9 :: x10 :: x11 :: x12 :: x13 :: x14 :: x15 :: x16 :: l).toArray[16]? = some x16 := rfl
theorem lot17 {α : Type} {x0 x1 x2 x3 x4 x5 x6 x7 x8 x9 x10 x11 x12 x13 x14 x15 x16 x17 : α} {l : List α} : (x0 :: x1 :: x2 :: x3 :: x4 :: x5 :: x6 :: x7 :: x8 :: x9 :: x10 :: x11 :: x12 :: x13 :: x14 :: x15 :: x16 :: x17 :: l).toArray[17]? = some x17 := rfl
theorem lot18 {α : Type} {x0 x1 x2 x3 x4 x5 x6 x7 x8 x9 x10 x11 x12 x13 x14 x15 x16 x17 x18 : α} {l : List α} : (x0 :: x1 :: x2 :: x3 :: x4 :: x5 :: x6 :: x7 :: x8 :: x9 :: x10 :: x11 :: x12 :: x13 :: x14 :: x15 :: x16 :: x17 :: x18 :: l).toArray[18]? = some x18 := rfl
theorem lot19 {α : Type} {x0 x1 x2 x3 x4 x5 x6 x7 x8 x9 x10 x11 x12 x13 x14 x15 x16 x17 x18 x19 : α} {l : List α} : (x0 :: x1 :: x2 :: x3 :: x4 :: x5 :: x6 :: x7 :: x8 :: x9 :: x10 :: x11 :: x12 :: x13 :: x14 :: x15 :: x16 :: x17 :: x18 :: x19 :: l).toArray[19]? = some x19 := rfl
theorem lot20 {α : Type} {x0 x1 x2 x3 x4 x5 x6 x7 x8 x9 x10 x11 x12 x13 x14 x15 x16 x17 x18 x19 x20 : α} {l : List α} : (x0 :: x1 :: x2 :: x3 :: x4 :: x5 :: x6 :: x7 :: x8 :: x9 :: x10 :: x11 :: x12 :: x13 :: x14 :: x15 :: x16 :: x17 :: x18 :: x19 :: x20 :: l).toArray[20]? = some x20 := rfl
theorem lot21 {α : Type} {x0 x1 x2 x3 x4 x5 x6 x7 x8 x9 x10 x11 x12 x13 x14 x15 x16 x17 x18 x19 x20 x21 : α} {l : List α} : (x0 :: x1 :: x2 :: x3 :: x4 :: x5 :: x6 :: x7 :: x8 :: x9 :: x10 :: x11 :: x12 :: x13 :: x14 :: x15 :: x16 :: x17 :: x18 :: x19 :: x20 :: x21 :: l).toArray[21]? = some x21 := rfl
set_option maxRecDepth 100000 in
set_option maxHeartbeats 4000000 in
theorem shows_far (a s : ByteArray) (w : World) (ha : a.size ≤ 140737488351232) (hs : s.size ≤ 140737488351232) (h : 40 < a.size ∨ 40 < s.size) :
    Calls Try.prog 8 #[.string a, .string s] w fun e w' => e = .returned (.bool true) ∧ Below w.heap.size w w' := by
  by_cases h1 : 40 < a.size
  · have h1' : (40 : Int) < (a.size : Int) := by omega
    clear h
    go_enter Try.func8, Try.ntmps8
    go_wp2_with fail
    refine (works3_any _).mono ?_
    rintro e w1 ⟨rfl, F1⟩
    have HF := Lib.hid F1
    clear F1
    go_wp2_with fail
    go_ret
    exact ⟨rfl, HF.out.below⟩
  · have h2 : 40 < s.size := by omega
    have h1' : (a.size : Int) ≤ 40 := by omega
    have h2' : (40 : Int) < (s.size : Int) := by omega
    clear h
    go_enter Try.func8, Try.ntmps8
    go_wp2_with fail
    refine (works3_any _).mono ?_
    rintro e w1 ⟨rfl, F1⟩
    have HF := Lib.hid F1
    clear F1
    go_wp2_with fail
    go_ret
    exact ⟨rfl, HF.out.below⟩

theorem null_norm (r : Rx) : (normR r).null = r.null := by
  rw [Bool.eq_iff_iff, null_lang, null_lang]
  exact norm_lang r [] (by simp)

set_option maxRecDepth 100000 in
set_option maxHeartbeats 4000000 in
theorem shows_near (a s : ByteArray) (w : World) (h1 : a.size ≤ 40) (h2 : s.size ≤ 40) :
    Calls Try.prog 8 #[.string a, .string s] w fun e w' => e = .returned (.bool true) ∧ Below w.heap.size w w' := by
  have h1' : (a.size : Int) ≤ 40 := by omega
  have h2' : (s.size : Int) ≤ 40 := by omega
  go_enter Try.func8, Try.ntmps8
  go_wp2_with fail
  refine (works3_any _).mono ?_
  rintro e w0 ⟨rfl, F0⟩
  have HF0 := Lib.hid F0
  clear F0
  go_wp2_with fail
  refine (parse_un a (by omega) _).mono ?_
  rintro e w1 ⟨v0, rfl, hv, Fi⟩
  obtain ⟨r0, hr0⟩ : ∃ r, parseR a = r := ⟨_, rfl⟩
  rw [hr0] at hv
  obtain ⟨k0, b00, b01, b02, b03, ks0⟩ := r0
  have HR0 := Lib.hid hr0
  obtain ⟨a0, c0, rfl, hc0, hl⟩ := hv.open_
  have HL0 := Lib.hid hl
  obtain ⟨n0, hn0⟩ : ∃ n, parseN a = n := ⟨_, rfl⟩
  rw [hn0]
  have HN0 := Lib.hid hn0
  have FS0 := Lib.hid (Fi.alloc (.cells #[.int .i64 k0, .int .u64 b00, .int .u64 b01, .int .u64 b02, .int .u64 b03, .slice a0 ks0.length c0] 28))
  have NB0 := Lib.hid (alloc_new w1 (.cells #[.int .i64 k0, .int .u64 b00, .int .u64 b01, .int .u64 b02, .int .u64 b03, .slice a0 ks0.length c0] 28))
  have HA0 := Lib.hid ((Fr.refl none_ w1).alloc (.cells #[.int .i64 k0, .int .u64 b00, .int .u64 b01, .int .u64 b02, .int .u64 b03, .slice a0 ks0.length c0] 28))
  clear hv hl Fi hr0 hn0
  have G := Lib.hid (HF0.out.tr FS0.out)
  by_cases z0 : n0 = 0
  case neg =>
    have e0 : (n0 == 0) = false := by rw [beq_eq_false_iff_ne]; exact z0
    go_wp2_with fail
    go_ret
    exact ⟨rfl, G.out.below⟩
  have hsz := parseR_size a
  rw [HR0.out] at hsz
  have HSZ := Lib.hid hsz
  subst z0
  clear hsz HN0
  have X0 := Lib.hid (Fr.refl none_ (w1.alloc (.cells #[.int .i64 k0, .int .u64 b00, .int .u64 b01, .int .u64 b02, .int .u64 b03, .slice a0 ks0.length c0] 28)))
  obtain ⟨z00, z01, z02, z03, z04, z05⟩ := six (X0.out.at_ NB0.out (fun h => h))
  go_wp2_with fail
  refine (show_any (.mk k0 b00 b01 b02 b03 ks0) _ (fun _ => True) _ (by have := HSZ.out; omega) (RxV.mk_ hc0 (RxL.move (fun i _ hlt => (HA0.out.tr X0.out).block i hlt (fun h => h)) _ _ _ HL0.out))).mono ?_
  rintro e v0 ⟨rfl, Fu⟩
  have X1 := Lib.hid (X0.out.tr Fu)
  clear Fu z00 z01 z02 z03 z04 z05
  have hbz : (bstr (showL (.mk k0 b00 b01 b02 b03 ks0))).size = (showL (.mk k0 b00 b01 b02 b03 ks0)).length := by show (showL (.mk k0 b00 b01 b02 b03 ks0)).toArray.size = _; simp
  have hpar := parse_show (.mk k0 b00 b01 b02 b03 ks0)
  rw [← hbz] at hpar
  clear hbz
  obtain ⟨t1, ht1⟩ : ∃ t, bstr (showL (.mk k0 b00 b01 b02 b03 ks0)) = t := ⟨_, rfl⟩
  rw [ht1] at hpar ⊢
  have HPAR := Lib.hid hpar
  clear ht1 hpar
  have HG0 := Lib.hid (G.out.tr X1.out)
  by_cases hlen : 200 < t1.size
  case pos =>
    have hl' : (200 : Int) < (t1.size : Int) := by omega
    go_wp2_with fail
    go_ret
    exact ⟨rfl, HG0.out.below⟩
  have hl' : (t1.size : Int) ≤ 200 := by omega
  have hz1 : t1.size < 9223372036854775808 := by omega
  go_wp2_with fail
  refine (parse_un t1 hz1 _).mono ?_
  rintro e w2 ⟨v1, rfl, hv, Fi⟩
  obtain ⟨r1, hr1⟩ : ∃ r, parseR t1 = r := ⟨_, rfl⟩
  rw [hr1] at hv
  obtain ⟨k1, b10, b11, b12, b13, ks1⟩ := r1
  have HR1 := Lib.hid hr1
  obtain ⟨a1, c1, rfl, hc1, hl⟩ := hv.open_
  have HL1 := Lib.hid hl
  have FS1 := Lib.hid (Fi.alloc (.cells #[.int .i64 k1, .int .u64 b10, .int .u64 b11, .int .u64 b12, .int .u64 b13, .slice a1 ks1.length c1] 28))
  have NB1 := Lib.hid (alloc_new w2 (.cells #[.int .i64 k1, .int .u64 b10, .int .u64 b11, .int .u64 b12, .int .u64 b13, .slice a1 ks1.length c1] 28))
  have HA1 := Lib.hid ((Fr.refl none_ w2).alloc (.cells #[.int .i64 k1, .int .u64 b10, .int .u64 b11, .int .u64 b12, .int .u64 b13, .slice a1 ks1.length c1] 28))
  clear hv hl Fi hr1
  have hok := HPAR.out (by omega)
  have hn1 : parseN t1 = 0 := by rw [parseN, hok]
  have hr1 : Rx.mk k1 b10 b11 b12 b13 ks1 = normR (.mk k0 b00 b01 b02 b03 ks0) := by rw [← HR1.out, parseR, hok]
  rw [hn1]
  have hs1 := parseR_size t1
  rw [HR1.out] at hs1
  have HS1 := Lib.hid hs1
  have M1 := Lib.hid (show matchP (.mk k1 b10 b11 b12 b13 ks1) s = matchP (.mk k0 b00 b01 b02 b03 ks0) s by rw [hr1, match_norm])
  have N1 := Lib.hid (show Rx.null (.mk k1 b10 b11 b12 b13 ks1) = Rx.null (.mk k0 b00 b01 b02 b03 ks0) by rw [hr1, null_norm])
  clear hok hn1 hr1 hs1
  obtain ⟨u0, hu0⟩ : ∃ x, x = w2.alloc (.cells #[.int .i64 k1, .int .u64 b10, .int .u64 b11, .int .u64 b12, .int .u64 b13, .slice a1 ks1.length c1] 28) := ⟨_, rfl⟩
  rw [← hu0] at FS1 NB1 HA1
  have T0 := Lib.hid ((HA0.out.tr X1.out).tr FS1.out)
  have D0 := Lib.hid ((X1.out.tr FS1.out).at_ NB0.out (fun h => h))
  have D1 := Lib.hid NB1.out
  have HG := Lib.hid (HG0.out.tr FS1.out)
  have HC0 := Lib.hid (fun (wx : World) (hx : Fr none_ u0 wx) => match_any (.mk k0 b00 b01 b02 b03 ks0) s _ (fun _ => True) wx (by omega) (by have := HSZ.out; omega) (RxV.mk_ hc0 (RxL.move (fun i _ hlt => (T0.out.tr hx).block i hlt (fun h => h)) _ _ _ HL0.out)))
  have HC1 := Lib.hid (fun (wx : World) (hx : Fr none_ u0 wx) => match_any (.mk k1 b10 b11 b12 b13 ks1) s _ (fun _ => True) wx (by omega) (by have := HS1.out; omega) (RxV.mk_ hc1 (RxL.move (fun i _ hlt => (HA1.out.tr hx).block i hlt (fun h => h)) _ _ _ HL1.out)))
  have HU0 := Lib.hid (fun (wx : World) (hx : Fr none_ u0 wx) => nullable_any (.mk k0 b00 b01 b02 b03 ks0) _ (fun _ => True) wx (by have := HSZ.out; omega) (RxV.mk_ hc0 (RxL.move (fun i _ hlt => (T0.out.tr hx).block i hlt (fun h => h)) _ _ _ HL0.out)))
  have HU1 := Lib.hid (fun (wx : World) (hx : Fr none_ u0 wx) => nullable_any (.mk k1 b10 b11 b12 b13 ks1) _ (fun _ => True) wx (by have := HS1.out; omega) (RxV.mk_ hc1 (RxL.move (fun i _ hlt => (HA1.out.tr hx).block i hlt (fun h => h)) _ _ _ HL1.out)))
  obtain ⟨m0, hm0⟩ : ∃ m, matchP (.mk k0 b00 b01 b02 b03 ks0) s = m := ⟨_, rfl⟩
  obtain ⟨l0, hl0⟩ : ∃ m, Rx.null (.mk k0 b00 b01 b02 b03 ks0) = m := ⟨_, rfl⟩
  rw [M1.out, hm0] at HC1
  rw [hm0] at HC0
  rw [N1.out, hl0] at HU1
  rw [hl0] at HU0
  clear M1 N1 hm0 hl0 T0 HA0 HA1 HL0 HL1 HS1 HSZ NB0 NB1 FS0 FS1 G HG0 X0 X1 HR0 HR1 HF0 HPAR
  obtain ⟨z00, z01, z02, z03, z04, z05⟩ := six D0.out
  obtain ⟨z10, z11, z12, z13, z14, z15⟩ := six D1.out
  have G0 : Fr none_ u0 u0.drew := (Fr.refl none_ u0).drew
  go_wp2_with fail
  rw [← hu0]
  clear hu0
  cases m0 <;> cases l0
  all_goals
    refine wp_region_held_drew (S := (fun w' => w'.cell? ⟨w1.heap.size, 0, none⟩ = some (.int .i64 k0) ∧ w'.cell? ⟨w1.heap.size, 1, none⟩ = some (.int .u64 b00) ∧ w'.cell? ⟨w1.heap.size, 2, none⟩ = some (.int .u64 b01) ∧ w'.cell? ⟨w1.heap.size, 3, none⟩ = some (.int .u64 b02) ∧ w'.cell? ⟨w1.heap.size, 4, none⟩ = some (.int .u64 b03) ∧ w'.cell? ⟨w1.heap.size, 5, none⟩ = some (.slice a0 ks0.length c0) ∧ w'.cell? ⟨w2.heap.size, 0, none⟩ = some (.int .i64 k1) ∧ w'.cell? ⟨w2.heap.size, 1, none⟩ = some (.int .u64 b10) ∧ w'.cell? ⟨w2.heap.size, 2, none⟩ = some (.int .u64 b11) ∧ w'.cell? ⟨w2.heap.size, 3, none⟩ = some (.int .u64 b12) ∧ w'.cell? ⟨w2.heap.size, 4, none⟩ = some (.int .u64 b13) ∧ w'.cell? ⟨w2.heap.size, 5, none⟩ = some (.slice a1 ks1.length c1))) (by kernel_rfl) ⟨z00, z01, z02, z03, z04, z05, z10, z11, z12, z13, z14, z15⟩ (fun hHeld => ?_)
    refine wpAnyH_take (i := 0) (v := ?_) lot0 (by kernel_rfl) (by kernel_rfl) (by kernel_rfl) (fun _ _ _ h => h) (Or.inl ⟨by rfl, ?_⟩) (by assumption) ?_
    rotate_left
    · (intro w hSw; (try dsimp only at hSw); go_simp) <;> with_reducible rfl
    try simp only [Act.put, List.setIfInBounds_toArray, List.set_cons_zero, List.set_cons_succ]
    refine wpAnyH_take (i := 1) (v := ?_) lot1 (by kernel_rfl) (by kernel_rfl) (by kernel_rfl) (fun _ _ _ h => h) (Or.inl ⟨by rfl, ?_⟩) (by assumption) ?_
    rotate_left
    · (intro w hSw; (try dsimp only at hSw); go_simp) <;> with_reducible rfl
    try simp only [Act.put, List.setIfInBounds_toArray, List.set_cons_zero, List.set_cons_succ]
    refine wpAnyH_take (i := 2) (v := ?_) lot2 (by kernel_rfl) (by kernel_rfl) (by kernel_rfl) (fun _ _ _ h => h) (Or.inl ⟨by rfl, ?_⟩) (by assumption) ?_
    rotate_left
    · (intro w hSw; (try dsimp only at hSw); go_simp) <;> with_reducible rfl
    try simp only [Act.put, List.setIfInBounds_toArray, List.set_cons_zero, List.set_cons_succ]
    refine wpAnyH_take (i := 3) (v := ?_) lot3 (by kernel_rfl) (by kernel_rfl) (by kernel_rfl) (fun _ _ _ h => h) (Or.inl ⟨by rfl, ?_⟩) (by assumption) ?_
    rotate_left
    · (intro w hSw; (try dsimp only at hSw); go_simp) <;> with_reducible rfl
    try simp only [Act.put, List.setIfInBounds_toArray, List.set_cons_zero, List.set_cons_succ]
    refine wpAnyH_take (i := 4) (v := ?_) lot4 (by kernel_rfl) (by kernel_rfl) (by kernel_rfl) (fun _ _ _ h => h) (Or.inl ⟨by rfl, ?_⟩) (by assumption) ?_
    rotate_left
    · (intro w hSw; (try dsimp only at hSw); go_simp) <;> with_reducible rfl
    try simp only [Act.put, List.setIfInBounds_toArray, List.set_cons_zero, List.set_cons_succ]
    refine wpAnyH_take (i := 5) (v := ?_) lot5 (by kernel_rfl) (by kernel_rfl) (by kernel_rfl) (fun _ _ _ h => h) (Or.inl ⟨by rfl, ?_⟩) (by assumption) ?_
    rotate_left
    · (intro w hSw; (try dsimp only at hSw); go_simp) <;> with_reducible rfl
    try simp only [Act.put, List.setIfInBounds_toArray, List.set_cons_zero, List.set_cons_succ]
    refine wpAnyH_take (i := 6) (v := ?_) lot6 (by kernel_rfl) (by kernel_rfl) (by kernel_rfl) (fun _ _ _ h => h) (Or.inl ⟨by rfl, ?_⟩) (by assumption) ?_
    rotate_left
    · (intro w hSw; (try dsimp only at hSw); go_simp) <;> with_reducible rfl
    try simp only [Act.put, List.setIfInBounds_toArray, List.set_cons_zero, List.set_cons_succ]
    refine wpAnyH_take (i := 7) (v := ?_) lot7 (by kernel_rfl) (by kernel_rfl) (by kernel_rfl) (fun _ _ _ h => h) (Or.inl ⟨by rfl, ?_⟩) (by assumption) ?_
    rotate_left
    · (intro w hSw; (try dsimp only at hSw); go_simp) <;> with_reducible rfl
    try simp only [Act.put, List.setIfInBounds_toArray, List.set_cons_zero, List.set_cons_succ]
    refine wpAnyH_take (i := 9) (v := ?_) lot9 (by kernel_rfl) (by kernel_rfl) (by kernel_rfl) (fun _ _ _ h => h) (Or.inl ⟨by rfl, ?_⟩) (by assumption) ?_
    rotate_left
    · (intro w hSw; (try dsimp only at hSw); go_simp) <;> with_reducible rfl
    try simp only [Act.put, List.setIfInBounds_toArray, List.set_cons_zero, List.set_cons_succ]
    refine wpAnyH_take (i := 10) (v := ?_) lot10 (by kernel_rfl) (by kernel_rfl) (by kernel_rfl) (fun _ _ _ h => h) (Or.inl ⟨by rfl, ?_⟩) (by assumption) ?_
    rotate_left
    · (intro w hSw; (try dsimp only at hSw); go_simp) <;> with_reducible rfl
    try simp only [Act.put, List.setIfInBounds_toArray, List.set_cons_zero, List.set_cons_succ]
    refine wpAnyH_ready (rs := [8]) (by kernel_rfl) (by simp) ?_
    refine AllReadyH.cons lot8 (fun K hK => ?_) AllReadyH.nil
    go_simp
    go_at_call 33
    with_reducible refine (HC1.out _ (by assumption)).mono ?_
    rintro e wx ⟨rfl, Fx⟩
    have Gx := Fr.tr (a := u0) (by assumption) Fx
    obtain ⟨z00, z01, z02, z03, z04, z05⟩ := six (Gx.at_ D0.out (fun h => h))
    obtain ⟨z10, z11, z12, z13, z14, z15⟩ := six (Gx.at_ D1.out (fun h => h))
    clear Fx
    refine hK.out _ _ ⟨z00, z01, z02, z03, z04, z05, z10, z11, z12, z13, z14, z15⟩ (fun hHeld => ?_)
    clear hK K
    try simp only [Act.put, List.setIfInBounds_toArray, List.set_cons_zero, List.set_cons_succ]
    refine wpAnyH_ready (rs := [11]) (by kernel_rfl) (by simp) ?_
    refine AllReadyH.cons lot11 (fun K hK => ?_) AllReadyH.nil
    go_simp
    go_at_call 33
    with_reducible refine (HC0.out _ (by assumption)).mono ?_
    rintro e wx ⟨rfl, Fx⟩
    have Gx := Fr.tr (a := u0) (by assumption) Fx
    obtain ⟨z00, z01, z02, z03, z04, z05⟩ := six (Gx.at_ D0.out (fun h => h))
    obtain ⟨z10, z11, z12, z13, z14, z15⟩ := six (Gx.at_ D1.out (fun h => h))
    clear Fx
    refine hK.out _ _ ⟨z00, z01, z02, z03, z04, z05, z10, z11, z12, z13, z14, z15⟩ (fun hHeld => ?_)
    clear hK K
    try simp only [Act.put, List.setIfInBounds_toArray, List.set_cons_zero, List.set_cons_succ]
    refine wpAnyH_take (i := 12) (v := ?_) lot12 (by kernel_rfl) (by kernel_rfl) (by kernel_rfl) (fun _ _ _ h => h) (Or.inl ⟨by rfl, ?_⟩) (by assumption) ?_
    rotate_left
    · (intro w hSw; (try dsimp only at hSw); go_simp) <;> with_reducible rfl
    try simp only [Act.put, List.setIfInBounds_toArray, List.set_cons_zero, List.set_cons_succ]
    refine wpAnyH_take (i := 13) (v := ?_) lot13 (by kernel_rfl) (by kernel_rfl) (by kernel_rfl) (fun _ _ _ h => h) (Or.inl ⟨by rfl, ?_⟩) (by assumption) ?_
    rotate_left
    · (intro w hSw; (try dsimp only at hSw); go_simp) <;> with_reducible rfl
    try simp only [Act.put, List.setIfInBounds_toArray, List.set_cons_zero, List.set_cons_succ]
    refine wpAnyH_take (i := 14) (v := ?_) lot14 (by kernel_rfl) (by kernel_rfl) (by kernel_rfl) (fun _ _ _ h => h) (Or.inl ⟨by rfl, ?_⟩) (by assumption) ?_
    rotate_left
    · (intro w hSw; (try dsimp only at hSw); go_simp) <;> with_reducible rfl
    try simp only [Act.put, List.setIfInBounds_toArray, List.set_cons_zero, List.set_cons_succ]
    refine wpAnyH_take (i := 15) (v := ?_) lot15 (by kernel_rfl) (by kernel_rfl) (by kernel_rfl) (fun _ _ _ h => h) (Or.inl ⟨by rfl, ?_⟩) (by assumption) ?_
    rotate_left
    · (intro w hSw; (try dsimp only at hSw); go_simp) <;> with_reducible rfl
    try simp only [Act.put, List.setIfInBounds_toArray, List.set_cons_zero, List.set_cons_succ]
    refine wpAnyH_take (i := 17) (v := ?_) lot17 (by kernel_rfl) (by kernel_rfl) (by kernel_rfl) (fun _ _ _ h => h) (Or.inl ⟨by rfl, ?_⟩) (by assumption) ?_
    rotate_left
    · (intro w hSw; (try dsimp only at hSw); go_simp) <;> with_reducible rfl
    try simp only [Act.put, List.setIfInBounds_toArray, List.set_cons_zero, List.set_cons_succ]
    refine wpAnyH_ready (rs := [16]) (by kernel_rfl) (by simp) ?_
    refine AllReadyH.cons lot16 (fun K hK => ?_) AllReadyH.nil
    go_simp
    go_at_call 34
    with_reducible refine (HU1.out _ (by assumption)).mono ?_
    rintro e wx ⟨rfl, Fx⟩
    have Gx := Fr.tr (a := u0) (by assumption) Fx
    obtain ⟨z00, z01, z02, z03, z04, z05⟩ := six (Gx.at_ D0.out (fun h => h))
    obtain ⟨z10, z11, z12, z13, z14, z15⟩ := six (Gx.at_ D1.out (fun h => h))
    clear Fx
    refine hK.out _ _ ⟨z00, z01, z02, z03, z04, z05, z10, z11, z12, z13, z14, z15⟩ (fun hHeld => ?_)
    clear hK K
    try simp only [Act.put, List.setIfInBounds_toArray, List.set_cons_zero, List.set_cons_succ]
    refine wpAnyH_ready (rs := [18]) (by kernel_rfl) (by simp) ?_
    refine AllReadyH.cons lot18 (fun K hK => ?_) AllReadyH.nil
    go_simp
    go_at_call 34
    with_reducible refine (HU0.out _ (by assumption)).mono ?_
    rintro e wx ⟨rfl, Fx⟩
    have Gx := Fr.tr (a := u0) (by assumption) Fx
    obtain ⟨z00, z01, z02, z03, z04, z05⟩ := six (Gx.at_ D0.out (fun h => h))
    obtain ⟨z10, z11, z12, z13, z14, z15⟩ := six (Gx.at_ D1.out (fun h => h))
    clear Fx
    refine hK.out _ _ ⟨z00, z01, z02, z03, z04, z05, z10, z11, z12, z13, z14, z15⟩ (fun hHeld => ?_)
    clear hK K
    try simp only [Act.put, List.setIfInBounds_toArray, List.set_cons_zero, List.set_cons_succ]
    refine wpAnyH_take (i := 19) (v := ?_) lot19 (by kernel_rfl) (by kernel_rfl) (by kernel_rfl) (fun _ _ _ h => h) (Or.inl ⟨by rfl, ?_⟩) (by assumption) ?_
    rotate_left
    · (intro w hSw; (try dsimp only at hSw); go_simp) <;> with_reducible rfl
    try simp only [Act.put, List.setIfInBounds_toArray, List.set_cons_zero, List.set_cons_succ]
    refine wpAnyH_take (i := 20) (v := ?_) lot20 (by kernel_rfl) (by kernel_rfl) (by kernel_rfl) (fun _ _ _ h => h) (Or.inl ⟨by rfl, ?_⟩) (by assumption) ?_
    rotate_left
    · (intro w hSw; (try dsimp only at hSw); go_simp) <;> with_reducible rfl
    try simp only [Act.put, List.setIfInBounds_toArray, List.set_cons_zero, List.set_cons_succ]
    refine wpAnyH_take (i := 21) (v := ?_) lot21 (by kernel_rfl) (by kernel_rfl) (by kernel_rfl) (fun _ _ _ h => h) (Or.inl ⟨by rfl, ?_⟩) (by assumption) ?_
    rotate_left
    · (intro w hSw; (try dsimp only at hSw); go_simp) <;> with_reducible rfl
    try simp only [Act.put, List.setIfInBounds_toArray, List.set_cons_zero, List.set_cons_succ]
    refine wpAnyH_done (by kernel_rfl) ?_ _
    go_wp2_with fail
    go_ret
    exact ⟨rfl, (HG.out.tr (by assumption)).below⟩

theorem regexShows_any (a s : ByteArray) (w : World) (ha : a.size ≤ 140737488351232) (hs : s.size ≤ 140737488351232) :
    Calls Try.prog 8 #[.string a, .string s] w fun e w' => e = .returned (.bool true) ∧ Below w.heap.size w w' := by
  by_cases h : 40 < a.size ∨ 40 < s.size
  · exact shows_far a s w ha hs h
  · exact shows_near a s w (by omega) (by omega)

end Go.Proofs.Ytgpmbkgedhcbjaa
