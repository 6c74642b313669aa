/-
  The law's own example, and the reference's Put: what each call comes to.
-/
import Derived.Test.YtenbebahkmciiaaDoorDw
namespace Go.Proofs.YtenbebahkmciiaaDoor
open Go.RowKit

set_option maxRecDepth 100000 in
set_option maxHeartbeats 1000000 in
theorem works_any (w : World) : Calls Tryd.prog 5 #[] w fun e w' => e = .returned (.bool true) ∧ Below w.heap.size w w' := by
  go_enter Tryd.func5, Tryd.ntmps5
  go_wp2_with fail
  refine (put_ok ⟨#[97, 98]⟩ ⟨#[120]⟩ 1 2 _ (by decide) (by decide) (by decide) (by decide) (by decide) (by decide)).mono ?_
  rintro e w1 ⟨rfl, n, rfl⟩
  rw [putTxt_ax]
  go_wp2_with fail
  refine (put_bad ⟨#[97, 98]⟩ ⟨#[120]⟩ 1 3 _ (by decide) (by decide)).mono ?_
  rintro e w1 ⟨rfl, rfl⟩
  go_wp2_with fail
  refine (new_any ⟨#[97, 98]⟩ _).mono ?_
  rintro e w1 ⟨rfl, hw1⟩
  have B1 : Below w.heap.size w w1 := by rw [hw1]; exact (below_drewN (Below.refl _ _) n).alloc (Nat.le_refl _) _
  have K1 : w1.heap[w.heap.size]? = some (docObj ⟨#[97, 98]⟩ (.pointer none) (.pointer none) (.pointer none)) := by rw [hw1]; exact Array.getElem?_push_size
  clear hw1
  have HB1 := Lib.hid B1
  have HK1 := Lib.hid K1
  clear B1 K1
  go_wp2_with fail
  refine (edit_ok w.heap.size ⟨#[97, 98]⟩ ⟨#[120]⟩ 1 2 _ _ _ (by decide) (by decide) (by decide) (by decide) (by decide) (by decide) HK1.out).mono ?_
  rintro e w2 ⟨rfl, k2, z2, B2⟩
  rw [putTxt_ax] at k2
  obtain ⟨d2, c0, c1⟩ := docObj_cells k2
  have HB2 := Lib.hid (HB1.out.trans B2)
  have HZ2 := Lib.hid z2
  clear B2 z2 HK1 HB1 k2
  go_wp2_with (first | (go_at_call 10; refine (text_any _ ⟨_, 0, none⟩ _ c0).mono ?_; rintro e w' ⟨rfl, rfl⟩) | (go_at_call 11; refine (parser_any ⟨_, 0, none⟩ none _ c1).mono ?_; rintro e w' ⟨rfl, rfl⟩))
  refine (result_nil ⟨_, 0, none⟩ _ c1 d2).mono ?_
  rintro e w3 ⟨rfl, B3⟩
  have c3 : w3.cell? ⟨w.heap.size, 0, none⟩ = some (Value.string { data := #[97, 120] }) := by rw [B3.cell d2]; exact c0
  have d3 : w.heap.size < w3.heap.size := Nat.lt_of_lt_of_le d2 B3.size
  have HB3 := Lib.hid (HB2.out.trans (B3.mono (Nat.le_of_lt d2)))
  clear B3 c0 c1 HB2 HZ2 d2
  unfold nothing
  have hfield : ∀ w, (Instr.field 38 (.agg #[.bool false, .slice none 0 0, .int .i64 0, .int .u64 0]) 1).run Tryd.prog w = .ok (.slice none 0 0) w := fun _ => by kernel_rfl
  go_wp2_with fail
  refine (edit_err _ _ _ 5 5 _ (by decide) (by decide) d3 c3).mono ?_
  rintro e w4 ⟨rfl, B4⟩
  have HB4 := Lib.hid (HB3.out.trans (B4.mono (Nat.le_of_lt d3)))
  clear B4
  go_wp2
  go_ret
  exact ⟨rfl, HB4.out⟩

/-- Bytes one by one come to all of them. -/
theorem extract_step (t : ByteArray) (i j : Nat) (h : i ≤ j) (hj : j < t.size) : t.extract i j ++ t.extract j (j + 1) = t.extract i (j + 1) := by
  apply ByteArray.ext
  simp only [ByteArray.data_append, ByteArray.data_extract]
  rw [Array.extract_append_extract]
  congr 1 <;> omega
theorem app_nil (x : ByteArray) : x ++ (⟨#[]⟩ : ByteArray) = x := by
  apply ByteArray.ext; simp [ByteArray.data_append]
theorem extract_self (t : ByteArray) (i : Nat) : t.extract i i = ⟨#[]⟩ := by
  apply ByteArray.ext; simp [ByteArray.data_extract]

theorem ref_bad (t s : ByteArray) (a b : Int) (w : World) (ht : t.size ≤ 140737488351232) (h : a < 0 ∨ b < a ∨ (t.size : Int) < b) :
    Calls Tryd.prog 7 #[.string t, .int .i64 a, .int .i64 b, .string s] w fun e w' => e = .returned (.tuple #[.string ⟨#[]⟩, .int .i64 1]) ∧ w = w' := by
  by_cases h1 : a < 0
  · go_enter Tryd.func7, Tryd.ntmps7
    go_wp2
    go_ret2
    exact ⟨rfl, rfl⟩
  · by_cases h2 : b < a
    · go_enter Tryd.func7, Tryd.ntmps7
      go_wp2
      go_ret2
      exact ⟨rfl, rfl⟩
    · have h3 : (t.size : Int) < b := by omega
      clear h
      go_enter Tryd.func7, Tryd.ntmps7
      go_wp2
      go_ret2
      exact ⟨rfl, rfl⟩

theorem ref_many (t s : ByteArray) (a b : Int) (w : World) (ht : t.size ≤ 140737488351232) (hs : s.size ≤ 140737488351232) (h1 : 0 ≤ a) (h2 : a ≤ b) (h3 : b ≤ (t.size : Int))
    (h : 20000 < (t.size : Int) - (b - a) + s.size) :
    Calls Tryd.prog 7 #[.string t, .int .i64 a, .int .i64 b, .string s] w fun e w' => e = .returned (.tuple #[.string ⟨#[]⟩, .int .i64 4]) ∧ w = w' := by
  go_enter Tryd.func7, Tryd.ntmps7
  go_wp2
  go_ret2
  exact ⟨rfl, rfl⟩

theorem ref_ok (t s : ByteArray) (a b : Int) (w : World) (ht : t.size ≤ 140737488351232) (hs : s.size ≤ 140737488351232) (h1 : 0 ≤ a) (h2 : a ≤ b) (h3 : b ≤ (t.size : Int))
    (h : (t.size : Int) - (b - a) + s.size ≤ 20000) :
    Calls Tryd.prog 7 #[.string t, .int .i64 a, .int .i64 b, .string s] w fun e w' => e = .returned (.tuple #[.string (putTxt t a b s), .int .i64 0]) ∧ ∃ n, w' = w.drewN n := by
  obtain ⟨a, rfl⟩ := Int.eq_ofNat_of_zero_le h1
  obtain ⟨b, rfl⟩ := Int.eq_ofNat_of_zero_le (show 0 ≤ b by omega)
  go_enter Tryd.func7, Tryd.ntmps7
  go_wp2_with fail
  go_loop [10, 11] (fun o i => ∃ k : Nat, k ≤ a ∧ i = .int .i64 k ∧ o = .string (t.extract 0 k)) (fun _ i => a - (intOf i).toNat)
  case atStart => exact ⟨0, Nat.zero_le _, rfl, by rw [extract_self]⟩
  case round =>
    obtain ⟨k, hk, rfl, rfl⟩ := hrel
    by_cases hlt : k < a
    · have e1 : (t.extract 0 k).size + (t.extract k (k + 1)).size ≤ 9223372036854775807 := by simp [ByteArray.size_extract]; omega
      have hst := Lib.hid (extract_step t 0 k (Nat.zero_le _) (by omega))
      have g1 : (0 : Int) ≤ (k : Int) + 1 := by omega
      have g2 : (k : Int) + 1 ≤ (t.size : Int) := by omega
      have g3 : (k : Int) ≤ (k : Int) + 1 := by omega
      go_wp2
      exact ⟨⟨k + 1, by omega, by go_num, rfl⟩, by simp [intOf]; omega⟩
    · obtain rfl : k = a := by omega
      have e2 : (t.extract 0 k).size + s.size ≤ 9223372036854775807 := by simp [ByteArray.size_extract]; omega
      go_wp2_with fail
      go_loop [10, 12] (fun o i => ∃ j : Nat, b ≤ j ∧ j ≤ t.size ∧ i = .int .i64 j ∧ o = .string (t.extract 0 k ++ s ++ t.extract b j)) (fun _ i => t.size - (intOf i).toNat)
      case atStart => exact ⟨b, Nat.le_refl _, by omega, rfl, by rw [extract_self, app_nil]⟩
      case round =>
        obtain ⟨j, hj, hj2, rfl, rfl⟩ := hrel
        by_cases hlt2 : j < t.size
        · have e3 : (t.extract 0 k ++ s ++ t.extract b j).size + (t.extract j (j + 1)).size ≤ 9223372036854775807 := by simp [ByteArray.size_extract, ByteArray.size_append]; omega
          have g1 : (0 : Int) ≤ (j : Int) + 1 := by omega
          have g2 : (j : Int) + 1 ≤ (t.size : Int) := by omega
          have g3 : (j : Int) ≤ (j : Int) + 1 := by omega
          go_wp2
          exact ⟨⟨j + 1, by omega, by omega, by go_num, by rw [ByteArray.append_assoc, extract_step t b j hj hlt2]⟩, by simp [intOf]; omega⟩
        · obtain rfl : j = t.size := by omega
          go_wp2
          go_ret2
          exact ⟨rfl, 0, rfl⟩

/-- THE LAW: what any edit comes to is what the reference says. -/
theorem docPuts_any (t : ByteArray) (a b : Int) (s : ByteArray) (w : World) (ht : t.size ≤ 140737488351232) (hs : s.size ≤ 140737488351232) :
    Calls Tryd.prog 3 #[.string t, .int .i64 a, .int .i64 b, .string s] w fun e w' => e = .returned (.bool true) ∧ Below w.heap.size w w' := by
  by_cases hskip : 40 < t.size ∨ (40 < s.size ∧ s.size < 20000) ∨ 30000 < s.size
  · have HS := Lib.hid hskip
    clear hskip
    by_cases h1 : 40 < t.size
    · go_enter Tryd.func3, Tryd.ntmps3
      go_wp2_with fail
      refine (works_any _).mono ?_
      rintro e w1 ⟨rfl, B1⟩
      have HB1 := Lib.hid B1
      clear B1
      go_wp2_with fail
      go_ret
      exact ⟨rfl, HB1.out⟩
    · by_cases h2 : 40 < s.size ∧ s.size < 20000
      · obtain ⟨h2, h3⟩ := h2
        go_enter Tryd.func3, Tryd.ntmps3
        go_wp2_with fail
        refine (works_any _).mono ?_
        rintro e w1 ⟨rfl, B1⟩
        have HB1 := Lib.hid B1
        clear B1
        go_wp2_with fail
        go_ret
        exact ⟨rfl, HB1.out⟩
      · have h3 : 30000 < s.size := by have := HS.out; omega
        have h4 : 40 < s.size := by omega
        have h5 : ¬ s.size < 20000 := by omega
        clear h2
        go_enter Tryd.func3, Tryd.ntmps3
        go_wp2_with fail
        refine (works_any _).mono ?_
        rintro e w1 ⟨rfl, B1⟩
        have HB1 := Lib.hid B1
        clear B1
        go_wp2_with fail
        go_ret
        exact ⟨rfl, HB1.out⟩
  · have h1 : ¬ 40 < t.size := by omega
    have h3 : ¬ 30000 < s.size := by omega
    have key : (a < 0 ∨ b < a ∨ (t.size : Int) < b) ∨ (0 ≤ a ∧ a ≤ b ∧ b ≤ (t.size : Int) ∧ 20000 < (t.size : Int) - (b - a) + s.size) ∨ (0 ≤ a ∧ a ≤ b ∧ b ≤ (t.size : Int) ∧ (t.size : Int) - (b - a) + s.size ≤ 20000) := by omega
    have HK := Lib.hid key
    have HS := Lib.hid hskip
    clear key hskip
    by_cases h2 : 40 < s.size
    · have h4 : ¬ s.size < 20000 := by have := HS.out; omega
      go_enter Tryd.func3, Tryd.ntmps3
      go_wp2_with fail
      refine (works_any _).mono ?_
      rintro e w1 ⟨rfl, B1⟩
      have HB1 := Lib.hid B1
      clear B1
      go_wp2_with fail
      rcases HK.out with k | ⟨k1, k2, k3, k4⟩ | ⟨k1, k2, k3, k4⟩
      · have HKK := Lib.hid k
        clear k
        refine (put_bad _ _ _ _ _ ht HKK.out).mono ?_
        rintro e w2 ⟨rfl, rfl⟩
        go_wp2_with fail
        refine (ref_bad _ _ _ _ _ ht HKK.out).mono ?_
        rintro e w2 ⟨rfl, rfl⟩
        go_wp2_with fail
        go_ret
        exact ⟨rfl, HB1.out⟩
      · refine (put_many _ _ _ _ _ ht hs k1 k2 k3 k4).mono ?_
        rintro e w2 ⟨rfl, rfl⟩
        go_wp2_with fail
        refine (ref_many _ _ _ _ _ ht hs k1 k2 k3 k4).mono ?_
        rintro e w2 ⟨rfl, rfl⟩
        go_wp2_with fail
        go_ret
        exact ⟨rfl, HB1.out⟩
      · refine (put_ok _ _ _ _ _ ht hs k1 k2 k3 k4).mono ?_
        rintro e w2 ⟨rfl, n, rfl⟩
        go_wp2_with fail
        refine (ref_ok _ _ _ _ _ ht hs k1 k2 k3 k4).mono ?_
        rintro e w2 ⟨rfl, m, rfl⟩
        go_wp2_with fail
        go_ret
        exact ⟨rfl, below_drewN HB1.out _⟩
    · go_enter Tryd.func3, Tryd.ntmps3
      go_wp2_with fail
      refine (works_any _).mono ?_
      rintro e w1 ⟨rfl, B1⟩
      have HB1 := Lib.hid B1
      clear B1
      go_wp2_with fail
      rcases HK.out with k | ⟨k1, k2, k3, k4⟩ | ⟨k1, k2, k3, k4⟩
      · have HKK := Lib.hid k
        clear k
        refine (put_bad _ _ _ _ _ ht HKK.out).mono ?_
        rintro e w2 ⟨rfl, rfl⟩
        go_wp2_with fail
        refine (ref_bad _ _ _ _ _ ht HKK.out).mono ?_
        rintro e w2 ⟨rfl, rfl⟩
        go_wp2_with fail
        go_ret
        exact ⟨rfl, HB1.out⟩
      · refine (put_many _ _ _ _ _ ht hs k1 k2 k3 k4).mono ?_
        rintro e w2 ⟨rfl, rfl⟩
        go_wp2_with fail
        refine (ref_many _ _ _ _ _ ht hs k1 k2 k3 k4).mono ?_
        rintro e w2 ⟨rfl, rfl⟩
        go_wp2_with fail
        go_ret
        exact ⟨rfl, HB1.out⟩
      · refine (put_ok _ _ _ _ _ ht hs k1 k2 k3 k4).mono ?_
        rintro e w2 ⟨rfl, n, rfl⟩
        go_wp2_with fail
        refine (ref_ok _ _ _ _ _ ht hs k1 k2 k3 k4).mono ?_
        rintro e w2 ⟨rfl, m, rfl⟩
        go_wp2_with fail
        go_ret
        exact ⟨rfl, below_drewN HB1.out _⟩
end Go.Proofs.YtenbebahkmciiaaDoor
