/-
  The law DocParts: an edit is what stands ahead, what is put in, what stands behind; two edits don't mind each other.
-/
import Derived.Test.YtenbebahkmciiaaDoorDx
namespace Go.Proofs.YtenbebahkmciiaaDoor
open Go.RowKit

/-- What two edits come to. -/
def twoTxt (t : ByteArray) (a b c d : Nat) (s u : ByteArray) : ByteArray := t.extract 0 a ++ s ++ t.extract b c ++ u ++ t.extract d t.size

theorem putTxt_list (t s : ByteArray) (a b : Nat) : (putTxt t a b s).data.toList = t.data.toList.take a ++ s.data.toList ++ t.data.toList.drop b := by
  simp [putTxt, ByteArray.data_append, ByteArray.data_extract, Array.toList_extract, List.extract_eq_take_drop]
  rw [List.take_of_length_le]
  simp
theorem list_ext {x y : ByteArray} (h : x.data.toList = y.data.toList) : x = y := by
  apply ByteArray.ext; exact Array.toList_inj.1 h
theorem twoTxt_list (t s u : ByteArray) (a b c d : Nat) : (twoTxt t a b c d s u).data.toList = t.data.toList.take a ++ s.data.toList ++ (t.data.toList.drop b).take (c - b) ++ u.data.toList ++ t.data.toList.drop d := by
  simp [twoTxt, ByteArray.data_append, ByteArray.data_extract, Array.toList_extract, List.extract_eq_take_drop]
  rw [List.take_of_length_le]
  simp
theorem two_back (t : ByteArray) (a b c d : Nat) (s u : ByteArray) (h1 : a ≤ b) (h2 : b ≤ c) (h3 : c ≤ d) (h4 : d ≤ t.size) :
    putTxt (putTxt t c d u) a b s = twoTxt t a b c d s u := by
  apply list_ext
  rw [putTxt_list, putTxt_list, twoTxt_list]
  have hl : t.data.toList.length = t.size := by simp
  generalize t.data.toList = L at *
  have e1 : min a c = a := by omega
  have e2 : a - min c L.length = 0 := by omega
  have e3 : b - min c L.length = 0 := by omega
  simp [List.take_append, List.drop_append, List.take_take, e1, e2, e3, List.drop_take]
theorem two_fore (t : ByteArray) (a b c d : Nat) (s u : ByteArray) (h1 : a ≤ b) (h2 : b ≤ c) (h3 : c ≤ d) (h4 : d ≤ t.size) :
    putTxt (putTxt t a b s) ((c : Int) - b + a + s.size) ((d : Int) - b + a + s.size) u = twoTxt t a b c d s u := by
  have i1 : (c : Int) - b + a + s.size = ((c - b + a + s.size : Nat) : Int) := by omega
  have i2 : (d : Int) - b + a + s.size = ((d - b + a + s.size : Nat) : Int) := by omega
  rw [i1, i2]
  apply list_ext
  rw [putTxt_list, putTxt_list, twoTxt_list]
  have hl : t.data.toList.length = t.size := by simp
  have hs : s.data.toList.length = s.size := by simp
  generalize t.data.toList = L at *
  generalize s.data.toList = S at *
  have e0 : min a L.length = a := by omega
  have e1 : min (c - b + a + s.size) a = a := by omega
  have e2 : c - b + a + s.size - a - S.length = c - b := by omega
  have e3 : d - b + a + s.size - a - S.length = d - b := by omega
  have e4 : S.length ≤ c - b + a + s.size - a := by omega
  have e5 : S.length ≤ d - b + a + s.size - a := by omega
  have e6 : a ≤ d - b + a + s.size := by omega
  have e7 : a - (d - b + a + s.size) = 0 := by omega
  have e8 : b + (d - b) = d := by omega
  simp [List.take_append, List.drop_append, List.take_take, e0, e1, e2, e3, e7, e8, List.take_of_length_le e4, List.drop_eq_nil_of_le e5, List.drop_take]
theorem putTxt_size (t : ByteArray) (a b : Nat) (s : ByteArray) (h1 : a ≤ b) (h2 : b ≤ t.size) : (putTxt t a b s).size = a + s.size + (t.size - b) := by
  simp [putTxt, ByteArray.size_append, ByteArray.size_extract]; omega

set_option maxRecDepth 100000 in
set_option maxHeartbeats 4000000 in
theorem docParts_any (t : ByteArray) (a b c d : Int) (s u : ByteArray) (w : World) (ht : t.size ≤ 140737488351232) (hs : s.size ≤ 140737488351232) (hu : u.size ≤ 140737488351232) :
    Calls Tryd.prog 4 #[.string t, .int .i64 a, .int .i64 b, .int .i64 c, .int .i64 d, .string s, .string u] w fun e w' => e = .returned (.bool true) ∧ Below w.heap.size w w' := by
  by_cases h0 : 40 < t.size
  · go_enter Tryd.func4, Tryd.ntmps4
    go_wp2_with fail
    refine (works_any _).mono ?_
    rintro e w1 ⟨rfl, B1⟩
    have HB1 := Lib.hid B1
    clear B1
    go_wp2_with fail
    go_ret
    exact ⟨rfl, HB1.out⟩
  by_cases h1 : 40 < s.size
  · go_enter Tryd.func4, Tryd.ntmps4
    go_wp2_with fail
    refine (works_any _).mono ?_
    rintro e w1 ⟨rfl, B1⟩
    have HB1 := Lib.hid B1
    clear B1
    go_wp2_with fail
    go_ret
    exact ⟨rfl, HB1.out⟩
  by_cases h2 : 40 < u.size
  · go_enter Tryd.func4, Tryd.ntmps4
    go_wp2_with fail
    refine (works_any _).mono ?_
    rintro e w1 ⟨rfl, B1⟩
    have HB1 := Lib.hid B1
    clear B1
    go_wp2_with fail
    go_ret
    exact ⟨rfl, HB1.out⟩
  by_cases h3 : a < 0
  · go_enter Tryd.func4, Tryd.ntmps4
    go_wp2_with fail
    refine (works_any _).mono ?_
    rintro e w1 ⟨rfl, B1⟩
    have HB1 := Lib.hid B1
    clear B1
    go_wp2_with fail
    go_ret
    exact ⟨rfl, HB1.out⟩
  by_cases h4 : b < a
  · go_enter Tryd.func4, Tryd.ntmps4
    go_wp2_with fail
    refine (works_any _).mono ?_
    rintro e w1 ⟨rfl, B1⟩
    have HB1 := Lib.hid B1
    clear B1
    go_wp2_with fail
    go_ret
    exact ⟨rfl, HB1.out⟩
  by_cases h5 : c < b
  · go_enter Tryd.func4, Tryd.ntmps4
    go_wp2_with fail
    refine (works_any _).mono ?_
    rintro e w1 ⟨rfl, B1⟩
    have HB1 := Lib.hid B1
    clear B1
    go_wp2_with fail
    go_ret
    exact ⟨rfl, HB1.out⟩
  by_cases h6 : d < c
  · go_enter Tryd.func4, Tryd.ntmps4
    go_wp2_with fail
    refine (works_any _).mono ?_
    rintro e w1 ⟨rfl, B1⟩
    have HB1 := Lib.hid B1
    clear B1
    go_wp2_with fail
    go_ret
    exact ⟨rfl, HB1.out⟩
  by_cases h7 : (t.size : Int) < d
  · go_enter Tryd.func4, Tryd.ntmps4
    go_wp2_with fail
    refine (works_any _).mono ?_
    rintro e w1 ⟨rfl, B1⟩
    have HB1 := Lib.hid B1
    clear B1
    go_wp2_with fail
    go_ret
    exact ⟨rfl, HB1.out⟩
  obtain ⟨a, rfl⟩ := Int.eq_ofNat_of_zero_le (show 0 ≤ a by omega)
  obtain ⟨b, rfl⟩ := Int.eq_ofNat_of_zero_le (show 0 ≤ b by omega)
  obtain ⟨c, rfl⟩ := Int.eq_ofNat_of_zero_le (show 0 ≤ c by omega)
  obtain ⟨d, rfl⟩ := Int.eq_ofNat_of_zero_le (show 0 ≤ d by omega)
  have k1 : a ≤ b := by omega
  have k2 : b ≤ c := by omega
  have k3 : c ≤ d := by omega
  have k4 : d ≤ t.size := by omega
  have z1 := Lib.hid (putTxt_size t c d u k3 k4)
  have z2 := Lib.hid (putTxt_size t a b s k1 (by omega))
  go_enter Tryd.func4, Tryd.ntmps4
  go_wp2_with fail
  refine (works_any _).mono ?_
  rintro e w1 ⟨rfl, B1⟩
  have HB1 := Lib.hid B1
  clear B1
  go_wp2_with fail
  refine (put_ok _ _ _ _ _ ht hu (by omega) (by omega) (by omega) (by omega)).mono ?_
  rintro e w2 ⟨rfl, n1, rfl⟩
  go_wp2_with fail
  refine (put_ok _ _ _ _ _ (by have := z1.out; omega) hs (by omega) (by omega) (by have := z1.out; omega) (by have := z1.out; omega)).mono ?_
  rintro e w2 ⟨rfl, n2, rfl⟩
  go_wp2_with fail
  refine (put_ok _ _ _ _ _ ht hs (by omega) (by omega) (by omega) (by omega)).mono ?_
  rintro e w2 ⟨rfl, n3, rfl⟩
  go_wp2_with fail
  refine (put_ok _ _ _ _ _ (by have := z2.out; omega) hu (by omega) (by omega) (by have := z2.out; omega) (by have := z2.out; omega)).mono ?_
  rintro e w2 ⟨rfl, n4, rfl⟩
  rw [two_back t a b c d s u k1 k2 k3 k4, two_fore t a b c d s u k1 k2 k3 k4]
  have e1 : (0 : Int) ≤ (a : Int) := by omega
  have e2 : (a : Int) ≤ (t.size : Int) := by omega
  have e3 : (b : Int) ≤ (c : Int) := by omega
  have e4 : (c : Int) ≤ (t.size : Int) := by omega
  have e5 : (d : Int) ≤ (t.size : Int) := by omega
  have c1 : (t.extract 0 a).size + s.size ≤ 9223372036854775807 := by simp [ByteArray.size_extract]; omega
  have c2 : (t.extract 0 a ++ s).size + (t.extract b c).size ≤ 9223372036854775807 := by simp [ByteArray.size_extract, ByteArray.size_append]; omega
  have c3 : (t.extract 0 a ++ s ++ t.extract b c).size + u.size ≤ 9223372036854775807 := by simp [ByteArray.size_extract, ByteArray.size_append]; omega
  have c4 : (t.extract 0 a ++ s ++ t.extract b c ++ u).size + (t.extract d t.size).size ≤ 9223372036854775807 := by simp [ByteArray.size_extract, ByteArray.size_append]; omega
  go_wp2_with fail
  unfold twoTxt
  go_quiet (fail)
  go_wp2
  go_ret
  exact ⟨rfl, by repeat (first | exact HB1.out | apply below_drewN)⟩
end Go.Proofs.YtenbebahkmciiaaDoor
