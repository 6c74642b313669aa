/-
  Sets of small numbers: the least one; all of a row.
-/
import Derived.Test.YtgpmbkgedhcbjaaDoorNp
import Derived.Test.YtgpmbkgedhcbjaaDoorNu
import Derived.Shelf.Spec.TrailingZeros
namespace Go.Proofs.YtgpmbkgedhcbjaaDoor
open Go.RowKit

/-- The table of math/bits, where the program has it. -/
def TabOk (w : World) : Prop := TabAt 0 Lib.deBruijn64tab w
theorem TabOk.move {w w' : World} (h : TabOk w) (hf : Fr none_ w w') : TabOk w' := fun j hj => hf.cell (h j hj) (fun h => h)

set_option maxHeartbeats 1000000 in
theorem tz_core (x k idx : Nat) (w : World) (hx0 : ((x : Int) == 0) = false)
    (key : IntKind.u64.wrap (bits BinOp.and IntKind.u64 (x : Int) (IntKind.u64.wrap (-(x : Int))) * 285870213051353865) / 288230376151711744 = (idx : Int))
    (hi : idx < 64) (hk : k < 64) (hcell : w.cell? ⟨0, idx, none⟩ = some (.int .u8 k)) :
    Calls Tryd.prog 38 #[.int .u64 x] w fun e w' => e = .returned (.int .i64 k) ∧ w = w' := by
  go_enter Tryd.func38, Tryd.ntmps38
  go_wp2_with (simp only [key])
  go_ret
  exact ⟨rfl, rfl⟩
theorem tz_any (x : Nat) (hx : x < 18446744073709551616) (hx0 : x ≠ 0) (w : World) (hT : TabOk w) :
    Calls Tryd.prog 38 #[.int .u64 x] w fun e w' => e = .returned (.int .i64 (Lib.ctz 64 x)) ∧ w = w' := by
  obtain ⟨hlow, hk⟩ := Lib.lowest_bit 64 x hx0 hx
  obtain ⟨hi, htab⟩ := Lib.deBruijn64_at _ hk
  have hcell := hT _ hi
  rw [htab] at hcell
  exact tz_core x _ _ w (by simp; omega) (tz64_key x _ hx hx0 hlow) hi hk hcell
set_option maxHeartbeats 1000000 in
theorem first_any (x : Nat) (hx : x < 18446744073709551616) (hx0 : x ≠ 0) (w : World) (hT : TabOk w) :
    Calls Tryd.prog 32 #[.int .u64 x] w fun e w' => e = .returned (.int .i64 (Lib.ctz 64 x)) ∧ w = w' := by
  have h0 : ((x : Int) == 0) = false := by simp; omega
  have HT := Lib.hid hT
  clear hT
  go_enter Tryd.func32, Tryd.ntmps32
  go_wp2_with fail
  refine (tz_any x hx hx0 _ HT.out).mono ?_
  rintro e w' ⟨rfl, rfl⟩
  go_wp2_with fail
  go_ret
  exact ⟨rfl, rfl⟩

/-- A set's numbers, rising. -/
def bitsL (s : Nat) : List Nat := (List.range 64).filter fun i => s.testBit i
theorem low_form (x : Nat) (hx : x < 18446744073709551616) (h0 : x ≠ 0) : ∃ m, x = 2 ^ Lib.ctz 64 x * (2 * m + 1) ∧ Lib.ctz 64 x < 64 := by
  have e : Lib.ctz 64 x = Lib.ctzFrom 64 x := by simp [Lib.ctz, h0]
  rw [e]
  exact Lib.ctzFrom_spec 64 x (by omega) hx
theorem testBit_low (k m i : Nat) : (2 ^ k * (2 * m + 1)).testBit i = (decide (i = k) || (decide (k < i) && (2 ^ k * (2 * m)).testBit i)) := by
  rw [Nat.mul_comm (2 ^ k), Nat.mul_comm (2 ^ k), Nat.testBit_mul_two_pow, Nat.testBit_mul_two_pow]
  rcases Nat.lt_trichotomy i k with h | h | h
  · have h1 : ¬ k ≤ i := by omega
    have h2 : ¬ i = k := by omega
    have h3 : ¬ k < i := by omega
    simp [h1, h2, h3]
  · subst h; simp [Nat.testBit_zero]
  · obtain ⟨j, rfl⟩ : ∃ j, i = k + (j + 1) := ⟨i - k - 1, by omega⟩
    have e3 : k + (j + 1) - k = j + 1 := by omega
    have h1 : k ≤ k + (j + 1) := by omega
    have h2 : ¬ k + (j + 1) = k := by omega
    have h3 : k < k + (j + 1) := by omega
    simp only [h1, h2, h3, decide_true, decide_false, Bool.true_and, Bool.false_or, e3]
    rw [Nat.testBit_succ, Nat.testBit_succ]
    congr 1
    omega
/-- Without its least number. -/
theorem drop_low (x : Nat) (hx : x < 18446744073709551616) (h0 : x ≠ 0) (i : Nat) : (x &&& (x - 1)).testBit i = (x.testBit i && !decide (i = Lib.ctz 64 x)) := by
  obtain ⟨m, hm, hk⟩ := low_form x hx h0
  generalize Lib.ctz 64 x = k at *
  have hp : 0 < 2 ^ k := Nat.pow_pos (by decide)
  have e1 : x - 1 = 2 ^ k * (2 * m) + (2 ^ k - 1) := by rw [hm, Nat.mul_add, Nat.mul_one]; omega
  rw [Nat.testBit_and, e1, Nat.testBit_two_pow_mul_add _ (by omega)]
  rw [hm, testBit_low]
  rcases Nat.lt_trichotomy i k with h | h | h
  · have h2 : ¬ i = k := by omega
    have h3 : ¬ k < i := by omega
    simp [h2, h3]
  · subst h
    simp [Nat.testBit_zero]
  · have h2 : ¬ i = k := by omega
    have h1 : ¬ i < k := by omega
    simp only [h2, h, h1, decide_true, decide_false, Bool.false_or, Bool.true_and, if_false, Bool.not_false, Bool.and_true]
    rw [Nat.mul_comm (2 ^ k), Nat.testBit_mul_two_pow]
    have : k ≤ i := by omega
    simp [this]
theorem bitsL_zero : bitsL 0 = [] := by simp [bitsL]
theorem bitsL_step (x : Nat) (hx : x < 18446744073709551616) (h0 : x ≠ 0) : bitsL x = Lib.ctz 64 x :: bitsL (x &&& (x - 1)) := by
  obtain ⟨m, hm, hk⟩ := low_form x hx h0
  have hd := drop_low x hx h0
  generalize Lib.ctz 64 x = k at *
  have hlow : ∀ i, i < k → x.testBit i = false := by
    intro i hi
    rw [hm, testBit_low]
    have h2 : ¬ i = k := by omega
    have h3 : ¬ k < i := by omega
    simp [h2, h3]
  have hat : x.testBit k = true := by
    rw [hm, testBit_low]; simp
  unfold bitsL
  have hr : List.range 64 = List.range k ++ (k :: List.range' (k + 1) (63 - k)) := by
    rw [← List.range'_succ, List.range_eq_range', List.range_eq_range']
    have : (64 : Nat) = k + (63 - k + 1) := by omega
    conv => lhs; rw [this]
    rw [← List.range'_append_1]
    simp
  have z1 : (List.range k).filter (fun i => x.testBit i) = [] := List.filter_eq_nil_iff.2 fun i hi => by rw [hlow i (List.mem_range.1 hi)]; simp
  have z2 : (List.range k).filter (fun i => (x &&& (x - 1)).testBit i) = [] := List.filter_eq_nil_iff.2 fun i hi => by rw [hd, hlow i (List.mem_range.1 hi)]; simp
  rw [hr, List.filter_append, List.filter_append, z1, z2, List.nil_append, List.nil_append, List.filter_cons, List.filter_cons, hat, hd k]
  simp only [if_true, decide_true, Bool.not_true, Bool.and_false, Bool.false_eq_true, if_false]
  congr 1
  refine List.filter_congr fun i hi => ?_
  rw [hd]
  have : ¬ i = k := by have := (List.mem_range'_1.1 hi).1; omega
  simp [this]
theorem mem_bitsL {s : Nat} (hs : s < 18446744073709551616) (i : Nat) : i ∈ bitsL s ↔ s.testBit i = true := by
  unfold bitsL
  rw [List.mem_filter, List.mem_range]
  constructor
  · exact fun h => h.2
  · intro h
    refine ⟨Nat.lt_of_not_le fun hge => ?_, h⟩
    have : s.testBit i = false := Nat.testBit_lt_two_pow (Nat.lt_of_lt_of_le hs (Nat.pow_le_pow_right (show 2 > 0 by decide) hge))
    rw [this] at h
    cases h
theorem bitsL_length (s : Nat) : (bitsL s).length ≤ 64 := by
  unfold bitsL
  have := List.length_filter_le (fun i => s.testBit i) (List.range 64)
  simpa using this

/-- A set of some numbers. -/
def ofM (l : List Int) : Nat := l.foldl (fun s n => s ||| bitM n) 0
theorem ofM_snoc (l : List Int) (n : Int) : ofM (l ++ [n]) = ofM l ||| bitM n := by simp [ofM]
theorem ofM_lt (l : List Int) : ofM l < 18446744073709551616 := by
  have key : ∀ (l : List Int) (s : Nat), s < 18446744073709551616 → l.foldl (fun s n => s ||| bitM n) s < 18446744073709551616 := by
    intro l
    induction l with
    | nil => exact fun s hs => hs
    | cons a l ih => exact fun s hs => ih _ (or_lt hs (bitM_lt _))
  exact key l 0 (by decide)
theorem testBit_ofM (t : Nat) : ∀ (l : List Int), (ofM l).testBit t = true ↔ t < 64 ∧ (t : Int) ∈ l := by
  have key : ∀ (l : List Int) (s : Nat), (l.foldl (fun s n => s ||| bitM n) s).testBit t = true ↔ s.testBit t = true ∨ (t < 64 ∧ (t : Int) ∈ l) := by
    intro l
    induction l with
    | nil => intro s; simp
    | cons a l ih =>
      intro s
      rw [List.foldl_cons, ih, Nat.testBit_or, Bool.or_eq_true, testBit_bitM, decide_eq_true_iff]
      simp only [List.mem_cons]
      constructor
      · rintro ((h | ⟨rfl, h⟩) | ⟨h1, h2⟩)
        · exact .inl h
        · exact .inr ⟨h, .inl rfl⟩
        · exact .inr ⟨h1, .inr h2⟩
      · rintro (h | ⟨h1, h2 | h2⟩)
        · exact .inl (.inl h)
        · exact .inl (.inr ⟨h2.symm, h1⟩)
        · exact .inr ⟨h1, h2⟩
  intro l
  refine (key l 0).trans ?_
  simp
set_option maxHeartbeats 1000000 in
theorem bitsOf_any (a : Option Addr) (n cap : Nat) (A : List Int) (w : World) (h : IntsAt w (.slice a n cap) A) (hn : A.length = n) (hl : n ≤ 1000000) :
    Calls Tryd.prog 11 #[.slice a n cap] w fun e w' => e = .returned (.int .u64 (ofM A : Nat)) ∧ w = w' := by
  have H := Lib.hid h
  have HN := Lib.hid hn
  clear h hn
  go_enter Tryd.func11, Tryd.ntmps11
  go_wp2_with fail
  go_loop [3, 8] (fun x3 x8 => ∃ i : Nat, i ≤ n ∧ x8 = .int .i64 i ∧ x3 = .int .u64 (ofM (A.take i) : Nat)) (fun _ x8 => n - (intOf x8).toNat)
  case atStart => exact ⟨0, Nat.zero_le _, rfl, rfl⟩
  case round =>
    obtain ⟨i, hi, rfl, rfl⟩ := hrel
    by_cases hlt : i < n
    · have hil : (i : Int) < (n : Int) := by omega
      obtain ⟨z, hz⟩ : ∃ z, A[i]? = some z := ⟨A[i]'(by rw [HN.out]; exact hlt), List.getElem?_eq_getElem _⟩
      obtain ⟨g, rfl, hc⟩ := H.out.cell hz
      have HT := Lib.hid (show ofM (A.take (i + 1)) = ofM (A.take i) ||| bitM z by rw [List.take_add_one, hz]; exact ofM_snoc _ _)
      have HO := Lib.hid (bits_or_u64_nat (ofM (A.take i)) (bitM z) (ofM_lt _) (bitM_lt _))
      obtain ⟨T, hT⟩ : ∃ T, ofM (A.take i) = T := ⟨_, rfl⟩
      rw [hT] at HT HO ⊢
      clear hz hT
      go_wp2_with fail
      refine (bit_any _ _).mono ?_
      rintro e w' ⟨rfl, rfl⟩
      go_wp2_with fail
      go_round
      case rel => exact ⟨i + 1, by omega, by go_num, by rw [HT.out, HO.out]⟩
      case measure => simp [intOf]; omega
    · obtain rfl : i = n := by omega
      have ht : A.take i = A := List.take_of_length_le (by rw [HN.out]; exact Nat.le_refl _)
      rw [ht]
      go_wp2_with fail
      go_ret
      exact ⟨rfl, rfl⟩
end Go.Proofs.YtgpmbkgedhcbjaaDoor
