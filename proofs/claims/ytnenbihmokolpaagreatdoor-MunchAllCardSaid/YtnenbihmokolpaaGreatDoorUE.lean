/-
  MunchWins: plain.
  MunchCuts: plain.
  Is there so little that it is looked at?
  The reference of layer 1: Has, Bit, Of, List, Meet.
-/
import Derived.Test.YtnenbihmokolpaaGreatDoorUC
namespace Go.Proofs.YtnenbihmokolpaaGreatDoor
open Go.RowKit

theorem testBit_winM (tags : Nat) (ps : List (Int × Int)) (t : Nat) : (winM tags ps).testBit t = true ↔ t < 64 ∧ tags.testBit t = true ∧ beatenM tags ps (t : Int) = false := by
  unfold winM
  rw [testBit_setM]
  constructor
  · rintro ⟨h1, h2⟩
    obtain ⟨n, hn, he⟩ := List.mem_map.1 h2
    obtain rfl : n = t := by omega
    obtain ⟨q1, q2⟩ := List.mem_filter.1 hn
    refine ⟨h1, ?_, by simpa using q2⟩
    unfold bitsL at q1
    exact (List.mem_filter.1 q1).2
  · rintro ⟨h1, h2, h3⟩
    refine ⟨h1, List.mem_map.2 ⟨t, List.mem_filter.2 ⟨?_, by simp [h3]⟩, rfl⟩⟩
    unfold bitsL
    exact List.mem_filter.2 ⟨List.mem_range.2 h1, h2⟩
theorem bit_lt64 {s : Nat} (hs : s < 18446744073709551616) {i : Nat} (h : s.testBit i = true) : i < 64 := by
  refine Nat.lt_of_not_le fun hge => ?_
  have : s.testBit i = false := Nat.testBit_lt_two_pow (Nat.lt_of_lt_of_le hs (Nat.pow_le_pow_right (show 2 > 0 by decide) hge))
  rw [this] at h
  cases h
theorem win_sub (tags : Nat) (ps : List (Int × Int)) : Sub (winM tags ps) tags :=
  sub_bit.2 fun i hi => ((testBit_winM tags ps i).1 hi).2.1
theorem win_nil (tags : Nat) (h : tags < 18446744073709551616) : winM tags [] = tags := by
  apply Nat.eq_of_testBit_eq
  intro i
  rw [Bool.eq_iff_iff, testBit_winM]
  exact ⟨fun q => q.2.1, fun q => ⟨bit_lt64 h q, q, rfl⟩⟩
theorem low_bit (x : Nat) (hx : x < 18446744073709551616) (h0 : x ≠ 0) : x.testBit (Lib.ctz 64 x) = true ∧ Lib.ctz 64 x < 64 ∧ ∀ i, i < Lib.ctz 64 x → x.testBit i = false := by
  obtain ⟨m, hm, hk⟩ := low_form x hx h0
  generalize Lib.ctz 64 x = k at *
  refine ⟨?_, hk, fun i hi => ?_⟩
  · rw [hm, testBit_low]; simp
  · rw [hm, testBit_low]
    have h2 : ¬ i = k := by omega
    have h3 : ¬ k < i := by omega
    simp [h2, h3]
def upP (p : Int × Int) : Bool := decide (p.1 < p.2)
theorem win_up (tags : Nat) (ps : List (Int × Int)) (h : tags < 18446744073709551616) (h0 : tags ≠ 0) : (winM tags (ps.filter upP)).testBit (Lib.ctz 64 tags) = true := by
  obtain ⟨q1, q2, q3⟩ := low_bit tags h h0
  refine (testBit_winM _ _ _).2 ⟨q2, q1, ?_⟩
  refine List.any_eq_false.2 fun p hp => ?_
  obtain ⟨_, h2⟩ := List.mem_filter.1 hp
  simp only [upP, decide_eq_true_eq] at h2
  simp only [beatP, hasM, Bool.and_eq_true, decide_eq_true_eq, not_and]
  intro e1 e2 e3
  have := q3 p.1.toNat (by omega)
  rw [this] at e3
  cases e3
/-- The first of a set, alone; nothing of nothing. -/
def firstM (tags : Nat) : Int := if tags = 0 then -1 else ((Lib.ctz 64 tags : Nat) : Int)
theorem testBit_with0 (n : Int) (t : Nat) : (0 ||| bitM n).testBit t = true ↔ (t : Int) = n ∧ t < 64 := by
  rw [Nat.testBit_or, Nat.zero_testBit, Bool.false_or, testBit_bitM, decide_eq_true_iff]
  exact ⟨fun h => ⟨h.1.symm, h.2⟩, fun h => ⟨h.1.symm, h.2⟩⟩
theorem win_one (n : Int) (ps : List (Int × Int)) : winM (0 ||| bitM n) ps = 0 ||| bitM n := by
  apply Nat.eq_of_testBit_eq
  intro i
  rw [Bool.eq_iff_iff, testBit_winM]
  refine ⟨fun q => q.2.1, fun q => ?_⟩
  obtain ⟨h1, h2⟩ := (testBit_with0 n i).1 q
  refine ⟨h2, q, List.any_eq_false.2 fun p hp => ?_⟩
  simp only [beatP, hasM, Bool.and_eq_true, decide_eq_true_eq, not_and]
  intro e1 e2 e3
  have := (testBit_with0 n _).1 e3
  omega
theorem with0_lt (n : Int) : 0 ||| bitM n < 18446744073709551616 := or_lt (by decide) (bitM_lt _)
theorem win_zero0 (ps : List (Int × Int)) : winM 0 ps = 0 := winM_zero ps
end Go.Proofs.YtnenbihmokolpaaGreatDoor

namespace Go.Proofs.YtnenbihmokolpaaGreatDoor
open Go.RowKit

theorem pick_neg {D : Dfa} {bs : List Nat} {at_ : Int} {may : Nat} {ps : List (Int × Int)} (h : ¬ 0 ≤ (pickM D bs at_ may ps).1) : (pickM D bs at_ may ps).1 = -1 := by
  unfold pickM pickOf at h ⊢
  split
  · rename_i h1
    rw [if_pos h1] at h
    exact absurd (by show (0 : Int) ≤ ((_ : Nat) : Int); omega) h
  · rfl
/-- From a place on what is left is cut on. -/
def CutAt (D : Dfa) (bs : List Nat) (may : Nat) (ps : List (Int × Int)) (pre : List (Nat × Int)) (at_ : Int) : Prop :=
  0 ≤ at_ ∧ at_ ≤ bs.length ∧ endM pre = at_ ∧ ∃ f : Nat, (bs.length : Int) - at_ < f ∧ allM D bs may ps = pre ++ allFrom D bs may ps f at_
theorem CutAt.start (D : Dfa) (bs : List Nat) (may : Nat) (ps : List (Int × Int)) : CutAt D bs may ps [] 0 :=
  ⟨Int.le_refl _, by omega, rfl, bs.length + 1, by omega, rfl⟩
theorem CutAt.next {D : Dfa} {bs : List Nat} {may : Nat} {ps : List (Int × Int)} {pre : List (Nat × Int)} {at_ : Int} (h : CutAt D bs may ps pre at_) {x : Nat × Int} (hx : (allM D bs may ps)[pre.length]? = some x) :
    0 ≤ (pickM D bs at_ may ps).1 ∧ x = (bitM (pickM D bs at_ may ps).1, (pickM D bs at_ may ps).2) ∧ at_ < (pickM D bs at_ may ps).2 ∧ CutAt D bs may ps (pre ++ [x]) (pickM D bs at_ may ps).2 := by
  obtain ⟨h1, h2, h3, f, hf, h4⟩ := h
  rw [h4, List.getElem?_append_right (Nat.le_refl _), Nat.sub_self] at hx
  obtain ⟨f', rfl⟩ : ∃ f', f = f' + 1 := ⟨f - 1, by omega⟩
  rw [allFrom] at hx h4
  by_cases hn : 0 ≤ (pickM D bs at_ may ps).1
  · rw [if_pos hn] at hx h4
    have hx' : (bitM (pickM D bs at_ may ps).1, (pickM D bs at_ may ps).2) = x := by simpa using hx
    obtain ⟨q1, q2, q3, q4⟩ := pick_pos hn
    refine ⟨hn, hx'.symm, q2, by omega, q3, ?_, f', by omega, ?_⟩
    · rw [endM_snoc, ← hx']
    · rw [h4, hx', List.append_assoc]; rfl
  · rw [if_neg hn] at hx
    simp at hx
theorem CutAt.done {D : Dfa} {bs : List Nat} {may : Nat} {ps : List (Int × Int)} {pre : List (Nat × Int)} {at_ : Int} (h : CutAt D bs may ps pre at_) (hx : (allM D bs may ps).length ≤ pre.length) :
    (pickM D bs at_ may ps).1 = -1 ∧ endM (allM D bs may ps) = at_ ∧ allM D bs may ps = pre := by
  obtain ⟨h1, h2, h3, f, hf, h4⟩ := h
  have he : allFrom D bs may ps f at_ = [] := by
    have := congrArg List.length h4
    rw [List.length_append] at this
    exact List.eq_nil_of_length_eq_zero (by omega)
  rw [he, List.append_nil] at h4
  refine ⟨pick_neg fun hn => ?_, by rw [h4]; exact h3, h4⟩
  obtain ⟨f', rfl⟩ : ∃ f', f = f' + 1 := ⟨f - 1, by omega⟩
  rw [allFrom, if_pos hn] at he
  cases he
end Go.Proofs.YtnenbihmokolpaaGreatDoor

namespace Go.Proofs.YtnenbihmokolpaaGreatDoor
open Go.RowKit

theorem IntsAt.one (w : World) (z : Int) (g : Nat) (hg : g = w.heap.size) : IntsAt (w.alloc (.cells #[.int .i64 z] 3)) (.slice (some ⟨g, 0, none⟩) 1 1) [z] := by
  subst hg
  exact ⟨w.heap.size, World.ownsRow_lit w #[.int .i64 z] 1 (Nat.le_refl _) (by decide) rfl⟩

set_option maxRecDepth 100000 in
set_option maxHeartbeats 4000000 in
theorem few_any (D : Dfa) (v : Value) (s : ByteArray) (a : Option Addr) (len cap : Nat) (w : World) (h : DfaIn w v D) (htl : D.tags.length ≤ 9223372036854775807) :
    Calls Tryz.prog 6 #[v, .string s, .slice a len cap] w fun e w' => e = .returned (.bool (littleM D && decide (s.size ≤ 40) && decide (len ≤ 40))) ∧ Fr none_ w w' := by
  obtain ⟨R, hR⟩ : ∃ R, (littleM D && decide (s.size ≤ 40) && decide (len ≤ 40)) = R := ⟨_, rfl⟩
  have HR := Lib.hid hR
  rw [hR]
  obtain ⟨C, rfl, hz, hone⟩ := h.cells
  have HD := Lib.hid h
  have B0 := Lib.hid (alloc_new w (.cells C.toArray 26))
  have F0 := Lib.hid ((Fr.refl none_ w).alloc (.cells C.toArray 26))
  clear h hone hR
  go_enter Tryz.func6, Tryz.ntmps6
  go_wp2_with (refine wpList_load_row rfl 26 (.tmp 3) rfl w.heap.size 26 C _ rfl B0.out Tryz.underlying26 rfl (by rw [hz]; exact dfa_info) ?_)
  refine (little_any D _ _ (HD.out.move F0.out) htl).mono ?_
  rintro e w2 ⟨rfl, F1⟩
  have FA := Lib.hid (F0.out.tr F1)
  clear F1
  cases hl : littleM D with
  | false =>
    have HE := Lib.hid (show R = false by rw [← HR.out, hl]; rfl)
    go_wp2_with fail
    go_ret
    exact ⟨by rw [HE.out]; rfl, FA.out⟩
  | true =>
    by_cases h40 : s.size ≤ 40
    · have h4 : (s.size : Int) ≤ 40 := by omega
      by_cases hl40 : len ≤ 40
      · have h5 : (len : Int) ≤ 40 := by omega
        have HE := Lib.hid (show R = true by rw [← HR.out, hl]; simp [h40, hl40])
        go_wp2_with fail
        go_ret
        exact ⟨by rw [HE.out]; rfl, FA.out⟩
      · have h5 : decide ((len : Int) ≤ 40) = false := by simp; omega
        have HE := Lib.hid (show R = false by rw [← HR.out, hl]; simp [hl40])
        go_wp2_with fail
        go_ret
        exact ⟨by rw [HE.out]; rfl, FA.out⟩
    · have h4 : ¬ (s.size : Int) ≤ 40 := by omega
      have HE := Lib.hid (show R = false by rw [← HR.out, hl]; simp [h40])
      go_wp2_with fail
      go_ret
      exact ⟨by rw [HE.out]; rfl, FA.out⟩

theorem piecesV_get : ∀ (l : List (Nat × Int)) (j : Nat) (p : Nat × Int), l[j]? = some p → (piecesV l)[j * 2]? = some (.int .u64 (p.1 : Int)) ∧ (piecesV l)[j * 2 + 1]? = some (.int .i64 p.2)
  | [], j, p, h => by simp at h
  | q :: l, 0, p, h => by
    simp at h
    subst h
    exact ⟨rfl, rfl⟩
  | q :: l, j + 1, p, h => by
    have ih := piecesV_get l j p (by simpa using h)
    have e : piecesV (q :: l) = .int .u64 (q.1 : Int) :: .int .i64 q.2 :: piecesV l := by simp [piecesV]
    rw [e, show (j + 1) * 2 = j * 2 + 1 + 1 by omega]
    exact ih

end Go.Proofs.YtnenbihmokolpaaGreatDoor

namespace Go.Proofs.YtnenbihmokolpaaGreatDoor
open Go.RowKit

theorem testBit_div_mod (s i : Nat) : (s / 2 ^ i % 2 = 1) ↔ s.testBit i = true := by
  rw [Nat.testBit_eq_decide_div_mod_eq]; simp

set_option maxRecDepth 100000 in
theorem refhas_any (s : Nat) (n : Int) (w : World) (hs : s < 18446744073709551616) :
    Calls Tryz.prog 82 #[.int .u64 s, .int .i64 n] w fun e w' => e = .returned (.bool (decide (0 ≤ n) && s.testBit n.toNat)) ∧ w = w' := by
  obtain ⟨r, hr⟩ : ∃ r, (decide (0 ≤ n) && s.testBit n.toNat) = r := ⟨_, rfl⟩
  have HR := Lib.hid hr
  rw [hr]
  clear hr
  by_cases hn0 : n < 0
  · have HE := Lib.hid (show r = false by rw [← HR.out, decide_eq_false (by omega)]; rfl)
    go_enter Tryz.func82, Tryz.ntmps82
    go_wp2_with fail
    go_ret
    exact ⟨by rw [HE.out]; rfl, rfl⟩
  by_cases hn1 : 63 < n
  · have HE := Lib.hid (show r = false by
      rw [← HR.out]
      cases h : s.testBit n.toNat with
      | false => simp
      | true => have := bit_lt64 hs h; omega)
    go_enter Tryz.func82, Tryz.ntmps82
    go_wp2_with fail
    go_ret
    exact ⟨by rw [HE.out]; rfl, rfl⟩
  obtain ⟨m, rfl⟩ := Int.eq_ofNat_of_zero_le (show 0 ≤ n by omega)
  have hm0 : ¬ (m : Int) < 0 := by omega
  go_enter Tryz.func82, Tryz.ntmps82
  go_wp2_with fail
  go_loop [0, 5] (fun x0 x5 => ∃ i : Nat, i ≤ m ∧ x5 = .int .i64 i ∧ x0 = .int .u64 (s / 2 ^ i : Nat)) (fun _ x5 => m - (intOf x5).toNat)
  case atStart => exact ⟨0, Nat.zero_le _, rfl, by simp⟩
  case round =>
    obtain ⟨i, hi, rfl, rfl⟩ := hrel
    obtain ⟨q, hq⟩ : ∃ q, s / 2 ^ i = q := ⟨_, rfl⟩
    have hq2 : q < 18446744073709551616 := by rw [← hq]; exact Nat.lt_of_le_of_lt (Nat.div_le_self _ _) hs
    have HQ := Lib.hid hq
    rw [hq]
    clear hq
    by_cases hlt : i < m
    · have hil : (i : Int) < (m : Int) := by omega
      have HN := Lib.hid (show s / 2 ^ (i + 1) = q / 2 by rw [Nat.pow_succ, ← Nat.div_div_eq_div_mul, HQ.out])
      go_wp2_with fail
      go_round
      case rel => exact ⟨i + 1, by omega, by go_num, by rw [HN.out]; rfl⟩
      case measure => simp [intOf]; omega
    · obtain rfl : i = m := by omega
      have HE := Lib.hid (show r = decide (q % 2 = 1) by
        rw [← HR.out, Int.toNat_natCast, Bool.eq_iff_iff, ← HQ.out]
        simp [testBit_div_mod])
      by_cases h1 : q % 2 = 1
      · have hI : (((q : Int) % 2) == 1) = true := by simp; omega
        have HE2 := Lib.hid (decide_eq_true h1)
        go_wp2_with fail
        go_ret
        exact ⟨by rw [HE.out, HE2.out]; rfl, rfl⟩
      · have hI : (((q : Int) % 2) == 1) = false := by simp; omega
        have HE2 := Lib.hid (decide_eq_false h1)
        go_wp2_with fail
        go_ret
        exact ⟨by rw [HE.out, HE2.out]; rfl, rfl⟩

set_option maxRecDepth 100000 in
theorem refbit_any (n : Nat) (w : World) (hn : n < 64) :
    Calls Tryz.prog 26 #[.int .i64 n] w fun e w' => e = .returned (.int .u64 (2 ^ n : Nat)) ∧ w = w' := by
  go_enter Tryz.func26, Tryz.ntmps26
  go_wp2_with fail
  go_loop [3, 4] (fun x3 x4 => ∃ i : Nat, i ≤ n ∧ x4 = .int .i64 i ∧ x3 = .int .u64 (2 ^ i : Nat)) (fun _ x4 => n - (intOf x4).toNat)
  case atStart => exact ⟨0, Nat.zero_le _, rfl, rfl⟩
  case round =>
    obtain ⟨i, hi, rfl, rfl⟩ := hrel
    by_cases hlt : i < n
    · have hil : (i : Int) < (n : Int) := by omega
      have hp : 2 ^ (i + 1) < 18446744073709551616 := Nat.lt_of_le_of_lt (Nat.pow_le_pow_right (by decide) (show i + 1 ≤ 63 by omega)) (by decide)
      obtain ⟨q, hq⟩ : ∃ q, 2 ^ i = q := ⟨_, rfl⟩
      have HN := Lib.hid (show 2 ^ (i + 1) = q * 2 by rw [Nat.pow_succ, hq])
      rw [HN.out] at hp
      rw [hq]
      clear hq
      go_wp2_with fail
      go_round
      case rel => exact ⟨i + 1, by omega, by go_num, by have h := HN.out; first | (rw [h]; done) | (rw [h]; rfl) | (rw [h]; simp [IntKind.wrap_u64]; done) | (rw [h]; simp [IntKind.wrap_u64]; omega)⟩
      case measure => simp [intOf]; omega
    · obtain rfl : i = n := by omega
      go_wp2_with fail
      go_ret
      exact ⟨rfl, rfl⟩

def inL (A : List Int) (n : Nat) : Bool := A.any fun z => decide (z = (n : Int))
theorem inL_mem (A : List Int) (n : Nat) : inL A n = true ↔ (n : Int) ∈ A := by
  unfold inL
  rw [List.any_eq_true]
  constructor
  · rintro ⟨z, h1, h2⟩
    rw [decide_eq_true_eq] at h2
    rw [← h2]; exact h1
  · exact fun h => ⟨_, h, by simp⟩
theorem setM_next (A : List Int) (n : Nat) (h : n < 64) : setM A % 2 ^ (n + 1) = setM A % 2 ^ n + (if inL A n then 2 ^ n else 0) := by
  rw [Nat.mod_pow_succ]
  have e : (setM A).testBit n = inL A n := by
    rw [Bool.eq_iff_iff, testBit_setM, inL_mem]
    exact ⟨fun q => q.2, fun q => ⟨h, q⟩⟩
  rw [Nat.testBit_eq_decide_div_mod_eq] at e
  cases h2 : inL A n with
  | true =>
    rw [h2, decide_eq_true_eq] at e
    rw [e]; simp
  | false =>
    rw [h2, decide_eq_false_iff_not] at e
    rw [show setM A / 2 ^ n % 2 = 0 by omega]; simp

set_option maxRecDepth 100000 in
set_option maxHeartbeats 1000000 in
theorem refof_any (v : Value) (A : List Int) (w : World) (h : IntsAt w v A) (hl : A.length ≤ 1000000) :
    Calls Tryz.prog 83 #[v] w fun e w' => e = .returned (.int .u64 (setM A : Nat)) ∧ w = w' := by
  obtain ⟨a, cap, rfl, _⟩ := h.slice
  obtain ⟨N, hN⟩ : ∃ N, A.length = N := ⟨_, rfl⟩
  rw [hN] at h hl ⊢
  have H := Lib.hid h
  have HN := Lib.hid hN
  clear h hN
  go_enter Tryz.func83, Tryz.ntmps83
  go_wp2_with fail
  go_loop [3, 4] (fun x3 x4 => ∃ n : Nat, n ≤ 64 ∧ x4 = .int .i64 n ∧ x3 = .int .u64 (setM A % 2 ^ n : Nat)) (fun _ x4 => 64 - (intOf x4).toNat)
  case atStart => exact ⟨0, by omega, rfl, by simp [Nat.mod_one]⟩
  case round =>
    obtain ⟨n, hn, rfl, rfl⟩ := hrel
    by_cases hlt : n < 64
    case neg =>
      obtain rfl : n = 64 := by omega
      have HE := Lib.hid (show setM A % 2 ^ 64 = setM A from Nat.mod_eq_of_lt (setM_lt A))
      rw [HE.out]
      go_wp2_with fail
      go_ret
      exact ⟨rfl, rfl⟩
    case pos =>
      have hil : (n : Int) < 64 := by omega
      obtain ⟨q, hq⟩ : ∃ q, setM A % 2 ^ n = q := ⟨_, rfl⟩
      have HX := Lib.hid (show setM A % 2 ^ (n + 1) = q + (if inL A n then 2 ^ n else 0) by rw [setM_next A n hlt, hq])
      have hlq : setM A % 2 ^ (n + 1) < 18446744073709551616 := Nat.lt_of_le_of_lt (Nat.mod_le _ _) (setM_lt A)
      rw [HX.out] at hlq
      rw [hq]
      clear hq
      go_wp2_with fail
      go_loop [5, 6] (fun x5 x6 => ∃ i : Nat, i ≤ N ∧ x6 = .int .i64 i ∧ x5 = .bool (inL (A.take i) n)) (fun _ x6 => N - (intOf x6).toNat)
      case atStart => exact ⟨0, Nat.zero_le _, rfl, rfl⟩
      case round =>
        obtain ⟨i, hi, rfl, rfl⟩ := hrel
        by_cases hlt2 : i < N
        case neg =>
          have hil2 : ¬ (i : Int) < (N : Int) := by omega
          have HT := Lib.hid (show A.take i = A from List.take_of_length_le (by rw [HN.out]; omega))
          rw [HT.out]
          cases hb : inL A n with
          | true =>
            rw [hb] at HX hlq
            have HX2 := Lib.hid (show setM A % 2 ^ (n + 1) = q + 2 ^ n by rw [HX.out]; rfl)
            have hlq2 : q + 2 ^ n < 18446744073709551616 := by simpa using hlq
            obtain ⟨p, hp⟩ : ∃ p, 2 ^ n = p := ⟨_, rfl⟩
            rw [hp] at HX2 hlq2
            clear hb hlq HX
            go_wp2_with fail
            refine (refbit_any n _ hlt).mono ?_
            rintro e w' ⟨rfl, rfl⟩
            rw [hp]
            clear hp
            go_wp2_with fail
            go_round
            case rel => exact ⟨n + 1, by omega, by go_num, by have h := HX2.out; first | (rw [h]; done) | (rw [h]; rfl) | (rw [h]; simp [IntKind.wrap_u64]; done) | (rw [h]; simp [IntKind.wrap_u64]; omega)⟩
            case measure => simp [intOf]; omega
          | false =>
            rw [hb] at HX
            have HX2 := Lib.hid (show setM A % 2 ^ (n + 1) = q by rw [HX.out]; rfl)
            clear hb hlq HX
            go_wp2_with fail
            go_round
            case rel => exact ⟨n + 1, by omega, by go_num, by rw [HX2.out]⟩
            case measure => simp [intOf]; omega
        case pos =>
          have hil2 : (i : Int) < (N : Int) := by omega
          have hi0 : (0 : Int) ≤ (i : Int) := by omega
          obtain ⟨z, hz⟩ : ∃ z, A[i]? = some z := ⟨_, List.getElem?_eq_getElem (by rw [HN.out]; exact hlt2)⟩
          obtain ⟨g, rfl, hc⟩ := H.out.cell hz
          have HT := Lib.hid (show inL (A.take (i + 1)) n = (inL (A.take i) n || decide (z = (n : Int))) by
            rw [List.take_add_one, hz, inL, inL, List.any_append]; simp)
          obtain ⟨b, hb⟩ : ∃ b, inL (A.take i) n = b := ⟨_, rfl⟩
          rw [hb] at HT ⊢
          clear hb hz
          cases b with
          | true =>
            go_wp2_with fail
            go_round
            case rel => exact ⟨i + 1, by omega, by go_num, by rw [HT.out]; rfl⟩
            case measure => simp [intOf]; omega
          | false =>
            go_wp2_with fail
            go_round
            case rel => exact ⟨i + 1, by omega, by go_num, by rw [HT.out]; first | rfl | simp⟩
            case measure => simp [intOf]; omega

/-- The numbers below n that hold. -/
def belowL (p : Nat → Bool) (n : Nat) : List Nat := (List.range n).filter p
theorem belowL_succ (p : Nat → Bool) (n : Nat) : belowL p (n + 1) = if p n then belowL p n ++ [n] else belowL p n := by
  rw [belowL, List.range_succ, List.filter_append]
  cases h : p n <;> simp [h, belowL]
theorem belowL_length (p : Nat → Bool) (n : Nat) : (belowL p n).length ≤ n := by
  have := List.length_filter_le p (List.range n)
  simpa [belowL] using this

set_option maxRecDepth 100000 in
set_option maxHeartbeats 1000000 in
theorem reflist_any (s : Nat) (w : World) (hs : s < 18446744073709551616) :
    Calls Tryz.prog 56 #[.int .u64 s] w fun e w' => ∃ v, e = .returned v ∧ w'.ownsRow w.heap.size 3 1 v (bitsL s).length (nums (bitsL s)) ∧ Fr none_ w w' := by
  obtain ⟨B, hB⟩ : ∃ B, w.heap.size = B := ⟨_, rfl⟩
  have HB := Lib.hid hB
  rw [hB]
  clear hB
  obtain ⟨j0, hj, hy0, hy1, hy2⟩ := info_parts int_info
  go_enter Tryz.func56, Tryz.ntmps56
  go_wp2_with fail
  go_loopw [3, 4] (fun x3 x4 wr => ∃ n : Nat, n ≤ 64 ∧ x4 = .int .i64 n ∧ Aside (wr.ownsRow B 3 1 x3 (belowL (fun i => s.testBit i) n).length (nums (belowL (fun i => s.testBit i) n))) ∧ Aside (Fr none_ w wr)) (fun _ x4 _ => 64 - (intOf x4).toNat)
  case atStart => exact ⟨0, by omega, rfl, World.ownsRow_nil _ _ _ _, Fr.refl _ _⟩
  case round =>
    obtain ⟨n, hn, rfl, h1', h2'⟩ := hrel
    have HO := Lib.hid h1'.out
    have HF := Lib.hid h2'.out
    clear h1' h2'
    by_cases hlt : n < 64
    case neg =>
      obtain rfl : n = 64 := by omega
      go_wp2_with fail
      go_ret
      exact ⟨_, rfl, HO.out, HF.out⟩
    case pos =>
      have hil : (n : Int) < 64 := by omega
      have HNX := Lib.hid (belowL_succ (fun i => s.testBit i) n)
      have hln := belowL_length (fun i => s.testBit i) n
      obtain ⟨L, hL⟩ : ∃ L, belowL (fun i => s.testBit i) n = L := ⟨_, rfl⟩
      rw [hL] at HNX HO hln
      obtain ⟨M, hM⟩ : ∃ M, L.length = M := ⟨_, rfl⟩
      have HM := Lib.hid hM
      rw [hM] at HO hln
      clear hL hM
      go_wp2_with fail
      refine (refhas_any s n _ hs).mono ?_
      rintro e w' ⟨rfl, rfl⟩
      obtain ⟨b, hb⟩ : ∃ b, (decide (0 ≤ (n : Int)) && s.testBit (n : Int).toNat) = b := ⟨_, rfl⟩
      have hb2 : s.testBit n = b := by rw [← hb]; simp
      rw [hb2] at HNX
      rw [hb]
      clear hb hb2
      cases b with
      | false =>
        go_wp2_with fail
        go_roundw
        case rel => exact ⟨n + 1, by omega, by go_num, by rw [HNX.out]; show World.ownsRow _ _ _ _ _ L.length _; rw [HM.out]; exact HO.out, HF.out⟩
        case measure => simp [intOf]; omega
      | true =>
        have hwB : B ≤ wr.heap.size := by rw [← HB.out]; exact HF.out.size
        go_wp2_with (at_builtin; refine wpList_append_lies _ rfl (.tmp 12) (.tmp 14) 100 rfl B 3 j0 _ 1 8 Tryz.underlying100 hj hy0 hy1 hy2 rfl (by decide) _ M (nums L) rfl (HO.out.alloc _) ⟨wr.heap.size, 0, none⟩ 1 1 [.int .i64 n] rfl rfl (getElem_block (alloc_new _ _)) (by simp [Value.oneCell']) (by decide) (by unfold maxLen; omega) (by omega) (by simp; omega) (wr.heap.size + 1) (by simp) ?_)
        intro g6 cap6 y4 hown hgrow hat hlt
        have F4 := Lib.hid ((HF.out.alloc (.cells #[.int .i64 n] 3)).grown hgrow (fun k hk => .inr (by have := (HO.out.lt k hk).1; have := HB.out; omega)))
        have HO5 := Lib.hid hown
        clear hown hgrow hat hlt
        go_wp2_with fail
        go_roundw
        case rel => exact ⟨n + 1, by omega, by go_num, by rw [HNX.out]; show World.ownsRow _ _ _ _ _ (L ++ [n]).length (nums (L ++ [n])); rw [nums_snoc, List.length_append, HM.out]; exact HO5.out, F4.out⟩
        case measure => simp [intOf]; omega
theorem belowL_meet (a b : Nat) : setM (ints (belowL (fun i => a.testBit i && b.testBit i) 64)) % 2 ^ 64 = (a &&& b) % 2 ^ 64 := by
  rw [Nat.mod_eq_of_lt (setM_lt _)]
  apply Nat.eq_of_testBit_eq
  intro i
  rw [Bool.eq_iff_iff, testBit_setM, mem_ints, belowL, List.mem_filter, List.mem_range, Nat.testBit_mod_two_pow, Nat.testBit_and]
  simp
set_option maxRecDepth 100000 in
set_option maxHeartbeats 1000000 in
theorem refmeet_any (s t : Nat) (w : World) (hs : s < 18446744073709551616) (ht : t < 18446744073709551616) :
    Calls Tryz.prog 81 #[.int .u64 s, .int .u64 t] w fun e w' => e = .returned (.int .u64 (s &&& t : Nat)) ∧ Fr none_ w w' := by
  obtain ⟨B, hB⟩ : ∃ B, w.heap.size = B := ⟨_, rfl⟩
  have HB := Lib.hid hB
  clear hB
  obtain ⟨j0, hj, hy0, hy1, hy2⟩ := info_parts int_info
  go_enter Tryz.func81, Tryz.ntmps81
  go_wp2_with fail
  go_loopw [5, 6] (fun x3 x4 wr => ∃ n : Nat, n ≤ 64 ∧ x4 = .int .i64 n ∧ Aside (wr.ownsRow B 3 1 x3 (belowL (fun i => s.testBit i && t.testBit i) n).length (nums (belowL (fun i => s.testBit i && t.testBit i) n))) ∧ Aside (Fr none_ w wr)) (fun _ x4 _ => 64 - (intOf x4).toNat)
  case atStart => exact ⟨0, by omega, rfl, World.ownsRow_nil _ _ _ _, Fr.refl _ _⟩
  case round =>
    obtain ⟨n, hn, rfl, h1', h2'⟩ := hrel
    have HO := Lib.hid h1'.out
    have HF := Lib.hid h2'.out
    clear h1' h2'
    by_cases hlt : n < 64
    case neg =>
      obtain rfl : n = 64 := by omega
      have hk := belowL_length (fun i => s.testBit i && t.testBit i) 64
      go_wp2_with fail
      refine (refof_any _ (ints (belowL (fun i => s.testBit i && t.testBit i) 64)) _ (IntsAt.of HO.out) (by rw [ints_length]; omega)).mono ?_
      rintro e w' ⟨rfl, rfl⟩
      have HE := Lib.hid (show setM (ints (belowL (fun i => s.testBit i && t.testBit i) 64)) = s &&& t by
        have h1 := belowL_meet s t
        rw [Nat.mod_eq_of_lt (setM_lt _), Nat.mod_eq_of_lt (Nat.lt_of_le_of_lt Nat.and_le_left hs)] at h1
        exact h1)
      rw [HE.out]
      go_wp2_with fail
      go_ret
      exact ⟨rfl, HF.out⟩
    case pos =>
      have hil : (n : Int) < 64 := by omega
      have HNX := Lib.hid (belowL_succ (fun i => s.testBit i && t.testBit i) n)
      have hln := belowL_length (fun i => s.testBit i && t.testBit i) n
      obtain ⟨L, hL⟩ : ∃ L, belowL (fun i => s.testBit i && t.testBit i) n = L := ⟨_, rfl⟩
      rw [hL] at HNX HO hln
      obtain ⟨M, hM⟩ : ∃ M, L.length = M := ⟨_, rfl⟩
      have HM := Lib.hid hM
      rw [hM] at HO hln
      have hwB : B ≤ wr.heap.size := by rw [← HB.out]; exact HF.out.size
      clear hL hM
      go_wp2_with fail
      refine (refhas_any s n _ hs).mono ?_
      rintro e w' ⟨rfl, rfl⟩
      obtain ⟨b, hb⟩ : ∃ b, (decide (0 ≤ (n : Int)) && s.testBit (n : Int).toNat) = b := ⟨_, rfl⟩
      have hb2 : s.testBit n = b := by rw [← hb]; simp
      rw [hb2] at HNX
      rw [hb]
      clear hb hb2
      cases b with
      | false =>
        go_wp2_with fail
        go_roundw
        case rel => exact ⟨n + 1, by omega, by go_num, by rw [HNX.out]; show World.ownsRow _ _ _ _ _ L.length _; rw [HM.out]; exact HO.out, HF.out⟩
        case measure => simp [intOf]; omega
      | true =>
        go_wp2_with fail
        refine (refhas_any t n _ ht).mono ?_
        rintro e w' ⟨rfl, rfl⟩
        obtain ⟨b, hb⟩ : ∃ b, (decide (0 ≤ (n : Int)) && t.testBit (n : Int).toNat) = b := ⟨_, rfl⟩
        have hb2 : t.testBit n = b := by rw [← hb]; simp
        rw [hb2] at HNX
        rw [hb]
        clear hb hb2
        cases b with
        | false =>
          go_wp2_with fail
          go_roundw
          case rel => exact ⟨n + 1, by omega, by go_num, by rw [HNX.out]; show World.ownsRow _ _ _ _ _ L.length _; rw [HM.out]; exact HO.out, HF.out⟩
          case measure => simp [intOf]; omega
        | true =>
          go_wp2_with (at_builtin; refine wpList_append_lies _ rfl (.tmp 19) (.tmp 21) 100 rfl B 3 j0 _ 1 8 Tryz.underlying100 hj hy0 hy1 hy2 rfl (by decide) _ M (nums L) rfl (HO.out.alloc _) ⟨wr.heap.size, 0, none⟩ 1 1 [.int .i64 n] rfl rfl (getElem_block (alloc_new _ _)) (by simp [Value.oneCell']) (by decide) (by unfold maxLen; omega) (by omega) (by simp; omega) (wr.heap.size + 1) (by simp) ?_)
          intro g6 cap6 y4 hown hgrow hat hlt
          have F4 := Lib.hid ((HF.out.alloc (.cells #[.int .i64 n] 3)).grown hgrow (fun k hk => .inr (by have := (HO.out.lt k hk).1; have := HB.out; omega)))
          have HO5 := Lib.hid hown
          clear hown hgrow hat hlt
          go_wp2_with fail
          go_roundw
          case rel => exact ⟨n + 1, by omega, by go_num, by rw [HNX.out]; show World.ownsRow _ _ _ _ _ (L ++ [n]).length (nums (L ++ [n])); rw [nums_snoc, List.length_append, HM.out]; exact HO5.out, F4.out⟩
          case measure => simp [intOf]; omega
end Go.Proofs.YtnenbihmokolpaaGreatDoor
