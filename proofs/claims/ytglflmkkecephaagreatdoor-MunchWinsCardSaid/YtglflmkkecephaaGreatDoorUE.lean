/-
  A row of pairs that came in.
  MunchWins: plain.
  MunchWins: the walk.
-/
import Derived.Test.YtglflmkkecephaaGreatDoorUC
import Derived.Deep.Slices
namespace Go.Proofs.YtglflmkkecephaaGreatDoor
open Go.RowKit
open Go.Deep Go.ChangeShapes Go.WideShapes

def PairsAt (w : World) (a : Option Addr) (len : Nat) (ps : List (Int × Int)) : Prop := ps.length = len ∧ ∀ (j : Nat) (p : Int × Int), ps[j]? = some p → ∃ ad, a = some ad ∧ w.cell? (ad.add (j * 2)) = some (.int .i64 p.1) ∧ w.cell? (ad.add (j * 2 + 1)) = some (.int .i64 p.2)
theorem PairsAt.few {w : World} {a : Option Addr} {len : Nat} {ps : List (Int × Int)} (h : PairsAt w a len ps) (hl : len ≤ 1000000) : PairsIn w a len ps := ⟨h.1, hl, h.2⟩

set_option maxRecDepth 100000 in
theorem open_pairs {H : Type} {enc : TypeId × Value → H} {w : World} {held : Bool} {v : Value} {d : DataW H} {ps : List MemPlace} (h : DataW.Trod enc Tryz.prog w 0 (fun _ => true) held 40 v d ps) :
    ∃ (a : Option Addr) (len cap : Nat) (l : List (Int × Int)), v.cells.toList = [.slice a len cap] ∧ PairsAt w a len l ∧ len ≤ 9223372036854775807 := by
  obtain ⟨fuel, hf⟩ := h
  have ce : Tryz.prog.cellsOf 57 = 2 := by kernel_rfl
  have ci : Tryz.prog.cellsOf 3 = 1 := by kernel_rfl
  rcases open_slice Tryz.underlying40 hf with ⟨hcs, _⟩ | ⟨x, len, cap, m, n, D, Pl, hcs, _, hl, hm, hmm, _, hx⟩
  · exact ⟨none, 0, 0, [], hcs, ⟨rfl, fun j p hp => by simp at hp⟩, Nat.zero_le _⟩
  · have hlm : len ≤ m := by rw [hmm]; split <;> omega
    have each : ∀ i, i < len → ∃ p q : Int, w.cell? (x.add (i * 2)) = some (.int .i64 p) ∧ w.cell? (x.add (i * 2 + 1)) = some (.int .i64 q) := by
      intro i hi
      obtain ⟨cs', h1, h2⟩ := hx i (by omega)
      rw [ce] at h1
      obtain ⟨_, hlen, hcell⟩ := World.cells?_some h1
      obtain ⟨xs, k, _, _, _, hxl, hf⟩ := DataW.trod_array Tryz.underlying57 h2
      match cs', hlen with
      | [v0, v1], _ =>
        have g0 := hf 0 (by decide)
        have g1 := hf 1 (by decide)
        rw [ci, List.getElem?_eq_getElem (show 0 < xs.length by omega)] at g0
        rw [ci, List.getElem?_eq_getElem (show 1 < xs.length by omega)] at g1
        have e0 := hcell 0 (by omega)
        have e1 := hcell 1 (by omega)
        rw [Addr.add_add] at e0 e1
        obtain ⟨p, hp, _⟩ := DataW.trod_int Tryz.underlying3 g0
        obtain ⟨q, hq, _⟩ := DataW.trod_int Tryz.underlying3 g1
        refine ⟨p, q, ?_, ?_⟩
        · have : v0 = .int .i64 p := by simpa using hp
          rw [← this]; simpa using e0
        · have : v1 = .int .i64 q := by simpa using hq
          rw [← this]; simpa using e1
    refine ⟨some x, len, cap, (List.range len).map fun i => (intOf ((w.cell? (x.add (i * 2))).getD undef), intOf ((w.cell? (x.add (i * 2 + 1))).getD undef)), hcs, ⟨by simp, fun j p hp => ?_⟩, by unfold maxLen at hm; omega⟩
    have hj : j < len := by have := (List.getElem?_eq_some_iff.1 hp).1; simpa using this
    obtain ⟨y, z, q1, q2⟩ := each j hj
    simp [hj, q1, q2, intOf] at hp
    subst hp
    exact ⟨x, rfl, q1, q2⟩
end Go.Proofs.YtglflmkkecephaaGreatDoor

namespace Go.Proofs.YtglflmkkecephaaGreatDoor
open Go.RowKit

theorem testBit_winM (tags : Nat) (ps : List (Int × Int)) (t : Nat) : (winM tags ps).testBit t = true ↔ t < 64 ∧ tags.testBit t = true ∧ beatenM tags ps (t : Int) = false := by
  unfold winM
  rw [testBit_setM]
  constructor
  · rintro ⟨h1, h2⟩
    obtain ⟨n, hn, he⟩ := List.mem_map.1 h2
    obtain rfl : n = t := by omega
    obtain ⟨q1, q2⟩ := List.mem_filter.1 hn
    refine ⟨h1, ?_, by simpa using q2⟩
    unfold bitsL at q1
    exact (List.mem_filter.1 q1).2
  · rintro ⟨h1, h2, h3⟩
    refine ⟨h1, List.mem_map.2 ⟨t, List.mem_filter.2 ⟨?_, by simp [h3]⟩, rfl⟩⟩
    unfold bitsL
    exact List.mem_filter.2 ⟨List.mem_range.2 h1, h2⟩
theorem bit_lt64 {s : Nat} (hs : s < 18446744073709551616) {i : Nat} (h : s.testBit i = true) : i < 64 := by
  refine Nat.lt_of_not_le fun hge => ?_
  have : s.testBit i = false := Nat.testBit_lt_two_pow (Nat.lt_of_lt_of_le hs (Nat.pow_le_pow_right (show 2 > 0 by decide) hge))
  rw [this] at h
  cases h
theorem win_sub (tags : Nat) (ps : List (Int × Int)) : Sub (winM tags ps) tags :=
  sub_bit.2 fun i hi => ((testBit_winM tags ps i).1 hi).2.1
theorem win_nil (tags : Nat) (h : tags < 18446744073709551616) : winM tags [] = tags := by
  apply Nat.eq_of_testBit_eq
  intro i
  rw [Bool.eq_iff_iff, testBit_winM]
  exact ⟨fun q => q.2.1, fun q => ⟨bit_lt64 h q, q, rfl⟩⟩
theorem low_bit (x : Nat) (hx : x < 18446744073709551616) (h0 : x ≠ 0) : x.testBit (Lib.ctz 64 x) = true ∧ Lib.ctz 64 x < 64 ∧ ∀ i, i < Lib.ctz 64 x → x.testBit i = false := by
  obtain ⟨m, hm, hk⟩ := low_form x hx h0
  generalize Lib.ctz 64 x = k at *
  refine ⟨?_, hk, fun i hi => ?_⟩
  · rw [hm, testBit_low]; simp
  · rw [hm, testBit_low]
    have h2 : ¬ i = k := by omega
    have h3 : ¬ k < i := by omega
    simp [h2, h3]
def upP (p : Int × Int) : Bool := decide (p.1 < p.2)
theorem win_up (tags : Nat) (ps : List (Int × Int)) (h : tags < 18446744073709551616) (h0 : tags ≠ 0) : (winM tags (ps.filter upP)).testBit (Lib.ctz 64 tags) = true := by
  obtain ⟨q1, q2, q3⟩ := low_bit tags h h0
  refine (testBit_winM _ _ _).2 ⟨q2, q1, ?_⟩
  refine List.any_eq_false.2 fun p hp => ?_
  obtain ⟨_, h2⟩ := List.mem_filter.1 hp
  simp only [upP, decide_eq_true_eq] at h2
  simp only [beatP, hasM, Bool.and_eq_true, decide_eq_true_eq, not_and]
  intro e1 e2 e3
  have := q3 p.1.toNat (by omega)
  rw [this] at e3
  cases e3
/-- The first of a set, alone; nothing of nothing. -/
def firstM (tags : Nat) : Int := if tags = 0 then -1 else ((Lib.ctz 64 tags : Nat) : Int)
theorem testBit_with0 (n : Int) (t : Nat) : (0 ||| bitM n).testBit t = true ↔ (t : Int) = n ∧ t < 64 := by
  rw [Nat.testBit_or, Nat.zero_testBit, Bool.false_or, testBit_bitM, decide_eq_true_iff]
  exact ⟨fun h => ⟨h.1.symm, h.2⟩, fun h => ⟨h.1.symm, h.2⟩⟩
theorem win_one (n : Int) (ps : List (Int × Int)) : winM (0 ||| bitM n) ps = 0 ||| bitM n := by
  apply Nat.eq_of_testBit_eq
  intro i
  rw [Bool.eq_iff_iff, testBit_winM]
  refine ⟨fun q => q.2.1, fun q => ?_⟩
  obtain ⟨h1, h2⟩ := (testBit_with0 n i).1 q
  refine ⟨h2, q, List.any_eq_false.2 fun p hp => ?_⟩
  simp only [beatP, hasM, Bool.and_eq_true, decide_eq_true_eq, not_and]
  intro e1 e2 e3
  have := (testBit_with0 n _).1 e3
  omega
theorem with0_lt (n : Int) : 0 ||| bitM n < 18446744073709551616 := or_lt (by decide) (bitM_lt _)
theorem win_zero0 (ps : List (Int × Int)) : winM 0 ps = 0 := winM_zero ps
end Go.Proofs.YtglflmkkecephaaGreatDoor

namespace Go.Proofs.YtglflmkkecephaaGreatDoor
open Go.RowKit

def pairsV (l : List (Int × Int)) : List Value := l.flatMap fun p => [.int .i64 p.1, .int .i64 p.2]
theorem pairsV_length (l : List (Int × Int)) : (pairsV l).length = l.length * 2 := by
  induction l with
  | nil => rfl
  | cons p l ih => simp [pairsV] at ih ⊢; omega
theorem pairsV_snoc (l : List (Int × Int)) (p : Int × Int) : pairsV (l ++ [p]) = pairsV l ++ [.int .i64 p.1, .int .i64 p.2] := by simp [pairsV]
theorem pairsV_get : ∀ (l : List (Int × Int)) (j : Nat) (p : Int × Int), l[j]? = some p → (pairsV l)[j * 2]? = some (.int .i64 p.1) ∧ (pairsV l)[j * 2 + 1]? = some (.int .i64 p.2)
  | [], j, p, h => by simp at h
  | q :: l, 0, p, h => by
    simp at h
    subst h
    exact ⟨rfl, rfl⟩
  | q :: l, j + 1, p, h => by
    have ih := pairsV_get l j p (by simpa using h)
    have e : pairsV (q :: l) = .int .i64 q.1 :: .int .i64 q.2 :: pairsV l := by simp [pairsV]
    rw [e, show (j + 1) * 2 = j * 2 + 1 + 1 by omega]
    exact ih
theorem PairsIn.own {w : World} {B : Nat} {t : TypeId} {v : Value} {ps : List (Int × Int)} (h : w.ownsRow B t 2 v ps.length (pairsV ps)) (hl : ps.length ≤ 1000000) :
    ∃ a cap, v = .slice a ps.length cap ∧ PairsIn w a ps.length ps := by
  rcases h.2 with ⟨rfl, h0⟩ | ⟨g, cap, cur, rfl, _⟩
  · obtain rfl : ps = [] := List.eq_nil_of_length_eq_zero h0
    exact ⟨none, 0, rfl, PairsIn.nil w⟩
  · refine ⟨_, cap, rfl, rfl, hl, fun j p hp => ⟨_, rfl, ?_, ?_⟩⟩
    · exact h.cells rfl _ _ (pairsV_get ps j p hp).1
    · exact h.cells rfl _ _ (pairsV_get ps j p hp).2

theorem first0_any (x : Nat) (hx : x < 18446744073709551616) (w : World) (hT : TabOk w) :
    Calls Tryz.prog 27 #[.int .u64 x] w fun e w' => e = .returned (.int .i64 (firstM x)) ∧ w = w' := by
  by_cases h0 : x = 0
  · subst h0
    go_enter Tryz.func27, Tryz.ntmps27
    go_wp2_with fail
    go_ret
    exact ⟨rfl, rfl⟩
  · have := first_any x hx h0 w hT
    rw [firstM, if_neg h0]
    exact this
theorem with0_any (n : Int) (w : World) :
    Calls Tryz.prog 28 #[.int .u64 0, .int .i64 n] w fun e w' => e = .returned (.int .u64 ((0 ||| bitM n : Nat) : Int)) ∧ w = w' :=
  with_any 0 n w (by decide)
theorem win0_any (ps : List (Int × Int)) (a : Option Addr) (len cap : Nat) (w : World) (hp : PairsIn w a len ps) (hT : TabOk w) :
    Calls Tryz.prog 21 #[.int .u64 0, .slice a len cap] w fun e w' => e = .returned (.int .u64 0) ∧ Fr none_ w w' := by
  have h := win_any 0 ps a len cap w (by decide) hp hT
  rw [win_zero0] at h
  exact h
theorem winnil_any (tags : Nat) (w : World) (ht : tags < 18446744073709551616) (hT : TabOk w) :
    Calls Tryz.prog 21 #[.int .u64 tags, .slice none 0 0] w fun e w' => e = .returned (.int .u64 tags) ∧ Fr none_ w w' := by
  have h := win_any tags [] none 0 0 w ht (PairsIn.nil w) hT
  rw [win_nil tags ht] at h
  exact h
theorem pair_info : (Tryz.prog.info? 57).map (fun i => (i.zero, i.size, i.bytes)) = some (some (.agg #[.int .i64 0, .int .i64 0]), 2, 16) := by kernel_rfl

set_option maxRecDepth 100000 in
set_option maxHeartbeats 4000000 in
theorem munchwins_many (tags : Nat) (ps : List (Int × Int)) (a : Option Addr) (len cap : Nat) (w : World) (hlen : 40 < len) (hp : PowOk w) (hT : TabOk w) :
    Calls Tryz.prog 6 #[.int .u64 tags, .slice a len cap] w fun e w' => e = .returned (.bool true) ∧ Fr none_ w w' := by
  have hlI : (40 : Int) < (len : Int) := by omega
  have HP := Lib.hid hp
  have HT := Lib.hid hT
  clear hp hT
  go_enter Tryz.func6, Tryz.ntmps6
  go_wp2_with fail
  refine (works7_any _ HP.out HT.out).mono ?_
  rintro e w1 ⟨rfl, F1⟩
  have FA := Lib.hid F1
  clear F1
  go_wp2_with fail
  go_ret
  exact ⟨rfl, FA.out⟩

set_option maxRecDepth 100000 in
set_option maxHeartbeats 8000000 in
theorem munchwins_few (tags : Nat) (ps : List (Int × Int)) (a : Option Addr) (len cap : Nat) (w : World) (htags : tags < 18446744073709551616) (hlen : len ≤ 40) (hps : PairsIn w a len ps) (hp : PowOk w) (hT : TabOk w) :
    Calls Tryz.prog 6 #[.int .u64 tags, .slice a len cap] w fun e w' => e = .returned (.bool true) ∧ Fr none_ w w' := by
  have hlI : ¬ (40 : Int) < (len : Int) := by omega
  have HP := Lib.hid hp
  have HT := Lib.hid hT
  have HPS := Lib.hid hps
  have HN := Lib.hid hps.1
  obtain ⟨W, hW⟩ : ∃ W, winM tags ps = W := ⟨_, rfl⟩
  have hWl : W < 18446744073709551616 := by rw [← hW]; exact winM_lt _ _
  have HWE := Lib.hid hW
  have HWS := Lib.hid (show Sub W tags by rw [← hW]; exact win_sub _ _)
  clear hp hT hps hW
  go_enter Tryz.func6, Tryz.ntmps6
  go_wp2_with fail
  refine (works7_any _ HP.out HT.out).mono ?_
  rintro e w1 ⟨rfl, F1⟩
  have FA := Lib.hid F1
  clear F1
  go_wp2_with fail
  refine (win_any tags ps a len cap _ htags (HPS.out.move FA.out) (HT.out.move FA.out)).mono ?_
  rintro e w2 ⟨rfl, F1⟩
  rw [HWE.out]
  have FB := Lib.hid (FA.out.tr F1)
  clear F1 FA
  obtain ⟨j0, hj, hy0, hy1, hy2⟩ := info_parts pair_info
  obtain ⟨B, hB⟩ : ∃ B, w2.heap.size = B := ⟨_, rfl⟩
  have HB := Lib.hid hB
  have hBw : w.heap.size ≤ B := by rw [← hB]; exact FB.out.size
  clear hB
  go_wp2_with fail
  go_loopw [7, 8] (fun x7 x8 wr => ∃ i : Nat, i ≤ len ∧ x8 = .int .i64 i ∧ Aside (wr.ownsRow B 57 2 x7 ((ps.take i).filter upP).length (pairsV ((ps.take i).filter upP))) ∧ Aside (Fr none_ w2 wr)) (fun _ x8 _ => len - (intOf x8).toNat)
  case atStart => exact ⟨0, Nat.zero_le _, rfl, World.ownsRow_nil _ _ _ _, Fr.refl _ _⟩
  case round =>
    obtain ⟨i, hi', rfl, h1', h2'⟩ := hrel
    have HO := Lib.hid h1'.out
    have HF := Lib.hid h2'.out
    clear h1' h2'
    have hi0 : (0 : Int) ≤ (i : Int) := by omega
    by_cases hlt : i < len
    case neg =>
      have hil : ¬ (i : Int) < (len : Int) := by omega
      have hO := HO.out
      rw [List.take_of_length_le (show ps.length ≤ i by rw [HN.out]; omega)] at hO
      obtain ⟨ua, ucap, rfl, hup⟩ := PairsIn.own hO (by have h1 := List.length_filter_le upP ps; rw [HN.out] at h1; omega)
      have HU := Lib.hid hup
      have HFF := Lib.hid (FB.out.tr HF.out)
      obtain ⟨U, hU⟩ : ∃ U, ps.filter upP = U := ⟨_, rfl⟩
      rw [hU] at HU ⊢
      have HUE := Lib.hid hU
      obtain ⟨UL, hUL⟩ : ∃ n, U.length = n := ⟨_, rfl⟩
      rw [hUL] at HU ⊢
      obtain ⟨K, hK⟩ : ∃ K, (0 ||| bitM (firstM tags)) = K := ⟨_, rfl⟩
      have hKl : K < 18446744073709551616 := by rw [← hK]; exact with0_lt _
      have HKE := Lib.hid hK
      have HKW := Lib.hid (show winM K ps = K by rw [← hK]; exact win_one _ _)
      clear hup hO hU hUL hK HO HF
      go_wp2_with fail
      refine (in_true W tags _ hWl htags HWS.out).mono ?_
      rintro e w' ⟨rfl, rfl⟩
      go_wp2_with fail
      refine (winnil_any tags _ htags (HT.out.move HFF.out)).mono ?_
      rintro e w3 ⟨rfl, F1⟩
      have H3 := Lib.hid (HFF.out.tr F1)
      have HU3 := Lib.hid (HU.out.move F1)
      clear F1 HU HFF
      go_wp2_with fail
      refine (win0_any ps a len cap _ (HPS.out.move H3.out) (HT.out.move H3.out)).mono ?_
      rintro e w4 ⟨rfl, F1⟩
      have H4 := Lib.hid (H3.out.tr F1)
      have HU4 := Lib.hid (HU3.out.move F1)
      clear F1 HU3 H3
      by_cases h0 : tags = 0
      case pos =>
        have h0I : ((tags : Int) == 0) = true := by simp [h0]
        clear h0
        go_wp2_with fail
        refine (first0_any tags htags _ (HT.out.move H4.out)).mono ?_
        rintro e w' ⟨rfl, rfl⟩
        go_wp2_with fail
        refine (with0_any (firstM tags) _).mono ?_
        rintro e w' ⟨rfl, rfl⟩
        rw [HKE.out]
        go_wp2_with fail
        refine (win_any K ps a len cap _ hKl (HPS.out.move H4.out) (HT.out.move H4.out)).mono ?_
        rintro e w5 ⟨rfl, F1⟩
        rw [HKW.out]
        have H5 := Lib.hid (H4.out.tr F1)
        clear F1
        go_wp2_with fail
        refine (first0_any tags htags _ (HT.out.move H5.out)).mono ?_
        rintro e w' ⟨rfl, rfl⟩
        go_wp2_with fail
        refine (with0_any (firstM tags) _).mono ?_
        rintro e w' ⟨rfl, rfl⟩
        rw [HKE.out]
        go_wp2_with fail
        go_ret
        exact ⟨rfl, H5.out⟩
      case neg =>
        have h0I : ((tags : Int) == 0) = false := by simp; omega
        have HB1 := Lib.hid (show (decide (0 ≤ firstM tags) && (winM tags U).testBit (firstM tags).toNat) = true by
          rw [← HUE.out, firstM, if_neg h0]
          simp [win_up tags ps htags h0])
        clear h0
        go_wp2_with fail
        refine (win_any tags U ua UL ucap _ htags HU4.out (HT.out.move H4.out)).mono ?_
        rintro e w5 ⟨rfl, F1⟩
        have H5 := Lib.hid (H4.out.tr F1)
        clear F1
        go_wp2_with fail
        refine (first0_any tags htags _ (HT.out.move H5.out)).mono ?_
        rintro e w' ⟨rfl, rfl⟩
        go_wp2_with fail
        refine (bhas_any (winM tags U) (firstM tags) _ (winM_lt _ _)).mono ?_
        rintro e w' ⟨rfl, rfl⟩
        rw [HB1.out]
        go_wp2_with fail
        refine (first0_any tags htags _ (HT.out.move H5.out)).mono ?_
        rintro e w' ⟨rfl, rfl⟩
        go_wp2_with fail
        refine (with0_any (firstM tags) _).mono ?_
        rintro e w' ⟨rfl, rfl⟩
        rw [HKE.out]
        go_wp2_with fail
        refine (win_any K ps a len cap _ hKl (HPS.out.move H5.out) (HT.out.move H5.out)).mono ?_
        rintro e w6 ⟨rfl, F1⟩
        rw [HKW.out]
        have H6 := Lib.hid (H5.out.tr F1)
        clear F1
        go_wp2_with fail
        refine (first0_any tags htags _ (HT.out.move H6.out)).mono ?_
        rintro e w' ⟨rfl, rfl⟩
        go_wp2_with fail
        refine (with0_any (firstM tags) _).mono ?_
        rintro e w' ⟨rfl, rfl⟩
        rw [HKE.out]
        go_wp2_with fail
        go_ret
        exact ⟨rfl, H6.out⟩
    case pos =>
      have hil : (i : Int) < (len : Int) := by omega
      obtain ⟨p, hpp⟩ : ∃ p, ps[i]? = some p := ⟨_, List.getElem?_eq_getElem (by rw [HN.out]; exact hlt)⟩
      obtain ⟨ad, rfl, c1, c2⟩ := (HPS.out.move (FB.out.tr HF.out)).2.2 i p hpp
      have HTK := Lib.hid (show (ps.take (i + 1)).filter upP = (ps.take i).filter upP ++ (if p.1 < p.2 then [p] else []) by
        rw [List.take_add_one, hpp, List.filter_append]
        congr 1
        by_cases h : p.1 < p.2 <;> simp [upP, h])
      obtain ⟨x, y⟩ := p
      have e1 : (ad.add (i * 2)).add 1 = ⟨(ad.add (i * 2)).block, (ad.add (i * 2)).off + 1, none⟩ := by rw [Addr.add_succ' _ 0]
      rw [← Addr.add_add, e1] at c2
      clear hpp e1
      have hlk := List.length_filter_le upP (ps.take i)
      rw [List.length_take] at hlk
      obtain ⟨L, hL⟩ : ∃ L, (ps.take i).filter upP = L := ⟨_, rfl⟩
      rw [hL] at HO HTK hlk
      obtain ⟨M, hM⟩ : ∃ n, L.length = n := ⟨_, rfl⟩
      have HM := Lib.hid hM
      rw [hM] at HO hlk
      clear hL hM
      by_cases hxy : x < y
      case neg =>
        have HTK2 := Lib.hid (show (ps.take (i + 1)).filter upP = L by rw [HTK.out]; simp [hxy])
        clear HTK
        go_wp2_with fail
        go_quiet (fail)
        go_wp2_with fail
        go_roundw
        case rel => exact ⟨i + 1, by omega, by go_num, by rw [HTK2.out, HM.out]; exact HO.out, HF.out.drewN _⟩
        case measure => simp [intOf]; omega
      case pos =>
        have HTK2 := Lib.hid (show (ps.take (i + 1)).filter upP = L ++ [(x, y)] by rw [HTK.out]; simp [hxy])
        have hwB : B ≤ wr.heap.size := by rw [← HB.out]; exact HF.out.size
        clear HTK
        go_wp2_with fail
        go_quiet (fail)
        have HOD := Lib.hid (show (wr.drewN nq).ownsRow B 57 2 _ M (pairsV L) from HO.out)
        go_wp2_with (at_builtin; refine wpList_append_lies _ rfl (.tmp 36) (.tmp 41) 40 rfl B 57 j0 _ 2 16 Tryz.underlying40 hj hy0 hy1 hy2 rfl (by decide) _ M (pairsV L) rfl (HOD.out.alloc _) ⟨wr.heap.size, 0, none⟩ 1 1 [.int .i64 x, .int .i64 y] rfl rfl (getElem_block (alloc_new _ _)) (by simp [Value.oneCell']) (by decide) (by unfold maxLen; omega) (by omega) (by simp; omega) (wr.heap.size + 1) (by simp) ?_)
        intro g6 cap6 y4 hown hgrow hat hlt
        have F4 := Lib.hid (((HF.out.drewN nq).alloc (.cells #[.int .i64 x, .int .i64 y] 57)).grown hgrow (fun k hk => .inr (by have := (HO.out.lt k hk).1; have := HB.out; omega)))
        have HO5 := Lib.hid hown
        clear hown hgrow hat hlt
        go_wp2_with fail
        go_roundw
        case rel => exact ⟨i + 1, by omega, by go_num, by rw [HTK2.out, pairsV_snoc, List.length_append, HM.out]; exact HO5.out, F4.out⟩
        case measure => simp [intOf]; omega

theorem munchwins_any (tags : Int) (a : Option Addr) (len cap : Nat) (ps : List (Int × Int)) (w : World) (h3 : 0 ≤ tags ∧ tags ≤ 18446744073709551615) (h : PairsAt w a len ps ∧ len ≤ 9223372036854775807) (hT : TabOk w) (hp : PowOk w) :
    Calls Tryz.prog 6 #[.int .u64 tags, .slice a len cap] w fun e w' => e = .returned (.bool true) ∧ Below w.heap.size w w' := by
  obtain ⟨m, rfl⟩ := Int.eq_ofNat_of_zero_le h3.1
  have key : Calls Tryz.prog 6 #[.int .u64 (m : Int), .slice a len cap] w fun e w' => e = .returned (.bool true) ∧ Fr none_ w w' := by
    by_cases hl : len ≤ 40
    · exact munchwins_few m ps a len cap w (by omega) hl (h.1.few (by omega)) hp hT
    · exact munchwins_many m ps a len cap w (by omega) hp hT
  exact key.mono fun e w' h => ⟨h.1, h.2.below⟩
end Go.Proofs.YtglflmkkecephaaGreatDoor
