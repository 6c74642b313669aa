/-
  Which states are told apart, level by level; there are no more levels than states (Moore).
  MunchWins: plain.
  MunchWins: the walk.
  The reference of layer 1: Has, Bit, Of, List, Meet.
  MunchLongest: plain, and the walk.
  The reference of layer 6: to, tagged; Of of layer 5.
  The reference of layer 5: Go, Run.
  The reference of layer 7: Longest.
  The reference of layer 7: Win, Pick.
  MunchPicks: the walk.
-/
import Derived.Test.YtglflmkkecephaaGreatDoorMA
import Derived.Test.YtglflmkkecephaaGreatDoorUE
import Derived.Test.YtglflmkkecephaaGreatDoorUC
import Derived.Test.YtglflmkkecephaaGreatDoorMD
namespace Go.Proofs.YtglflmkkecephaaGreatDoor set_option linter.unusedVariables false set_option linter.unusedSimpArgs false

/-- Of places the last one, n, is nowhere. -/
def plQ (n i : Nat) : Int := if i < n then i else -1
def toP (D : Dfa) (n i c : Nat) : Nat := if toD D (plQ n i) c < 0 then n else (toD D (plQ n i) c).toNat
def tagP (D : Dfa) (n i : Nat) : Nat := tagQ D (plQ n i)
def ApL (D : Dfa) (n k : Nat) : Nat → Nat → Nat → Prop
  | 0, _, _ => False
  | l + 1, i, j => tagP D n i ≠ tagP D n j ∨ ∃ c, c < k ∧ ApL D n k l (toP D n i c) (toP D n j c)

section
variable {D : Dfa} {n k : Nat} (hv : DV D n k)
theorem plQ_lt (n i : Nat) (h : 0 < n) : -1 ≤ plQ n i ∧ plQ n i < n := by unfold plQ; split <;> omega
include hv in
theorem toP_le (i c : Nat) : toP D n i c ≤ n := by
  have := hv.to_lt (plQ_lt n i hv.pos).2 c
  unfold toP; split <;> omega
include hv in
theorem plQ_toP (i c : Nat) : plQ n (toP D n i c) = toD D (plQ n i) c := by
  have := hv.to_lt (plQ_lt n i hv.pos).2 c
  unfold toP
  split
  · unfold plQ at *; rw [if_neg (by omega)]; omega
  · rw [plQ, if_pos (by omega)]; omega
theorem ApL.mono {l : Nat} : ∀ {i j : Nat}, ApL D n k l i j → ApL D n k (l + 1) i j := by
  induction l with
  | zero => exact fun h => h.elim
  | succ l ih =>
    rintro i j (h | ⟨c, hc, h⟩)
    · exact .inl h
    · exact .inr ⟨c, hc, ih h⟩
theorem ApL.le {l m : Nat} (hlm : l ≤ m) {i j : Nat} (h : ApL D n k l i j) : ApL D n k m i j := by
  induction hlm with
  | refl => exact h
  | step _ ih => exact ih.mono
theorem ApL.symm {l : Nat} : ∀ {i j : Nat}, ApL D n k l i j → ApL D n k l j i := by
  induction l with
  | zero => exact fun h => h
  | succ l ih =>
    rintro i j (h | ⟨c, hc, h⟩)
    · exact .inl (fun e => h e.symm)
    · exact .inr ⟨c, hc, ih h⟩
theorem ApL.irrefl {l : Nat} : ∀ {i : Nat}, ¬ ApL D n k l i i := by
  induction l with
  | zero => exact fun h => h
  | succ l ih =>
    rintro i (h | ⟨c, hc, h⟩)
    · exact h rfl
    · exact ih h
theorem ApL.co {l : Nat} : ∀ {i j : Nat} (m : Nat), ApL D n k l i j → ApL D n k l i m ∨ ApL D n k l m j := by
  induction l with
  | zero => exact fun _ h => h.elim
  | succ l ih =>
    rintro i j m (h | ⟨c, hc, h⟩)
    · by_cases e : tagP D n i = tagP D n m
      · exact .inr (.inl (fun e2 => h (e.trans e2)))
      · exact .inl (.inl e)
    · rcases ih (toP D n m c) h with h | h
      · exact .inl (.inr ⟨c, hc, h⟩)
      · exact .inr (.inr ⟨c, hc, h⟩)
include hv in
theorem eqd_of_not : ∀ (cs : List Nat) (i j : Nat), (∀ l, ¬ ApL D n k l i j) → behD D (plQ n i) cs = behD D (plQ n j) cs := by
  intro cs
  induction cs with
  | nil =>
    intro i j h
    exact Decidable.byContradiction fun e => h 1 (.inl e)
  | cons c cs ih =>
    intro i j h
    rw [beh_cons, beh_cons]
    by_cases hc : c < k
    · rw [← plQ_toP hv, ← plQ_toP hv]
      exact ih _ _ (fun l hl => h (l + 1) (.inr ⟨c, hc, hl⟩))
    · have hn : ∀ i, toD D (plQ n i) c = -1 := by
        intro i
        unfold plQ
        split
        · rename_i hi
          rw [to_at, getD_ge (by rw [(hv.rowAt hi).1]; omega)]
        · exact to_neg D (by decide) c
      rw [hn, hn]

open Classical in
noncomputable def repsL (D : Dfa) (n k l : Nat) : List Nat := (List.range (n + 1)).filter fun i => decide (∀ j, j < i → ApL D n k l j i)
theorem mem_reps {l i : Nat} : i ∈ repsL D n k l ↔ i ≤ n ∧ ∀ j, j < i → ApL D n k l j i := by
  simp only [repsL, List.mem_filter, List.mem_range, decide_eq_true_eq]
  exact ⟨fun h => ⟨by omega, h.2⟩, fun h => ⟨by omega, h.2⟩⟩
theorem reps_nodup (l : Nat) : (repsL D n k l).Nodup := List.Nodup.sublist List.filter_sublist List.nodup_range
theorem reps_of (l : Nat) : ∀ i, i ≤ n → ∃ a, a ∈ repsL D n k l ∧ ¬ ApL D n k l a i := by
  intro i hi
  have : ∀ m, m ≤ i → (∀ j, j < m → ApL D n k l j i) ∨ ∃ a, a ∈ repsL D n k l ∧ ¬ ApL D n k l a i := by
    intro m
    induction m with
    | zero => exact fun _ => .inl (fun j hj => absurd hj (by omega))
    | succ m ih =>
      intro hm
      rcases ih (by omega) with h | h
      · by_cases hmi : ApL D n k l m i
        · exact .inl fun j hj => by
            by_cases e : j = m
            · rw [e]; exact hmi
            · exact h j (by omega)
        · refine .inr ⟨m, mem_reps.2 ⟨by omega, fun j hj => ?_⟩, hmi⟩
          rcases (h j hj).co m with h2 | h2
          · exact h2
          · exact (hmi h2).elim
      · exact .inr h
  rcases this i (Nat.le_refl _) with h | h
  · exact ⟨i, mem_reps.2 ⟨hi, h⟩, ApL.irrefl⟩
  · exact h
theorem reps_more {l i j : Nat} (hi : i ≤ n) (hj : j ≤ n) (h : ApL D n k (l + 1) i j) (hn : ¬ ApL D n k l i j) : (repsL D n k l).length < (repsL D n k (l + 1)).length := by
  have hsub : ∀ x ∈ repsL D n k l, x ∈ repsL D n k (l + 1) := fun x hx => by
    obtain ⟨h1, h2⟩ := mem_reps.1 hx
    exact mem_reps.2 ⟨h1, fun j hj => (h2 j hj).mono⟩
  obtain ⟨x, hx, hxn⟩ : ∃ x, x ∈ repsL D n k (l + 1) ∧ x ∉ repsL D n k l := by
    obtain ⟨a, ha, hai⟩ := reps_of (D := D) (k := k) (l + 1) i hi
    obtain ⟨b, hb, hbj⟩ := reps_of (D := D) (k := k) (l + 1) j hj
    by_cases h1 : a ∈ repsL D n k l
    · by_cases h2 : b ∈ repsL D n k l
      · exfalso
        have hab : ¬ ApL D n k l a b := fun hab => by
          rcases hab.co i with q | q
          · exact hai q.mono
          · rcases q.co j with q | q
            · exact hn q
            · exact hbj q.mono.symm
        rcases Nat.lt_trichotomy a b with e | e | e
        · exact hab ((mem_reps.1 h2).2 a e)
        · subst e
          rcases h.co a with q | q
          · exact hai q.symm
          · exact hbj q
        · exact hab ((mem_reps.1 h1).2 b e).symm
      · exact ⟨b, hb, h2⟩
    · exact ⟨a, ha, h1⟩
  have := nodup_sub_len (l := x :: repsL D n k l) (m := repsL D n k (l + 1)) (List.nodup_cons.2 ⟨hxn, reps_nodup l⟩) (fun y hy => by
    rcases List.mem_cons.1 hy with e | e
    · rw [e]; exact hx
    · exact hsub y e)
  simp at this
  omega
def StableL (D : Dfa) (n k m : Nat) : Prop := ∀ i j, i ≤ n → j ≤ n → ApL D n k (m + 1) i j → ApL D n k m i j
theorem reps_many (l : Nat) : l + 1 ≤ (repsL D n k l).length ∨ ∃ m, m < l ∧ StableL D n k m := by
  induction l with
  | zero => exact .inl (List.length_pos_of_mem (mem_reps.2 ⟨Nat.zero_le _, fun j hj => absurd hj (by omega)⟩))
  | succ l ih =>
    rcases ih with h | ⟨m, h1, h2⟩
    · by_cases hs : StableL D n k l
      · exact .inr ⟨l, by omega, hs⟩
      · simp only [StableL, Classical.not_forall] at hs
        obtain ⟨i, j, hi, hj, h1, h2⟩ := hs
        have := reps_more hi hj h1 h2
        exact .inl (by omega)
    · exact .inr ⟨m, by omega, h2⟩
theorem stable_ex : ∃ m, m ≤ n ∧ StableL D n k m := by
  rcases reps_many (D := D) (n := n) (k := k) (n + 1) with h | ⟨m, h1, h2⟩
  · have := nodup_sub_len (reps_nodup (D := D) (n := n) (k := k) (n + 1)) (m := List.range (n + 1)) (fun x hx => by
      have := (mem_reps.1 hx).1
      simp; omega)
    simp at this
    omega
  · exact ⟨m, by omega, h2⟩
include hv in
theorem stable_all {m : Nat} (hs : StableL D n k m) : ∀ (l i j : Nat), i ≤ n → j ≤ n → ApL D n k l i j → ApL D n k m i j := by
  intro l
  induction l with
  | zero => exact fun _ _ _ _ h => h.elim
  | succ l ih =>
    rintro i j hi hj (h | ⟨c, hc, h⟩)
    · exact hs i j hi hj (.inl h)
    · exact hs i j hi hj (.inr ⟨c, hc, ih _ _ (toP_le hv i c) (toP_le hv j c) h⟩)
include hv in
/-- What is told apart at all is so after n + 2 rounds. -/
theorem apart_by {i j : Nat} (hi : i ≤ n) (hj : j ≤ n) (h : ¬ EqD D (plQ n i) D (plQ n j)) : ApL D n k (n + 2) i j := by
  obtain ⟨m, hm, hs⟩ := stable_ex (D := D) (n := n) (k := k)
  by_cases hl : ∃ l, ApL D n k l i j
  · obtain ⟨l, hl⟩ := hl
    exact (stable_all hv hs l i j hi hj hl).le (by omega)
  · exact (h (fun cs => eqd_of_not hv cs i j (fun l hx => hl ⟨l, hx⟩))).elim
end
end Go.Proofs.YtglflmkkecephaaGreatDoor

namespace Go.Proofs.YtglflmkkecephaaGreatDoor set_option linter.unusedVariables false set_option linter.unusedSimpArgs false
open Go.RowKit

theorem testBit_winM (tags : Nat) (ps : List (Int × Int)) (t : Nat) : (winM tags ps).testBit t = true ↔ t < 64 ∧ tags.testBit t = true ∧ beatenM tags ps (t : Int) = false := by
  unfold winM
  rw [testBit_setM]
  constructor
  · rintro ⟨h1, h2⟩
    obtain ⟨n, hn, he⟩ := List.mem_map.1 h2
    obtain rfl : n = t := by omega
    obtain ⟨q1, q2⟩ := List.mem_filter.1 hn
    refine ⟨h1, ?_, by simpa using q2⟩
    unfold bitsL at q1
    exact (List.mem_filter.1 q1).2
  · rintro ⟨h1, h2, h3⟩
    refine ⟨h1, List.mem_map.2 ⟨t, List.mem_filter.2 ⟨?_, by simp [h3]⟩, rfl⟩⟩
    unfold bitsL
    exact List.mem_filter.2 ⟨List.mem_range.2 h1, h2⟩
theorem bit_lt64 {s : Nat} (hs : s < 18446744073709551616) {i : Nat} (h : s.testBit i = true) : i < 64 := by
  refine Nat.lt_of_not_le fun hge => ?_
  have : s.testBit i = false := Nat.testBit_lt_two_pow (Nat.lt_of_lt_of_le hs (Nat.pow_le_pow_right (show 2 > 0 by decide) hge))
  rw [this] at h
  cases h
theorem win_sub (tags : Nat) (ps : List (Int × Int)) : Sub (winM tags ps) tags :=
  sub_bit.2 fun i hi => ((testBit_winM tags ps i).1 hi).2.1
theorem win_nil (tags : Nat) (h : tags < 18446744073709551616) : winM tags [] = tags := by
  apply Nat.eq_of_testBit_eq
  intro i
  rw [Bool.eq_iff_iff, testBit_winM]
  exact ⟨fun q => q.2.1, fun q => ⟨bit_lt64 h q, q, rfl⟩⟩
theorem low_bit (x : Nat) (hx : x < 18446744073709551616) (h0 : x ≠ 0) : x.testBit (Lib.ctz 64 x) = true ∧ Lib.ctz 64 x < 64 ∧ ∀ i, i < Lib.ctz 64 x → x.testBit i = false := by
  obtain ⟨m, hm, hk⟩ := low_form x hx h0
  generalize Lib.ctz 64 x = k at *
  refine ⟨?_, hk, fun i hi => ?_⟩
  · rw [hm, testBit_low]; simp
  · rw [hm, testBit_low]
    have h2 : ¬ i = k := by omega
    have h3 : ¬ k < i := by omega
    simp [h2, h3]
def upP (p : Int × Int) : Bool := decide (p.1 < p.2)
theorem win_up (tags : Nat) (ps : List (Int × Int)) (h : tags < 18446744073709551616) (h0 : tags ≠ 0) : (winM tags (ps.filter upP)).testBit (Lib.ctz 64 tags) = true := by
  obtain ⟨q1, q2, q3⟩ := low_bit tags h h0
  refine (testBit_winM _ _ _).2 ⟨q2, q1, ?_⟩
  refine List.any_eq_false.2 fun p hp => ?_
  obtain ⟨_, h2⟩ := List.mem_filter.1 hp
  simp only [upP, decide_eq_true_eq] at h2
  simp only [beatP, hasM, Bool.and_eq_true, decide_eq_true_eq, not_and]
  intro e1 e2 e3
  have := q3 p.1.toNat (by omega)
  rw [this] at e3
  cases e3
/-- The first of a set, alone; nothing of nothing. -/
def firstM (tags : Nat) : Int := if tags = 0 then -1 else ((Lib.ctz 64 tags : Nat) : Int)
theorem testBit_with0 (n : Int) (t : Nat) : (0 ||| bitM n).testBit t = true ↔ (t : Int) = n ∧ t < 64 := by
  rw [Nat.testBit_or, Nat.zero_testBit, Bool.false_or, testBit_bitM, decide_eq_true_iff]
  exact ⟨fun h => ⟨h.1.symm, h.2⟩, fun h => ⟨h.1.symm, h.2⟩⟩
theorem win_one (n : Int) (ps : List (Int × Int)) : winM (0 ||| bitM n) ps = 0 ||| bitM n := by
  apply Nat.eq_of_testBit_eq
  intro i
  rw [Bool.eq_iff_iff, testBit_winM]
  refine ⟨fun q => q.2.1, fun q => ?_⟩
  obtain ⟨h1, h2⟩ := (testBit_with0 n i).1 q
  refine ⟨h2, q, List.any_eq_false.2 fun p hp => ?_⟩
  simp only [beatP, hasM, Bool.and_eq_true, decide_eq_true_eq, not_and]
  intro e1 e2 e3
  have := (testBit_with0 n _).1 e3
  omega
theorem with0_lt (n : Int) : 0 ||| bitM n < 18446744073709551616 := or_lt (by decide) (bitM_lt _)
theorem win_zero0 (ps : List (Int × Int)) : winM 0 ps = 0 := winM_zero ps
end Go.Proofs.YtglflmkkecephaaGreatDoor

namespace Go.Proofs.YtglflmkkecephaaGreatDoor set_option linter.unusedVariables false set_option linter.unusedSimpArgs false
open Go.RowKit

def pairsV (l : List (Int × Int)) : List Value := l.flatMap fun p => [.int .i64 p.1, .int .i64 p.2]
theorem pairsV_length (l : List (Int × Int)) : (pairsV l).length = l.length * 2 := by
  induction l with
  | nil => rfl
  | cons p l ih => simp [pairsV] at ih ⊢; omega
theorem pairsV_snoc (l : List (Int × Int)) (p : Int × Int) : pairsV (l ++ [p]) = pairsV l ++ [.int .i64 p.1, .int .i64 p.2] := by simp [pairsV]
theorem pairsV_get : ∀ (l : List (Int × Int)) (j : Nat) (p : Int × Int), l[j]? = some p → (pairsV l)[j * 2]? = some (.int .i64 p.1) ∧ (pairsV l)[j * 2 + 1]? = some (.int .i64 p.2)
  | [], j, p, h => by simp at h
  | q :: l, 0, p, h => by
    simp at h
    subst h
    exact ⟨rfl, rfl⟩
  | q :: l, j + 1, p, h => by
    have ih := pairsV_get l j p (by simpa using h)
    have e : pairsV (q :: l) = .int .i64 q.1 :: .int .i64 q.2 :: pairsV l := by simp [pairsV]
    rw [e, show (j + 1) * 2 = j * 2 + 1 + 1 by omega]
    exact ih
theorem PairsIn.own {w : World} {B : Nat} {t : TypeId} {v : Value} {ps : List (Int × Int)} (h : w.ownsRow B t 2 v ps.length (pairsV ps)) (hl : ps.length ≤ 1000000) :
    ∃ a cap, v = .slice a ps.length cap ∧ PairsIn w a ps.length ps := by
  rcases h.2 with ⟨rfl, h0⟩ | ⟨g, cap, cur, rfl, _⟩
  · obtain rfl : ps = [] := List.eq_nil_of_length_eq_zero h0
    exact ⟨none, 0, rfl, PairsIn.nil w⟩
  · refine ⟨_, cap, rfl, rfl, hl, fun j p hp => ⟨_, rfl, ?_, ?_⟩⟩
    · exact h.cells rfl _ _ (pairsV_get ps j p hp).1
    · exact h.cells rfl _ _ (pairsV_get ps j p hp).2

theorem first0_any (x : Nat) (hx : x < 18446744073709551616) (w : World) (hT : TabOk w) :
    Calls Tryz.prog 27 #[.int .u64 x] w fun e w' => e = .returned (.int .i64 (firstM x)) ∧ w = w' := by
  by_cases h0 : x = 0
  · subst h0
    go_enter Tryz.func27, Tryz.ntmps27
    go_wp2_with fail
    go_ret
    exact ⟨rfl, rfl⟩
  · have := first_any x hx h0 w hT
    rw [firstM, if_neg h0]
    exact this
theorem with0_any (n : Int) (w : World) :
    Calls Tryz.prog 28 #[.int .u64 0, .int .i64 n] w fun e w' => e = .returned (.int .u64 ((0 ||| bitM n : Nat) : Int)) ∧ w = w' :=
  with_any 0 n w (by decide)
theorem win0_any (ps : List (Int × Int)) (a : Option Addr) (len cap : Nat) (w : World) (hp : PairsIn w a len ps) (hT : TabOk w) :
    Calls Tryz.prog 21 #[.int .u64 0, .slice a len cap] w fun e w' => e = .returned (.int .u64 0) ∧ Fr none_ w w' := by
  have h := win_any 0 ps a len cap w (by decide) hp hT
  rw [win_zero0] at h
  exact h
theorem winnil_any (tags : Nat) (w : World) (ht : tags < 18446744073709551616) (hT : TabOk w) :
    Calls Tryz.prog 21 #[.int .u64 tags, .slice none 0 0] w fun e w' => e = .returned (.int .u64 tags) ∧ Fr none_ w w' := by
  have h := win_any tags [] none 0 0 w ht (PairsIn.nil w) hT
  rw [win_nil tags ht] at h
  exact h
theorem pair_info : (Tryz.prog.info? 57).map (fun i => (i.zero, i.size, i.bytes)) = some (some (.agg #[.int .i64 0, .int .i64 0]), 2, 16) := by kernel_rfl

set_option maxRecDepth 100000 in
set_option maxHeartbeats 4000000 in
theorem munchwins_many (tags : Nat) (ps : List (Int × Int)) (a : Option Addr) (len cap : Nat) (w : World) (hlen : 40 < len) (hp : PowOk w) (hT : TabOk w) :
    Calls Tryz.prog 6 #[.int .u64 tags, .slice a len cap] w fun e w' => e = .returned (.bool true) ∧ Fr none_ w w' := by
  have hlI : (40 : Int) < (len : Int) := by omega
  have HP := Lib.hid hp
  have HT := Lib.hid hT
  clear hp hT
  go_enter Tryz.func6, Tryz.ntmps6
  go_wp2_with fail
  refine (works7_any _ HP.out HT.out).mono ?_
  rintro e w1 ⟨rfl, F1⟩
  have FA := Lib.hid F1
  clear F1
  go_wp2_with fail
  go_ret
  exact ⟨rfl, FA.out⟩

set_option maxRecDepth 100000 in
set_option maxHeartbeats 8000000 in
theorem munchwins_few (tags : Nat) (ps : List (Int × Int)) (a : Option Addr) (len cap : Nat) (w : World) (htags : tags < 18446744073709551616) (hlen : len ≤ 40) (hps : PairsIn w a len ps) (hp : PowOk w) (hT : TabOk w) :
    Calls Tryz.prog 6 #[.int .u64 tags, .slice a len cap] w fun e w' => e = .returned (.bool true) ∧ Fr none_ w w' := by
  have hlI : ¬ (40 : Int) < (len : Int) := by omega
  have HP := Lib.hid hp
  have HT := Lib.hid hT
  have HPS := Lib.hid hps
  have HN := Lib.hid hps.1
  obtain ⟨W, hW⟩ : ∃ W, winM tags ps = W := ⟨_, rfl⟩
  have hWl : W < 18446744073709551616 := by rw [← hW]; exact winM_lt _ _
  have HWE := Lib.hid hW
  have HWS := Lib.hid (show Sub W tags by rw [← hW]; exact win_sub _ _)
  clear hp hT hps hW
  go_enter Tryz.func6, Tryz.ntmps6
  go_wp2_with fail
  refine (works7_any _ HP.out HT.out).mono ?_
  rintro e w1 ⟨rfl, F1⟩
  have FA := Lib.hid F1
  clear F1
  go_wp2_with fail
  refine (win_any tags ps a len cap _ htags (HPS.out.move FA.out) (HT.out.move FA.out)).mono ?_
  rintro e w2 ⟨rfl, F1⟩
  rw [HWE.out]
  have FB := Lib.hid (FA.out.tr F1)
  clear F1 FA
  obtain ⟨j0, hj, hy0, hy1, hy2⟩ := info_parts pair_info
  obtain ⟨B, hB⟩ : ∃ B, w2.heap.size = B := ⟨_, rfl⟩
  have HB := Lib.hid hB
  have hBw : w.heap.size ≤ B := by rw [← hB]; exact FB.out.size
  clear hB
  go_wp2_with fail
  go_loopw [7, 8] (fun x7 x8 wr => ∃ i : Nat, i ≤ len ∧ x8 = .int .i64 i ∧ Aside (wr.ownsRow B 57 2 x7 ((ps.take i).filter upP).length (pairsV ((ps.take i).filter upP))) ∧ Aside (Fr none_ w2 wr)) (fun _ x8 _ => len - (intOf x8).toNat)
  case atStart => exact ⟨0, Nat.zero_le _, rfl, World.ownsRow_nil _ _ _ _, Fr.refl _ _⟩
  case round =>
    obtain ⟨i, hi', rfl, h1', h2'⟩ := hrel
    have HO := Lib.hid h1'.out
    have HF := Lib.hid h2'.out
    clear h1' h2'
    have hi0 : (0 : Int) ≤ (i : Int) := by omega
    by_cases hlt : i < len
    case neg =>
      have hil : ¬ (i : Int) < (len : Int) := by omega
      have hO := HO.out
      rw [List.take_of_length_le (show ps.length ≤ i by rw [HN.out]; omega)] at hO
      obtain ⟨ua, ucap, rfl, hup⟩ := PairsIn.own hO (by have h1 := List.length_filter_le upP ps; rw [HN.out] at h1; omega)
      have HU := Lib.hid hup
      have HFF := Lib.hid (FB.out.tr HF.out)
      obtain ⟨U, hU⟩ : ∃ U, ps.filter upP = U := ⟨_, rfl⟩
      rw [hU] at HU ⊢
      have HUE := Lib.hid hU
      obtain ⟨UL, hUL⟩ : ∃ n, U.length = n := ⟨_, rfl⟩
      rw [hUL] at HU ⊢
      obtain ⟨K, hK⟩ : ∃ K, (0 ||| bitM (firstM tags)) = K := ⟨_, rfl⟩
      have hKl : K < 18446744073709551616 := by rw [← hK]; exact with0_lt _
      have HKE := Lib.hid hK
      have HKW := Lib.hid (show winM K ps = K by rw [← hK]; exact win_one _ _)
      clear hup hO hU hUL hK HO HF
      go_wp2_with fail
      refine (in_true W tags _ hWl htags HWS.out).mono ?_
      rintro e w' ⟨rfl, rfl⟩
      go_wp2_with fail
      refine (winnil_any tags _ htags (HT.out.move HFF.out)).mono ?_
      rintro e w3 ⟨rfl, F1⟩
      have H3 := Lib.hid (HFF.out.tr F1)
      have HU3 := Lib.hid (HU.out.move F1)
      clear F1 HU HFF
      go_wp2_with fail
      refine (win0_any ps a len cap _ (HPS.out.move H3.out) (HT.out.move H3.out)).mono ?_
      rintro e w4 ⟨rfl, F1⟩
      have H4 := Lib.hid (H3.out.tr F1)
      have HU4 := Lib.hid (HU3.out.move F1)
      clear F1 HU3 H3
      by_cases h0 : tags = 0
      case pos =>
        have h0I : ((tags : Int) == 0) = true := by simp [h0]
        clear h0
        go_wp2_with fail
        refine (first0_any tags htags _ (HT.out.move H4.out)).mono ?_
        rintro e w' ⟨rfl, rfl⟩
        go_wp2_with fail
        refine (with0_any (firstM tags) _).mono ?_
        rintro e w' ⟨rfl, rfl⟩
        rw [HKE.out]
        go_wp2_with fail
        refine (win_any K ps a len cap _ hKl (HPS.out.move H4.out) (HT.out.move H4.out)).mono ?_
        rintro e w5 ⟨rfl, F1⟩
        rw [HKW.out]
        have H5 := Lib.hid (H4.out.tr F1)
        clear F1
        go_wp2_with fail
        refine (first0_any tags htags _ (HT.out.move H5.out)).mono ?_
        rintro e w' ⟨rfl, rfl⟩
        go_wp2_with fail
        refine (with0_any (firstM tags) _).mono ?_
        rintro e w' ⟨rfl, rfl⟩
        rw [HKE.out]
        go_wp2_with fail
        go_ret
        exact ⟨rfl, H5.out⟩
      case neg =>
        have h0I : ((tags : Int) == 0) = false := by simp; omega
        have HB1 := Lib.hid (show (decide (0 ≤ firstM tags) && (winM tags U).testBit (firstM tags).toNat) = true by
          rw [← HUE.out, firstM, if_neg h0]
          simp [win_up tags ps htags h0])
        clear h0
        go_wp2_with fail
        refine (win_any tags U ua UL ucap _ htags HU4.out (HT.out.move H4.out)).mono ?_
        rintro e w5 ⟨rfl, F1⟩
        have H5 := Lib.hid (H4.out.tr F1)
        clear F1
        go_wp2_with fail
        refine (first0_any tags htags _ (HT.out.move H5.out)).mono ?_
        rintro e w' ⟨rfl, rfl⟩
        go_wp2_with fail
        refine (bhas_any (winM tags U) (firstM tags) _ (winM_lt _ _)).mono ?_
        rintro e w' ⟨rfl, rfl⟩
        rw [HB1.out]
        go_wp2_with fail
        refine (first0_any tags htags _ (HT.out.move H5.out)).mono ?_
        rintro e w' ⟨rfl, rfl⟩
        go_wp2_with fail
        refine (with0_any (firstM tags) _).mono ?_
        rintro e w' ⟨rfl, rfl⟩
        rw [HKE.out]
        go_wp2_with fail
        refine (win_any K ps a len cap _ hKl (HPS.out.move H5.out) (HT.out.move H5.out)).mono ?_
        rintro e w6 ⟨rfl, F1⟩
        rw [HKW.out]
        have H6 := Lib.hid (H5.out.tr F1)
        clear F1
        go_wp2_with fail
        refine (first0_any tags htags _ (HT.out.move H6.out)).mono ?_
        rintro e w' ⟨rfl, rfl⟩
        go_wp2_with fail
        refine (with0_any (firstM tags) _).mono ?_
        rintro e w' ⟨rfl, rfl⟩
        rw [HKE.out]
        go_wp2_with fail
        go_ret
        exact ⟨rfl, H6.out⟩
    case pos =>
      have hil : (i : Int) < (len : Int) := by omega
      obtain ⟨p, hpp⟩ : ∃ p, ps[i]? = some p := ⟨_, List.getElem?_eq_getElem (by rw [HN.out]; exact hlt)⟩
      obtain ⟨ad, rfl, c1, c2⟩ := (HPS.out.move (FB.out.tr HF.out)).2.2 i p hpp
      have HTK := Lib.hid (show (ps.take (i + 1)).filter upP = (ps.take i).filter upP ++ (if p.1 < p.2 then [p] else []) by
        rw [List.take_add_one, hpp, List.filter_append]
        congr 1
        by_cases h : p.1 < p.2 <;> simp [upP, h])
      obtain ⟨x, y⟩ := p
      have e1 : (ad.add (i * 2)).add 1 = ⟨(ad.add (i * 2)).block, (ad.add (i * 2)).off + 1, none⟩ := by rw [Addr.add_succ' _ 0]
      rw [← Addr.add_add, e1] at c2
      clear hpp e1
      have hlk := List.length_filter_le upP (ps.take i)
      rw [List.length_take] at hlk
      obtain ⟨L, hL⟩ : ∃ L, (ps.take i).filter upP = L := ⟨_, rfl⟩
      rw [hL] at HO HTK hlk
      obtain ⟨M, hM⟩ : ∃ n, L.length = n := ⟨_, rfl⟩
      have HM := Lib.hid hM
      rw [hM] at HO hlk
      clear hL hM
      by_cases hxy : x < y
      case neg =>
        have HTK2 := Lib.hid (show (ps.take (i + 1)).filter upP = L by rw [HTK.out]; simp [hxy])
        clear HTK
        go_wp2_with fail
        go_quiet (fail)
        go_wp2_with fail
        go_roundw
        case rel => exact ⟨i + 1, by omega, by go_num, by rw [HTK2.out, HM.out]; exact HO.out, HF.out.drewN _⟩
        case measure => simp [intOf]; omega
      case pos =>
        have HTK2 := Lib.hid (show (ps.take (i + 1)).filter upP = L ++ [(x, y)] by rw [HTK.out]; simp [hxy])
        have hwB : B ≤ wr.heap.size := by rw [← HB.out]; exact HF.out.size
        clear HTK
        go_wp2_with fail
        go_quiet (fail)
        have HOD := Lib.hid (show (wr.drewN nq).ownsRow B 57 2 _ M (pairsV L) from HO.out)
        go_wp2_with (at_builtin; refine wpList_append_lies _ rfl (.tmp 36) (.tmp 41) 40 rfl B 57 j0 _ 2 16 Tryz.underlying40 hj hy0 hy1 hy2 rfl (by decide) _ M (pairsV L) rfl (HOD.out.alloc _) ⟨wr.heap.size, 0, none⟩ 1 1 [.int .i64 x, .int .i64 y] rfl rfl (getElem_block (alloc_new _ _)) (by simp [Value.oneCell']) (by decide) (by unfold maxLen; omega) (by omega) (by simp; omega) (wr.heap.size + 1) (by simp) ?_)
        intro g6 cap6 y4 hown hgrow hat hlt
        have F4 := Lib.hid (((HF.out.drewN nq).alloc (.cells #[.int .i64 x, .int .i64 y] 57)).grown hgrow (fun k hk => .inr (by have := (HO.out.lt k hk).1; have := HB.out; omega)))
        have HO5 := Lib.hid hown
        clear hown hgrow hat hlt
        go_wp2_with fail
        go_roundw
        case rel => exact ⟨i + 1, by omega, by go_num, by rw [HTK2.out, pairsV_snoc, List.length_append, HM.out]; exact HO5.out, F4.out⟩
        case measure => simp [intOf]; omega

theorem munchwins_any (tags : Int) (a : Option Addr) (len cap : Nat) (ps : List (Int × Int)) (w : World) (h3 : 0 ≤ tags ∧ tags ≤ 18446744073709551615) (h : PairsAt w a len ps ∧ len ≤ 9223372036854775807) (hT : TabOk w) (hp : PowOk w) :
    Calls Tryz.prog 6 #[.int .u64 tags, .slice a len cap] w fun e w' => e = .returned (.bool true) ∧ Below w.heap.size w w' := by
  obtain ⟨m, rfl⟩ := Int.eq_ofNat_of_zero_le h3.1
  have key : Calls Tryz.prog 6 #[.int .u64 (m : Int), .slice a len cap] w fun e w' => e = .returned (.bool true) ∧ Fr none_ w w' := by
    by_cases hl : len ≤ 40
    · exact munchwins_few m ps a len cap w (by omega) hl (h.1.few (by omega)) hp hT
    · exact munchwins_many m ps a len cap w (by omega) hp hT
  exact key.mono fun e w' h => ⟨h.1, h.2.below⟩
end Go.Proofs.YtglflmkkecephaaGreatDoor

namespace Go.Proofs.YtglflmkkecephaaGreatDoor set_option linter.unusedVariables false set_option linter.unusedSimpArgs false
open Go.RowKit

theorem testBit_div_mod (s i : Nat) : (s / 2 ^ i % 2 = 1) ↔ s.testBit i = true := by
  rw [Nat.testBit_eq_decide_div_mod_eq]; simp

set_option maxRecDepth 100000 in
theorem refhas_any (s : Nat) (n : Int) (w : World) (hs : s < 18446744073709551616) :
    Calls Tryz.prog 46 #[.int .u64 s, .int .i64 n] w fun e w' => e = .returned (.bool (decide (0 ≤ n) && s.testBit n.toNat)) ∧ w = w' := by
  obtain ⟨r, hr⟩ : ∃ r, (decide (0 ≤ n) && s.testBit n.toNat) = r := ⟨_, rfl⟩
  have HR := Lib.hid hr
  rw [hr]
  clear hr
  by_cases hn0 : n < 0
  · have HE := Lib.hid (show r = false by rw [← HR.out, decide_eq_false (by omega)]; rfl)
    go_enter Tryz.func46, Tryz.ntmps46
    go_wp2_with fail
    go_ret
    exact ⟨by rw [HE.out]; rfl, rfl⟩
  by_cases hn1 : 63 < n
  · have HE := Lib.hid (show r = false by
      rw [← HR.out]
      cases h : s.testBit n.toNat with
      | false => simp
      | true => have := bit_lt64 hs h; omega)
    go_enter Tryz.func46, Tryz.ntmps46
    go_wp2_with fail
    go_ret
    exact ⟨by rw [HE.out]; rfl, rfl⟩
  obtain ⟨m, rfl⟩ := Int.eq_ofNat_of_zero_le (show 0 ≤ n by omega)
  have hm0 : ¬ (m : Int) < 0 := by omega
  go_enter Tryz.func46, Tryz.ntmps46
  go_wp2_with fail
  go_loop [0, 5] (fun x0 x5 => ∃ i : Nat, i ≤ m ∧ x5 = .int .i64 i ∧ x0 = .int .u64 (s / 2 ^ i : Nat)) (fun _ x5 => m - (intOf x5).toNat)
  case atStart => exact ⟨0, Nat.zero_le _, rfl, by simp⟩
  case round =>
    obtain ⟨i, hi, rfl, rfl⟩ := hrel
    obtain ⟨q, hq⟩ : ∃ q, s / 2 ^ i = q := ⟨_, rfl⟩
    have hq2 : q < 18446744073709551616 := by rw [← hq]; exact Nat.lt_of_le_of_lt (Nat.div_le_self _ _) hs
    have HQ := Lib.hid hq
    rw [hq]
    clear hq
    by_cases hlt : i < m
    · have hil : (i : Int) < (m : Int) := by omega
      have HN := Lib.hid (show s / 2 ^ (i + 1) = q / 2 by rw [Nat.pow_succ, ← Nat.div_div_eq_div_mul, HQ.out])
      go_wp2_with fail
      go_round
      case rel => exact ⟨i + 1, by omega, by go_num, by rw [HN.out]; rfl⟩
      case measure => simp [intOf]; omega
    · obtain rfl : i = m := by omega
      have HE := Lib.hid (show r = decide (q % 2 = 1) by
        rw [← HR.out, Int.toNat_natCast, Bool.eq_iff_iff, ← HQ.out]
        simp [testBit_div_mod])
      by_cases h1 : q % 2 = 1
      · have hI : (((q : Int) % 2) == 1) = true := by simp; omega
        have HE2 := Lib.hid (decide_eq_true h1)
        go_wp2_with fail
        go_ret
        exact ⟨by rw [HE.out, HE2.out]; rfl, rfl⟩
      · have hI : (((q : Int) % 2) == 1) = false := by simp; omega
        have HE2 := Lib.hid (decide_eq_false h1)
        go_wp2_with fail
        go_ret
        exact ⟨by rw [HE.out, HE2.out]; rfl, rfl⟩

set_option maxRecDepth 100000 in
theorem refbit_any (n : Nat) (w : World) (hn : n < 64) :
    Calls Tryz.prog 65 #[.int .i64 n] w fun e w' => e = .returned (.int .u64 (2 ^ n : Nat)) ∧ w = w' := by
  go_enter Tryz.func65, Tryz.ntmps65
  go_wp2_with fail
  go_loop [3, 4] (fun x3 x4 => ∃ i : Nat, i ≤ n ∧ x4 = .int .i64 i ∧ x3 = .int .u64 (2 ^ i : Nat)) (fun _ x4 => n - (intOf x4).toNat)
  case atStart => exact ⟨0, Nat.zero_le _, rfl, rfl⟩
  case round =>
    obtain ⟨i, hi, rfl, rfl⟩ := hrel
    by_cases hlt : i < n
    · have hil : (i : Int) < (n : Int) := by omega
      have hp : 2 ^ (i + 1) < 18446744073709551616 := Nat.lt_of_le_of_lt (Nat.pow_le_pow_right (by decide) (show i + 1 ≤ 63 by omega)) (by decide)
      obtain ⟨q, hq⟩ : ∃ q, 2 ^ i = q := ⟨_, rfl⟩
      have HN := Lib.hid (show 2 ^ (i + 1) = q * 2 by rw [Nat.pow_succ, hq])
      rw [HN.out] at hp
      rw [hq]
      clear hq
      go_wp2_with fail
      go_round
      case rel => exact ⟨i + 1, by omega, by go_num, by have h := HN.out; first | (rw [h]; done) | (rw [h]; rfl) | (rw [h]; simp [IntKind.wrap_u64]; done) | (rw [h]; simp [IntKind.wrap_u64]; omega)⟩
      case measure => simp [intOf]; omega
    · obtain rfl : i = n := by omega
      go_wp2_with fail
      go_ret
      exact ⟨rfl, rfl⟩

def inL (A : List Int) (n : Nat) : Bool := A.any fun z => decide (z = (n : Int))
theorem inL_mem (A : List Int) (n : Nat) : inL A n = true ↔ (n : Int) ∈ A := by
  unfold inL
  rw [List.any_eq_true]
  constructor
  · rintro ⟨z, h1, h2⟩
    rw [decide_eq_true_eq] at h2
    rw [← h2]; exact h1
  · exact fun h => ⟨_, h, by simp⟩
theorem setM_next (A : List Int) (n : Nat) (h : n < 64) : setM A % 2 ^ (n + 1) = setM A % 2 ^ n + (if inL A n then 2 ^ n else 0) := by
  rw [Nat.mod_pow_succ]
  have e : (setM A).testBit n = inL A n := by
    rw [Bool.eq_iff_iff, testBit_setM, inL_mem]
    exact ⟨fun q => q.2, fun q => ⟨h, q⟩⟩
  rw [Nat.testBit_eq_decide_div_mod_eq] at e
  cases h2 : inL A n with
  | true =>
    rw [h2, decide_eq_true_eq] at e
    rw [e]; simp
  | false =>
    rw [h2, decide_eq_false_iff_not] at e
    rw [show setM A / 2 ^ n % 2 = 0 by omega]; simp

set_option maxRecDepth 100000 in
set_option maxHeartbeats 1000000 in
theorem refof_any (v : Value) (A : List Int) (w : World) (h : IntsAt w v A) (hl : A.length ≤ 1000000) :
    Calls Tryz.prog 47 #[v] w fun e w' => e = .returned (.int .u64 (setM A : Nat)) ∧ w = w' := by
  obtain ⟨a, cap, rfl, _⟩ := h.slice
  obtain ⟨N, hN⟩ : ∃ N, A.length = N := ⟨_, rfl⟩
  rw [hN] at h hl ⊢
  have H := Lib.hid h
  have HN := Lib.hid hN
  clear h hN
  go_enter Tryz.func47, Tryz.ntmps47
  go_wp2_with fail
  go_loop [3, 4] (fun x3 x4 => ∃ n : Nat, n ≤ 64 ∧ x4 = .int .i64 n ∧ x3 = .int .u64 (setM A % 2 ^ n : Nat)) (fun _ x4 => 64 - (intOf x4).toNat)
  case atStart => exact ⟨0, by omega, rfl, by simp [Nat.mod_one]⟩
  case round =>
    obtain ⟨n, hn, rfl, rfl⟩ := hrel
    by_cases hlt : n < 64
    case neg =>
      obtain rfl : n = 64 := by omega
      have HE := Lib.hid (show setM A % 2 ^ 64 = setM A from Nat.mod_eq_of_lt (setM_lt A))
      rw [HE.out]
      go_wp2_with fail
      go_ret
      exact ⟨rfl, rfl⟩
    case pos =>
      have hil : (n : Int) < 64 := by omega
      obtain ⟨q, hq⟩ : ∃ q, setM A % 2 ^ n = q := ⟨_, rfl⟩
      have HX := Lib.hid (show setM A % 2 ^ (n + 1) = q + (if inL A n then 2 ^ n else 0) by rw [setM_next A n hlt, hq])
      have hlq : setM A % 2 ^ (n + 1) < 18446744073709551616 := Nat.lt_of_le_of_lt (Nat.mod_le _ _) (setM_lt A)
      rw [HX.out] at hlq
      rw [hq]
      clear hq
      go_wp2_with fail
      go_loop [5, 6] (fun x5 x6 => ∃ i : Nat, i ≤ N ∧ x6 = .int .i64 i ∧ x5 = .bool (inL (A.take i) n)) (fun _ x6 => N - (intOf x6).toNat)
      case atStart => exact ⟨0, Nat.zero_le _, rfl, rfl⟩
      case round =>
        obtain ⟨i, hi, rfl, rfl⟩ := hrel
        by_cases hlt2 : i < N
        case neg =>
          have hil2 : ¬ (i : Int) < (N : Int) := by omega
          have HT := Lib.hid (show A.take i = A from List.take_of_length_le (by rw [HN.out]; omega))
          rw [HT.out]
          cases hb : inL A n with
          | true =>
            rw [hb] at HX hlq
            have HX2 := Lib.hid (show setM A % 2 ^ (n + 1) = q + 2 ^ n by rw [HX.out]; rfl)
            have hlq2 : q + 2 ^ n < 18446744073709551616 := by simpa using hlq
            obtain ⟨p, hp⟩ : ∃ p, 2 ^ n = p := ⟨_, rfl⟩
            rw [hp] at HX2 hlq2
            clear hb hlq HX
            go_wp2_with fail
            refine (refbit_any n _ hlt).mono ?_
            rintro e w' ⟨rfl, rfl⟩
            rw [hp]
            clear hp
            go_wp2_with fail
            go_round
            case rel => exact ⟨n + 1, by omega, by go_num, by have h := HX2.out; first | (rw [h]; done) | (rw [h]; rfl) | (rw [h]; simp [IntKind.wrap_u64]; done) | (rw [h]; simp [IntKind.wrap_u64]; omega)⟩
            case measure => simp [intOf]; omega
          | false =>
            rw [hb] at HX
            have HX2 := Lib.hid (show setM A % 2 ^ (n + 1) = q by rw [HX.out]; rfl)
            clear hb hlq HX
            go_wp2_with fail
            go_round
            case rel => exact ⟨n + 1, by omega, by go_num, by rw [HX2.out]⟩
            case measure => simp [intOf]; omega
        case pos =>
          have hil2 : (i : Int) < (N : Int) := by omega
          have hi0 : (0 : Int) ≤ (i : Int) := by omega
          obtain ⟨z, hz⟩ : ∃ z, A[i]? = some z := ⟨_, List.getElem?_eq_getElem (by rw [HN.out]; exact hlt2)⟩
          obtain ⟨g, rfl, hc⟩ := H.out.cell hz
          have HT := Lib.hid (show inL (A.take (i + 1)) n = (inL (A.take i) n || decide (z = (n : Int))) by
            rw [List.take_add_one, hz, inL, inL, List.any_append]; simp)
          obtain ⟨b, hb⟩ : ∃ b, inL (A.take i) n = b := ⟨_, rfl⟩
          rw [hb] at HT ⊢
          clear hb hz
          cases b with
          | true =>
            go_wp2_with fail
            go_round
            case rel => exact ⟨i + 1, by omega, by go_num, by rw [HT.out]; rfl⟩
            case measure => simp [intOf]; omega
          | false =>
            go_wp2_with fail
            go_round
            case rel => exact ⟨i + 1, by omega, by go_num, by rw [HT.out]; first | rfl | simp⟩
            case measure => simp [intOf]; omega

/-- The numbers below n that hold. -/
def belowL (p : Nat → Bool) (n : Nat) : List Nat := (List.range n).filter p
theorem belowL_succ (p : Nat → Bool) (n : Nat) : belowL p (n + 1) = if p n then belowL p n ++ [n] else belowL p n := by
  rw [belowL, List.range_succ, List.filter_append]
  cases h : p n <;> simp [h, belowL]
theorem belowL_length (p : Nat → Bool) (n : Nat) : (belowL p n).length ≤ n := by
  have := List.length_filter_le p (List.range n)
  simpa [belowL] using this

set_option maxRecDepth 100000 in
set_option maxHeartbeats 1000000 in
theorem reflist_any (s : Nat) (w : World) (hs : s < 18446744073709551616) :
    Calls Tryz.prog 43 #[.int .u64 s] w fun e w' => ∃ v, e = .returned v ∧ w'.ownsRow w.heap.size 3 1 v (bitsL s).length (nums (bitsL s)) ∧ Fr none_ w w' := by
  obtain ⟨B, hB⟩ : ∃ B, w.heap.size = B := ⟨_, rfl⟩
  have HB := Lib.hid hB
  rw [hB]
  clear hB
  obtain ⟨j0, hj, hy0, hy1, hy2⟩ := info_parts int_info
  go_enter Tryz.func43, Tryz.ntmps43
  go_wp2_with fail
  go_loopw [3, 4] (fun x3 x4 wr => ∃ n : Nat, n ≤ 64 ∧ x4 = .int .i64 n ∧ Aside (wr.ownsRow B 3 1 x3 (belowL (fun i => s.testBit i) n).length (nums (belowL (fun i => s.testBit i) n))) ∧ Aside (Fr none_ w wr)) (fun _ x4 _ => 64 - (intOf x4).toNat)
  case atStart => exact ⟨0, by omega, rfl, World.ownsRow_nil _ _ _ _, Fr.refl _ _⟩
  case round =>
    obtain ⟨n, hn, rfl, h1', h2'⟩ := hrel
    have HO := Lib.hid h1'.out
    have HF := Lib.hid h2'.out
    clear h1' h2'
    by_cases hlt : n < 64
    case neg =>
      obtain rfl : n = 64 := by omega
      go_wp2_with fail
      go_ret
      exact ⟨_, rfl, HO.out, HF.out⟩
    case pos =>
      have hil : (n : Int) < 64 := by omega
      have HNX := Lib.hid (belowL_succ (fun i => s.testBit i) n)
      have hln := belowL_length (fun i => s.testBit i) n
      obtain ⟨L, hL⟩ : ∃ L, belowL (fun i => s.testBit i) n = L := ⟨_, rfl⟩
      rw [hL] at HNX HO hln
      obtain ⟨M, hM⟩ : ∃ M, L.length = M := ⟨_, rfl⟩
      have HM := Lib.hid hM
      rw [hM] at HO hln
      clear hL hM
      go_wp2_with fail
      refine (refhas_any s n _ hs).mono ?_
      rintro e w' ⟨rfl, rfl⟩
      obtain ⟨b, hb⟩ : ∃ b, (decide (0 ≤ (n : Int)) && s.testBit (n : Int).toNat) = b := ⟨_, rfl⟩
      have hb2 : s.testBit n = b := by rw [← hb]; simp
      rw [hb2] at HNX
      rw [hb]
      clear hb hb2
      cases b with
      | false =>
        go_wp2_with fail
        go_roundw
        case rel => exact ⟨n + 1, by omega, by go_num, by rw [HNX.out]; show World.ownsRow _ _ _ _ _ L.length _; rw [HM.out]; exact HO.out, HF.out⟩
        case measure => simp [intOf]; omega
      | true =>
        have hwB : B ≤ wr.heap.size := by rw [← HB.out]; exact HF.out.size
        go_wp2_with (at_builtin; refine wpList_append_lies _ rfl (.tmp 12) (.tmp 14) 70 rfl B 3 j0 _ 1 8 Tryz.underlying70 hj hy0 hy1 hy2 rfl (by decide) _ M (nums L) rfl (HO.out.alloc _) ⟨wr.heap.size, 0, none⟩ 1 1 [.int .i64 n] rfl rfl (getElem_block (alloc_new _ _)) (by simp [Value.oneCell']) (by decide) (by unfold maxLen; omega) (by omega) (by simp; omega) (wr.heap.size + 1) (by simp) ?_)
        intro g6 cap6 y4 hown hgrow hat hlt
        have F4 := Lib.hid ((HF.out.alloc (.cells #[.int .i64 n] 3)).grown hgrow (fun k hk => .inr (by have := (HO.out.lt k hk).1; have := HB.out; omega)))
        have HO5 := Lib.hid hown
        clear hown hgrow hat hlt
        go_wp2_with fail
        go_roundw
        case rel => exact ⟨n + 1, by omega, by go_num, by rw [HNX.out]; show World.ownsRow _ _ _ _ _ (L ++ [n]).length (nums (L ++ [n])); rw [nums_snoc, List.length_append, HM.out]; exact HO5.out, F4.out⟩
        case measure => simp [intOf]; omega
theorem belowL_meet (a b : Nat) : setM (ints (belowL (fun i => a.testBit i && b.testBit i) 64)) % 2 ^ 64 = (a &&& b) % 2 ^ 64 := by
  rw [Nat.mod_eq_of_lt (setM_lt _)]
  apply Nat.eq_of_testBit_eq
  intro i
  rw [Bool.eq_iff_iff, testBit_setM, mem_ints, belowL, List.mem_filter, List.mem_range, Nat.testBit_mod_two_pow, Nat.testBit_and]
  simp
set_option maxRecDepth 100000 in
set_option maxHeartbeats 1000000 in
theorem refmeet_any (s t : Nat) (w : World) (hs : s < 18446744073709551616) (ht : t < 18446744073709551616) :
    Calls Tryz.prog 40 #[.int .u64 s, .int .u64 t] w fun e w' => e = .returned (.int .u64 (s &&& t : Nat)) ∧ Fr none_ w w' := by
  obtain ⟨B, hB⟩ : ∃ B, w.heap.size = B := ⟨_, rfl⟩
  have HB := Lib.hid hB
  clear hB
  obtain ⟨j0, hj, hy0, hy1, hy2⟩ := info_parts int_info
  go_enter Tryz.func40, Tryz.ntmps40
  go_wp2_with fail
  go_loopw [5, 6] (fun x3 x4 wr => ∃ n : Nat, n ≤ 64 ∧ x4 = .int .i64 n ∧ Aside (wr.ownsRow B 3 1 x3 (belowL (fun i => s.testBit i && t.testBit i) n).length (nums (belowL (fun i => s.testBit i && t.testBit i) n))) ∧ Aside (Fr none_ w wr)) (fun _ x4 _ => 64 - (intOf x4).toNat)
  case atStart => exact ⟨0, by omega, rfl, World.ownsRow_nil _ _ _ _, Fr.refl _ _⟩
  case round =>
    obtain ⟨n, hn, rfl, h1', h2'⟩ := hrel
    have HO := Lib.hid h1'.out
    have HF := Lib.hid h2'.out
    clear h1' h2'
    by_cases hlt : n < 64
    case neg =>
      obtain rfl : n = 64 := by omega
      have hk := belowL_length (fun i => s.testBit i && t.testBit i) 64
      go_wp2_with fail
      refine (refof_any _ (ints (belowL (fun i => s.testBit i && t.testBit i) 64)) _ (IntsAt.of HO.out) (by rw [ints_length]; omega)).mono ?_
      rintro e w' ⟨rfl, rfl⟩
      have HE := Lib.hid (show setM (ints (belowL (fun i => s.testBit i && t.testBit i) 64)) = s &&& t by
        have h1 := belowL_meet s t
        rw [Nat.mod_eq_of_lt (setM_lt _), Nat.mod_eq_of_lt (Nat.lt_of_le_of_lt Nat.and_le_left hs)] at h1
        exact h1)
      rw [HE.out]
      go_wp2_with fail
      go_ret
      exact ⟨rfl, HF.out⟩
    case pos =>
      have hil : (n : Int) < 64 := by omega
      have HNX := Lib.hid (belowL_succ (fun i => s.testBit i && t.testBit i) n)
      have hln := belowL_length (fun i => s.testBit i && t.testBit i) n
      obtain ⟨L, hL⟩ : ∃ L, belowL (fun i => s.testBit i && t.testBit i) n = L := ⟨_, rfl⟩
      rw [hL] at HNX HO hln
      obtain ⟨M, hM⟩ : ∃ M, L.length = M := ⟨_, rfl⟩
      have HM := Lib.hid hM
      rw [hM] at HO hln
      have hwB : B ≤ wr.heap.size := by rw [← HB.out]; exact HF.out.size
      clear hL hM
      go_wp2_with fail
      refine (refhas_any s n _ hs).mono ?_
      rintro e w' ⟨rfl, rfl⟩
      obtain ⟨b, hb⟩ : ∃ b, (decide (0 ≤ (n : Int)) && s.testBit (n : Int).toNat) = b := ⟨_, rfl⟩
      have hb2 : s.testBit n = b := by rw [← hb]; simp
      rw [hb2] at HNX
      rw [hb]
      clear hb hb2
      cases b with
      | false =>
        go_wp2_with fail
        go_roundw
        case rel => exact ⟨n + 1, by omega, by go_num, by rw [HNX.out]; show World.ownsRow _ _ _ _ _ L.length _; rw [HM.out]; exact HO.out, HF.out⟩
        case measure => simp [intOf]; omega
      | true =>
        go_wp2_with fail
        refine (refhas_any t n _ ht).mono ?_
        rintro e w' ⟨rfl, rfl⟩
        obtain ⟨b, hb⟩ : ∃ b, (decide (0 ≤ (n : Int)) && t.testBit (n : Int).toNat) = b := ⟨_, rfl⟩
        have hb2 : t.testBit n = b := by rw [← hb]; simp
        rw [hb2] at HNX
        rw [hb]
        clear hb hb2
        cases b with
        | false =>
          go_wp2_with fail
          go_roundw
          case rel => exact ⟨n + 1, by omega, by go_num, by rw [HNX.out]; show World.ownsRow _ _ _ _ _ L.length _; rw [HM.out]; exact HO.out, HF.out⟩
          case measure => simp [intOf]; omega
        | true =>
          go_wp2_with (at_builtin; refine wpList_append_lies _ rfl (.tmp 19) (.tmp 21) 70 rfl B 3 j0 _ 1 8 Tryz.underlying70 hj hy0 hy1 hy2 rfl (by decide) _ M (nums L) rfl (HO.out.alloc _) ⟨wr.heap.size, 0, none⟩ 1 1 [.int .i64 n] rfl rfl (getElem_block (alloc_new _ _)) (by simp [Value.oneCell']) (by decide) (by unfold maxLen; omega) (by omega) (by simp; omega) (wr.heap.size + 1) (by simp) ?_)
          intro g6 cap6 y4 hown hgrow hat hlt
          have F4 := Lib.hid ((HF.out.alloc (.cells #[.int .i64 n] 3)).grown hgrow (fun k hk => .inr (by have := (HO.out.lt k hk).1; have := HB.out; omega)))
          have HO5 := Lib.hid hown
          clear hown hgrow hat hlt
          go_wp2_with fail
          go_roundw
          case rel => exact ⟨n + 1, by omega, by go_num, by rw [HNX.out]; show World.ownsRow _ _ _ _ _ (L ++ [n]).length (nums (L ++ [n])); rw [nums_snoc, List.length_append, HM.out]; exact HO5.out, F4.out⟩
          case measure => simp [intOf]; omega
end Go.Proofs.YtglflmkkecephaaGreatDoor

namespace Go.Proofs.YtglflmkkecephaaGreatDoor set_option linter.unusedVariables false set_option linter.unusedSimpArgs false
open Go.RowKit

theorem bytesN_extract (s : ByteArray) (a e : Nat) : bytesN (s.extract a e) = ((bytesN s).drop a).take (e - a) := by
  simp only [bytesN, ByteArray.data_extract, Array.toList_extract, List.extract_eq_take_drop, List.map_take, List.map_drop]
theorem runD_lt {D : Dfa} (h : ∀ t ∈ D.tags, t < 18446744073709551616) (bs : List Nat) : runD D bs < 18446744073709551616 := by
  unfold runD tagD
  split
  · omega
  · rename_i h1
    by_cases hi : (atD D 0 bs).toNat < D.tags.length
    · exact h _ (getD_mem hi 0)
    · rw [getD_ge (by omega)]; omega
theorem long_spec (D : Dfa) (bs : List Nat) (a may : Nat) : ∀ d, a ≤ (longTo D bs a may d).2 ∧ (longTo D bs a may d).2 ≤ a + d ∧ ((longTo D bs a may d).1 = 0 ↔ (longTo D bs a may d).2 = a) ∧ Sub (longTo D bs a may d).1 may ∧
    ∀ e, 1 ≤ e → e ≤ d → ((longTo D bs a may d).2 < a + e → runD D ((bs.drop a).take e) &&& may = 0) ∧ (a + e = (longTo D bs a may d).2 → runD D ((bs.drop a).take e) &&& may = (longTo D bs a may d).1)
  | 0 => ⟨Nat.le_refl _, Nat.le_refl _, ⟨fun _ => rfl, fun _ => rfl⟩, sub_zero _, fun e h1 h2 => by omega⟩
  | d + 1 => by
    obtain ⟨h1, h2, h3, h4, h5⟩ := long_spec D bs a may d
    obtain ⟨r, hr⟩ : ∃ r, runD D ((bs.drop a).take (d + 1)) = r := ⟨_, rfl⟩
    simp only [longTo, hr]
    by_cases e1 : r &&& may = 0
    · rw [if_pos e1]
      refine ⟨h1, by omega, h3, h4, fun e q1 q2 => ?_⟩
      by_cases hed : e = d + 1
      · subst hed
        rw [hr]
        exact ⟨fun _ => e1, fun h => by omega⟩
      · exact h5 e q1 (by omega)
    · rw [if_neg e1]
      refine ⟨by show a ≤ a + d + 1; omega, by show a + d + 1 ≤ _; omega, ⟨fun h => absurd h e1, fun h => by have h : a + d + 1 = a := h; omega⟩, sub_bit.2 fun i hi => by
        have hi : (r &&& may).testBit i = true := hi
        rw [Nat.testBit_and, Bool.and_eq_true] at hi
        exact hi.2, fun e q1 q2 => ⟨fun h => by have h : a + d + 1 < a + e := h; omega, fun h => ?_⟩⟩
      have h : a + e = a + d + 1 := h
      obtain rfl : e = d + 1 := by omega
      rw [hr]
theorem longM_spec (D : Dfa) (bs : List Nat) (a may : Nat) (ha : a ≤ bs.length) : ∃ m t : Nat, longM D bs a may = (m, (t : Int)) ∧ a ≤ t ∧ t ≤ bs.length ∧ (m = 0 ↔ t = a) ∧ Sub m may ∧
    ∀ e, a < e → e ≤ bs.length → (t < e → runD D ((bs.drop a).take (e - a)) &&& may = 0) ∧ (e = t → runD D ((bs.drop a).take (e - a)) &&& may = m) := by
  unfold longM
  by_cases h : a < bs.length
  · rw [if_pos (by omega), Int.toNat_natCast]
    obtain ⟨h1, h2, h3, h4, h5⟩ := long_spec D bs a may (bs.length - a)
    refine ⟨_, _, rfl, h1, by omega, h3, h4, fun e q1 q2 => ?_⟩
    obtain ⟨p1, p2⟩ := h5 (e - a) (by omega) (by omega)
    exact ⟨fun h => p1 (by omega), fun h => p2 (by omega)⟩
  · rw [if_neg (by omega)]
    exact ⟨0, a, rfl, Nat.le_refl _, ha, ⟨fun _ => rfl, fun _ => rfl⟩, sub_zero _, fun e q1 q2 => by omega⟩

set_option maxRecDepth 100000 in
set_option maxHeartbeats 4000000 in
theorem munchlongest_big (D : Dfa) (v : Value) (s : ByteArray) (at_ : Int) (may : Nat) (w : World) (hD : DfaIn w v D) (htl : D.tags.length ≤ 9223372036854775807) (hl : (littleM D && decide (s.size ≤ 40)) = false) (hp : PowOk w) (hT : TabOk w) :
    Calls Tryz.prog 8 #[v, .string s, .int .i64 at_, .int .u64 (may : Int)] w fun e w' => e = .returned (.bool true) ∧ Fr none_ w w' := by
  have HL := Lib.hid hl
  clear hl
  obtain ⟨C, rfl, hz, hone⟩ := hD.cells
  have HD0 := Lib.hid hD
  have HP := Lib.hid hp
  have HT := Lib.hid hT
  have B0 := Lib.hid (alloc_new w (.cells C.toArray 26))
  have F0 := Lib.hid ((Fr.refl none_ w).alloc (.cells C.toArray 26))
  clear hD hp hT hone
  go_enter Tryz.func8, Tryz.ntmps8
  go_wp2_with fail
  refine (works7_any _ (HP.out.move F0.out) (HT.out.move F0.out)).mono ?_
  rintro e w1 ⟨rfl, F1⟩
  have B1 := Lib.hid (F1.at_ B0.out (fun h => h))
  have FA := Lib.hid (F0.out.tr F1)
  clear F1 B0 F0
  go_wp2_with (refine wpList_load_row rfl 26 (.tmp 4) rfl w.heap.size 26 C _ rfl B1.out Tryz.underlying26 rfl ?_ ?_; (rw [hz]; exact dfa_info))
  refine (few_nil D _ s _ (HD0.out.move FA.out) htl).mono ?_
  rintro e w2 ⟨rfl, F1⟩
  have B2 := Lib.hid (F1.at_ B1.out (fun h => h))
  have FB := Lib.hid (FA.out.tr F1)
  clear F1 B1 FA
  rw [HL.out]
  go_wp2_with fail
  go_ret
  exact ⟨rfl, FB.out⟩

set_option maxRecDepth 100000 in
set_option maxHeartbeats 4000000 in
theorem munchlongest_out (D : Dfa) (v : Value) (s : ByteArray) (at_ : Int) (may : Nat) (w : World) (hD : DfaIn w v D) (htl : D.tags.length ≤ 9223372036854775807) (hl : (littleM D && decide (s.size ≤ 40)) = true) (hat : at_ < 0 ∨ (0 ≤ at_ ∧ (s.size : Int) < at_)) (hp : PowOk w) (hT : TabOk w) :
    Calls Tryz.prog 8 #[v, .string s, .int .i64 at_, .int .u64 (may : Int)] w fun e w' => e = .returned (.bool true) ∧ Fr none_ w w' := by
  have HL := Lib.hid hl
  clear hl
  obtain ⟨C, rfl, hz, hone⟩ := hD.cells
  have HD0 := Lib.hid hD
  have HP := Lib.hid hp
  have HT := Lib.hid hT
  have B0 := Lib.hid (alloc_new w (.cells C.toArray 26))
  have F0 := Lib.hid ((Fr.refl none_ w).alloc (.cells C.toArray 26))
  clear hD hp hT hone
  go_enter Tryz.func8, Tryz.ntmps8
  go_wp2_with fail
  refine (works7_any _ (HP.out.move F0.out) (HT.out.move F0.out)).mono ?_
  rintro e w1 ⟨rfl, F1⟩
  have B1 := Lib.hid (F1.at_ B0.out (fun h => h))
  have FA := Lib.hid (F0.out.tr F1)
  clear F1 B0 F0
  go_wp2_with (refine wpList_load_row rfl 26 (.tmp 4) rfl w.heap.size 26 C _ rfl B1.out Tryz.underlying26 rfl ?_ ?_; (rw [hz]; exact dfa_info))
  refine (few_nil D _ s _ (HD0.out.move FA.out) htl).mono ?_
  rintro e w2 ⟨rfl, F1⟩
  have B2 := Lib.hid (F1.at_ B1.out (fun h => h))
  have FB := Lib.hid (FA.out.tr F1)
  clear F1 B1 FA
  rw [HL.out]
  rcases hat with h0 | ⟨h0, h1⟩
  · go_wp2_with fail
    go_ret
    exact ⟨rfl, FB.out⟩
  · have h0' : ¬ at_ < 0 := by omega
    go_wp2_with fail
    go_ret
    exact ⟨rfl, FB.out⟩

set_option maxRecDepth 100000 in
set_option maxHeartbeats 4000000 in
theorem munchlongest_good (D : Dfa) (v : Value) (s : ByteArray) (at_ : Int) (may : Nat) (w : World) (hD : DfaIn w v D) (htl : D.tags.length ≤ 9223372036854775807) (htg : ∀ t ∈ D.tags, t < 18446744073709551616) (hmay : may < 18446744073709551616) (hl : (littleM D && decide (s.size ≤ 40)) = true) (h40 : s.size ≤ 40) (a : Nat) (haa : at_ = (a : Int)) (has : a ≤ s.size) (hp : PowOk w) (hT : TabOk w) :
    Calls Tryz.prog 8 #[v, .string s, .int .i64 at_, .int .u64 (may : Int)] w fun e w' => e = .returned (.bool true) ∧ Fr none_ w w' := by
  subst haa
  have HL := Lib.hid hl
  have HTG := Lib.hid htg
  clear hl htg
  have h0' : ¬ (a : Int) < 0 := by omega
  have h1' : ¬ (s.size : Int) < (a : Int) := by omega
  obtain ⟨m1, t1, hPA, hp1, hp2, hp3, hp4, hp5⟩ := longM_spec D (bytesN s) a may (by rw [bytesN_length]; exact has)
  rw [bytesN_length] at hp2 hp5
  have hA2 : m1 < 18446744073709551616 := by have := longM_lt D (bytesN s) a may hmay; rw [hPA] at this; exact this
  have HLA := Lib.hid hPA
  have HSUB := Lib.hid hp4
  have HSPEC := Lib.hid hp5
  have HIFF := Lib.hid hp3
  clear hPA hp3 hp4 hp5
  obtain ⟨C, rfl, hz, hone⟩ := hD.cells
  have HD0 := Lib.hid hD
  have HP := Lib.hid hp
  have HT := Lib.hid hT
  have B0 := Lib.hid (alloc_new w (.cells C.toArray 26))
  have F0 := Lib.hid ((Fr.refl none_ w).alloc (.cells C.toArray 26))
  clear hD hp hT hone
  go_enter Tryz.func8, Tryz.ntmps8
  go_wp2_with fail
  refine (works7_any _ (HP.out.move F0.out) (HT.out.move F0.out)).mono ?_
  rintro e w1 ⟨rfl, F1⟩
  have B1 := Lib.hid (F1.at_ B0.out (fun h => h))
  have FA := Lib.hid (F0.out.tr F1)
  clear F1 B0 F0
  go_wp2_with (refine wpList_load_row rfl 26 (.tmp 4) rfl w.heap.size 26 C _ rfl B1.out Tryz.underlying26 rfl ?_ ?_; (rw [hz]; exact dfa_info))
  refine (few_nil D _ s _ (HD0.out.move FA.out) htl).mono ?_
  rintro e w2 ⟨rfl, F1⟩
  have B2 := Lib.hid (F1.at_ B1.out (fun h => h))
  have FB := Lib.hid (FA.out.tr F1)
  clear F1 B1 FA
  rw [HL.out]
  go_wp2_with (refine wpList_load_row rfl 26 (.tmp 4) rfl w.heap.size 26 C _ rfl B2.out Tryz.underlying26 rfl ?_ ?_; (rw [hz]; exact dfa_info))
  refine (longest_any D _ s (a : Int) may _ (HD0.out.move FB.out) HTG.out hmay (by omega)).mono ?_
  rintro e w2b ⟨rfl, F1⟩
  rw [HLA.out]
  have N1 := Lib.hid (alloc_new w2b (.cells #[.int .u64 (m1 : Int), .int .i64 (t1 : Int)] 43))
  have FX := Lib.hid (F1.alloc (.cells #[.int .u64 (m1 : Int), .int .i64 (t1 : Int)] 43))
  clear F1
  go_wp2_with fail
  obtain ⟨g1, hg1⟩ : ∃ x, w2b.heap.size = x := ⟨_, rfl⟩
  obtain ⟨w3, hw3⟩ : ∃ x, w2b.alloc (.cells #[.int .u64 (m1 : Int), .int .i64 (t1 : Int)] 43) = x := ⟨_, rfl⟩
  rw [hw3] at N1 FX ⊢
  rw [hg1] at N1 ⊢
  clear hw3 hg1
  have FC := Lib.hid (FB.out.tr FX.out)
  have DC := Lib.hid (HD0.out.move FC.out)
  have B3 := Lib.hid (FX.out.at_ B2.out (fun h => h))
  clear FX B2 FB
  go_loopw [12] (fun x12 wr => ∃ e : Nat, a + 1 ≤ e ∧ e ≤ s.size + 1 ∧ x12 = .int .i64 e ∧ Aside (Fr none_ w3 wr)) (fun x12 _ => s.size + 1 - (intOf x12).toNat)
  case atStart => exact ⟨a + 1, Nat.le_refl _, by omega, by first | rfl | simp | (go_num), Fr.refl _ _⟩
  case round =>
    obtain ⟨e, hae, hes, rfl, h'⟩ := hrel
    have HFR := Lib.hid h'.out
    clear h'
    have u2 : wr.cell? ⟨g1, 0, none⟩ = some (.int .u64 (m1 : Int)) := cell_of_block (HFR.out.at_ N1.out (fun h => h)) rfl
    have u3 : wr.cell? ⟨g1, 1, none⟩ = some (.int .i64 (t1 : Int)) := cell_of_block (HFR.out.at_ N1.out (fun h => h)) rfl
    by_cases hle : e ≤ s.size
    case neg =>
      have hleI : ¬ (e : Int) ≤ (s.size : Int) := by omega
      have ht0 : (a : Int) ≤ (t1 : Int) := by omega
      have ht2 : (t1 : Int) ≤ (s.size : Int) := by omega
      by_cases hz1 : m1 = 0
      case pos =>
        have hta := HIFF.out.1 hz1
        subst hz1
        subst hta
        go_wp2_with fail
        refine (in_true 0 may _ (by decide) hmay HSUB.out).mono ?_
        rintro e' w' ⟨rfl, rfl⟩
        go_wp2_with fail
        go_ret
        exact ⟨rfl, FC.out.tr HFR.out⟩
      case neg =>
        have hta : t1 ≠ a := fun h => hz1 (HIFF.out.2 h)
        have q1 : ((m1 : Int) == 0) = false := by simp; omega
        have q2 : ((t1 : Int) == (a : Int)) = false := by simp; omega
        go_wp2_with fail
        refine (in_true m1 may _ hA2 hmay HSUB.out).mono ?_
        rintro e' w' ⟨rfl, rfl⟩
        go_wp2_with fail
        go_ret
        exact ⟨rfl, FC.out.tr HFR.out⟩
    case pos =>
      have hleI : (e : Int) ≤ (s.size : Int) := by omega
      have hq0 : (0 : Int) ≤ (a : Int) := by omega
      have hq1 : (a : Int) ≤ (e : Int) := by omega
      obtain ⟨z1, z2⟩ := HSPEC.out e (by omega) hle
      have hexs : (s.extract a e).size < 4611686018427387904 := by simp [ByteArray.size_extract]; omega
      obtain ⟨r, hr⟩ : ∃ r, runD D (((bytesN s).drop a).take (e - a)) = r := ⟨_, rfl⟩
      rw [hr] at z1 z2
      have HRUN := Lib.hid (show runD D (bytesN (s.extract a e)) = r by rw [bytesN_extract, hr])
      have hrl : r < 18446744073709551616 := by rw [← hr]; exact runD_lt HTG.out _
      obtain ⟨m, hm⟩ : ∃ m, r &&& may = m := ⟨_, rfl⟩
      rw [hm] at z1 z2
      have HMM := Lib.hid hm
      have HZ1 := Lib.hid z1
      have HZ2 := Lib.hid z2
      have HSX := Lib.hid (show ∀ wx, Fr none_ wr wx → wx.rangeAt w.heap.size 0 C from fun wx hf => range_of ((HFR.out.tr hf).at_ B3.out (fun h => h)))
      clear hr hm z1 z2 u2 u3
      go_wp2_with fail
      refine wp_region_held_drew (S := fun wx => wx.rangeAt w.heap.size 0 C) (by kernel_rfl) (HSX.out _ (Fr.refl none_ wr).drew) (fun hHeld => ?_)
      refine wpAnyH_take (i := 0) lot0 (by kernel_rfl) (by kernel_rfl) (by kernel_rfl) (fun _ _ _ h => h) (yieldsIf_load_mid (by rfl) _ _ rfl _ _ rfl C _ (fun _ h => h) Tryz.underlying26 rfl (by rw [hz]; exact dfa_info)) (by assumption) ?_
      try simp only [Act.put, List.setIfInBounds_toArray, List.set_cons_zero, List.set_cons_succ]
      refine wpAnyH_take (i := 1) (v := ?_) lot1 (by kernel_rfl) (by kernel_rfl) (by kernel_rfl) (fun _ _ _ h => h) (Or.inl ⟨by rfl, ?_⟩) (by assumption) ?_
      rotate_left
      · (intro wv hSw; (try dsimp only at hSw); go_simp) <;> with_reducible rfl
      try simp only [Act.put, List.setIfInBounds_toArray, List.set_cons_zero, List.set_cons_succ]
      refine wpAnyH_take (i := 2) (v := ?_) lot2 (by kernel_rfl) (by kernel_rfl) (by kernel_rfl) (fun _ _ _ h => h) (Or.inl ⟨by rfl, ?_⟩) (by assumption) ?_
      rotate_left
      · (intro wv hSw; (try dsimp only at hSw); go_simp) <;> with_reducible rfl
      try simp only [Act.put, List.setIfInBounds_toArray, List.set_cons_zero, List.set_cons_succ]
      refine wpAnyH_take (i := 3) (v := ?_) lot3 (by kernel_rfl) (by kernel_rfl) (by kernel_rfl) (fun _ _ _ h => h) (Or.inl ⟨by rfl, ?_⟩) (by assumption) ?_
      rotate_left
      · (intro wv hSw; (try dsimp only at hSw); go_simp) <;> with_reducible rfl
      try simp only [Act.put, List.setIfInBounds_toArray, List.set_cons_zero, List.set_cons_succ]
      refine wpAnyH_take (i := 4) (v := ?_) lot4 (by kernel_rfl) (by kernel_rfl) (by kernel_rfl) (fun _ _ _ h => h) (Or.inl ⟨by rfl, ?_⟩) (by assumption) ?_
      rotate_left
      · (intro wv hSw; (try dsimp only at hSw); go_simp) <;> with_reducible rfl
      try simp only [Act.put, List.setIfInBounds_toArray, List.set_cons_zero, List.set_cons_succ]
      refine wpAnyH_take (i := 6) (v := ?_) lot6 (by kernel_rfl) (by kernel_rfl) (by kernel_rfl) (fun _ _ _ h => h) (Or.inl ⟨by rfl, ?_⟩) (by assumption) ?_
      rotate_left
      · (intro wv hSw; (try dsimp only at hSw); go_simp) <;> with_reducible rfl
      try simp only [Act.put, List.setIfInBounds_toArray, List.set_cons_zero, List.set_cons_succ]
      refine wpAnyH_ready (rs := [5]) (by kernel_rfl) (by simp) ?_
      refine AllReadyH.cons lot5 (fun K hK => ?_) AllReadyH.nil
      go_simp
      go_at_call 30
      refine (drun_any D _ (s.extract a e) _ (DC.out.move (HFR.out.drew)) (by omega)).mono ?_
      rintro e' wx ⟨rfl, Fx⟩
      rw [HRUN.out]
      have Gx := Lib.hid (((Fr.refl none_ wr).drew).tr Fx)
      clear Fx
      refine hK.out _ _ (HSX.out _ Gx.out) (fun hHeld => ?_)
      clear hK K
      try simp only [Act.put, List.setIfInBounds_toArray, List.set_cons_zero, List.set_cons_succ]
      refine wpAnyH_ready (rs := [7]) (by kernel_rfl) (by simp) ?_
      refine AllReadyH.cons lot7 (fun K hK => ?_) AllReadyH.nil
      go_simp
      go_at_call 29
      refine (meet_any r may _ hrl hmay).mono ?_
      rintro e' wm ⟨rfl, rfl⟩
      rw [HMM.out]
      refine hK.out _ _ (HSX.out _ Gx.out) (fun hHeld => ?_)
      clear hK K
      try simp only [Act.put, List.setIfInBounds_toArray, List.set_cons_zero, List.set_cons_succ]
      refine wpAnyH_take (i := 8) (v := ?_) lot8 (by kernel_rfl) (by kernel_rfl) (by kernel_rfl) (fun _ _ _ h => h) (Or.inl ⟨by rfl, ?_⟩) (by assumption) ?_
      rotate_left
      · (intro wv hSw; (try dsimp only at hSw); go_simp) <;> with_reducible rfl
      try simp only [Act.put, List.setIfInBounds_toArray, List.set_cons_zero, List.set_cons_succ]
      refine wpAnyH_done (by kernel_rfl) ?_ _
      have HF2 := Lib.hid (HFR.out.tr Gx.out)
      have u2 : wx.cell? ⟨g1, 0, none⟩ = some (.int .u64 (m1 : Int)) := cell_of_block (HF2.out.at_ N1.out (fun h => h)) rfl
      have u3 : wx.cell? ⟨g1, 1, none⟩ = some (.int .i64 (t1 : Int)) := cell_of_block (HF2.out.at_ N1.out (fun h => h)) rfl
      rcases Nat.lt_trichotomy e t1 with hlt | heq | hgt
      · have q1 : ¬ (t1 : Int) < (e : Int) := by omega
        have q2 : ((e : Int) == (t1 : Int)) = false := by simp; omega
        go_wp2_with fail
        go_roundw
        case rel => exact ⟨e + 1, by omega, by omega, by go_num, HF2.out⟩
        case measure => simp [intOf]; omega
      · have hmm := HZ2.out heq
        subst heq
        subst hmm
        have q1 : ¬ (e : Int) < (e : Int) := by omega
        go_wp2_with fail
        go_roundw
        case rel => exact ⟨e + 1, by omega, by omega, by go_num, HF2.out⟩
        case measure => simp [intOf]; omega
      · have hmm := HZ1.out hgt
        subst hmm
        have q1 : (t1 : Int) < (e : Int) := by omega
        have q2 : ((e : Int) == (t1 : Int)) = false := by simp; omega
        go_wp2_with fail
        go_roundw
        case rel => exact ⟨e + 1, by omega, by omega, by go_num, HF2.out⟩
        case measure => simp [intOf]; omega
end Go.Proofs.YtglflmkkecephaaGreatDoor

namespace Go.Proofs.YtglflmkkecephaaGreatDoor set_option linter.unusedVariables false set_option linter.unusedSimpArgs false
open Go.RowKit

theorem refD_info : (Tryz.prog.info? 34).map (·.size) = some 258 := by kernel_rfl
theorem zeroR_list : Tryz.zeroCells34 = Tryz.zeroCells26 := by kernel_rfl
theorem to_row {D : Dfa} {n k : Nat} (hv : DV D n k) {i c : Nat} (hi : i < n) (hc : c < k) : ∃ r, D.next[i]? = some r ∧ r.length = k ∧ ∃ t : Int, r[c]? = some t ∧ toD D (plQ n i) c = t ∧ -1 ≤ t ∧ t < n := by
  have hil : i < D.next.length := by rw [hv.hn]; exact hi
  obtain ⟨h1, h2⟩ := hv.row _ (List.getElem_mem hil)
  refine ⟨D.next[i], List.getElem?_eq_getElem hil, h1, ?_⟩
  have hcl : c < (D.next[i]).length := by rw [h1]; exact hc
  refine ⟨(D.next[i])[c], List.getElem?_eq_getElem hcl, ?_, h2 _ (List.getElem_mem hcl)⟩
  rw [plQ, if_pos hi, to_at]
  simp [List.getD, List.getElem?_eq_getElem hil, List.getElem?_eq_getElem hcl]

set_option maxRecDepth 100000 in
set_option maxHeartbeats 4000000 in
theorem to_any (D : Dfa) (n k : Nat) (v : Value) (i c : Nat) (w : World) (h : DfaIn w v D) (hv : DV D n k) (hn : n ≤ 10000) (hi : i ≤ n) (hc : c < k) :
    Calls Tryz.prog 38 #[v, .int .i64 i, .int .i64 c] w fun e w' => e = .returned (.int .i64 (toP D n i c)) ∧ Fr none_ w w' := by
  obtain ⟨C, na, ta, ncap, tcap, rfl, hz, h256, h257, hrow, htag⟩ := h.all
  rw [hv.hn] at h256
  have HR := Lib.hid hrow
  have B0 := Lib.hid (alloc_new w (.cells C.toArray 34))
  have F0 := Lib.hid ((Fr.refl none_ w).alloc (.cells C.toArray 34))
  have f1 : (w.alloc (.cells C.toArray 34)).cell? ⟨w.heap.size, 256, none⟩ = some (.slice na n ncap) := cell_of_block B0.out (by simpa using h256)
  have hi0 : (0 : Int) ≤ (i : Int) := by omega
  have hc0 : (0 : Int) ≤ (c : Int) := by omega
  clear h hrow htag h256 h257
  by_cases hlt : i < n
  · have hil : ¬ (n : Int) ≤ (i : Int) := by omega
    have hil2 : (i : Int) < (n : Int) := by omega
    obtain ⟨r, hr, hrk, t, ht, hto, ht1, ht2⟩ := to_row hv hlt hc
    have HTO := Lib.hid hto
    obtain ⟨ad, rv, rfl, hc1, ra, rcap, rfl, hrc⟩ := HR.out i r hr
    obtain ⟨xd, rfl, hcx⟩ := hrc c t ht
    rw [hrk] at hc1
    have f2 := F0.out.cell hc1 (fun h => h)
    have f3 := F0.out.cell hcx (fun h => h)
    have hck : (c : Int) < (k : Int) := by omega
    clear hrc hc1 hcx hr ht hto
    by_cases h0 : t < 0
    · have HT := Lib.hid (show toP D n i c = n by rw [toP, HTO.out, if_pos h0])
      go_enter Tryz.func38, Tryz.ntmps38
      go_wp2_with fail
      go_ret
      exact ⟨by rw [HT.out]; rfl, F0.out⟩
    · have HT := Lib.hid (show toP D n i c = t.toNat by rw [toP, HTO.out, if_neg h0])
      go_enter Tryz.func38, Tryz.ntmps38
      go_wp2_with fail
      go_ret
      exact ⟨by rw [HT.out, Int.toNat_of_nonneg (by omega)]; rfl, F0.out⟩
  · obtain rfl : i = n := by omega
    have hil : (i : Int) ≤ (i : Int) := by omega
    have HT := Lib.hid (show toP D i i c = i by
      have hq : plQ i i = -1 := if_neg (by omega)
      rw [toP, hq, to_neg D (by decide), if_pos (by decide)])
    go_enter Tryz.func38, Tryz.ntmps38
    go_wp2_with fail
    go_ret
    exact ⟨by rw [HT.out]; rfl, F0.out⟩

set_option maxRecDepth 100000 in
set_option maxHeartbeats 4000000 in
theorem tagged_any (D : Dfa) (n k : Nat) (v : Value) (w : World) (h : DfaIn w v D) (hv : DV D n k) (hn : n ≤ 10000) :
    Calls Tryz.prog 37 #[v] w fun e w' => ∃ u, e = .returned u ∧ w'.ownsRow w.heap.size 39 1 u (n + 1) (setsV (D.tags ++ [0])) ∧ Fr none_ w w' := by
  obtain ⟨C, na, ta, ncap, tcap, rfl, hz, h256, h257, hrow, htag⟩ := h.all
  have hpos := hv.pos
  have htl := hv.ht
  rw [htl] at h257
  obtain ⟨td, rfl, htc⟩ : ∃ ad, ta = some ad ∧ ∀ (j : Nat) (u : Value), (setsV D.tags)[j]? = some u → w.cell? (ad.add j) = some u := by
    obtain ⟨ad, e0, _⟩ := htag 0 _ (List.getElem?_eq_getElem (show 0 < D.tags.length by omega))
    refine ⟨ad, e0, fun j u hu => ?_⟩
    rw [setsV, List.getElem?_map] at hu
    cases hz : D.tags[j]? with
    | none => rw [hz] at hu; simp at hu
    | some z =>
      rw [hz] at hu
      obtain ⟨ad2, e, h2⟩ := htag j z hz
      rw [e0] at e
      injection e with e
      subst e
      rw [h2]
      simpa using hu
  have B0 := Lib.hid (alloc_new w (.cells C.toArray 34))
  have F0 := Lib.hid ((Fr.refl none_ w).alloc (.cells C.toArray 34))
  have f1 : (w.alloc (.cells C.toArray 34)).cell? ⟨w.heap.size, 257, none⟩ = some (.slice (some td) n tcap) := cell_of_block B0.out (by simpa using h257)
  have HNT := Lib.hid (show ∀ (j : Nat) (u : Value), (setsV D.tags)[j]? = some u → (w.alloc (.cells C.toArray 34)).cell? (td.add j) = some u from fun j u hu => F0.out.cell (htc j u hu) (fun h => h))
  have hsl : (setsV D.tags).length = n := by rw [setsV, List.length_map]; exact htl
  have HSO := Lib.hid (show ∀ u ∈ setsV D.tags, u.oneCell' = true from fun u hu => by
    simp only [setsV, List.mem_map] at hu
    obtain ⟨m, _, rfl⟩ := hu
    rfl)
  obtain ⟨j0, hj, hy0, hy1, hy2⟩ := info_parts set_info
  obtain ⟨B, hB⟩ : ∃ B, w.heap.size = B := ⟨_, rfl⟩
  have hBw : B ≤ w.heap.size := by omega
  have HOW := Lib.hid (show (w.alloc (.cells C.toArray 34)).ownsRow B 39 1 (.slice none 0 0) 0 [] from World.ownsRow_nil _ _ _ _)
  have HBB := Lib.hid hB
  clear h hrow htag h256 h257 htc hB
  go_enter Tryz.func37, Tryz.ntmps37
  go_wp2_with (at_builtin; refine wpList_append_lies _ rfl (.tmp 4) (.tmp 6) 24 rfl B 39 j0 _ 1 8 Tryz.underlying24 hj hy0 hy1 hy2 rfl (by decide) _ 0 [] rfl HOW.out td n tcap (setsV D.tags) rfl (by rw [hsl, Nat.mul_one]) HNT.out HSO.out hpos (by unfold maxLen; omega) (by omega) (by simp; omega) _ rfl ?_)
  intro g5 cap5 y3 hown hgrow hat hlt
  try simp only [Nat.zero_add, List.nil_append] at hown
  have F3 := Lib.hid (F0.out.grown hgrow (fun k hk => by simp [Value.ownBlock] at hk))
  have HO4 := Lib.hid hown
  have hB3 : B ≤ y3.heap.size := by have := F3.out.size; omega
  clear f1 HNT HSO hown hgrow hat hlt
  go_wp2_with (at_builtin; refine wpList_append_lies _ rfl (.tmp 8) (.tmp 9) 24 rfl B 39 j0 _ 1 8 Tryz.underlying24 hj hy0 hy1 hy2 rfl (by decide) _ n (setsV D.tags) rfl (HO4.out.alloc _) ⟨y3.heap.size, 0, none⟩ 1 1 [.int .u64 0] rfl rfl (getElem_block (alloc_new _ _)) (by simp [Value.oneCell']) (by decide) (by unfold maxLen; omega) (by omega) (by first | omega | (simp; omega)) (y3.heap.size + 1) (by simp) ?_)
  intro g6 cap6 y4 hown hgrow hat hlt
  have F4 := Lib.hid ((F3.out.alloc (.cells #[.int .u64 0] 39)).grown hgrow (fun k hk => .inr (by have := (HO4.out.lt k hk).1; have := HBB.out; omega)))
  have HO5 := Lib.hid hown
  clear hown hgrow hat hlt
  go_wp2_with fail
  go_ret
  exact ⟨_, rfl, by rw [HBB.out]; simpa [setsV] using HO5.out, F4.out⟩

set_option maxRecDepth 100000 in
set_option maxHeartbeats 4000000 in
theorem ofref_any (D : Dfa) (v : Value) (w : World) (h : DfaIn w v D) :
    Calls Tryz.prog 13 #[v] w fun e w' => e = .returned v ∧ Fr none_ w w' := by
  obtain ⟨C, na, ta, ncap, tcap, rfl, hz, hCQ, h256, h257, hrow, htag⟩ := h.whole
  have hone : C.toArray.all (·.oneCell') = true := by
    obtain ⟨E, e, _, h3⟩ := h.cells
    have e2 : C = E := by injection e with e; injection e
    rw [e2]; exact h3
  have hq : (intsV D.cls).length = 256 := by rw [intsV_length, h.len]
  obtain ⟨Q, hQ⟩ : ∃ Q, intsV D.cls = Q := ⟨_, rfl⟩
  rw [hQ] at hq hCQ
  have HCQ := Lib.hid hCQ
  have B0 := Lib.hid (((Fr.refl none_ (w.alloc (.cells C.toArray 26))).alloc (.cells Tryz.zeroCells34 34)).at_ (alloc_new w (.cells C.toArray 26)) (fun h => h))
  have F0 := Lib.hid (((Fr.refl none_ w).alloc (.cells C.toArray 26)).alloc (.cells Tryz.zeroCells34 34))
  have hb1 := alloc_new (w.alloc (.cells C.toArray 26)) (.cells Tryz.zeroCells34 34)
  rw [show (w.alloc (.cells C.toArray 26)).heap.size = w.heap.size + 1 by simp] at hb1
  have B1 := Lib.hid hb1
  have f1 : ((w.alloc (.cells C.toArray 26)).alloc (.cells Tryz.zeroCells34 34)).cell? ⟨w.heap.size, 256, none⟩ = some (.slice na D.next.length ncap) := cell_of_block B0.out (by simpa using h256)
  have f2 : ((w.alloc (.cells C.toArray 26)).alloc (.cells Tryz.zeroCells34 34)).cell? ⟨w.heap.size, 257, none⟩ = some (.slice ta D.tags.length tcap) := cell_of_block B0.out (by simpa using h257)
  have HRG := Lib.hid (show ((w.alloc (.cells C.toArray 26)).alloc (.cells Tryz.zeroCells34 34)).rangeAt w.heap.size 0 Q from range_pre (D := [.slice na D.next.length ncap, .slice ta D.tags.length tcap]) (by rw [← HCQ.out]; exact range_of B0.out))
  have hf := fold_class Q hq
  rw [← zeroR_list] at hf
  clear h hrow htag h256 h257 hCQ hb1 hQ
  go_enter Tryz.func13, Tryz.ntmps13
  have hone2 : (Q ++ [Value.slice na D.next.length ncap, Value.slice ta D.tags.length tcap]).toArray.all (·.oneCell') = true := by rw [← HCQ.out]; exact hone
  have hz2 : (Q ++ [Value.slice na D.next.length ncap, Value.slice ta D.tags.length tcap]).length = 258 := by simp [hq]
  go_wp2_with (first
    | (refine wpList_load_mid rfl 22 (.tmp 3) rfl w.heap.size 0 rfl Q _ HRG.out Tryz.underlying22 rfl ?_ ?_; (rw [hq]; exact arr_info))
    | (refine wpList_store_row rfl 34 (.tmp 2) (.tmp 9) rfl (w.heap.size + 1) 34 Tryz.zeroCells34 (Q ++ [Value.slice na D.next.length ncap, Value.slice ta D.tags.length tcap]).toArray rfl rfl B1.out ?_ ?_ hone2 ?_; (rw [List.size_toArray, hz2]; exact refD_info); (rw [zeroR_list, zeroD_size, List.size_toArray, hz2])))
  have hb := setRow_heap ((w.alloc (.cells C.toArray 26)).alloc (.cells Tryz.zeroCells34 34)) (w.heap.size + 1) _ (Q ++ [Value.slice na D.next.length ncap, Value.slice ta D.tags.length tcap]).toArray _ _ B1.out
  refine bodyPost_ret (results_cell_row rfl _ _ (w.heap.size + 1) _ _ _ _ rfl hb Tryz.underlying34 rfl (by rw [List.size_toArray, hz2]; exact refD_info)) rfl ?_
  exact ⟨by rw [HCQ.out], Fr.setRow F0.out (.inr (by omega)) _⟩
end Go.Proofs.YtglflmkkecephaaGreatDoor

namespace Go.Proofs.YtglflmkkecephaaGreatDoor set_option linter.unusedVariables false set_option linter.unusedSimpArgs false
open Go.RowKit

set_option maxRecDepth 100000 in
set_option maxHeartbeats 4000000 in
theorem refgo_any (D : Dfa) (v : Value) (at_ : Int) (b : Nat) (w : World) (h : DfaIn w v D) (hb : b < 256) :
    Calls Tryz.prog 62 #[v, .int .i64 at_, .int .u8 b] w fun e w' => e = .returned (.int .i64 (goM D at_ b)) ∧ Fr none_ w w' := by
  obtain ⟨nv, tv, rfl, hn, ht⟩ := h.ex
  obtain ⟨na, ncap, rfl, hrow⟩ := hn
  have HL := h.len
  obtain ⟨h256, h257⟩ := dfaC_at HL (.slice na D.next.length ncap) tv
  have hcb := dfaC_cls HL (.slice na D.next.length ncap) tv hb
  obtain ⟨C, hC⟩ : ∃ C, dfaC D.cls (.slice na D.next.length ncap) tv = C := ⟨_, rfl⟩
  rw [hC] at h256 h257 hcb ⊢
  obtain ⟨c, hc⟩ : ∃ c, D.cls.getD b 0 = c := ⟨_, rfl⟩
  rw [hc] at hcb
  have hbi : (b : Int) < 256 := by omega
  have hG : goM D at_ b = if at_ < 0 ∨ (D.next.length : Int) ≤ at_ ∨ c < 0 ∨ ((D.next.getD at_.toNat []).length : Int) ≤ c then -1 else
      if (D.next.getD at_.toNat []).getD c.toNat 0 < 0 ∨ (D.next.length : Int) ≤ (D.next.getD at_.toNat []).getD c.toNat 0 then -1 else (D.next.getD at_.toNat []).getD c.toNat 0 := by
    unfold goM; rw [hc]
  have HG := Lib.hid hG
  have HR := Lib.hid hrow
  clear hG hrow hC hc ht h
  have NB := alloc_new w (.cells C.toArray 34)
  have f1 : (w.alloc (.cells C.toArray 34)).cell? ⟨w.heap.size, b, none⟩ = some (.int .i64 c) := by
    rw [Lib.cell_of_heap NB]; simpa using hcb
  have f2 : (w.alloc (.cells C.toArray 34)).cell? ⟨w.heap.size, 256, none⟩ = some (.slice na D.next.length ncap) := by
    rw [Lib.cell_of_heap NB]; simpa using h256
  have HF := Lib.hid ((Fr.refl none_ w).alloc (.cells C.toArray 34))
  clear NB hcb h256 h257
  obtain ⟨N, hN⟩ : ∃ N, D.next.length = N := ⟨_, rfl⟩
  have HN := Lib.hid hN
  rw [hN] at HG f2
  clear hN
  by_cases h1 : at_ < 0
  · have HV := Lib.hid (show goM D at_ b = -1 by rw [HG.out, if_pos (.inl h1)])
    go_enter Tryz.func62, Tryz.ntmps62
    go_wp2_with fail
    go_ret
    exact ⟨by rw [HV.out]; rfl, HF.out⟩
  obtain ⟨i, rfl⟩ := Int.eq_ofNat_of_zero_le (show 0 ≤ at_ by omega)
  have hi0 : (0 : Int) ≤ (i : Int) := by omega
  by_cases h2 : N ≤ i
  · have HV := Lib.hid (show goM D i b = -1 by rw [HG.out, if_pos (.inr (.inl (by omega)))])
    have h2' : (N : Int) ≤ (i : Int) := by omega
    clear h1
    go_enter Tryz.func62, Tryz.ntmps62
    go_wp2_with fail
    go_ret
    exact ⟨by rw [HV.out]; rfl, HF.out⟩
  have h2' : (i : Int) < (N : Int) := by omega
  by_cases h3 : c < 0
  · have HV := Lib.hid (show goM D i b = -1 by rw [HG.out, if_pos (.inr (.inr (.inl h3)))])
    clear h1 h2
    have b1 : decide (c < 0) = true := by simp <;> omega
    go_enter Tryz.func62, Tryz.ntmps62
    go_wp2_with fail
    go_quiet (fail)
    go_wp2_with fail
    go_ret
    exact ⟨by rw [HV.out]; rfl, HF.out.drewN _⟩
  obtain ⟨k, rfl⟩ := Int.eq_ofNat_of_zero_le (show 0 ≤ c by omega)
  have hk0 : (0 : Int) ≤ (k : Int) := by omega
  obtain ⟨row, hrow⟩ : ∃ row, D.next[i]? = some row := ⟨_, List.getElem?_eq_getElem (by rw [HN.out]; omega)⟩
  have hget : D.next.getD i [] = row := by simp [List.getD, hrow]
  obtain ⟨ad, rv, rfl, hcell, ra, rcap, rfl, hr⟩ := HR.out i row hrow
  have f3 := cell_move HF.out hcell
  have hG2 := HG.out
  simp only [Int.toNat_natCast, hget] at hG2
  obtain ⟨M, hM⟩ : ∃ M, row.length = M := ⟨_, rfl⟩
  have HM := Lib.hid hM
  rw [hM] at hG2 f3
  have HG2 := Lib.hid hG2
  have HR2 := Lib.hid hr
  clear h1 h2 h3 hget hcell hG2 hr hM
  by_cases h4 : M ≤ k
  · have HV := Lib.hid (show goM D i b = -1 by rw [HG2.out, if_pos (.inr (.inr (.inr (by omega))))])
    have h4' : (M : Int) ≤ (k : Int) := by omega
    have b1 : decide ((k : Int) < 0) = false := by simp <;> omega
    have b2 : decide ((M : Int) ≤ (k : Int)) = true := by simp <;> omega
    go_enter Tryz.func62, Tryz.ntmps62
    go_wp2_with fail
    go_quiet (fail)
    go_wp2_with fail
    go_ret
    exact ⟨by rw [HV.out]; rfl, HF.out.drewN _⟩
  have h4' : (k : Int) < (M : Int) := by omega
  obtain ⟨to, hto⟩ : ∃ to, row[k]? = some to := ⟨_, List.getElem?_eq_getElem (by rw [HM.out]; omega)⟩
  have hget2 : row.getD k 0 = to := by simp [List.getD, hto]
  obtain ⟨rad, rfl, hcell2⟩ := HR2.out k to hto
  have f4 := cell_move HF.out hcell2
  have hG3 := HG2.out
  rw [if_neg (by omega)] at hG3
  rw [hget2] at hG3
  have HG3 := Lib.hid hG3
  clear h4 hcell2 hG3 hget2 hto
  by_cases h5 : to < 0
  · have HV := Lib.hid (show goM D i b = -1 by rw [HG3.out, if_pos (.inl h5)])
    have b1 : decide ((k : Int) < 0) = false := by simp <;> omega
    have b2 : decide (M ≤ k) = false := by simp <;> omega
    have b3 : decide (to < 0) = true := by simp <;> omega
    go_enter Tryz.func62, Tryz.ntmps62
    go_wp2_with fail
    go_quiet (fail)
    go_wp2_with fail
    go_ret
    exact ⟨by rw [HV.out]; rfl, HF.out.drewN _⟩
  have h5' : 0 ≤ to := by omega
  by_cases h6 : (N : Int) ≤ to
  · have HV := Lib.hid (show goM D i b = -1 by rw [HG3.out, if_pos (.inr h6)])
    clear h5
    have b1 : decide ((k : Int) < 0) = false := by simp <;> omega
    have b2 : decide (M ≤ k) = false := by simp <;> omega
    have b3 : decide (to < 0) = false := by simp <;> omega
    have b4 : decide ((N : Int) ≤ to) = true := by simp <;> omega
    go_enter Tryz.func62, Tryz.ntmps62
    go_wp2_with fail
    go_quiet (fail)
    go_wp2_with fail
    go_ret
    exact ⟨by rw [HV.out]; rfl, HF.out.drewN _⟩
  have HV := Lib.hid (show goM D i b = to by rw [HG3.out, if_neg (by omega)])
  have h6' : to < (N : Int) := by omega
  clear h5 h6
  have b1 : decide ((k : Int) < 0) = false := by simp <;> omega
  have b2 : decide (M ≤ k) = false := by simp <;> omega
  have b3 : decide (to < 0) = false := by simp <;> omega
  have b4 : decide ((N : Int) ≤ to) = false := by simp <;> omega
  go_enter Tryz.func62, Tryz.ntmps62
  go_wp2_with fail
  go_quiet (fail)
  go_wp2_with fail
  go_ret
  exact ⟨by rw [HV.out]; rfl, HF.out.drewN _⟩
set_option maxRecDepth 100000 in
set_option maxHeartbeats 4000000 in
theorem refrun_any (D : Dfa) (v : Value) (s : ByteArray) (w : World) (h : DfaIn w v D) (hs : s.size < 4611686018427387904) :
    Calls Tryz.prog 41 #[v, .string s] w fun e w' => e = .returned (.int .u64 (runD D (bytesN s))) ∧ Fr none_ w w' := by
  have HD := Lib.hid h
  obtain ⟨nv, tv, rfl, hn, ht⟩ := h.ex
  obtain ⟨na, ncap, rfl, _⟩ := hn
  obtain ⟨ta, tcap, rfl, htag⟩ := ht
  have HT := Lib.hid htag
  obtain ⟨h256, h257⟩ := dfaC_at h.len (.slice na D.next.length ncap) (.slice ta D.tags.length tcap)
  have HC := Lib.hid (dfaC_length D.cls (.slice na D.next.length ncap) (.slice ta D.tags.length tcap) h.len)
  obtain ⟨C, hC⟩ : ∃ C, dfaC D.cls (.slice na D.next.length ncap) (.slice ta D.tags.length tcap) = C := ⟨_, rfl⟩
  rw [hC] at h256 h257 HC HD ⊢
  clear hC h htag
  have NB := Lib.hid (alloc_new w (.cells C.toArray 34))
  have H256 := Lib.hid h256
  have H257 := Lib.hid h257
  have HF := Lib.hid ((Fr.refl none_ w).alloc (.cells C.toArray 34))
  clear h256 h257
  go_enter Tryz.func41, Tryz.ntmps41
  go_wp2_with fail
  go_loopw [5, 6] (fun x5 x9 wr => ∃ i : Nat, i ≤ s.size ∧ x9 = .int .i64 i ∧ x5 = .int .i64 (atD D 0 ((bytesN s).take i)) ∧ Aside (Fr none_ (w.alloc (.cells C.toArray 34)) wr)) (fun _ x9 _ => s.size - (intOf x9).toNat)
  case atStart => exact ⟨0, Nat.zero_le _, rfl, rfl, Fr.refl _ _⟩
  case round =>
    obtain ⟨i, hi', rfl, rfl, hF'⟩ := hrel
    have HFr := Lib.hid hF'.out
    clear hF'
    obtain ⟨at_, hat⟩ : ∃ a, atD D 0 ((bytesN s).take i) = a := ⟨_, rfl⟩
    have HAT := Lib.hid hat
    rw [hat]
    clear hat
    by_cases hlt : i < s.size
    · have hil : (i : Int) < (s.size : Int) := by omega
      have hi0 : (0 : Int) ≤ (i : Int) := by omega
      have HS := Lib.hid (show atD D 0 ((bytesN s).take (i + 1)) = goM D at_ (byteAt s i) by
        rw [bytesN_take s i hlt, atD_snoc, HAT.out])
      have hbl := byteAt_lt s i
      have hbe := byteAt_eq s i hlt
      have HBE := Lib.hid hbe
      clear hbe
      go_wp2_with fail
      refine wp_region_held_drew (S := fun w' => w'.rangeAt w.heap.size 0 C) (by kernel_rfl) (range_of (HFr.out.drew.at_ NB.out (fun h => h))) (fun hHeld => ?_)
      refine wpAnyH_take (i := 0) lot0 (by kernel_rfl) (by kernel_rfl) (by kernel_rfl) (fun _ _ _ h => h) (yieldsIf_load_mid (by rfl) _ _ rfl _ _ rfl C _ (fun _ h => h) Tryz.underlying34 rfl (by rw [HC.out]; exact refD_info)) (by assumption) ?_
      try simp only [Act.put, List.setIfInBounds_toArray, List.set_cons_zero, List.set_cons_succ]
      refine wpAnyH_take (i := 1) (v := ?_) lot1 (by kernel_rfl) (by kernel_rfl) (by kernel_rfl) (fun _ _ _ h => h) (Or.inl ⟨by rfl, ?_⟩) (by assumption) ?_
      rotate_left
      · (intro w hSw; (try dsimp only at hSw); go_simp) <;> with_reducible rfl
      try simp only [Act.put, List.setIfInBounds_toArray, List.set_cons_zero, List.set_cons_succ]
      refine wpAnyH_take (i := 2) (v := ?_) lot2 (by kernel_rfl) (by kernel_rfl) (by kernel_rfl) (fun _ _ _ h => h) (Or.inl ⟨by rfl, ?_⟩) (by assumption) ?_
      rotate_left
      · (intro w hSw; (try dsimp only at hSw); go_simp) <;> with_reducible rfl
      try simp only [Act.put, List.setIfInBounds_toArray, List.set_cons_zero, List.set_cons_succ]
      refine wpAnyH_take (i := 3) (v := ?_) lot3 (by kernel_rfl) (by kernel_rfl) (by kernel_rfl) (fun _ _ _ h => h) (Or.inl ⟨by rfl, ?_⟩) (by assumption) ?_
      rotate_left
      · (intro w hSw; (try dsimp only at hSw); go_simp) <;> with_reducible rfl
      try simp only [Act.put, List.setIfInBounds_toArray, List.set_cons_zero, List.set_cons_succ]
      refine wpAnyH_take (i := 4) (v := ?_) lot4 (by kernel_rfl) (by kernel_rfl) (by kernel_rfl) (fun _ _ _ h => h) (Or.inl ⟨by rfl, ?_⟩) (by assumption) ?_
      rotate_left
      · (intro w hSw; (try dsimp only at hSw); go_simp) <;> with_reducible rfl
      try simp only [Act.put, List.setIfInBounds_toArray, List.set_cons_zero, List.set_cons_succ]
      refine wpAnyH_ready (rs := [5]) (by kernel_rfl) (by simp) ?_
      refine AllReadyH.cons lot5 (fun K hK => ?_) AllReadyH.nil
      go_simp
      go_at_call 62
      rw [HBE.out]
      refine (refgo_any D _ at_ (byteAt s i) _ (HD.out.move (HF.out.tr HFr.out.drew)) hbl).mono ?_
      rintro e wx ⟨rfl, Fx⟩
      have Gx := Lib.hid ((HFr.out.drew).tr Fx)
      clear Fx
      refine hK.out _ _ (range_of (Gx.out.at_ NB.out (fun h => h))) (fun hHeld => ?_)
      clear hK K
      try simp only [Act.put, List.setIfInBounds_toArray, List.set_cons_zero, List.set_cons_succ]
      refine wpAnyH_take (i := 6) (v := ?_) lot6 (by kernel_rfl) (by kernel_rfl) (by kernel_rfl) (fun _ _ _ h => h) (Or.inl ⟨by rfl, ?_⟩) (by assumption) ?_
      rotate_left
      · (intro w hSw; (try dsimp only at hSw); go_simp) <;> with_reducible rfl
      try simp only [Act.put, List.setIfInBounds_toArray, List.set_cons_zero, List.set_cons_succ]
      refine wpAnyH_done (by kernel_rfl) ?_ _
      go_wp2_with fail
      go_roundw
      case rel => exact ⟨i + 1, by omega, by go_num, by rw [HS.out], Gx.out⟩
      case measure => simp [intOf]; omega
    · obtain rfl : i = s.size := by omega
      have htk : (bytesN s).take s.size = bytesN s := List.take_of_length_le (by rw [bytesN_length]; exact Nat.le_refl _)
      have HAT2 := HAT.out
      rw [htk] at HAT2
      have HR := Lib.hid (show runD D (bytesN s) = tagD D at_ by rw [runD, HAT2])
      clear HAT2 htk
      have NBr := HFr.out.at_ NB.out (fun h => h)
      have f1 : wr.cell? ⟨w.heap.size, 256, none⟩ = some (.slice na D.next.length ncap) := by rw [Lib.cell_of_heap NBr]; simpa using H256.out
      have f2 : wr.cell? ⟨w.heap.size, 257, none⟩ = some (.slice ta D.tags.length tcap) := by rw [Lib.cell_of_heap NBr]; simpa using H257.out
      have HW := Lib.hid (HF.out.tr HFr.out)
      obtain ⟨N, hN⟩ : ∃ N, D.next.length = N := ⟨_, rfl⟩
      obtain ⟨M, hM⟩ : ∃ M, D.tags.length = M := ⟨_, rfl⟩
      have HTD := Lib.hid (show tagD D at_ = if at_ < 0 ∨ (Nat.min M N : Int) ≤ at_ then 0 else D.tags.getD at_.toNat 0 by rw [tagD, hN, hM])
      have HM := Lib.hid hM
      rw [hN] at f1
      rw [hM] at f2
      clear NBr hN hM
      by_cases h1 : at_ < 0
      · have HV := Lib.hid (show tagD D at_ = 0 by rw [HTD.out, if_pos (.inl h1)])
        go_wp2_with fail
        go_ret
        exact ⟨by rw [HR.out, HV.out]; rfl, HW.out⟩
      obtain ⟨k, rfl⟩ := Int.eq_ofNat_of_zero_le (show 0 ≤ at_ by omega)
      have hk0 : ¬ (k : Int) < 0 := by omega
      by_cases h2 : M ≤ k
      · have hmin : Nat.min M N ≤ M := Nat.min_le_left _ _
        have h2' : (M : Int) ≤ (k : Int) := by omega
        have HV := Lib.hid (show tagD D k = 0 by rw [HTD.out, if_pos (.inr (by omega))])
        clear hmin h1
        go_wp2_with fail
        go_ret
        exact ⟨by rw [HR.out, HV.out]; rfl, HW.out⟩
      have h2' : (k : Int) < (M : Int) := by omega
      by_cases h3 : N ≤ k
      · have hmin : Nat.min M N ≤ N := Nat.min_le_right _ _
        have h3' : (N : Int) ≤ (k : Int) := by omega
        have HV := Lib.hid (show tagD D k = 0 by rw [HTD.out, if_pos (.inr (by omega))])
        clear hmin h1
        go_wp2_with fail
        go_ret
        exact ⟨by rw [HR.out, HV.out]; rfl, HW.out⟩
      have h3' : (k : Int) < (N : Int) := by omega
      obtain ⟨z, hz⟩ : ∃ z, D.tags[k]? = some z := ⟨_, List.getElem?_eq_getElem (by rw [HM.out]; omega)⟩
      have hmin : k < Nat.min M N := Nat.lt_min.2 ⟨by omega, by omega⟩
      have HV := Lib.hid (show tagD D k = z by rw [HTD.out, if_neg (by omega)]; simp [List.getD, hz])
      obtain ⟨ad, rfl, hc⟩ := HT.out k z hz
      have f3 := cell_move HW.out hc
      clear hmin h1 hc hz
      go_wp2_with fail
      go_ret
      exact ⟨by rw [HR.out, HV.out]; rfl, HW.out⟩
end Go.Proofs.YtglflmkkecephaaGreatDoor

namespace Go.Proofs.YtglflmkkecephaaGreatDoor set_option linter.unusedVariables false set_option linter.unusedSimpArgs false
open Go.RowKit

theorem rpiece_info : (Tryz.prog.info? 45).map (·.size) = some 2 := by kernel_rfl
/-- Within the loop. -/
structure LgR (w wr : World) (b : Nat) (C : List Value) (m : Nat) (to : Int) : Prop where
  box : wr.heap[b]? = some (.cells C.toArray 34 (0, 0))
  res : wr.heap[b + 1]? = some (.cells #[.int .u64 0, .int .i64 0] 45 (0, 0))
  out : wr.heap[b + 1 + 1]? = some (.cells #[.int .u64 (m : Int), .int .i64 to] 45 (0, 0))
  fr : Fr none_ w wr
  base : w.heap.size ≤ b
theorem LgR.move {w wr wx : World} {b : Nat} {C : List Value} {m : Nat} {to : Int} (h : LgR w wr b C m to) (hf : Fr none_ wr wx) : LgR w wx b C m to :=
  ⟨hf.at_ h.box (fun h => h), hf.at_ h.res (fun h => h), hf.at_ h.out (fun h => h), h.fr.tr hf, h.base⟩
theorem LgR.put {w wr : World} {b : Nat} {C : List Value} {m : Nat} {to : Int} (h : LgR w wr b C m to) (m' : Nat) (to' : Int) : LgR w ((wr.setCell ⟨b + 1 + 1, 0, none⟩ (.int .u64 (m' : Int))).setCell ⟨b + 1 + 1, 1, none⟩ (.int .i64 to')) b C m' to' := by
  have other : ∀ k, k ≠ b + 1 + 1 → ((wr.setCell ⟨b + 1 + 1, 0, none⟩ (.int .u64 (m' : Int))).setCell ⟨b + 1 + 1, 1, none⟩ (.int .i64 to')).heap[k]? = wr.heap[k]? := fun k hk => by
    rw [Below.heap_setCell _ _ _ k hk, Below.heap_setCell _ _ _ k hk]
  refine ⟨(other _ (by omega)).trans h.box, (other _ (by omega)).trans h.res, lg_end h.out _ _, ?_, h.base⟩
  exact (h.fr.setCell (p := ⟨b + 1 + 1, 0, none⟩) (.inr (by have := h.base; show w.heap.size ≤ b + 1 + 1; omega)) _).setCell (p := ⟨b + 1 + 1, 1, none⟩) (.inr (by have := h.base; show w.heap.size ≤ b + 1 + 1; omega)) _

set_option maxRecDepth 100000 in
set_option maxHeartbeats 4000000 in
theorem reflong_out (D : Dfa) (v : Value) (s : ByteArray) (at_ : Int) (may : Nat) (w : World) (h : DfaIn w v D) (hs : s.size < 4611686018427387904) (hat : at_ < 0 ∨ ((s.size : Int) < at_ ∧ at_ ≤ 9223372036854775807)) :
    Calls Tryz.prog 18 #[v, .string s, .int .i64 at_, .int .u64 may] w fun e w' => e = .returned (.agg #[.int .u64 0, .int .i64 at_]) ∧ Fr none_ w w' := by
  obtain ⟨C, rfl, hz, hone⟩ := h.cells
  clear h hone
  obtain ⟨wa, hwa⟩ : ∃ x, (((w.alloc (.cells C.toArray 34)).alloc (.cells #[.int .u64 0, .int .i64 0] 45)).alloc (.cells #[.int .u64 0, .int .i64 at_] 45)) = x := ⟨_, rfl⟩
  have HWA := Lib.hid hwa
  have HAL := Lib.hid (alloc3 w (.cells C.toArray 34) (.cells #[.int .u64 0, .int .i64 0] 45) (.cells #[.int .u64 0, .int .i64 at_] 45))
  clear hwa
  obtain ⟨z, hz1⟩ : ∃ z, IntKind.i64.wrap (at_ + 1) = z := ⟨_, rfl⟩
  have hz2 : at_ < 0 ∨ (0 ≤ at_ ∧ (s.size : Int) < z) ∨ (0 ≤ at_ ∧ z ≤ s.size ∧ z ≤ at_) := by
    rw [IntKind.wrap_i64] at hz1
    omega
  clear hat
  go_enter Tryz.func18, Tryz.ntmps18
  go_wp2_with fail
  rw [HWA.out]
  rw [HWA.out] at HAL
  go_loopw [10] (fun x10 wr => x10 = .int .i64 z ∧ Aside (wr = wa)) (fun x10 _ => 0)
  case atStart => exact ⟨by rw [← hz1], rfl⟩
  case round =>
    obtain ⟨rfl, h'⟩ := hrel
    obtain rfl := h'.out
    clear h' hz1
    obtain ⟨hfr, hb0, hb1, hb2⟩ := HAL.out
    have g0 : wr.cell? ⟨w.heap.size + 1 + 1, 0, none⟩ = some (.int .u64 0) := cell_of_block hb2 rfl
    have g1 : wr.cell? ⟨w.heap.size + 1 + 1, 1, none⟩ = some (.int .i64 at_) := cell_of_block hb2 rfl
    have g2 : wr.cell? ⟨w.heap.size + 1, 0, none⟩ = some (.int .u64 0) := cell_of_block hb1 rfl
    have g3 : wr.cell? ⟨w.heap.size + 1, 1, none⟩ = some (.int .i64 0) := cell_of_block hb1 rfl
    have g4 : wr.frozen? ⟨w.heap.size + 1, 0, none⟩ = false := free_of_block hb1
    have g5 : wr.frozen? ⟨w.heap.size + 1, 1, none⟩ = false := free_of_block hb1
    have HB1 := Lib.hid hb1
    have HFR := Lib.hid hfr
    clear hfr hb0 hb1 hb2
    rcases hz2 with hc | ⟨hc, hc2⟩ | ⟨hc, hc2, hc3⟩

    · have hn : ¬ (0 : Int) ≤ at_ := by omega
      go_wp2_with fail
      refine bodyPost_ret (results_cell_row rfl _ _ (w.heap.size + 1) _ _ _ _ rfl (lg_end HB1.out _ _) Tryz.underlying45 rfl rpiece_info) rfl ?_
      exact ⟨rfl, (HFR.out.setCell (p := ⟨w.heap.size + 1, 0, none⟩) (.inr (by show w.heap.size ≤ w.heap.size + 1; omega)) _).setCell (p := ⟨w.heap.size + 1, 1, none⟩) (.inr (by show w.heap.size ≤ w.heap.size + 1; omega)) _⟩
    · have hn : ¬ z ≤ (s.size : Int) := by omega
      go_wp2_with fail
      refine bodyPost_ret (results_cell_row rfl _ _ (w.heap.size + 1) _ _ _ _ rfl (lg_end HB1.out _ _) Tryz.underlying45 rfl rpiece_info) rfl ?_
      exact ⟨rfl, (HFR.out.setCell (p := ⟨w.heap.size + 1, 0, none⟩) (.inr (by show w.heap.size ≤ w.heap.size + 1; omega)) _).setCell (p := ⟨w.heap.size + 1, 1, none⟩) (.inr (by show w.heap.size ≤ w.heap.size + 1; omega)) _⟩
    · have hn : ¬ at_ < z := by omega
      go_wp2_with fail
      refine bodyPost_ret (results_cell_row rfl _ _ (w.heap.size + 1) _ _ _ _ rfl (lg_end HB1.out _ _) Tryz.underlying45 rfl rpiece_info) rfl ?_
      exact ⟨rfl, (HFR.out.setCell (p := ⟨w.heap.size + 1, 0, none⟩) (.inr (by show w.heap.size ≤ w.heap.size + 1; omega)) _).setCell (p := ⟨w.heap.size + 1, 1, none⟩) (.inr (by show w.heap.size ≤ w.heap.size + 1; omega)) _⟩

set_option maxRecDepth 100000 in
set_option maxHeartbeats 4000000 in
theorem reflong_in (D : Dfa) (v : Value) (s : ByteArray) (a : Nat) (may : Nat) (w : World) (h : DfaIn w v D) (ht : ∀ t ∈ D.tags, t < 18446744073709551616) (hmay : may < 18446744073709551616) (hs : s.size < 4611686018427387904) (has : a ≤ s.size) :
    Calls Tryz.prog 18 #[v, .string s, .int .i64 (a : Int), .int .u64 may] w fun e w' => e = .returned (.agg #[.int .u64 ((longTo D (bytesN s) a may (s.size - a)).1 : Nat), .int .i64 ((longTo D (bytesN s) a may (s.size - a)).2 : Nat)]) ∧ Fr none_ w w' := by
  have HD := Lib.hid h
  obtain ⟨C, rfl, hz, hone⟩ := h.cells
  have HTB := Lib.hid ht
  obtain ⟨wa, hwa⟩ : ∃ x, (((w.alloc (.cells C.toArray 34)).alloc (.cells #[.int .u64 0, .int .i64 0] 45)).alloc (.cells #[.int .u64 0, .int .i64 (a : Int)] 45)) = x := ⟨_, rfl⟩
  have HWA := Lib.hid hwa
  have HAL := Lib.hid (alloc3 w (.cells C.toArray 34) (.cells #[.int .u64 0, .int .i64 0] 45) (.cells #[.int .u64 0, .int .i64 (a : Int)] 45))
  obtain ⟨R, hR⟩ : ∃ R, longTo D (bytesN s) a may (s.size - a) = R := ⟨_, rfl⟩
  have HR := Lib.hid hR
  rw [hR]
  clear hwa h hone ht hR
  go_enter Tryz.func18, Tryz.ntmps18
  go_wp2_with fail
  rw [HWA.out]
  rw [HWA.out] at HAL
  obtain ⟨b, hb⟩ : ∃ b, w.heap.size = b := ⟨_, rfl⟩
  have HB := Lib.hid hb
  have HS0 := Lib.hid (show LgR w wa b C 0 a from by
    obtain ⟨q1, q2, q3, q4⟩ := HAL.out
    rw [hb] at q2 q3 q4
    exact ⟨q2, q3, q4, q1, by omega⟩)
  rw [hb]
  clear HAL HWA hb
  go_loopw [10] (fun x10 wr => ∃ (e : Nat) (m to : Nat), a + 1 ≤ e ∧ e ≤ s.size + 1 ∧ x10 = .int .i64 e ∧ Aside (longTo D (bytesN s) a may (e - 1 - a) = (m, to)) ∧ Aside (LgR w wr b C m to)) (fun x10 _ => s.size + 1 - (intOf x10).toNat)
  case atStart => exact ⟨a + 1, 0, a, Nat.le_refl _, by omega, by first | rfl | simp | (go_num), (show longTo D (bytesN s) a may (a + 1 - 1 - a) = (0, a) by rw [show a + 1 - 1 - a = 0 by omega]; rfl), HS0.out⟩
  case round =>
    obtain ⟨e, m, to, hae, hes, rfl, h1', h2'⟩ := hrel
    have HLO := Lib.hid h1'.out
    have HST := Lib.hid h2'.out
    clear h1' h2' HS0
    have ha0 : (0 : Int) ≤ (a : Int) := by omega
    by_cases hle : e ≤ s.size
    case neg =>
      have hleI : ¬ (e : Int) ≤ (s.size : Int) := by omega
      have HEND := Lib.hid (show R = (m, to) by rw [← HR.out, ← HLO.out, show s.size - a = e - 1 - a by omega])
      have g0 : wr.cell? ⟨b + 1 + 1, 0, none⟩ = some (.int .u64 (m : Int)) := cell_of_block HST.out.out rfl
      have g1 : wr.cell? ⟨b + 1 + 1, 1, none⟩ = some (.int .i64 (to : Int)) := cell_of_block HST.out.out rfl
      have g2 : wr.cell? ⟨b + 1, 0, none⟩ = some (.int .u64 0) := cell_of_block HST.out.res rfl
      have g3 : wr.cell? ⟨b + 1, 1, none⟩ = some (.int .i64 0) := cell_of_block HST.out.res rfl
      have g4 : wr.frozen? ⟨b + 1, 0, none⟩ = false := free_of_block HST.out.res
      have g5 : wr.frozen? ⟨b + 1, 1, none⟩ = false := free_of_block HST.out.res
      have hbase := HST.out.base
      go_wp2_with fail
      refine bodyPost_ret (results_cell_row rfl _ _ (b + 1) _ _ _ _ rfl (lg_end HST.out.res _ _) Tryz.underlying45 rfl rpiece_info) rfl ?_
      exact ⟨by rw [HEND.out], (HST.out.fr.setCell (p := ⟨b + 1, 0, none⟩) (.inr (by show w.heap.size ≤ b + 1; omega)) _).setCell (p := ⟨b + 1, 1, none⟩) (.inr (by show w.heap.size ≤ b + 1; omega)) _⟩
    case pos =>
      have hleI : (e : Int) ≤ (s.size : Int) := by omega
      have hgt : (a : Int) < (e : Int) := by omega
      have hq1 : (a : Int) ≤ (e : Int) := by omega
      have hexs : (s.extract a e).size < 4611686018427387904 := by simp [ByteArray.size_extract]; omega
      obtain ⟨r, hr⟩ : ∃ r, runD D (((bytesN s).drop a).take (e - a)) = r := ⟨_, rfl⟩
      have HRUN := Lib.hid (show runD D (bytesN (s.extract a e)) = r by rw [bytesN_extract, hr])
      have hrl : r < 18446744073709551616 := by rw [← hr]; exact runD_lt HTB.out _
      obtain ⟨m2, hm2⟩ : ∃ m2, r &&& may = m2 := ⟨_, rfl⟩
      have HMM := Lib.hid hm2
      have HNX := Lib.hid (show longTo D (bytesN s) a may (e + 1 - 1 - a) = if m2 = 0 then (m, to) else (m2, e) by
        rw [show e + 1 - 1 - a = (e - 1 - a) + 1 by omega, longTo, show e - 1 - a + 1 = e - a by omega, hr, hm2, HLO.out, show a + (e - 1 - a) + 1 = e by omega])
      have HSX := Lib.hid (show ∀ wx, Fr none_ wr wx → wx.rangeAt b 0 C from fun wx hf => range_of (hf.at_ HST.out.box (fun h => h)))
      clear hr hm2
      go_wp2_with fail
      refine wp_region_held_drew (S := fun wx => wx.rangeAt b 0 C) (by kernel_rfl) (HSX.out _ (Fr.refl none_ wr).drew) (fun hHeld => ?_)
      refine wpAnyH_take (i := 0) lot0 (by kernel_rfl) (by kernel_rfl) (by kernel_rfl) (fun _ _ _ h => h) (yieldsIf_load_mid (by rfl) _ _ rfl _ _ rfl C _ (fun _ h => h) Tryz.underlying34 rfl (by rw [hz]; exact refD_info)) (by assumption) ?_
      try simp only [Act.put, List.setIfInBounds_toArray, List.set_cons_zero, List.set_cons_succ]
      refine wpAnyH_take (i := 1) (v := ?_) lot1 (by kernel_rfl) (by kernel_rfl) (by kernel_rfl) (fun _ _ _ h => h) (Or.inl ⟨by rfl, ?_⟩) (by assumption) ?_
      rotate_left
      · (intro wv hSw; (try dsimp only at hSw); go_simp) <;> with_reducible rfl
      try simp only [Act.put, List.setIfInBounds_toArray, List.set_cons_zero, List.set_cons_succ]
      refine wpAnyH_take (i := 2) (v := ?_) lot2 (by kernel_rfl) (by kernel_rfl) (by kernel_rfl) (fun _ _ _ h => h) (Or.inl ⟨by rfl, ?_⟩) (by assumption) ?_
      rotate_left
      · (intro wv hSw; (try dsimp only at hSw); go_simp) <;> with_reducible rfl
      try simp only [Act.put, List.setIfInBounds_toArray, List.set_cons_zero, List.set_cons_succ]
      refine wpAnyH_take (i := 3) (v := ?_) lot3 (by kernel_rfl) (by kernel_rfl) (by kernel_rfl) (fun _ _ _ h => h) (Or.inl ⟨by rfl, ?_⟩) (by assumption) ?_
      rotate_left
      · (intro wv hSw; (try dsimp only at hSw); go_simp) <;> with_reducible rfl
      try simp only [Act.put, List.setIfInBounds_toArray, List.set_cons_zero, List.set_cons_succ]
      refine wpAnyH_take (i := 4) (v := ?_) lot4 (by kernel_rfl) (by kernel_rfl) (by kernel_rfl) (fun _ _ _ h => h) (Or.inl ⟨by rfl, ?_⟩) (by assumption) ?_
      rotate_left
      · (intro wv hSw; (try dsimp only at hSw); go_simp) <;> with_reducible rfl
      try simp only [Act.put, List.setIfInBounds_toArray, List.set_cons_zero, List.set_cons_succ]
      refine wpAnyH_take (i := 6) (v := ?_) lot6 (by kernel_rfl) (by kernel_rfl) (by kernel_rfl) (fun _ _ _ h => h) (Or.inl ⟨by rfl, ?_⟩) (by assumption) ?_
      rotate_left
      · (intro wv hSw; (try dsimp only at hSw); go_simp) <;> with_reducible rfl
      try simp only [Act.put, List.setIfInBounds_toArray, List.set_cons_zero, List.set_cons_succ]
      refine wpAnyH_ready (rs := [5]) (by kernel_rfl) (by simp) ?_
      refine AllReadyH.cons lot5 (fun K hK => ?_) AllReadyH.nil
      go_simp
      go_at_call 41
      refine (refrun_any D _ (s.extract a e) _ (HD.out.move (HST.out.fr.drew)) (by omega)).mono ?_
      rintro e' wx ⟨rfl, Fx⟩
      rw [HRUN.out]
      have Gx := Lib.hid (((Fr.refl none_ wr).drew).tr Fx)
      clear Fx
      refine hK.out _ _ (HSX.out _ Gx.out) (fun hHeld => ?_)
      clear hK K
      try simp only [Act.put, List.setIfInBounds_toArray, List.set_cons_zero, List.set_cons_succ]
      refine wpAnyH_ready (rs := [7]) (by kernel_rfl) (by simp) ?_
      refine AllReadyH.cons lot7 (fun K hK => ?_) AllReadyH.nil
      go_simp
      go_at_call 40
      refine (refmeet_any r may _ hrl hmay).mono ?_
      rintro e' wy ⟨rfl, Fy⟩
      rw [HMM.out]
      have Gy := Lib.hid (Gx.out.tr Fy)
      clear Fy
      refine hK.out _ _ (HSX.out _ Gy.out) (fun hHeld => ?_)
      clear hK K
      try simp only [Act.put, List.setIfInBounds_toArray, List.set_cons_zero, List.set_cons_succ]
      refine wpAnyH_take (i := 8) (v := ?_) lot8 (by kernel_rfl) (by kernel_rfl) (by kernel_rfl) (fun _ _ _ h => h) (Or.inl ⟨by rfl, ?_⟩) (by assumption) ?_
      rotate_left
      · (intro wv hSw; (try dsimp only at hSw); go_simp) <;> with_reducible rfl
      try simp only [Act.put, List.setIfInBounds_toArray, List.set_cons_zero, List.set_cons_succ]
      refine wpAnyH_done (by kernel_rfl) ?_ _
      have HS2 := Lib.hid (HST.out.move Gy.out)
      clear HST HSX
      by_cases hm0 : m2 = 0
      case pos =>
        subst hm0
        have HN := Lib.hid (show longTo D (bytesN s) a may (e + 1 - 1 - a) = (m, to) by rw [HNX.out, if_pos rfl])
        go_wp2_with fail
        go_roundw
        case rel => exact ⟨e + 1, m, to, by omega, by omega, by go_num, HN.out, HS2.out⟩
        case measure => simp [intOf]; omega
      case neg =>
        have hI : ((m2 : Int) != 0) = true := by simp [hm0]
        have HN := Lib.hid (show longTo D (bytesN s) a may (e + 1 - 1 - a) = (m2, e) by rw [HNX.out, if_neg hm0])
        clear hm0
        have g0 : wy.cell? ⟨b + 1 + 1, 0, none⟩ = some (.int .u64 (m : Int)) := cell_of_block HS2.out.out rfl
        have g1 : wy.cell? ⟨b + 1 + 1, 1, none⟩ = some (.int .i64 (to : Int)) := cell_of_block HS2.out.out rfl
        have g4 : wy.frozen? ⟨b + 1 + 1, 0, none⟩ = false := free_of_block HS2.out.out
        have g5 : wy.frozen? ⟨b + 1 + 1, 1, none⟩ = false := free_of_block HS2.out.out
        have HS3 := Lib.hid (HS2.out.put m2 e)
        go_wp2_with fail
        go_roundw
        case rel => exact ⟨e + 1, m2, e, by omega, by omega, by go_num, HN.out, HS3.out⟩
        case measure => simp [intOf]; omega

theorem reflong_any (D : Dfa) (v : Value) (s : ByteArray) (at_ : Int) (may : Nat) (w : World) (h : DfaIn w v D) (ht : ∀ t ∈ D.tags, t < 18446744073709551616) (hmay : may < 18446744073709551616) (hs : s.size < 4611686018427387904) (hat : at_ ≤ 9223372036854775807) :
    Calls Tryz.prog 18 #[v, .string s, .int .i64 at_, .int .u64 may] w fun e w' => e = .returned (.agg #[.int .u64 ((longM D (bytesN s) at_ may).1 : Nat), .int .i64 (longM D (bytesN s) at_ may).2]) ∧ Fr none_ w w' := by
  unfold longM
  by_cases h1 : 0 ≤ at_ ∧ at_ ≤ (s.size : Int)
  · obtain ⟨a, rfl⟩ := Int.eq_ofNat_of_zero_le h1.1
    have key := reflong_in D v s a may w h ht hmay hs (by omega)
    by_cases h2 : a < s.size
    · rw [if_pos (by rw [bytesN_length]; omega), bytesN_length, Int.toNat_natCast]
      exact key
    · rw [if_neg (by rw [bytesN_length]; omega)]
      rw [show s.size - a = 0 by omega] at key
      exact key
  · rw [if_neg (by rw [bytesN_length]; omega)]
    exact reflong_out D v s at_ may w h hs (by omega)
end Go.Proofs.YtglflmkkecephaaGreatDoor

namespace Go.Proofs.YtglflmkkecephaaGreatDoor set_option linter.unusedVariables false set_option linter.unusedSimpArgs false
open Go.RowKit

def winP (tags : Nat) (ps : List (Int × Int)) (n : Nat) : Bool := tags.testBit n && !beatenM tags ps n
theorem winP_set (tags : Nat) (ps : List (Int × Int)) : setM (ints (belowL (winP tags ps) 64)) = winM tags ps := by
  apply Nat.eq_of_testBit_eq
  intro i
  rw [Bool.eq_iff_iff, testBit_setM, testBit_winM, mem_ints, belowL, List.mem_filter, List.mem_range, winP, Bool.and_eq_true, Bool.not_eq_true']
  exact ⟨fun h => ⟨h.1, h.2.2⟩, fun h => ⟨h.1, h.1, h.2⟩⟩

set_option maxRecDepth 100000 in
set_option maxHeartbeats 4000000 in
theorem refwin_any (tags : Nat) (ps : List (Int × Int)) (a : Option Addr) (len cap : Nat) (w : World) (htags : tags < 18446744073709551616) (hp : PairsIn w a len ps) :
    Calls Tryz.prog 22 #[.int .u64 tags, .slice a len cap] w fun e w' => e = .returned (.int .u64 (winM tags ps)) ∧ Fr none_ w w' := by
  have HP := Lib.hid hp
  have HN := Lib.hid hp.1
  have hl6 := hp.2.1
  obtain ⟨B, hB⟩ : ∃ B, w.heap.size = B := ⟨_, rfl⟩
  have HB := Lib.hid hB
  clear hB hp
  obtain ⟨j0, hj, hy0, hy1, hy2⟩ := info_parts int_info
  go_enter Tryz.func22, Tryz.ntmps22
  go_wp2_with fail
  go_loopw [5, 6] (fun x3 x4 wr => ∃ n : Nat, n ≤ 64 ∧ x4 = .int .i64 n ∧ Aside (wr.ownsRow B 3 1 x3 (belowL (winP tags ps) n).length (nums (belowL (winP tags ps) n))) ∧ Aside (Fr none_ w wr)) (fun _ x4 _ => 64 - (intOf x4).toNat)
  case atStart => exact ⟨0, by omega, rfl, World.ownsRow_nil _ _ _ _, Fr.refl _ _⟩
  case round =>
    obtain ⟨n, hn, rfl, h1', h2'⟩ := hrel
    have HO := Lib.hid h1'.out
    have HF := Lib.hid h2'.out
    clear h1' h2'
    by_cases hlt : n < 64
    case neg =>
      obtain rfl : n = 64 := by omega
      have hk := belowL_length (winP tags ps) 64
      go_wp2_with fail
      refine (refof_any _ (ints (belowL (winP tags ps) 64)) _ (IntsAt.of HO.out) (by rw [ints_length]; omega)).mono ?_
      rintro e w' ⟨rfl, rfl⟩
      have HE := Lib.hid (winP_set tags ps)
      rw [HE.out]
      go_wp2_with fail
      go_ret
      exact ⟨rfl, HF.out⟩
    case pos =>
      have hil : (n : Int) < 64 := by omega
      have HNX := Lib.hid (belowL_succ (winP tags ps) n)
      have hln := belowL_length (winP tags ps) n
      obtain ⟨L, hL⟩ : ∃ L, belowL (winP tags ps) n = L := ⟨_, rfl⟩
      rw [hL] at HNX HO hln
      obtain ⟨M, hM⟩ : ∃ M, L.length = M := ⟨_, rfl⟩
      have HM := Lib.hid hM
      rw [hM] at HO hln
      have hwB : B ≤ wr.heap.size := by rw [← HB.out]; exact HF.out.size
      have HPR := Lib.hid (HP.out.move HF.out)
      clear hL hM
      go_wp2_with fail
      go_loop [7, 8] (fun x7 x8 => ∃ i : Nat, i ≤ len ∧ x8 = .int .i64 i ∧ x7 = .bool ((ps.take i).any (beatP tags n))) (fun _ x8 => len - (intOf x8).toNat)
      case atStart => exact ⟨0, Nat.zero_le _, rfl, rfl⟩
      case round =>
        obtain ⟨i, hi', rfl, rfl⟩ := hrel
        have hi0 : (0 : Int) ≤ (i : Int) := by omega
        by_cases hlt2 : i < len
        case neg =>
          have hil2 : ¬ (i : Int) < (len : Int) := by omega
          obtain ⟨bt, hbt⟩ : ∃ b, beatenM tags ps n = b := ⟨_, rfl⟩
          have HE := Lib.hid (show (ps.take i).any (beatP tags n) = bt by
            rw [List.take_of_length_le (by rw [HN.out]; omega), ← hbt]; rfl)
          rw [HE.out]
          have hwp : winP tags ps n = (tags.testBit n && !bt) := by rw [winP, hbt]
          rw [hwp] at HNX
          clear hwp hbt HE
          go_wp2_with fail
          refine (refhas_any tags n _ htags).mono ?_
          rintro e w' ⟨rfl, rfl⟩
          obtain ⟨b, hb⟩ : ∃ b, (decide (0 ≤ (n : Int)) && tags.testBit (n : Int).toNat) = b := ⟨_, rfl⟩
          have hb2 : tags.testBit n = b := by rw [← hb]; simp
          rw [hb2] at HNX
          rw [hb]
          clear hb hb2
          cases b with
          | false =>
            go_wp2_with fail
            go_roundw
            case rel => exact ⟨n + 1, by omega, by go_num, by rw [HNX.out]; show World.ownsRow _ _ _ _ _ L.length _; rw [HM.out]; exact HO.out, HF.out⟩
            case measure => simp [intOf]; omega
          | true =>
            cases bt with
            | true =>
              go_wp2_with fail
              go_roundw
              case rel => exact ⟨n + 1, by omega, by go_num, by rw [HNX.out]; show World.ownsRow _ _ _ _ _ L.length _; rw [HM.out]; exact HO.out, HF.out⟩
              case measure => simp [intOf]; omega
            | false =>
              go_wp2_with (at_builtin; refine wpList_append_lies _ rfl (.tmp 54) (.tmp 56) 70 rfl B 3 j0 _ 1 8 Tryz.underlying70 hj hy0 hy1 hy2 rfl (by decide) _ M (nums L) rfl (HO.out.alloc _) ⟨wr.heap.size, 0, none⟩ 1 1 [.int .i64 n] rfl rfl (getElem_block (alloc_new _ _)) (by simp [Value.oneCell']) (by decide) (by unfold maxLen; omega) (by omega) (by simp; omega) (wr.heap.size + 1) (by simp) ?_)
              intro g6 cap6 y4 hown hgrow hat hlt
              have F4 := Lib.hid ((HF.out.alloc (.cells #[.int .i64 n] 3)).grown hgrow (fun k hk => .inr (by have := (HO.out.lt k hk).1; have := HB.out; omega)))
              have HO5 := Lib.hid hown
              clear hown hgrow hat hlt
              go_wp2_with fail
              go_roundw
              case rel => exact ⟨n + 1, by omega, by go_num, by rw [HNX.out]; show World.ownsRow _ _ _ _ _ (L ++ [n]).length (nums (L ++ [n])); rw [nums_snoc, List.length_append, HM.out]; exact HO5.out, F4.out⟩
              case measure => simp [intOf]; omega
        case pos =>
          have hil2 : (i : Int) < (len : Int) := by omega
          obtain ⟨p, hpp⟩ : ∃ p, ps[i]? = some p := ⟨_, List.getElem?_eq_getElem (by rw [HN.out]; exact hlt2)⟩
          obtain ⟨ad, rfl, c1, c2⟩ := HPR.out.2.2 i p hpp
          obtain ⟨x, y⟩ := p
          have HNB := Lib.hid (show (ps.take (i + 1)).any (beatP tags n) = ((ps.take i).any (beatP tags n) || beatP tags n (x, y)) by
            rw [List.take_add_one, hpp, List.any_append]; simp)
          obtain ⟨b, hb⟩ : ∃ b, (ps.take i).any (beatP tags n) = b := ⟨_, rfl⟩
          rw [hb] at HNB ⊢
          have e1 : (ad.add (i * 2)).add 1 = ⟨(ad.add (i * 2)).block, (ad.add (i * 2)).off + 1, none⟩ := by rw [Addr.add_succ' _ 0]
          rw [← Addr.add_add, e1] at c2
          clear hb hpp e1
          cases b with
          | true =>
            go_wp2_with fail
            go_round
            case rel => exact ⟨i + 1, by omega, by go_num, by rw [HNB.out]; rfl⟩
            case measure => simp [intOf]; omega
          | false =>
            by_cases hy : y = n
            case neg =>
              have hyI : (y == (n : Int)) = false := by simp [hy]
              have HV := Lib.hid (show (ps.take (i + 1)).any (beatP tags n) = false by rw [HNB.out, beatP]; simp [hy])
              clear hy
              go_wp2_with fail
              go_round
              case rel => exact ⟨i + 1, by omega, by go_num, by rw [HV.out]⟩
              case measure => simp [intOf]; omega
            case pos =>
              subst hy
              by_cases hx : x = n
              case pos =>
                subst hx
                have HV := Lib.hid (show (ps.take (i + 1)).any (beatP tags n) = false by rw [HNB.out, beatP]; simp)
                go_wp2_with fail
                go_round
                case rel => exact ⟨i + 1, by omega, by go_num, by rw [HV.out]⟩
                case measure => simp [intOf]; omega
              case neg =>
                have hxI : (x != (n : Int)) = true := by simp [hx]
                have HV := Lib.hid (show (ps.take (i + 1)).any (beatP tags n) = (decide (0 ≤ x) && tags.testBit x.toNat) by rw [HNB.out, beatP]; simp [hx, hasM])
                clear hx
                go_wp2_with fail
                refine (refhas_any tags x _ htags).mono ?_
                rintro e w' ⟨rfl, rfl⟩
                obtain ⟨b, hb⟩ : ∃ b, (decide (0 ≤ x) && tags.testBit x.toNat) = b := ⟨_, rfl⟩
                rw [hb] at HV ⊢
                clear hb
                go_wp2_with fail
                go_round
                case rel => exact ⟨i + 1, by omega, by go_num, by rw [HV.out]⟩
                case measure => simp [intOf]; omega

set_option maxRecDepth 100000 in
set_option maxHeartbeats 4000000 in
theorem refpick_any (D : Dfa) (v : Value) (s : ByteArray) (at_ : Int) (may : Nat) (ps : List (Int × Int)) (a : Option Addr) (len cap : Nat) (w : World) (h : DfaIn w v D) (ht : ∀ t ∈ D.tags, t < 18446744073709551616) (hmay : may < 18446744073709551616) (hs : s.size < 4611686018427387904) (hat : at_ ≤ 9223372036854775807) (hp : PairsIn w a len ps) :
    Calls Tryz.prog 20 #[v, .string s, .int .i64 at_, .int .u64 may, .slice a len cap] w fun e w' => e = .returned (.tuple #[.int .i64 (pickM D (bytesN s) at_ may ps).1, .int .i64 (pickM D (bytesN s) at_ may ps).2]) ∧ Fr none_ w w' := by
  obtain ⟨C, rfl, hz, hone⟩ := h.cells
  have HD := Lib.hid h
  have HTB := Lib.hid ht
  have HP := Lib.hid hp
  have B0 := Lib.hid (alloc_new w (.cells C.toArray 34))
  have F0 := Lib.hid ((Fr.refl none_ w).alloc (.cells C.toArray 34))
  obtain ⟨P, hP⟩ : ∃ P, longM D (bytesN s) at_ may = P := ⟨_, rfl⟩
  have hPl : P.1 < 18446744073709551616 := by rw [← hP]; exact longM_lt _ _ _ _ hmay
  have HPE := Lib.hid hP
  have HPK := Lib.hid (show pickM D (bytesN s) at_ may ps = pickOf P ps by rw [pickM, hP])
  obtain ⟨W, hW⟩ : ∃ W, winM P.1 ps = W := ⟨_, rfl⟩
  have hWl : W < 18446744073709551616 := by rw [← hW]; exact winM_lt _ _
  have HW := Lib.hid hW
  clear h ht hp hP hW hone
  go_enter Tryz.func20, Tryz.ntmps20
  go_wp2_with (refine wpList_load_row rfl 34 (.tmp 5) rfl w.heap.size 34 C _ rfl B0.out Tryz.underlying34 rfl (by rw [hz]; exact refD_info) ?_)
  refine (reflong_any D _ s at_ may _ (HD.out.move F0.out) HTB.out hmay hs hat).mono ?_
  rintro e w1 ⟨rfl, F1⟩
  rw [HPE.out]
  have FA := Lib.hid (F0.out.tr F1)
  obtain ⟨m, to⟩ := P
  have N1 := Lib.hid (alloc_new w1 (.cells #[.int .u64 (m : Int), .int .i64 to] 45))
  have FB := Lib.hid (FA.out.alloc (.cells #[.int .u64 (m : Int), .int .i64 to] 45))
  have c0 : (w1.alloc (.cells #[.int .u64 (m : Int), .int .i64 to] 45)).cell? ⟨w1.heap.size, 0, none⟩ = some (.int .u64 (m : Int)) := cell_of_block N1.out rfl
  clear F1 B0 F0 FA HPE
  go_wp2_with fail
  refine (refwin_any m ps a len cap _ hPl (HP.out.move FB.out)).mono ?_
  rintro e w2 ⟨rfl, F2⟩
  rw [show winM m ps = W from HW.out]
  have N2 := Lib.hid (F2.at_ N1.out (fun h => h))
  have FC := Lib.hid (FB.out.tr F2)
  obtain ⟨b, hb⟩ : ∃ b, w1.heap.size = b := ⟨_, rfl⟩
  rw [hb] at N2 ⊢
  clear F2 N1 FB c0 hb
  go_wp2_with fail
  refine (reflist_any W _ hWl).mono ?_
  rintro e w3 ⟨lv, rfl, hown, F3⟩
  have N3 := Lib.hid (F3.at_ N2.out (fun h => h))
  have FD := Lib.hid (FC.out.tr F3)
  have HL1 := Lib.hid (show (bitsL W).length = 1 → bitsL W = [Lib.ctz 64 W] from fun h1 => by
    have hW0 : W ≠ 0 := by rintro rfl; simp [bitsL_zero] at h1
    have h2 := bitsL_step W hWl hW0
    rw [h2] at h1 ⊢
    rw [List.eq_nil_of_length_eq_zero (show (bitsL (W &&& (W - 1))).length = 0 by simpa using h1)])
  obtain ⟨K, hK⟩ : ∃ K, bitsL W = K := ⟨_, rfl⟩
  have HK := Lib.hid hK
  rw [hK] at hown HL1
  obtain ⟨n, hn⟩ : ∃ n, K.length = n := ⟨_, rfl⟩
  have HN := Lib.hid hn
  rw [hn] at hown HL1
  obtain ⟨la, lcap, rfl, _⟩ := ownsRow_slice hown
  have HOW := Lib.hid hown
  have c1 : w3.cell? ⟨b, 1, none⟩ = some (.int .i64 to) := cell_of_block N3.out rfl
  clear hK hn hown F3 N2 FC
  by_cases h1 : n = 1
  case pos =>
    have hKL := HL1.out h1
    have HR := Lib.hid (show pickOf (m, to) ps = (((Lib.ctz 64 W : Nat) : Int), to) by
      unfold pickOf
      rw [show winM (m, to).1 ps = W from HW.out, if_pos (by rw [HK.out, HN.out, h1])])
    subst h1
    have hO := HOW.out
    rw [hKL] at hO
    obtain ⟨lg, rfl, c2⟩ := row_at0 hO (i := 0) (x := .int .i64 ((Lib.ctz 64 W : Nat) : Int)) rfl
    clear hO hKL
    go_wp2_with fail
    go_quiet (fail)
    go_wp2_with fail
    refine bodyPost_ret (results_two rfl _ _) rfl ?_
    exact ⟨by rw [HPK.out, HR.out]; rfl, FD.out.drewN _⟩
  case neg =>
    have HR := Lib.hid (show pickOf (m, to) ps = (-1, to) by
      unfold pickOf
      rw [show winM (m, to).1 ps = W from HW.out, if_neg (by rw [HK.out, HN.out]; exact h1)])
    have hcI : ((n : Int) == 1) = false := by simp; omega
    clear h1
    go_wp2_with fail
    go_quiet (fail)
    go_wp2_with fail
    refine bodyPost_ret (results_two rfl _ _) rfl ?_
    exact ⟨by rw [HPK.out, HR.out]; rfl, FD.out.drewN _⟩
end Go.Proofs.YtglflmkkecephaaGreatDoor

namespace Go.Proofs.YtglflmkkecephaaGreatDoor set_option linter.unusedVariables false set_option linter.unusedSimpArgs false
open Go.RowKit

set_option maxRecDepth 100000 in
set_option maxHeartbeats 4000000 in
theorem munchpicks_big (D : Dfa) (v : Value) (s : ByteArray) (at_ : Int) (may : Nat) (a : Option Addr) (len cap : Nat) (w : World) (hD : DfaIn w v D) (htl : D.tags.length ≤ 9223372036854775807) (hl : (littleM D && decide (s.size ≤ 40) && decide (len ≤ 40)) = false) (hp : PowOk w) (hT : TabOk w) :
    Calls Tryz.prog 4 #[v, .string s, .int .i64 at_, .int .u64 (may : Int), .slice a len cap] w fun e w' => e = .returned (.bool true) ∧ Fr none_ w w' := by
  have HL := Lib.hid hl
  clear hl
  obtain ⟨C, rfl, hz, hone⟩ := hD.cells
  have HD0 := Lib.hid hD
  have HP := Lib.hid hp
  have HT := Lib.hid hT
  have B0 := Lib.hid (alloc_new w (.cells C.toArray 26))
  have F0 := Lib.hid ((Fr.refl none_ w).alloc (.cells C.toArray 26))
  clear hD hp hT hone
  go_enter Tryz.func4, Tryz.ntmps4
  go_wp2_with fail
  refine (works7_any _ (HP.out.move F0.out) (HT.out.move F0.out)).mono ?_
  rintro e w1 ⟨rfl, F1⟩
  have B1 := Lib.hid (F1.at_ B0.out (fun h => h))
  have FA := Lib.hid (F0.out.tr F1)
  clear F1 B0 F0
  go_wp2_with (refine wpList_load_row rfl 26 (.tmp 5) rfl w.heap.size 26 C _ rfl B1.out Tryz.underlying26 rfl ?_ ?_; (rw [hz]; exact dfa_info))
  refine (few_any D _ s a len cap _ (HD0.out.move FA.out) htl).mono ?_
  rintro e w2 ⟨rfl, F1⟩
  have FB := Lib.hid (FA.out.tr F1)
  clear F1 B1 FA
  rw [HL.out]
  go_wp2_with fail
  go_ret
  exact ⟨rfl, FB.out⟩

set_option maxRecDepth 100000 in
set_option maxHeartbeats 8000000 in
theorem munchpicks_good (D : Dfa) (v : Value) (s : ByteArray) (at_ : Int) (may : Nat) (ps : List (Int × Int)) (a : Option Addr) (len cap : Nat) (w : World) (hD : DfaIn w v D) (htl : D.tags.length ≤ 9223372036854775807) (htg : ∀ t ∈ D.tags, t < 18446744073709551616) (hmay : may < 18446744073709551616) (hat : at_ ≤ 9223372036854775807) (hl : (littleM D && decide (s.size ≤ 40) && decide (len ≤ 40)) = true) (h40 : s.size ≤ 40) (hps : PairsIn w a len ps) (hp : PowOk w) (hT : TabOk w) :
    Calls Tryz.prog 4 #[v, .string s, .int .i64 at_, .int .u64 (may : Int), .slice a len cap] w fun e w' => e = .returned (.bool true) ∧ Fr none_ w w' := by
  have HL := Lib.hid hl
  have HTG := Lib.hid htg
  have HPS := Lib.hid hps
  clear hl htg hps
  obtain ⟨C, rfl, hz, hone⟩ := hD.cells
  have HD0 := Lib.hid hD
  have HP := Lib.hid hp
  have HT := Lib.hid hT
  have B0 := Lib.hid (alloc_new w (.cells C.toArray 26))
  have F0 := Lib.hid ((Fr.refl none_ w).alloc (.cells C.toArray 26))
  obtain ⟨⟨m1, t1⟩, hPA⟩ : ∃ p, longM D (bytesN s) at_ may = p := ⟨_, rfl⟩
  have HPA := Lib.hid hPA
  obtain ⟨⟨n1, e1⟩, hPB⟩ : ∃ p, pickM D (bytesN s) at_ may ps = p := ⟨_, rfl⟩
  have HPB := Lib.hid hPB
  obtain ⟨W, hW⟩ : ∃ W, winM may ps = W := ⟨_, rfl⟩
  have HW := Lib.hid hW
  clear hD hp hT hPA hPB hW
  go_enter Tryz.func4, Tryz.ntmps4
  go_wp2_with fail
  refine (works7_any _ (HP.out.move F0.out) (HT.out.move F0.out)).mono ?_
  rintro e w1 ⟨rfl, F1⟩
  have B1 := Lib.hid (F1.at_ B0.out (fun h => h))
  have FA := Lib.hid (F0.out.tr F1)
  clear F1 B0 F0
  go_wp2_with (refine wpList_load_row rfl 26 (.tmp 5) rfl w.heap.size 26 C _ rfl B1.out Tryz.underlying26 rfl ?_ ?_; (rw [hz]; exact dfa_info))
  refine (few_any D _ s a len cap _ (HD0.out.move FA.out) htl).mono ?_
  rintro e w2 ⟨rfl, F1⟩
  have B2 := Lib.hid (F1.at_ B1.out (fun h => h))
  have FB := Lib.hid (FA.out.tr F1)
  clear F1 B1 FA
  rw [HL.out]
  go_wp2_with (refine wpList_load_row rfl 26 (.tmp 5) rfl w.heap.size 26 C _ rfl B2.out Tryz.underlying26 rfl ?_ ?_; (rw [hz]; exact dfa_info))
  refine (ofref_any D _ _ (HD0.out.move FB.out)).mono ?_
  rintro e w3 ⟨rfl, F1⟩
  have B3 := Lib.hid (F1.at_ B2.out (fun h => h))
  have FC := Lib.hid (FB.out.tr F1)
  clear F1 B2 FB
  -- the reference's own
  have LR := laid_row w3 Tryz.zeroCells34 34 C.toArray
  have LF := Lib.hid LR.1
  have LB := Lib.hid LR.2
  have HSZ := Lib.hid (setRow_size w3 Tryz.zeroCells34 34 C.toArray)
  have B4 := Lib.hid (LF.out.at_ B3.out (fun h => h))
  have FD := Lib.hid (FC.out.tr LF.out)
  clear LR
  go_wp2_with (first
    | (refine wpList_store_row rfl 34 (.tmp 13) (.tmp 31) rfl w3.heap.size 34 Tryz.zeroCells34 C.toArray rfl rfl (alloc_new w3 _) ?_ ?_ hone ?_; (rw [List.size_toArray, hz]; exact refD_info); (rw [zeroR_list, zeroD_size, List.size_toArray, hz]))
    | (refine wpList_load_row rfl 26 (.tmp 5) rfl w.heap.size 26 C _ rfl B4.out Tryz.underlying26 rfl ?_ ?_; (rw [hz]; exact dfa_info)))
  obtain ⟨b, hb⟩ : ∃ x, w3.heap.size = x := ⟨_, rfl⟩
  obtain ⟨wa, hwa⟩ : ∃ x, (w3.alloc (.cells Tryz.zeroCells34 34)).setRow w3.heap.size C.toArray = x := ⟨_, rfl⟩
  rw [hwa] at LB FD B4 ⊢
  rw [hb] at LB ⊢
  clear hwa hb LF HSZ
  refine (longest_any D _ s at_ may _ (HD0.out.move FD.out) HTG.out hmay (by omega)).mono ?_
  rintro e w4 ⟨rfl, F1⟩
  rw [HPA.out]
  have FX := Lib.hid (F1.alloc (.cells #[.int .u64 (m1 : Int), .int .i64 t1] 43))
  have FE := Lib.hid (FD.out.tr FX.out)
  have B5 := Lib.hid (FX.out.at_ B4.out (fun h => h))
  have LB2 := Lib.hid (FX.out.at_ LB.out (fun h => h))
  have N1 := Lib.hid (alloc_new w4 (.cells #[.int .u64 (m1 : Int), .int .i64 t1] 43))
  clear F1 FX B4 LB
  go_wp2_with (refine wpList_load_row rfl 34 (.tmp 13) rfl b 34 C _ rfl LB2.out Tryz.underlying34 rfl ?_ ?_; (rw [hz]; exact refD_info))
  obtain ⟨g1, hg1⟩ : ∃ x, w4.heap.size = x := ⟨_, rfl⟩
  obtain ⟨wb, hwb⟩ : ∃ x, w4.alloc (.cells #[.int .u64 (m1 : Int), .int .i64 t1] 43) = x := ⟨_, rfl⟩
  rw [hwb] at FE B5 LB2 N1 ⊢
  rw [hg1] at N1 ⊢
  clear hwb hg1
  refine (reflong_any D _ s at_ may _ (HD0.out.move FE.out) HTG.out hmay (by omega) hat).mono ?_
  rintro e w5 ⟨rfl, F1⟩
  rw [HPA.out]
  have FX := Lib.hid (F1.alloc (.cells #[.int .u64 (m1 : Int), .int .i64 t1] 45))
  have FG := Lib.hid (FE.out.tr FX.out)
  have B6 := Lib.hid (FX.out.at_ B5.out (fun h => h))
  have LB3 := Lib.hid (FX.out.at_ LB2.out (fun h => h))
  have N1b := Lib.hid (FX.out.at_ N1.out (fun h => h))
  have N2 := Lib.hid (alloc_new w5 (.cells #[.int .u64 (m1 : Int), .int .i64 t1] 45))
  clear F1 FX B5 LB2 N1 FE
  go_wp2_with (refine wpList_load_row rfl 26 (.tmp 5) rfl w.heap.size 26 C _ rfl B6.out Tryz.underlying26 rfl ?_ ?_; (rw [hz]; exact dfa_info))
  obtain ⟨g2, hg2⟩ : ∃ x, w5.heap.size = x := ⟨_, rfl⟩
  obtain ⟨wc, hwc⟩ : ∃ x, w5.alloc (.cells #[.int .u64 (m1 : Int), .int .i64 t1] 45) = x := ⟨_, rfl⟩
  rw [hwc] at FG B6 LB3 N1b N2 ⊢
  rw [hg2] at N2 ⊢
  clear hwc hg2
  refine (pick_any D _ s at_ may ps a len cap _ (HD0.out.move FG.out) HTG.out hmay (by omega) (HPS.out.move FG.out) (HT.out.move FG.out)).mono ?_
  rintro e w6 ⟨rfl, F1⟩
  rw [HPB.out]
  have FH := Lib.hid (FG.out.tr F1)
  have LB4 := Lib.hid (F1.at_ LB3.out (fun h => h))
  have N1c := Lib.hid (F1.at_ N1b.out (fun h => h))
  have N2c := Lib.hid (F1.at_ N2.out (fun h => h))
  clear F1 FG B6 LB3 N1b N2
  go_wp2_with (refine wpList_load_row rfl 34 (.tmp 13) rfl b 34 C _ rfl LB4.out Tryz.underlying34 rfl ?_ ?_; (rw [hz]; exact refD_info))
  refine (refpick_any D _ s at_ may ps a len cap _ (HD0.out.move FH.out) HTG.out hmay (by omega) hat (HPS.out.move FH.out)).mono ?_
  rintro e w7 ⟨rfl, F1⟩
  rw [HPB.out]
  have FI := Lib.hid (FH.out.tr F1)
  have N1d := Lib.hid (F1.at_ N1c.out (fun h => h))
  have N2d := Lib.hid (F1.at_ N2c.out (fun h => h))
  have q0 : w7.cell? ⟨g1, 0, none⟩ = some (.int .u64 (m1 : Int)) := cell_of_block N1d.out rfl
  have q1 : w7.cell? ⟨g1, 1, none⟩ = some (.int .i64 t1) := cell_of_block N1d.out rfl
  have q2 : w7.cell? ⟨g2, 0, none⟩ = some (.int .u64 (m1 : Int)) := cell_of_block N2d.out rfl
  have q3 : w7.cell? ⟨g2, 1, none⟩ = some (.int .i64 t1) := cell_of_block N2d.out rfl
  clear F1 FH LB4 N1c N2c
  go_wp2_with fail
  refine (win_any may ps a len cap _ hmay (HPS.out.move FI.out) (HT.out.move FI.out)).mono ?_
  rintro e w8 ⟨rfl, F1⟩
  rw [HW.out]
  have FJ := Lib.hid (FI.out.tr F1)
  clear F1 q0 q1 q2 q3 FI
  go_wp2_with fail
  refine (refwin_any may ps a len cap _ hmay (HPS.out.move FJ.out)).mono ?_
  rintro e w9 ⟨rfl, F1⟩
  rw [HW.out]
  have FK := Lib.hid (FJ.out.tr F1)
  clear F1
  go_wp2_with fail
  go_ret
  exact ⟨rfl, FK.out⟩

theorem munchpicks_any (v : Value) (D : Dfa) (s : ByteArray) (at_ : Int) (may : Int) (a : Option Addr) (len cap : Nat) (ps : List (Int × Int)) (w : World) (h : DfaIn w v D ∧ (∀ t ∈ D.tags, t < 18446744073709551616) ∧ (∀ r ∈ D.next, ∀ z ∈ r, intDom z) ∧ D.tags.length ≤ 9223372036854775807) (hs : s.size ≤ 140737488351232) (h2 : at_ ≤ 9223372036854775807) (h3 : 0 ≤ may ∧ may ≤ 18446744073709551615) (hps : PairsAt w a len ps ∧ len ≤ 9223372036854775807) (hT : TabOk w) (hp : PowOk w) :
    Calls Tryz.prog 4 #[v, .string s, .int .i64 at_, .int .u64 may, .slice a len cap] w fun e w' => e = .returned (.bool true) ∧ Below w.heap.size w w' := by
  obtain ⟨hD, htg, _, htl⟩ := h
  obtain ⟨m, rfl⟩ := Int.eq_ofNat_of_zero_le h3.1
  have key : Calls Tryz.prog 4 #[v, .string s, .int .i64 at_, .int .u64 (m : Int), .slice a len cap] w fun e w' => e = .returned (.bool true) ∧ Fr none_ w w' := by
    cases hl : (littleM D && decide (s.size ≤ 40) && decide (len ≤ 40)) with
    | false => exact munchpicks_big D v s at_ m a len cap w hD htl hl hp hT
    | true =>
      have h1 := hl
      simp only [Bool.and_eq_true, decide_eq_true_eq] at h1
      exact munchpicks_good D v s at_ m ps a len cap w hD htl htg (by omega) h2 hl (by omega) (hps.1.few (by omega)) hp hT
  exact key.mono fun e w' h => ⟨h.1, h.2.below⟩
end Go.Proofs.YtglflmkkecephaaGreatDoor
