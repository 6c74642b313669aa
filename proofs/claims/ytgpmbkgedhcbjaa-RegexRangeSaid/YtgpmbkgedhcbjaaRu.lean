/-
  Places put together: slices.Grow, slices.Concat, union.
-/
import Derived.Test.YtgpmbkgedhcbjaaNx
import Derived.Lib.AppendZeros
import Derived.Lib.OwnBridge
import Derived.Lib.RowBridge
import Derived.Lib.SlicesCompact
namespace Go.Proofs.Ytgpmbkgedhcbjaa
open Go.RowKit

theorem compactUpTo_facts (d : Array Int) (hd : ∀ i j, i ≤ j → j < d.size → d[i]! ≤ d[j]!) : ∀ m, m ≤ d.size →
    (Lib.compactUpTo d m).Pairwise (· < ·) ∧ (∀ x, x ∈ Lib.compactUpTo d m ↔ ∃ j, j < m ∧ d[j]! = x)
  | 0, _ => by simp [Lib.compactUpTo]
  | m + 1, hm => by
    obtain ⟨h1, h2⟩ := compactUpTo_facts d hd m (by omega)
    rw [Lib.compactUpTo_succ]
    by_cases hk : Lib.keeps d m = true
    · rw [if_pos hk]
      have hlt : ∀ x ∈ Lib.compactUpTo d m, x < d[m]! := by
        intro x hx
        obtain ⟨j, hj, rfl⟩ := (h2 x).1 hx
        have hne : m = 0 ∨ d[m]! ≠ d[m - 1]! := by simpa [Lib.keeps] using hk
        have a1 := hd j (m - 1) (by omega) (by omega)
        have a2 := hd (m - 1) m (by omega) (by omega)
        omega
      refine ⟨List.pairwise_append.2 ⟨h1, by simp, fun x hx y hy => by simp at hy; subst hy; exact hlt x hx⟩, fun x => ?_⟩
      rw [List.mem_append, h2]
      simp only [List.mem_singleton]
      constructor
      · rintro (⟨j, hj, e⟩ | rfl)
        · exact ⟨j, by omega, e⟩
        · exact ⟨m, by omega, rfl⟩
      · rintro ⟨j, hj, e⟩
        by_cases h : j = m
        · subst h; exact .inr e.symm
        · exact .inl ⟨j, by omega, e⟩
    · rw [if_neg hk, List.append_nil]
      have hne : ¬ (m = 0 ∨ d[m]! ≠ d[m - 1]!) := by simpa [Lib.keeps] using hk
      refine ⟨h1, fun x => ?_⟩
      rw [h2]
      constructor
      · rintro ⟨j, hj, e⟩; exact ⟨j, by omega, e⟩
      · rintro ⟨j, hj, e⟩
        by_cases h : j = m
        · subst h
          refine ⟨j - 1, by omega, ?_⟩
          rw [← e]
          exact (Classical.byContradiction fun hn => hne (.inr fun q => hn q.symm))
        · exact ⟨j, by omega, e⟩
/-- All of both, rising, each once. -/
def unionM (A B : List Int) : List Int := Lib.compact ((A ++ B).mergeSort fun x y => decide (x ≤ y))
theorem union_facts (A B : List Int) : (unionM A B).Pairwise (· < ·) ∧ ∀ x, x ∈ unionM A B ↔ x ∈ A ∨ x ∈ B := by
  have hs : ((A ++ B).mergeSort fun x y => decide (x ≤ y)).Pairwise (fun a b => decide (a ≤ b) = true) :=
    List.pairwise_mergeSort (fun a b c h1 h2 => by simp only [decide_eq_true_eq] at h1 h2 ⊢; omega) (fun a b => by simp only [Bool.or_eq_true, decide_eq_true_eq]; omega) _
  have hp := List.mergeSort_perm (A ++ B) (fun x y => decide (x ≤ y))
  unfold unionM
  generalize (A ++ B).mergeSort (fun x y => decide (x ≤ y)) = zs at *
  have hd : ∀ i j, i ≤ j → j < zs.toArray.size → zs.toArray[i]! ≤ zs.toArray[j]! := by
    intro i j hij hj
    have hj' : j < zs.length := by simpa using hj
    by_cases e : i = j
    · subst e; exact Int.le_refl _
    · have := List.pairwise_iff_getElem.1 hs i j (by omega) hj' (by omega)
      simp only [decide_eq_true_eq] at this
      rw [getElem!_pos zs.toArray i (by simp; omega), getElem!_pos zs.toArray j (by simpa using hj')]
      simpa using this
  obtain ⟨h1, h2⟩ := compactUpTo_facts zs.toArray hd zs.length (by simp)
  refine ⟨h1, fun x => ?_⟩
  unfold Lib.compact
  rw [h2, ← List.mem_append, ← hp.mem_iff]
  constructor
  · rintro ⟨j, hj, rfl⟩
    rw [getElem!_pos zs.toArray j (by simpa using hj)]
    simp
  · intro hx
    obtain ⟨j, hj⟩ := List.mem_iff_getElem?.1 hx
    have hjl := (List.getElem?_eq_some_iff.1 hj).1
    refine ⟨j, hjl, ?_⟩
    rw [getElem!_pos zs.toArray j (by simpa using hjl)]
    have := (List.getElem?_eq_some_iff.1 hj).2
    simpa using this
theorem union_length (A B : List Int) : (unionM A B).length ≤ A.length + B.length := by
  have := Lib.compact_length_le ((A ++ B).mergeSort fun x y => decide (x ≤ y))
  unfold unionM
  simpa using this

set_option maxRecDepth 100000 in
set_option maxHeartbeats 1000000 in
theorem grow_any (n : Nat) (hn : n ≤ 1000000) (w : World) :
    Calls Try.prog 98 #[.slice none 0 0, .int .i64 n] w fun e w' => ∃ v, e = .returned v ∧ w'.ownsRow w.heap.size 3 1 v 0 [] ∧ Fr none_ w w' := by
  obtain ⟨i0, hi, hz0, hz1, hz2⟩ := info_parts int_info
  have h0 : (0 : Int) ≤ (n : Int) := by omega
  by_cases hp : 0 < n
  · have hp' : (0 : Int) < (n : Int) := by omega
    have hr := Lib.run_append_nil_zeros (P := Try.prog) w 39 3 39 3 i0 (.int .i64 0) .i64 .i64 Try.underlying39 Try.underlying3 hi hz0 n hp (by omega) (by omega) (by rw [hz2]; omega)
    have HR := Lib.hid hr
    clear hr
    go_enter Try.func98, Try.ntmps98
    go_wp2_with (at_builtin; refine Lib.wpList_append_run _ rfl (.tmp 20) (.tmp 21) 39 3 rfl _ _ rfl rfl _ _ HR.out ?_)
    go_ret
    have hge := grownCap_ge w n 0 3
    have hm : grownCap w n 0 3 ≤ maxLen := grownCap_le_maxLen w n 0 3 (by unfold maxLen; omega)
    refine ⟨_, rfl, World.ownsRow_made w.drew _ _ (Nat.le_refl _) hm ?_, (Fr.refl none_ w).drew.alloc _⟩
    rw [Array.size_append, size_zeroCells, size_zeroCells]
    show n * 1 + (_ - n) * 1 = _
    omega
  · obtain rfl : n = 0 := by omega
    go_enter Try.func98, Try.ntmps98
    go_wp2_with fail
    go_ret
    exact ⟨_, rfl, World.ownsRow_nil _ _ _ _, Fr.refl _ _⟩

set_option maxRecDepth 100000 in
set_option maxHeartbeats 2000000 in
theorem concat_any (g : Nat) (va vb : Value) (A B : List Int) (w : World) (hb : w.heap[g]? = some (.cells #[va, vb] 39 (0, 0))) (hA : IntsAt w va A) (hB : IntsAt w vb B) (hAl : A.length ≤ 100000) (hBl : B.length ≤ 100000) :
    Calls Try.prog 76 #[.slice (some ⟨g, 0, none⟩) 2 2] w fun e w' => ∃ v, e = .returned v ∧ w'.ownsRow w.heap.size 3 1 v (A.length + B.length) (intsV (A ++ B)) ∧ Fr none_ w w' := by
  obtain ⟨i0, hi, hz0, hz1, hz2⟩ := info_parts int_info
  obtain ⟨aa, ca, rfl, hca⟩ := hA.slice
  obtain ⟨ab, cb, rfl, hcb⟩ := hB.slice
  have c0 : w.cell? ⟨g, 0, none⟩ = some (.slice aa A.length ca) := cell_of_block hb rfl
  have c1 : w.cell? ⟨g, 1, none⟩ = some (.slice ab B.length cb) := cell_of_block hb rfl
  have HB := Lib.hid hb
  obtain ⟨NA, hNA⟩ : ∃ N : Nat, A.length = N := ⟨_, rfl⟩
  obtain ⟨NB, hNB⟩ : ∃ N : Nat, B.length = N := ⟨_, rfl⟩
  rw [hNA] at hA hAl hca c0 HB ⊢
  rw [hNB] at hB hBl hcb c1 HB ⊢
  obtain ⟨ba, hA⟩ := hA
  obtain ⟨bb, hB⟩ := hB
  have HA := Lib.hid hA
  have HBB := Lib.hid hB
  have HNA := Lib.hid hNA
  have HNB := Lib.hid hNB
  clear hb hA hB hNA hNB
  go_enter Try.func76, Try.ntmps76
  go_wp2_with fail
  refine wp_loop_rounds 3 ?_
  rw [rounds_succ]
  go_wp2_with fail
  rw [rounds_succ]
  go_wp2_with fail
  rw [rounds_succ]
  go_wp2_with fail
  rw [show ((NA : Int) + (NB : Int)) = ((NA + NB : Nat) : Int) by omega]
  refine (grow_any (NA + NB) (by omega) _).mono ?_
  rintro e w1 ⟨v, rfl, hv, F1⟩
  have HV := Lib.hid hv
  have HF1 := Lib.hid F1
  have d0 : w1.cell? ⟨g, 0, none⟩ = some (.slice aa NA ca) := F1.cell c0 (fun h => h)
  have d1 : w1.cell? ⟨g, 1, none⟩ = some (.slice ab NB cb) := F1.cell c1 (fun h => h)
  have hg := lt_of_block HB.out
  have hs1 := F1.size
  clear hv F1 c0 c1
  go_wp2_with fail
  refine wp_loop_rounds 3 ?_
  rw [rounds_succ]
  go_wp2_with (at_builtin; refine wpList_append_ints _ rfl (.tmp 31) (.tmp 32) 39 rfl w.heap.size 3 i0 _ 8 Try.underlying39 hi hz0 hz1 hz2 rfl _ 0 [] rfl HV.out _ A ba rfl (ownsRow_same HA.out (fun b hb => HF1.out.block b (HA.out.lt b hb).2 (fun h => h))) ?a1 ?a2 ?a3 ?_)
  case a1 => rw [HNA.out]; unfold maxLen; omega
  case a2 => rw [HNA.out]; omega
  case a3 => exact hs1
  intro v2 w2 hown2 hgrow2
  have HF2 := Lib.hid (HF1.out.grown hgrow2 (fun k hk => .inr (HV.out.lt k hk).1))
  have HV2 := Lib.hid (show w2.ownsRow w.heap.size 3 1 v2 NA (intsV A) by
    rw [← HNA.out]; simpa using hown2)
  have e1 : w2.cell? ⟨g, 1, none⟩ = some (.slice ab NB cb) := by
    rw [World.cell?_of_block (w := w1) (hgrow2.block g (by omega) (fun e => by have := (HV.out.lt g e.symm).1; omega))]
    exact d1
  have hs2 := hgrow2.size
  clear hown2 hgrow2 d0 d1
  go_wp2_with fail
  rw [rounds_succ]
  go_wp2_with (at_builtin; refine wpList_append_ints _ rfl (.tmp 31) (.tmp 32) 39 rfl w.heap.size 3 i0 _ 8 Try.underlying39 hi hz0 hz1 hz2 rfl _ NA (intsV A) rfl HV2.out _ B bb rfl (ownsRow_same HBB.out (fun b hb => HF2.out.block b (HBB.out.lt b hb).2 (fun h => h))) ?b1 ?b2 ?b3 ?_)
  case b1 => rw [HNB.out]; unfold maxLen; omega
  case b2 => rw [HNB.out]; omega
  case b3 => omega
  intro v3 w3 hown3 hgrow3
  have HF3 := Lib.hid (HF2.out.grown hgrow3 (fun k hk => .inr (HV2.out.lt k hk).1))
  have HV3 := Lib.hid (show w3.ownsRow w.heap.size 3 1 v3 (NA + NB) (intsV (A ++ B)) by
    have e2 : intsV (A ++ B) = intsV A ++ intsV B := by simp [intsV]
    rw [e2, ← HNB.out]; exact hown3)
  clear hown3 hgrow3 e1
  go_wp2_with fail
  rw [rounds_succ]
  go_wp2_with fail
  go_ret
  exact ⟨_, rfl, HV3.out, HF3.out⟩

set_option maxRecDepth 100000 in
set_option maxHeartbeats 2000000 in
theorem union_any (g : Nat) (va vb : Value) (A B : List Int) (w : World) (hb : w.heap[g]? = some (.cells #[va, vb] 39 (0, 0))) (hA : IntsAt w va A) (hB : IntsAt w vb B) (hAl : A.length ≤ 100000) (hBl : B.length ≤ 100000) :
    Calls Try.prog 66 #[.slice (some ⟨g, 0, none⟩) 2 2] w fun e w' => ∃ v, e = .returned v ∧ IntsAt w' v (unionM A B) ∧ Fr none_ w w' := by
  have HB := Lib.hid hb
  have HA := Lib.hid hA
  have HBB := Lib.hid hB
  clear hb hA hB
  have hlen : (A ++ B).length = A.length + B.length := List.length_append
  by_cases h0 : A.length + B.length = 0
  · have hU : unionM A B = [] := List.eq_nil_of_length_eq_zero (by have := union_length A B; omega)
    have HU := Lib.hid hU
    have hlen' := hlen
    clear hU hlen
    go_enter Try.func66, Try.ntmps66
    go_wp2_with fail
    refine (concat_any g va vb A B _ HB.out HA.out HBB.out hAl hBl).mono ?_
    rintro e w1 ⟨v, rfl, hv, F1⟩
    rw [h0] at hv
    obtain ⟨a1, c1, rfl, hc1⟩ := ownsRow_slice hv
    have HF := Lib.hid F1
    have HVV := Lib.hid (show IntsAt w1 (.slice a1 0 c1) [] from ⟨w.heap.size, (by
      have hz : intsV (A ++ B) = [] := List.eq_nil_of_length_eq_zero (by rw [intsV_length, hlen']; exact h0)
      rw [hz] at hv
      exact hv)⟩)
    clear hv F1 h0 hlen'
    go_wp2_with fail
    refine (Try.slices_Sort_int_none _ _ _).mono ?_
    rintro e w' ⟨rfl, rfl⟩
    go_wp2_with fail
    refine (Try.slices_Compact_int_empty _ _ _).mono ?_
    rintro e w' ⟨rfl, rfl⟩
    go_wp2_with fail
    go_ret
    exact ⟨_, rfl, by rw [HU.out]; exact HVV.out, HF.out⟩
  · obtain ⟨N, hN⟩ : ∃ N : Nat, A.length + B.length = N := ⟨_, rfl⟩
    rw [hN] at h0 hlen
    have HN := Lib.hid hN
    have HLEN := Lib.hid hlen
    have hNl : N ≤ 200000 := by omega
    clear hN hlen
    go_enter Try.func66, Try.ntmps66
    go_wp2_with fail
    refine (concat_any g va vb A B _ HB.out HA.out HBB.out hAl hBl).mono ?_
    rintro e w1 ⟨v, rfl, hv, F1⟩
    rw [HN.out] at hv
    obtain ⟨g1, c1, rfl, hg1, hg1'⟩ := hv.form (by omega)
    have HV := Lib.hid hv
    have HF := Lib.hid F1
    clear F1 hv
    obtain ⟨cur, hcur, hnc, hcm, hcs, htk⟩ : ∃ cur, w1.heap[g1]? = some (.cells cur 3 (0, 0)) ∧ N ≤ c1 ∧ c1 ≤ maxLen ∧ cur.size = c1 * 1 ∧ cur.toList.take (N * 1) = intsV (A ++ B) := by
      rcases HV.out.2 with ⟨h, _⟩ | ⟨g, cap, cur, h1, h2, h3, h4, h5, h6, h7⟩
      · cases h
      · cases h1; exact ⟨cur, h3, h4, h5, h6, h7⟩
    have HHO := Lib.hid (Go.holds_of_blockI (ss := A ++ B) hcur (by rw [HLEN.out]; rw [Nat.mul_one] at htk; rw [htk]; rfl))
    have HC1 := Lib.hid hcur
    have HC2 := Lib.hid hcm
    have HC3 := Lib.hid hcs
    clear hcur hcm hcs htk
    go_wp2_with fail
    rw [← HLEN.out]
    refine (Try.slices_Sort_int g1 0 c1 (A ++ B) _ HHO.out hg1' (by rw [HLEN.out]; omega)).mono ?_
    rintro e w2 ⟨rfl, q, os, hw2⟩
    have hsl : ((A ++ B).mergeSort fun x y => decide (x ≤ y)).length = (A ++ B).length := by simp
    have ho2 := Go.ownsRow_sortedI (n := q) (os := os) (base := w.heap.size) hsl hg1 HC1.out (by rw [HLEN.out]; exact hnc) HC2.out HC3.out
    rw [← hw2] at ho2
    have hgr2 : w1.grownBy w2 (some g1) := by rw [hw2]; exact Go.grownBy_sortedI _
    have HF2 := Lib.hid (HF.out.grown hgr2 (fun k hk => .inr (by cases hk; exact hg1)))
    have HSL := Lib.hid hsl
    have HO2 := Lib.hid ho2
    have HH2 := Lib.hid (Lib.holds_of_ownsRow ho2 (by simp))
    clear hw2 ho2 hsl hgr2
    go_wp2_with fail
    have HU := Lib.hid (show unionM A B = Lib.compact ((A ++ B).mergeSort fun x y => decide (x ≤ y)) from rfl)
    generalize (A ++ B).mergeSort (fun x y => decide (x ≤ y)) = Z at *
    have hZN : Z.length = N := by rw [HSL.out, HLEN.out]
    have hO := HO2.out
    rw [HLEN.out] at hO
    obtain ⟨g2, c2, he, _, _, hnc2, _, _, hH⟩ := HH2.out
    cases he
    rw [HLEN.out] at hnc2
    have HH := Lib.hid hH
    have HOO := Lib.hid hO
    have HZN := Lib.hid hZN
    clear hO hH hZN HO2 HH2
    rw [HN.out, ← HZN.out]
    refine (Try.slices_Compact_int g1 0 c1 Z _ HH.out (by rw [HZN.out]; omega) (by rw [HZN.out]; exact hnc2)).mono ?_
    rintro e w3 ⟨rfl, q3, hw3⟩
    have hcl := Lib.compact_length_le Z
    have hfin := Lib.ownsRow_putRow (q := q3) (ys := Lib.compact Z ++ List.replicate (Z.length - (Lib.compact Z).length) 0) (k := (Lib.compact Z).length) HOO.out (by rw [List.length_append, List.length_replicate, HZN.out]; rw [HZN.out] at hcl; omega) (by rw [← HZN.out]; exact hcl)
    rw [List.take_left, ← hw3] at hfin
    have hgr : w2.grownBy w3 (some g1) := by
      rw [hw3, ← Sort.grow_empty (Sort.putRow _ _ _ _ _)]
      exact Go.grownBy_sortedI _
    have HF3 := Lib.hid (HF2.out.grown hgr (fun k hk => .inr (by cases hk; exact hg1)))
    have HFI := Lib.hid hfin
    clear hw3 hcl hfin hgr
    go_wp2_with fail
    go_ret
    exact ⟨_, rfl, by rw [HU.out]; exact ⟨_, HFI.out⟩, HF3.out⟩
end Go.Proofs.Ytgpmbkgedhcbjaa
