/-
  Places put together: slices.Grow, slices.Concat, union.
  Where what a regex matches ends: plain facts.
  The walks over regex.ends and regex.stars.
  The walk over regex.stars; regex.ends of any regex.
  The walks over regex.Match and regex.Nullable.
  The walk over regex.Nullable.
-/
import Derived.Test.YtjbmppbciiemkaaNx
import Derived.Lib.AppendZeros
import Derived.Lib.OwnBridge
import Derived.Lib.RowBridge
import Derived.Lib.SlicesCompact
import Derived.Test.YtjbmppbciiemkaaRk
namespace Go.Proofs.Ytjbmppbciiemkaa set_option linter.unusedVariables false set_option linter.unusedSimpArgs false
open Go.RowKit

theorem compactUpTo_facts (d : Array Int) (hd : ∀ i j, i ≤ j → j < d.size → d[i]! ≤ d[j]!) : ∀ m, m ≤ d.size →
    (Lib.compactUpTo d m).Pairwise (· < ·) ∧ (∀ x, x ∈ Lib.compactUpTo d m ↔ ∃ j, j < m ∧ d[j]! = x)
  | 0, _ => by simp [Lib.compactUpTo]
  | m + 1, hm => by
    obtain ⟨h1, h2⟩ := compactUpTo_facts d hd m (by omega)
    rw [Lib.compactUpTo_succ]
    by_cases hk : Lib.keeps d m = true
    · rw [if_pos hk]
      have hlt : ∀ x ∈ Lib.compactUpTo d m, x < d[m]! := by
        intro x hx
        obtain ⟨j, hj, rfl⟩ := (h2 x).1 hx
        have hne : m = 0 ∨ d[m]! ≠ d[m - 1]! := by simpa [Lib.keeps] using hk
        have a1 := hd j (m - 1) (by omega) (by omega)
        have a2 := hd (m - 1) m (by omega) (by omega)
        omega
      refine ⟨List.pairwise_append.2 ⟨h1, by simp, fun x hx y hy => by simp at hy; subst hy; exact hlt x hx⟩, fun x => ?_⟩
      rw [List.mem_append, h2]
      simp only [List.mem_singleton]
      constructor
      · rintro (⟨j, hj, e⟩ | rfl)
        · exact ⟨j, by omega, e⟩
        · exact ⟨m, by omega, rfl⟩
      · rintro ⟨j, hj, e⟩
        by_cases h : j = m
        · subst h; exact .inr e.symm
        · exact .inl ⟨j, by omega, e⟩
    · rw [if_neg hk, List.append_nil]
      have hne : ¬ (m = 0 ∨ d[m]! ≠ d[m - 1]!) := by simpa [Lib.keeps] using hk
      refine ⟨h1, fun x => ?_⟩
      rw [h2]
      constructor
      · rintro ⟨j, hj, e⟩; exact ⟨j, by omega, e⟩
      · rintro ⟨j, hj, e⟩
        by_cases h : j = m
        · subst h
          refine ⟨j - 1, by omega, ?_⟩
          rw [← e]
          exact (Classical.byContradiction fun hn => hne (.inr fun q => hn q.symm))
        · exact ⟨j, by omega, e⟩
/-- All of both, rising, each once. -/
def unionM (A B : List Int) : List Int := Lib.compact ((A ++ B).mergeSort fun x y => decide (x ≤ y))
theorem union_facts (A B : List Int) : (unionM A B).Pairwise (· < ·) ∧ ∀ x, x ∈ unionM A B ↔ x ∈ A ∨ x ∈ B := by
  have hs : ((A ++ B).mergeSort fun x y => decide (x ≤ y)).Pairwise (fun a b => decide (a ≤ b) = true) :=
    List.pairwise_mergeSort (fun a b c h1 h2 => by simp only [decide_eq_true_eq] at h1 h2 ⊢; omega) (fun a b => by simp only [Bool.or_eq_true, decide_eq_true_eq]; omega) _
  have hp := List.mergeSort_perm (A ++ B) (fun x y => decide (x ≤ y))
  unfold unionM
  generalize (A ++ B).mergeSort (fun x y => decide (x ≤ y)) = zs at *
  have hd : ∀ i j, i ≤ j → j < zs.toArray.size → zs.toArray[i]! ≤ zs.toArray[j]! := by
    intro i j hij hj
    have hj' : j < zs.length := by simpa using hj
    by_cases e : i = j
    · subst e; exact Int.le_refl _
    · have := List.pairwise_iff_getElem.1 hs i j (by omega) hj' (by omega)
      simp only [decide_eq_true_eq] at this
      rw [getElem!_pos zs.toArray i (by simp; omega), getElem!_pos zs.toArray j (by simpa using hj')]
      simpa using this
  obtain ⟨h1, h2⟩ := compactUpTo_facts zs.toArray hd zs.length (by simp)
  refine ⟨h1, fun x => ?_⟩
  unfold Lib.compact
  rw [h2, ← List.mem_append, ← hp.mem_iff]
  constructor
  · rintro ⟨j, hj, rfl⟩
    rw [getElem!_pos zs.toArray j (by simpa using hj)]
    simp
  · intro hx
    obtain ⟨j, hj⟩ := List.mem_iff_getElem?.1 hx
    have hjl := (List.getElem?_eq_some_iff.1 hj).1
    refine ⟨j, hjl, ?_⟩
    rw [getElem!_pos zs.toArray j (by simpa using hjl)]
    have := (List.getElem?_eq_some_iff.1 hj).2
    simpa using this
theorem union_length (A B : List Int) : (unionM A B).length ≤ A.length + B.length := by
  have := Lib.compact_length_le ((A ++ B).mergeSort fun x y => decide (x ≤ y))
  unfold unionM
  simpa using this

set_option maxRecDepth 100000 in
set_option maxHeartbeats 1000000 in
theorem grow_any (n : Nat) (hn : n ≤ 1000000) (w : World) :
    Calls Try.prog 57 #[.slice none 0 0, .int .i64 n] w fun e w' => ∃ v, e = .returned v ∧ w'.ownsRow w.heap.size 3 1 v 0 [] ∧ Fr none_ w w' := by
  obtain ⟨i0, hi, hz0, hz1, hz2⟩ := info_parts int_info
  have h0 : (0 : Int) ≤ (n : Int) := by omega
  by_cases hp : 0 < n
  · have hp' : (0 : Int) < (n : Int) := by omega
    have hr := Lib.run_append_nil_zeros (P := Try.prog) w 64 3 64 3 i0 (.int .i64 0) .i64 .i64 Try.underlying64 Try.underlying3 hi hz0 n hp (by omega) (by omega) (by rw [hz2]; omega)
    have HR := Lib.hid hr
    clear hr
    go_enter Try.func57, Try.ntmps57
    go_wp2_with (at_builtin; refine Lib.wpList_append_run _ rfl (.tmp 20) (.tmp 21) 64 3 rfl _ _ rfl rfl _ _ HR.out ?_)
    go_ret
    have hge := grownCap_ge w n 0 3
    have hm : grownCap w n 0 3 ≤ maxLen := grownCap_le_maxLen w n 0 3 (by unfold maxLen; omega)
    refine ⟨_, rfl, World.ownsRow_made w.drew _ _ (Nat.le_refl _) hm ?_, (Fr.refl none_ w).drew.alloc _⟩
    rw [Array.size_append, size_zeroCells, size_zeroCells]
    show n * 1 + (_ - n) * 1 = _
    omega
  · obtain rfl : n = 0 := by omega
    go_enter Try.func57, Try.ntmps57
    go_wp2_with fail
    go_ret
    exact ⟨_, rfl, World.ownsRow_nil _ _ _ _, Fr.refl _ _⟩

set_option maxRecDepth 100000 in
set_option maxHeartbeats 2000000 in
theorem concat_any (g : Nat) (va vb : Value) (A B : List Int) (w : World) (hb : w.heap[g]? = some (.cells #[va, vb] 64 (0, 0))) (hA : IntsAt w va A) (hB : IntsAt w vb B) (hAl : A.length ≤ 100000) (hBl : B.length ≤ 100000) :
    Calls Try.prog 45 #[.slice (some ⟨g, 0, none⟩) 2 2] w fun e w' => ∃ v, e = .returned v ∧ w'.ownsRow w.heap.size 3 1 v (A.length + B.length) (intsV (A ++ B)) ∧ Fr none_ w w' := by
  obtain ⟨i0, hi, hz0, hz1, hz2⟩ := info_parts int_info
  obtain ⟨aa, ca, rfl, hca⟩ := hA.slice
  obtain ⟨ab, cb, rfl, hcb⟩ := hB.slice
  have c0 : w.cell? ⟨g, 0, none⟩ = some (.slice aa A.length ca) := cell_of_block hb rfl
  have c1 : w.cell? ⟨g, 1, none⟩ = some (.slice ab B.length cb) := cell_of_block hb rfl
  have HB := Lib.hid hb
  obtain ⟨NA, hNA⟩ : ∃ N : Nat, A.length = N := ⟨_, rfl⟩
  obtain ⟨NB, hNB⟩ : ∃ N : Nat, B.length = N := ⟨_, rfl⟩
  rw [hNA] at hA hAl hca c0 HB ⊢
  rw [hNB] at hB hBl hcb c1 HB ⊢
  obtain ⟨ba, hA⟩ := hA
  obtain ⟨bb, hB⟩ := hB
  have HA := Lib.hid hA
  have HBB := Lib.hid hB
  have HNA := Lib.hid hNA
  have HNB := Lib.hid hNB
  clear hb hA hB hNA hNB
  go_enter Try.func45, Try.ntmps45
  go_wp2_with fail
  refine wp_loop_rounds 3 ?_
  rw [rounds_succ]
  go_wp2_with fail
  rw [rounds_succ]
  go_wp2_with fail
  rw [rounds_succ]
  go_wp2_with fail
  rw [show ((NA : Int) + (NB : Int)) = ((NA + NB : Nat) : Int) by omega]
  refine (grow_any (NA + NB) (by omega) _).mono ?_
  rintro e w1 ⟨v, rfl, hv, F1⟩
  have HV := Lib.hid hv
  have HF1 := Lib.hid F1
  have d0 : w1.cell? ⟨g, 0, none⟩ = some (.slice aa NA ca) := F1.cell c0 (fun h => h)
  have d1 : w1.cell? ⟨g, 1, none⟩ = some (.slice ab NB cb) := F1.cell c1 (fun h => h)
  have hg := lt_of_block HB.out
  have hs1 := F1.size
  clear hv F1 c0 c1
  go_wp2_with fail
  refine wp_loop_rounds 3 ?_
  rw [rounds_succ]
  go_wp2_with (at_builtin; refine wpList_append_ints _ rfl (.tmp 31) (.tmp 32) 64 rfl w.heap.size 3 i0 _ 8 Try.underlying64 hi hz0 hz1 hz2 rfl _ 0 [] rfl HV.out _ A ba rfl (ownsRow_same HA.out (fun b hb => HF1.out.block b (HA.out.lt b hb).2 (fun h => h))) ?a1 ?a2 ?a3 ?_)
  case a1 => rw [HNA.out]; unfold maxLen; omega
  case a2 => rw [HNA.out]; omega
  case a3 => exact hs1
  intro v2 w2 hown2 hgrow2
  have HF2 := Lib.hid (HF1.out.grown hgrow2 (fun k hk => .inr (HV.out.lt k hk).1))
  have HV2 := Lib.hid (show w2.ownsRow w.heap.size 3 1 v2 NA (intsV A) by
    rw [← HNA.out]; simpa using hown2)
  have e1 : w2.cell? ⟨g, 1, none⟩ = some (.slice ab NB cb) := by
    rw [World.cell?_of_block (w := w1) (hgrow2.block g (by omega) (fun e => by have := (HV.out.lt g e.symm).1; omega))]
    exact d1
  have hs2 := hgrow2.size
  clear hown2 hgrow2 d0 d1
  go_wp2_with fail
  rw [rounds_succ]
  go_wp2_with (at_builtin; refine wpList_append_ints _ rfl (.tmp 31) (.tmp 32) 64 rfl w.heap.size 3 i0 _ 8 Try.underlying64 hi hz0 hz1 hz2 rfl _ NA (intsV A) rfl HV2.out _ B bb rfl (ownsRow_same HBB.out (fun b hb => HF2.out.block b (HBB.out.lt b hb).2 (fun h => h))) ?b1 ?b2 ?b3 ?_)
  case b1 => rw [HNB.out]; unfold maxLen; omega
  case b2 => rw [HNB.out]; omega
  case b3 => omega
  intro v3 w3 hown3 hgrow3
  have HF3 := Lib.hid (HF2.out.grown hgrow3 (fun k hk => .inr (HV2.out.lt k hk).1))
  have HV3 := Lib.hid (show w3.ownsRow w.heap.size 3 1 v3 (NA + NB) (intsV (A ++ B)) by
    have e2 : intsV (A ++ B) = intsV A ++ intsV B := by simp [intsV]
    rw [e2, ← HNB.out]; exact hown3)
  clear hown3 hgrow3 e1
  go_wp2_with fail
  rw [rounds_succ]
  go_wp2_with fail
  go_ret
  exact ⟨_, rfl, HV3.out, HF3.out⟩

set_option maxRecDepth 100000 in
set_option maxHeartbeats 2000000 in
theorem union_any (g : Nat) (va vb : Value) (A B : List Int) (w : World) (hb : w.heap[g]? = some (.cells #[va, vb] 64 (0, 0))) (hA : IntsAt w va A) (hB : IntsAt w vb B) (hAl : A.length ≤ 100000) (hBl : B.length ≤ 100000) :
    Calls Try.prog 37 #[.slice (some ⟨g, 0, none⟩) 2 2] w fun e w' => ∃ v, e = .returned v ∧ IntsAt w' v (unionM A B) ∧ Fr none_ w w' := by
  have HB := Lib.hid hb
  have HA := Lib.hid hA
  have HBB := Lib.hid hB
  clear hb hA hB
  have hlen : (A ++ B).length = A.length + B.length := List.length_append
  by_cases h0 : A.length + B.length = 0
  · have hU : unionM A B = [] := List.eq_nil_of_length_eq_zero (by have := union_length A B; omega)
    have HU := Lib.hid hU
    have hlen' := hlen
    clear hU hlen
    go_enter Try.func37, Try.ntmps37
    go_wp2_with fail
    refine (concat_any g va vb A B _ HB.out HA.out HBB.out hAl hBl).mono ?_
    rintro e w1 ⟨v, rfl, hv, F1⟩
    rw [h0] at hv
    obtain ⟨a1, c1, rfl, hc1⟩ := ownsRow_slice hv
    have HF := Lib.hid F1
    have HVV := Lib.hid (show IntsAt w1 (.slice a1 0 c1) [] from ⟨w.heap.size, (by
      have hz : intsV (A ++ B) = [] := List.eq_nil_of_length_eq_zero (by rw [intsV_length, hlen']; exact h0)
      rw [hz] at hv
      exact hv)⟩)
    clear hv F1 h0 hlen'
    go_wp2_with fail
    refine (Try.slices_Sort_int_none _ _ _).mono ?_
    rintro e w' ⟨rfl, rfl⟩
    go_wp2_with fail
    refine (Try.slices_Compact_int_empty _ _ _).mono ?_
    rintro e w' ⟨rfl, rfl⟩
    go_wp2_with fail
    go_ret
    exact ⟨_, rfl, by rw [HU.out]; exact HVV.out, HF.out⟩
  · obtain ⟨N, hN⟩ : ∃ N : Nat, A.length + B.length = N := ⟨_, rfl⟩
    rw [hN] at h0 hlen
    have HN := Lib.hid hN
    have HLEN := Lib.hid hlen
    have hNl : N ≤ 200000 := by omega
    clear hN hlen
    go_enter Try.func37, Try.ntmps37
    go_wp2_with fail
    refine (concat_any g va vb A B _ HB.out HA.out HBB.out hAl hBl).mono ?_
    rintro e w1 ⟨v, rfl, hv, F1⟩
    rw [HN.out] at hv
    obtain ⟨g1, c1, rfl, hg1, hg1'⟩ := hv.form (by omega)
    have HV := Lib.hid hv
    have HF := Lib.hid F1
    clear F1 hv
    obtain ⟨cur, hcur, hnc, hcm, hcs, htk⟩ : ∃ cur, w1.heap[g1]? = some (.cells cur 3 (0, 0)) ∧ N ≤ c1 ∧ c1 ≤ maxLen ∧ cur.size = c1 * 1 ∧ cur.toList.take (N * 1) = intsV (A ++ B) := by
      rcases HV.out.2 with ⟨h, _⟩ | ⟨g, cap, cur, h1, h2, h3, h4, h5, h6, h7⟩
      · cases h
      · cases h1; exact ⟨cur, h3, h4, h5, h6, h7⟩
    have HHO := Lib.hid (Go.holds_of_blockI (ss := A ++ B) hcur (by rw [HLEN.out]; rw [Nat.mul_one] at htk; rw [htk]; rfl))
    have HC1 := Lib.hid hcur
    have HC2 := Lib.hid hcm
    have HC3 := Lib.hid hcs
    clear hcur hcm hcs htk
    go_wp2_with fail
    rw [← HLEN.out]
    refine (Try.slices_Sort_int g1 0 c1 (A ++ B) _ HHO.out hg1' (by rw [HLEN.out]; omega)).mono ?_
    rintro e w2 ⟨rfl, q, os, hw2⟩
    have hsl : ((A ++ B).mergeSort fun x y => decide (x ≤ y)).length = (A ++ B).length := by simp
    have ho2 := Go.ownsRow_sortedI (n := q) (os := os) (base := w.heap.size) hsl hg1 HC1.out (by rw [HLEN.out]; exact hnc) HC2.out HC3.out
    rw [← hw2] at ho2
    have hgr2 : w1.grownBy w2 (some g1) := by rw [hw2]; exact Go.grownBy_sortedI _
    have HF2 := Lib.hid (HF.out.grown hgr2 (fun k hk => .inr (by cases hk; exact hg1)))
    have HSL := Lib.hid hsl
    have HO2 := Lib.hid ho2
    have HH2 := Lib.hid (Lib.holds_of_ownsRow ho2 (by simp))
    clear hw2 ho2 hsl hgr2
    go_wp2_with fail
    have HU := Lib.hid (show unionM A B = Lib.compact ((A ++ B).mergeSort fun x y => decide (x ≤ y)) from rfl)
    generalize (A ++ B).mergeSort (fun x y => decide (x ≤ y)) = Z at *
    have hZN : Z.length = N := by rw [HSL.out, HLEN.out]
    have hO := HO2.out
    rw [HLEN.out] at hO
    obtain ⟨g2, c2, he, _, _, hnc2, _, _, hH⟩ := HH2.out
    cases he
    rw [HLEN.out] at hnc2
    have HH := Lib.hid hH
    have HOO := Lib.hid hO
    have HZN := Lib.hid hZN
    clear hO hH hZN HO2 HH2
    rw [HN.out, ← HZN.out]
    refine (Try.slices_Compact_int g1 0 c1 Z _ HH.out (by rw [HZN.out]; omega) (by rw [HZN.out]; exact hnc2)).mono ?_
    rintro e w3 ⟨rfl, q3, hw3⟩
    have hcl := Lib.compact_length_le Z
    have hfin := Lib.ownsRow_putRow (q := q3) (ys := Lib.compact Z ++ List.replicate (Z.length - (Lib.compact Z).length) 0) (k := (Lib.compact Z).length) HOO.out (by rw [List.length_append, List.length_replicate, HZN.out]; rw [HZN.out] at hcl; omega) (by rw [← HZN.out]; exact hcl)
    rw [List.take_left, ← hw3] at hfin
    have hgr : w2.grownBy w3 (some g1) := by
      rw [hw3, ← Sort.grow_empty (Sort.putRow _ _ _ _ _)]
      exact Go.grownBy_sortedI _
    have HF3 := Lib.hid (HF2.out.grown hgr (fun k hk => .inr (by cases hk; exact hg1)))
    have HFI := Lib.hid hfin
    clear hw3 hcl hfin hgr
    go_wp2_with fail
    go_ret
    exact ⟨_, rfl, by rw [HU.out]; exact ⟨_, HFI.out⟩, HF3.out⟩
end Go.Proofs.Ytjbmppbciiemkaa

namespace Go.Proofs.Ytjbmppbciiemkaa set_option linter.unusedVariables false set_option linter.unusedSimpArgs false

def sub (bs : List Nat) (i j : Nat) : List Nat := (bs.drop i).take (j - i)
theorem sub_cat {bs : List Nat} {i k j : Nat} (h1 : i ≤ k) (h2 : k ≤ j) : sub bs i j = sub bs i k ++ sub bs k j := by
  unfold sub
  have e : j - i = (k - i) + (j - k) := by omega
  rw [e, List.take_add, List.drop_drop]
  congr 3
  omega
theorem sub_length {bs : List Nat} {i j : Nat} (h : j ≤ bs.length) (hij : i ≤ j) : (sub bs i j).length = j - i := by
  unfold sub
  rw [List.length_take, List.length_drop]
  omega
theorem sub_split {bs a b : List Nat} {i j : Nat} (h1 : i ≤ j) (h2 : j ≤ bs.length) (h : sub bs i j = a ++ b) : ∃ k, i ≤ k ∧ k ≤ j ∧ a = sub bs i k ∧ b = sub bs k j := by
  have hl := sub_length h2 h1
  rw [h, List.length_append] at hl
  refine ⟨i + a.length, by omega, by omega, ?_, ?_⟩
  · have h3 := sub_cat (bs := bs) (i := i) (k := i + a.length) (j := j) (by omega) (by omega)
    rw [h] at h3
    exact (List.append_inj h3 (by rw [sub_length (by omega) (by omega)]; omega)).1
  · have h3 := sub_cat (bs := bs) (i := i) (k := i + a.length) (j := j) (by omega) (by omega)
    rw [h] at h3
    exact (List.append_inj h3 (by rw [sub_length (by omega) (by omega)]; omega)).2
theorem sub_self (bs : List Nat) (i : Nat) : sub bs i i = [] := by simp [sub]
theorem sub_one {bs : List Nat} {i b : Nat} (h : bs[i]? = some b) : sub bs i (i + 1) = [b] := by
  unfold sub
  have hi := (List.getElem?_eq_some_iff.1 h).1
  rw [List.drop_eq_getElem_cons hi, show i + 1 - i = 1 by omega]
  simp [(List.getElem?_eq_some_iff.1 h).2]
theorem sub_all (bs : List Nat) : sub bs 0 bs.length = bs := by simp [sub]

/-- Places in a text, rising, each once. -/
structure Places (n : Nat) (F : List Int) : Prop where
  sorted : F.Pairwise (· < ·)
  range : ∀ x ∈ F, 0 ≤ x ∧ x ≤ n
theorem Places.length {n : Nat} {F : List Int} (h : Places n F) : F.length ≤ n + 1 := by
  have hn : F.Nodup := h.sorted.imp (fun hab => by omega)
  have hs := hn.length_le_of_subset (l₂ := (List.range (n + 1)).map fun (i : Nat) => (i : Int)) (fun x hx => by
    have := h.range x hx
    exact List.mem_map.2 ⟨x.toNat, List.mem_range.2 (by omega), by omega⟩)
  simpa using hs
/-- Where what is of a kind ends, from some places on. -/
def EndsR (P : List Nat → Prop) (bs : List Nat) (F L : List Int) : Prop :=
  ∀ x : Int, x ∈ L ↔ ∃ i j : Nat, (i : Int) ∈ F ∧ x = j ∧ i ≤ j ∧ j ≤ bs.length ∧ P (sub bs i j)
theorem EndsR.congr {P Q : List Nat → Prop} {bs : List Nat} {F L : List Int} (h : EndsR P bs F L) (hpq : ∀ s, P s ↔ Q s) : EndsR Q bs F L := by
  intro x
  rw [h x]
  constructor
  · rintro ⟨i, j, h1, h2, h3, h4, h5⟩; exact ⟨i, j, h1, h2, h3, h4, (hpq _).1 h5⟩
  · rintro ⟨i, j, h1, h2, h3, h4, h5⟩; exact ⟨i, j, h1, h2, h3, h4, (hpq _).2 h5⟩
theorem ends_empty {bs : List Nat} {F : List Int} (h : Places bs.length F) : EndsR (fun s => s = []) bs F F := by
  intro x
  constructor
  · intro hx
    have := h.range x hx
    exact ⟨x.toNat, x.toNat, by rw [show (x.toNat : Int) = x by omega]; exact hx, by omega, Nat.le_refl _, by omega, sub_self _ _⟩
  · rintro ⟨i, j, h1, rfl, h3, h4, h5⟩
    have := sub_length h4 h3
    rw [h5] at this
    simp at this
    obtain rfl : i = j := by omega
    exact h1
theorem ends_none {bs : List Nat} {F : List Int} : EndsR (fun _ => False) bs F [] := by
  intro x
  simp
/-- One byte on. -/
def byteM (r : Rx) (bs : List Nat) (F : List Int) : List Int := F.filterMap fun x => if 0 ≤ x then match bs[x.toNat]? with | some b => if r.has b then some (x + 1) else none | none => none else none
theorem byteM_snoc (r : Rx) (bs : List Nat) (F : List Int) (x : Int) : byteM r bs (F ++ [x]) = byteM r bs F ++ byteM r bs [x] := by simp [byteM]
theorem byteM_length (r : Rx) (bs : List Nat) (F : List Int) : (byteM r bs F).length ≤ F.length := List.length_filterMap_le _ _
theorem mem_byteM {r : Rx} {bs : List Nat} {F : List Int} {y : Int} : y ∈ byteM r bs F ↔ ∃ (i b : Nat), (i : Int) ∈ F ∧ bs[i]? = some b ∧ r.has b = true ∧ y = i + 1 := by
  simp only [byteM, List.mem_filterMap]
  constructor
  · rintro ⟨x, hx, h⟩
    split at h
    · rename_i h0
      obtain ⟨i, rfl⟩ := Int.eq_ofNat_of_zero_le h0
      rw [Int.toNat_natCast] at h
      cases hb : bs[i]? with
      | none => rw [hb] at h; simp at h
      | some b =>
        rw [hb] at h
        simp only [] at h
        split at h
        · rename_i hh
          exact ⟨i, b, hx, hb, hh, by simpa using h.symm⟩
        · simp at h
    · simp at h
  · rintro ⟨i, b, hi, hb, hh, rfl⟩
    refine ⟨i, hi, ?_⟩
    simp [hb, hh]
theorem byteM_places {r : Rx} {bs : List Nat} {F : List Int} (h : Places bs.length F) : Places bs.length (byteM r bs F) := by
  constructor
  · refine List.Pairwise.filterMap _ (fun a b hab x hx y hy => ?_) h.sorted
    have e : ∀ (a x : Int), x ∈ (if 0 ≤ a then match bs[a.toNat]? with | some b => if r.has b then some (a + 1) else none | none => none else none : Option Int) → x = a + 1 := by
      intro a x hx
      split at hx
      · split at hx
        · split at hx
          · simpa using hx.symm
          · simp at hx
        · simp at hx
      · simp at hx
    have := e a x hx
    have := e b y hy
    omega
  · intro x hx
    obtain ⟨i, b, _, hb, _, rfl⟩ := mem_byteM.1 hx
    have := (List.getElem?_eq_some_iff.1 hb).1
    omega
theorem ends_bytes {r : Rx} {bs : List Nat} {F : List Int} : EndsR (fun s => ∃ b, s = [b] ∧ r.has b = true) bs F (byteM r bs F) := by
  intro x
  rw [mem_byteM]
  constructor
  · rintro ⟨i, b, h1, h2, h3, rfl⟩
    have hi := (List.getElem?_eq_some_iff.1 h2).1
    exact ⟨i, i + 1, h1, by omega, by omega, by omega, b, sub_one h2, h3⟩
  · rintro ⟨i, j, h1, rfl, h3, h4, b, h5, h6⟩
    have hl := sub_length h4 h3
    rw [h5] at hl
    simp at hl
    obtain rfl : j = i + 1 := by omega
    have hi : i < bs.length := by omega
    have hb : bs[i]? = some bs[i] := List.getElem?_eq_getElem hi
    rw [sub_one hb] at h5
    simp at h5
    exact ⟨i, b, h1, by rw [hb, h5], h6, by omega⟩
theorem ends_cat {P Q : List Nat → Prop} {bs : List Nat} {F M L : List Int} (h1 : EndsR P bs F M) (h2 : EndsR Q bs M L) : EndsR (fun s => ∃ a b, s = a ++ b ∧ P a ∧ Q b) bs F L := by
  intro x
  rw [h2 x]
  constructor
  · rintro ⟨k, j, hk, rfl, hkj, hj, hq⟩
    obtain ⟨i, k', hi, hkk, hik, hk', hp⟩ := (h1 k).1 hk
    obtain rfl : k = k' := by omega
    exact ⟨i, j, hi, rfl, by omega, hj, _, _, sub_cat hik hkj, hp, hq⟩
  · rintro ⟨i, j, hi, rfl, hij, hj, a, b, hab, hp, hq⟩
    obtain ⟨k, h3, h4, rfl, rfl⟩ := sub_split hij hj hab
    exact ⟨k, j, (h1 k).2 ⟨i, k, hi, rfl, h3, by omega, hp⟩, rfl, h4, hj, hq⟩
theorem ends_alt {P Q : List Nat → Prop} {bs : List Nat} {F M N : List Int} (h1 : EndsR P bs F M) (h2 : EndsR Q bs F N) : EndsR (fun s => P s ∨ Q s) bs F (unionM M N) := by
  intro x
  rw [(union_facts M N).2 x, h1 x, h2 x]
  constructor
  · rintro (⟨i, j, a, b, c, d, e⟩ | ⟨i, j, a, b, c, d, e⟩)
    · exact ⟨i, j, a, b, c, d, .inl e⟩
    · exact ⟨i, j, a, b, c, d, .inr e⟩
  · rintro ⟨i, j, a, b, c, d, e | e⟩
    · exact .inl ⟨i, j, a, b, c, d, e⟩
    · exact .inr ⟨i, j, a, b, c, d, e⟩
theorem EndsR.range {P : List Nat → Prop} {bs : List Nat} {F L : List Int} (h : EndsR P bs F L) : ∀ x ∈ L, 0 ≤ x ∧ x ≤ bs.length := by
  intro x hx
  obtain ⟨i, j, _, rfl, _, hj, _⟩ := (h x).1 hx
  omega
theorem union_places {n : Nat} {A B : List Int} (hA : ∀ x ∈ A, 0 ≤ x ∧ x ≤ n) (hB : ∀ x ∈ B, 0 ≤ x ∧ x ≤ n) : Places n (unionM A B) :=
  ⟨(union_facts A B).1, fun x hx => by
    rcases ((union_facts A B).2 x).1 hx with h | h
    · exact hA x h
    · exact hB x h⟩

/-- On the way to all that any number of times comes to. -/
structure StarTo (P : List Nat → Prop) (bs : List Nat) (F A : List Int) : Prop where
  places : Places bs.length A
  from_ : ∀ x ∈ F, x ∈ A
  sound : ∀ x ∈ A, ∃ i j : Nat, (i : Int) ∈ F ∧ x = j ∧ i ≤ j ∧ j ≤ bs.length ∧ Star P (sub bs i j)
theorem Star.snoc {P : List Nat → Prop} {a b : List Nat} (h : Star P a) (hb : P b) : Star P (a ++ b) := by
  induction h with
  | nil => simpa using Star.cons b [] hb .nil
  | cons x y hx _ ih => rw [List.append_assoc]; exact .cons x _ hx ih
theorem StarTo.start {P : List Nat → Prop} {bs : List Nat} {F : List Int} (h : Places bs.length F) : StarTo P bs F F :=
  ⟨h, fun _ h => h, fun x hx => by
    have := h.range x hx
    exact ⟨x.toNat, x.toNat, by rw [show (x.toNat : Int) = x by omega]; exact hx, by omega, Nat.le_refl _, by omega, by rw [sub_self]; exact .nil⟩⟩
theorem StarTo.step {P : List Nat → Prop} {bs : List Nat} {F A E : List Int} (h : StarTo P bs F A) (he : EndsR P bs A E) : StarTo P bs F (unionM A E) := by
  refine ⟨union_places h.places.range he.range, fun x hx => ((union_facts A E).2 x).2 (.inl (h.from_ x hx)), fun x hx => ?_⟩
  rcases ((union_facts A E).2 x).1 hx with hx | hx
  · exact h.sound x hx
  · obtain ⟨k, j, hk, rfl, hkj, hj, hp⟩ := (he x).1 hx
    obtain ⟨i, k', hi, hkk, hik, _, hst⟩ := h.sound k hk
    obtain rfl : k = k' := by omega
    exact ⟨i, j, hi, rfl, by omega, hj, by rw [sub_cat hik hkj]; exact hst.snoc hp⟩
/-- Where nothing is added it is all. -/
theorem StarTo.done {P : List Nat → Prop} {bs : List Nat} {F A : List Int} (h : StarTo P bs F A) (hF : Places bs.length F) (hc : ∀ (k j : Nat), (k : Int) ∈ A → k ≤ j → j ≤ bs.length → P (sub bs k j) → (j : Int) ∈ A) : EndsR (Star P) bs F A := by
  intro x
  constructor
  · exact h.sound x
  · rintro ⟨i, j, hi, rfl, hij, hj, hs⟩
    have key : ∀ s, Star P s → ∀ i : Nat, (i : Int) ∈ A → i ≤ j → sub bs i j = s → (j : Int) ∈ A := by
      intro s hs
      induction hs with
      | nil =>
        intro i hi hij he
        have := sub_length hj hij
        rw [he] at this
        simp at this
        obtain rfl : i = j := by omega
        exact hi
      | cons a b ha _ ih =>
        intro i hi hij he
        obtain ⟨k, h3, h4, rfl, rfl⟩ := sub_split hij hj he
        exact ih k (hc i k hi h3 (by omega) ha) h4 rfl
    exact key _ hs i (h.from_ _ hi) hij rfl
theorem StarTo.closed {P : List Nat → Prop} {bs : List Nat} {F A E : List Int} (h : StarTo P bs F A) (hF : Places bs.length F) (he : EndsR P bs A E) (hl : (unionM A E).length ≤ A.length) : EndsR (Star P) bs F (unionM A E) := by
  have hU := (h.step he).places
  have hsub : ∀ x ∈ unionM A E, x ∈ A := by
    intro x hx
    refine Classical.byContradiction fun hn => ?_
    have hnd : (x :: A).Nodup := List.nodup_cons.2 ⟨hn, h.places.sorted.imp (fun hab => by omega)⟩
    have := hnd.length_le_of_subset (l₂ := unionM A E) (fun y hy => by
      rcases List.mem_cons.1 hy with rfl | hy
      · exact hx
      · exact ((union_facts A E).2 y).2 (.inl hy))
    simp at this
    omega
  refine (h.step he).done hF fun k j hk hkj hj hp => ?_
  exact ((union_facts A E).2 _).2 (.inr ((he j).2 ⟨k, j, hsub _ hk, rfl, hkj, hj, hp⟩))

theorem catL_snoc (ks : List Rx) (k : Rx) (s : List Nat) : catL (ks ++ [k]) s ↔ ∃ a b, s = a ++ b ∧ catL ks a ∧ k.lang b := by
  induction ks generalizing s with
  | nil =>
    simp only [List.nil_append, catL]
    constructor
    · rintro ⟨a, b, rfl, ha, rfl⟩; exact ⟨[], a, by simp, rfl, ha⟩
    · rintro ⟨a, b, rfl, rfl, hb⟩; exact ⟨b, [], by simp, hb, rfl⟩
  | cons q ks ih =>
    simp only [List.cons_append, catL]
    constructor
    · rintro ⟨a, b, rfl, ha, hb⟩
      obtain ⟨c, d, rfl, hc, hd⟩ := (ih b).1 hb
      exact ⟨a ++ c, d, by simp, ⟨a, c, rfl, ha, hc⟩, hd⟩
    · rintro ⟨a, b, rfl, ⟨c, d, rfl, hc, hd⟩, hb⟩
      exact ⟨c, d ++ b, by simp, hc, (ih _).2 ⟨d, b, rfl, hd, hb⟩⟩
theorem altL_snoc (ks : List Rx) (k : Rx) (s : List Nat) : altL (ks ++ [k]) s ↔ altL ks s ∨ k.lang s := by
  induction ks with
  | nil => simp [altL]
  | cons q ks ih => simp only [List.cons_append, altL, ih]; exact or_assoc.symm
end Go.Proofs.Ytjbmppbciiemkaa

namespace Go.Proofs.Ytjbmppbciiemkaa set_option linter.unusedVariables false set_option linter.unusedSimpArgs false
open Go.RowKit

/-- What ends comes to. -/
def EndsP (s : ByteArray) (P : List Nat → Prop) (F : List Int) (w : World) (e : Ending) (w' : World) : Prop :=
  ∃ v' L, e = .returned v' ∧ IntsAt w' v' L ∧ Places s.size L ∧ EndsR P (bytesN s) F L ∧ Fr none_ w w'
def EndsC (s : ByteArray) (r : Rx) : Prop := ∀ (F : List Int) (rv v : Value) (w : World) (ok : Nat → Prop), RxV ok w rv r → IntsAt w v F → Places s.size F →
  Calls Try.prog 25 #[rv, .string s, v] w (EndsP s r.lang F w)
theorem EndsP.from_ {s : ByteArray} {P Q : List Nat → Prop} {F : List Int} {w0 w : World} {e : Ending} {w' : World} (h : EndsP s P F w e w') (hpq : ∀ x, P x ↔ Q x) (hf : Fr none_ w0 w) : EndsP s Q F w0 e w' := by
  obtain ⟨v', L, h1, h2, h3, h4, h5⟩ := h
  exact ⟨v', L, h1, h2, h3, h4.congr hpq, hf.tr h5⟩
theorem bytesN_at {s : ByteArray} {i : Nat} (h : i < s.size) : (bytesN s)[i]? = some (byteAt s i) := by
  have := bytesN_take s i h
  have h2 : ((bytesN s).take (i + 1))[i]? = (bytesN s)[i]? := List.getElem?_take_of_lt (by omega)
  rw [← h2, this]
  have hl : ((bytesN s).take i).length = i := by rw [List.length_take, bytesN_length]; omega
  rw [List.getElem?_append_right (by omega), hl]
  simp

set_option maxRecDepth 100000 in
set_option maxHeartbeats 4000000 in
theorem ends_0 (s : ByteArray) (hs : s.size ≤ 1000) (b0 b1 b2 b3 : Nat) (kids : List Rx) : EndsC s (.mk 0 b0 b1 b2 b3 kids) := by
  intro F rv v w ok hrv hv hF
  obtain ⟨a, cap, rfl, hc, hl⟩ := hrv.open_
  have F0 := Lib.hid ((Fr.refl none_ w).alloc (.cells #[.int .i64 0, .int .u64 b0, .int .u64 b1, .int .u64 b2, .int .u64 b3, .slice a kids.length cap] 28))
  have NX := Lib.hid (alloc_new w (.cells #[.int .i64 0, .int .u64 b0, .int .u64 b1, .int .u64 b2, .int .u64 b3, .slice a kids.length cap] 28))
  have HV := Lib.hid hv
  have HL := Lib.hid hl
  have HF := Lib.hid hF
  have hFl := hF.length
  have hbl : (bytesN s).length = s.size := bytesN_length s
  have HBL := Lib.hid hbl
  clear hrv hv hl hF hbl
  go_enter Try.func25, Try.ntmps25
  go_wp2_with fail
  go_ret
  refine ⟨_, F, rfl, HV.out.move F0.out, HF.out, ?_, F0.out⟩
  exact (ends_empty (by rw [HBL.out]; exact HF.out)).congr (fun x => by simp [Rx.lang])

set_option maxRecDepth 100000 in
set_option maxHeartbeats 4000000 in
theorem ends_other (s : ByteArray) (hs : s.size ≤ 1000) (k : Int) (b0 b1 b2 b3 : Nat) (kids : List Rx) (h0 : k ≠ 0) (h1 : k ≠ 1) (h2 : k ≠ 2) (h3 : k ≠ 3) (h4 : k ≠ 4) : EndsC s (.mk k b0 b1 b2 b3 kids) := by
  intro F rv v w ok hrv hv hF
  obtain ⟨a, cap, rfl, hc, hl⟩ := hrv.open_
  have F0 := Lib.hid ((Fr.refl none_ w).alloc (.cells #[.int .i64 k, .int .u64 b0, .int .u64 b1, .int .u64 b2, .int .u64 b3, .slice a kids.length cap] 28))
  have NX := Lib.hid (alloc_new w (.cells #[.int .i64 k, .int .u64 b0, .int .u64 b1, .int .u64 b2, .int .u64 b3, .slice a kids.length cap] 28))
  have HV := Lib.hid hv
  have HL := Lib.hid hl
  have HF := Lib.hid hF
  have hFl := hF.length
  have hbl : (bytesN s).length = s.size := bytesN_length s
  have HBL := Lib.hid hbl
  clear hrv hv hl hF hbl
  have e0 : (k == 0) = false := by rw [beq_eq_false_iff_ne]; exact h0
  have e1 : (k == 1) = false := by rw [beq_eq_false_iff_ne]; exact h1
  have e2 : (k == 2) = false := by rw [beq_eq_false_iff_ne]; exact h2
  have e3 : (k == 3) = false := by rw [beq_eq_false_iff_ne]; exact h3
  have e4 : (k == 4) = false := by rw [beq_eq_false_iff_ne]; exact h4
  have HLA := Lib.hid (show ∀ x, (fun _ => False) x ↔ (Rx.mk k b0 b1 b2 b3 kids).lang x from fun x => by simp [Rx.lang, h0, h1, h2, h3, h4])
  clear h0 h1 h2 h3 h4
  go_enter Try.func25, Try.ntmps25
  go_wp2_with fail
  go_ret
  exact ⟨_, [], rfl, IntsAt.nil _, ⟨List.Pairwise.nil, by simp⟩, ends_none.congr HLA.out, F0.out⟩

set_option maxRecDepth 100000 in
set_option maxHeartbeats 4000000 in
theorem ends_1 (s : ByteArray) (hs : s.size ≤ 1000) (b0 b1 b2 b3 : Nat) (kids : List Rx) : EndsC s (.mk 1 b0 b1 b2 b3 kids) := by
  intro F rv v w ok hrv hv hF
  obtain ⟨a, cap, rfl, hc, hl⟩ := hrv.open_
  have F0 := Lib.hid ((Fr.refl none_ w).alloc (.cells #[.int .i64 1, .int .u64 b0, .int .u64 b1, .int .u64 b2, .int .u64 b3, .slice a kids.length cap] 28))
  have NX := Lib.hid (alloc_new w (.cells #[.int .i64 1, .int .u64 b0, .int .u64 b1, .int .u64 b2, .int .u64 b3, .slice a kids.length cap] 28))
  have HV := Lib.hid hv
  have HL := Lib.hid hl
  have HF := Lib.hid hF
  have hFl := hF.length
  have hbl : (bytesN s).length = s.size := bytesN_length s
  have HBL := Lib.hid hbl
  clear hrv hv hl hF hbl
  obtain ⟨i0, hi, hz0, hz1, hz2⟩ := info_parts int_info
  obtain ⟨fa, fc, rfl, hfc⟩ := HV.out.slice
  obtain ⟨N, hN⟩ : ∃ N : Nat, F.length = N := ⟨_, rfl⟩
  rw [hN] at HV hFl hfc ⊢
  have HN := Lib.hid hN
  clear hN
  go_enter Try.func25, Try.ntmps25
  go_wp2_with fail
  go_loopw [7, 23] (fun x7 x23 wr => ∃ i : Nat, i ≤ N ∧ x23 = .int .i64 i ∧ Aside (wr.ownsRow (w.heap.size + 1) 3 1 x7 (byteM (.mk 1 b0 b1 b2 b3 kids) (bytesN s) (F.take i)).length (intsV (byteM (.mk 1 b0 b1 b2 b3 kids) (bytesN s) (F.take i)))) ∧ Aside (wr.heap[w.heap.size]? = some (.cells #[.int .i64 1, .int .u64 b0, .int .u64 b1, .int .u64 b2, .int .u64 b3, .slice a kids.length cap] 28 (0, 0))) ∧ Aside (Fr none_ w wr)) (fun _ x23 _ => N - (intOf x23).toNat)
  case atStart => exact ⟨0, Nat.zero_le _, rfl, World.ownsRow_nil _ _ _ _, NX.out, F0.out⟩
  case round =>
    obtain ⟨i, hi', rfl, how, hnx, hfr⟩ := hrel
    have HO := Lib.hid how.out
    have NXr := Lib.hid hnx.out
    have HFr := Lib.hid hfr.out
    have hwr := lt_of_block NXr.out
    clear how hnx hfr
    by_cases hlt : i < N
    · have hil : (i : Int) < (N : Int) := by omega
      obtain ⟨x, hx⟩ : ∃ x, F[i]? = some x := ⟨F[i]'(by rw [HN.out]; exact hlt), List.getElem?_eq_getElem _⟩
      obtain ⟨g, rfl, cx⟩ := (HV.out.move HFr.out).cell hx
      have hxr := HF.out.range x (List.mem_of_getElem? hx)
      obtain ⟨xi, rfl⟩ := Int.eq_ofNat_of_zero_le hxr.1
      have HT := Lib.hid (show byteM (.mk 1 b0 b1 b2 b3 kids) (bytesN s) (F.take (i + 1)) = byteM (.mk 1 b0 b1 b2 b3 kids) (bytesN s) (F.take i) ++ byteM (.mk 1 b0 b1 b2 b3 kids) (bytesN s) [(xi : Int)] by
        rw [List.take_add_one, hx]; exact byteM_snoc _ _ _ _)
      have hol : (byteM (.mk 1 b0 b1 b2 b3 kids) (bytesN s) (F.take i)).length ≤ 2000 := by
        have := byteM_length (.mk 1 b0 b1 b2 b3 kids) (bytesN s) (F.take i)
        simp only [List.length_take] at this
        omega
      obtain ⟨M, hM⟩ : ∃ M, byteM (.mk 1 b0 b1 b2 b3 kids) (bytesN s) (F.take i) = M := ⟨_, rfl⟩
      rw [hM] at HO HT hol
      clear hx hM
      by_cases hxs : xi < s.size
      · have hxs' : (xi : Int) < (s.size : Int) := by omega
        have hx0 : (0 : Int) ≤ (xi : Int) := by omega
        have hbl := byteAt_lt s xi
        have HBE := Lib.hid (byteAt_eq s xi hxs)
        have HAT := Lib.hid (bytesN_at hxs)
        obtain ⟨z0, z1, z2, z3, z4, z5⟩ := six NXr.out
        have G0 : Fr none_ wr wr.drew := (Fr.refl none_ wr).drew
        have HCALL := Lib.hid (fun (wx : World) (hx : Fr none_ wr wx) => rhas_any (.mk 1 b0 b1 b2 b3 kids) (byteAt s xi) _ ok wx (RxV.mk_ hc (RxL.move (fun k _ hlt => (hx.block k (Nat.lt_of_lt_of_le hlt HFr.out.size) (fun h => h)).trans (HFr.out.block k hlt (fun h => h))) _ _ _ HL.out)) hbl)
        cases hh : (Rx.mk 1 b0 b1 b2 b3 kids).has (byteAt s xi)
        · rw [hh] at HCALL
          have HSK := Lib.hid (show byteM (.mk 1 b0 b1 b2 b3 kids) (bytesN s) [(xi : Int)] = [] by simp [byteM, HAT.out, hh])
          clear hh
          go_wp2_with fail
          go_region_held3 (fun w' => w'.cell? ⟨w.heap.size, 0, none⟩ = some (.int .i64 1) ∧ w'.cell? ⟨w.heap.size, 1, none⟩ = some (.int .u64 b0) ∧ w'.cell? ⟨w.heap.size, 2, none⟩ = some (.int .u64 b1) ∧ w'.cell? ⟨w.heap.size, 3, none⟩ = some (.int .u64 b2) ∧ w'.cell? ⟨w.heap.size, 4, none⟩ = some (.int .u64 b3) ∧ w'.cell? ⟨w.heap.size, 5, none⟩ = some (.slice a kids.length cap)) ((refine ⟨?_, ?_, ?_, ?_, ?_, ?_⟩ <;> go_simp)) (first
            | (go_at_call 10; rw [HBE.out]; refine (HCALL.out _ (by assumption)).mono ?_; rintro e wx ⟨rfl, Fx⟩; have Gx := Fr.tr (a := wr) (by assumption) Fx; obtain ⟨z0, z1, z2, z3, z4, z5⟩ := six (Gx.at_ NXr.out (fun h => h)); clear Fx))
          have FX := Lib.hid (HFr.out.tr (by assumption))
          have NXx := Lib.hid (Fr.at_ (by assumption) NXr.out (fun h => h))
          have HOx := Lib.hid (ownsRow_same HO.out (fun b' hb' => Fr.block (by assumption) b' (HO.out.lt b' hb').2 (fun h => h)))
          clear G0 z0 z1 z2 z3 z4 z5
          go_wp2_with fail
          go_roundw
          case rel => exact ⟨i + 1, by omega, by go_num, by rw [HT.out, HSK.out, List.append_nil]; exact HOx.out, NXx.out, FX.out⟩
          case measure => simp [intOf]; omega
        · rw [hh] at HCALL
          have HSK := Lib.hid (show byteM (.mk 1 b0 b1 b2 b3 kids) (bytesN s) [(xi : Int)] = [(xi : Int) + 1] by simp [byteM, HAT.out, hh])
          clear hh
          go_wp2_with fail
          go_region_held3 (fun w' => w'.cell? ⟨w.heap.size, 0, none⟩ = some (.int .i64 1) ∧ w'.cell? ⟨w.heap.size, 1, none⟩ = some (.int .u64 b0) ∧ w'.cell? ⟨w.heap.size, 2, none⟩ = some (.int .u64 b1) ∧ w'.cell? ⟨w.heap.size, 3, none⟩ = some (.int .u64 b2) ∧ w'.cell? ⟨w.heap.size, 4, none⟩ = some (.int .u64 b3) ∧ w'.cell? ⟨w.heap.size, 5, none⟩ = some (.slice a kids.length cap)) ((refine ⟨?_, ?_, ?_, ?_, ?_, ?_⟩ <;> go_simp)) (first
            | (go_at_call 10; rw [HBE.out]; refine (HCALL.out _ (by assumption)).mono ?_; rintro e wx ⟨rfl, Fx⟩; have Gx := Fr.tr (a := wr) (by assumption) Fx; obtain ⟨z0, z1, z2, z3, z4, z5⟩ := six (Gx.at_ NXr.out (fun h => h)); clear Fx))
          have FX := Lib.hid (HFr.out.tr (by assumption))
          have NXx := Lib.hid (Fr.at_ (by assumption) NXr.out (fun h => h))
          have HOx := Lib.hid (ownsRow_same HO.out (fun b' hb' => Fr.block (by assumption) b' (HO.out.lt b' hb').2 (fun h => h)))
          have hxw : w.heap.size + 1 ≤ wx.heap.size := by have := lt_of_block NXx.out; omega
          clear G0 z0 z1 z2 z3 z4 z5
          go_wp2_with (at_builtin; refine wpList_append_lies _ rfl (.tmp 38) (.tmp 41) 64 rfl (w.heap.size + 1) 3 i0 _ 1 8 Try.underlying64 hi hz0 hz1 hz2 rfl (by decide) _ M.length (intsV M) rfl (HOx.out.alloc _) ⟨wx.heap.size, 0, none⟩ 1 1 [.int .i64 ((xi : Int) + 1)] rfl rfl (getElem_block (alloc_new _ _)) ?c1 (by decide) ?c2 ?c3 ?c4 (wx.heap.size + 1) (by simp) ?_)
          case c1 => simp [Value.oneCell']
          case c2 => unfold maxLen; omega
          case c3 => omega
          case c4 => first | omega | (simp; omega)
          intro g2 cap2 w2 hown2 hgrow2 hat2 hlt2
          have FN := Lib.hid ((FX.out.alloc (.cells #[.int .i64 ((xi : Int) + 1)] 3)).grown hgrow2 (fun k hk => .inr (by have := (HOx.out.lt k hk).1; omega)))
          have NX2 := Lib.hid (show w2.heap[w.heap.size]? = some (.cells #[.int .i64 1, .int .u64 b0, .int .u64 b1, .int .u64 b2, .int .u64 b3, .slice a kids.length cap] 28 (0, 0)) from (by
            rw [hgrow2.block w.heap.size (by simp; omega) (fun e => by have := (HOx.out.lt _ e.symm).1; omega)]
            exact (Below.heap_alloc _ _ _ (by omega)).trans NXx.out))
          have HN2 := Lib.hid hown2
          clear hown2 hgrow2 hat2 hlt2
          go_wp2_with fail
          go_roundw
          case rel =>
            refine ⟨i + 1, by omega, by go_num, ?_, NX2.out, FN.out⟩
            rw [HT.out, HSK.out, List.length_append]
            have e2 : intsV (M ++ [(xi : Int) + 1]) = intsV M ++ [.int .i64 ((xi : Int) + 1)] := by simp [intsV]
            rw [e2]
            exact HN2.out
          case measure => simp [intOf]; omega
      · obtain rfl : xi = s.size := by omega
        have HSK := Lib.hid (show byteM (.mk 1 b0 b1 b2 b3 kids) (bytesN s) [((s.size : Nat) : Int)] = [] by
          have : (bytesN s)[s.size]? = none := List.getElem?_eq_none (by rw [HBL.out]; exact Nat.le_refl _)
          simp [byteM, this])
        have hd : decide ((s.size : Int) < (s.size : Int)) = false := by simp
        go_wp2_with fail
        go_quiet (fail)
        go_wp2_with fail
        go_roundw
        case rel => exact ⟨i + 1, by omega, by go_num, by rw [HT.out, HSK.out, List.append_nil]; exact HO.out, NXr.out, HFr.out.drewN _⟩
        case measure => simp [intOf]; omega
    · obtain rfl : i = N := by omega
      have htk : F.take i = F := List.take_of_length_le (by rw [HN.out]; exact Nat.le_refl _)
      rw [htk] at HO
      go_wp2_with fail
      go_ret
      refine ⟨_, _, rfl, ⟨_, HO.out⟩, by have := byteM_places (r := .mk 1 b0 b1 b2 b3 kids) (bs := bytesN s) (F := F) (by rw [HBL.out]; exact HF.out); rw [HBL.out] at this; exact this, ?_, HFr.out⟩
      exact ends_bytes.congr (fun x => by simp [Rx.lang, Rx.has])

set_option maxRecDepth 100000 in
set_option maxHeartbeats 4000000 in
theorem ends_2 (s : ByteArray) (hs : s.size ≤ 1000) (b0 b1 b2 b3 : Nat) (kids : List Rx) (hk : kids.length ≤ 1000) (hsub : ∀ r ∈ kids, EndsC s r) : EndsC s (.mk 2 b0 b1 b2 b3 kids) := by
  intro F rv v w ok hrv hv hF
  obtain ⟨a, cap, rfl, hc, hl⟩ := hrv.open_
  have F0 := Lib.hid ((Fr.refl none_ w).alloc (.cells #[.int .i64 2, .int .u64 b0, .int .u64 b1, .int .u64 b2, .int .u64 b3, .slice a kids.length cap] 28))
  have NX := Lib.hid (alloc_new w (.cells #[.int .i64 2, .int .u64 b0, .int .u64 b1, .int .u64 b2, .int .u64 b3, .slice a kids.length cap] 28))
  have HV := Lib.hid hv
  have HL := Lib.hid hl
  have HF := Lib.hid hF
  have hFl := hF.length
  have hbl : (bytesN s).length = s.size := bytesN_length s
  have HBL := Lib.hid hbl
  clear hrv hv hl hF hbl
  have HS := Lib.hid hsub
  clear hsub
  go_enter Try.func25, Try.ntmps25
  go_wp2_with fail
  go_loopw [7, 50] (fun x7 x50 wr => ∃ i : Nat, i ≤ kids.length ∧ x50 = .int .i64 i ∧ Aside (∃ M, IntsAt wr x7 M ∧ Places s.size M ∧ EndsR (catL (kids.take i)) (bytesN s) F M) ∧ Aside (Fr none_ w wr)) (fun _ x50 _ => kids.length - (intOf x50).toNat)
  case atStart => exact ⟨0, Nat.zero_le _, rfl, ⟨F, HV.out.move F0.out, HF.out, (ends_empty (by rw [HBL.out]; exact HF.out)).congr (fun x => by simp [catL])⟩, F0.out⟩
  case round =>
    obtain ⟨i, hi', rfl, hM', hfr⟩ := hrel
    have HFr := Lib.hid hfr.out
    obtain ⟨M, hM1, hM2, hM3⟩ := hM'.out
    have HM1 := Lib.hid hM1
    have HM2 := Lib.hid hM2
    have HM3 := Lib.hid hM3
    clear hfr hM' hM1 hM2 hM3
    by_cases hlt : i < kids.length
    · have hlt' : (i : Int) < (kids.length : Int) := by omega
      obtain ⟨⟨k', x0, x1, x2, x3, kids'⟩, hki⟩ : ∃ r, kids[i]? = some r := ⟨kids[i]'hlt, List.getElem?_eq_getElem hlt⟩
      have hmv : RxL ok wr a 0 kids := RxL.move (fun k _ hlt => HFr.out.block k hlt (fun h => h)) kids a 0 HL.out
      obtain ⟨ad, a', cap', rfl, hok, c0, c1, c2, c3, c4, c5, hc', hl'⟩ := hmv.elem hki
      have HL' := Lib.hid hl'
      have HKC := Lib.hid (HS.out _ (List.mem_of_getElem? hki))
      have FK := Lib.hid (Fr.alloc (Fr.refl none_ wr) (.cells #[.int .i64 k', .int .u64 x0, .int .u64 x1, .int .u64 x2, .int .u64 x3, .slice a' kids'.length cap'] 28))
      have htake : kids.take (i + 1) = kids.take i ++ [.mk k' x0 x1 x2 x3 kids'] := by rw [List.take_add_one, hki]; rfl
      obtain ⟨z0, z1, z2, z3, z4, z5⟩ := six (alloc_new wr (.cells #[.int .i64 k', .int .u64 x0, .int .u64 x1, .int .u64 x2, .int .u64 x3, .slice a' kids'.length cap'] 28))
      have HTK := Lib.hid htake
      clear hki hmv hl' htake
      go_wp2_with fail
      refine (HKC.out M _ u7 _ ok (RxV.mk_ hc' (RxL.move (fun k _ hlt => FK.out.block k hlt (fun h => h)) _ _ _ HL'.out)) (HM1.out.move FK.out) HM2.out).mono ?_
      rintro e w2 ⟨v2, L, rfl, h1, h2, h3, h4⟩
      have K1 := Lib.hid h1
      have K2 := Lib.hid h2
      have K3 := Lib.hid ((ends_cat HM3.out h3).congr (Q := catL (kids.take (i + 1))) (fun x => by rw [HTK.out, catL_snoc]))
      have K4 := Lib.hid ((HFr.out.tr FK.out).tr h4)
      clear h1 h2 h3 h4 z0 z1 z2 z3 z4 z5 c0 c1 c2 c3 c4 c5
      go_wp2_with fail
      go_roundw
      case rel => exact ⟨i + 1, by omega, by go_num, ⟨L, K1.out, K2.out, K3.out⟩, K4.out⟩
      case measure => simp [intOf]; omega
    · obtain rfl : i = kids.length := by omega
      have htk : kids.take kids.length = kids := List.take_length
      rw [htk] at HM3
      go_wp2_with fail
      go_ret
      exact ⟨_, M, rfl, HM1.out, HM2.out, HM3.out.congr (fun x => by simp [Rx.lang]), HFr.out⟩

set_option maxRecDepth 100000 in
set_option maxHeartbeats 4000000 in
theorem ends_3 (s : ByteArray) (hs : s.size ≤ 1000) (b0 b1 b2 b3 : Nat) (kids : List Rx) (hk : kids.length ≤ 1000) (hsub : ∀ r ∈ kids, EndsC s r) : EndsC s (.mk 3 b0 b1 b2 b3 kids) := by
  intro F rv v w ok hrv hv hF
  obtain ⟨a, cap, rfl, hc, hl⟩ := hrv.open_
  have F0 := Lib.hid ((Fr.refl none_ w).alloc (.cells #[.int .i64 3, .int .u64 b0, .int .u64 b1, .int .u64 b2, .int .u64 b3, .slice a kids.length cap] 28))
  have NX := Lib.hid (alloc_new w (.cells #[.int .i64 3, .int .u64 b0, .int .u64 b1, .int .u64 b2, .int .u64 b3, .slice a kids.length cap] 28))
  have HV := Lib.hid hv
  have HL := Lib.hid hl
  have HF := Lib.hid hF
  have hFl := hF.length
  have hbl : (bytesN s).length = s.size := bytesN_length s
  have HBL := Lib.hid hbl
  clear hrv hv hl hF hbl
  have HS := Lib.hid hsub
  clear hsub
  go_enter Try.func25, Try.ntmps25
  go_wp2_with fail
  go_loopw [7, 64] (fun x7 x64 wr => ∃ i : Nat, i ≤ kids.length ∧ x64 = .int .i64 i ∧ Aside (∃ M, IntsAt wr x7 M ∧ Places s.size M ∧ EndsR (altL (kids.take i)) (bytesN s) F M) ∧ Aside (Fr none_ w wr)) (fun _ x64 _ => kids.length - (intOf x64).toNat)
  case atStart => exact ⟨0, Nat.zero_le _, rfl, ⟨[], IntsAt.nil _, ⟨List.Pairwise.nil, by simp⟩, ends_none.congr (fun x => by simp [altL])⟩, F0.out⟩
  case round =>
    obtain ⟨i, hi', rfl, hM', hfr⟩ := hrel
    have HFr := Lib.hid hfr.out
    obtain ⟨M, hM1, hM2, hM3⟩ := hM'.out
    have HM1 := Lib.hid hM1
    have HM2 := Lib.hid hM2
    have HM3 := Lib.hid hM3
    clear hfr hM' hM1 hM2 hM3
    by_cases hlt : i < kids.length
    · have hlt' : (i : Int) < (kids.length : Int) := by omega
      obtain ⟨⟨k', x0, x1, x2, x3, kids'⟩, hki⟩ : ∃ r, kids[i]? = some r := ⟨kids[i]'hlt, List.getElem?_eq_getElem hlt⟩
      have hmv : RxL ok wr a 0 kids := RxL.move (fun k _ hlt => HFr.out.block k hlt (fun h => h)) kids a 0 HL.out
      obtain ⟨ad, a', cap', rfl, hok, c0, c1, c2, c3, c4, c5, hc', hl'⟩ := hmv.elem hki
      have HL' := Lib.hid hl'
      have HKC := Lib.hid (HS.out _ (List.mem_of_getElem? hki))
      have FK := Lib.hid (Fr.alloc (Fr.refl none_ wr) (.cells #[.int .i64 k', .int .u64 x0, .int .u64 x1, .int .u64 x2, .int .u64 x3, .slice a' kids'.length cap'] 28))
      have htake : kids.take (i + 1) = kids.take i ++ [.mk k' x0 x1 x2 x3 kids'] := by rw [List.take_add_one, hki]; rfl
      obtain ⟨z0, z1, z2, z3, z4, z5⟩ := six (alloc_new wr (.cells #[.int .i64 k', .int .u64 x0, .int .u64 x1, .int .u64 x2, .int .u64 x3, .slice a' kids'.length cap'] 28))
      have HTK := Lib.hid htake
      clear hki hmv hl' htake
      go_wp2_with fail
      refine (HKC.out F _ v _ ok (RxV.mk_ hc' (RxL.move (fun k _ hlt => FK.out.block k hlt (fun h => h)) _ _ _ HL'.out)) (HV.out.move (HFr.out.tr FK.out)) HF.out).mono ?_
      rintro e w2 ⟨v2, L, rfl, h1, h2, h3, h4⟩
      have K1 := Lib.hid h1
      have K2 := Lib.hid h2
      have K3 := Lib.hid ((ends_alt HM3.out h3).congr (Q := altL (kids.take (i + 1))) (fun x => by rw [HTK.out, altL_snoc]))
      have K4 := Lib.hid ((HFr.out.tr FK.out).tr h4)
      have K5 := Lib.hid (HM1.out.move (FK.out.tr h4))
      clear h1 h2 h3 h4 z0 z1 z2 z3 z4 z5 c0 c1 c2 c3 c4 c5
      obtain ⟨ma, mc, rfl, hmc⟩ := HM1.out.slice
      obtain ⟨la, lc, rfl, hlc⟩ := K1.out.slice
      go_wp2_with fail
      have FB := Lib.hid ((Fr.refl none_ w2).alloc (.cells #[.slice ma M.length mc, .slice la L.length lc] 64))
      refine (union_any w2.heap.size _ _ M L _ (alloc_new w2 _) (K5.out.move FB.out) (K1.out.move FB.out) (by have := HM2.out.length; omega) (by have := K2.out.length; omega)).mono ?_
      rintro e w3 ⟨v3, rfl, h1, h2⟩
      have Q1 := Lib.hid h1
      have Q2 := Lib.hid ((K4.out.tr FB.out).tr h2)
      clear h1 h2
      go_wp2_with fail
      go_roundw
      case rel => exact ⟨i + 1, by omega, by go_num, ⟨_, Q1.out, union_places HM2.out.range K2.out.range, K3.out⟩, Q2.out⟩
      case measure => simp [intOf]; omega
    · obtain rfl : i = kids.length := by omega
      have htk : kids.take kids.length = kids := List.take_length
      rw [htk] at HM3
      go_wp2_with fail
      go_ret
      exact ⟨_, M, rfl, HM1.out, HM2.out, HM3.out.congr (fun x => by simp [Rx.lang]), HFr.out⟩

end Go.Proofs.Ytjbmppbciiemkaa

namespace Go.Proofs.Ytjbmppbciiemkaa set_option linter.unusedVariables false set_option linter.unusedSimpArgs false
open Go.RowKit

/-- How far stars has come: the last two rows. -/
def StarR (s : ByteArray) (P : List Nat → Prop) (F : List Int) (A : List Int) (was : Int) : Prop :=
  StarTo P (bytesN s) F A ∧ (was = -1 ∨ ∃ A0 E, was = (A0.length : Nat) ∧ A = unionM A0 E ∧ StarTo P (bytesN s) F A0 ∧ EndsR P (bytesN s) A0 E)
theorem StarR.end_ {s : ByteArray} {P : List Nat → Prop} {F A : List Int} {was : Int} (h : StarR s P F A was) (hF : Places (bytesN s).length F) (hw : ¬ was < A.length) : EndsR (Star P) (bytesN s) F A := by
  obtain ⟨h1, rfl | ⟨A0, E, rfl, rfl, h2, h3⟩⟩ := h
  · omega
  · exact h2.closed hF h3 (by omega)

set_option maxRecDepth 100000 in
set_option maxHeartbeats 4000000 in
theorem stars_none (s : ByteArray) (hs : s.size ≤ 1000) (k : Int) (b0 b1 b2 b3 : Nat) (F : List Int) (rv v : Value) (w : World) (ok : Nat → Prop) (hrv : RxV ok w rv (.mk k b0 b1 b2 b3 [])) (hv : IntsAt w v F) (hF : Places s.size F) :
    Calls Try.prog 38 #[rv, .string s, v] w (EndsP s (Star (headL [])) F w) := by
  obtain ⟨a, cap, rfl, hc, hl⟩ := hrv.open_
  have F0 := Lib.hid ((Fr.refl none_ w).alloc (.cells #[.int .i64 k, .int .u64 b0, .int .u64 b1, .int .u64 b2, .int .u64 b3, .slice a ([] : List Rx).length cap] 28))
  obtain ⟨z0, z1, z2, z3, z4, z5⟩ := six (alloc_new w (.cells #[.int .i64 k, .int .u64 b0, .int .u64 b1, .int .u64 b2, .int .u64 b3, .slice a ([] : List Rx).length cap] 28))
  have HV := Lib.hid hv
  have HF := Lib.hid hF
  have HBL := Lib.hid (bytesN_length s)
  clear hrv hv hl hF
  go_enter Try.func38, Try.ntmps38
  go_wp2_with fail
  go_loopw [7, 8] (fun x7 x8 wr => x7 = v ∧ x8 = .int .i64 (-1) ∧ wr = w.alloc (.cells #[.int .i64 k, .int .u64 b0, .int .u64 b1, .int .u64 b2, .int .u64 b3, .slice a ([] : List Rx).length cap] 28)) (fun _ _ _ => 0)
  case atStart => exact ⟨rfl, rfl, rfl⟩
  case round =>
    obtain ⟨rfl, rfl, rfl⟩ := hrel
    go_wp2_with fail
    go_ret
    refine ⟨_, F, rfl, HV.out.move F0.out, HF.out, ?_, F0.out⟩
    have h := ends_empty (bs := bytesN s) (F := F) (by rw [HBL.out]; exact HF.out)
    refine h.congr (fun x => ⟨fun e => e ▸ .nil, fun e => ?_⟩)
    cases e with
    | nil => rfl
    | cons a b ha _ => simp [headL] at ha

set_option maxRecDepth 100000 in
set_option maxHeartbeats 4000000 in
theorem stars_some (s : ByteArray) (hs : s.size ≤ 1000) (k : Int) (b0 b1 b2 b3 : Nat) (k' : Int) (x0 x1 x2 x3 : Nat) (kids' rest : List Rx) (hk : rest.length ≤ 1000) (hsub : EndsC s (.mk k' x0 x1 x2 x3 kids')) (F : List Int) (rv v : Value) (w : World) (ok : Nat → Prop) (hrv : RxV ok w rv (.mk k b0 b1 b2 b3 (.mk k' x0 x1 x2 x3 kids' :: rest))) (hv : IntsAt w v F) (hF : Places s.size F) :
    Calls Try.prog 38 #[rv, .string s, v] w (EndsP s (Star (Rx.lang (.mk k' x0 x1 x2 x3 kids'))) F w) := by
  obtain ⟨a, cap, rfl, hc, hl⟩ := hrv.open_
  have hN : (Rx.mk k' x0 x1 x2 x3 kids' :: rest).length = rest.length + 1 := rfl
  rw [hN] at hc ⊢
  have FW := Lib.hid ((Fr.refl none_ w).alloc (.cells #[.int .i64 k, .int .u64 b0, .int .u64 b1, .int .u64 b2, .int .u64 b3, .slice a (rest.length + 1) cap] 28))
  have NX := Lib.hid (alloc_new w (.cells #[.int .i64 k, .int .u64 b0, .int .u64 b1, .int .u64 b2, .int .u64 b3, .slice a (rest.length + 1) cap] 28))
  have HV := Lib.hid (hv.move FW.out)
  have HL := Lib.hid hl
  have HF := Lib.hid hF
  have HBL := Lib.hid (bytesN_length s)
  have HS := Lib.hid hsub
  have hpos : decide ((0 : Int) < ((rest.length : Int) + 1)) = true := by rw [decide_eq_true_eq]; omega
  have HP := Lib.hid hpos
  clear hrv hv hl hF hsub
  go_enter Try.func38, Try.ntmps38
  go_wp2_with fail
  generalize hw1 : w.alloc (.cells #[.int .i64 k, .int .u64 b0, .int .u64 b1, .int .u64 b2, .int .u64 b3, .slice a (rest.length + 1) cap] 28) = w1
  rw [hw1] at FW NX HV
  clear hw1
  go_loopw [7, 8] (fun x7 x8 wr => ∃ was : Int, -1 ≤ was ∧ was ≤ s.size + 1 ∧ x8 = .int .i64 was ∧ Aside (∃ A, IntsAt wr x7 A ∧ StarR s (Rx.lang (.mk k' x0 x1 x2 x3 kids')) F A was) ∧ Aside (Fr none_ w1 wr)) (fun _ x8 _ => s.size + 3 - ((intOf x8) + 1).toNat)
  case atStart => exact ⟨-1, by omega, by omega, rfl, ⟨F, HV.out, StarTo.start (by rw [HBL.out]; exact HF.out), .inl rfl⟩, Fr.refl _ _⟩
  case round =>
    obtain ⟨was, hw1, hw2, rfl, hA', hfr⟩ := hrel
    have HFr := Lib.hid hfr.out
    obtain ⟨A, hA1, hA2⟩ := hA'.out
    have hAp : Places s.size A := by have := hA2.1.places; rw [HBL.out] at this; exact this
    have hAl := hAp.length
    obtain ⟨ma, mc, rfl, hmc⟩ := hA1.slice
    obtain ⟨N, hN'⟩ : ∃ N, A.length = N := ⟨_, rfl⟩
    have HA1 := Lib.hid hA1
    have HA2 := Lib.hid hA2
    have HAP := Lib.hid hAp
    have HN := Lib.hid hN'
    have NXr := Lib.hid (HFr.out.at_ NX.out (fun h => h))
    obtain ⟨z0, z1, z2, z3, z4, z5⟩ := six NXr.out
    clear hfr hA' hA1 hA2 hAp
    rw [hN'] at hmc hAl ⊢
    clear hN'
    by_cases hlt : was < (N : Int)
    · have hmv : RxL ok wr a 0 (.mk k' x0 x1 x2 x3 kids' :: rest) := RxL.move (fun k _ hlt => (HFr.out.block k (Nat.lt_of_lt_of_le hlt FW.out.size) (fun h => h)).trans (FW.out.block k hlt (fun h => h))) _ a 0 HL.out
      obtain ⟨ad, a', cap', rfl, hok, c0, c1, c2, c3, c4, c5, hc', hl'⟩ := hmv.elem (i := 0) rfl
      have HL' := Lib.hid hl'
      have e0 : ad.add (0 * 6) = ad := by simp [Addr.add]
      rw [e0] at c0 c1 c2 c3 c4 c5
      clear hmv hl' e0
      go_wp2_with fail
      refine (HS.out A _ (.slice ma N mc) _ ok (RxV.mk_ hc' HL'.out) (by have := HA1.out; rw [HN.out] at this; exact this) HAP.out).mono ?_
      rintro e w2 ⟨v2, L, rfl, h1, h2, h3, h4⟩
      have K1 := Lib.hid h1
      have K2 := Lib.hid h2
      have K3 := Lib.hid h3
      have K4 := Lib.hid (HFr.out.tr h4)
      have K5 := Lib.hid (HA1.out.move h4)
      clear h1 h2 h3 h4 z0 z1 z2 z3 z4 z5 c0 c1 c2 c3 c4 c5
      obtain ⟨la, lc, rfl, hlc⟩ := K1.out.slice
      go_wp2_with fail
      have FB := Lib.hid ((Fr.refl none_ w2).alloc (.cells #[.slice ma N mc, .slice la L.length lc] 64))
      refine (union_any w2.heap.size _ _ A L _ (alloc_new w2 _) (by have := K5.out.move FB.out; rw [HN.out] at this; exact this) (K1.out.move FB.out) (by rw [HN.out]; omega) (by have := K2.out.length; omega)).mono ?_
      rintro e w3 ⟨v3, rfl, h1, h2⟩
      have Q1 := Lib.hid h1
      have Q2 := Lib.hid ((K4.out.tr FB.out).tr h2)
      clear h1 h2
      go_wp2_with fail
      go_roundw
      case rel => exact ⟨N, by omega, by omega, rfl, ⟨_, Q1.out, HA2.out.1.step K3.out, .inr ⟨A, L, by rw [HN.out], rfl, HA2.out.1, K3.out⟩⟩, Q2.out⟩
      case measure => simp [intOf]; omega
    · go_wp2_with fail
      go_ret
      exact ⟨_, A, rfl, by have := HA1.out; rw [HN.out] at this; exact this, HAP.out, HA2.out.end_ (by rw [HBL.out]; exact HF.out) (by rw [HN.out]; omega), FW.out.tr HFr.out⟩

set_option maxRecDepth 100000 in
set_option maxHeartbeats 4000000 in
theorem ends_4 (s : ByteArray) (hs : s.size ≤ 1000) (b0 b1 b2 b3 : Nat) (kids : List Rx) (hk : kids.length ≤ 1000) (hsub : ∀ r ∈ kids, EndsC s r) : EndsC s (.mk 4 b0 b1 b2 b3 kids) := by
  intro F rv v w ok hrv hv hF
  have HST : ∀ (w1 : World) (rv' : Value), RxV ok w1 rv' (.mk 4 b0 b1 b2 b3 kids) → IntsAt w1 v F → Calls Try.prog 38 #[rv', .string s, v] w1 (EndsP s (Rx.lang (.mk 4 b0 b1 b2 b3 kids)) F w1) := by
    intro w1 rv' h1 h2
    cases kids with
    | nil => exact (stars_none s hs 4 b0 b1 b2 b3 F rv' v w1 ok h1 h2 hF).mono fun e w' h => h.from_ (fun x => by simp [Rx.lang]) (Fr.refl _ _)
    | cons q rest =>
      obtain ⟨k', x0, x1, x2, x3, kids'⟩ := q
      simp only [List.length_cons] at hk
      exact (stars_some s hs 4 b0 b1 b2 b3 k' x0 x1 x2 x3 kids' rest (by omega) (hsub _ (List.mem_cons_self ..)) F rv' v w1 ok h1 h2 hF).mono fun e w' h => h.from_ (fun x => by simp [Rx.lang, headL]) (Fr.refl _ _)
  obtain ⟨a, cap, rfl, hc, hl⟩ := hrv.open_
  have F0 := Lib.hid ((Fr.refl none_ w).alloc (.cells #[.int .i64 4, .int .u64 b0, .int .u64 b1, .int .u64 b2, .int .u64 b3, .slice a kids.length cap] 28))
  obtain ⟨z0, z1, z2, z3, z4, z5⟩ := six (alloc_new w (.cells #[.int .i64 4, .int .u64 b0, .int .u64 b1, .int .u64 b2, .int .u64 b3, .slice a kids.length cap] 28))
  have HV := Lib.hid (hv.move F0.out)
  have HL := Lib.hid hl
  have HS := Lib.hid HST
  clear hrv hv hl hF HST hsub
  go_enter Try.func25, Try.ntmps25
  go_wp2_with fail
  refine (HS.out _ _ (RxV.mk_ hc (RxL.move (fun k _ hlt => F0.out.block k hlt (fun h => h)) _ _ _ HL.out)) HV.out).mono ?_
  rintro e w2 ⟨v2, L, rfl, h1, h2, h3, h4⟩
  have K1 := Lib.hid h1
  have K2 := Lib.hid h2
  have K3 := Lib.hid h3
  have K4 := Lib.hid (F0.out.tr h4)
  clear h1 h2 h3 h4 z0 z1 z2 z3 z4 z5
  go_wp2_with fail
  go_ret
  exact ⟨_, L, rfl, K1.out, K2.out, K3.out, K4.out⟩

theorem ends_all (s : ByteArray) (hs : s.size ≤ 1000) : ∀ (n : Nat) (r : Rx), r.size ≤ n → r.size ≤ 1000 → EndsC s r
  | 0, r, h, _ => by have := r.size_pos; omega
  | n + 1, .mk k b0 b1 b2 b3 kids, h, hr => by
    have hsub : ∀ r ∈ kids, EndsC s r := fun r hrm => by
      have := Rx.size_kid (k := k) (b0 := b0) (b1 := b1) (b2 := b2) (b3 := b3) hrm
      exact ends_all s hs n r (by omega) (by omega)
    have hk : kids.length ≤ 1000 := by have := Rx.length_le kids; simp only [Rx.size] at hr; omega
    by_cases h0 : k = 0
    · subst h0; exact ends_0 s hs b0 b1 b2 b3 kids
    by_cases h1 : k = 1
    · subst h1; exact ends_1 s hs b0 b1 b2 b3 kids
    by_cases h2 : k = 2
    · subst h2; exact ends_2 s hs b0 b1 b2 b3 kids hk hsub
    by_cases h3 : k = 3
    · subst h3; exact ends_3 s hs b0 b1 b2 b3 kids hk hsub
    by_cases h4 : k = 4
    · subst h4; exact ends_4 s hs b0 b1 b2 b3 kids hk hsub
    exact ends_other s hs k b0 b1 b2 b3 kids h0 h1 h2 h3 h4
end Go.Proofs.Ytjbmppbciiemkaa

namespace Go.Proofs.Ytjbmppbciiemkaa set_option linter.unusedVariables false set_option linter.unusedSimpArgs false
open Go.RowKit

theorem IntsAt.lit (w : World) (z : Int) (g : Nat) (hg : g = w.heap.size) : IntsAt (w.alloc (.cells #[.int .i64 z] 3)) (.slice (some ⟨g, 0, none⟩) 1 1) [z] := by
  subst hg
  exact ⟨w.heap.size, World.ownsRow_lit w #[.int .i64 z] 1 (Nat.le_refl _) (by decide) rfl⟩
theorem contains_any (a : Option Addr) (c : Nat) (A : List Int) (x : Int) (w : World) (h : IntsAt w (.slice a A.length c) A) (hl : A.length ≤ 100000) :
    Calls Try.prog 24 #[.slice a A.length c, .int .i64 x] w fun e w' => e = .returned (.bool (A.contains x)) ∧ w' = w := by
  by_cases h0 : A = []
  · subst h0
    exact (Try.slices_Contains_int_empty a c x w).mono fun e w' h => ⟨h.1, h.2⟩
  · obtain ⟨z, hz⟩ : ∃ z, A[0]? = some z := by
      cases A with
      | nil => exact absurd rfl h0
      | cons z t => exact ⟨z, rfl⟩
    obtain ⟨g, rfl, _⟩ := h.cell hz
    refine (Try.slices_Contains_int g 0 A.length c A x w (Nat.le_refl _) (by omega) (fun j hj => ?_)).mono fun e w' h => ⟨by rw [h.1, List.take_length], h.2⟩
    obtain ⟨g', hg, hc⟩ := h.cell (i := j) (List.getElem?_eq_getElem hj)
    simp only [Option.some.injEq, Addr.mk.injEq, and_true] at hg
    rw [Nat.zero_add, hg, hc, List.getD_eq_getElem?_getD, List.getElem?_eq_getElem hj]
    rfl
open Classical in
/-- Whether a regex matches a text. -/
noncomputable def matchP (r : Rx) (s : ByteArray) : Bool := decide (r.lang (bytesN s))
theorem matchP_true {r : Rx} {s : ByteArray} : matchP r s = true ↔ r.lang (bytesN s) := by simp [matchP]

theorem ends_whole {P : List Nat → Prop} {bs : List Nat} {L : List Int} (h : EndsR P bs [0] L) : L.contains ((bs.length : Nat) : Int) = true ↔ P bs := by
  rw [List.contains_iff_mem, h]
  constructor
  · rintro ⟨i, j, hi, hj, _, _, hp⟩
    simp only [List.mem_singleton] at hi
    obtain rfl : j = bs.length := by omega
    obtain rfl : i = 0 := by omega
    rwa [sub_all] at hp
  · intro hp
    exact ⟨0, bs.length, by simp, rfl, Nat.zero_le _, Nat.le_refl _, by rw [sub_all]; exact hp⟩
theorem match_fact {r : Rx} {s : ByteArray} {L : List Int} (h : EndsR r.lang (bytesN s) [0] L) : L.contains ((s.size : Nat) : Int) = matchP r s := by
  rw [Bool.eq_iff_iff, matchP_true, ← ends_whole h, bytesN_length]

set_option maxRecDepth 100000 in
set_option maxHeartbeats 4000000 in
theorem match_any (r : Rx) (s : ByteArray) (v : Value) (ok : Nat → Prop) (w : World) (hs : s.size ≤ 1000) (hr : r.size ≤ 1000) (hv : RxV ok w v r) :
    Calls Try.prog 12 #[v, .string s] w fun e w' => e = .returned (.bool (matchP r s)) ∧ Fr none_ w w' := by
  have hE : EndsC s r := ends_all s hs r.size r (Nat.le_refl _) hr
  have HE := Lib.hid hE
  clear hE
  have HMP := Lib.hid (fun (L : List Int) (h : EndsR r.lang (bytesN s) [0] L) => match_fact h)
  obtain ⟨k, b0, b1, b2, b3, kids⟩ := r
  obtain ⟨a, cap, rfl, hc, hl⟩ := hv.open_
  have F0 := Lib.hid ((Fr.refl none_ w).alloc (.cells #[.int .i64 k, .int .u64 b0, .int .u64 b1, .int .u64 b2, .int .u64 b3, .slice a kids.length cap] 28))
  obtain ⟨z0, z1, z2, z3, z4, z5⟩ := six (alloc_new w (.cells #[.int .i64 k, .int .u64 b0, .int .u64 b1, .int .u64 b2, .int .u64 b3, .slice a kids.length cap] 28))
  have HL := Lib.hid hl
  clear hv hl
  go_enter Try.func12, Try.ntmps12
  go_wp2_with fail
  have FB := Lib.hid (F0.out.alloc (.cells #[.int .i64 0] 3))
  refine (HE.out [0] _ _ _ ok (RxV.mk_ hc (RxL.move (fun k _ hlt => FB.out.block k hlt (fun h => h)) _ _ _ HL.out)) (IntsAt.lit _ 0 (w.heap.size + 1) (by simp)) ⟨by simp, by simp⟩).mono ?_
  rintro e w2 ⟨v2, L, rfl, h1, h2, h3, h4⟩
  have K1 := Lib.hid h1
  have K2 := Lib.hid h2.length
  have K3 := Lib.hid (HMP.out L h3)
  have K4 := Lib.hid (FB.out.tr h4)
  clear h1 h2 h3 h4 z0 z1 z2 z3 z4 z5 hr
  obtain ⟨la, lc, rfl, hlc⟩ := K1.out.slice
  clear HMP HE
  go_wp2_with fail
  refine (contains_any la lc L _ w2 K1.out (by have := K2.out; omega)).mono ?_
  rintro e w3 ⟨rfl, rfl⟩
  go_wp2_with fail
  go_ret
  exact ⟨congrArg (fun b => Ending.returned (.bool b)) (by rw [← K3.out]; simp), K4.out⟩
end Go.Proofs.Ytjbmppbciiemkaa

namespace Go.Proofs.Ytjbmppbciiemkaa set_option linter.unusedVariables false set_option linter.unusedSimpArgs false
open Go.RowKit

mutual
/-- Whether it matches the empty text. -/
def Rx.null : Rx → Bool
  | .mk k _ _ _ _ kids => if k = 0 ∨ k = 4 then true else if k = 2 then allNull kids else if k = 3 then anyNull kids else false
def allNull : List Rx → Bool
  | [] => true
  | r :: rs => Rx.null r && allNull rs
def anyNull : List Rx → Bool
  | [] => false
  | r :: rs => Rx.null r || anyNull rs
end
theorem allNull_eq (l : List Rx) : allNull l = l.all Rx.null := by
  induction l with
  | nil => rfl
  | cons r l ih => simp [allNull, ih]
theorem anyNull_eq (l : List Rx) : anyNull l = l.any Rx.null := by
  induction l with
  | nil => rfl
  | cons r l ih => simp [anyNull, ih]

def NullC (r : Rx) : Prop := ∀ (v : Value) (w : World) (ok : Nat → Prop), RxV ok w v r →
  Calls Try.prog 13 #[v] w fun e w' => e = .returned (.bool r.null) ∧ Fr none_ w w'

set_option maxRecDepth 100000 in
set_option maxHeartbeats 4000000 in
theorem null_0 (b0 b1 b2 b3 : Nat) (kids : List Rx) : NullC (.mk 0 b0 b1 b2 b3 kids) := by
  intro v w ok hrv
  obtain ⟨a, cap, rfl, hc, hl⟩ := hrv.open_
  have F0 := Lib.hid ((Fr.refl none_ w).alloc (.cells #[.int .i64 0, .int .u64 b0, .int .u64 b1, .int .u64 b2, .int .u64 b3, .slice a kids.length cap] 28))
  obtain ⟨z0, z1, z2, z3, z4, z5⟩ := six (alloc_new w (.cells #[.int .i64 0, .int .u64 b0, .int .u64 b1, .int .u64 b2, .int .u64 b3, .slice a kids.length cap] 28))
  have HL := Lib.hid hl
  clear hrv hl
  go_enter Try.func13, Try.ntmps13
  go_wp2_with fail
  go_ret
  exact ⟨by simp [Rx.null], F0.out⟩

set_option maxRecDepth 100000 in
set_option maxHeartbeats 4000000 in
theorem null_4 (b0 b1 b2 b3 : Nat) (kids : List Rx) : NullC (.mk 4 b0 b1 b2 b3 kids) := by
  intro v w ok hrv
  obtain ⟨a, cap, rfl, hc, hl⟩ := hrv.open_
  have F0 := Lib.hid ((Fr.refl none_ w).alloc (.cells #[.int .i64 4, .int .u64 b0, .int .u64 b1, .int .u64 b2, .int .u64 b3, .slice a kids.length cap] 28))
  obtain ⟨z0, z1, z2, z3, z4, z5⟩ := six (alloc_new w (.cells #[.int .i64 4, .int .u64 b0, .int .u64 b1, .int .u64 b2, .int .u64 b3, .slice a kids.length cap] 28))
  have HL := Lib.hid hl
  clear hrv hl
  go_enter Try.func13, Try.ntmps13
  go_wp2_with fail
  go_ret
  exact ⟨by simp [Rx.null], F0.out⟩

set_option maxRecDepth 100000 in
set_option maxHeartbeats 4000000 in
theorem null_other (k : Int) (h0 : k ≠ 0) (h2 : k ≠ 2) (h3 : k ≠ 3) (h4 : k ≠ 4) (b0 b1 b2 b3 : Nat) (kids : List Rx) : NullC (.mk k b0 b1 b2 b3 kids) := by
  intro v w ok hrv
  obtain ⟨a, cap, rfl, hc, hl⟩ := hrv.open_
  have F0 := Lib.hid ((Fr.refl none_ w).alloc (.cells #[.int .i64 k, .int .u64 b0, .int .u64 b1, .int .u64 b2, .int .u64 b3, .slice a kids.length cap] 28))
  obtain ⟨z0, z1, z2, z3, z4, z5⟩ := six (alloc_new w (.cells #[.int .i64 k, .int .u64 b0, .int .u64 b1, .int .u64 b2, .int .u64 b3, .slice a kids.length cap] 28))
  have HL := Lib.hid hl
  clear hrv hl
  have e0 : (k == 0) = false := by rw [beq_eq_false_iff_ne]; exact h0
  have e2 : (k == 2) = false := by rw [beq_eq_false_iff_ne]; exact h2
  have e3 : (k == 3) = false := by rw [beq_eq_false_iff_ne]; exact h3
  have e4 : (k == 4) = false := by rw [beq_eq_false_iff_ne]; exact h4
  have HLA := Lib.hid (show (Rx.mk k b0 b1 b2 b3 kids).null = false by simp [Rx.null, h0, h2, h3, h4])
  clear h0 h2 h3 h4
  go_enter Try.func13, Try.ntmps13
  go_wp2_with fail
  go_ret
  exact ⟨by rw [HLA.out]; rfl, F0.out⟩

set_option maxRecDepth 100000 in
set_option maxHeartbeats 4000000 in
theorem null_2 (b0 b1 b2 b3 : Nat) (kids : List Rx) (hk : kids.length ≤ 1000) (hsub : ∀ r ∈ kids, NullC r) : NullC (.mk 2 b0 b1 b2 b3 kids) := by
  intro v w ok hrv
  obtain ⟨a, cap, rfl, hc, hl⟩ := hrv.open_
  have F0 := Lib.hid ((Fr.refl none_ w).alloc (.cells #[.int .i64 2, .int .u64 b0, .int .u64 b1, .int .u64 b2, .int .u64 b3, .slice a kids.length cap] 28))
  obtain ⟨z0, z1, z2, z3, z4, z5⟩ := six (alloc_new w (.cells #[.int .i64 2, .int .u64 b0, .int .u64 b1, .int .u64 b2, .int .u64 b3, .slice a kids.length cap] 28))
  have HL := Lib.hid hl
  clear hrv hl
  have HS := Lib.hid hsub
  clear hsub
  go_enter Try.func13, Try.ntmps13
  go_wp2_with fail
  generalize hw1 : w.alloc (.cells #[.int .i64 2, .int .u64 b0, .int .u64 b1, .int .u64 b2, .int .u64 b3, .slice a kids.length cap] 28) = w1
  rw [hw1] at F0
  clear hw1 z0 z1 z2 z3 z4 z5
  go_loopw [17] (fun x wr => ∃ i : Nat, i ≤ kids.length ∧ x = .int .i64 i ∧ Aside (∀ r ∈ kids.take i, r.null = true) ∧ Aside (Fr none_ w wr)) (fun x _ => kids.length - (intOf x).toNat)
  case atStart => exact ⟨0, Nat.zero_le _, rfl, (show ∀ r ∈ kids.take 0, r.null = true by simp), F0.out⟩
  case round =>
    obtain ⟨i, hi', rfl, hM', hfr⟩ := hrel
    have HFr := Lib.hid hfr.out
    have HM := Lib.hid hM'.out
    clear hfr hM'
    by_cases hlt : i < kids.length
    · have hlt' : (i : Int) < (kids.length : Int) := by omega
      obtain ⟨⟨k', x0, x1, x2, x3, kids'⟩, hki⟩ : ∃ r, kids[i]? = some r := ⟨kids[i]'hlt, List.getElem?_eq_getElem hlt⟩
      have hmv : RxL ok wr a 0 kids := RxL.move (fun k _ hlt => HFr.out.block k hlt (fun h => h)) kids a 0 HL.out
      obtain ⟨ad, a', cap', rfl, hok, c0, c1, c2, c3, c4, c5, hc', hl'⟩ := hmv.elem hki
      have HL' := Lib.hid hl'
      have HMEM := Lib.hid (List.mem_of_getElem? hki)
      have HKC := Lib.hid (HS.out _ HMEM.out)
      have FK := Lib.hid (Fr.alloc (Fr.refl none_ wr) (.cells #[.int .i64 k', .int .u64 x0, .int .u64 x1, .int .u64 x2, .int .u64 x3, .slice a' kids'.length cap'] 28))
      have htake : kids.take (i + 1) = kids.take i ++ [.mk k' x0 x1 x2 x3 kids'] := by rw [List.take_add_one, hki]; rfl
      obtain ⟨z0, z1, z2, z3, z4, z5⟩ := six (alloc_new wr (.cells #[.int .i64 k', .int .u64 x0, .int .u64 x1, .int .u64 x2, .int .u64 x3, .slice a' kids'.length cap'] 28))
      have HTK := Lib.hid htake
      clear hki hmv hl' htake
      go_wp2_with fail
      refine (HKC.out _ _ ok (RxV.mk_ hc' (RxL.move (fun k _ hlt => FK.out.block k hlt (fun h => h)) _ _ _ HL'.out))).mono ?_
      rintro e w2 ⟨rfl, h4⟩
      have K4 := Lib.hid ((HFr.out.tr FK.out).tr h4)
      clear h4 z0 z1 z2 z3 z4 z5 c0 c1 c2 c3 c4 c5
      cases hnu : (Rx.mk k' x0 x1 x2 x3 kids').null
      · have HNU := Lib.hid hnu
        clear hnu
        go_wp2_with fail
        go_ret
        exact ⟨by rw [show (Rx.mk 2 b0 b1 b2 b3 kids).null = false by simp only [Rx.null, allNull_eq]; simp; exact ⟨_, HMEM.out, HNU.out⟩]; rfl, K4.out⟩
      · have HNU := Lib.hid hnu
        clear hnu
        go_wp2_with fail
        go_roundw
        case rel => exact ⟨i + 1, by omega, by go_num, (show ∀ r ∈ kids.take (i + 1), r.null = true from fun r hr => by
          rw [HTK.out, List.mem_append] at hr
          rcases hr with hr | hr
          · exact HM.out r hr
          · rw [List.mem_singleton.1 hr]; exact HNU.out), K4.out⟩
        case measure => simp [intOf]; omega
    · obtain rfl : i = kids.length := by omega
      have htk : kids.take kids.length = kids := List.take_length
      rw [htk] at HM
      go_wp2_with fail
      go_ret
      exact ⟨by rw [show (Rx.mk 2 b0 b1 b2 b3 kids).null = true by simp only [Rx.null, allNull_eq]; simp; exact HM.out]; rfl, HFr.out⟩

set_option maxRecDepth 100000 in
set_option maxHeartbeats 4000000 in
theorem null_3 (b0 b1 b2 b3 : Nat) (kids : List Rx) (hk : kids.length ≤ 1000) (hsub : ∀ r ∈ kids, NullC r) : NullC (.mk 3 b0 b1 b2 b3 kids) := by
  intro v w ok hrv
  obtain ⟨a, cap, rfl, hc, hl⟩ := hrv.open_
  have F0 := Lib.hid ((Fr.refl none_ w).alloc (.cells #[.int .i64 3, .int .u64 b0, .int .u64 b1, .int .u64 b2, .int .u64 b3, .slice a kids.length cap] 28))
  obtain ⟨z0, z1, z2, z3, z4, z5⟩ := six (alloc_new w (.cells #[.int .i64 3, .int .u64 b0, .int .u64 b1, .int .u64 b2, .int .u64 b3, .slice a kids.length cap] 28))
  have HL := Lib.hid hl
  clear hrv hl
  have HS := Lib.hid hsub
  clear hsub
  go_enter Try.func13, Try.ntmps13
  go_wp2_with fail
  generalize hw1 : w.alloc (.cells #[.int .i64 3, .int .u64 b0, .int .u64 b1, .int .u64 b2, .int .u64 b3, .slice a kids.length cap] 28) = w1
  rw [hw1] at F0
  clear hw1 z0 z1 z2 z3 z4 z5
  go_loopw [30] (fun x wr => ∃ i : Nat, i ≤ kids.length ∧ x = .int .i64 i ∧ Aside (∀ r ∈ kids.take i, r.null = false) ∧ Aside (Fr none_ w wr)) (fun x _ => kids.length - (intOf x).toNat)
  case atStart => exact ⟨0, Nat.zero_le _, rfl, (show ∀ r ∈ kids.take 0, r.null = false by simp), F0.out⟩
  case round =>
    obtain ⟨i, hi', rfl, hM', hfr⟩ := hrel
    have HFr := Lib.hid hfr.out
    have HM := Lib.hid hM'.out
    clear hfr hM'
    by_cases hlt : i < kids.length
    · have hlt' : (i : Int) < (kids.length : Int) := by omega
      obtain ⟨⟨k', x0, x1, x2, x3, kids'⟩, hki⟩ : ∃ r, kids[i]? = some r := ⟨kids[i]'hlt, List.getElem?_eq_getElem hlt⟩
      have hmv : RxL ok wr a 0 kids := RxL.move (fun k _ hlt => HFr.out.block k hlt (fun h => h)) kids a 0 HL.out
      obtain ⟨ad, a', cap', rfl, hok, c0, c1, c2, c3, c4, c5, hc', hl'⟩ := hmv.elem hki
      have HL' := Lib.hid hl'
      have HMEM := Lib.hid (List.mem_of_getElem? hki)
      have HKC := Lib.hid (HS.out _ HMEM.out)
      have FK := Lib.hid (Fr.alloc (Fr.refl none_ wr) (.cells #[.int .i64 k', .int .u64 x0, .int .u64 x1, .int .u64 x2, .int .u64 x3, .slice a' kids'.length cap'] 28))
      have htake : kids.take (i + 1) = kids.take i ++ [.mk k' x0 x1 x2 x3 kids'] := by rw [List.take_add_one, hki]; rfl
      obtain ⟨z0, z1, z2, z3, z4, z5⟩ := six (alloc_new wr (.cells #[.int .i64 k', .int .u64 x0, .int .u64 x1, .int .u64 x2, .int .u64 x3, .slice a' kids'.length cap'] 28))
      have HTK := Lib.hid htake
      clear hki hmv hl' htake
      go_wp2_with fail
      refine (HKC.out _ _ ok (RxV.mk_ hc' (RxL.move (fun k _ hlt => FK.out.block k hlt (fun h => h)) _ _ _ HL'.out))).mono ?_
      rintro e w2 ⟨rfl, h4⟩
      have K4 := Lib.hid ((HFr.out.tr FK.out).tr h4)
      clear h4 z0 z1 z2 z3 z4 z5 c0 c1 c2 c3 c4 c5
      cases hnu : (Rx.mk k' x0 x1 x2 x3 kids').null
      · have HNU := Lib.hid hnu
        clear hnu
        go_wp2_with fail
        go_roundw
        case rel => exact ⟨i + 1, by omega, by go_num, (show ∀ r ∈ kids.take (i + 1), r.null = false from fun r hr => by
          rw [HTK.out, List.mem_append] at hr
          rcases hr with hr | hr
          · exact HM.out r hr
          · rw [List.mem_singleton.1 hr]; exact HNU.out), K4.out⟩
        case measure => simp [intOf]; omega
      · have HNU := Lib.hid hnu
        clear hnu
        go_wp2_with fail
        go_ret
        exact ⟨by rw [show (Rx.mk 3 b0 b1 b2 b3 kids).null = true by simp only [Rx.null, anyNull_eq]; simp; exact ⟨_, HMEM.out, HNU.out⟩]; rfl, K4.out⟩
    · obtain rfl : i = kids.length := by omega
      have htk : kids.take kids.length = kids := List.take_length
      rw [htk] at HM
      go_wp2_with fail
      go_ret
      exact ⟨by rw [show (Rx.mk 3 b0 b1 b2 b3 kids).null = false by simp only [Rx.null, anyNull_eq]; simp; exact HM.out]; rfl, HFr.out⟩

theorem null_all : ∀ (n : Nat) (r : Rx), r.size ≤ n → r.size ≤ 1000 → NullC r
  | 0, r, h, _ => by have := r.size_pos; omega
  | n + 1, .mk k b0 b1 b2 b3 kids, h, hr => by
    have hsub : ∀ r ∈ kids, NullC r := fun r hrm => by
      have := Rx.size_kid (k := k) (b0 := b0) (b1 := b1) (b2 := b2) (b3 := b3) hrm
      exact null_all n r (by omega) (by omega)
    have hk : kids.length ≤ 1000 := by have := Rx.length_le kids; simp only [Rx.size] at hr; omega
    by_cases h0 : k = 0
    · subst h0; exact null_0 b0 b1 b2 b3 kids
    by_cases h2 : k = 2
    · subst h2; exact null_2 b0 b1 b2 b3 kids hk hsub
    by_cases h3 : k = 3
    · subst h3; exact null_3 b0 b1 b2 b3 kids hk hsub
    by_cases h4 : k = 4
    · subst h4; exact null_4 b0 b1 b2 b3 kids
    exact null_other k h0 h2 h3 h4 b0 b1 b2 b3 kids
theorem nullable_any (r : Rx) (v : Value) (ok : Nat → Prop) (w : World) (hr : r.size ≤ 1000) (hv : RxV ok w v r) :
    Calls Try.prog 13 #[v] w fun e w' => e = .returned (.bool r.null) ∧ Fr none_ w w' := null_all r.size r (Nat.le_refl _) hr v w ok hv
end Go.Proofs.Ytjbmppbciiemkaa
