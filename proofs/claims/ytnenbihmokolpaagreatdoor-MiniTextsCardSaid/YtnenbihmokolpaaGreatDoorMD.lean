/-
  An automaton that came in.
  Little of layer 5: the walk.
  The least automaton tells the same: plain.
-/
import Derived.Test.YtnenbihmokolpaaGreatDoorMr
import Derived.OpenShut
import Derived.Deep.Matrix
import Derived.Deep.Strs
import Derived.ChangeSlices
namespace Go.Proofs.YtnenbihmokolpaaGreatDoor set_option linter.unusedVariables false set_option linter.unusedSimpArgs false
open Go.RowKit
open Go.Deep Go.ChangeShapes Go.WideShapes

end Go.Proofs.YtnenbihmokolpaaGreatDoor

namespace Go.Proofs.YtnenbihmokolpaaGreatDoor set_option linter.unusedVariables false set_option linter.unusedSimpArgs false
open Go.RowKit

end Go.Proofs.YtnenbihmokolpaaGreatDoor

namespace Go.Proofs.YtnenbihmokolpaaGreatDoor set_option linter.unusedVariables false set_option linter.unusedSimpArgs false
open Go.RowKit

theorem DV.go {D : Dfa} {n k : Nat} (hv : DV D n k) (hc : D.cls.length = 256) {b : Nat} (hb : b < 256) {q : Int} (hq : -1 ≤ q ∧ q < n) :
    goM D q b = toD D q (D.cls.getD b 0).toNat ∧ -1 ≤ goM D q b ∧ goM D q b < n := by
  have hcm : D.cls.getD b 0 ∈ D.cls := by
    rw [List.getD, List.getElem?_eq_getElem (by omega)]
    exact List.getElem_mem _
  have hcb := hv.cls _ hcm
  by_cases h0 : q < 0
  · have hg : goM D q b = -1 := by
      unfold goM
      exact if_pos (.inl h0)
    rw [hg, to_neg D h0]
    have := hv.pos
    exact ⟨rfl, by omega, by omega⟩
  · obtain ⟨p, rfl⟩ := Int.eq_ofNat_of_zero_le (show 0 ≤ q by omega)
    have hp : p < n := by omega
    have hrow := hv.rowAt hp
    obtain ⟨hl, ht⟩ := hrow
    have hg : goM D (p : Int) b = (D.next.getD p []).getD (D.cls.getD b 0).toNat (-1) := by
      unfold goM
      have e : ¬ ((p : Int) < 0 ∨ (D.next.length : Int) ≤ (p : Int) ∨ D.cls.getD b 0 < 0 ∨ ((D.next.getD (p : Int).toNat []).length : Int) ≤ D.cls.getD b 0) := by
        have e1 : (p : Int).toNat = p := rfl
        rw [e1, hl, hv.hn]
        omega
      simp only [if_neg e]
      have e1 : (p : Int).toNat = p := rfl
      rw [e1]
      have hlt : (D.cls.getD b 0).toNat < (D.next.getD p []).length := by rw [hl]; omega
      have htt := ht _ (List.getElem_mem hlt)
      have e2 : (D.next.getD p []).getD (D.cls.getD b 0).toNat 0 = (D.next.getD p [])[(D.cls.getD b 0).toNat] := by rw [List.getD, List.getElem?_eq_getElem hlt]; rfl
      have e3 : (D.next.getD p []).getD (D.cls.getD b 0).toNat (-1) = (D.next.getD p [])[(D.cls.getD b 0).toNat] := by rw [List.getD, List.getElem?_eq_getElem hlt]; rfl
      rw [e2, e3, hv.hn]
      split
      · omega
      · rfl
    have ht' : toD D (p : Int) (D.cls.getD b 0).toNat = (D.next.getD p []).getD (D.cls.getD b 0).toNat (-1) := by
      unfold toD
      rw [if_neg (by omega)]
      rfl
    refine ⟨hg.trans ht'.symm, ?_⟩
    rw [hg]
    have hlt : (D.cls.getD b 0).toNat < (D.next.getD p []).length := by rw [hl]; omega
    have := ht _ (List.getElem_mem hlt)
    rw [List.getD, List.getElem?_eq_getElem hlt]
    exact this
theorem DV.run_from {D : Dfa} {n k : Nat} (hv : DV D n k) (hc : D.cls.length = 256) : ∀ (bs : List Nat), (∀ b ∈ bs, b < 256) → ∀ q : Int, -1 ≤ q ∧ q < n →
    tagD D (bs.foldl (goM D) q) = behD D q (bs.map fun b => (D.cls.getD b 0).toNat) := by
  intro bs
  induction bs with
  | nil =>
    intro _ q hq
    show tagD D q = tagQ D q
    unfold tagD tagQ
    rw [hv.hn, hv.ht]
    by_cases h0 : q < 0
    · rw [if_pos (.inl h0), if_pos h0]
    · rw [if_neg h0, if_neg (by rintro (h | h); exact h0 h; rw [show Nat.min n n = n from Nat.min_self n] at h; omega)]
  | cons b bs ih =>
    intro hb q hq
    obtain ⟨h1, h2⟩ := hv.go hc (hb b (by simp)) hq
    rw [List.foldl_cons, List.map_cons, beh_cons, ← h1]
    exact ih (fun c h => hb c (List.mem_cons_of_mem _ h)) _ h2
theorem DV.run {D : Dfa} {n k : Nat} (hv : DV D n k) (hc : D.cls.length = 256) (bs : List Nat) (hb : ∀ b ∈ bs, b < 256) :
    runD D bs = behD D 0 (bs.map fun b => (D.cls.getD b 0).toNat) :=
  hv.run_from hc bs hb 0 ⟨by decide, by have := hv.pos; omega⟩
theorem sameM_refl (D : Dfa) : sameM D D = true := by simp [sameM]
theorem least_tags {D : Dfa} {n k B : Nat} (hv : DV D n k) (hn : n < 100000) (hB : 0 < B) (h : ∀ t ∈ D.tags, t < B) : ∀ t ∈ (leastM D).tags, t < B := by
  obtain ⟨N, S, hm⟩ := least_ok hv hn
  intro t ht
  obtain ⟨j, hj, rfl⟩ := List.getElem_of_mem ht
  have e := (hm.eq j (by rw [← hm.dv.ht]; exact hj)).tag
  have e1 : tagQ (leastM D) (j : Int) = (leastM D).tags[j] := by
    unfold tagQ
    rw [if_neg (by omega), show ((j : Int)).toNat = j from rfl, List.getD, List.getElem?_eq_getElem hj]
    rfl
  rw [← e1, e]
  unfold tagQ
  split
  · exact hB
  · rw [List.getD]
    cases hq : D.tags[(S.getD j 0).toNat]? with
    | none => exact hB
    | some q => exact h q (List.mem_of_getElem? hq)
end Go.Proofs.YtnenbihmokolpaaGreatDoor
