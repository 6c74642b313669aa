/-
  The walk over nfa.closed: its parts.
-/
import Derived.Test.YtnenbihmokolpaaGreatDoorNr
import Derived.Test.YtnenbihmokolpaaGreatDoorNl
import Derived.Deep.LoopGhost
import Derived.OwnWalk
import Derived.Maps.AppendAt
import Derived.Laws.AppendOwnNone
import Derived.Sort.OwnSortedInts
import Derived.Test.YtnenbihmokolpaaGreatDoorShelf
namespace Go.Proofs.YtnenbihmokolpaaGreatDoor set_option linter.unusedVariables false set_option linter.unusedSimpArgs false
open Go.RowKit

def intsV (l : List Int) : List Value := l.map (Value.int .i64)
theorem intsV_length (l : List Int) : (intsV l).length = l.length := by simp [intsV]
theorem nums_eq (l : List Nat) : nums l = intsV (ints l) := by simp [nums, intsV, ints]
/-- The last one off. -/
theorem ownsRow_pop {w : World} {base g n cap : Nat} {e : TypeId} {xs : List Value} (h : w.ownsRow base e 1 (.slice (some ⟨g, 0, none⟩) (n + 1) cap) (n + 1) xs) : w.ownsRow base e 1 (.slice (some ⟨g, 0, none⟩) n cap) n xs.dropLast := by
  obtain ⟨h1, h2⟩ := h
  rcases h2 with ⟨h2, _⟩ | ⟨g', cap', cur, hv, hb, hg, hn, hc, hs, ht⟩
  · cases h2
  · cases hv
    refine ⟨by rw [List.length_dropLast, h1]; omega, .inr ⟨g, cap, cur, rfl, hb, hg, by omega, hc, hs, ?_⟩⟩
    rw [← ht, Nat.mul_one, Nat.mul_one, List.dropLast_eq_take, List.take_take, List.length_take, Array.length_toList]
    congr 1
    omega
def seenL (n : Nat) (o : List Nat) : List Value := (List.range n).map fun i => Value.bool (decide (i ∈ o))
theorem seenL_length (n : Nat) (o : List Nat) : (seenL n o).length = n := by simp [seenL]
theorem seenL_nil (n : Nat) : seenL n [] = List.replicate n (.bool false) := by
  apply List.ext_getElem?
  intro i
  simp [seenL, List.getElem?_replicate]
  by_cases h : i < n <;> simp [h]
theorem seenL_at {n : Nat} {o : List Nat} {i : Nat} (h : i < n) : (seenL n o)[i]? = some (.bool (decide (i ∈ o))) := by simp [seenL, h]
theorem seenL_set {n : Nat} {o : List Nat} {a : Nat} (h : a < n) : (seenL n o).set a (.bool true) = seenL n (o ++ [a]) := by
  apply List.ext_getElem?
  intro i
  rw [List.getElem?_set]
  by_cases hi : i < n
  · rw [seenL_at hi, seenL_at hi]
    by_cases ha : a = i
    · subst ha; simp [seenL_length, hi]
    · have : ¬ i = a := fun e => ha e.symm
      simp [ha, this]
  · have h1 : (seenL n o)[i]? = none := List.getElem?_eq_none (by rw [seenL_length]; omega)
    have h2 : (seenL n (o ++ [a]))[i]? = none := List.getElem?_eq_none (by rw [seenL_length]; omega)
    rw [h1, h2, if_neg (by omega)]
theorem seen_made (n : Nat) : (madeCells #[Value.bool false] n).toList = seenL n [] := by
  rw [seenL_nil]
  exact toList_madeCells_one _ _

/-- What has been done, and what is to come. -/
structure Doing (l : List St) (W : List Int) (o : List Nat) (wk : List Int) : Prop where
  res : dfsM l (meas l o wk) o wk = visit l W
  nodup : o.Nodup
  lt : ∀ i ∈ o, i < l.length
  le : meas l o wk ≤ meas l [] W
theorem Doing.start (l : List St) (W : List Int) : Doing l W [] W := ⟨rfl, List.nodup_nil, by simp, Nat.le_refl _⟩
theorem Doing.skip {l : List St} {W : List Int} {o : List Nat} {wk : List Int} {a : Int} (h : Doing l W o (wk ++ [a])) (ha : ¬ (0 ≤ a ∧ a < l.length ∧ a.toNat ∉ o)) : Doing l W o wk ∧ meas l o wk < meas l o (wk ++ [a]) := by
  have := dfs_at l o (wk ++ [a]) a (by simp)
  rw [if_neg ha, List.dropLast_concat] at this
  have hm : meas l o wk < meas l o (wk ++ [a]) := by simp [meas]
  exact ⟨⟨this.symm.trans h.res, h.nodup, h.lt, by have := h.le; omega⟩, hm⟩
theorem Doing.go {l : List St} {W : List Int} {o : List Nat} {wk : List Int} {a : Nat} (h : Doing l W o (wk ++ [(a : Int)])) (ha : a < l.length) (ho : a ∉ o) :
    Doing l W (o ++ [a]) (wk ++ ints (freeOf l a)) ∧ meas l (o ++ [a]) (wk ++ ints (freeOf l a)) < meas l o (wk ++ [(a : Int)]) := by
  have := dfs_at l o (wk ++ [(a : Int)]) a (by simp)
  rw [if_pos ⟨by omega, by omega, by simpa using ho⟩, List.dropLast_concat, Int.toNat_natCast] at this
  have ht := todo_visit l o a ha ho
  have hm : meas l (o ++ [a]) (wk ++ ints (freeOf l a)) < meas l o (wk ++ [(a : Int)]) := by
    simp only [meas, List.length_append, ints, List.length_map, List.length_cons, List.length_nil]
    omega
  refine ⟨⟨this.symm.trans h.res, ?_, ?_, by have := h.le; omega⟩, hm⟩
  · rw [List.nodup_append]
    exact ⟨h.nodup, by simp, fun x hx y hy => by simp at hy; subst hy; exact fun e => ho (e ▸ hx)⟩
  · intro i hi
    rcases List.mem_append.1 hi with hi | hi
    · exact h.lt i hi
    · simp at hi; omega
theorem Doing.length {l : List St} {W : List Int} {o : List Nat} {wk : List Int} (h : Doing l W o wk) : o.length ≤ l.length := by
  have := h.nodup.length_le_of_subset (l₂ := List.range l.length) (fun i hi => List.mem_range.2 (h.lt i hi))
  simpa using this
theorem Doing.done {l : List St} {W : List Int} {o : List Nat} (h : Doing l W o []) : visit l W = o := by
  rw [← h.res, dfs_end]

/-- Sorted, what was come to is as told. -/
theorem sorted_visit {l : List St} {W : List Int} {o : List Nat} (h : Doing l W o []) : (ints o).mergeSort (fun x y => decide (x ≤ y)) = ints (closedM l W) := by
  have hp : List.Perm o (closedM l W) := by
    have hn : (closedM l W).Nodup := (List.nodup_range).filter _
    rw [List.perm_ext_iff_of_nodup h.nodup hn]
    intro i
    rw [mem_closed, ← mem_visit, h.done]
  have hp2 : List.Perm ((ints o).mergeSort (fun x y => decide (x ≤ y))) (ints (closedM l W)) := (List.mergeSort_perm _ _).trans (hp.map _)
  refine List.Perm.eq_of_pairwise (le := fun a b => decide (a ≤ b) = true) (fun a b _ _ h1 h2 => by simp only [decide_eq_true_eq] at h1 h2; omega)
    (List.pairwise_mergeSort (fun a b c h1 h2 => by simp only [decide_eq_true_eq] at h1 h2 ⊢; omega) (fun a b => by simp only [Bool.or_eq_true, decide_eq_true_eq]; omega) _) ?_ hp2
  exact List.Pairwise.map _ (fun a b h => by simp only [decide_eq_true_eq]; omega) (closed_sorted l W)
end Go.Proofs.YtnenbihmokolpaaGreatDoor
