/-
  An automaton that is stored whole, and its parts.
-/
import Derived.Test.YtnenbihmokolpaaGreatDoorKn
namespace Go.Proofs.YtnenbihmokolpaaGreatDoor set_option linter.unusedVariables false set_option linter.unusedSimpArgs false
open Go.RowKit

theorem DfaIn.cells {w : World} {v : Value} {D : Dfa} (h : DfaIn w v D) : ∃ C : List Value, v = .agg C.toArray ∧ C.length = 258 ∧ C.toArray.all (·.oneCell') = true := by
  obtain ⟨nv, tv, rfl, hn, ht⟩ := h.ex
  obtain ⟨na, ncap, rfl, _⟩ := hn
  obtain ⟨ta, tcap, rfl, _⟩ := ht
  exact ⟨_, rfl, dfaC_length _ _ _ h.len, all_oneCell_toArray (fun v hv => by
    simp only [dfaC, intsV, List.mem_append, List.mem_map, List.mem_cons, List.not_mem_nil, or_false] at hv
    rcases hv with ⟨n, _, rfl⟩ | rfl | rfl <;> rfl)⟩
theorem laid_row (w : World) (o : Array Value) (t : TypeId) (cs : Array Value) :
    Fr none_ w ((w.alloc (.cells o t)).setRow w.heap.size cs) ∧ ((w.alloc (.cells o t)).setRow w.heap.size cs).heap[w.heap.size]? = some (.cells cs t (0, 0)) :=
  ⟨Fr.setRow ((Fr.refl none_ w).alloc _) (.inr (Nat.le_refl _)) cs, setRow_heap _ _ _ _ _ _ (alloc_new w _)⟩
theorem tags_in {w : World} {v : Value} {D : Dfa} (h : DfaIn w v D) : ∃ C : List Value, v = .agg C.toArray ∧ ∃ ta tcap, C[257]? = some (.slice ta D.tags.length tcap) ∧ ∀ (j : Nat) (z : Nat), D.tags[j]? = some z → ∃ ad, ta = some ad ∧ w.cell? (ad.add j) = some (.int .u64 (z : Int)) := by
  obtain ⟨nv, tv, rfl, hn, ht⟩ := h.ex
  obtain ⟨ta, tcap, rfl, hc⟩ := ht
  exact ⟨_, rfl, ta, tcap, (dfaC_at h.len nv _).2, hc⟩
theorem DfaIn.parts {w : World} {v : Value} {D : Dfa} (h : DfaIn w v D) : ∃ (C : List Value) (ta : Option Addr) (tcap : Nat), v = .agg C.toArray ∧ C.length = 258 ∧ C.toArray.all (·.oneCell') = true ∧ C[257]? = some (.slice ta D.tags.length tcap) ∧ ∀ (j : Nat) (z : Nat), D.tags[j]? = some z → ∃ ad, ta = some ad ∧ w.cell? (ad.add j) = some (.int .u64 (z : Int)) := by
  obtain ⟨C, rfl, ta, tcap, h1, h2⟩ := tags_in h
  obtain ⟨C', hv, h3, h4⟩ := h.cells
  have : C = C' := by injection hv with hv; injection hv
  subst this
  exact ⟨C, ta, tcap, rfl, h3, h4, h1, h2⟩
end Go.Proofs.YtnenbihmokolpaaGreatDoor
