/-
  A part of a regex is smaller.
-/
import Derived.Test.YtjbmppbciiemkaaRx
namespace Go.Proofs.Ytjbmppbciiemkaa set_option linter.unusedVariables false set_option linter.unusedSimpArgs false

theorem Rx.size_kid {k : Int} {b0 b1 b2 b3 : Nat} {kids : List Rx} {r : Rx} (h : r ∈ kids) : r.size + 1 ≤ (Rx.mk k b0 b1 b2 b3 kids).size := by
  obtain ⟨i, hi⟩ := List.mem_iff_getElem?.1 h
  have h1 := Rx.sizes_take_succ kids i r hi
  have h2 := Rx.sizes_le kids (i + 1)
  simp only [Rx.size]
  omega
end Go.Proofs.Ytjbmppbciiemkaa
