/-
  The document's example of layer 6: plain.
-/
import Derived.Test.YtnenbihmokolpaaGreatDoorMC
namespace Go.Proofs.YtnenbihmokolpaaGreatDoor set_option linter.unusedVariables false set_option linter.unusedSimpArgs false
open Go.RowKit

def zsA : List ByteArray := [⟨#[97, 124, 98]⟩]
def zsB : List ByteArray := [⟨#[91, 97, 93, 124, 91, 98, 93]⟩]
def zsC : List ByteArray := [⟨#[97]⟩, ⟨#[40]⟩]
def works6B : Bool := match ofM zsA, ofM zsB, ofM zsC with
  | .ok a, .ok b, .error e => decide (e = 5) && validM a && sameM a b && sameM a (leastM a) && decide (a.next.length = 2) && decide (a.tags.length = 2) && decide (b.tags.length ≤ 100) && decide ((leastM a).tags.length ≤ 100) && liveM a 0 && !(liveM a 2) && decide (runD a [98] = 1) && decide ((a.next.getD 0 []).length ≤ 300) && a.tags.all fun t => decide (t < 18446744073709551616)
  | _, _, _ => false
theorem works6B_true : works6B = true := by decide +kernel
theorem works6_parts : ∃ a b, ofM zsA = .ok a ∧ ofM zsB = .ok b ∧ ofM zsC = .error 5 ∧ validM a = true ∧ sameM a b = true ∧ sameM a (leastM a) = true ∧ a.next.length = 2 ∧ a.tags.length = 2 ∧ b.tags.length ≤ 100 ∧ (leastM a).tags.length ≤ 100 ∧ liveM a 0 = true ∧ liveM a 2 = false ∧ runD a [98] = 1 ∧ (a.next.getD 0 []).length ≤ 300 ∧ ∀ t ∈ a.tags, t < 18446744073709551616 := by
  have h := works6B_true
  unfold works6B at h
  split at h
  · rename_i a b e ha hb hc
    simp only [Bool.and_eq_true, decide_eq_true_eq, List.all_eq_true, Bool.not_eq_true'] at h
    obtain ⟨⟨⟨⟨⟨⟨⟨⟨⟨⟨⟨⟨h1, h2⟩, h3⟩, h4⟩, h5⟩, h6⟩, h7⟩, h8⟩, h9⟩, h10⟩, h11⟩, h12⟩, h13⟩ := h
    subst h1
    exact ⟨a, b, ha, hb, hc, h2, h3, h4, h5, h6, h7, h8, h9, h10, h11, h12, h13⟩
  · cases h
end Go.Proofs.YtnenbihmokolpaaGreatDoor
