/-
  An automaton that is built of an array.
-/
import Derived.Test.YtnenbihmokolpaaGreatDoorKm
namespace Go.Proofs.YtnenbihmokolpaaGreatDoor set_option linter.unusedVariables false set_option linter.unusedSimpArgs false
open Go.RowKit
open Go.Maps

theorem fill_head : ∀ (l : List Value) (k : Nat) (pre : List Value) (post : List Value), pre.length = k → l.length ≤ post.length →
    ((l.zipIdx k).foldl (fun (cs : Array Value) (x : Value × Nat) => cs.setIfInBounds (0 + x.2) x.1) (pre ++ post).toArray) = (pre ++ l ++ post.drop l.length).toArray
  | [], k, pre, post, _, _ => by simp
  | v :: l, k, pre, post, hp, hl => by
    cases post with
    | nil => simp at hl
    | cons p post =>
      simp only [List.zipIdx_cons, List.foldl_cons]
      have e : (pre ++ p :: post).toArray.setIfInBounds (0 + k) v = ((pre ++ [v]) ++ post).toArray := by
        simp only [List.setIfInBounds_toArray]
        congr 1
        rw [Nat.zero_add, List.set_append_right _ _ (by omega), hp, Nat.sub_self]
        simp
      rw [e, fill_head l (k + 1) (pre ++ [v]) post (by simp [hp]) (by simpa using hl)]
      simp

end Go.Proofs.YtnenbihmokolpaaGreatDoor
