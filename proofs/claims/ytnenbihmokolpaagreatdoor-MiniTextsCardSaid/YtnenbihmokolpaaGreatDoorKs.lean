/-
  dfa.Build of any regexes; the document's example in numbers.
-/
import Derived.Test.YtnenbihmokolpaaGreatDoorKo
import Derived.Test.YtnenbihmokolpaaGreatDoorKv
namespace Go.Proofs.YtnenbihmokolpaaGreatDoor set_option linter.unusedVariables false set_option linter.unusedSimpArgs false
open Go.RowKit

def dfaX (rs : List Rx) : Option Dfa := if rs.length > 60 ∨ Rx.sizes rs > 3000 then none else dfaM rs
theorem dbuild_any (rs : List Rx) (a : Option Addr) (cap : Nat) (w : World) (ok : Nat → Prop) (hc : rs.length ≤ cap) (hsz : Rx.sizes rs < 4611686018427387904) (hl : RxL ok w a 0 rs) (hp : PowOk w) :
    Calls Tryz.prog 29 #[.slice a rs.length cap] w fun e w' => BuiltD e w' (dfaX rs) ∧ Fr none_ w w' := by
  by_cases h : rs.length > 60 ∨ Rx.sizes rs > 3000
  · refine (dbuild_many rs a cap w ok hsz hl h).mono ?_
    rintro e w' ⟨rfl, hf⟩
    rw [dfaX, if_pos h]
    exact ⟨rfl, hf⟩
  · rw [dfaX, if_neg h]
    exact dbuild_some rs a cap w ok hc hl (by omega) (by omega) hp
end Go.Proofs.YtnenbihmokolpaaGreatDoor
