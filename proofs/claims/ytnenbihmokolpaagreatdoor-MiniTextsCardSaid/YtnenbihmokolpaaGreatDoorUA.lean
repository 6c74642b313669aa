/-
  Sets of small numbers: the least one; all of a row.
  A set's numbers: bits.List, a range over a function that keeps its own state.
  How many a set has: OnesCount64; Has, Meet, In of bits.
  OnesCount64, Count; Has, Meet, In of bits: the walks.
-/
import Derived.Test.YtnenbihmokolpaaGreatDoorNp
import Derived.Test.YtnenbihmokolpaaGreatDoorNu
import Derived.Shelf.Spec.TrailingZeros
import Derived.RangeFuncNested
import Derived.RangeFuncBound
import Derived.RangeFuncCalls
import Derived.RangeFuncLeaves
import Derived.Shelf.Abstract
import Derived.Shelf.RegionOpen
import Derived.WalkKit
import Derived.OwnWalkIn
import Derived.TacticsInMore
import Derived.LoopNIn
import Derived.LoopIn
import Derived.RangeFuncBox
namespace Go.Proofs.YtnenbihmokolpaaGreatDoor set_option linter.unusedVariables false set_option linter.unusedSimpArgs false
open Go.RowKit

/-- The table of math/bits, where the program has it. -/
def TabOk (w : World) : Prop := TabAt 0 Lib.deBruijn64tab w
theorem TabOk.move {w w' : World} (h : TabOk w) (hf : Fr none_ w w') : TabOk w' := fun j hj => hf.cell (h j hj) (fun h => h)

/-- A set's numbers, rising. -/
def bitsL (s : Nat) : List Nat := (List.range 64).filter fun i => s.testBit i
theorem low_form (x : Nat) (hx : x < 18446744073709551616) (h0 : x ≠ 0) : ∃ m, x = 2 ^ Lib.ctz 64 x * (2 * m + 1) ∧ Lib.ctz 64 x < 64 := by
  have e : Lib.ctz 64 x = Lib.ctzFrom 64 x := by simp [Lib.ctz, h0]
  rw [e]
  exact Lib.ctzFrom_spec 64 x (by omega) hx
theorem bitsL_zero : bitsL 0 = [] := by simp [bitsL]
/-- A set of some numbers. -/
def setM (l : List Int) : Nat := l.foldl (fun s n => s ||| bitM n) 0
theorem setM_lt (l : List Int) : setM l < 18446744073709551616 := by
  have key : ∀ (l : List Int) (s : Nat), s < 18446744073709551616 → l.foldl (fun s n => s ||| bitM n) s < 18446744073709551616 := by
    intro l
    induction l with
    | nil => exact fun s hs => hs
    | cons a l ih => exact fun s hs => ih _ (or_lt hs (bitM_lt _))
  exact key l 0 (by decide)
end Go.Proofs.YtnenbihmokolpaaGreatDoor

namespace Go.Proofs.YtnenbihmokolpaaGreatDoor set_option linter.unusedVariables false set_option linter.unusedSimpArgs false
open Go.RowKit Go.Shelf
attribute [local go_sem] Oper.semAt_some

section
variable {P : Program}
end
end Go.Proofs.YtnenbihmokolpaaGreatDoor

namespace Go.Proofs.YtnenbihmokolpaaGreatDoor set_option linter.unusedVariables false set_option linter.unusedSimpArgs false
open Go.RowKit

/-! ### Bytes -/
def p1 (M x : Nat) : Nat := ((x / 2) &&& M) + (x &&& M)
def p2 (M x : Nat) : Nat := ((x / 4) &&& M) + (x &&& M)
def p3 (M x : Nat) : Nat := (x / 16 + x) &&& M
/-- A mask of j bytes. -/
def mk (m : Nat) : Nat → Nat
  | 0 => 0
  | j + 1 => 256 * mk m j + m
/-- What the last steps make of it. -/
def ones (x : Nat) : Nat :=
  let y := p3 (mk 15 8) (p2 (mk 51 8) (p1 (mk 85 8) x))
  let y := y + y / 256
  let y := y + y / 65536
  let y := y + y / 4294967296
  y % 128
end Go.Proofs.YtnenbihmokolpaaGreatDoor

namespace Go.Proofs.YtnenbihmokolpaaGreatDoor set_option linter.unusedVariables false set_option linter.unusedSimpArgs false
open Go.RowKit

end Go.Proofs.YtnenbihmokolpaaGreatDoor
