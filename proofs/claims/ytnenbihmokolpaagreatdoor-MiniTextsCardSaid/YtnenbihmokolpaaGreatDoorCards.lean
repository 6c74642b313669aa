/-
  DERIVED. GIVEN WITH THE SEED: THE CARDS: each row of YtnenbihmokolpaaGreatDoorRows.lean that lists a variable, with what it lists TIED to the program's text (the seventh form; the later family's looks); each row that meets fmt, with fmt's text TOLD by the authors' own Lean function (tested against real Go, not proved from fmt's source: count such statements apart). THE CARD IS WHAT COUNTS. Prove the row's statement (the work); the ties are given (YtnenbihmokolpaaGreatDoorTie.lean); close each card by the builder's one call (the guide's Derived/Test/ToyasCard.lean, 'card_holds'). Laid BY PROGRAM, IN A SANDBOX (cutbox-door.mjs). By AI agents, Wed Nov 11 2026. No macro, syntax, notation, axiom, sorry.
-/
import Derived.Test.YtnenbihmokolpaaGreatDoorRows
import GoSem.ClaimSeven
namespace Go.Proofs.YtnenbihmokolpaaGreatDoor
namespace Rows

/-- THE TIED CARD OF 'syntagmlaw07.MunchAll'. -/
def munchAllCard : Claim7 := { stood := { row := munchAllRow, standIns := [], harness := (true, "cd82149ccc6d37ace3068558f2098fc906ab550efd933e3e563bcdc90a90e071"), looks := true }, kinds := [], alts := [], laidByText := true, laidKinds := [.data, .data, .data], laidTests := true, laidLooks := .later }
def MunchAllCardSaid : Prop := Claim7.holds Tryz.pinned (.plain (OpenSpec.ofChange munchAllSpec)) munchAllCard

/-- THE TIED CARD OF 'syntagmlaw06.MiniTexts'. -/
def miniTextsCard : Claim7 := { stood := { row := miniTextsRow, standIns := [], harness := (true, "cd82149ccc6d37ace3068558f2098fc906ab550efd933e3e563bcdc90a90e071"), looks := true }, kinds := [], alts := [], laidByText := true, laidKinds := [.data, .data, .data], laidTests := true, laidLooks := .later }
def MiniTextsCardSaid : Prop := Claim7.holds Tryz.pinned (.plain (OpenSpec.ofChange miniTextsSpec)) miniTextsCard

/-- THE SECOND FORM's CARD OF 'syntagmlaw07.MunchAll'. -/
def munchAllUptoCard : Claim7 := { stood := { row := munchAllUptoRow, standIns := [], harness := (true, "cd82149ccc6d37ace3068558f2098fc906ab550efd933e3e563bcdc90a90e071"), looks := true }, kinds := [], alts := [], laidByText := true, laidKinds := [.data, .data, .data], laidTests := true, laidLooks := .later }
def MunchAllUptoCardSaid : Prop := Claim7.holds Tryz.pinned (.plain (OpenSpec.upto munchAllSpec)) munchAllUptoCard

/-- THE SECOND FORM's CARD OF 'syntagmlaw06.MiniTexts'. -/
def miniTextsUptoCard : Claim7 := { stood := { row := miniTextsUptoRow, standIns := [], harness := (true, "cd82149ccc6d37ace3068558f2098fc906ab550efd933e3e563bcdc90a90e071"), looks := true }, kinds := [], alts := [], laidByText := true, laidKinds := [.data, .data, .data], laidTests := true, laidLooks := .later }
def MiniTextsUptoCardSaid : Prop := Claim7.holds Tryz.pinned (.plain (OpenSpec.upto miniTextsSpec)) miniTextsUptoCard
end Rows
end Go.Proofs.YtnenbihmokolpaaGreatDoor
