/-
  DERIVED. GIVEN WITH THE SEED: THE CARDS: each row of YtglflmkkecephaaGreatDoorRows.lean that lists a variable, with what it lists TIED to the program's text (the seventh form; the later family's looks); each row that meets fmt, with fmt's text TOLD by the authors' own Lean function (tested against real Go, not proved from fmt's source: count such statements apart). THE CARD IS WHAT COUNTS. Prove the row's statement (the work); the ties are given (YtglflmkkecephaaGreatDoorTie.lean); close each card by the builder's one call (the guide's Derived/Test/ToyasCard.lean, 'card_holds'). Laid BY PROGRAM, IN A SANDBOX (cutbox-door.mjs). By AI agents, Wed Nov 11 2026. No macro, syntax, notation, axiom, sorry.
-/
import Derived.Test.YtglflmkkecephaaGreatDoorRows
import GoSem.ClaimSeven
namespace Go.Proofs.YtglflmkkecephaaGreatDoor
namespace Rows

/-- THE TIED CARD OF 'syntagmlaw06.MiniApart'. -/
def miniApartCard : Claim7 := { stood := { row := miniApartRow, standIns := [], harness := (true, "786eb85f3ac3eb4818157bf0d5a1d8db3c08b9fdf7e12f572242034967c370e7"), looks := true }, kinds := [], alts := [], laidByText := true, laidKinds := [.data, .data, .data], laidTests := true, laidLooks := .later }
def MiniApartCardSaid : Prop := Claim7.holds Tryz.pinned (.plain (OpenSpec.ofChange miniApartSpec)) miniApartCard

/-- THE TIED CARD OF 'syntagmlaw07.MunchPicks'. -/
def munchPicksCard : Claim7 := { stood := { row := munchPicksRow, standIns := [], harness := (true, "786eb85f3ac3eb4818157bf0d5a1d8db3c08b9fdf7e12f572242034967c370e7"), looks := true }, kinds := [], alts := [], laidByText := true, laidKinds := [.data, .data, .data], laidTests := true, laidLooks := .later }
def MunchPicksCardSaid : Prop := Claim7.holds Tryz.pinned (.plain (OpenSpec.ofChange munchPicksSpec)) munchPicksCard

/-- THE TIED CARD OF 'syntagmlaw07.MunchCuts'. -/
def munchCutsCard : Claim7 := { stood := { row := munchCutsRow, standIns := [], harness := (true, "786eb85f3ac3eb4818157bf0d5a1d8db3c08b9fdf7e12f572242034967c370e7"), looks := true }, kinds := [], alts := [], laidByText := true, laidKinds := [.data, .data, .data], laidTests := true, laidLooks := .later }
def MunchCutsCardSaid : Prop := Claim7.holds Tryz.pinned (.plain (OpenSpec.ofChange munchCutsSpec)) munchCutsCard

/-- THE TIED CARD OF 'syntagmlaw07.MunchWins'. -/
def munchWinsCard : Claim7 := { stood := { row := munchWinsRow, standIns := [], harness := (true, "786eb85f3ac3eb4818157bf0d5a1d8db3c08b9fdf7e12f572242034967c370e7"), looks := true }, kinds := [], alts := [], laidByText := true, laidKinds := [.data, .data, .data], laidTests := true, laidLooks := .later }
def MunchWinsCardSaid : Prop := Claim7.holds Tryz.pinned (.plain (OpenSpec.ofChange munchWinsSpec)) munchWinsCard

/-- THE TIED CARD OF 'syntagmlaw07.MunchFewer'. -/
def munchFewerCard : Claim7 := { stood := { row := munchFewerRow, standIns := [], harness := (true, "786eb85f3ac3eb4818157bf0d5a1d8db3c08b9fdf7e12f572242034967c370e7"), looks := true }, kinds := [], alts := [], laidByText := true, laidKinds := [.data, .data, .data], laidTests := true, laidLooks := .later }
def MunchFewerCardSaid : Prop := Claim7.holds Tryz.pinned (.plain (OpenSpec.ofChange munchFewerSpec)) munchFewerCard

/-- THE TIED CARD OF 'syntagmlaw07.MunchLongest'. -/
def munchLongestCard : Claim7 := { stood := { row := munchLongestRow, standIns := [], harness := (true, "786eb85f3ac3eb4818157bf0d5a1d8db3c08b9fdf7e12f572242034967c370e7"), looks := true }, kinds := [], alts := [], laidByText := true, laidKinds := [.data, .data, .data], laidTests := true, laidLooks := .later }
def MunchLongestCardSaid : Prop := Claim7.holds Tryz.pinned (.plain (OpenSpec.ofChange munchLongestSpec)) munchLongestCard

/-- THE SECOND FORM's CARD OF 'syntagmlaw06.MiniApart'. -/
def miniApartUptoCard : Claim7 := { stood := { row := miniApartUptoRow, standIns := [], harness := (true, "786eb85f3ac3eb4818157bf0d5a1d8db3c08b9fdf7e12f572242034967c370e7"), looks := true }, kinds := [], alts := [], laidByText := true, laidKinds := [.data, .data, .data], laidTests := true, laidLooks := .later }
def MiniApartUptoCardSaid : Prop := Claim7.holds Tryz.pinned (.plain (OpenSpec.upto miniApartSpec)) miniApartUptoCard

/-- THE SECOND FORM's CARD OF 'syntagmlaw07.MunchPicks'. -/
def munchPicksUptoCard : Claim7 := { stood := { row := munchPicksUptoRow, standIns := [], harness := (true, "786eb85f3ac3eb4818157bf0d5a1d8db3c08b9fdf7e12f572242034967c370e7"), looks := true }, kinds := [], alts := [], laidByText := true, laidKinds := [.data, .data, .data], laidTests := true, laidLooks := .later }
def MunchPicksUptoCardSaid : Prop := Claim7.holds Tryz.pinned (.plain (OpenSpec.upto munchPicksSpec)) munchPicksUptoCard

/-- THE SECOND FORM's CARD OF 'syntagmlaw07.MunchCuts'. -/
def munchCutsUptoCard : Claim7 := { stood := { row := munchCutsUptoRow, standIns := [], harness := (true, "786eb85f3ac3eb4818157bf0d5a1d8db3c08b9fdf7e12f572242034967c370e7"), looks := true }, kinds := [], alts := [], laidByText := true, laidKinds := [.data, .data, .data], laidTests := true, laidLooks := .later }
def MunchCutsUptoCardSaid : Prop := Claim7.holds Tryz.pinned (.plain (OpenSpec.upto munchCutsSpec)) munchCutsUptoCard

/-- THE SECOND FORM's CARD OF 'syntagmlaw07.MunchWins'. -/
def munchWinsUptoCard : Claim7 := { stood := { row := munchWinsUptoRow, standIns := [], harness := (true, "786eb85f3ac3eb4818157bf0d5a1d8db3c08b9fdf7e12f572242034967c370e7"), looks := true }, kinds := [], alts := [], laidByText := true, laidKinds := [.data, .data, .data], laidTests := true, laidLooks := .later }
def MunchWinsUptoCardSaid : Prop := Claim7.holds Tryz.pinned (.plain (OpenSpec.upto munchWinsSpec)) munchWinsUptoCard

/-- THE SECOND FORM's CARD OF 'syntagmlaw07.MunchFewer'. -/
def munchFewerUptoCard : Claim7 := { stood := { row := munchFewerUptoRow, standIns := [], harness := (true, "786eb85f3ac3eb4818157bf0d5a1d8db3c08b9fdf7e12f572242034967c370e7"), looks := true }, kinds := [], alts := [], laidByText := true, laidKinds := [.data, .data, .data], laidTests := true, laidLooks := .later }
def MunchFewerUptoCardSaid : Prop := Claim7.holds Tryz.pinned (.plain (OpenSpec.upto munchFewerSpec)) munchFewerUptoCard

/-- THE SECOND FORM's CARD OF 'syntagmlaw07.MunchLongest'. -/
def munchLongestUptoCard : Claim7 := { stood := { row := munchLongestUptoRow, standIns := [], harness := (true, "786eb85f3ac3eb4818157bf0d5a1d8db3c08b9fdf7e12f572242034967c370e7"), looks := true }, kinds := [], alts := [], laidByText := true, laidKinds := [.data, .data, .data], laidTests := true, laidLooks := .later }
def MunchLongestUptoCardSaid : Prop := Claim7.holds Tryz.pinned (.plain (OpenSpec.upto munchLongestSpec)) munchLongestUptoCard
end Rows
end Go.Proofs.YtglflmkkecephaaGreatDoor
