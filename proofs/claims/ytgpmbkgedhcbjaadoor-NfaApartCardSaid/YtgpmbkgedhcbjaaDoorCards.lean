/-
  DERIVED. GIVEN WITH THE SEED: THE CARDS: each row of YtgpmbkgedhcbjaaDoorRows.lean that lists a variable, with what it lists TIED to the program's text (the seventh form; the later family's looks); each row that meets fmt, with fmt's text TOLD by the authors' own Lean function (tested against real Go, not proved from fmt's source: count such statements apart). THE CARD IS WHAT COUNTS. Prove the row's statement (the work); the ties are given (YtgpmbkgedhcbjaaDoorTie.lean); close each card by the builder's one call (the guide's Derived/Test/ToyasCard.lean, 'card_holds'). Laid BY PROGRAM, IN A SANDBOX (cutbox-door.mjs). By AI agents, Wed Nov 11 2026. No macro, syntax, notation, axiom, sorry.
-/
import Derived.Test.YtgpmbkgedhcbjaaDoorRows
import GoSem.ClaimSeven
namespace Go.Proofs.YtgpmbkgedhcbjaaDoor
namespace Rows

/-- THE TIED CARD OF 'syntagmlaw04.NfaApart'. -/
def nfaApartCard : Claim7 := { stood := { row := nfaApartRow, standIns := [], harness := (true, "09ac08db272752c99de0d02cf757df6805a9e499a1c9b741aae0e9ece1f73509"), looks := true }, kinds := [], alts := [], laidByText := true, laidKinds := [.data], laidTests := true, laidLooks := .later }
def NfaApartCardSaid : Prop := Claim7.holds Tryd.pinned (.plain (OpenSpec.ofChange nfaApartSpec)) nfaApartCard

/-- THE SECOND FORM's CARD OF 'syntagmlaw04.NfaApart'. -/
def nfaApartUptoCard : Claim7 := { stood := { row := nfaApartUptoRow, standIns := [], harness := (true, "09ac08db272752c99de0d02cf757df6805a9e499a1c9b741aae0e9ece1f73509"), looks := true }, kinds := [], alts := [], laidByText := true, laidKinds := [.data], laidTests := true, laidLooks := .later }
def NfaApartUptoCardSaid : Prop := Claim7.holds Tryd.pinned (.plain (OpenSpec.upto nfaApartSpec)) nfaApartUptoCard
end Rows
end Go.Proofs.YtgpmbkgedhcbjaaDoor
