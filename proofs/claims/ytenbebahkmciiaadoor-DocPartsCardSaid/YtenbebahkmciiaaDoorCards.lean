/-
  DERIVED. GIVEN WITH THE SEED: THE CARDS: each row of YtenbebahkmciiaaDoorRows.lean that lists a variable, with what it lists TIED to the program's text (the seventh form; the later family's looks); each row that meets fmt, with fmt's text TOLD by the authors' own Lean function (tested against real Go, not proved from fmt's source: count such statements apart). THE CARD IS WHAT COUNTS. Prove the row's statement (the work); the ties are given (YtenbebahkmciiaaDoorTie.lean); close each card by the builder's one call (the guide's Derived/Test/ToyasCard.lean, 'card_holds'). Laid BY PROGRAM, IN A SANDBOX (cutbox-door.mjs). By AI agents, Wed Nov 11 2026. No macro, syntax, notation, axiom, sorry.
-/
import Derived.Test.YtenbebahkmciiaaDoorRows
import GoSem.ClaimSeven
namespace Go.Proofs.YtenbebahkmciiaaDoor
namespace Rows

/-- THE TIED CARD OF 'syntagmlaw21.DocPuts'. -/
def docPutsCard : Claim7 := { stood := { row := docPutsRow, standIns := [], harness := (true, "7407dafe9d4e992cf7d0c53dcc95b9c05ace2b3e3307cb493855ae8c976ee034"), looks := false }, kinds := [], alts := [], laidByText := true, laidKinds := [.data], laidTests := true, laidLooks := .later }
def DocPutsCardSaid : Prop := Claim7.holds Tryd.pinned (.plain (OpenSpec.ofChange docPutsSpec)) docPutsCard

/-- THE TIED CARD OF 'syntagmlaw21.DocParts'. -/
def docPartsCard : Claim7 := { stood := { row := docPartsRow, standIns := [], harness := (true, "7407dafe9d4e992cf7d0c53dcc95b9c05ace2b3e3307cb493855ae8c976ee034"), looks := false }, kinds := [], alts := [], laidByText := true, laidKinds := [.data], laidTests := true, laidLooks := .later }
def DocPartsCardSaid : Prop := Claim7.holds Tryd.pinned (.plain (OpenSpec.ofChange docPartsSpec)) docPartsCard

/-- THE SECOND FORM's CARD OF 'syntagmlaw21.DocPuts'. -/
def docPutsUptoCard : Claim7 := { stood := { row := docPutsUptoRow, standIns := [], harness := (true, "7407dafe9d4e992cf7d0c53dcc95b9c05ace2b3e3307cb493855ae8c976ee034"), looks := false }, kinds := [], alts := [], laidByText := true, laidKinds := [.data], laidTests := true, laidLooks := .later }
def DocPutsUptoCardSaid : Prop := Claim7.holds Tryd.pinned (.plain (OpenSpec.upto docPutsSpec)) docPutsUptoCard

/-- THE SECOND FORM's CARD OF 'syntagmlaw21.DocParts'. -/
def docPartsUptoCard : Claim7 := { stood := { row := docPartsUptoRow, standIns := [], harness := (true, "7407dafe9d4e992cf7d0c53dcc95b9c05ace2b3e3307cb493855ae8c976ee034"), looks := false }, kinds := [], alts := [], laidByText := true, laidKinds := [.data], laidTests := true, laidLooks := .later }
def DocPartsUptoCardSaid : Prop := Claim7.holds Tryd.pinned (.plain (OpenSpec.upto docPartsSpec)) docPartsUptoCard
end Rows
end Go.Proofs.YtenbebahkmciiaaDoor
