/-
  DERIVED. GIVEN WITH THE SEED: THE CARDS: each row of YtglflmkkecephaaDoorRows.lean that lists a variable, with what it lists TIED to the program's text (the seventh form; the later family's looks); each row that meets fmt, with fmt's text TOLD by the authors' own Lean function (tested against real Go, not proved from fmt's source: count such statements apart). THE CARD IS WHAT COUNTS. Prove the row's statement (the work); the ties are given (YtglflmkkecephaaDoorTie.lean); close each card by the builder's one call (the guide's Derived/Test/ToyasCard.lean, 'card_holds'). Laid BY PROGRAM, IN A SANDBOX (cutbox-door.mjs). By AI agents, Wed Nov 11 2026. No macro, syntax, notation, axiom, sorry.
-/
import Derived.Test.YtglflmkkecephaaDoorRows
import GoSem.ClaimSeven
namespace Go.Proofs.YtglflmkkecephaaDoor
namespace Rows

/-- THE TIED CARD OF 'syntagmlaw05.DfaParts'. -/
def dfaPartsCard : Claim7 := { stood := { row := dfaPartsRow, standIns := [], harness := (true, "ab0a1a440ac2e5796a21f29108ac5380e7a5a4cf3840eac72142f062180b188d"), looks := true }, kinds := [], alts := [], laidByText := true, laidKinds := [.data, .data, .data], laidTests := true, laidLooks := .later }
def DfaPartsCardSaid : Prop := Claim7.holds Tryd.pinned (.plain (OpenSpec.ofChange dfaPartsSpec)) dfaPartsCard

/-- THE TIED CARD OF 'syntagmlaw05.DfaClasses'. -/
def dfaClassesCard : Claim7 := { stood := { row := dfaClassesRow, standIns := [], harness := (true, "ab0a1a440ac2e5796a21f29108ac5380e7a5a4cf3840eac72142f062180b188d"), looks := true }, kinds := [], alts := [], laidByText := true, laidKinds := [.data, .data, .data], laidTests := true, laidLooks := .later }
def DfaClassesCardSaid : Prop := Claim7.holds Tryd.pinned (.plain (OpenSpec.ofChange dfaClassesSpec)) dfaClassesCard

/-- THE TIED CARD OF 'syntagmlaw05.DfaOnce'. -/
def dfaOnceCard : Claim7 := { stood := { row := dfaOnceRow, standIns := [], harness := (true, "ab0a1a440ac2e5796a21f29108ac5380e7a5a4cf3840eac72142f062180b188d"), looks := true }, kinds := [], alts := [], laidByText := true, laidKinds := [.data, .data, .data], laidTests := true, laidLooks := .later }
def DfaOnceCardSaid : Prop := Claim7.holds Tryd.pinned (.plain (OpenSpec.ofChange dfaOnceSpec)) dfaOnceCard

/-- THE TIED CARD OF 'syntagmlaw06.MiniRuns'. -/
def miniRunsCard : Claim7 := { stood := { row := miniRunsRow, standIns := [], harness := (true, "ab0a1a440ac2e5796a21f29108ac5380e7a5a4cf3840eac72142f062180b188d"), looks := true }, kinds := [], alts := [], laidByText := true, laidKinds := [.data, .data, .data], laidTests := true, laidLooks := .later }
def MiniRunsCardSaid : Prop := Claim7.holds Tryd.pinned (.plain (OpenSpec.ofChange miniRunsSpec)) miniRunsCard

/-- THE TIED CARD OF 'syntagmlaw06.MiniNone'. -/
def miniNoneCard : Claim7 := { stood := { row := miniNoneRow, standIns := [], harness := (true, "ab0a1a440ac2e5796a21f29108ac5380e7a5a4cf3840eac72142f062180b188d"), looks := true }, kinds := [], alts := [], laidByText := true, laidKinds := [.data, .data, .data], laidTests := true, laidLooks := .later }
def MiniNoneCardSaid : Prop := Claim7.holds Tryd.pinned (.plain (OpenSpec.ofChange miniNoneSpec)) miniNoneCard

/-- THE TIED CARD OF 'syntagmlaw06.MiniOrder'. -/
def miniOrderCard : Claim7 := { stood := { row := miniOrderRow, standIns := [], harness := (true, "ab0a1a440ac2e5796a21f29108ac5380e7a5a4cf3840eac72142f062180b188d"), looks := true }, kinds := [], alts := [], laidByText := true, laidKinds := [.data, .data, .data], laidTests := true, laidLooks := .later }
def MiniOrderCardSaid : Prop := Claim7.holds Tryd.pinned (.plain (OpenSpec.ofChange miniOrderSpec)) miniOrderCard

/-- THE SECOND FORM's CARD OF 'syntagmlaw05.DfaParts'. -/
def dfaPartsUptoCard : Claim7 := { stood := { row := dfaPartsUptoRow, standIns := [], harness := (true, "ab0a1a440ac2e5796a21f29108ac5380e7a5a4cf3840eac72142f062180b188d"), looks := true }, kinds := [], alts := [], laidByText := true, laidKinds := [.data, .data, .data], laidTests := true, laidLooks := .later }
def DfaPartsUptoCardSaid : Prop := Claim7.holds Tryd.pinned (.plain (OpenSpec.upto dfaPartsSpec)) dfaPartsUptoCard

/-- THE SECOND FORM's CARD OF 'syntagmlaw05.DfaClasses'. -/
def dfaClassesUptoCard : Claim7 := { stood := { row := dfaClassesUptoRow, standIns := [], harness := (true, "ab0a1a440ac2e5796a21f29108ac5380e7a5a4cf3840eac72142f062180b188d"), looks := true }, kinds := [], alts := [], laidByText := true, laidKinds := [.data, .data, .data], laidTests := true, laidLooks := .later }
def DfaClassesUptoCardSaid : Prop := Claim7.holds Tryd.pinned (.plain (OpenSpec.upto dfaClassesSpec)) dfaClassesUptoCard

/-- THE SECOND FORM's CARD OF 'syntagmlaw05.DfaOnce'. -/
def dfaOnceUptoCard : Claim7 := { stood := { row := dfaOnceUptoRow, standIns := [], harness := (true, "ab0a1a440ac2e5796a21f29108ac5380e7a5a4cf3840eac72142f062180b188d"), looks := true }, kinds := [], alts := [], laidByText := true, laidKinds := [.data, .data, .data], laidTests := true, laidLooks := .later }
def DfaOnceUptoCardSaid : Prop := Claim7.holds Tryd.pinned (.plain (OpenSpec.upto dfaOnceSpec)) dfaOnceUptoCard

/-- THE SECOND FORM's CARD OF 'syntagmlaw06.MiniRuns'. -/
def miniRunsUptoCard : Claim7 := { stood := { row := miniRunsUptoRow, standIns := [], harness := (true, "ab0a1a440ac2e5796a21f29108ac5380e7a5a4cf3840eac72142f062180b188d"), looks := true }, kinds := [], alts := [], laidByText := true, laidKinds := [.data, .data, .data], laidTests := true, laidLooks := .later }
def MiniRunsUptoCardSaid : Prop := Claim7.holds Tryd.pinned (.plain (OpenSpec.upto miniRunsSpec)) miniRunsUptoCard

/-- THE SECOND FORM's CARD OF 'syntagmlaw06.MiniNone'. -/
def miniNoneUptoCard : Claim7 := { stood := { row := miniNoneUptoRow, standIns := [], harness := (true, "ab0a1a440ac2e5796a21f29108ac5380e7a5a4cf3840eac72142f062180b188d"), looks := true }, kinds := [], alts := [], laidByText := true, laidKinds := [.data, .data, .data], laidTests := true, laidLooks := .later }
def MiniNoneUptoCardSaid : Prop := Claim7.holds Tryd.pinned (.plain (OpenSpec.upto miniNoneSpec)) miniNoneUptoCard

/-- THE SECOND FORM's CARD OF 'syntagmlaw06.MiniOrder'. -/
def miniOrderUptoCard : Claim7 := { stood := { row := miniOrderUptoRow, standIns := [], harness := (true, "ab0a1a440ac2e5796a21f29108ac5380e7a5a4cf3840eac72142f062180b188d"), looks := true }, kinds := [], alts := [], laidByText := true, laidKinds := [.data, .data, .data], laidTests := true, laidLooks := .later }
def MiniOrderUptoCardSaid : Prop := Claim7.holds Tryd.pinned (.plain (OpenSpec.upto miniOrderSpec)) miniOrderUptoCard
end Rows
end Go.Proofs.YtglflmkkecephaaDoor
