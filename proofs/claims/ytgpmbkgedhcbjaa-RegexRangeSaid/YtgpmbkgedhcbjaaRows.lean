/-
  No cell of these rows narrows 'for every input' (looked for: loops, veiled, ifaces, maps, wideKeys, modest, calm, conditions, laid).
  DERIVED. THE GIVEN ROWS OF THIS SEAT. 10 by the template 'for every input the law returns true; each argument reads behind the call as it read before'; 0 by the template 'total and deterministic' (their statements: YtgpmbkgedhcbjaaTotals.lean).
  GIVEN WITH THE SEED: the statements are not yours to turn. If you find one false, say at which input.
  Laid BY PROGRAM, IN A SANDBOX (cutbox-rows.mjs): the forced cells as the released guide's own fill.sh prints them over the translation fe78dece4b651d15… (all of the seat's roots in one cut). By AI agents, Wed Nov 11 2026. No macro, syntax, notation, axiom, sorry.
-/
import Derived.Test.YtgpmbkgedhcbjaaChecked
import GoSem.Claim
import GoSem.ClaimJoined
import GoSem.ClaimMapViews
import Derived.JoinedTies
import Derived.KernelRfl
namespace Go.Proofs.Ytgpmbkgedhcbjaa
/- THE CELL 'sum', in the pinned program and in every row, IS THE sha256 OF THE DUMP (.gsa) THAT YtgpmbkgedhcbjaaProg.lean LOADS. Nothing in Lean hashes anything: it is a label: what it is worth is what the hold of that sum in a sandbox is worth. -/
noncomputable def Try.pinned : Pinned := { name := "ytgpmbkgedhcbjaa", sum := "fe78dece4b651d159f0b0bc43485fb6880518e2bcbb9c7289c76da177b01cfd2", checked := Try.checked }
namespace Rows
def none {H : Type} : Left H := { results := [], args := [] }

/-- 'syntagmlaw04.NfaMany': WHATEVER THE INPUT: true; the input reads as it did. -/
def nfaManySpec : ChangeSpec := { name := "nfaMany", fn := fun _ => fun
  | [d1, d2] => { results := [.lit (.bool true)], args := [d1, d2] }
  | _ => none }
def nfaManyRow : OpenClaim := { program := "ytgpmbkgedhcbjaa", sum := "fe78dece4b651d159f0b0bc43485fb6880518e2bcbb9c7289c76da177b01cfd2", func := "syntagm/syntagmlaw04.NfaMany", spec := "nfaMany", inPlace := ["internal/bytealg.IndexByteString"], unfollowed := true, recurses := true, apart := false }
def NfaManySaid : Prop := nfaManyRow.holds Try.pinned (OpenSpec.ofChange nfaManySpec)

/-- ITS FALSE NEIGHBOUR: 'it returns false'. Refute it at one input. -/
def nfaManyWrong : ChangeSpec := { name := "nfaMany", fn := fun _ => fun
  | [d1, d2] => { results := [.lit (.bool false)], args := [d1, d2] }
  | _ => none }
def NfaManyWrongFalsely : Prop := nfaManyRow.holds Try.pinned (OpenSpec.ofChange nfaManyWrong)

/-- 'syntagmlaw04.NfaSteps': WHATEVER THE INPUT: true; the input reads as it did. -/
def nfaStepsSpec : ChangeSpec := { name := "nfaSteps", fn := fun _ => fun
  | [d1, d2, d3] => { results := [.lit (.bool true)], args := [d1, d2, d3] }
  | _ => none }
def nfaStepsRow : OpenClaim := { program := "ytgpmbkgedhcbjaa", sum := "fe78dece4b651d159f0b0bc43485fb6880518e2bcbb9c7289c76da177b01cfd2", func := "syntagm/syntagmlaw04.NfaSteps", spec := "nfaSteps", inPlace := ["internal/bytealg.IndexByteString"], unfollowed := true, recurses := true, apart := false }
def NfaStepsSaid : Prop := nfaStepsRow.holds Try.pinned (OpenSpec.ofChange nfaStepsSpec)

/-- ITS FALSE NEIGHBOUR: 'it returns false'. Refute it at one input. -/
def nfaStepsWrong : ChangeSpec := { name := "nfaSteps", fn := fun _ => fun
  | [d1, d2, d3] => { results := [.lit (.bool false)], args := [d1, d2, d3] }
  | _ => none }
def NfaStepsWrongFalsely : Prop := nfaStepsRow.holds Try.pinned (OpenSpec.ofChange nfaStepsWrong)

/-- 'syntagmlaw04.NfaNothing': WHATEVER THE INPUT: true; the input reads as it did. -/
def nfaNothingSpec : ChangeSpec := { name := "nfaNothing", fn := fun _ => fun
  | [d1, d2, d3] => { results := [.lit (.bool true)], args := [d1, d2, d3] }
  | _ => none }
def nfaNothingRow : OpenClaim := { program := "ytgpmbkgedhcbjaa", sum := "fe78dece4b651d159f0b0bc43485fb6880518e2bcbb9c7289c76da177b01cfd2", func := "syntagm/syntagmlaw04.NfaNothing", spec := "nfaNothing", inPlace := ["internal/bytealg.IndexByteString"], unfollowed := true, recurses := true, apart := false }
def NfaNothingSaid : Prop := nfaNothingRow.holds Try.pinned (OpenSpec.ofChange nfaNothingSpec)

/-- ITS FALSE NEIGHBOUR: 'it returns false'. Refute it at one input. -/
def nfaNothingWrong : ChangeSpec := { name := "nfaNothing", fn := fun _ => fun
  | [d1, d2, d3] => { results := [.lit (.bool false)], args := [d1, d2, d3] }
  | _ => none }
def NfaNothingWrongFalsely : Prop := nfaNothingRow.holds Try.pinned (OpenSpec.ofChange nfaNothingWrong)

/-- 'syntagmlaw04.NfaTwice': WHATEVER THE INPUT: true; the input reads as it did. -/
def nfaTwiceSpec : ChangeSpec := { name := "nfaTwice", fn := fun _ => fun
  | [d1, d2] => { results := [.lit (.bool true)], args := [d1, d2] }
  | _ => none }
def nfaTwiceRow : OpenClaim := { program := "ytgpmbkgedhcbjaa", sum := "fe78dece4b651d159f0b0bc43485fb6880518e2bcbb9c7289c76da177b01cfd2", func := "syntagm/syntagmlaw04.NfaTwice", spec := "nfaTwice", inPlace := ["internal/bytealg.IndexByteString"], unfollowed := true, recurses := true, apart := false }
def NfaTwiceSaid : Prop := nfaTwiceRow.holds Try.pinned (OpenSpec.ofChange nfaTwiceSpec)

/-- ITS FALSE NEIGHBOUR: 'it returns false'. Refute it at one input. -/
def nfaTwiceWrong : ChangeSpec := { name := "nfaTwice", fn := fun _ => fun
  | [d1, d2] => { results := [.lit (.bool false)], args := [d1, d2] }
  | _ => none }
def NfaTwiceWrongFalsely : Prop := nfaTwiceRow.holds Try.pinned (OpenSpec.ofChange nfaTwiceWrong)

/-- 'syntagmlaw03.RegexParses': WHATEVER THE INPUT: true; the input reads as it did. -/
def regexParsesSpec : ChangeSpec := { name := "regexParses", fn := fun _ => fun
  | [d1, d2] => { results := [.lit (.bool true)], args := [d1, d2] }
  | _ => none }
def regexParsesRow : OpenClaim := { program := "ytgpmbkgedhcbjaa", sum := "fe78dece4b651d159f0b0bc43485fb6880518e2bcbb9c7289c76da177b01cfd2", func := "syntagm/syntagmlaw03.RegexParses", spec := "regexParses", inPlace := ["internal/bytealg.IndexByteString", "internal/abi.NoEscape", "internal/bytealg.MakeNoZero"], unfollowed := true, recurses := true, apart := false }
def RegexParsesSaid : Prop := regexParsesRow.holds Try.pinned (OpenSpec.ofChange regexParsesSpec)

/-- ITS FALSE NEIGHBOUR: 'it returns false'. Refute it at one input. -/
def regexParsesWrong : ChangeSpec := { name := "regexParses", fn := fun _ => fun
  | [d1, d2] => { results := [.lit (.bool false)], args := [d1, d2] }
  | _ => none }
def RegexParsesWrongFalsely : Prop := regexParsesRow.holds Try.pinned (OpenSpec.ofChange regexParsesWrong)

/-- 'syntagmlaw03.RegexShows': WHATEVER THE INPUT: true; the input reads as it did. -/
def regexShowsSpec : ChangeSpec := { name := "regexShows", fn := fun _ => fun
  | [d1, d2] => { results := [.lit (.bool true)], args := [d1, d2] }
  | _ => none }
def regexShowsRow : OpenClaim := { program := "ytgpmbkgedhcbjaa", sum := "fe78dece4b651d159f0b0bc43485fb6880518e2bcbb9c7289c76da177b01cfd2", func := "syntagm/syntagmlaw03.RegexShows", spec := "regexShows", inPlace := ["internal/bytealg.IndexByteString", "internal/abi.NoEscape", "internal/bytealg.MakeNoZero"], unfollowed := true, recurses := true, apart := false }
def RegexShowsSaid : Prop := regexShowsRow.holds Try.pinned (OpenSpec.ofChange regexShowsSpec)

/-- ITS FALSE NEIGHBOUR: 'it returns false'. Refute it at one input. -/
def regexShowsWrong : ChangeSpec := { name := "regexShows", fn := fun _ => fun
  | [d1, d2] => { results := [.lit (.bool false)], args := [d1, d2] }
  | _ => none }
def RegexShowsWrongFalsely : Prop := regexShowsRow.holds Try.pinned (OpenSpec.ofChange regexShowsWrong)

/-- 'syntagmlaw03.RegexWays': WHATEVER THE INPUT: true; the input reads as it did. -/
def regexWaysSpec : ChangeSpec := { name := "regexWays", fn := fun _ => fun
  | [d1, d2, d3, d4] => { results := [.lit (.bool true)], args := [d1, d2, d3, d4] }
  | _ => none }
def regexWaysRow : OpenClaim := { program := "ytgpmbkgedhcbjaa", sum := "fe78dece4b651d159f0b0bc43485fb6880518e2bcbb9c7289c76da177b01cfd2", func := "syntagm/syntagmlaw03.RegexWays", spec := "regexWays", inPlace := ["internal/bytealg.IndexByteString", "internal/abi.NoEscape", "internal/bytealg.MakeNoZero"], unfollowed := true, recurses := true, apart := false }
def RegexWaysSaid : Prop := regexWaysRow.holds Try.pinned (OpenSpec.ofChange regexWaysSpec)

/-- ITS FALSE NEIGHBOUR: 'it returns false'. Refute it at one input. -/
def regexWaysWrong : ChangeSpec := { name := "regexWays", fn := fun _ => fun
  | [d1, d2, d3, d4] => { results := [.lit (.bool false)], args := [d1, d2, d3, d4] }
  | _ => none }
def RegexWaysWrongFalsely : Prop := regexWaysRow.holds Try.pinned (OpenSpec.ofChange regexWaysWrong)

/-- 'syntagmlaw03.RegexRange': WHATEVER THE INPUT: true; the input reads as it did. -/
def regexRangeSpec : ChangeSpec := { name := "regexRange", fn := fun _ => fun
  | [d1, d2, d3] => { results := [.lit (.bool true)], args := [d1, d2, d3] }
  | _ => none }
def regexRangeRow : OpenClaim := { program := "ytgpmbkgedhcbjaa", sum := "fe78dece4b651d159f0b0bc43485fb6880518e2bcbb9c7289c76da177b01cfd2", func := "syntagm/syntagmlaw03.RegexRange", spec := "regexRange", inPlace := ["internal/bytealg.IndexByteString", "internal/abi.NoEscape", "internal/bytealg.MakeNoZero"], unfollowed := true, recurses := true, apart := false }
def RegexRangeSaid : Prop := regexRangeRow.holds Try.pinned (OpenSpec.ofChange regexRangeSpec)

/-- ITS FALSE NEIGHBOUR: 'it returns false'. Refute it at one input. -/
def regexRangeWrong : ChangeSpec := { name := "regexRange", fn := fun _ => fun
  | [d1, d2, d3] => { results := [.lit (.bool false)], args := [d1, d2, d3] }
  | _ => none }
def RegexRangeWrongFalsely : Prop := regexRangeRow.holds Try.pinned (OpenSpec.ofChange regexRangeWrong)

/-- 'syntagmlaw03.RegexSigns': WHATEVER THE INPUT: true; the input reads as it did. -/
def regexSignsSpec : ChangeSpec := { name := "regexSigns", fn := fun _ => fun
  | [d1, d2] => { results := [.lit (.bool true)], args := [d1, d2] }
  | _ => none }
def regexSignsRow : OpenClaim := { program := "ytgpmbkgedhcbjaa", sum := "fe78dece4b651d159f0b0bc43485fb6880518e2bcbb9c7289c76da177b01cfd2", func := "syntagm/syntagmlaw03.RegexSigns", spec := "regexSigns", inPlace := ["internal/bytealg.IndexByteString", "internal/abi.NoEscape", "internal/bytealg.MakeNoZero"], unfollowed := true, recurses := true, apart := false }
def RegexSignsSaid : Prop := regexSignsRow.holds Try.pinned (OpenSpec.ofChange regexSignsSpec)

/-- ITS FALSE NEIGHBOUR: 'it returns false'. Refute it at one input. -/
def regexSignsWrong : ChangeSpec := { name := "regexSigns", fn := fun _ => fun
  | [d1, d2] => { results := [.lit (.bool false)], args := [d1, d2] }
  | _ => none }
def RegexSignsWrongFalsely : Prop := regexSignsRow.holds Try.pinned (OpenSpec.ofChange regexSignsWrong)

/-- 'syntagmlaw03.RegexNothing': WHATEVER THE INPUT: true; the input reads as it did. -/
def regexNothingSpec : ChangeSpec := { name := "regexNothing", fn := fun _ => fun
  | [d1, d2] => { results := [.lit (.bool true)], args := [d1, d2] }
  | _ => none }
def regexNothingRow : OpenClaim := { program := "ytgpmbkgedhcbjaa", sum := "fe78dece4b651d159f0b0bc43485fb6880518e2bcbb9c7289c76da177b01cfd2", func := "syntagm/syntagmlaw03.RegexNothing", spec := "regexNothing", inPlace := ["internal/bytealg.IndexByteString", "internal/abi.NoEscape", "internal/bytealg.MakeNoZero"], unfollowed := true, recurses := true, apart := false }
def RegexNothingSaid : Prop := regexNothingRow.holds Try.pinned (OpenSpec.ofChange regexNothingSpec)

/-- ITS FALSE NEIGHBOUR: 'it returns false'. Refute it at one input. -/
def regexNothingWrong : ChangeSpec := { name := "regexNothing", fn := fun _ => fun
  | [d1, d2] => { results := [.lit (.bool false)], args := [d1, d2] }
  | _ => none }
def RegexNothingWrongFalsely : Prop := regexNothingRow.holds Try.pinned (OpenSpec.ofChange regexNothingWrong)

/- THE SECOND FORM. 'bulk': how many values and letters a reading holds, each counted each time it is reached (what is shared counts as often as it is met; a slice's spare places count too). A statement '..UptoSaid' is the law's where the arguments, and the package variables that the reading takes, are together of bulk at most 1048576: NARROWER than '..Said'. Prove '..Said' where nothing that the law and all that it calls make is longer than what came in: it says more and counts as full. Else prove '..UptoSaid'. A law counts once. -/
mutual
def uptoBulk {H : Type} : DataW H → Nat
  | .lit (.string bytes) => bytes.length + 1
  | .lit _ => 1
  | .nil => 1
  | .ptr d => uptoBulk d + 1
  | .slice elems spare => uptoBulkAll elems + uptoBulkAll spare + 1
  | .agg parts => uptoBulkAll parts + 1
  | .iface _ d => uptoBulk d + 1
  | .map entries => uptoBulkEntries entries + 1
  | .held _ => 1
def uptoBulkAll {H : Type} : List (DataW H) → Nat
  | [] => 0
  | d :: r => uptoBulk d + uptoBulkAll r
def uptoBulkEntries {H : Type} : List (Lit × DataW H) → Nat
  | [] => 0
  | x :: r => uptoBulkEntry x + uptoBulkEntries r
def uptoBulkEntry {H : Type} : Lit × DataW H → Nat
  | (.string bytes, d) => bytes.length + uptoBulk d + 1
  | (_, d) => uptoBulk d + 1
 end
def uptoSmall : (H : Type) → List (DataW H) → Bool := fun _ ds => decide (uptoBulkAll ds ≤ 1048576)
def OpenSpec.upto (s : _root_.Go.ChangeSpec) : _root_.Go.OpenSpec := { _root_.Go.OpenSpec.ofChange s with cond := some uptoSmall }

/-- 'syntagmlaw04.NfaMany', WHERE WHAT IT READS IS OF BULK AT MOST 1048576: true; the input reads as it did. -/
def nfaManyUptoRow : OpenClaim := { program := "ytgpmbkgedhcbjaa", sum := "fe78dece4b651d159f0b0bc43485fb6880518e2bcbb9c7289c76da177b01cfd2", func := "syntagm/syntagmlaw04.NfaMany", spec := "nfaMany", inPlace := ["internal/bytealg.IndexByteString"], unfollowed := true, recurses := true, apart := false, narrowed := true }
def NfaManyUptoSaid : Prop := nfaManyUptoRow.holds Try.pinned (OpenSpec.upto nfaManySpec)

/-- 'syntagmlaw04.NfaSteps', WHERE WHAT IT READS IS OF BULK AT MOST 1048576: true; the input reads as it did. -/
def nfaStepsUptoRow : OpenClaim := { program := "ytgpmbkgedhcbjaa", sum := "fe78dece4b651d159f0b0bc43485fb6880518e2bcbb9c7289c76da177b01cfd2", func := "syntagm/syntagmlaw04.NfaSteps", spec := "nfaSteps", inPlace := ["internal/bytealg.IndexByteString"], unfollowed := true, recurses := true, apart := false, narrowed := true }
def NfaStepsUptoSaid : Prop := nfaStepsUptoRow.holds Try.pinned (OpenSpec.upto nfaStepsSpec)

/-- 'syntagmlaw04.NfaNothing', WHERE WHAT IT READS IS OF BULK AT MOST 1048576: true; the input reads as it did. -/
def nfaNothingUptoRow : OpenClaim := { program := "ytgpmbkgedhcbjaa", sum := "fe78dece4b651d159f0b0bc43485fb6880518e2bcbb9c7289c76da177b01cfd2", func := "syntagm/syntagmlaw04.NfaNothing", spec := "nfaNothing", inPlace := ["internal/bytealg.IndexByteString"], unfollowed := true, recurses := true, apart := false, narrowed := true }
def NfaNothingUptoSaid : Prop := nfaNothingUptoRow.holds Try.pinned (OpenSpec.upto nfaNothingSpec)

/-- 'syntagmlaw04.NfaTwice', WHERE WHAT IT READS IS OF BULK AT MOST 1048576: true; the input reads as it did. -/
def nfaTwiceUptoRow : OpenClaim := { program := "ytgpmbkgedhcbjaa", sum := "fe78dece4b651d159f0b0bc43485fb6880518e2bcbb9c7289c76da177b01cfd2", func := "syntagm/syntagmlaw04.NfaTwice", spec := "nfaTwice", inPlace := ["internal/bytealg.IndexByteString"], unfollowed := true, recurses := true, apart := false, narrowed := true }
def NfaTwiceUptoSaid : Prop := nfaTwiceUptoRow.holds Try.pinned (OpenSpec.upto nfaTwiceSpec)

/-- 'syntagmlaw03.RegexParses', WHERE WHAT IT READS IS OF BULK AT MOST 1048576: true; the input reads as it did. -/
def regexParsesUptoRow : OpenClaim := { program := "ytgpmbkgedhcbjaa", sum := "fe78dece4b651d159f0b0bc43485fb6880518e2bcbb9c7289c76da177b01cfd2", func := "syntagm/syntagmlaw03.RegexParses", spec := "regexParses", inPlace := ["internal/bytealg.IndexByteString", "internal/abi.NoEscape", "internal/bytealg.MakeNoZero"], unfollowed := true, recurses := true, apart := false, narrowed := true }
def RegexParsesUptoSaid : Prop := regexParsesUptoRow.holds Try.pinned (OpenSpec.upto regexParsesSpec)

/-- 'syntagmlaw03.RegexShows', WHERE WHAT IT READS IS OF BULK AT MOST 1048576: true; the input reads as it did. -/
def regexShowsUptoRow : OpenClaim := { program := "ytgpmbkgedhcbjaa", sum := "fe78dece4b651d159f0b0bc43485fb6880518e2bcbb9c7289c76da177b01cfd2", func := "syntagm/syntagmlaw03.RegexShows", spec := "regexShows", inPlace := ["internal/bytealg.IndexByteString", "internal/abi.NoEscape", "internal/bytealg.MakeNoZero"], unfollowed := true, recurses := true, apart := false, narrowed := true }
def RegexShowsUptoSaid : Prop := regexShowsUptoRow.holds Try.pinned (OpenSpec.upto regexShowsSpec)

/-- 'syntagmlaw03.RegexWays', WHERE WHAT IT READS IS OF BULK AT MOST 1048576: true; the input reads as it did. -/
def regexWaysUptoRow : OpenClaim := { program := "ytgpmbkgedhcbjaa", sum := "fe78dece4b651d159f0b0bc43485fb6880518e2bcbb9c7289c76da177b01cfd2", func := "syntagm/syntagmlaw03.RegexWays", spec := "regexWays", inPlace := ["internal/bytealg.IndexByteString", "internal/abi.NoEscape", "internal/bytealg.MakeNoZero"], unfollowed := true, recurses := true, apart := false, narrowed := true }
def RegexWaysUptoSaid : Prop := regexWaysUptoRow.holds Try.pinned (OpenSpec.upto regexWaysSpec)

/-- 'syntagmlaw03.RegexRange', WHERE WHAT IT READS IS OF BULK AT MOST 1048576: true; the input reads as it did. -/
def regexRangeUptoRow : OpenClaim := { program := "ytgpmbkgedhcbjaa", sum := "fe78dece4b651d159f0b0bc43485fb6880518e2bcbb9c7289c76da177b01cfd2", func := "syntagm/syntagmlaw03.RegexRange", spec := "regexRange", inPlace := ["internal/bytealg.IndexByteString", "internal/abi.NoEscape", "internal/bytealg.MakeNoZero"], unfollowed := true, recurses := true, apart := false, narrowed := true }
def RegexRangeUptoSaid : Prop := regexRangeUptoRow.holds Try.pinned (OpenSpec.upto regexRangeSpec)

/-- 'syntagmlaw03.RegexSigns', WHERE WHAT IT READS IS OF BULK AT MOST 1048576: true; the input reads as it did. -/
def regexSignsUptoRow : OpenClaim := { program := "ytgpmbkgedhcbjaa", sum := "fe78dece4b651d159f0b0bc43485fb6880518e2bcbb9c7289c76da177b01cfd2", func := "syntagm/syntagmlaw03.RegexSigns", spec := "regexSigns", inPlace := ["internal/bytealg.IndexByteString", "internal/abi.NoEscape", "internal/bytealg.MakeNoZero"], unfollowed := true, recurses := true, apart := false, narrowed := true }
def RegexSignsUptoSaid : Prop := regexSignsUptoRow.holds Try.pinned (OpenSpec.upto regexSignsSpec)

/-- 'syntagmlaw03.RegexNothing', WHERE WHAT IT READS IS OF BULK AT MOST 1048576: true; the input reads as it did. -/
def regexNothingUptoRow : OpenClaim := { program := "ytgpmbkgedhcbjaa", sum := "fe78dece4b651d159f0b0bc43485fb6880518e2bcbb9c7289c76da177b01cfd2", func := "syntagm/syntagmlaw03.RegexNothing", spec := "regexNothing", inPlace := ["internal/bytealg.IndexByteString", "internal/abi.NoEscape", "internal/bytealg.MakeNoZero"], unfollowed := true, recurses := true, apart := false, narrowed := true }
def RegexNothingUptoSaid : Prop := regexNothingUptoRow.holds Try.pinned (OpenSpec.upto regexNothingSpec)

end Rows
end Go.Proofs.Ytgpmbkgedhcbjaa
