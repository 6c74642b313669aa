/-
  NARROWER THAN 'FOR EVERY INPUT', by the rows' own cells (each row's printed sentence says how): MiniApart: laid · MunchPicks: laid · MunchCuts: laid · MunchWins: laid · MunchFewer: laid · MunchLongest: laid.
  DERIVED. THE GIVEN ROWS OF THIS SEAT. 6 by the template 'for every input the law returns true; each argument reads behind the call as it read before'; 0 by the template 'total and deterministic' (their statements: YtglflmkkecephaaGreatDoorTotals.lean).
  GIVEN WITH THE SEED: the statements are not yours to turn. If you find one false, say at which input.
  Laid BY PROGRAM, IN A SANDBOX (cutbox-rows.mjs): the forced cells as the released guide's own fill.sh prints them over the translation 0455d5488180a2ab… (all of the seat's roots in one cut). By AI agents, Wed Nov 11 2026. No macro, syntax, notation, axiom, sorry.
-/
import Derived.Test.YtglflmkkecephaaGreatDoorChecked
import GoSem.Claim
import GoSem.ClaimJoined
import GoSem.ClaimMapViews
import Derived.JoinedTies
import Derived.KernelRfl
namespace Go.Proofs.YtglflmkkecephaaGreatDoor
/- THE CELL 'sum', in the pinned program and in every row, IS THE sha256 OF THE DUMP (.gsa) THAT YtglflmkkecephaaGreatDoorProg.lean LOADS. Nothing in Lean hashes anything: it is a label: what it is worth is what the hold of that sum in a sandbox is worth. -/
noncomputable def Tryz.pinned : Pinned := { name := "ytglflmkkecephaagreatdoor", sum := "0455d5488180a2ab9e727be48167de943de338f76f88b62a14507327345fe385", checked := Tryz.checked }
namespace Rows
def none {H : Type} : Left H := { results := [], args := [] }

/- WHAT THE LISTED PACKAGE-LEVEL VARIABLES READ AS WHEN THE CALL BEGINS. Each datum BY PROGRAM (the guide's laid-datum.mjs) off the statement by which the dump's own 'gosem.cut.vars' lays the variable. In a bare row this is a premise. The card (YtglflmkkecephaaGreatDoorCards.lean) ties it to the program's text. -/
def laid_math_bits_deBruijn32tab {H : Type} : DataW H := .agg [.lit (.int .u8 0), .lit (.int .u8 1), .lit (.int .u8 28), .lit (.int .u8 2), .lit (.int .u8 29), .lit (.int .u8 14), .lit (.int .u8 24), .lit (.int .u8 3), .lit (.int .u8 30), .lit (.int .u8 22), .lit (.int .u8 20), .lit (.int .u8 15), .lit (.int .u8 25), .lit (.int .u8 17), .lit (.int .u8 4), .lit (.int .u8 8), .lit (.int .u8 31), .lit (.int .u8 27), .lit (.int .u8 13), .lit (.int .u8 23), .lit (.int .u8 21), .lit (.int .u8 19), .lit (.int .u8 16), .lit (.int .u8 7), .lit (.int .u8 26), .lit (.int .u8 12), .lit (.int .u8 18), .lit (.int .u8 6), .lit (.int .u8 11), .lit (.int .u8 5), .lit (.int .u8 10), .lit (.int .u8 9)]
def laid_math_bits_deBruijn64tab {H : Type} : DataW H := .agg [.lit (.int .u8 0), .lit (.int .u8 1), .lit (.int .u8 56), .lit (.int .u8 2), .lit (.int .u8 57), .lit (.int .u8 49), .lit (.int .u8 28), .lit (.int .u8 3), .lit (.int .u8 61), .lit (.int .u8 58), .lit (.int .u8 42), .lit (.int .u8 50), .lit (.int .u8 38), .lit (.int .u8 29), .lit (.int .u8 17), .lit (.int .u8 4), .lit (.int .u8 62), .lit (.int .u8 47), .lit (.int .u8 59), .lit (.int .u8 36), .lit (.int .u8 45), .lit (.int .u8 43), .lit (.int .u8 51), .lit (.int .u8 22), .lit (.int .u8 53), .lit (.int .u8 39), .lit (.int .u8 33), .lit (.int .u8 30), .lit (.int .u8 24), .lit (.int .u8 18), .lit (.int .u8 12), .lit (.int .u8 5), .lit (.int .u8 63), .lit (.int .u8 55), .lit (.int .u8 48), .lit (.int .u8 27), .lit (.int .u8 60), .lit (.int .u8 41), .lit (.int .u8 37), .lit (.int .u8 16), .lit (.int .u8 46), .lit (.int .u8 35), .lit (.int .u8 44), .lit (.int .u8 21), .lit (.int .u8 52), .lit (.int .u8 32), .lit (.int .u8 23), .lit (.int .u8 11), .lit (.int .u8 54), .lit (.int .u8 26), .lit (.int .u8 40), .lit (.int .u8 15), .lit (.int .u8 34), .lit (.int .u8 20), .lit (.int .u8 31), .lit (.int .u8 10), .lit (.int .u8 25), .lit (.int .u8 14), .lit (.int .u8 19), .lit (.int .u8 9), .lit (.int .u8 13), .lit (.int .u8 8), .lit (.int .u8 7), .lit (.int .u8 6)]
def laid_internal_strconv_uint64pow10 {H : Type} : DataW H := .agg [.lit (.int .u64 1), .lit (.int .u64 10), .lit (.int .u64 100), .lit (.int .u64 1000), .lit (.int .u64 10000), .lit (.int .u64 100000), .lit (.int .u64 1000000), .lit (.int .u64 10000000), .lit (.int .u64 100000000), .lit (.int .u64 1000000000), .lit (.int .u64 10000000000), .lit (.int .u64 100000000000), .lit (.int .u64 1000000000000), .lit (.int .u64 10000000000000), .lit (.int .u64 100000000000000), .lit (.int .u64 1000000000000000), .lit (.int .u64 10000000000000000), .lit (.int .u64 100000000000000000), .lit (.int .u64 1000000000000000000), .lit (.int .u64 10000000000000000000)]

/-- 'syntagmlaw06.MiniApart': WHATEVER THE INPUT: true; the input reads as it did. -/
def miniApartSpec : ChangeSpec := { name := "miniApart", fn := fun _ => fun
  | [d] => { results := [.lit (.bool true)], args := [d] }
  | _ => none }
def miniApartRow : OpenClaim := { program := "ytglflmkkecephaagreatdoor", sum := "0455d5488180a2ab9e727be48167de943de338f76f88b62a14507327345fe385", func := "syntagm/syntagmlaw06.MiniApart", spec := "miniApart", inPlace := ["internal/bytealg.IndexByteString"], unfollowed := true, recurses := true, named := ["internal/strconv.uint64pow10", "math/bits.deBruijn32tab", "math/bits.deBruijn64tab"], plainKeys := false, apart := false, laid := [("math/bits.deBruijn32tab", laid_math_bits_deBruijn32tab), ("math/bits.deBruijn64tab", laid_math_bits_deBruijn64tab), ("internal/strconv.uint64pow10", laid_internal_strconv_uint64pow10)] }
def MiniApartSaid : Prop := miniApartRow.holds Tryz.pinned (OpenSpec.ofChange miniApartSpec)

/-- ITS FALSE NEIGHBOUR: 'it returns false'. Refute it at one input. -/
def miniApartWrong : ChangeSpec := { name := "miniApart", fn := fun _ => fun
  | [d] => { results := [.lit (.bool false)], args := [d] }
  | _ => none }
def MiniApartWrongFalsely : Prop := miniApartRow.holds Tryz.pinned (OpenSpec.ofChange miniApartWrong)

/-- 'syntagmlaw07.MunchPicks': WHATEVER THE INPUT: true; the input reads as it did. -/
def munchPicksSpec : ChangeSpec := { name := "munchPicks", fn := fun _ => fun
  | [d1, d2, d3, d4, d5] => { results := [.lit (.bool true)], args := [d1, d2, d3, d4, d5] }
  | _ => none }
def munchPicksRow : OpenClaim := { program := "ytglflmkkecephaagreatdoor", sum := "0455d5488180a2ab9e727be48167de943de338f76f88b62a14507327345fe385", func := "syntagm/syntagmlaw07.MunchPicks", spec := "munchPicks", inPlace := ["internal/bytealg.IndexByteString"], unfollowed := true, recurses := true, named := ["internal/strconv.uint64pow10", "math/bits.deBruijn32tab", "math/bits.deBruijn64tab"], plainKeys := false, apart := false, laid := [("math/bits.deBruijn32tab", laid_math_bits_deBruijn32tab), ("math/bits.deBruijn64tab", laid_math_bits_deBruijn64tab), ("internal/strconv.uint64pow10", laid_internal_strconv_uint64pow10)] }
def MunchPicksSaid : Prop := munchPicksRow.holds Tryz.pinned (OpenSpec.ofChange munchPicksSpec)

/-- ITS FALSE NEIGHBOUR: 'it returns false'. Refute it at one input. -/
def munchPicksWrong : ChangeSpec := { name := "munchPicks", fn := fun _ => fun
  | [d1, d2, d3, d4, d5] => { results := [.lit (.bool false)], args := [d1, d2, d3, d4, d5] }
  | _ => none }
def MunchPicksWrongFalsely : Prop := munchPicksRow.holds Tryz.pinned (OpenSpec.ofChange munchPicksWrong)

/-- 'syntagmlaw07.MunchCuts': WHATEVER THE INPUT: true; the input reads as it did. -/
def munchCutsSpec : ChangeSpec := { name := "munchCuts", fn := fun _ => fun
  | [d1, d2, d3, d4] => { results := [.lit (.bool true)], args := [d1, d2, d3, d4] }
  | _ => none }
def munchCutsRow : OpenClaim := { program := "ytglflmkkecephaagreatdoor", sum := "0455d5488180a2ab9e727be48167de943de338f76f88b62a14507327345fe385", func := "syntagm/syntagmlaw07.MunchCuts", spec := "munchCuts", inPlace := ["internal/bytealg.IndexByteString"], unfollowed := true, recurses := true, named := ["internal/strconv.uint64pow10", "math/bits.deBruijn32tab", "math/bits.deBruijn64tab"], plainKeys := false, apart := false, laid := [("math/bits.deBruijn32tab", laid_math_bits_deBruijn32tab), ("math/bits.deBruijn64tab", laid_math_bits_deBruijn64tab), ("internal/strconv.uint64pow10", laid_internal_strconv_uint64pow10)] }
def MunchCutsSaid : Prop := munchCutsRow.holds Tryz.pinned (OpenSpec.ofChange munchCutsSpec)

/-- ITS FALSE NEIGHBOUR: 'it returns false'. Refute it at one input. -/
def munchCutsWrong : ChangeSpec := { name := "munchCuts", fn := fun _ => fun
  | [d1, d2, d3, d4] => { results := [.lit (.bool false)], args := [d1, d2, d3, d4] }
  | _ => none }
def MunchCutsWrongFalsely : Prop := munchCutsRow.holds Tryz.pinned (OpenSpec.ofChange munchCutsWrong)

/-- 'syntagmlaw07.MunchWins': WHATEVER THE INPUT: true; the input reads as it did. -/
def munchWinsSpec : ChangeSpec := { name := "munchWins", fn := fun _ => fun
  | [d1, d2] => { results := [.lit (.bool true)], args := [d1, d2] }
  | _ => none }
def munchWinsRow : OpenClaim := { program := "ytglflmkkecephaagreatdoor", sum := "0455d5488180a2ab9e727be48167de943de338f76f88b62a14507327345fe385", func := "syntagm/syntagmlaw07.MunchWins", spec := "munchWins", inPlace := ["internal/bytealg.IndexByteString"], unfollowed := true, recurses := true, named := ["internal/strconv.uint64pow10", "math/bits.deBruijn32tab", "math/bits.deBruijn64tab"], plainKeys := false, apart := false, laid := [("math/bits.deBruijn32tab", laid_math_bits_deBruijn32tab), ("math/bits.deBruijn64tab", laid_math_bits_deBruijn64tab), ("internal/strconv.uint64pow10", laid_internal_strconv_uint64pow10)] }
def MunchWinsSaid : Prop := munchWinsRow.holds Tryz.pinned (OpenSpec.ofChange munchWinsSpec)

/-- ITS FALSE NEIGHBOUR: 'it returns false'. Refute it at one input. -/
def munchWinsWrong : ChangeSpec := { name := "munchWins", fn := fun _ => fun
  | [d1, d2] => { results := [.lit (.bool false)], args := [d1, d2] }
  | _ => none }
def MunchWinsWrongFalsely : Prop := munchWinsRow.holds Tryz.pinned (OpenSpec.ofChange munchWinsWrong)

/-- 'syntagmlaw07.MunchFewer': WHATEVER THE INPUT: true; the input reads as it did. -/
def munchFewerSpec : ChangeSpec := { name := "munchFewer", fn := fun _ => fun
  | [d1, d2, d3, d4, d5] => { results := [.lit (.bool true)], args := [d1, d2, d3, d4, d5] }
  | _ => none }
def munchFewerRow : OpenClaim := { program := "ytglflmkkecephaagreatdoor", sum := "0455d5488180a2ab9e727be48167de943de338f76f88b62a14507327345fe385", func := "syntagm/syntagmlaw07.MunchFewer", spec := "munchFewer", inPlace := ["internal/bytealg.IndexByteString"], unfollowed := true, recurses := true, named := ["internal/strconv.uint64pow10", "math/bits.deBruijn32tab", "math/bits.deBruijn64tab"], plainKeys := false, apart := false, laid := [("math/bits.deBruijn32tab", laid_math_bits_deBruijn32tab), ("math/bits.deBruijn64tab", laid_math_bits_deBruijn64tab), ("internal/strconv.uint64pow10", laid_internal_strconv_uint64pow10)] }
def MunchFewerSaid : Prop := munchFewerRow.holds Tryz.pinned (OpenSpec.ofChange munchFewerSpec)

/-- ITS FALSE NEIGHBOUR: 'it returns false'. Refute it at one input. -/
def munchFewerWrong : ChangeSpec := { name := "munchFewer", fn := fun _ => fun
  | [d1, d2, d3, d4, d5] => { results := [.lit (.bool false)], args := [d1, d2, d3, d4, d5] }
  | _ => none }
def MunchFewerWrongFalsely : Prop := munchFewerRow.holds Tryz.pinned (OpenSpec.ofChange munchFewerWrong)

/-- 'syntagmlaw07.MunchLongest': WHATEVER THE INPUT: true; the input reads as it did. -/
def munchLongestSpec : ChangeSpec := { name := "munchLongest", fn := fun _ => fun
  | [d1, d2, d3, d4] => { results := [.lit (.bool true)], args := [d1, d2, d3, d4] }
  | _ => none }
def munchLongestRow : OpenClaim := { program := "ytglflmkkecephaagreatdoor", sum := "0455d5488180a2ab9e727be48167de943de338f76f88b62a14507327345fe385", func := "syntagm/syntagmlaw07.MunchLongest", spec := "munchLongest", inPlace := ["internal/bytealg.IndexByteString"], unfollowed := true, recurses := true, named := ["internal/strconv.uint64pow10", "math/bits.deBruijn32tab", "math/bits.deBruijn64tab"], plainKeys := false, apart := false, laid := [("math/bits.deBruijn32tab", laid_math_bits_deBruijn32tab), ("math/bits.deBruijn64tab", laid_math_bits_deBruijn64tab), ("internal/strconv.uint64pow10", laid_internal_strconv_uint64pow10)] }
def MunchLongestSaid : Prop := munchLongestRow.holds Tryz.pinned (OpenSpec.ofChange munchLongestSpec)

/-- ITS FALSE NEIGHBOUR: 'it returns false'. Refute it at one input. -/
def munchLongestWrong : ChangeSpec := { name := "munchLongest", fn := fun _ => fun
  | [d1, d2, d3, d4] => { results := [.lit (.bool false)], args := [d1, d2, d3, d4] }
  | _ => none }
def MunchLongestWrongFalsely : Prop := munchLongestRow.holds Tryz.pinned (OpenSpec.ofChange munchLongestWrong)

/- THE SECOND FORM. 'bulk': how many values and letters a reading holds, each counted each time it is reached (what is shared counts as often as it is met; a slice's spare places count too). A statement '..UptoSaid' is the law's where the arguments, and the package variables that the reading takes, are together of bulk at most 1048576: NARROWER than '..Said'. Prove '..Said' where nothing that the law and all that it calls make is longer than what came in: it says more and counts as full. Else prove '..UptoSaid'. A law counts once. -/
mutual
def uptoBulk {H : Type} : DataW H → Nat
  | .lit (.string bytes) => bytes.length + 1
  | .lit _ => 1
  | .nil => 1
  | .ptr d => uptoBulk d + 1
  | .slice elems spare => uptoBulkAll elems + uptoBulkAll spare + 1
  | .agg parts => uptoBulkAll parts + 1
  | .iface _ d => uptoBulk d + 1
  | .map entries => uptoBulkEntries entries + 1
  | .held _ => 1
def uptoBulkAll {H : Type} : List (DataW H) → Nat
  | [] => 0
  | d :: r => uptoBulk d + uptoBulkAll r
def uptoBulkEntries {H : Type} : List (Lit × DataW H) → Nat
  | [] => 0
  | x :: r => uptoBulkEntry x + uptoBulkEntries r
def uptoBulkEntry {H : Type} : Lit × DataW H → Nat
  | (.string bytes, d) => bytes.length + uptoBulk d + 1
  | (_, d) => uptoBulk d + 1
 end
def uptoSmall : (H : Type) → List (DataW H) → Bool := fun _ ds => decide (uptoBulkAll ds ≤ 1048576)
def OpenSpec.upto (s : _root_.Go.ChangeSpec) : _root_.Go.OpenSpec := { _root_.Go.OpenSpec.ofChange s with cond := some uptoSmall }

/-- 'syntagmlaw06.MiniApart', WHERE WHAT IT READS IS OF BULK AT MOST 1048576: true; the input reads as it did. -/
def miniApartUptoRow : OpenClaim := { program := "ytglflmkkecephaagreatdoor", sum := "0455d5488180a2ab9e727be48167de943de338f76f88b62a14507327345fe385", func := "syntagm/syntagmlaw06.MiniApart", spec := "miniApart", inPlace := ["internal/bytealg.IndexByteString"], unfollowed := true, recurses := true, named := ["internal/strconv.uint64pow10", "math/bits.deBruijn32tab", "math/bits.deBruijn64tab"], plainKeys := false, apart := false, laid := [("math/bits.deBruijn32tab", laid_math_bits_deBruijn32tab), ("math/bits.deBruijn64tab", laid_math_bits_deBruijn64tab), ("internal/strconv.uint64pow10", laid_internal_strconv_uint64pow10)], narrowed := true }
def MiniApartUptoSaid : Prop := miniApartUptoRow.holds Tryz.pinned (OpenSpec.upto miniApartSpec)

/-- 'syntagmlaw07.MunchPicks', WHERE WHAT IT READS IS OF BULK AT MOST 1048576: true; the input reads as it did. -/
def munchPicksUptoRow : OpenClaim := { program := "ytglflmkkecephaagreatdoor", sum := "0455d5488180a2ab9e727be48167de943de338f76f88b62a14507327345fe385", func := "syntagm/syntagmlaw07.MunchPicks", spec := "munchPicks", inPlace := ["internal/bytealg.IndexByteString"], unfollowed := true, recurses := true, named := ["internal/strconv.uint64pow10", "math/bits.deBruijn32tab", "math/bits.deBruijn64tab"], plainKeys := false, apart := false, laid := [("math/bits.deBruijn32tab", laid_math_bits_deBruijn32tab), ("math/bits.deBruijn64tab", laid_math_bits_deBruijn64tab), ("internal/strconv.uint64pow10", laid_internal_strconv_uint64pow10)], narrowed := true }
def MunchPicksUptoSaid : Prop := munchPicksUptoRow.holds Tryz.pinned (OpenSpec.upto munchPicksSpec)

/-- 'syntagmlaw07.MunchCuts', WHERE WHAT IT READS IS OF BULK AT MOST 1048576: true; the input reads as it did. -/
def munchCutsUptoRow : OpenClaim := { program := "ytglflmkkecephaagreatdoor", sum := "0455d5488180a2ab9e727be48167de943de338f76f88b62a14507327345fe385", func := "syntagm/syntagmlaw07.MunchCuts", spec := "munchCuts", inPlace := ["internal/bytealg.IndexByteString"], unfollowed := true, recurses := true, named := ["internal/strconv.uint64pow10", "math/bits.deBruijn32tab", "math/bits.deBruijn64tab"], plainKeys := false, apart := false, laid := [("math/bits.deBruijn32tab", laid_math_bits_deBruijn32tab), ("math/bits.deBruijn64tab", laid_math_bits_deBruijn64tab), ("internal/strconv.uint64pow10", laid_internal_strconv_uint64pow10)], narrowed := true }
def MunchCutsUptoSaid : Prop := munchCutsUptoRow.holds Tryz.pinned (OpenSpec.upto munchCutsSpec)

/-- 'syntagmlaw07.MunchWins', WHERE WHAT IT READS IS OF BULK AT MOST 1048576: true; the input reads as it did. -/
def munchWinsUptoRow : OpenClaim := { program := "ytglflmkkecephaagreatdoor", sum := "0455d5488180a2ab9e727be48167de943de338f76f88b62a14507327345fe385", func := "syntagm/syntagmlaw07.MunchWins", spec := "munchWins", inPlace := ["internal/bytealg.IndexByteString"], unfollowed := true, recurses := true, named := ["internal/strconv.uint64pow10", "math/bits.deBruijn32tab", "math/bits.deBruijn64tab"], plainKeys := false, apart := false, laid := [("math/bits.deBruijn32tab", laid_math_bits_deBruijn32tab), ("math/bits.deBruijn64tab", laid_math_bits_deBruijn64tab), ("internal/strconv.uint64pow10", laid_internal_strconv_uint64pow10)], narrowed := true }
def MunchWinsUptoSaid : Prop := munchWinsUptoRow.holds Tryz.pinned (OpenSpec.upto munchWinsSpec)

/-- 'syntagmlaw07.MunchFewer', WHERE WHAT IT READS IS OF BULK AT MOST 1048576: true; the input reads as it did. -/
def munchFewerUptoRow : OpenClaim := { program := "ytglflmkkecephaagreatdoor", sum := "0455d5488180a2ab9e727be48167de943de338f76f88b62a14507327345fe385", func := "syntagm/syntagmlaw07.MunchFewer", spec := "munchFewer", inPlace := ["internal/bytealg.IndexByteString"], unfollowed := true, recurses := true, named := ["internal/strconv.uint64pow10", "math/bits.deBruijn32tab", "math/bits.deBruijn64tab"], plainKeys := false, apart := false, laid := [("math/bits.deBruijn32tab", laid_math_bits_deBruijn32tab), ("math/bits.deBruijn64tab", laid_math_bits_deBruijn64tab), ("internal/strconv.uint64pow10", laid_internal_strconv_uint64pow10)], narrowed := true }
def MunchFewerUptoSaid : Prop := munchFewerUptoRow.holds Tryz.pinned (OpenSpec.upto munchFewerSpec)

/-- 'syntagmlaw07.MunchLongest', WHERE WHAT IT READS IS OF BULK AT MOST 1048576: true; the input reads as it did. -/
def munchLongestUptoRow : OpenClaim := { program := "ytglflmkkecephaagreatdoor", sum := "0455d5488180a2ab9e727be48167de943de338f76f88b62a14507327345fe385", func := "syntagm/syntagmlaw07.MunchLongest", spec := "munchLongest", inPlace := ["internal/bytealg.IndexByteString"], unfollowed := true, recurses := true, named := ["internal/strconv.uint64pow10", "math/bits.deBruijn32tab", "math/bits.deBruijn64tab"], plainKeys := false, apart := false, laid := [("math/bits.deBruijn32tab", laid_math_bits_deBruijn32tab), ("math/bits.deBruijn64tab", laid_math_bits_deBruijn64tab), ("internal/strconv.uint64pow10", laid_internal_strconv_uint64pow10)], narrowed := true }
def MunchLongestUptoSaid : Prop := munchLongestUptoRow.holds Tryz.pinned (OpenSpec.upto munchLongestSpec)

end Rows
end Go.Proofs.YtglflmkkecephaaGreatDoor
