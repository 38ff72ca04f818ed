/-
  NARROWER THAN 'FOR EVERY INPUT', by the rows' own cells (each row's printed sentence says how): VersionParses: laid · VersionParts: laid · VersionTilde: laid · VersionNoughts: laid · VersionLong: laid · VersionOrder: laid · VersionEpochs: laid · VersionSigns: laid · VersionHolds: laid · VersionCompares: laid.
  DERIVED. THE GIVEN ROWS OF THIS SEAT. 10 by the template 'for every input the law returns true; each argument reads behind the call as it read before'; 0 by the template 'total and deterministic' (their statements: YtlhnmafnioaojaaDoorTotals.lean).
  GIVEN WITH THE SEED: the statements are not yours to turn. If you find one false, say at which input.
  Laid BY PROGRAM, IN A SANDBOX (cutbox-rows.mjs): the forced cells as the released guide's own fill.sh prints them over the translation f92c0ca535309bc7… (all of the seat's roots in one cut). By AI agents, Wed Nov 11 2026. No macro, syntax, notation, axiom, sorry.
-/
import Derived.Test.YtlhnmafnioaojaaDoorChecked
import GoSem.PinnedTables
import GoSem.Claim
import GoSem.ClaimJoined
import GoSem.ClaimMapViews
import Derived.JoinedTies
import Derived.KernelRfl
namespace Go.Proofs.YtlhnmafnioaojaaDoor
/- THE CELL 'sum', in the pinned program and in every row, IS THE sha256 OF THE DUMP (.gsa) THAT YtlhnmafnioaojaaDoorProg.lean LOADS. Nothing in Lean hashes anything: it is a label: what it is worth is what the hold of that sum in a sandbox is worth. -/
noncomputable def Tryd.pinned : Pinned := { name := "ytlhnmafnioaojaadoor", sum := "f92c0ca535309bc716e56cbe6fba35d024178909ff138c21c4848b73d750f043", checked := Tryd.checked }
namespace Rows
def none {H : Type} : Left H := { results := [], args := [] }

/- WHAT THE LISTED PACKAGE-LEVEL VARIABLES READ AS WHEN THE CALL BEGINS. Each datum BY PROGRAM (the guide's laid-datum.mjs) off the statement by which the dump's own 'gosem.cut.vars' lays the variable. In a bare row this is a premise. The card (YtlhnmafnioaojaaDoorCards.lean) ties it to the program's text. -/
def laid_unicode_utf8_acceptRanges {H : Type} : DataW H := .agg [.agg [.lit (.int .u8 128), .lit (.int .u8 191)], .agg [.lit (.int .u8 160), .lit (.int .u8 191)], .agg [.lit (.int .u8 128), .lit (.int .u8 159)], .agg [.lit (.int .u8 144), .lit (.int .u8 191)], .agg [.lit (.int .u8 128), .lit (.int .u8 143)], .agg [.lit (.int .u8 0), .lit (.int .u8 0)], .agg [.lit (.int .u8 0), .lit (.int .u8 0)], .agg [.lit (.int .u8 0), .lit (.int .u8 0)], .agg [.lit (.int .u8 0), .lit (.int .u8 0)], .agg [.lit (.int .u8 0), .lit (.int .u8 0)], .agg [.lit (.int .u8 0), .lit (.int .u8 0)], .agg [.lit (.int .u8 0), .lit (.int .u8 0)], .agg [.lit (.int .u8 0), .lit (.int .u8 0)], .agg [.lit (.int .u8 0), .lit (.int .u8 0)], .agg [.lit (.int .u8 0), .lit (.int .u8 0)], .agg [.lit (.int .u8 0), .lit (.int .u8 0)]]
/-- One of Go's own tables, pinned by name: the form's constant. -/
def laid_unicode_utf8_first : DataW Unit := Go.Pinned.utf8First

/-- 'chandlerlaw6.VersionParses': WHATEVER THE INPUT: true; the input reads as it did. -/
def versionParsesSpec : ChangeSpec := { name := "versionParses", fn := fun _ => fun
  | [d] => { results := [.lit (.bool true)], args := [d] }
  | _ => none }
def versionParsesRow : OpenClaim := { program := "ytlhnmafnioaojaadoor", sum := "f92c0ca535309bc716e56cbe6fba35d024178909ff138c21c4848b73d750f043", func := "chandler/chandlerlaw6.VersionParses", spec := "versionParses", inPlace := ["internal/bytealg.IndexByteString", "internal/bytealg.IndexString"], named := ["internal/bytealg.MaxLen", "unicode/utf8.first", "unicode/utf8.acceptRanges"], apart := false, laid := [("unicode/utf8.acceptRanges", laid_unicode_utf8_acceptRanges), ("unicode/utf8.first", laid_unicode_utf8_first)] }
def VersionParsesSaid : Prop := versionParsesRow.holds Tryd.pinned (OpenSpec.ofChange versionParsesSpec)

/-- ITS FALSE NEIGHBOUR: 'it returns false'. Refute it at one input. -/
def versionParsesWrong : ChangeSpec := { name := "versionParses", fn := fun _ => fun
  | [d] => { results := [.lit (.bool false)], args := [d] }
  | _ => none }
def VersionParsesWrongFalsely : Prop := versionParsesRow.holds Tryd.pinned (OpenSpec.ofChange versionParsesWrong)

/-- 'chandlerlaw6.VersionParts': WHATEVER THE INPUT: true; the input reads as it did. -/
def versionPartsSpec : ChangeSpec := { name := "versionParts", fn := fun _ => fun
  | [d1, d2] => { results := [.lit (.bool true)], args := [d1, d2] }
  | _ => none }
def versionPartsRow : OpenClaim := { program := "ytlhnmafnioaojaadoor", sum := "f92c0ca535309bc716e56cbe6fba35d024178909ff138c21c4848b73d750f043", func := "chandler/chandlerlaw6.VersionParts", spec := "versionParts", inPlace := ["internal/bytealg.IndexByteString", "internal/bytealg.IndexString"], named := ["unicode/utf8.first", "unicode/utf8.acceptRanges", "internal/bytealg.MaxLen"], apart := false, laid := [("unicode/utf8.acceptRanges", laid_unicode_utf8_acceptRanges), ("unicode/utf8.first", laid_unicode_utf8_first)] }
def VersionPartsSaid : Prop := versionPartsRow.holds Tryd.pinned (OpenSpec.ofChange versionPartsSpec)

/-- ITS FALSE NEIGHBOUR: 'it returns false'. Refute it at one input. -/
def versionPartsWrong : ChangeSpec := { name := "versionParts", fn := fun _ => fun
  | [d1, d2] => { results := [.lit (.bool false)], args := [d1, d2] }
  | _ => none }
def VersionPartsWrongFalsely : Prop := versionPartsRow.holds Tryd.pinned (OpenSpec.ofChange versionPartsWrong)

/-- 'chandlerlaw6.VersionTilde': WHATEVER THE INPUT: true; the input reads as it did. -/
def versionTildeSpec : ChangeSpec := { name := "versionTilde", fn := fun _ => fun
  | [d1, d2] => { results := [.lit (.bool true)], args := [d1, d2] }
  | _ => none }
def versionTildeRow : OpenClaim := { program := "ytlhnmafnioaojaadoor", sum := "f92c0ca535309bc716e56cbe6fba35d024178909ff138c21c4848b73d750f043", func := "chandler/chandlerlaw6.VersionTilde", spec := "versionTilde", inPlace := ["internal/bytealg.IndexByteString", "internal/bytealg.IndexString"], named := ["internal/bytealg.MaxLen", "unicode/utf8.first", "unicode/utf8.acceptRanges"], apart := false, laid := [("unicode/utf8.acceptRanges", laid_unicode_utf8_acceptRanges), ("unicode/utf8.first", laid_unicode_utf8_first)] }
def VersionTildeSaid : Prop := versionTildeRow.holds Tryd.pinned (OpenSpec.ofChange versionTildeSpec)

/-- ITS FALSE NEIGHBOUR: 'it returns false'. Refute it at one input. -/
def versionTildeWrong : ChangeSpec := { name := "versionTilde", fn := fun _ => fun
  | [d1, d2] => { results := [.lit (.bool false)], args := [d1, d2] }
  | _ => none }
def VersionTildeWrongFalsely : Prop := versionTildeRow.holds Tryd.pinned (OpenSpec.ofChange versionTildeWrong)

/-- 'chandlerlaw6.VersionNoughts': WHATEVER THE INPUT: true; the input reads as it did. -/
def versionNoughtsSpec : ChangeSpec := { name := "versionNoughts", fn := fun _ => fun
  | [d1, d2, d3] => { results := [.lit (.bool true)], args := [d1, d2, d3] }
  | _ => none }
def versionNoughtsRow : OpenClaim := { program := "ytlhnmafnioaojaadoor", sum := "f92c0ca535309bc716e56cbe6fba35d024178909ff138c21c4848b73d750f043", func := "chandler/chandlerlaw6.VersionNoughts", spec := "versionNoughts", inPlace := ["internal/bytealg.IndexByteString", "internal/bytealg.IndexString"], named := ["unicode/utf8.first", "unicode/utf8.acceptRanges", "internal/bytealg.MaxLen"], apart := false, laid := [("unicode/utf8.acceptRanges", laid_unicode_utf8_acceptRanges), ("unicode/utf8.first", laid_unicode_utf8_first)] }
def VersionNoughtsSaid : Prop := versionNoughtsRow.holds Tryd.pinned (OpenSpec.ofChange versionNoughtsSpec)

/-- ITS FALSE NEIGHBOUR: 'it returns false'. Refute it at one input. -/
def versionNoughtsWrong : ChangeSpec := { name := "versionNoughts", fn := fun _ => fun
  | [d1, d2, d3] => { results := [.lit (.bool false)], args := [d1, d2, d3] }
  | _ => none }
def VersionNoughtsWrongFalsely : Prop := versionNoughtsRow.holds Tryd.pinned (OpenSpec.ofChange versionNoughtsWrong)

/-- 'chandlerlaw6.VersionLong': WHATEVER THE INPUT: true; the input reads as it did. -/
def versionLongSpec : ChangeSpec := { name := "versionLong", fn := fun _ => fun
  | [d1, d2, d3] => { results := [.lit (.bool true)], args := [d1, d2, d3] }
  | _ => none }
def versionLongRow : OpenClaim := { program := "ytlhnmafnioaojaadoor", sum := "f92c0ca535309bc716e56cbe6fba35d024178909ff138c21c4848b73d750f043", func := "chandler/chandlerlaw6.VersionLong", spec := "versionLong", inPlace := ["internal/bytealg.IndexByteString", "internal/bytealg.IndexString"], named := ["unicode/utf8.first", "unicode/utf8.acceptRanges", "internal/bytealg.MaxLen"], apart := false, laid := [("unicode/utf8.acceptRanges", laid_unicode_utf8_acceptRanges), ("unicode/utf8.first", laid_unicode_utf8_first)] }
def VersionLongSaid : Prop := versionLongRow.holds Tryd.pinned (OpenSpec.ofChange versionLongSpec)

/-- ITS FALSE NEIGHBOUR: 'it returns false'. Refute it at one input. -/
def versionLongWrong : ChangeSpec := { name := "versionLong", fn := fun _ => fun
  | [d1, d2, d3] => { results := [.lit (.bool false)], args := [d1, d2, d3] }
  | _ => none }
def VersionLongWrongFalsely : Prop := versionLongRow.holds Tryd.pinned (OpenSpec.ofChange versionLongWrong)

/-- 'chandlerlaw6.VersionOrder': WHATEVER THE INPUT: true; the input reads as it did. -/
def versionOrderSpec : ChangeSpec := { name := "versionOrder", fn := fun _ => fun
  | [d1, d2, d3] => { results := [.lit (.bool true)], args := [d1, d2, d3] }
  | _ => none }
def versionOrderRow : OpenClaim := { program := "ytlhnmafnioaojaadoor", sum := "f92c0ca535309bc716e56cbe6fba35d024178909ff138c21c4848b73d750f043", func := "chandler/chandlerlaw6.VersionOrder", spec := "versionOrder", inPlace := ["internal/bytealg.IndexByteString", "internal/bytealg.IndexString"], named := ["internal/bytealg.MaxLen", "unicode/utf8.first", "unicode/utf8.acceptRanges"], apart := false, laid := [("unicode/utf8.acceptRanges", laid_unicode_utf8_acceptRanges), ("unicode/utf8.first", laid_unicode_utf8_first)] }
def VersionOrderSaid : Prop := versionOrderRow.holds Tryd.pinned (OpenSpec.ofChange versionOrderSpec)

/-- ITS FALSE NEIGHBOUR: 'it returns false'. Refute it at one input. -/
def versionOrderWrong : ChangeSpec := { name := "versionOrder", fn := fun _ => fun
  | [d1, d2, d3] => { results := [.lit (.bool false)], args := [d1, d2, d3] }
  | _ => none }
def VersionOrderWrongFalsely : Prop := versionOrderRow.holds Tryd.pinned (OpenSpec.ofChange versionOrderWrong)

/-- 'chandlerlaw6.VersionEpochs': WHATEVER THE INPUT: true; the input reads as it did. -/
def versionEpochsSpec : ChangeSpec := { name := "versionEpochs", fn := fun _ => fun
  | [d1, d2, d3, d4] => { results := [.lit (.bool true)], args := [d1, d2, d3, d4] }
  | _ => none }
def versionEpochsRow : OpenClaim := { program := "ytlhnmafnioaojaadoor", sum := "f92c0ca535309bc716e56cbe6fba35d024178909ff138c21c4848b73d750f043", func := "chandler/chandlerlaw6.VersionEpochs", spec := "versionEpochs", inPlace := ["internal/bytealg.IndexByteString", "internal/bytealg.IndexString"], named := ["internal/bytealg.MaxLen", "unicode/utf8.first", "unicode/utf8.acceptRanges"], apart := false, laid := [("unicode/utf8.acceptRanges", laid_unicode_utf8_acceptRanges), ("unicode/utf8.first", laid_unicode_utf8_first)] }
def VersionEpochsSaid : Prop := versionEpochsRow.holds Tryd.pinned (OpenSpec.ofChange versionEpochsSpec)

/-- ITS FALSE NEIGHBOUR: 'it returns false'. Refute it at one input. -/
def versionEpochsWrong : ChangeSpec := { name := "versionEpochs", fn := fun _ => fun
  | [d1, d2, d3, d4] => { results := [.lit (.bool false)], args := [d1, d2, d3, d4] }
  | _ => none }
def VersionEpochsWrongFalsely : Prop := versionEpochsRow.holds Tryd.pinned (OpenSpec.ofChange versionEpochsWrong)

/-- 'chandlerlaw6.VersionSigns': WHATEVER THE INPUT: true; the input reads as it did. -/
def versionSignsSpec : ChangeSpec := { name := "versionSigns", fn := fun _ => fun
  | [d1, d2] => { results := [.lit (.bool true)], args := [d1, d2] }
  | _ => none }
def versionSignsRow : OpenClaim := { program := "ytlhnmafnioaojaadoor", sum := "f92c0ca535309bc716e56cbe6fba35d024178909ff138c21c4848b73d750f043", func := "chandler/chandlerlaw6.VersionSigns", spec := "versionSigns", inPlace := ["internal/bytealg.IndexByteString", "internal/bytealg.IndexString"], named := ["internal/bytealg.MaxLen", "unicode/utf8.first", "unicode/utf8.acceptRanges"], apart := false, laid := [("unicode/utf8.acceptRanges", laid_unicode_utf8_acceptRanges), ("unicode/utf8.first", laid_unicode_utf8_first)] }
def VersionSignsSaid : Prop := versionSignsRow.holds Tryd.pinned (OpenSpec.ofChange versionSignsSpec)

/-- ITS FALSE NEIGHBOUR: 'it returns false'. Refute it at one input. -/
def versionSignsWrong : ChangeSpec := { name := "versionSigns", fn := fun _ => fun
  | [d1, d2] => { results := [.lit (.bool false)], args := [d1, d2] }
  | _ => none }
def VersionSignsWrongFalsely : Prop := versionSignsRow.holds Tryd.pinned (OpenSpec.ofChange versionSignsWrong)

/-- 'chandlerlaw6.VersionHolds': WHATEVER THE INPUT: true; the input reads as it did. -/
def versionHoldsSpec : ChangeSpec := { name := "versionHolds", fn := fun _ => fun
  | [d1, d2] => { results := [.lit (.bool true)], args := [d1, d2] }
  | _ => none }
def versionHoldsRow : OpenClaim := { program := "ytlhnmafnioaojaadoor", sum := "f92c0ca535309bc716e56cbe6fba35d024178909ff138c21c4848b73d750f043", func := "chandler/chandlerlaw6.VersionHolds", spec := "versionHolds", inPlace := ["internal/bytealg.IndexByteString", "internal/bytealg.IndexString"], unfollowed := true, recurses := true, named := ["internal/bytealg.MaxLen", "unicode/utf8.first", "unicode/utf8.acceptRanges"], apart := false, laid := [("unicode/utf8.acceptRanges", laid_unicode_utf8_acceptRanges), ("unicode/utf8.first", laid_unicode_utf8_first)] }
def VersionHoldsSaid : Prop := versionHoldsRow.holds Tryd.pinned (OpenSpec.ofChange versionHoldsSpec)

/-- ITS FALSE NEIGHBOUR: 'it returns false'. Refute it at one input. -/
def versionHoldsWrong : ChangeSpec := { name := "versionHolds", fn := fun _ => fun
  | [d1, d2] => { results := [.lit (.bool false)], args := [d1, d2] }
  | _ => none }
def VersionHoldsWrongFalsely : Prop := versionHoldsRow.holds Tryd.pinned (OpenSpec.ofChange versionHoldsWrong)

/-- 'chandlerlaw6.VersionCompares': WHATEVER THE INPUT: true; the input reads as it did. -/
def versionComparesSpec : ChangeSpec := { name := "versionCompares", fn := fun _ => fun
  | [d1, d2, d3] => { results := [.lit (.bool true)], args := [d1, d2, d3] }
  | _ => none }
def versionComparesRow : OpenClaim := { program := "ytlhnmafnioaojaadoor", sum := "f92c0ca535309bc716e56cbe6fba35d024178909ff138c21c4848b73d750f043", func := "chandler/chandlerlaw6.VersionCompares", spec := "versionCompares", inPlace := ["internal/bytealg.IndexByteString", "internal/bytealg.IndexString"], named := ["internal/bytealg.MaxLen", "unicode/utf8.first", "unicode/utf8.acceptRanges"], apart := false, laid := [("unicode/utf8.acceptRanges", laid_unicode_utf8_acceptRanges), ("unicode/utf8.first", laid_unicode_utf8_first)] }
def VersionComparesSaid : Prop := versionComparesRow.holds Tryd.pinned (OpenSpec.ofChange versionComparesSpec)

/-- ITS FALSE NEIGHBOUR: 'it returns false'. Refute it at one input. -/
def versionComparesWrong : ChangeSpec := { name := "versionCompares", fn := fun _ => fun
  | [d1, d2, d3] => { results := [.lit (.bool false)], args := [d1, d2, d3] }
  | _ => none }
def VersionComparesWrongFalsely : Prop := versionComparesRow.holds Tryd.pinned (OpenSpec.ofChange versionComparesWrong)

/- THE SECOND FORM. 'bulk': how many values and letters a reading holds, each counted each time it is reached (what is shared counts as often as it is met; a slice's spare places count too). A statement '..UptoSaid' is the law's where the arguments, and the package variables that the reading takes, are together of bulk at most 1048576: NARROWER than '..Said'. Prove '..Said' where nothing that the law and all that it calls make is longer than what came in: it says more and counts as full. Else prove '..UptoSaid'. A law counts once. -/
mutual
def uptoBulk {H : Type} : DataW H → Nat
  | .lit (.string bytes) => bytes.length + 1
  | .lit _ => 1
  | .nil => 1
  | .ptr d => uptoBulk d + 1
  | .slice elems spare => uptoBulkAll elems + uptoBulkAll spare + 1
  | .agg parts => uptoBulkAll parts + 1
  | .iface _ d => uptoBulk d + 1
  | .map entries => uptoBulkEntries entries + 1
  | .held _ => 1
def uptoBulkAll {H : Type} : List (DataW H) → Nat
  | [] => 0
  | d :: r => uptoBulk d + uptoBulkAll r
def uptoBulkEntries {H : Type} : List (Lit × DataW H) → Nat
  | [] => 0
  | x :: r => uptoBulkEntry x + uptoBulkEntries r
def uptoBulkEntry {H : Type} : Lit × DataW H → Nat
  | (.string bytes, d) => bytes.length + uptoBulk d + 1
  | (_, d) => uptoBulk d + 1
 end
def uptoSmall : (H : Type) → List (DataW H) → Bool := fun _ ds => decide (uptoBulkAll ds ≤ 1048576)
def OpenSpec.upto (s : _root_.Go.ChangeSpec) : _root_.Go.OpenSpec := { _root_.Go.OpenSpec.ofChange s with cond := some uptoSmall }

/-- 'chandlerlaw6.VersionParses', WHERE WHAT IT READS IS OF BULK AT MOST 1048576: true; the input reads as it did. -/
def versionParsesUptoRow : OpenClaim := { program := "ytlhnmafnioaojaadoor", sum := "f92c0ca535309bc716e56cbe6fba35d024178909ff138c21c4848b73d750f043", func := "chandler/chandlerlaw6.VersionParses", spec := "versionParses", inPlace := ["internal/bytealg.IndexByteString", "internal/bytealg.IndexString"], named := ["internal/bytealg.MaxLen", "unicode/utf8.first", "unicode/utf8.acceptRanges"], apart := false, laid := [("unicode/utf8.acceptRanges", laid_unicode_utf8_acceptRanges), ("unicode/utf8.first", laid_unicode_utf8_first)], narrowed := true }
def VersionParsesUptoSaid : Prop := versionParsesUptoRow.holds Tryd.pinned (OpenSpec.upto versionParsesSpec)

/-- 'chandlerlaw6.VersionParts', WHERE WHAT IT READS IS OF BULK AT MOST 1048576: true; the input reads as it did. -/
def versionPartsUptoRow : OpenClaim := { program := "ytlhnmafnioaojaadoor", sum := "f92c0ca535309bc716e56cbe6fba35d024178909ff138c21c4848b73d750f043", func := "chandler/chandlerlaw6.VersionParts", spec := "versionParts", inPlace := ["internal/bytealg.IndexByteString", "internal/bytealg.IndexString"], named := ["unicode/utf8.first", "unicode/utf8.acceptRanges", "internal/bytealg.MaxLen"], apart := false, laid := [("unicode/utf8.acceptRanges", laid_unicode_utf8_acceptRanges), ("unicode/utf8.first", laid_unicode_utf8_first)], narrowed := true }
def VersionPartsUptoSaid : Prop := versionPartsUptoRow.holds Tryd.pinned (OpenSpec.upto versionPartsSpec)

/-- 'chandlerlaw6.VersionTilde', WHERE WHAT IT READS IS OF BULK AT MOST 1048576: true; the input reads as it did. -/
def versionTildeUptoRow : OpenClaim := { program := "ytlhnmafnioaojaadoor", sum := "f92c0ca535309bc716e56cbe6fba35d024178909ff138c21c4848b73d750f043", func := "chandler/chandlerlaw6.VersionTilde", spec := "versionTilde", inPlace := ["internal/bytealg.IndexByteString", "internal/bytealg.IndexString"], named := ["internal/bytealg.MaxLen", "unicode/utf8.first", "unicode/utf8.acceptRanges"], apart := false, laid := [("unicode/utf8.acceptRanges", laid_unicode_utf8_acceptRanges), ("unicode/utf8.first", laid_unicode_utf8_first)], narrowed := true }
def VersionTildeUptoSaid : Prop := versionTildeUptoRow.holds Tryd.pinned (OpenSpec.upto versionTildeSpec)

/-- 'chandlerlaw6.VersionNoughts', WHERE WHAT IT READS IS OF BULK AT MOST 1048576: true; the input reads as it did. -/
def versionNoughtsUptoRow : OpenClaim := { program := "ytlhnmafnioaojaadoor", sum := "f92c0ca535309bc716e56cbe6fba35d024178909ff138c21c4848b73d750f043", func := "chandler/chandlerlaw6.VersionNoughts", spec := "versionNoughts", inPlace := ["internal/bytealg.IndexByteString", "internal/bytealg.IndexString"], named := ["unicode/utf8.first", "unicode/utf8.acceptRanges", "internal/bytealg.MaxLen"], apart := false, laid := [("unicode/utf8.acceptRanges", laid_unicode_utf8_acceptRanges), ("unicode/utf8.first", laid_unicode_utf8_first)], narrowed := true }
def VersionNoughtsUptoSaid : Prop := versionNoughtsUptoRow.holds Tryd.pinned (OpenSpec.upto versionNoughtsSpec)

/-- 'chandlerlaw6.VersionLong', WHERE WHAT IT READS IS OF BULK AT MOST 1048576: true; the input reads as it did. -/
def versionLongUptoRow : OpenClaim := { program := "ytlhnmafnioaojaadoor", sum := "f92c0ca535309bc716e56cbe6fba35d024178909ff138c21c4848b73d750f043", func := "chandler/chandlerlaw6.VersionLong", spec := "versionLong", inPlace := ["internal/bytealg.IndexByteString", "internal/bytealg.IndexString"], named := ["unicode/utf8.first", "unicode/utf8.acceptRanges", "internal/bytealg.MaxLen"], apart := false, laid := [("unicode/utf8.acceptRanges", laid_unicode_utf8_acceptRanges), ("unicode/utf8.first", laid_unicode_utf8_first)], narrowed := true }
def VersionLongUptoSaid : Prop := versionLongUptoRow.holds Tryd.pinned (OpenSpec.upto versionLongSpec)

/-- 'chandlerlaw6.VersionOrder', WHERE WHAT IT READS IS OF BULK AT MOST 1048576: true; the input reads as it did. -/
def versionOrderUptoRow : OpenClaim := { program := "ytlhnmafnioaojaadoor", sum := "f92c0ca535309bc716e56cbe6fba35d024178909ff138c21c4848b73d750f043", func := "chandler/chandlerlaw6.VersionOrder", spec := "versionOrder", inPlace := ["internal/bytealg.IndexByteString", "internal/bytealg.IndexString"], named := ["internal/bytealg.MaxLen", "unicode/utf8.first", "unicode/utf8.acceptRanges"], apart := false, laid := [("unicode/utf8.acceptRanges", laid_unicode_utf8_acceptRanges), ("unicode/utf8.first", laid_unicode_utf8_first)], narrowed := true }
def VersionOrderUptoSaid : Prop := versionOrderUptoRow.holds Tryd.pinned (OpenSpec.upto versionOrderSpec)

/-- 'chandlerlaw6.VersionEpochs', WHERE WHAT IT READS IS OF BULK AT MOST 1048576: true; the input reads as it did. -/
def versionEpochsUptoRow : OpenClaim := { program := "ytlhnmafnioaojaadoor", sum := "f92c0ca535309bc716e56cbe6fba35d024178909ff138c21c4848b73d750f043", func := "chandler/chandlerlaw6.VersionEpochs", spec := "versionEpochs", inPlace := ["internal/bytealg.IndexByteString", "internal/bytealg.IndexString"], named := ["internal/bytealg.MaxLen", "unicode/utf8.first", "unicode/utf8.acceptRanges"], apart := false, laid := [("unicode/utf8.acceptRanges", laid_unicode_utf8_acceptRanges), ("unicode/utf8.first", laid_unicode_utf8_first)], narrowed := true }
def VersionEpochsUptoSaid : Prop := versionEpochsUptoRow.holds Tryd.pinned (OpenSpec.upto versionEpochsSpec)

/-- 'chandlerlaw6.VersionSigns', WHERE WHAT IT READS IS OF BULK AT MOST 1048576: true; the input reads as it did. -/
def versionSignsUptoRow : OpenClaim := { program := "ytlhnmafnioaojaadoor", sum := "f92c0ca535309bc716e56cbe6fba35d024178909ff138c21c4848b73d750f043", func := "chandler/chandlerlaw6.VersionSigns", spec := "versionSigns", inPlace := ["internal/bytealg.IndexByteString", "internal/bytealg.IndexString"], named := ["internal/bytealg.MaxLen", "unicode/utf8.first", "unicode/utf8.acceptRanges"], apart := false, laid := [("unicode/utf8.acceptRanges", laid_unicode_utf8_acceptRanges), ("unicode/utf8.first", laid_unicode_utf8_first)], narrowed := true }
def VersionSignsUptoSaid : Prop := versionSignsUptoRow.holds Tryd.pinned (OpenSpec.upto versionSignsSpec)

/-- 'chandlerlaw6.VersionHolds', WHERE WHAT IT READS IS OF BULK AT MOST 1048576: true; the input reads as it did. -/
def versionHoldsUptoRow : OpenClaim := { program := "ytlhnmafnioaojaadoor", sum := "f92c0ca535309bc716e56cbe6fba35d024178909ff138c21c4848b73d750f043", func := "chandler/chandlerlaw6.VersionHolds", spec := "versionHolds", inPlace := ["internal/bytealg.IndexByteString", "internal/bytealg.IndexString"], unfollowed := true, recurses := true, named := ["internal/bytealg.MaxLen", "unicode/utf8.first", "unicode/utf8.acceptRanges"], apart := false, laid := [("unicode/utf8.acceptRanges", laid_unicode_utf8_acceptRanges), ("unicode/utf8.first", laid_unicode_utf8_first)], narrowed := true }
def VersionHoldsUptoSaid : Prop := versionHoldsUptoRow.holds Tryd.pinned (OpenSpec.upto versionHoldsSpec)

/-- 'chandlerlaw6.VersionCompares', WHERE WHAT IT READS IS OF BULK AT MOST 1048576: true; the input reads as it did. -/
def versionComparesUptoRow : OpenClaim := { program := "ytlhnmafnioaojaadoor", sum := "f92c0ca535309bc716e56cbe6fba35d024178909ff138c21c4848b73d750f043", func := "chandler/chandlerlaw6.VersionCompares", spec := "versionCompares", inPlace := ["internal/bytealg.IndexByteString", "internal/bytealg.IndexString"], named := ["internal/bytealg.MaxLen", "unicode/utf8.first", "unicode/utf8.acceptRanges"], apart := false, laid := [("unicode/utf8.acceptRanges", laid_unicode_utf8_acceptRanges), ("unicode/utf8.first", laid_unicode_utf8_first)], narrowed := true }
def VersionComparesUptoSaid : Prop := versionComparesUptoRow.holds Tryd.pinned (OpenSpec.upto versionComparesSpec)

end Rows
end Go.Proofs.YtlhnmafnioaojaaDoor
