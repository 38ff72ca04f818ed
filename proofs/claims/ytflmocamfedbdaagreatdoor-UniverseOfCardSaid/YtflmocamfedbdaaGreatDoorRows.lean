/-
  NARROWER THAN 'FOR EVERY INPUT', by the rows' own cells (each row's printed sentence says how): IndexSplits: laid · IndexGives: laid · IndexMeets: laid · IndexFinds: laid · UniverseOf: laid · UniverseGrows: laid · UniverseAll: laid · UniverseShuts: laid.
  DERIVED. THE GIVEN ROWS OF THIS SEAT. 8 by the template 'for every input the law returns true; each argument reads behind the call as it read before'; 0 by the template 'total and deterministic' (their statements: YtflmocamfedbdaaGreatDoorTotals.lean).
  GIVEN WITH THE SEED: the statements are not yours to turn. If you find one false, say at which input.
  Laid BY PROGRAM, IN A SANDBOX (cutbox-rows.mjs): the forced cells as the released guide's own fill.sh prints them over the translation 05f6531dbfbd117c… (all of the seat's roots in one cut). By AI agents, Wed Nov 11 2026. No macro, syntax, notation, axiom, sorry.
-/
import Derived.Test.YtflmocamfedbdaaGreatDoorChecked
import GoSem.PinnedTables
import GoSem.Claim
import GoSem.ClaimJoined
import GoSem.ClaimMapViews
import Derived.JoinedTies
import Derived.KernelRfl
namespace Go.Proofs.YtflmocamfedbdaaGreatDoor
/- THE CELL 'sum', in the pinned program and in every row, IS THE sha256 OF THE DUMP (.gsa) THAT YtflmocamfedbdaaGreatDoorProg.lean LOADS. Nothing in Lean hashes anything: it is a label: what it is worth is what the hold of that sum in a sandbox is worth. -/
noncomputable def Tryz.pinned : Pinned := { name := "ytflmocamfedbdaagreatdoor", sum := "05f6531dbfbd117c54b43baa5c0dfb5b347cca9d9d6370cb34e29bc75fb4fde4", checked := Tryz.checked }
namespace Rows
def none {H : Type} : Left H := { results := [], args := [] }

/- WHAT THE LISTED PACKAGE-LEVEL VARIABLES READ AS WHEN THE CALL BEGINS. Each datum BY PROGRAM (the guide's laid-datum.mjs) off the statement by which the dump's own 'gosem.cut.vars' lays the variable. In a bare row this is a premise. The card (YtflmocamfedbdaaGreatDoorCards.lean) ties it to the program's text. -/
def laid_unicode_utf8_acceptRanges {H : Type} : DataW H := .agg [.agg [.lit (.int .u8 128), .lit (.int .u8 191)], .agg [.lit (.int .u8 160), .lit (.int .u8 191)], .agg [.lit (.int .u8 128), .lit (.int .u8 159)], .agg [.lit (.int .u8 144), .lit (.int .u8 191)], .agg [.lit (.int .u8 128), .lit (.int .u8 143)], .agg [.lit (.int .u8 0), .lit (.int .u8 0)], .agg [.lit (.int .u8 0), .lit (.int .u8 0)], .agg [.lit (.int .u8 0), .lit (.int .u8 0)], .agg [.lit (.int .u8 0), .lit (.int .u8 0)], .agg [.lit (.int .u8 0), .lit (.int .u8 0)], .agg [.lit (.int .u8 0), .lit (.int .u8 0)], .agg [.lit (.int .u8 0), .lit (.int .u8 0)], .agg [.lit (.int .u8 0), .lit (.int .u8 0)], .agg [.lit (.int .u8 0), .lit (.int .u8 0)], .agg [.lit (.int .u8 0), .lit (.int .u8 0)], .agg [.lit (.int .u8 0), .lit (.int .u8 0)]]
/-- One of Go's own tables, pinned by name: the form's constant. -/
def laid_unicode_utf8_first : DataW Unit := Go.Pinned.utf8First

/-- 'chandlerlaw10.IndexSplits': WHATEVER THE INPUT: true; the input reads as it did. -/
def indexSplitsSpec : ChangeSpec := { name := "indexSplits", fn := fun _ => fun
  | [d1, d2] => { results := [.lit (.bool true)], args := [d1, d2] }
  | _ => none }
def indexSplitsRow : OpenClaim := { program := "ytflmocamfedbdaagreatdoor", sum := "05f6531dbfbd117c54b43baa5c0dfb5b347cca9d9d6370cb34e29bc75fb4fde4", func := "chandler/chandlerlaw10.IndexSplits", spec := "indexSplits", inPlace := ["internal/bytealg.IndexByteString", "internal/bytealg.IndexString"], unfollowed := true, recurses := true, named := ["internal/bytealg.MaxLen", "unicode/utf8.first", "unicode/utf8.acceptRanges"], apart := false, laid := [("unicode/utf8.acceptRanges", laid_unicode_utf8_acceptRanges), ("unicode/utf8.first", laid_unicode_utf8_first)] }
def IndexSplitsSaid : Prop := indexSplitsRow.holds Tryz.pinned (OpenSpec.ofChange indexSplitsSpec)

/-- ITS FALSE NEIGHBOUR: 'it returns false'. Refute it at one input. -/
def indexSplitsWrong : ChangeSpec := { name := "indexSplits", fn := fun _ => fun
  | [d1, d2] => { results := [.lit (.bool false)], args := [d1, d2] }
  | _ => none }
def IndexSplitsWrongFalsely : Prop := indexSplitsRow.holds Tryz.pinned (OpenSpec.ofChange indexSplitsWrong)

/-- 'chandlerlaw10.IndexGives': WHATEVER THE INPUT: true; the input reads as it did. -/
def indexGivesSpec : ChangeSpec := { name := "indexGives", fn := fun _ => fun
  | [d1, d2, d3, d4, d5] => { results := [.lit (.bool true)], args := [d1, d2, d3, d4, d5] }
  | _ => none }
def indexGivesRow : OpenClaim := { program := "ytflmocamfedbdaagreatdoor", sum := "05f6531dbfbd117c54b43baa5c0dfb5b347cca9d9d6370cb34e29bc75fb4fde4", func := "chandler/chandlerlaw10.IndexGives", spec := "indexGives", inPlace := ["internal/bytealg.IndexByteString", "internal/bytealg.IndexString"], unfollowed := true, recurses := true, named := ["internal/bytealg.MaxLen", "unicode/utf8.first", "unicode/utf8.acceptRanges"], apart := false, laid := [("unicode/utf8.acceptRanges", laid_unicode_utf8_acceptRanges), ("unicode/utf8.first", laid_unicode_utf8_first)] }
def IndexGivesSaid : Prop := indexGivesRow.holds Tryz.pinned (OpenSpec.ofChange indexGivesSpec)

/-- ITS FALSE NEIGHBOUR: 'it returns false'. Refute it at one input. -/
def indexGivesWrong : ChangeSpec := { name := "indexGives", fn := fun _ => fun
  | [d1, d2, d3, d4, d5] => { results := [.lit (.bool false)], args := [d1, d2, d3, d4, d5] }
  | _ => none }
def IndexGivesWrongFalsely : Prop := indexGivesRow.holds Tryz.pinned (OpenSpec.ofChange indexGivesWrong)

/-- 'chandlerlaw10.IndexMeets': WHATEVER THE INPUT: true; the input reads as it did. -/
def indexMeetsSpec : ChangeSpec := { name := "indexMeets", fn := fun _ => fun
  | [d1, d2, d3] => { results := [.lit (.bool true)], args := [d1, d2, d3] }
  | _ => none }
def indexMeetsRow : OpenClaim := { program := "ytflmocamfedbdaagreatdoor", sum := "05f6531dbfbd117c54b43baa5c0dfb5b347cca9d9d6370cb34e29bc75fb4fde4", func := "chandler/chandlerlaw10.IndexMeets", spec := "indexMeets", inPlace := ["internal/bytealg.IndexByteString", "internal/bytealg.IndexString"], unfollowed := true, recurses := true, named := ["internal/bytealg.MaxLen", "unicode/utf8.first", "unicode/utf8.acceptRanges"], apart := false, laid := [("unicode/utf8.acceptRanges", laid_unicode_utf8_acceptRanges), ("unicode/utf8.first", laid_unicode_utf8_first)] }
def IndexMeetsSaid : Prop := indexMeetsRow.holds Tryz.pinned (OpenSpec.ofChange indexMeetsSpec)

/-- ITS FALSE NEIGHBOUR: 'it returns false'. Refute it at one input. -/
def indexMeetsWrong : ChangeSpec := { name := "indexMeets", fn := fun _ => fun
  | [d1, d2, d3] => { results := [.lit (.bool false)], args := [d1, d2, d3] }
  | _ => none }
def IndexMeetsWrongFalsely : Prop := indexMeetsRow.holds Tryz.pinned (OpenSpec.ofChange indexMeetsWrong)

/-- 'chandlerlaw10.IndexFinds': WHATEVER THE INPUT: true; the input reads as it did. -/
def indexFindsSpec : ChangeSpec := { name := "indexFinds", fn := fun _ => fun
  | [d1, d2, d3, d4, d5] => { results := [.lit (.bool true)], args := [d1, d2, d3, d4, d5] }
  | _ => none }
def indexFindsRow : OpenClaim := { program := "ytflmocamfedbdaagreatdoor", sum := "05f6531dbfbd117c54b43baa5c0dfb5b347cca9d9d6370cb34e29bc75fb4fde4", func := "chandler/chandlerlaw10.IndexFinds", spec := "indexFinds", inPlace := ["internal/bytealg.IndexByteString", "internal/bytealg.IndexString"], unfollowed := true, recurses := true, named := ["internal/bytealg.MaxLen", "unicode/utf8.first", "unicode/utf8.acceptRanges"], apart := false, laid := [("unicode/utf8.acceptRanges", laid_unicode_utf8_acceptRanges), ("unicode/utf8.first", laid_unicode_utf8_first)] }
def IndexFindsSaid : Prop := indexFindsRow.holds Tryz.pinned (OpenSpec.ofChange indexFindsSpec)

/-- ITS FALSE NEIGHBOUR: 'it returns false'. Refute it at one input. -/
def indexFindsWrong : ChangeSpec := { name := "indexFinds", fn := fun _ => fun
  | [d1, d2, d3, d4, d5] => { results := [.lit (.bool false)], args := [d1, d2, d3, d4, d5] }
  | _ => none }
def IndexFindsWrongFalsely : Prop := indexFindsRow.holds Tryz.pinned (OpenSpec.ofChange indexFindsWrong)

/-- 'chandlerlaw12.UniverseOf': WHATEVER THE INPUT: true; the input reads as it did. -/
def universeOfSpec : ChangeSpec := { name := "universeOf", fn := fun _ => fun
  | [d1, d2, d3] => { results := [.lit (.bool true)], args := [d1, d2, d3] }
  | _ => none }
def universeOfRow : OpenClaim := { program := "ytflmocamfedbdaagreatdoor", sum := "05f6531dbfbd117c54b43baa5c0dfb5b347cca9d9d6370cb34e29bc75fb4fde4", func := "chandler/chandlerlaw12.UniverseOf", spec := "universeOf", inPlace := ["internal/bytealg.IndexByteString", "internal/bytealg.IndexString"], unfollowed := true, recurses := true, named := ["internal/bytealg.MaxLen", "unicode/utf8.first", "unicode/utf8.acceptRanges"], apart := false, laid := [("unicode/utf8.acceptRanges", laid_unicode_utf8_acceptRanges), ("unicode/utf8.first", laid_unicode_utf8_first)] }
def UniverseOfSaid : Prop := universeOfRow.holds Tryz.pinned (OpenSpec.ofChange universeOfSpec)

/-- ITS FALSE NEIGHBOUR: 'it returns false'. Refute it at one input. -/
def universeOfWrong : ChangeSpec := { name := "universeOf", fn := fun _ => fun
  | [d1, d2, d3] => { results := [.lit (.bool false)], args := [d1, d2, d3] }
  | _ => none }
def UniverseOfWrongFalsely : Prop := universeOfRow.holds Tryz.pinned (OpenSpec.ofChange universeOfWrong)

/-- 'chandlerlaw12.UniverseGrows': WHATEVER THE INPUT: true; the input reads as it did. -/
def universeGrowsSpec : ChangeSpec := { name := "universeGrows", fn := fun _ => fun
  | [d1, d2, d3, d4] => { results := [.lit (.bool true)], args := [d1, d2, d3, d4] }
  | _ => none }
def universeGrowsRow : OpenClaim := { program := "ytflmocamfedbdaagreatdoor", sum := "05f6531dbfbd117c54b43baa5c0dfb5b347cca9d9d6370cb34e29bc75fb4fde4", func := "chandler/chandlerlaw12.UniverseGrows", spec := "universeGrows", inPlace := ["internal/bytealg.IndexByteString", "internal/bytealg.IndexString"], unfollowed := true, recurses := true, named := ["internal/bytealg.MaxLen", "unicode/utf8.first", "unicode/utf8.acceptRanges"], apart := false, laid := [("unicode/utf8.acceptRanges", laid_unicode_utf8_acceptRanges), ("unicode/utf8.first", laid_unicode_utf8_first)] }
def UniverseGrowsSaid : Prop := universeGrowsRow.holds Tryz.pinned (OpenSpec.ofChange universeGrowsSpec)

/-- ITS FALSE NEIGHBOUR: 'it returns false'. Refute it at one input. -/
def universeGrowsWrong : ChangeSpec := { name := "universeGrows", fn := fun _ => fun
  | [d1, d2, d3, d4] => { results := [.lit (.bool false)], args := [d1, d2, d3, d4] }
  | _ => none }
def UniverseGrowsWrongFalsely : Prop := universeGrowsRow.holds Tryz.pinned (OpenSpec.ofChange universeGrowsWrong)

/-- 'chandlerlaw12.UniverseAll': WHATEVER THE INPUT: true; the input reads as it did. -/
def universeAllSpec : ChangeSpec := { name := "universeAll", fn := fun _ => fun
  | [d1, d2] => { results := [.lit (.bool true)], args := [d1, d2] }
  | _ => none }
def universeAllRow : OpenClaim := { program := "ytflmocamfedbdaagreatdoor", sum := "05f6531dbfbd117c54b43baa5c0dfb5b347cca9d9d6370cb34e29bc75fb4fde4", func := "chandler/chandlerlaw12.UniverseAll", spec := "universeAll", inPlace := ["internal/bytealg.IndexByteString", "internal/bytealg.IndexString"], unfollowed := true, recurses := true, named := ["internal/bytealg.MaxLen", "unicode/utf8.first", "unicode/utf8.acceptRanges"], apart := false, laid := [("unicode/utf8.acceptRanges", laid_unicode_utf8_acceptRanges), ("unicode/utf8.first", laid_unicode_utf8_first)] }
def UniverseAllSaid : Prop := universeAllRow.holds Tryz.pinned (OpenSpec.ofChange universeAllSpec)

/-- ITS FALSE NEIGHBOUR: 'it returns false'. Refute it at one input. -/
def universeAllWrong : ChangeSpec := { name := "universeAll", fn := fun _ => fun
  | [d1, d2] => { results := [.lit (.bool false)], args := [d1, d2] }
  | _ => none }
def UniverseAllWrongFalsely : Prop := universeAllRow.holds Tryz.pinned (OpenSpec.ofChange universeAllWrong)

/-- 'chandlerlaw12.UniverseShuts': WHATEVER THE INPUT: true; the input reads as it did. -/
def universeShutsSpec : ChangeSpec := { name := "universeShuts", fn := fun _ => fun
  | [d1, d2, d3, d4] => { results := [.lit (.bool true)], args := [d1, d2, d3, d4] }
  | _ => none }
def universeShutsRow : OpenClaim := { program := "ytflmocamfedbdaagreatdoor", sum := "05f6531dbfbd117c54b43baa5c0dfb5b347cca9d9d6370cb34e29bc75fb4fde4", func := "chandler/chandlerlaw12.UniverseShuts", spec := "universeShuts", inPlace := ["internal/bytealg.IndexByteString", "internal/bytealg.IndexString"], unfollowed := true, recurses := true, named := ["internal/bytealg.MaxLen", "unicode/utf8.first", "unicode/utf8.acceptRanges"], apart := false, laid := [("unicode/utf8.acceptRanges", laid_unicode_utf8_acceptRanges), ("unicode/utf8.first", laid_unicode_utf8_first)] }
def UniverseShutsSaid : Prop := universeShutsRow.holds Tryz.pinned (OpenSpec.ofChange universeShutsSpec)

/-- ITS FALSE NEIGHBOUR: 'it returns false'. Refute it at one input. -/
def universeShutsWrong : ChangeSpec := { name := "universeShuts", fn := fun _ => fun
  | [d1, d2, d3, d4] => { results := [.lit (.bool false)], args := [d1, d2, d3, d4] }
  | _ => none }
def UniverseShutsWrongFalsely : Prop := universeShutsRow.holds Tryz.pinned (OpenSpec.ofChange universeShutsWrong)

/- THE SECOND FORM. 'bulk': how many values and letters a reading holds, each counted each time it is reached (what is shared counts as often as it is met; a slice's spare places count too). A statement '..UptoSaid' is the law's where the arguments, and the package variables that the reading takes, are together of bulk at most 1048576: NARROWER than '..Said'. Prove '..Said' where nothing that the law and all that it calls make is longer than what came in: it says more and counts as full. Else prove '..UptoSaid'. A law counts once. -/
mutual
def uptoBulk {H : Type} : DataW H → Nat
  | .lit (.string bytes) => bytes.length + 1
  | .lit _ => 1
  | .nil => 1
  | .ptr d => uptoBulk d + 1
  | .slice elems spare => uptoBulkAll elems + uptoBulkAll spare + 1
  | .agg parts => uptoBulkAll parts + 1
  | .iface _ d => uptoBulk d + 1
  | .map entries => uptoBulkEntries entries + 1
  | .held _ => 1
def uptoBulkAll {H : Type} : List (DataW H) → Nat
  | [] => 0
  | d :: r => uptoBulk d + uptoBulkAll r
def uptoBulkEntries {H : Type} : List (Lit × DataW H) → Nat
  | [] => 0
  | x :: r => uptoBulkEntry x + uptoBulkEntries r
def uptoBulkEntry {H : Type} : Lit × DataW H → Nat
  | (.string bytes, d) => bytes.length + uptoBulk d + 1
  | (_, d) => uptoBulk d + 1
 end
def uptoSmall : (H : Type) → List (DataW H) → Bool := fun _ ds => decide (uptoBulkAll ds ≤ 1048576)
def OpenSpec.upto (s : _root_.Go.ChangeSpec) : _root_.Go.OpenSpec := { _root_.Go.OpenSpec.ofChange s with cond := some uptoSmall }

/-- 'chandlerlaw10.IndexSplits', WHERE WHAT IT READS IS OF BULK AT MOST 1048576: true; the input reads as it did. -/
def indexSplitsUptoRow : OpenClaim := { program := "ytflmocamfedbdaagreatdoor", sum := "05f6531dbfbd117c54b43baa5c0dfb5b347cca9d9d6370cb34e29bc75fb4fde4", func := "chandler/chandlerlaw10.IndexSplits", spec := "indexSplits", inPlace := ["internal/bytealg.IndexByteString", "internal/bytealg.IndexString"], unfollowed := true, recurses := true, named := ["internal/bytealg.MaxLen", "unicode/utf8.first", "unicode/utf8.acceptRanges"], apart := false, laid := [("unicode/utf8.acceptRanges", laid_unicode_utf8_acceptRanges), ("unicode/utf8.first", laid_unicode_utf8_first)], narrowed := true }
def IndexSplitsUptoSaid : Prop := indexSplitsUptoRow.holds Tryz.pinned (OpenSpec.upto indexSplitsSpec)

/-- 'chandlerlaw10.IndexGives', WHERE WHAT IT READS IS OF BULK AT MOST 1048576: true; the input reads as it did. -/
def indexGivesUptoRow : OpenClaim := { program := "ytflmocamfedbdaagreatdoor", sum := "05f6531dbfbd117c54b43baa5c0dfb5b347cca9d9d6370cb34e29bc75fb4fde4", func := "chandler/chandlerlaw10.IndexGives", spec := "indexGives", inPlace := ["internal/bytealg.IndexByteString", "internal/bytealg.IndexString"], unfollowed := true, recurses := true, named := ["internal/bytealg.MaxLen", "unicode/utf8.first", "unicode/utf8.acceptRanges"], apart := false, laid := [("unicode/utf8.acceptRanges", laid_unicode_utf8_acceptRanges), ("unicode/utf8.first", laid_unicode_utf8_first)], narrowed := true }
def IndexGivesUptoSaid : Prop := indexGivesUptoRow.holds Tryz.pinned (OpenSpec.upto indexGivesSpec)

/-- 'chandlerlaw10.IndexMeets', WHERE WHAT IT READS IS OF BULK AT MOST 1048576: true; the input reads as it did. -/
def indexMeetsUptoRow : OpenClaim := { program := "ytflmocamfedbdaagreatdoor", sum := "05f6531dbfbd117c54b43baa5c0dfb5b347cca9d9d6370cb34e29bc75fb4fde4", func := "chandler/chandlerlaw10.IndexMeets", spec := "indexMeets", inPlace := ["internal/bytealg.IndexByteString", "internal/bytealg.IndexString"], unfollowed := true, recurses := true, named := ["internal/bytealg.MaxLen", "unicode/utf8.first", "unicode/utf8.acceptRanges"], apart := false, laid := [("unicode/utf8.acceptRanges", laid_unicode_utf8_acceptRanges), ("unicode/utf8.first", laid_unicode_utf8_first)], narrowed := true }
def IndexMeetsUptoSaid : Prop := indexMeetsUptoRow.holds Tryz.pinned (OpenSpec.upto indexMeetsSpec)

/-- 'chandlerlaw10.IndexFinds', WHERE WHAT IT READS IS OF BULK AT MOST 1048576: true; the input reads as it did. -/
def indexFindsUptoRow : OpenClaim := { program := "ytflmocamfedbdaagreatdoor", sum := "05f6531dbfbd117c54b43baa5c0dfb5b347cca9d9d6370cb34e29bc75fb4fde4", func := "chandler/chandlerlaw10.IndexFinds", spec := "indexFinds", inPlace := ["internal/bytealg.IndexByteString", "internal/bytealg.IndexString"], unfollowed := true, recurses := true, named := ["internal/bytealg.MaxLen", "unicode/utf8.first", "unicode/utf8.acceptRanges"], apart := false, laid := [("unicode/utf8.acceptRanges", laid_unicode_utf8_acceptRanges), ("unicode/utf8.first", laid_unicode_utf8_first)], narrowed := true }
def IndexFindsUptoSaid : Prop := indexFindsUptoRow.holds Tryz.pinned (OpenSpec.upto indexFindsSpec)

/-- 'chandlerlaw12.UniverseOf', WHERE WHAT IT READS IS OF BULK AT MOST 1048576: true; the input reads as it did. -/
def universeOfUptoRow : OpenClaim := { program := "ytflmocamfedbdaagreatdoor", sum := "05f6531dbfbd117c54b43baa5c0dfb5b347cca9d9d6370cb34e29bc75fb4fde4", func := "chandler/chandlerlaw12.UniverseOf", spec := "universeOf", inPlace := ["internal/bytealg.IndexByteString", "internal/bytealg.IndexString"], unfollowed := true, recurses := true, named := ["internal/bytealg.MaxLen", "unicode/utf8.first", "unicode/utf8.acceptRanges"], apart := false, laid := [("unicode/utf8.acceptRanges", laid_unicode_utf8_acceptRanges), ("unicode/utf8.first", laid_unicode_utf8_first)], narrowed := true }
def UniverseOfUptoSaid : Prop := universeOfUptoRow.holds Tryz.pinned (OpenSpec.upto universeOfSpec)

/-- 'chandlerlaw12.UniverseGrows', WHERE WHAT IT READS IS OF BULK AT MOST 1048576: true; the input reads as it did. -/
def universeGrowsUptoRow : OpenClaim := { program := "ytflmocamfedbdaagreatdoor", sum := "05f6531dbfbd117c54b43baa5c0dfb5b347cca9d9d6370cb34e29bc75fb4fde4", func := "chandler/chandlerlaw12.UniverseGrows", spec := "universeGrows", inPlace := ["internal/bytealg.IndexByteString", "internal/bytealg.IndexString"], unfollowed := true, recurses := true, named := ["internal/bytealg.MaxLen", "unicode/utf8.first", "unicode/utf8.acceptRanges"], apart := false, laid := [("unicode/utf8.acceptRanges", laid_unicode_utf8_acceptRanges), ("unicode/utf8.first", laid_unicode_utf8_first)], narrowed := true }
def UniverseGrowsUptoSaid : Prop := universeGrowsUptoRow.holds Tryz.pinned (OpenSpec.upto universeGrowsSpec)

/-- 'chandlerlaw12.UniverseAll', WHERE WHAT IT READS IS OF BULK AT MOST 1048576: true; the input reads as it did. -/
def universeAllUptoRow : OpenClaim := { program := "ytflmocamfedbdaagreatdoor", sum := "05f6531dbfbd117c54b43baa5c0dfb5b347cca9d9d6370cb34e29bc75fb4fde4", func := "chandler/chandlerlaw12.UniverseAll", spec := "universeAll", inPlace := ["internal/bytealg.IndexByteString", "internal/bytealg.IndexString"], unfollowed := true, recurses := true, named := ["internal/bytealg.MaxLen", "unicode/utf8.first", "unicode/utf8.acceptRanges"], apart := false, laid := [("unicode/utf8.acceptRanges", laid_unicode_utf8_acceptRanges), ("unicode/utf8.first", laid_unicode_utf8_first)], narrowed := true }
def UniverseAllUptoSaid : Prop := universeAllUptoRow.holds Tryz.pinned (OpenSpec.upto universeAllSpec)

/-- 'chandlerlaw12.UniverseShuts', WHERE WHAT IT READS IS OF BULK AT MOST 1048576: true; the input reads as it did. -/
def universeShutsUptoRow : OpenClaim := { program := "ytflmocamfedbdaagreatdoor", sum := "05f6531dbfbd117c54b43baa5c0dfb5b347cca9d9d6370cb34e29bc75fb4fde4", func := "chandler/chandlerlaw12.UniverseShuts", spec := "universeShuts", inPlace := ["internal/bytealg.IndexByteString", "internal/bytealg.IndexString"], unfollowed := true, recurses := true, named := ["internal/bytealg.MaxLen", "unicode/utf8.first", "unicode/utf8.acceptRanges"], apart := false, laid := [("unicode/utf8.acceptRanges", laid_unicode_utf8_acceptRanges), ("unicode/utf8.first", laid_unicode_utf8_first)], narrowed := true }
def UniverseShutsUptoSaid : Prop := universeShutsUptoRow.holds Tryz.pinned (OpenSpec.upto universeShutsSpec)

end Rows
end Go.Proofs.YtflmocamfedbdaaGreatDoor
