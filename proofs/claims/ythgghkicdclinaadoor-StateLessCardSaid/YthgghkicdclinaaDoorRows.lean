/-
  NARROWER THAN 'FOR EVERY INPUT', by the rows' own cells (each row's printed sentence says how): StateWrong: laid · StateWithin: laid · StateLess: laid · CostOf: laid · CostStays: laid · CostTurned: laid · CostAdds: laid · CostLess: laid · StateSound: laid · StateFinds: laid.
  DERIVED. THE GIVEN ROWS OF THIS SEAT. 10 by the template 'for every input the law returns true; each argument reads behind the call as it read before'; 0 by the template 'total and deterministic' (their statements: YthgghkicdclinaaDoorTotals.lean).
  GIVEN WITH THE SEED: the statements are not yours to turn. If you find one false, say at which input.
  Laid BY PROGRAM, IN A SANDBOX (cutbox-rows.mjs): the forced cells as the released guide's own fill.sh prints them over the translation 1778f935ac017b43… (all of the seat's roots in one cut). By AI agents, Wed Nov 11 2026. No macro, syntax, notation, axiom, sorry.
-/
import Derived.Test.YthgghkicdclinaaDoorChecked
import GoSem.PinnedTables
import GoSem.Claim
import GoSem.ClaimJoined
import GoSem.ClaimMapViews
import Derived.JoinedTies
import Derived.KernelRfl
namespace Go.Proofs.YthgghkicdclinaaDoor
/- THE CELL 'sum', in the pinned program and in every row, IS THE sha256 OF THE DUMP (.gsa) THAT YthgghkicdclinaaDoorProg.lean LOADS. Nothing in Lean hashes anything: it is a label: what it is worth is what the hold of that sum in a sandbox is worth. -/
noncomputable def Tryd.pinned : Pinned := { name := "ythgghkicdclinaadoor", sum := "1778f935ac017b43f76205913b33f7b672187a50bb083c4df63e90089277a99b", checked := Tryd.checked }
namespace Rows
def none {H : Type} : Left H := { results := [], args := [] }

/- WHAT THE LISTED PACKAGE-LEVEL VARIABLES READ AS WHEN THE CALL BEGINS. Each datum BY PROGRAM (the guide's laid-datum.mjs) off the statement by which the dump's own 'gosem.cut.vars' lays the variable. In a bare row this is a premise. The card (YthgghkicdclinaaDoorCards.lean) ties it to the program's text. -/
def laid_unicode_utf8_acceptRanges {H : Type} : DataW H := .agg [.agg [.lit (.int .u8 128), .lit (.int .u8 191)], .agg [.lit (.int .u8 160), .lit (.int .u8 191)], .agg [.lit (.int .u8 128), .lit (.int .u8 159)], .agg [.lit (.int .u8 144), .lit (.int .u8 191)], .agg [.lit (.int .u8 128), .lit (.int .u8 143)], .agg [.lit (.int .u8 0), .lit (.int .u8 0)], .agg [.lit (.int .u8 0), .lit (.int .u8 0)], .agg [.lit (.int .u8 0), .lit (.int .u8 0)], .agg [.lit (.int .u8 0), .lit (.int .u8 0)], .agg [.lit (.int .u8 0), .lit (.int .u8 0)], .agg [.lit (.int .u8 0), .lit (.int .u8 0)], .agg [.lit (.int .u8 0), .lit (.int .u8 0)], .agg [.lit (.int .u8 0), .lit (.int .u8 0)], .agg [.lit (.int .u8 0), .lit (.int .u8 0)], .agg [.lit (.int .u8 0), .lit (.int .u8 0)], .agg [.lit (.int .u8 0), .lit (.int .u8 0)]]
/-- One of Go's own tables, pinned by name: the form's constant. -/
def laid_unicode_utf8_first : DataW Unit := Go.Pinned.utf8First

/-- 'chandlerlaw11.StateWrong': WHATEVER THE INPUT: true; the input reads as it did. -/
def stateWrongSpec : ChangeSpec := { name := "stateWrong", fn := fun _ => fun
  | [d] => { results := [.lit (.bool true)], args := [d] }
  | _ => none }
def stateWrongRow : OpenClaim := { program := "ythgghkicdclinaadoor", sum := "1778f935ac017b43f76205913b33f7b672187a50bb083c4df63e90089277a99b", func := "chandler/chandlerlaw11.StateWrong", spec := "stateWrong", inPlace := ["internal/bytealg.IndexByteString", "internal/bytealg.IndexString"], unfollowed := true, recurses := true, named := ["internal/bytealg.MaxLen", "unicode/utf8.first", "unicode/utf8.acceptRanges"], apart := false, laid := [("unicode/utf8.acceptRanges", laid_unicode_utf8_acceptRanges), ("unicode/utf8.first", laid_unicode_utf8_first)] }
def StateWrongSaid : Prop := stateWrongRow.holds Tryd.pinned (OpenSpec.ofChange stateWrongSpec)

/-- ITS FALSE NEIGHBOUR: 'it returns false'. Refute it at one input. -/
def stateWrongWrong : ChangeSpec := { name := "stateWrong", fn := fun _ => fun
  | [d] => { results := [.lit (.bool false)], args := [d] }
  | _ => none }
def StateWrongWrongFalsely : Prop := stateWrongRow.holds Tryd.pinned (OpenSpec.ofChange stateWrongWrong)

/-- 'chandlerlaw11.StateWithin': WHATEVER THE INPUT: true; the input reads as it did. -/
def stateWithinSpec : ChangeSpec := { name := "stateWithin", fn := fun _ => fun
  | [d1, d2] => { results := [.lit (.bool true)], args := [d1, d2] }
  | _ => none }
def stateWithinRow : OpenClaim := { program := "ythgghkicdclinaadoor", sum := "1778f935ac017b43f76205913b33f7b672187a50bb083c4df63e90089277a99b", func := "chandler/chandlerlaw11.StateWithin", spec := "stateWithin", inPlace := ["internal/bytealg.IndexByteString", "internal/bytealg.IndexString"], unfollowed := true, recurses := true, named := ["internal/bytealg.MaxLen", "unicode/utf8.first", "unicode/utf8.acceptRanges"], apart := false, laid := [("unicode/utf8.acceptRanges", laid_unicode_utf8_acceptRanges), ("unicode/utf8.first", laid_unicode_utf8_first)] }
def StateWithinSaid : Prop := stateWithinRow.holds Tryd.pinned (OpenSpec.ofChange stateWithinSpec)

/-- ITS FALSE NEIGHBOUR: 'it returns false'. Refute it at one input. -/
def stateWithinWrong : ChangeSpec := { name := "stateWithin", fn := fun _ => fun
  | [d1, d2] => { results := [.lit (.bool false)], args := [d1, d2] }
  | _ => none }
def StateWithinWrongFalsely : Prop := stateWithinRow.holds Tryd.pinned (OpenSpec.ofChange stateWithinWrong)

/-- 'chandlerlaw11.StateLess': WHATEVER THE INPUT: true; the input reads as it did. -/
def stateLessSpec : ChangeSpec := { name := "stateLess", fn := fun _ => fun
  | [d1, d2, d3] => { results := [.lit (.bool true)], args := [d1, d2, d3] }
  | _ => none }
def stateLessRow : OpenClaim := { program := "ythgghkicdclinaadoor", sum := "1778f935ac017b43f76205913b33f7b672187a50bb083c4df63e90089277a99b", func := "chandler/chandlerlaw11.StateLess", spec := "stateLess", inPlace := ["internal/bytealg.IndexByteString", "internal/bytealg.IndexString"], unfollowed := true, recurses := true, named := ["internal/bytealg.MaxLen", "unicode/utf8.first", "unicode/utf8.acceptRanges"], apart := false, laid := [("unicode/utf8.acceptRanges", laid_unicode_utf8_acceptRanges), ("unicode/utf8.first", laid_unicode_utf8_first)] }
def StateLessSaid : Prop := stateLessRow.holds Tryd.pinned (OpenSpec.ofChange stateLessSpec)

/-- ITS FALSE NEIGHBOUR: 'it returns false'. Refute it at one input. -/
def stateLessWrong : ChangeSpec := { name := "stateLess", fn := fun _ => fun
  | [d1, d2, d3] => { results := [.lit (.bool false)], args := [d1, d2, d3] }
  | _ => none }
def StateLessWrongFalsely : Prop := stateLessRow.holds Tryd.pinned (OpenSpec.ofChange stateLessWrong)

/-- 'chandlerlaw16.CostOf': WHATEVER THE INPUT: true; the input reads as it did. -/
def costOfSpec : ChangeSpec := { name := "costOf", fn := fun _ => fun
  | [d1, d2, d3, d4] => { results := [.lit (.bool true)], args := [d1, d2, d3, d4] }
  | _ => none }
def costOfRow : OpenClaim := { program := "ythgghkicdclinaadoor", sum := "1778f935ac017b43f76205913b33f7b672187a50bb083c4df63e90089277a99b", func := "chandler/chandlerlaw16.CostOf", spec := "costOf", inPlace := ["internal/bytealg.IndexByteString", "internal/bytealg.IndexString"], unfollowed := true, recurses := true, named := ["internal/bytealg.MaxLen", "unicode/utf8.first", "unicode/utf8.acceptRanges"], apart := false, laid := [("unicode/utf8.acceptRanges", laid_unicode_utf8_acceptRanges), ("unicode/utf8.first", laid_unicode_utf8_first)] }
def CostOfSaid : Prop := costOfRow.holds Tryd.pinned (OpenSpec.ofChange costOfSpec)

/-- ITS FALSE NEIGHBOUR: 'it returns false'. Refute it at one input. -/
def costOfWrong : ChangeSpec := { name := "costOf", fn := fun _ => fun
  | [d1, d2, d3, d4] => { results := [.lit (.bool false)], args := [d1, d2, d3, d4] }
  | _ => none }
def CostOfWrongFalsely : Prop := costOfRow.holds Tryd.pinned (OpenSpec.ofChange costOfWrong)

/-- 'chandlerlaw16.CostStays': WHATEVER THE INPUT: true; the input reads as it did. -/
def costStaysSpec : ChangeSpec := { name := "costStays", fn := fun _ => fun
  | [d1, d2, d3] => { results := [.lit (.bool true)], args := [d1, d2, d3] }
  | _ => none }
def costStaysRow : OpenClaim := { program := "ythgghkicdclinaadoor", sum := "1778f935ac017b43f76205913b33f7b672187a50bb083c4df63e90089277a99b", func := "chandler/chandlerlaw16.CostStays", spec := "costStays", inPlace := ["internal/bytealg.IndexByteString", "internal/bytealg.IndexString"], unfollowed := true, recurses := true, named := ["internal/bytealg.MaxLen", "unicode/utf8.first", "unicode/utf8.acceptRanges"], apart := false, laid := [("unicode/utf8.acceptRanges", laid_unicode_utf8_acceptRanges), ("unicode/utf8.first", laid_unicode_utf8_first)] }
def CostStaysSaid : Prop := costStaysRow.holds Tryd.pinned (OpenSpec.ofChange costStaysSpec)

/-- ITS FALSE NEIGHBOUR: 'it returns false'. Refute it at one input. -/
def costStaysWrong : ChangeSpec := { name := "costStays", fn := fun _ => fun
  | [d1, d2, d3] => { results := [.lit (.bool false)], args := [d1, d2, d3] }
  | _ => none }
def CostStaysWrongFalsely : Prop := costStaysRow.holds Tryd.pinned (OpenSpec.ofChange costStaysWrong)

/-- 'chandlerlaw16.CostTurned': WHATEVER THE INPUT: true; the input reads as it did. -/
def costTurnedSpec : ChangeSpec := { name := "costTurned", fn := fun _ => fun
  | [d1, d2, d3, d4] => { results := [.lit (.bool true)], args := [d1, d2, d3, d4] }
  | _ => none }
def costTurnedRow : OpenClaim := { program := "ythgghkicdclinaadoor", sum := "1778f935ac017b43f76205913b33f7b672187a50bb083c4df63e90089277a99b", func := "chandler/chandlerlaw16.CostTurned", spec := "costTurned", inPlace := ["internal/bytealg.IndexByteString", "internal/bytealg.IndexString"], unfollowed := true, recurses := true, named := ["internal/bytealg.MaxLen", "unicode/utf8.first", "unicode/utf8.acceptRanges"], apart := false, laid := [("unicode/utf8.acceptRanges", laid_unicode_utf8_acceptRanges), ("unicode/utf8.first", laid_unicode_utf8_first)] }
def CostTurnedSaid : Prop := costTurnedRow.holds Tryd.pinned (OpenSpec.ofChange costTurnedSpec)

/-- ITS FALSE NEIGHBOUR: 'it returns false'. Refute it at one input. -/
def costTurnedWrong : ChangeSpec := { name := "costTurned", fn := fun _ => fun
  | [d1, d2, d3, d4] => { results := [.lit (.bool false)], args := [d1, d2, d3, d4] }
  | _ => none }
def CostTurnedWrongFalsely : Prop := costTurnedRow.holds Tryd.pinned (OpenSpec.ofChange costTurnedWrong)

/-- 'chandlerlaw16.CostAdds': WHATEVER THE INPUT: true; the input reads as it did. -/
def costAddsSpec : ChangeSpec := { name := "costAdds", fn := fun _ => fun
  | [d1, d2, d3, d4] => { results := [.lit (.bool true)], args := [d1, d2, d3, d4] }
  | _ => none }
def costAddsRow : OpenClaim := { program := "ythgghkicdclinaadoor", sum := "1778f935ac017b43f76205913b33f7b672187a50bb083c4df63e90089277a99b", func := "chandler/chandlerlaw16.CostAdds", spec := "costAdds", inPlace := ["internal/bytealg.IndexByteString", "internal/bytealg.IndexString"], unfollowed := true, recurses := true, named := ["internal/bytealg.MaxLen", "unicode/utf8.first", "unicode/utf8.acceptRanges"], apart := false, laid := [("unicode/utf8.acceptRanges", laid_unicode_utf8_acceptRanges), ("unicode/utf8.first", laid_unicode_utf8_first)] }
def CostAddsSaid : Prop := costAddsRow.holds Tryd.pinned (OpenSpec.ofChange costAddsSpec)

/-- ITS FALSE NEIGHBOUR: 'it returns false'. Refute it at one input. -/
def costAddsWrong : ChangeSpec := { name := "costAdds", fn := fun _ => fun
  | [d1, d2, d3, d4] => { results := [.lit (.bool false)], args := [d1, d2, d3, d4] }
  | _ => none }
def CostAddsWrongFalsely : Prop := costAddsRow.holds Tryd.pinned (OpenSpec.ofChange costAddsWrong)

/-- 'chandlerlaw16.CostLess': WHATEVER THE INPUT: true; the input reads as it did. -/
def costLessSpec : ChangeSpec := { name := "costLess", fn := fun _ => fun
  | [d1, d2, d3] => { results := [.lit (.bool true)], args := [d1, d2, d3] }
  | _ => none }
def costLessRow : OpenClaim := { program := "ythgghkicdclinaadoor", sum := "1778f935ac017b43f76205913b33f7b672187a50bb083c4df63e90089277a99b", func := "chandler/chandlerlaw16.CostLess", spec := "costLess", inPlace := ["internal/bytealg.IndexByteString", "internal/bytealg.IndexString"], unfollowed := true, recurses := true, named := ["internal/bytealg.MaxLen", "unicode/utf8.first", "unicode/utf8.acceptRanges"], apart := false, laid := [("unicode/utf8.acceptRanges", laid_unicode_utf8_acceptRanges), ("unicode/utf8.first", laid_unicode_utf8_first)] }
def CostLessSaid : Prop := costLessRow.holds Tryd.pinned (OpenSpec.ofChange costLessSpec)

/-- ITS FALSE NEIGHBOUR: 'it returns false'. Refute it at one input. -/
def costLessWrong : ChangeSpec := { name := "costLess", fn := fun _ => fun
  | [d1, d2, d3] => { results := [.lit (.bool false)], args := [d1, d2, d3] }
  | _ => none }
def CostLessWrongFalsely : Prop := costLessRow.holds Tryd.pinned (OpenSpec.ofChange costLessWrong)

/-- 'chandlerlaw11.StateSound': WHATEVER THE INPUT: true; the input reads as it did. -/
def stateSoundSpec : ChangeSpec := { name := "stateSound", fn := fun _ => fun
  | [d1, d2] => { results := [.lit (.bool true)], args := [d1, d2] }
  | _ => none }
def stateSoundRow : OpenClaim := { program := "ythgghkicdclinaadoor", sum := "1778f935ac017b43f76205913b33f7b672187a50bb083c4df63e90089277a99b", func := "chandler/chandlerlaw11.StateSound", spec := "stateSound", inPlace := ["internal/bytealg.IndexByteString", "internal/bytealg.IndexString"], unfollowed := true, recurses := true, named := ["internal/bytealg.MaxLen", "unicode/utf8.first", "unicode/utf8.acceptRanges"], apart := false, laid := [("unicode/utf8.acceptRanges", laid_unicode_utf8_acceptRanges), ("unicode/utf8.first", laid_unicode_utf8_first)] }
def StateSoundSaid : Prop := stateSoundRow.holds Tryd.pinned (OpenSpec.ofChange stateSoundSpec)

/-- ITS FALSE NEIGHBOUR: 'it returns false'. Refute it at one input. -/
def stateSoundWrong : ChangeSpec := { name := "stateSound", fn := fun _ => fun
  | [d1, d2] => { results := [.lit (.bool false)], args := [d1, d2] }
  | _ => none }
def StateSoundWrongFalsely : Prop := stateSoundRow.holds Tryd.pinned (OpenSpec.ofChange stateSoundWrong)

/-- 'chandlerlaw11.StateFinds': WHATEVER THE INPUT: true; the input reads as it did. -/
def stateFindsSpec : ChangeSpec := { name := "stateFinds", fn := fun _ => fun
  | [d1, d2, d3, d4] => { results := [.lit (.bool true)], args := [d1, d2, d3, d4] }
  | _ => none }
def stateFindsRow : OpenClaim := { program := "ythgghkicdclinaadoor", sum := "1778f935ac017b43f76205913b33f7b672187a50bb083c4df63e90089277a99b", func := "chandler/chandlerlaw11.StateFinds", spec := "stateFinds", inPlace := ["internal/bytealg.IndexByteString", "internal/bytealg.IndexString"], unfollowed := true, recurses := true, named := ["internal/bytealg.MaxLen", "unicode/utf8.first", "unicode/utf8.acceptRanges"], apart := false, laid := [("unicode/utf8.acceptRanges", laid_unicode_utf8_acceptRanges), ("unicode/utf8.first", laid_unicode_utf8_first)] }
def StateFindsSaid : Prop := stateFindsRow.holds Tryd.pinned (OpenSpec.ofChange stateFindsSpec)

/-- ITS FALSE NEIGHBOUR: 'it returns false'. Refute it at one input. -/
def stateFindsWrong : ChangeSpec := { name := "stateFinds", fn := fun _ => fun
  | [d1, d2, d3, d4] => { results := [.lit (.bool false)], args := [d1, d2, d3, d4] }
  | _ => none }
def StateFindsWrongFalsely : Prop := stateFindsRow.holds Tryd.pinned (OpenSpec.ofChange stateFindsWrong)

/- THE SECOND FORM. 'bulk': how many values and letters a reading holds, each counted each time it is reached (what is shared counts as often as it is met; a slice's spare places count too). A statement '..UptoSaid' is the law's where the arguments, and the package variables that the reading takes, are together of bulk at most 1048576: NARROWER than '..Said'. Prove '..Said' where nothing that the law and all that it calls make is longer than what came in: it says more and counts as full. Else prove '..UptoSaid'. A law counts once. -/
mutual
def uptoBulk {H : Type} : DataW H → Nat
  | .lit (.string bytes) => bytes.length + 1
  | .lit _ => 1
  | .nil => 1
  | .ptr d => uptoBulk d + 1
  | .slice elems spare => uptoBulkAll elems + uptoBulkAll spare + 1
  | .agg parts => uptoBulkAll parts + 1
  | .iface _ d => uptoBulk d + 1
  | .map entries => uptoBulkEntries entries + 1
  | .held _ => 1
def uptoBulkAll {H : Type} : List (DataW H) → Nat
  | [] => 0
  | d :: r => uptoBulk d + uptoBulkAll r
def uptoBulkEntries {H : Type} : List (Lit × DataW H) → Nat
  | [] => 0
  | x :: r => uptoBulkEntry x + uptoBulkEntries r
def uptoBulkEntry {H : Type} : Lit × DataW H → Nat
  | (.string bytes, d) => bytes.length + uptoBulk d + 1
  | (_, d) => uptoBulk d + 1
 end
def uptoSmall : (H : Type) → List (DataW H) → Bool := fun _ ds => decide (uptoBulkAll ds ≤ 1048576)
def OpenSpec.upto (s : _root_.Go.ChangeSpec) : _root_.Go.OpenSpec := { _root_.Go.OpenSpec.ofChange s with cond := some uptoSmall }

/-- 'chandlerlaw11.StateWrong', WHERE WHAT IT READS IS OF BULK AT MOST 1048576: true; the input reads as it did. -/
def stateWrongUptoRow : OpenClaim := { program := "ythgghkicdclinaadoor", sum := "1778f935ac017b43f76205913b33f7b672187a50bb083c4df63e90089277a99b", func := "chandler/chandlerlaw11.StateWrong", spec := "stateWrong", inPlace := ["internal/bytealg.IndexByteString", "internal/bytealg.IndexString"], unfollowed := true, recurses := true, named := ["internal/bytealg.MaxLen", "unicode/utf8.first", "unicode/utf8.acceptRanges"], apart := false, laid := [("unicode/utf8.acceptRanges", laid_unicode_utf8_acceptRanges), ("unicode/utf8.first", laid_unicode_utf8_first)], narrowed := true }
def StateWrongUptoSaid : Prop := stateWrongUptoRow.holds Tryd.pinned (OpenSpec.upto stateWrongSpec)

/-- 'chandlerlaw11.StateWithin', WHERE WHAT IT READS IS OF BULK AT MOST 1048576: true; the input reads as it did. -/
def stateWithinUptoRow : OpenClaim := { program := "ythgghkicdclinaadoor", sum := "1778f935ac017b43f76205913b33f7b672187a50bb083c4df63e90089277a99b", func := "chandler/chandlerlaw11.StateWithin", spec := "stateWithin", inPlace := ["internal/bytealg.IndexByteString", "internal/bytealg.IndexString"], unfollowed := true, recurses := true, named := ["internal/bytealg.MaxLen", "unicode/utf8.first", "unicode/utf8.acceptRanges"], apart := false, laid := [("unicode/utf8.acceptRanges", laid_unicode_utf8_acceptRanges), ("unicode/utf8.first", laid_unicode_utf8_first)], narrowed := true }
def StateWithinUptoSaid : Prop := stateWithinUptoRow.holds Tryd.pinned (OpenSpec.upto stateWithinSpec)

/-- 'chandlerlaw11.StateLess', WHERE WHAT IT READS IS OF BULK AT MOST 1048576: true; the input reads as it did. -/
def stateLessUptoRow : OpenClaim := { program := "ythgghkicdclinaadoor", sum := "1778f935ac017b43f76205913b33f7b672187a50bb083c4df63e90089277a99b", func := "chandler/chandlerlaw11.StateLess", spec := "stateLess", inPlace := ["internal/bytealg.IndexByteString", "internal/bytealg.IndexString"], unfollowed := true, recurses := true, named := ["internal/bytealg.MaxLen", "unicode/utf8.first", "unicode/utf8.acceptRanges"], apart := false, laid := [("unicode/utf8.acceptRanges", laid_unicode_utf8_acceptRanges), ("unicode/utf8.first", laid_unicode_utf8_first)], narrowed := true }
def StateLessUptoSaid : Prop := stateLessUptoRow.holds Tryd.pinned (OpenSpec.upto stateLessSpec)

/-- 'chandlerlaw16.CostOf', WHERE WHAT IT READS IS OF BULK AT MOST 1048576: true; the input reads as it did. -/
def costOfUptoRow : OpenClaim := { program := "ythgghkicdclinaadoor", sum := "1778f935ac017b43f76205913b33f7b672187a50bb083c4df63e90089277a99b", func := "chandler/chandlerlaw16.CostOf", spec := "costOf", inPlace := ["internal/bytealg.IndexByteString", "internal/bytealg.IndexString"], unfollowed := true, recurses := true, named := ["internal/bytealg.MaxLen", "unicode/utf8.first", "unicode/utf8.acceptRanges"], apart := false, laid := [("unicode/utf8.acceptRanges", laid_unicode_utf8_acceptRanges), ("unicode/utf8.first", laid_unicode_utf8_first)], narrowed := true }
def CostOfUptoSaid : Prop := costOfUptoRow.holds Tryd.pinned (OpenSpec.upto costOfSpec)

/-- 'chandlerlaw16.CostStays', WHERE WHAT IT READS IS OF BULK AT MOST 1048576: true; the input reads as it did. -/
def costStaysUptoRow : OpenClaim := { program := "ythgghkicdclinaadoor", sum := "1778f935ac017b43f76205913b33f7b672187a50bb083c4df63e90089277a99b", func := "chandler/chandlerlaw16.CostStays", spec := "costStays", inPlace := ["internal/bytealg.IndexByteString", "internal/bytealg.IndexString"], unfollowed := true, recurses := true, named := ["internal/bytealg.MaxLen", "unicode/utf8.first", "unicode/utf8.acceptRanges"], apart := false, laid := [("unicode/utf8.acceptRanges", laid_unicode_utf8_acceptRanges), ("unicode/utf8.first", laid_unicode_utf8_first)], narrowed := true }
def CostStaysUptoSaid : Prop := costStaysUptoRow.holds Tryd.pinned (OpenSpec.upto costStaysSpec)

/-- 'chandlerlaw16.CostTurned', WHERE WHAT IT READS IS OF BULK AT MOST 1048576: true; the input reads as it did. -/
def costTurnedUptoRow : OpenClaim := { program := "ythgghkicdclinaadoor", sum := "1778f935ac017b43f76205913b33f7b672187a50bb083c4df63e90089277a99b", func := "chandler/chandlerlaw16.CostTurned", spec := "costTurned", inPlace := ["internal/bytealg.IndexByteString", "internal/bytealg.IndexString"], unfollowed := true, recurses := true, named := ["internal/bytealg.MaxLen", "unicode/utf8.first", "unicode/utf8.acceptRanges"], apart := false, laid := [("unicode/utf8.acceptRanges", laid_unicode_utf8_acceptRanges), ("unicode/utf8.first", laid_unicode_utf8_first)], narrowed := true }
def CostTurnedUptoSaid : Prop := costTurnedUptoRow.holds Tryd.pinned (OpenSpec.upto costTurnedSpec)

/-- 'chandlerlaw16.CostAdds', WHERE WHAT IT READS IS OF BULK AT MOST 1048576: true; the input reads as it did. -/
def costAddsUptoRow : OpenClaim := { program := "ythgghkicdclinaadoor", sum := "1778f935ac017b43f76205913b33f7b672187a50bb083c4df63e90089277a99b", func := "chandler/chandlerlaw16.CostAdds", spec := "costAdds", inPlace := ["internal/bytealg.IndexByteString", "internal/bytealg.IndexString"], unfollowed := true, recurses := true, named := ["internal/bytealg.MaxLen", "unicode/utf8.first", "unicode/utf8.acceptRanges"], apart := false, laid := [("unicode/utf8.acceptRanges", laid_unicode_utf8_acceptRanges), ("unicode/utf8.first", laid_unicode_utf8_first)], narrowed := true }
def CostAddsUptoSaid : Prop := costAddsUptoRow.holds Tryd.pinned (OpenSpec.upto costAddsSpec)

/-- 'chandlerlaw16.CostLess', WHERE WHAT IT READS IS OF BULK AT MOST 1048576: true; the input reads as it did. -/
def costLessUptoRow : OpenClaim := { program := "ythgghkicdclinaadoor", sum := "1778f935ac017b43f76205913b33f7b672187a50bb083c4df63e90089277a99b", func := "chandler/chandlerlaw16.CostLess", spec := "costLess", inPlace := ["internal/bytealg.IndexByteString", "internal/bytealg.IndexString"], unfollowed := true, recurses := true, named := ["internal/bytealg.MaxLen", "unicode/utf8.first", "unicode/utf8.acceptRanges"], apart := false, laid := [("unicode/utf8.acceptRanges", laid_unicode_utf8_acceptRanges), ("unicode/utf8.first", laid_unicode_utf8_first)], narrowed := true }
def CostLessUptoSaid : Prop := costLessUptoRow.holds Tryd.pinned (OpenSpec.upto costLessSpec)

/-- 'chandlerlaw11.StateSound', WHERE WHAT IT READS IS OF BULK AT MOST 1048576: true; the input reads as it did. -/
def stateSoundUptoRow : OpenClaim := { program := "ythgghkicdclinaadoor", sum := "1778f935ac017b43f76205913b33f7b672187a50bb083c4df63e90089277a99b", func := "chandler/chandlerlaw11.StateSound", spec := "stateSound", inPlace := ["internal/bytealg.IndexByteString", "internal/bytealg.IndexString"], unfollowed := true, recurses := true, named := ["internal/bytealg.MaxLen", "unicode/utf8.first", "unicode/utf8.acceptRanges"], apart := false, laid := [("unicode/utf8.acceptRanges", laid_unicode_utf8_acceptRanges), ("unicode/utf8.first", laid_unicode_utf8_first)], narrowed := true }
def StateSoundUptoSaid : Prop := stateSoundUptoRow.holds Tryd.pinned (OpenSpec.upto stateSoundSpec)

/-- 'chandlerlaw11.StateFinds', WHERE WHAT IT READS IS OF BULK AT MOST 1048576: true; the input reads as it did. -/
def stateFindsUptoRow : OpenClaim := { program := "ythgghkicdclinaadoor", sum := "1778f935ac017b43f76205913b33f7b672187a50bb083c4df63e90089277a99b", func := "chandler/chandlerlaw11.StateFinds", spec := "stateFinds", inPlace := ["internal/bytealg.IndexByteString", "internal/bytealg.IndexString"], unfollowed := true, recurses := true, named := ["internal/bytealg.MaxLen", "unicode/utf8.first", "unicode/utf8.acceptRanges"], apart := false, laid := [("unicode/utf8.acceptRanges", laid_unicode_utf8_acceptRanges), ("unicode/utf8.first", laid_unicode_utf8_first)], narrowed := true }
def StateFindsUptoSaid : Prop := stateFindsUptoRow.holds Tryd.pinned (OpenSpec.upto stateFindsSpec)

end Rows
end Go.Proofs.YthgghkicdclinaaDoor
