/-
  NARROWER THAN 'FOR EVERY INPUT', by the rows' own cells (each row's printed sentence says how): StepDoes: laid · StepSafe: laid · StepUndoes: laid · StepRuns: laid · StepMany: laid · StepAll: laid · StepListed: laid · StepTexts: laid · RequestMeets: laid · RequestStays: laid · RequestGuards: laid · RequestAdds: laid.
  DERIVED. THE GIVEN ROWS OF THIS SEAT. 12 by the template 'for every input the law returns true; each argument reads behind the call as it read before'; 0 by the template 'total and deterministic' (their statements: YtaicidbopgnmfaaGreatDoorTotals.lean).
  GIVEN WITH THE SEED: the statements are not yours to turn. If you find one false, say at which input.
  Laid BY PROGRAM, IN A SANDBOX (cutbox-rows.mjs): the forced cells as the released guide's own fill.sh prints them over the translation 4c276c03f7446223… (all of the seat's roots in one cut). By AI agents, Wed Nov 11 2026. No macro, syntax, notation, axiom, sorry.
-/
import Derived.Test.YtaicidbopgnmfaaGreatDoorChecked
import GoSem.PinnedTables
import GoSem.Claim
import GoSem.ClaimJoined
import GoSem.ClaimMapViews
import Derived.JoinedTies
import Derived.KernelRfl
namespace Go.Proofs.YtaicidbopgnmfaaGreatDoor
/- THE CELL 'sum', in the pinned program and in every row, IS THE sha256 OF THE DUMP (.gsa) THAT YtaicidbopgnmfaaGreatDoorProg.lean LOADS. Nothing in Lean hashes anything: it is a label: what it is worth is what the hold of that sum in a sandbox is worth. -/
noncomputable def Tryz.pinned : Pinned := { name := "ytaicidbopgnmfaagreatdoor", sum := "4c276c03f74462238967a79c313827f0034c67a2c167d6079a20eff173496478", checked := Tryz.checked }
namespace Rows
def none {H : Type} : Left H := { results := [], args := [] }

/- WHAT THE LISTED PACKAGE-LEVEL VARIABLES READ AS WHEN THE CALL BEGINS. Each datum BY PROGRAM (the guide's laid-datum.mjs) off the statement by which the dump's own 'gosem.cut.vars' lays the variable. In a bare row this is a premise. The card (YtaicidbopgnmfaaGreatDoorCards.lean) ties it to the program's text. -/
def laid_unicode_utf8_acceptRanges {H : Type} : DataW H := .agg [.agg [.lit (.int .u8 128), .lit (.int .u8 191)], .agg [.lit (.int .u8 160), .lit (.int .u8 191)], .agg [.lit (.int .u8 128), .lit (.int .u8 159)], .agg [.lit (.int .u8 144), .lit (.int .u8 191)], .agg [.lit (.int .u8 128), .lit (.int .u8 143)], .agg [.lit (.int .u8 0), .lit (.int .u8 0)], .agg [.lit (.int .u8 0), .lit (.int .u8 0)], .agg [.lit (.int .u8 0), .lit (.int .u8 0)], .agg [.lit (.int .u8 0), .lit (.int .u8 0)], .agg [.lit (.int .u8 0), .lit (.int .u8 0)], .agg [.lit (.int .u8 0), .lit (.int .u8 0)], .agg [.lit (.int .u8 0), .lit (.int .u8 0)], .agg [.lit (.int .u8 0), .lit (.int .u8 0)], .agg [.lit (.int .u8 0), .lit (.int .u8 0)], .agg [.lit (.int .u8 0), .lit (.int .u8 0)], .agg [.lit (.int .u8 0), .lit (.int .u8 0)]]
/-- One of Go's own tables, pinned by name: the form's constant. -/
def laid_unicode_utf8_first : DataW Unit := Go.Pinned.utf8First

/-- 'chandlerlaw22.StepDoes': WHATEVER THE INPUT: true; the input reads as it did. -/
def stepDoesSpec : ChangeSpec := { name := "stepDoes", fn := fun _ => fun
  | [d1, d2, d3] => { results := [.lit (.bool true)], args := [d1, d2, d3] }
  | _ => none }
def stepDoesRow : OpenClaim := { program := "ytaicidbopgnmfaagreatdoor", sum := "4c276c03f74462238967a79c313827f0034c67a2c167d6079a20eff173496478", func := "chandler/chandlerlaw22.StepDoes", spec := "stepDoes", inPlace := ["internal/bytealg.IndexByteString", "internal/bytealg.IndexString"], unfollowed := true, recurses := true, named := ["internal/bytealg.MaxLen", "unicode/utf8.first", "unicode/utf8.acceptRanges"], apart := false, laid := [("unicode/utf8.acceptRanges", laid_unicode_utf8_acceptRanges), ("unicode/utf8.first", laid_unicode_utf8_first)] }
def StepDoesSaid : Prop := stepDoesRow.holds Tryz.pinned (OpenSpec.ofChange stepDoesSpec)

/-- ITS FALSE NEIGHBOUR: 'it returns false'. Refute it at one input. -/
def stepDoesWrong : ChangeSpec := { name := "stepDoes", fn := fun _ => fun
  | [d1, d2, d3] => { results := [.lit (.bool false)], args := [d1, d2, d3] }
  | _ => none }
def StepDoesWrongFalsely : Prop := stepDoesRow.holds Tryz.pinned (OpenSpec.ofChange stepDoesWrong)

/-- 'chandlerlaw22.StepSafe': WHATEVER THE INPUT: true; the input reads as it did. -/
def stepSafeSpec : ChangeSpec := { name := "stepSafe", fn := fun _ => fun
  | [d1, d2, d3] => { results := [.lit (.bool true)], args := [d1, d2, d3] }
  | _ => none }
def stepSafeRow : OpenClaim := { program := "ytaicidbopgnmfaagreatdoor", sum := "4c276c03f74462238967a79c313827f0034c67a2c167d6079a20eff173496478", func := "chandler/chandlerlaw22.StepSafe", spec := "stepSafe", inPlace := ["internal/bytealg.IndexByteString", "internal/bytealg.IndexString"], unfollowed := true, recurses := true, named := ["internal/bytealg.MaxLen", "unicode/utf8.first", "unicode/utf8.acceptRanges"], apart := false, laid := [("unicode/utf8.acceptRanges", laid_unicode_utf8_acceptRanges), ("unicode/utf8.first", laid_unicode_utf8_first)] }
def StepSafeSaid : Prop := stepSafeRow.holds Tryz.pinned (OpenSpec.ofChange stepSafeSpec)

/-- ITS FALSE NEIGHBOUR: 'it returns false'. Refute it at one input. -/
def stepSafeWrong : ChangeSpec := { name := "stepSafe", fn := fun _ => fun
  | [d1, d2, d3] => { results := [.lit (.bool false)], args := [d1, d2, d3] }
  | _ => none }
def StepSafeWrongFalsely : Prop := stepSafeRow.holds Tryz.pinned (OpenSpec.ofChange stepSafeWrong)

/-- 'chandlerlaw22.StepUndoes': WHATEVER THE INPUT: true; the input reads as it did. -/
def stepUndoesSpec : ChangeSpec := { name := "stepUndoes", fn := fun _ => fun
  | [d1, d2, d3] => { results := [.lit (.bool true)], args := [d1, d2, d3] }
  | _ => none }
def stepUndoesRow : OpenClaim := { program := "ytaicidbopgnmfaagreatdoor", sum := "4c276c03f74462238967a79c313827f0034c67a2c167d6079a20eff173496478", func := "chandler/chandlerlaw22.StepUndoes", spec := "stepUndoes", inPlace := ["internal/bytealg.IndexByteString", "internal/bytealg.IndexString"], unfollowed := true, recurses := true, named := ["internal/bytealg.MaxLen", "unicode/utf8.first", "unicode/utf8.acceptRanges"], apart := false, laid := [("unicode/utf8.acceptRanges", laid_unicode_utf8_acceptRanges), ("unicode/utf8.first", laid_unicode_utf8_first)] }
def StepUndoesSaid : Prop := stepUndoesRow.holds Tryz.pinned (OpenSpec.ofChange stepUndoesSpec)

/-- ITS FALSE NEIGHBOUR: 'it returns false'. Refute it at one input. -/
def stepUndoesWrong : ChangeSpec := { name := "stepUndoes", fn := fun _ => fun
  | [d1, d2, d3] => { results := [.lit (.bool false)], args := [d1, d2, d3] }
  | _ => none }
def StepUndoesWrongFalsely : Prop := stepUndoesRow.holds Tryz.pinned (OpenSpec.ofChange stepUndoesWrong)

/-- 'chandlerlaw22.StepRuns': WHATEVER THE INPUT: true; the input reads as it did. -/
def stepRunsSpec : ChangeSpec := { name := "stepRuns", fn := fun _ => fun
  | [d1, d2, d3] => { results := [.lit (.bool true)], args := [d1, d2, d3] }
  | _ => none }
def stepRunsRow : OpenClaim := { program := "ytaicidbopgnmfaagreatdoor", sum := "4c276c03f74462238967a79c313827f0034c67a2c167d6079a20eff173496478", func := "chandler/chandlerlaw22.StepRuns", spec := "stepRuns", inPlace := ["internal/bytealg.IndexByteString", "internal/bytealg.IndexString"], unfollowed := true, recurses := true, named := ["internal/bytealg.MaxLen", "unicode/utf8.first", "unicode/utf8.acceptRanges"], apart := false, laid := [("unicode/utf8.acceptRanges", laid_unicode_utf8_acceptRanges), ("unicode/utf8.first", laid_unicode_utf8_first)] }
def StepRunsSaid : Prop := stepRunsRow.holds Tryz.pinned (OpenSpec.ofChange stepRunsSpec)

/-- ITS FALSE NEIGHBOUR: 'it returns false'. Refute it at one input. -/
def stepRunsWrong : ChangeSpec := { name := "stepRuns", fn := fun _ => fun
  | [d1, d2, d3] => { results := [.lit (.bool false)], args := [d1, d2, d3] }
  | _ => none }
def StepRunsWrongFalsely : Prop := stepRunsRow.holds Tryz.pinned (OpenSpec.ofChange stepRunsWrong)

/-- 'chandlerlaw22.StepMany': WHATEVER THE INPUT: true; the input reads as it did. -/
def stepManySpec : ChangeSpec := { name := "stepMany", fn := fun _ => fun
  | [d] => { results := [.lit (.bool true)], args := [d] }
  | _ => none }
def stepManyRow : OpenClaim := { program := "ytaicidbopgnmfaagreatdoor", sum := "4c276c03f74462238967a79c313827f0034c67a2c167d6079a20eff173496478", func := "chandler/chandlerlaw22.StepMany", spec := "stepMany", inPlace := ["internal/bytealg.IndexByteString", "internal/bytealg.IndexString"], unfollowed := true, recurses := true, named := ["internal/bytealg.MaxLen", "unicode/utf8.first", "unicode/utf8.acceptRanges"], apart := false, laid := [("unicode/utf8.acceptRanges", laid_unicode_utf8_acceptRanges), ("unicode/utf8.first", laid_unicode_utf8_first)] }
def StepManySaid : Prop := stepManyRow.holds Tryz.pinned (OpenSpec.ofChange stepManySpec)

/-- ITS FALSE NEIGHBOUR: 'it returns false'. Refute it at one input. -/
def stepManyWrong : ChangeSpec := { name := "stepMany", fn := fun _ => fun
  | [d] => { results := [.lit (.bool false)], args := [d] }
  | _ => none }
def StepManyWrongFalsely : Prop := stepManyRow.holds Tryz.pinned (OpenSpec.ofChange stepManyWrong)

/-- 'chandlerlaw22.StepAll': WHATEVER THE INPUT: true; the input reads as it did. -/
def stepAllSpec : ChangeSpec := { name := "stepAll", fn := fun _ => fun
  | [d1, d2] => { results := [.lit (.bool true)], args := [d1, d2] }
  | _ => none }
def stepAllRow : OpenClaim := { program := "ytaicidbopgnmfaagreatdoor", sum := "4c276c03f74462238967a79c313827f0034c67a2c167d6079a20eff173496478", func := "chandler/chandlerlaw22.StepAll", spec := "stepAll", inPlace := ["internal/bytealg.IndexByteString", "internal/bytealg.IndexString"], unfollowed := true, recurses := true, named := ["internal/bytealg.MaxLen", "unicode/utf8.first", "unicode/utf8.acceptRanges"], apart := false, laid := [("unicode/utf8.acceptRanges", laid_unicode_utf8_acceptRanges), ("unicode/utf8.first", laid_unicode_utf8_first)] }
def StepAllSaid : Prop := stepAllRow.holds Tryz.pinned (OpenSpec.ofChange stepAllSpec)

/-- ITS FALSE NEIGHBOUR: 'it returns false'. Refute it at one input. -/
def stepAllWrong : ChangeSpec := { name := "stepAll", fn := fun _ => fun
  | [d1, d2] => { results := [.lit (.bool false)], args := [d1, d2] }
  | _ => none }
def StepAllWrongFalsely : Prop := stepAllRow.holds Tryz.pinned (OpenSpec.ofChange stepAllWrong)

/-- 'chandlerlaw22.StepListed': WHATEVER THE INPUT: true; the input reads as it did. -/
def stepListedSpec : ChangeSpec := { name := "stepListed", fn := fun _ => fun
  | [d1, d2, d3] => { results := [.lit (.bool true)], args := [d1, d2, d3] }
  | _ => none }
def stepListedRow : OpenClaim := { program := "ytaicidbopgnmfaagreatdoor", sum := "4c276c03f74462238967a79c313827f0034c67a2c167d6079a20eff173496478", func := "chandler/chandlerlaw22.StepListed", spec := "stepListed", inPlace := ["internal/bytealg.IndexByteString", "internal/bytealg.IndexString"], unfollowed := true, recurses := true, named := ["internal/bytealg.MaxLen", "unicode/utf8.first", "unicode/utf8.acceptRanges"], apart := false, laid := [("unicode/utf8.acceptRanges", laid_unicode_utf8_acceptRanges), ("unicode/utf8.first", laid_unicode_utf8_first)] }
def StepListedSaid : Prop := stepListedRow.holds Tryz.pinned (OpenSpec.ofChange stepListedSpec)

/-- ITS FALSE NEIGHBOUR: 'it returns false'. Refute it at one input. -/
def stepListedWrong : ChangeSpec := { name := "stepListed", fn := fun _ => fun
  | [d1, d2, d3] => { results := [.lit (.bool false)], args := [d1, d2, d3] }
  | _ => none }
def StepListedWrongFalsely : Prop := stepListedRow.holds Tryz.pinned (OpenSpec.ofChange stepListedWrong)

/-- 'chandlerlaw22.StepTexts': WHATEVER THE INPUT: true; the input reads as it did. -/
def stepTextsSpec : ChangeSpec := { name := "stepTexts", fn := fun _ => fun
  | [d1, d2, d3] => { results := [.lit (.bool true)], args := [d1, d2, d3] }
  | _ => none }
def stepTextsRow : OpenClaim := { program := "ytaicidbopgnmfaagreatdoor", sum := "4c276c03f74462238967a79c313827f0034c67a2c167d6079a20eff173496478", func := "chandler/chandlerlaw22.StepTexts", spec := "stepTexts", inPlace := ["internal/bytealg.IndexByteString", "internal/bytealg.IndexString"], unfollowed := true, recurses := true, named := ["internal/bytealg.MaxLen", "unicode/utf8.first", "unicode/utf8.acceptRanges"], apart := false, laid := [("unicode/utf8.acceptRanges", laid_unicode_utf8_acceptRanges), ("unicode/utf8.first", laid_unicode_utf8_first)] }
def StepTextsSaid : Prop := stepTextsRow.holds Tryz.pinned (OpenSpec.ofChange stepTextsSpec)

/-- ITS FALSE NEIGHBOUR: 'it returns false'. Refute it at one input. -/
def stepTextsWrong : ChangeSpec := { name := "stepTexts", fn := fun _ => fun
  | [d1, d2, d3] => { results := [.lit (.bool false)], args := [d1, d2, d3] }
  | _ => none }
def StepTextsWrongFalsely : Prop := stepTextsRow.holds Tryz.pinned (OpenSpec.ofChange stepTextsWrong)

/-- 'chandlerlaw17.RequestMeets': WHATEVER THE INPUT: true; the input reads as it did. -/
def requestMeetsSpec : ChangeSpec := { name := "requestMeets", fn := fun _ => fun
  | [d1, d2, d3] => { results := [.lit (.bool true)], args := [d1, d2, d3] }
  | _ => none }
def requestMeetsRow : OpenClaim := { program := "ytaicidbopgnmfaagreatdoor", sum := "4c276c03f74462238967a79c313827f0034c67a2c167d6079a20eff173496478", func := "chandler/chandlerlaw17.RequestMeets", spec := "requestMeets", inPlace := ["internal/bytealg.CountString", "internal/bytealg.IndexByteString", "internal/bytealg.IndexString"], unfollowed := true, recurses := true, named := ["unicode/utf8.first", "unicode/utf8.acceptRanges", "internal/bytealg.MaxLen"], apart := false, laid := [("unicode/utf8.acceptRanges", laid_unicode_utf8_acceptRanges), ("unicode/utf8.first", laid_unicode_utf8_first)] }
def RequestMeetsSaid : Prop := requestMeetsRow.holds Tryz.pinned (OpenSpec.ofChange requestMeetsSpec)

/-- ITS FALSE NEIGHBOUR: 'it returns false'. Refute it at one input. -/
def requestMeetsWrong : ChangeSpec := { name := "requestMeets", fn := fun _ => fun
  | [d1, d2, d3] => { results := [.lit (.bool false)], args := [d1, d2, d3] }
  | _ => none }
def RequestMeetsWrongFalsely : Prop := requestMeetsRow.holds Tryz.pinned (OpenSpec.ofChange requestMeetsWrong)

/-- 'chandlerlaw17.RequestStays': WHATEVER THE INPUT: true; the input reads as it did. -/
def requestStaysSpec : ChangeSpec := { name := "requestStays", fn := fun _ => fun
  | [d1, d2, d3] => { results := [.lit (.bool true)], args := [d1, d2, d3] }
  | _ => none }
def requestStaysRow : OpenClaim := { program := "ytaicidbopgnmfaagreatdoor", sum := "4c276c03f74462238967a79c313827f0034c67a2c167d6079a20eff173496478", func := "chandler/chandlerlaw17.RequestStays", spec := "requestStays", inPlace := ["internal/bytealg.CountString", "internal/bytealg.IndexByteString", "internal/bytealg.IndexString"], unfollowed := true, recurses := true, named := ["unicode/utf8.first", "unicode/utf8.acceptRanges", "internal/bytealg.MaxLen"], apart := false, laid := [("unicode/utf8.acceptRanges", laid_unicode_utf8_acceptRanges), ("unicode/utf8.first", laid_unicode_utf8_first)] }
def RequestStaysSaid : Prop := requestStaysRow.holds Tryz.pinned (OpenSpec.ofChange requestStaysSpec)

/-- ITS FALSE NEIGHBOUR: 'it returns false'. Refute it at one input. -/
def requestStaysWrong : ChangeSpec := { name := "requestStays", fn := fun _ => fun
  | [d1, d2, d3] => { results := [.lit (.bool false)], args := [d1, d2, d3] }
  | _ => none }
def RequestStaysWrongFalsely : Prop := requestStaysRow.holds Tryz.pinned (OpenSpec.ofChange requestStaysWrong)

/-- 'chandlerlaw17.RequestGuards': WHATEVER THE INPUT: true; the input reads as it did. -/
def requestGuardsSpec : ChangeSpec := { name := "requestGuards", fn := fun _ => fun
  | [d1, d2, d3] => { results := [.lit (.bool true)], args := [d1, d2, d3] }
  | _ => none }
def requestGuardsRow : OpenClaim := { program := "ytaicidbopgnmfaagreatdoor", sum := "4c276c03f74462238967a79c313827f0034c67a2c167d6079a20eff173496478", func := "chandler/chandlerlaw17.RequestGuards", spec := "requestGuards", inPlace := ["internal/bytealg.CountString", "internal/bytealg.IndexByteString", "internal/bytealg.IndexString"], unfollowed := true, recurses := true, named := ["unicode/utf8.first", "unicode/utf8.acceptRanges", "internal/bytealg.MaxLen"], apart := false, laid := [("unicode/utf8.acceptRanges", laid_unicode_utf8_acceptRanges), ("unicode/utf8.first", laid_unicode_utf8_first)] }
def RequestGuardsSaid : Prop := requestGuardsRow.holds Tryz.pinned (OpenSpec.ofChange requestGuardsSpec)

/-- ITS FALSE NEIGHBOUR: 'it returns false'. Refute it at one input. -/
def requestGuardsWrong : ChangeSpec := { name := "requestGuards", fn := fun _ => fun
  | [d1, d2, d3] => { results := [.lit (.bool false)], args := [d1, d2, d3] }
  | _ => none }
def RequestGuardsWrongFalsely : Prop := requestGuardsRow.holds Tryz.pinned (OpenSpec.ofChange requestGuardsWrong)

/-- 'chandlerlaw17.RequestAdds': WHATEVER THE INPUT: true; the input reads as it did. -/
def requestAddsSpec : ChangeSpec := { name := "requestAdds", fn := fun _ => fun
  | [d1, d2, d3, d4] => { results := [.lit (.bool true)], args := [d1, d2, d3, d4] }
  | _ => none }
def requestAddsRow : OpenClaim := { program := "ytaicidbopgnmfaagreatdoor", sum := "4c276c03f74462238967a79c313827f0034c67a2c167d6079a20eff173496478", func := "chandler/chandlerlaw17.RequestAdds", spec := "requestAdds", inPlace := ["internal/bytealg.CountString", "internal/bytealg.IndexByteString", "internal/bytealg.IndexString"], unfollowed := true, recurses := true, named := ["unicode/utf8.first", "unicode/utf8.acceptRanges", "internal/bytealg.MaxLen"], apart := false, laid := [("unicode/utf8.acceptRanges", laid_unicode_utf8_acceptRanges), ("unicode/utf8.first", laid_unicode_utf8_first)] }
def RequestAddsSaid : Prop := requestAddsRow.holds Tryz.pinned (OpenSpec.ofChange requestAddsSpec)

/-- ITS FALSE NEIGHBOUR: 'it returns false'. Refute it at one input. -/
def requestAddsWrong : ChangeSpec := { name := "requestAdds", fn := fun _ => fun
  | [d1, d2, d3, d4] => { results := [.lit (.bool false)], args := [d1, d2, d3, d4] }
  | _ => none }
def RequestAddsWrongFalsely : Prop := requestAddsRow.holds Tryz.pinned (OpenSpec.ofChange requestAddsWrong)

/- THE SECOND FORM. 'bulk': how many values and letters a reading holds, each counted each time it is reached (what is shared counts as often as it is met; a slice's spare places count too). A statement '..UptoSaid' is the law's where the arguments, and the package variables that the reading takes, are together of bulk at most 1048576: NARROWER than '..Said'. Prove '..Said' where nothing that the law and all that it calls make is longer than what came in: it says more and counts as full. Else prove '..UptoSaid'. A law counts once. -/
mutual
def uptoBulk {H : Type} : DataW H → Nat
  | .lit (.string bytes) => bytes.length + 1
  | .lit _ => 1
  | .nil => 1
  | .ptr d => uptoBulk d + 1
  | .slice elems spare => uptoBulkAll elems + uptoBulkAll spare + 1
  | .agg parts => uptoBulkAll parts + 1
  | .iface _ d => uptoBulk d + 1
  | .map entries => uptoBulkEntries entries + 1
  | .held _ => 1
def uptoBulkAll {H : Type} : List (DataW H) → Nat
  | [] => 0
  | d :: r => uptoBulk d + uptoBulkAll r
def uptoBulkEntries {H : Type} : List (Lit × DataW H) → Nat
  | [] => 0
  | x :: r => uptoBulkEntry x + uptoBulkEntries r
def uptoBulkEntry {H : Type} : Lit × DataW H → Nat
  | (.string bytes, d) => bytes.length + uptoBulk d + 1
  | (_, d) => uptoBulk d + 1
 end
def uptoSmall : (H : Type) → List (DataW H) → Bool := fun _ ds => decide (uptoBulkAll ds ≤ 1048576)
def OpenSpec.upto (s : _root_.Go.ChangeSpec) : _root_.Go.OpenSpec := { _root_.Go.OpenSpec.ofChange s with cond := some uptoSmall }

/-- 'chandlerlaw22.StepDoes', WHERE WHAT IT READS IS OF BULK AT MOST 1048576: true; the input reads as it did. -/
def stepDoesUptoRow : OpenClaim := { program := "ytaicidbopgnmfaagreatdoor", sum := "4c276c03f74462238967a79c313827f0034c67a2c167d6079a20eff173496478", func := "chandler/chandlerlaw22.StepDoes", spec := "stepDoes", inPlace := ["internal/bytealg.IndexByteString", "internal/bytealg.IndexString"], unfollowed := true, recurses := true, named := ["internal/bytealg.MaxLen", "unicode/utf8.first", "unicode/utf8.acceptRanges"], apart := false, laid := [("unicode/utf8.acceptRanges", laid_unicode_utf8_acceptRanges), ("unicode/utf8.first", laid_unicode_utf8_first)], narrowed := true }
def StepDoesUptoSaid : Prop := stepDoesUptoRow.holds Tryz.pinned (OpenSpec.upto stepDoesSpec)

/-- 'chandlerlaw22.StepSafe', WHERE WHAT IT READS IS OF BULK AT MOST 1048576: true; the input reads as it did. -/
def stepSafeUptoRow : OpenClaim := { program := "ytaicidbopgnmfaagreatdoor", sum := "4c276c03f74462238967a79c313827f0034c67a2c167d6079a20eff173496478", func := "chandler/chandlerlaw22.StepSafe", spec := "stepSafe", inPlace := ["internal/bytealg.IndexByteString", "internal/bytealg.IndexString"], unfollowed := true, recurses := true, named := ["internal/bytealg.MaxLen", "unicode/utf8.first", "unicode/utf8.acceptRanges"], apart := false, laid := [("unicode/utf8.acceptRanges", laid_unicode_utf8_acceptRanges), ("unicode/utf8.first", laid_unicode_utf8_first)], narrowed := true }
def StepSafeUptoSaid : Prop := stepSafeUptoRow.holds Tryz.pinned (OpenSpec.upto stepSafeSpec)

/-- 'chandlerlaw22.StepUndoes', WHERE WHAT IT READS IS OF BULK AT MOST 1048576: true; the input reads as it did. -/
def stepUndoesUptoRow : OpenClaim := { program := "ytaicidbopgnmfaagreatdoor", sum := "4c276c03f74462238967a79c313827f0034c67a2c167d6079a20eff173496478", func := "chandler/chandlerlaw22.StepUndoes", spec := "stepUndoes", inPlace := ["internal/bytealg.IndexByteString", "internal/bytealg.IndexString"], unfollowed := true, recurses := true, named := ["internal/bytealg.MaxLen", "unicode/utf8.first", "unicode/utf8.acceptRanges"], apart := false, laid := [("unicode/utf8.acceptRanges", laid_unicode_utf8_acceptRanges), ("unicode/utf8.first", laid_unicode_utf8_first)], narrowed := true }
def StepUndoesUptoSaid : Prop := stepUndoesUptoRow.holds Tryz.pinned (OpenSpec.upto stepUndoesSpec)

/-- 'chandlerlaw22.StepRuns', WHERE WHAT IT READS IS OF BULK AT MOST 1048576: true; the input reads as it did. -/
def stepRunsUptoRow : OpenClaim := { program := "ytaicidbopgnmfaagreatdoor", sum := "4c276c03f74462238967a79c313827f0034c67a2c167d6079a20eff173496478", func := "chandler/chandlerlaw22.StepRuns", spec := "stepRuns", inPlace := ["internal/bytealg.IndexByteString", "internal/bytealg.IndexString"], unfollowed := true, recurses := true, named := ["internal/bytealg.MaxLen", "unicode/utf8.first", "unicode/utf8.acceptRanges"], apart := false, laid := [("unicode/utf8.acceptRanges", laid_unicode_utf8_acceptRanges), ("unicode/utf8.first", laid_unicode_utf8_first)], narrowed := true }
def StepRunsUptoSaid : Prop := stepRunsUptoRow.holds Tryz.pinned (OpenSpec.upto stepRunsSpec)

/-- 'chandlerlaw22.StepMany', WHERE WHAT IT READS IS OF BULK AT MOST 1048576: true; the input reads as it did. -/
def stepManyUptoRow : OpenClaim := { program := "ytaicidbopgnmfaagreatdoor", sum := "4c276c03f74462238967a79c313827f0034c67a2c167d6079a20eff173496478", func := "chandler/chandlerlaw22.StepMany", spec := "stepMany", inPlace := ["internal/bytealg.IndexByteString", "internal/bytealg.IndexString"], unfollowed := true, recurses := true, named := ["internal/bytealg.MaxLen", "unicode/utf8.first", "unicode/utf8.acceptRanges"], apart := false, laid := [("unicode/utf8.acceptRanges", laid_unicode_utf8_acceptRanges), ("unicode/utf8.first", laid_unicode_utf8_first)], narrowed := true }
def StepManyUptoSaid : Prop := stepManyUptoRow.holds Tryz.pinned (OpenSpec.upto stepManySpec)

/-- 'chandlerlaw22.StepAll', WHERE WHAT IT READS IS OF BULK AT MOST 1048576: true; the input reads as it did. -/
def stepAllUptoRow : OpenClaim := { program := "ytaicidbopgnmfaagreatdoor", sum := "4c276c03f74462238967a79c313827f0034c67a2c167d6079a20eff173496478", func := "chandler/chandlerlaw22.StepAll", spec := "stepAll", inPlace := ["internal/bytealg.IndexByteString", "internal/bytealg.IndexString"], unfollowed := true, recurses := true, named := ["internal/bytealg.MaxLen", "unicode/utf8.first", "unicode/utf8.acceptRanges"], apart := false, laid := [("unicode/utf8.acceptRanges", laid_unicode_utf8_acceptRanges), ("unicode/utf8.first", laid_unicode_utf8_first)], narrowed := true }
def StepAllUptoSaid : Prop := stepAllUptoRow.holds Tryz.pinned (OpenSpec.upto stepAllSpec)

/-- 'chandlerlaw22.StepListed', WHERE WHAT IT READS IS OF BULK AT MOST 1048576: true; the input reads as it did. -/
def stepListedUptoRow : OpenClaim := { program := "ytaicidbopgnmfaagreatdoor", sum := "4c276c03f74462238967a79c313827f0034c67a2c167d6079a20eff173496478", func := "chandler/chandlerlaw22.StepListed", spec := "stepListed", inPlace := ["internal/bytealg.IndexByteString", "internal/bytealg.IndexString"], unfollowed := true, recurses := true, named := ["internal/bytealg.MaxLen", "unicode/utf8.first", "unicode/utf8.acceptRanges"], apart := false, laid := [("unicode/utf8.acceptRanges", laid_unicode_utf8_acceptRanges), ("unicode/utf8.first", laid_unicode_utf8_first)], narrowed := true }
def StepListedUptoSaid : Prop := stepListedUptoRow.holds Tryz.pinned (OpenSpec.upto stepListedSpec)

/-- 'chandlerlaw22.StepTexts', WHERE WHAT IT READS IS OF BULK AT MOST 1048576: true; the input reads as it did. -/
def stepTextsUptoRow : OpenClaim := { program := "ytaicidbopgnmfaagreatdoor", sum := "4c276c03f74462238967a79c313827f0034c67a2c167d6079a20eff173496478", func := "chandler/chandlerlaw22.StepTexts", spec := "stepTexts", inPlace := ["internal/bytealg.IndexByteString", "internal/bytealg.IndexString"], unfollowed := true, recurses := true, named := ["internal/bytealg.MaxLen", "unicode/utf8.first", "unicode/utf8.acceptRanges"], apart := false, laid := [("unicode/utf8.acceptRanges", laid_unicode_utf8_acceptRanges), ("unicode/utf8.first", laid_unicode_utf8_first)], narrowed := true }
def StepTextsUptoSaid : Prop := stepTextsUptoRow.holds Tryz.pinned (OpenSpec.upto stepTextsSpec)

/-- 'chandlerlaw17.RequestMeets', WHERE WHAT IT READS IS OF BULK AT MOST 1048576: true; the input reads as it did. -/
def requestMeetsUptoRow : OpenClaim := { program := "ytaicidbopgnmfaagreatdoor", sum := "4c276c03f74462238967a79c313827f0034c67a2c167d6079a20eff173496478", func := "chandler/chandlerlaw17.RequestMeets", spec := "requestMeets", inPlace := ["internal/bytealg.CountString", "internal/bytealg.IndexByteString", "internal/bytealg.IndexString"], unfollowed := true, recurses := true, named := ["unicode/utf8.first", "unicode/utf8.acceptRanges", "internal/bytealg.MaxLen"], apart := false, laid := [("unicode/utf8.acceptRanges", laid_unicode_utf8_acceptRanges), ("unicode/utf8.first", laid_unicode_utf8_first)], narrowed := true }
def RequestMeetsUptoSaid : Prop := requestMeetsUptoRow.holds Tryz.pinned (OpenSpec.upto requestMeetsSpec)

/-- 'chandlerlaw17.RequestStays', WHERE WHAT IT READS IS OF BULK AT MOST 1048576: true; the input reads as it did. -/
def requestStaysUptoRow : OpenClaim := { program := "ytaicidbopgnmfaagreatdoor", sum := "4c276c03f74462238967a79c313827f0034c67a2c167d6079a20eff173496478", func := "chandler/chandlerlaw17.RequestStays", spec := "requestStays", inPlace := ["internal/bytealg.CountString", "internal/bytealg.IndexByteString", "internal/bytealg.IndexString"], unfollowed := true, recurses := true, named := ["unicode/utf8.first", "unicode/utf8.acceptRanges", "internal/bytealg.MaxLen"], apart := false, laid := [("unicode/utf8.acceptRanges", laid_unicode_utf8_acceptRanges), ("unicode/utf8.first", laid_unicode_utf8_first)], narrowed := true }
def RequestStaysUptoSaid : Prop := requestStaysUptoRow.holds Tryz.pinned (OpenSpec.upto requestStaysSpec)

/-- 'chandlerlaw17.RequestGuards', WHERE WHAT IT READS IS OF BULK AT MOST 1048576: true; the input reads as it did. -/
def requestGuardsUptoRow : OpenClaim := { program := "ytaicidbopgnmfaagreatdoor", sum := "4c276c03f74462238967a79c313827f0034c67a2c167d6079a20eff173496478", func := "chandler/chandlerlaw17.RequestGuards", spec := "requestGuards", inPlace := ["internal/bytealg.CountString", "internal/bytealg.IndexByteString", "internal/bytealg.IndexString"], unfollowed := true, recurses := true, named := ["unicode/utf8.first", "unicode/utf8.acceptRanges", "internal/bytealg.MaxLen"], apart := false, laid := [("unicode/utf8.acceptRanges", laid_unicode_utf8_acceptRanges), ("unicode/utf8.first", laid_unicode_utf8_first)], narrowed := true }
def RequestGuardsUptoSaid : Prop := requestGuardsUptoRow.holds Tryz.pinned (OpenSpec.upto requestGuardsSpec)

/-- 'chandlerlaw17.RequestAdds', WHERE WHAT IT READS IS OF BULK AT MOST 1048576: true; the input reads as it did. -/
def requestAddsUptoRow : OpenClaim := { program := "ytaicidbopgnmfaagreatdoor", sum := "4c276c03f74462238967a79c313827f0034c67a2c167d6079a20eff173496478", func := "chandler/chandlerlaw17.RequestAdds", spec := "requestAdds", inPlace := ["internal/bytealg.CountString", "internal/bytealg.IndexByteString", "internal/bytealg.IndexString"], unfollowed := true, recurses := true, named := ["unicode/utf8.first", "unicode/utf8.acceptRanges", "internal/bytealg.MaxLen"], apart := false, laid := [("unicode/utf8.acceptRanges", laid_unicode_utf8_acceptRanges), ("unicode/utf8.first", laid_unicode_utf8_first)], narrowed := true }
def RequestAddsUptoSaid : Prop := requestAddsUptoRow.holds Tryz.pinned (OpenSpec.upto requestAddsSpec)

end Rows
end Go.Proofs.YtaicidbopgnmfaaGreatDoor
