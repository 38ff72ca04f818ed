/-
  NARROWER THAN 'FOR EVERY INPUT', by the rows' own cells (each row's printed sentence says how): CostAdds: laid · RequestParses: laid · RequestBack: laid · RequestPrints: laid.
  DERIVED. THE GIVEN ROWS OF THIS SEAT. 4 by the template 'for every input the law returns true; each argument reads behind the call as it read before'; 0 by the template 'total and deterministic' (their statements: YtcbomomlojhghaaDoorTotals.lean).
  GIVEN WITH THE SEED: the statements are not yours to turn. If you find one false, say at which input.
  Laid BY PROGRAM, IN A SANDBOX (cutbox-rows.mjs): the forced cells as the released guide's own fill.sh prints them over the translation 7961cd6c696e16c6… (all of the seat's roots in one cut). By AI agents, Wed Nov 11 2026. No macro, syntax, notation, axiom, sorry.
-/
import Derived.Test.YtcbomomlojhghaaDoorChecked
import GoSem.PinnedTables
import GoSem.Claim
import GoSem.ClaimJoined
import GoSem.ClaimMapViews
import Derived.JoinedTies
import Derived.KernelRfl
namespace Go.Proofs.YtcbomomlojhghaaDoor
/- THE CELL 'sum', in the pinned program and in every row, IS THE sha256 OF THE DUMP (.gsa) THAT YtcbomomlojhghaaDoorProg.lean LOADS. Nothing in Lean hashes anything: it is a label: what it is worth is what the hold of that sum in a sandbox is worth. -/
noncomputable def Tryd.pinned : Pinned := { name := "ytcbomomlojhghaadoor", sum := "7961cd6c696e16c60cff4b2b0911ed9e156913a880b69f75ed6d63461c49ec4d", checked := Tryd.checked }
namespace Rows
def none {H : Type} : Left H := { results := [], args := [] }

/- WHAT THE LISTED PACKAGE-LEVEL VARIABLES READ AS WHEN THE CALL BEGINS. Each datum BY PROGRAM (the guide's laid-datum.mjs) off the statement by which the dump's own 'gosem.cut.vars' lays the variable. In a bare row this is a premise. The card (YtcbomomlojhghaaDoorCards.lean) ties it to the program's text. -/
def laid_unicode_utf8_acceptRanges {H : Type} : DataW H := .agg [.agg [.lit (.int .u8 128), .lit (.int .u8 191)], .agg [.lit (.int .u8 160), .lit (.int .u8 191)], .agg [.lit (.int .u8 128), .lit (.int .u8 159)], .agg [.lit (.int .u8 144), .lit (.int .u8 191)], .agg [.lit (.int .u8 128), .lit (.int .u8 143)], .agg [.lit (.int .u8 0), .lit (.int .u8 0)], .agg [.lit (.int .u8 0), .lit (.int .u8 0)], .agg [.lit (.int .u8 0), .lit (.int .u8 0)], .agg [.lit (.int .u8 0), .lit (.int .u8 0)], .agg [.lit (.int .u8 0), .lit (.int .u8 0)], .agg [.lit (.int .u8 0), .lit (.int .u8 0)], .agg [.lit (.int .u8 0), .lit (.int .u8 0)], .agg [.lit (.int .u8 0), .lit (.int .u8 0)], .agg [.lit (.int .u8 0), .lit (.int .u8 0)], .agg [.lit (.int .u8 0), .lit (.int .u8 0)], .agg [.lit (.int .u8 0), .lit (.int .u8 0)]]
/-- One of Go's own tables, pinned by name: the form's constant. -/
def laid_unicode_utf8_first : DataW Unit := Go.Pinned.utf8First

/-- 'chandlerlaw16.CostAdds': WHATEVER THE INPUT: true; the input reads as it did. -/
def costAddsSpec : ChangeSpec := { name := "costAdds", fn := fun _ => fun
  | [d1, d2, d3, d4] => { results := [.lit (.bool true)], args := [d1, d2, d3, d4] }
  | _ => none }
def costAddsRow : OpenClaim := { program := "ytcbomomlojhghaadoor", sum := "7961cd6c696e16c60cff4b2b0911ed9e156913a880b69f75ed6d63461c49ec4d", func := "chandler/chandlerlaw16.CostAdds", spec := "costAdds", inPlace := ["internal/bytealg.IndexByteString", "internal/bytealg.IndexString"], unfollowed := true, recurses := true, named := ["internal/bytealg.MaxLen", "unicode/utf8.first", "unicode/utf8.acceptRanges"], apart := false, laid := [("unicode/utf8.acceptRanges", laid_unicode_utf8_acceptRanges), ("unicode/utf8.first", laid_unicode_utf8_first)] }
def CostAddsSaid : Prop := costAddsRow.holds Tryd.pinned (OpenSpec.ofChange costAddsSpec)

/-- ITS FALSE NEIGHBOUR: 'it returns false'. Refute it at one input. -/
def costAddsWrong : ChangeSpec := { name := "costAdds", fn := fun _ => fun
  | [d1, d2, d3, d4] => { results := [.lit (.bool false)], args := [d1, d2, d3, d4] }
  | _ => none }
def CostAddsWrongFalsely : Prop := costAddsRow.holds Tryd.pinned (OpenSpec.ofChange costAddsWrong)

/-- 'chandlerlaw17.RequestParses': WHATEVER THE INPUT: true; the input reads as it did. -/
def requestParsesSpec : ChangeSpec := { name := "requestParses", fn := fun _ => fun
  | [d] => { results := [.lit (.bool true)], args := [d] }
  | _ => none }
def requestParsesRow : OpenClaim := { program := "ytcbomomlojhghaadoor", sum := "7961cd6c696e16c60cff4b2b0911ed9e156913a880b69f75ed6d63461c49ec4d", func := "chandler/chandlerlaw17.RequestParses", spec := "requestParses", inPlace := ["internal/bytealg.CountString", "internal/bytealg.IndexByteString", "internal/bytealg.IndexString"], unfollowed := true, recurses := true, named := ["unicode/utf8.first", "unicode/utf8.acceptRanges", "internal/bytealg.MaxLen"], apart := false, laid := [("unicode/utf8.acceptRanges", laid_unicode_utf8_acceptRanges), ("unicode/utf8.first", laid_unicode_utf8_first)] }
def RequestParsesSaid : Prop := requestParsesRow.holds Tryd.pinned (OpenSpec.ofChange requestParsesSpec)

/-- ITS FALSE NEIGHBOUR: 'it returns false'. Refute it at one input. -/
def requestParsesWrong : ChangeSpec := { name := "requestParses", fn := fun _ => fun
  | [d] => { results := [.lit (.bool false)], args := [d] }
  | _ => none }
def RequestParsesWrongFalsely : Prop := requestParsesRow.holds Tryd.pinned (OpenSpec.ofChange requestParsesWrong)

/-- 'chandlerlaw17.RequestBack': WHATEVER THE INPUT: true; the input reads as it did. -/
def requestBackSpec : ChangeSpec := { name := "requestBack", fn := fun _ => fun
  | [d1, d2] => { results := [.lit (.bool true)], args := [d1, d2] }
  | _ => none }
def requestBackRow : OpenClaim := { program := "ytcbomomlojhghaadoor", sum := "7961cd6c696e16c60cff4b2b0911ed9e156913a880b69f75ed6d63461c49ec4d", func := "chandler/chandlerlaw17.RequestBack", spec := "requestBack", inPlace := ["internal/bytealg.CountString", "internal/bytealg.IndexByteString", "internal/bytealg.IndexString", "internal/abi.NoEscape"], unfollowed := true, recurses := true, named := ["unicode/utf8.first", "unicode/utf8.acceptRanges", "internal/bytealg.MaxLen"], apart := false, laid := [("unicode/utf8.acceptRanges", laid_unicode_utf8_acceptRanges), ("unicode/utf8.first", laid_unicode_utf8_first)] }
def RequestBackSaid : Prop := requestBackRow.holds Tryd.pinned (OpenSpec.ofChange requestBackSpec)

/-- ITS FALSE NEIGHBOUR: 'it returns false'. Refute it at one input. -/
def requestBackWrong : ChangeSpec := { name := "requestBack", fn := fun _ => fun
  | [d1, d2] => { results := [.lit (.bool false)], args := [d1, d2] }
  | _ => none }
def RequestBackWrongFalsely : Prop := requestBackRow.holds Tryd.pinned (OpenSpec.ofChange requestBackWrong)

/-- 'chandlerlaw17.RequestPrints': WHATEVER THE INPUT: true; the input reads as it did. -/
def requestPrintsSpec : ChangeSpec := { name := "requestPrints", fn := fun _ => fun
  | [d] => { results := [.lit (.bool true)], args := [d] }
  | _ => none }
def requestPrintsRow : OpenClaim := { program := "ytcbomomlojhghaadoor", sum := "7961cd6c696e16c60cff4b2b0911ed9e156913a880b69f75ed6d63461c49ec4d", func := "chandler/chandlerlaw17.RequestPrints", spec := "requestPrints", inPlace := ["internal/bytealg.CountString", "internal/bytealg.IndexByteString", "internal/bytealg.IndexString", "internal/abi.NoEscape"], unfollowed := true, recurses := true, named := ["unicode/utf8.first", "unicode/utf8.acceptRanges", "internal/bytealg.MaxLen"], apart := false, laid := [("unicode/utf8.acceptRanges", laid_unicode_utf8_acceptRanges), ("unicode/utf8.first", laid_unicode_utf8_first)] }
def RequestPrintsSaid : Prop := requestPrintsRow.holds Tryd.pinned (OpenSpec.ofChange requestPrintsSpec)

/-- ITS FALSE NEIGHBOUR: 'it returns false'. Refute it at one input. -/
def requestPrintsWrong : ChangeSpec := { name := "requestPrints", fn := fun _ => fun
  | [d] => { results := [.lit (.bool false)], args := [d] }
  | _ => none }
def RequestPrintsWrongFalsely : Prop := requestPrintsRow.holds Tryd.pinned (OpenSpec.ofChange requestPrintsWrong)

/- THE SECOND FORM. 'bulk': how many values and letters a reading holds, each counted each time it is reached (what is shared counts as often as it is met; a slice's spare places count too). A statement '..UptoSaid' is the law's where the arguments, and the package variables that the reading takes, are together of bulk at most 1048576: NARROWER than '..Said'. Prove '..Said' where nothing that the law and all that it calls make is longer than what came in: it says more and counts as full. Else prove '..UptoSaid'. A law counts once. -/
mutual
def uptoBulk {H : Type} : DataW H → Nat
  | .lit (.string bytes) => bytes.length + 1
  | .lit _ => 1
  | .nil => 1
  | .ptr d => uptoBulk d + 1
  | .slice elems spare => uptoBulkAll elems + uptoBulkAll spare + 1
  | .agg parts => uptoBulkAll parts + 1
  | .iface _ d => uptoBulk d + 1
  | .map entries => uptoBulkEntries entries + 1
  | .held _ => 1
def uptoBulkAll {H : Type} : List (DataW H) → Nat
  | [] => 0
  | d :: r => uptoBulk d + uptoBulkAll r
def uptoBulkEntries {H : Type} : List (Lit × DataW H) → Nat
  | [] => 0
  | x :: r => uptoBulkEntry x + uptoBulkEntries r
def uptoBulkEntry {H : Type} : Lit × DataW H → Nat
  | (.string bytes, d) => bytes.length + uptoBulk d + 1
  | (_, d) => uptoBulk d + 1
 end
def uptoSmall : (H : Type) → List (DataW H) → Bool := fun _ ds => decide (uptoBulkAll ds ≤ 1048576)
def OpenSpec.upto (s : _root_.Go.ChangeSpec) : _root_.Go.OpenSpec := { _root_.Go.OpenSpec.ofChange s with cond := some uptoSmall }

/-- 'chandlerlaw16.CostAdds', WHERE WHAT IT READS IS OF BULK AT MOST 1048576: true; the input reads as it did. -/
def costAddsUptoRow : OpenClaim := { program := "ytcbomomlojhghaadoor", sum := "7961cd6c696e16c60cff4b2b0911ed9e156913a880b69f75ed6d63461c49ec4d", func := "chandler/chandlerlaw16.CostAdds", spec := "costAdds", inPlace := ["internal/bytealg.IndexByteString", "internal/bytealg.IndexString"], unfollowed := true, recurses := true, named := ["internal/bytealg.MaxLen", "unicode/utf8.first", "unicode/utf8.acceptRanges"], apart := false, laid := [("unicode/utf8.acceptRanges", laid_unicode_utf8_acceptRanges), ("unicode/utf8.first", laid_unicode_utf8_first)], narrowed := true }
def CostAddsUptoSaid : Prop := costAddsUptoRow.holds Tryd.pinned (OpenSpec.upto costAddsSpec)

/-- 'chandlerlaw17.RequestParses', WHERE WHAT IT READS IS OF BULK AT MOST 1048576: true; the input reads as it did. -/
def requestParsesUptoRow : OpenClaim := { program := "ytcbomomlojhghaadoor", sum := "7961cd6c696e16c60cff4b2b0911ed9e156913a880b69f75ed6d63461c49ec4d", func := "chandler/chandlerlaw17.RequestParses", spec := "requestParses", inPlace := ["internal/bytealg.CountString", "internal/bytealg.IndexByteString", "internal/bytealg.IndexString"], unfollowed := true, recurses := true, named := ["unicode/utf8.first", "unicode/utf8.acceptRanges", "internal/bytealg.MaxLen"], apart := false, laid := [("unicode/utf8.acceptRanges", laid_unicode_utf8_acceptRanges), ("unicode/utf8.first", laid_unicode_utf8_first)], narrowed := true }
def RequestParsesUptoSaid : Prop := requestParsesUptoRow.holds Tryd.pinned (OpenSpec.upto requestParsesSpec)

/-- 'chandlerlaw17.RequestBack', WHERE WHAT IT READS IS OF BULK AT MOST 1048576: true; the input reads as it did. -/
def requestBackUptoRow : OpenClaim := { program := "ytcbomomlojhghaadoor", sum := "7961cd6c696e16c60cff4b2b0911ed9e156913a880b69f75ed6d63461c49ec4d", func := "chandler/chandlerlaw17.RequestBack", spec := "requestBack", inPlace := ["internal/bytealg.CountString", "internal/bytealg.IndexByteString", "internal/bytealg.IndexString", "internal/abi.NoEscape"], unfollowed := true, recurses := true, named := ["unicode/utf8.first", "unicode/utf8.acceptRanges", "internal/bytealg.MaxLen"], apart := false, laid := [("unicode/utf8.acceptRanges", laid_unicode_utf8_acceptRanges), ("unicode/utf8.first", laid_unicode_utf8_first)], narrowed := true }
def RequestBackUptoSaid : Prop := requestBackUptoRow.holds Tryd.pinned (OpenSpec.upto requestBackSpec)

/-- 'chandlerlaw17.RequestPrints', WHERE WHAT IT READS IS OF BULK AT MOST 1048576: true; the input reads as it did. -/
def requestPrintsUptoRow : OpenClaim := { program := "ytcbomomlojhghaadoor", sum := "7961cd6c696e16c60cff4b2b0911ed9e156913a880b69f75ed6d63461c49ec4d", func := "chandler/chandlerlaw17.RequestPrints", spec := "requestPrints", inPlace := ["internal/bytealg.CountString", "internal/bytealg.IndexByteString", "internal/bytealg.IndexString", "internal/abi.NoEscape"], unfollowed := true, recurses := true, named := ["unicode/utf8.first", "unicode/utf8.acceptRanges", "internal/bytealg.MaxLen"], apart := false, laid := [("unicode/utf8.acceptRanges", laid_unicode_utf8_acceptRanges), ("unicode/utf8.first", laid_unicode_utf8_first)], narrowed := true }
def RequestPrintsUptoSaid : Prop := requestPrintsUptoRow.holds Tryd.pinned (OpenSpec.upto requestPrintsSpec)

end Rows
end Go.Proofs.YtcbomomlojhghaaDoor
