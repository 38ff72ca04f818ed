/-
  No cell of these rows narrows 'for every input' (looked for: loops, veiled, ifaces, maps, wideKeys, modest, calm, conditions, laid).
  DERIVED. THE GIVEN ROWS OF THIS SEAT. 6 by the template 'for every input the law returns true; each argument reads behind the call as it read before'; 0 by the template 'total and deterministic' (their statements: YtodhianmaogfpaaTotals.lean).
  GIVEN WITH THE SEED: the statements are not yours to turn. If you find one false, say at which input.
  Laid BY PROGRAM, IN A SANDBOX (cutbox-rows.mjs): the forced cells as the released guide's own fill.sh prints them over the translation a28a0e27a014fa1c… (all of the seat's roots in one cut). By AI agents, Wed Nov 11 2026. No macro, syntax, notation, axiom, sorry.
-/
import Derived.Test.YtodhianmaogfpaaChecked
import GoSem.Claim
import GoSem.ClaimJoined
import GoSem.ClaimMapViews
import Derived.JoinedTies
import Derived.KernelRfl
namespace Go.Proofs.Ytodhianmaogfpaa
/- THE CELL 'sum', in the pinned program and in every row, IS THE sha256 OF THE DUMP (.gsa) THAT YtodhianmaogfpaaProg.lean LOADS. Nothing in Lean hashes anything: it is a label: what it is worth is what the hold of that sum in a sandbox is worth. -/
noncomputable def Try.pinned : Pinned := { name := "ytodhianmaogfpaa", sum := "a28a0e27a014fa1c806cfc43f1fa7130543d5ff26d68f3b163aff34438483748", checked := Try.checked }
namespace Rows
def none {H : Type} : Left H := { results := [], args := [] }

/-- 'chandlerlaw21.SccComponents': WHATEVER THE INPUT: true; the input reads as it did. -/
def sccComponentsSpec : ChangeSpec := { name := "sccComponents", fn := fun _ => fun
  | [d1, d2] => { results := [.lit (.bool true)], args := [d1, d2] }
  | _ => none }
def sccComponentsRow : OpenClaim := { program := "ytodhianmaogfpaa", sum := "a28a0e27a014fa1c806cfc43f1fa7130543d5ff26d68f3b163aff34438483748", func := "chandler/chandlerlaw21.SccComponents", spec := "sccComponents", apart := false }
def SccComponentsSaid : Prop := sccComponentsRow.holds Try.pinned (OpenSpec.ofChange sccComponentsSpec)

/-- ITS FALSE NEIGHBOUR: 'it returns false'. Refute it at one input. -/
def sccComponentsWrong : ChangeSpec := { name := "sccComponents", fn := fun _ => fun
  | [d1, d2] => { results := [.lit (.bool false)], args := [d1, d2] }
  | _ => none }
def SccComponentsWrongFalsely : Prop := sccComponentsRow.holds Try.pinned (OpenSpec.ofChange sccComponentsWrong)

/-- 'chandlerlaw21.SccTurned': WHATEVER THE INPUT: true; the input reads as it did. -/
def sccTurnedSpec : ChangeSpec := { name := "sccTurned", fn := fun _ => fun
  | [d1, d2] => { results := [.lit (.bool true)], args := [d1, d2] }
  | _ => none }
def sccTurnedRow : OpenClaim := { program := "ytodhianmaogfpaa", sum := "a28a0e27a014fa1c806cfc43f1fa7130543d5ff26d68f3b163aff34438483748", func := "chandler/chandlerlaw21.SccTurned", spec := "sccTurned", apart := false }
def SccTurnedSaid : Prop := sccTurnedRow.holds Try.pinned (OpenSpec.ofChange sccTurnedSpec)

/-- ITS FALSE NEIGHBOUR: 'it returns false'. Refute it at one input. -/
def sccTurnedWrong : ChangeSpec := { name := "sccTurned", fn := fun _ => fun
  | [d1, d2] => { results := [.lit (.bool false)], args := [d1, d2] }
  | _ => none }
def SccTurnedWrongFalsely : Prop := sccTurnedRow.holds Try.pinned (OpenSpec.ofChange sccTurnedWrong)

/-- 'chandlerlaw21.SccParts': WHATEVER THE INPUT: true; the input reads as it did. -/
def sccPartsSpec : ChangeSpec := { name := "sccParts", fn := fun _ => fun
  | [d1, d2] => { results := [.lit (.bool true)], args := [d1, d2] }
  | _ => none }
def sccPartsRow : OpenClaim := { program := "ytodhianmaogfpaa", sum := "a28a0e27a014fa1c806cfc43f1fa7130543d5ff26d68f3b163aff34438483748", func := "chandler/chandlerlaw21.SccParts", spec := "sccParts", recurses := true, apart := false }
def SccPartsSaid : Prop := sccPartsRow.holds Try.pinned (OpenSpec.ofChange sccPartsSpec)

/-- ITS FALSE NEIGHBOUR: 'it returns false'. Refute it at one input. -/
def sccPartsWrong : ChangeSpec := { name := "sccParts", fn := fun _ => fun
  | [d1, d2] => { results := [.lit (.bool false)], args := [d1, d2] }
  | _ => none }
def SccPartsWrongFalsely : Prop := sccPartsRow.holds Try.pinned (OpenSpec.ofChange sccPartsWrong)

/-- 'chandlerlaw21.SccOrders': WHATEVER THE INPUT: true; the input reads as it did. -/
def sccOrdersSpec : ChangeSpec := { name := "sccOrders", fn := fun _ => fun
  | [d1, d2, d3] => { results := [.lit (.bool true)], args := [d1, d2, d3] }
  | _ => none }
def sccOrdersRow : OpenClaim := { program := "ytodhianmaogfpaa", sum := "a28a0e27a014fa1c806cfc43f1fa7130543d5ff26d68f3b163aff34438483748", func := "chandler/chandlerlaw21.SccOrders", spec := "sccOrders", recurses := true, apart := false }
def SccOrdersSaid : Prop := sccOrdersRow.holds Try.pinned (OpenSpec.ofChange sccOrdersSpec)

/-- ITS FALSE NEIGHBOUR: 'it returns false'. Refute it at one input. -/
def sccOrdersWrong : ChangeSpec := { name := "sccOrders", fn := fun _ => fun
  | [d1, d2, d3] => { results := [.lit (.bool false)], args := [d1, d2, d3] }
  | _ => none }
def SccOrdersWrongFalsely : Prop := sccOrdersRow.holds Try.pinned (OpenSpec.ofChange sccOrdersWrong)

/-- 'chandlerlaw21.SccLong': WHATEVER THE INPUT: true; the input reads as it did. -/
def sccLongSpec : ChangeSpec := { name := "sccLong", fn := fun _ => fun
  | [d1, d2, d3] => { results := [.lit (.bool true)], args := [d1, d2, d3] }
  | _ => none }
def sccLongRow : OpenClaim := { program := "ytodhianmaogfpaa", sum := "a28a0e27a014fa1c806cfc43f1fa7130543d5ff26d68f3b163aff34438483748", func := "chandler/chandlerlaw21.SccLong", spec := "sccLong", recurses := true, apart := false }
def SccLongSaid : Prop := sccLongRow.holds Try.pinned (OpenSpec.ofChange sccLongSpec)

/-- ITS FALSE NEIGHBOUR: 'it returns false'. Refute it at one input. -/
def sccLongWrong : ChangeSpec := { name := "sccLong", fn := fun _ => fun
  | [d1, d2, d3] => { results := [.lit (.bool false)], args := [d1, d2, d3] }
  | _ => none }
def SccLongWrongFalsely : Prop := sccLongRow.holds Try.pinned (OpenSpec.ofChange sccLongWrong)

/-- 'chandlerlaw21.SccEdges': WHATEVER THE INPUT: true; the input reads as it did. -/
def sccEdgesSpec : ChangeSpec := { name := "sccEdges", fn := fun _ => fun
  | [d1, d2] => { results := [.lit (.bool true)], args := [d1, d2] }
  | _ => none }
def sccEdgesRow : OpenClaim := { program := "ytodhianmaogfpaa", sum := "a28a0e27a014fa1c806cfc43f1fa7130543d5ff26d68f3b163aff34438483748", func := "chandler/chandlerlaw21.SccEdges", spec := "sccEdges", recurses := true, apart := false }
def SccEdgesSaid : Prop := sccEdgesRow.holds Try.pinned (OpenSpec.ofChange sccEdgesSpec)

/-- ITS FALSE NEIGHBOUR: 'it returns false'. Refute it at one input. -/
def sccEdgesWrong : ChangeSpec := { name := "sccEdges", fn := fun _ => fun
  | [d1, d2] => { results := [.lit (.bool false)], args := [d1, d2] }
  | _ => none }
def SccEdgesWrongFalsely : Prop := sccEdgesRow.holds Try.pinned (OpenSpec.ofChange sccEdgesWrong)

/- THE SECOND FORM. 'bulk': how many values and letters a reading holds, each counted each time it is reached (what is shared counts as often as it is met; a slice's spare places count too). A statement '..UptoSaid' is the law's where the arguments, and the package variables that the reading takes, are together of bulk at most 1048576: NARROWER than '..Said'. Prove '..Said' where nothing that the law and all that it calls make is longer than what came in: it says more and counts as full. Else prove '..UptoSaid'. A law counts once. -/
mutual
def uptoBulk {H : Type} : DataW H → Nat
  | .lit (.string bytes) => bytes.length + 1
  | .lit _ => 1
  | .nil => 1
  | .ptr d => uptoBulk d + 1
  | .slice elems spare => uptoBulkAll elems + uptoBulkAll spare + 1
  | .agg parts => uptoBulkAll parts + 1
  | .iface _ d => uptoBulk d + 1
  | .map entries => uptoBulkEntries entries + 1
  | .held _ => 1
def uptoBulkAll {H : Type} : List (DataW H) → Nat
  | [] => 0
  | d :: r => uptoBulk d + uptoBulkAll r
def uptoBulkEntries {H : Type} : List (Lit × DataW H) → Nat
  | [] => 0
  | x :: r => uptoBulkEntry x + uptoBulkEntries r
def uptoBulkEntry {H : Type} : Lit × DataW H → Nat
  | (.string bytes, d) => bytes.length + uptoBulk d + 1
  | (_, d) => uptoBulk d + 1
 end
def uptoSmall : (H : Type) → List (DataW H) → Bool := fun _ ds => decide (uptoBulkAll ds ≤ 1048576)
def OpenSpec.upto (s : _root_.Go.ChangeSpec) : _root_.Go.OpenSpec := { _root_.Go.OpenSpec.ofChange s with cond := some uptoSmall }

/-- 'chandlerlaw21.SccComponents', WHERE WHAT IT READS IS OF BULK AT MOST 1048576: true; the input reads as it did. -/
def sccComponentsUptoRow : OpenClaim := { program := "ytodhianmaogfpaa", sum := "a28a0e27a014fa1c806cfc43f1fa7130543d5ff26d68f3b163aff34438483748", func := "chandler/chandlerlaw21.SccComponents", spec := "sccComponents", apart := false, narrowed := true }
def SccComponentsUptoSaid : Prop := sccComponentsUptoRow.holds Try.pinned (OpenSpec.upto sccComponentsSpec)

/-- 'chandlerlaw21.SccTurned', WHERE WHAT IT READS IS OF BULK AT MOST 1048576: true; the input reads as it did. -/
def sccTurnedUptoRow : OpenClaim := { program := "ytodhianmaogfpaa", sum := "a28a0e27a014fa1c806cfc43f1fa7130543d5ff26d68f3b163aff34438483748", func := "chandler/chandlerlaw21.SccTurned", spec := "sccTurned", apart := false, narrowed := true }
def SccTurnedUptoSaid : Prop := sccTurnedUptoRow.holds Try.pinned (OpenSpec.upto sccTurnedSpec)

/-- 'chandlerlaw21.SccParts', WHERE WHAT IT READS IS OF BULK AT MOST 1048576: true; the input reads as it did. -/
def sccPartsUptoRow : OpenClaim := { program := "ytodhianmaogfpaa", sum := "a28a0e27a014fa1c806cfc43f1fa7130543d5ff26d68f3b163aff34438483748", func := "chandler/chandlerlaw21.SccParts", spec := "sccParts", recurses := true, apart := false, narrowed := true }
def SccPartsUptoSaid : Prop := sccPartsUptoRow.holds Try.pinned (OpenSpec.upto sccPartsSpec)

/-- 'chandlerlaw21.SccOrders', WHERE WHAT IT READS IS OF BULK AT MOST 1048576: true; the input reads as it did. -/
def sccOrdersUptoRow : OpenClaim := { program := "ytodhianmaogfpaa", sum := "a28a0e27a014fa1c806cfc43f1fa7130543d5ff26d68f3b163aff34438483748", func := "chandler/chandlerlaw21.SccOrders", spec := "sccOrders", recurses := true, apart := false, narrowed := true }
def SccOrdersUptoSaid : Prop := sccOrdersUptoRow.holds Try.pinned (OpenSpec.upto sccOrdersSpec)

/-- 'chandlerlaw21.SccLong', WHERE WHAT IT READS IS OF BULK AT MOST 1048576: true; the input reads as it did. -/
def sccLongUptoRow : OpenClaim := { program := "ytodhianmaogfpaa", sum := "a28a0e27a014fa1c806cfc43f1fa7130543d5ff26d68f3b163aff34438483748", func := "chandler/chandlerlaw21.SccLong", spec := "sccLong", recurses := true, apart := false, narrowed := true }
def SccLongUptoSaid : Prop := sccLongUptoRow.holds Try.pinned (OpenSpec.upto sccLongSpec)

/-- 'chandlerlaw21.SccEdges', WHERE WHAT IT READS IS OF BULK AT MOST 1048576: true; the input reads as it did. -/
def sccEdgesUptoRow : OpenClaim := { program := "ytodhianmaogfpaa", sum := "a28a0e27a014fa1c806cfc43f1fa7130543d5ff26d68f3b163aff34438483748", func := "chandler/chandlerlaw21.SccEdges", spec := "sccEdges", recurses := true, apart := false, narrowed := true }
def SccEdgesUptoSaid : Prop := sccEdgesUptoRow.holds Try.pinned (OpenSpec.upto sccEdgesSpec)

end Rows
end Go.Proofs.Ytodhianmaogfpaa
