/- The contract of strings.FieldsFunc at this program (printed by lay-plain.mjs for this seat; the numbers are this seat's). -/
import Derived.Test.YtaicidbopgnmfaaGreatDoorWdP
import Derived.Test.YtaicidbopgnmfaaGreatDoorShelf
import Derived.Test.YtaicidbopgnmfaaGreatDoorMk
import Derived.Shelf.Strings.FieldsFuncGrows
namespace Go.Proofs
set_option linter.unusedSimpArgs false
set_option linter.unusedVariables false
open Go.Shelf
def Tryz.lays229_ren : Go.Shelf.Ren := ⟨fun | 229 => 122 | n => n, fun | 9 => 9 | 40 => 146 | 31 => 89 | 152 => 177 | 3 => 3 | 0 => 0 | 4 => 4 | 21 => 21 | 154 => 179 | n => n, fun | n => n⟩
theorem Tryz.lays229 : Go.Proofs.Lays.n229 Tryz.prog Tryz.lays229_ren := {
  mixed := by kernel_rfl
  f229 := Tryz.func122.trans (congrArg some (by kernel_rfl))
  t0 := Tryz.underlying0
  a0 := Tryz.isAgg0
  z0 := Tryz.sizeOf0
  v0 := Tryz.zeroValue0
  t3 := Tryz.underlying3
  a3 := Tryz.isAgg3
  z3 := Tryz.sizeOf3
  v3 := Tryz.zeroValue3
  t4 := Tryz.underlying4
  a4 := Tryz.isAgg4
  z4 := Tryz.sizeOf4
  v4 := Tryz.zeroValue4
  t9 := Tryz.underlying9
  a9 := Tryz.isAgg9
  z9 := Tryz.sizeOf9
  v9 := Tryz.zeroValue9
  t21 := Tryz.underlying21
  a21 := Tryz.isAgg21
  z21 := Tryz.sizeOf21
  v21 := Tryz.zeroValue21
  t31 := Tryz.underlying89
  a31 := Tryz.isAgg89
  z31 := Tryz.sizeOf89
  v31 := Tryz.zeroValue89
  t40 := Tryz.underlying146
  a40 := Tryz.isAgg146
  z40 := Tryz.sizeOf146
  v40 := Tryz.zeroValue146
  t152 := Tryz.underlying177
  a152 := Tryz.isAgg177
  z152 := Tryz.sizeOf177
  v152 := Tryz.zeroValue177
  t154 := Tryz.underlying179
  a154 := Tryz.isAgg179
  z154 := Tryz.sizeOf179
  v154 := Tryz.zeroValue179 }
open Go.RowKit Go.Lib in
theorem Tryz.strings_FieldsFunc_grows (g : Nat) (lb : Array Value) (eg : ∀ args w, (callFunc g args).run Tryz.prog w = .ok (.enter g args) w) (p : Nat → Bool) (s : ByteArray) (w : World) (hs : s.size ≤ 4294967296) (hp : PredGrows Tryz.prog g lb p w) :
    Calls Tryz.prog 122 #[.string s, .func (.func g) #[] lb] w fun e w' => ∃ A, e = .returned (.slice (some ⟨A, 0, none⟩) (Lib.goFieldsP p s).length (Lib.goFieldsP p s).length) ∧ w.heap.size ≤ A ∧
      w'.ownsRow w.heap.size 9 1 (.slice (some ⟨A, 0, none⟩) (Lib.goFieldsP p s).length (Lib.goFieldsP p s).length) (Lib.goFieldsP p s).length ((Lib.goFieldsP p s).map Value.string) ∧ Below w.heap.size w w' := Any.strings_FieldsFunc_grows Tryz.lays229 g lb eg p s w hs hp (by kernel_rfl) (by kernel_rfl)
end Go.Proofs
