/- The contracts of the reference's Version and of what it calls. -/
import Derived.Test.YtflmocamfedbdaaDoorVerB
namespace Go.Proofs.YtflmocamfedbdaaDoor
set_option linter.unusedSimpArgs false
set_option linter.unusedVariables false
open Go.RowKit

def okP (b : List UInt8) (c : UInt8) : Bool := digB c || letB c || b.contains c
theorem verOk_parts (e u v : List UInt8) : verOk e u v = (epochS e && v.all (okP [43, 46, 126]) && !u.isEmpty && headDig u && u.all (okP [43, 46, 126, 45, 58])) := rfl
theorem u8_beq (c d : UInt8) : (c == d) = (c.toNat == d.toNat) := by
  rw [Bool.eq_iff_iff, beq_iff_eq, beq_iff_eq]
  exact UInt8.toNat_inj.symm
theorem okP3 (c : UInt8) : okP [43, 46, 126] c = (digB c || letB c || (c.toNat == 43 || (c.toNat == 46 || c.toNat == 126))) := by
  unfold okP
  simp only [List.contains_cons, List.contains_nil, Bool.or_false]
  rw [u8_beq, u8_beq, u8_beq]
  rfl
theorem okP5 (c : UInt8) : okP [43, 46, 126, 45, 58] c = (digB c || letB c || (c.toNat == 43 || (c.toNat == 46 || (c.toNat == 126 || (c.toNat == 45 || c.toNat == 58))))) := by
  unfold okP
  simp only [List.contains_cons, List.contains_nil, Bool.or_false]
  rw [u8_beq, u8_beq, u8_beq, u8_beq, u8_beq]
  rfl
end Go.Proofs.YtflmocamfedbdaaDoor
