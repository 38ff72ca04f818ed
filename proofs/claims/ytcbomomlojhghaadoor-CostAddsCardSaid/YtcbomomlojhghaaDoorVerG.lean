/- The contract of the reference's Part. -/
import Derived.Test.YtcbomomlojhghaaDoorVerF
import Derived.Test.YtcbomomlojhghaaDoorVerE
namespace Go.Proofs.YtcbomomlojhghaaDoor
set_option linter.unusedSimpArgs false
set_option linter.unusedVariables false
open Go.RowKit

def NotBoth (a b : List UInt8) : Prop := ¬ (a = [] ∧ b = [])
theorem skip_len (l : List UInt8) : (skipS l).length ≤ l.length := by
  unfold skipS
  have h1 := (List.dropWhile_suffix (l := l.dropWhile (fun c => !digB c)) (· == 48)).length_le
  have h2 := (List.dropWhile_suffix (l := l) (fun c => !digB c)).length_le
  omega
theorem sgn_stop {a b : List UInt8} {k : Nat} (hs : signsS (a.drop k) (b.drop k) = signsS a b) (h1 : rrankS (a.drop k) = 0) (h2 : rrankS (b.drop k) = 0) : (signsS a b).1 = 0 := by
  rw [← hs, signs_stop (by rw [(rrank_zero _).1 h1, (rrank_zero _).1 h2]) ((rrank_zero _).1 h2)]
theorem sgn_part {a b : List UInt8} {k : Nat} (hs : signsS (a.drop k) (b.drop k) = signsS a b) (h1 : ¬ Lib.compareInt (rrankS (a.drop k)) (rrankS (b.drop k)) = 0) :
    (signsS a b).1 = Lib.compareInt (rrankS (a.drop k)) (rrankS (b.drop k)) := by
  rw [rrank_cmp] at h1 ⊢
  rw [← hs, signs_part (fun h => h1 ((compareInt_zero _ _).2 h))]
end Go.Proofs.YtcbomomlojhghaaDoor
