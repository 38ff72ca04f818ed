/- Slices of strings: what they read as; slices.Contains at them. -/
import Derived.Test.YtcbomomlojhghaaDoorOw
import Derived.Test.YtcbomomlojhghaaDoorFi
import Derived.Test.YtcbomomlojhghaaDoorWa
namespace Go.Proofs.YtcbomomlojhghaaDoor
set_option linter.unusedSimpArgs false
set_option linter.unusedVariables false
open Go.RowKit

def RStr (cs : List Value) (n : List UInt8) : Prop := cs = [.string (bs n)]
def Strs (w : World) (A : Option Addr) (c : Nat) (l : List (List UInt8)) : Prop := Slc w 1 16 RStr A c l
theorem Strs.kept {w w' : World} {A : Option Addr} {c : Nat} {l : List (List UInt8)} (h : Strs w A c l) (hk : Kept w w') : Strs w' A c l := Slc.mono h hk fun _ _ h => h
theorem Strs.at_ {w w' : World} {A : Option Addr} {c : Nat} {l : List (List UInt8)} {i : Nat} (h : Strs w A c l) (hi : i < l.length) (hk : Kept w w') : ∃ x b o, l[i]? = some x ∧ A = some ⟨b, o, none⟩ ∧ w'.cell? ⟨b, o + i, none⟩ = some (.string (bs x)) := by
  obtain ⟨x, b, o, cs, h1, h2, rfl, _, h4⟩ := Slc.at_ h hi
  refine ⟨x, b, o, h1, h2, ?_⟩
  have := rangeAt_kept hk h4 0 _ rfl
  simpa using this
theorem infStr' : (Tryd.prog.info? 9).map (fun i => (i.zero, i.size, i.bytes)) = some (some (.string (bs [])), 1, 16) := by kernel_rfl
theorem conN_eq (n : List UInt8) (l : List (List UInt8)) : (l.any fun y => decide (y = n)) = l.contains n := by
  rw [Bool.eq_iff_iff]; simp
end Go.Proofs.YtcbomomlojhghaaDoor
