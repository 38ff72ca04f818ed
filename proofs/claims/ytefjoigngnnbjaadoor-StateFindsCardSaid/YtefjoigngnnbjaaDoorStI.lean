/- Lemmas for the contract of (*wrong).clashes. -/
import Derived.Test.YtefjoigngnnbjaaDoorStH
import Derived.Deep.RegionHeld3
import Derived.Deep.RegionLaw
import Derived.BigRegion
namespace Go.Proofs.YtefjoigngnnbjaaDoor
set_option linter.unusedSimpArgs false
set_option linter.unusedVariables false
open Go.RowKit

theorem clash_take {l : List Ent} {at_ : Nat} {kind : Int} {name : List UInt8} {ats : List Atm} {k : Nat} {a : Atm} (ha : ats[k]? = some a) :
    clashS l at_ kind name (ats.take (k + 1)) = clashS l at_ kind name (ats.take k) ++ clash1 l at_ kind name k a := flat_step _ ha
def clashT (l : List Ent) (at_ : Nat) (kind : Int) (name : List UInt8) (i : Nat) (a : Atm) (j : Nat) : List Vio := (l.take j).zipIdx.flatMap fun x => if decide (x.2 ≠ at_) && (decide (kind = 2) || x.1.conf) && satS x.1.pkg a then [⟨kind, name, false, i, x.1.pkg.name⟩] else []
theorem clashT_step {l : List Ent} {at_ : Nat} {kind : Int} {name : List UInt8} {i : Nat} {a : Atm} {j : Nat} {x : Ent} (hx : l[j]? = some x) :
    clashT l at_ kind name i a (j + 1) = clashT l at_ kind name i a j ++ if decide (j ≠ at_) && (decide (kind = 2) || x.conf) && satS x.pkg a then [⟨kind, name, false, i, x.pkg.name⟩] else [] := flat_step _ hx
theorem clashT_len (l : List Ent) (at_ : Nat) (kind : Int) (name : List UInt8) (i : Nat) (a : Atm) (j : Nat) : (clashT l at_ kind name i a j).length ≤ j := by
  have := flat_len (f := fun x : Ent × Nat => if decide (x.2 ≠ at_) && (decide (kind = 2) || x.1.conf) && satS x.1.pkg a then [(⟨kind, name, false, i, x.1.pkg.name⟩ : Vio)] else []) (fun x => by split <;> simp) (l.take j).zipIdx
  have h2 : (l.take j).zipIdx.length ≤ j := by simp; omega
  exact Nat.le_trans this h2
theorem clashT_end {l : List Ent} {at_ : Nat} {kind : Int} {name : List UInt8} {i : Nat} {a : Atm} {j : Nat} (h : l.length ≤ j) : clashT l at_ kind name i a j = clash1 l at_ kind name i a := by
  unfold clashT clash1
  rw [List.take_of_length_le h]
theorem clashS_len (l : List Ent) (at_ : Nat) (kind : Int) (name : List UInt8) (ats : List Atm) (k : Nat) (hk : k ≤ ats.length) : (clashS l at_ kind name (ats.take k)).length ≤ k * l.length := by
  induction k with
  | zero => simp [clashS]
  | succ k ih =>
    have h1 := ih (by omega)
    have h2 := clashT_len l at_ kind name k ats[k] l.length
    rw [clashT_end (Nat.le_refl _)] at h2
    rw [clash_take (List.getElem?_eq_getElem (by omega : k < ats.length)), List.length_append, Nat.succ_mul]
    omega
end Go.Proofs.YtefjoigngnnbjaaDoor
