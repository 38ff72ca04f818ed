/- The contracts of the program's mayClauses and May. -/
import Derived.Test.YtcbomomlojhghaaDoorMaA
import Derived.Test.YtcbomomlojhghaaDoorStB
import Derived.Deep.RegionHeld3
namespace Go.Proofs.YtcbomomlojhghaaDoor
set_option linter.unusedSimpArgs false
set_option linter.unusedVariables false
open Go.RowKit

def notA (a : Atm) : Bool := !mayA a
theorem badC_eq (c : List Atm) : badC c = (decide (c.length = 0) || c.any notA) := rfl
theorem clsE_many {l : List (List Atm)} (h : l.any longC = true) : clsE l = 12 := by simp [clsE, h]
theorem clsE_bad {l : List (List Atm)} (h1 : l.length ≤ 12) (h2 : l.any longC = false) (h3 : l.any badC = true) : clsE l = 3 := by
  unfold clsE
  rw [h2, h3]
  simp; omega
theorem clsE_ok {l : List (List Atm)} (h1 : l.length ≤ 12) (h2 : l.any longC = false) (h3 : l.any badC = false) : clsE l = 0 := by
  unfold clsE
  rw [h2, h3]
  simp; omega
def RClss (w : World) (cs : List Value) (x : List (List Atm)) : Prop := ∃ A c, cs = [.slice A x.length c] ∧ Clss w A c x
theorem RClss.kept {w w' : World} {cs : List Value} {x : List (List Atm)} (h : RClss w cs x) (hk : Kept w w') : RClss w' cs x := let ⟨A, c, h1, h2⟩ := h; ⟨A, c, h1, h2.kept hk⟩
/-- few conflicts, breaks, provides -/
def fewR (p : Pkg) : Prop := p.con.length ≤ 1000000 ∧ p.brk.length ≤ 1000000 ∧ p.prv.length ≤ 1000000
def sixL (p : Pkg) : List (List (List Atm)) := [p.pre, p.dep, p.rcm, singS p.con, singS p.brk, singS (prvS p.prv)]
theorem mayE_ok {p : Pkg} (h1 : nameS p.name = true) (h2 : isV p.ver = true) : mayE p = lstE (sixL p) := by unfold mayE; rw [h1, h2]; rfl
theorem mayE_name {p : Pkg} (h1 : nameS p.name = false) : mayE p = 3 := by simp [mayE, h1]
theorem mayE_ver {p : Pkg} (h1 : isV p.ver = false) : mayE p = 3 := by simp [mayE, h1]
/-- six lists of clauses in a block of their own -/
theorem six_slc {W : World} {g t : Nat} {p : Pkg} {a1 a2 a3 a4 a5 a6 : Option Addr} {c1 c2 c3 c4 c5 c6 : Nat}
    (hB : Blk W g t #[.slice a1 p.pre.length c1, .slice a2 p.dep.length c2, .slice a3 p.rcm.length c3, .slice a4 (singS p.con).length c4, .slice a5 (singS p.brk).length c5, .slice a6 (singS (prvS p.prv)).length c6])
    (h1 : Clss W a1 c1 p.pre) (h2 : Clss W a2 c2 p.dep) (h3 : Clss W a3 c3 p.rcm) (h4 : Clss W a4 c4 (singS p.con)) (h5 : Clss W a5 c5 (singS p.brk)) (h6 : Clss W a6 c6 (singS (prvS p.prv))) :
    Slc W 1 24 (RClss W) (some ⟨g, 0, none⟩) 6 (sixL p) :=
  slcB [[.slice a1 p.pre.length c1], [.slice a2 p.dep.length c2], [.slice a3 p.rcm.length c3], [.slice a4 (singS p.con).length c4], [.slice a5 (singS p.brk).length c5], [.slice a6 (singS (prvS p.prv)).length c6]] hB rfl rfl (fun i cs x e1 e2 => by
    rcases i with _ | _ | _ | _ | _ | _ | i <;> simp [sixL] at e1 e2 <;> (subst e1 e2; refine ⟨⟨_, _, rfl, ?_⟩, rfl⟩; assumption)) rfl (by show 6 * 24 ≤ _; decide) (by show 6 ≤ _; decide) (by decide)
end Go.Proofs.YtcbomomlojhghaaDoor
