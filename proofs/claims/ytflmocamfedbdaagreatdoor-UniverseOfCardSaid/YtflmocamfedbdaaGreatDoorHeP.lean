/- When packages are a healthy whole, plainly. -/
import Derived.Test.YtflmocamfedbdaaGreatDoorMaA
import Derived.Test.YtflmocamfedbdaaGreatDoorMk
namespace Go.Proofs.YtflmocamfedbdaaGreatDoor
set_option linter.unusedSimpArgs false
set_option linter.unusedVariables false
open Go.RowKit

/-- is an atom of p's Conflicts or Breaks met by q? -/
def agnS (p q : Pkg) : Bool := p.con.any (satS q) || p.brk.any (satS q)
/-- may two packages not be there together? -/
def clhS (p q : Pkg) : Bool := decide (p.name ≠ q.name) && (agnS p q || agnS q p)
def badQ (p q : Pkg) : Bool := decide (q.name = p.name) || clhS p q
def okAt (l : List Pkg) (i : Nat) (p : Pkg) : Bool := decide (mayE p = 0) && !(l.take i).any (badQ p)
def okCl (l : List Pkg) (p : Pkg) : Bool := (p.pre ++ p.dep).all fun c => metS c l
def okT (l : List Pkg) (k : Nat) : Bool := (List.range k).all fun i => match l[i]? with | some p => okAt l i p | none => true
/-- are packages a healthy whole? -/
def hlthS (l : List Pkg) : Bool := okT l l.length && l.all (okCl l)
theorem okT_step {l : List Pkg} {k : Nat} {q : Pkg} (h : okT l k = true) (hq : l[k]? = some q) (ho : okAt l k q = true) : okT l (k + 1) = true := by
  unfold okT at h ⊢
  rw [List.range_succ, List.all_append, h]
  simp [hq, ho]
theorem okT_no {l : List Pkg} {k : Nat} {q : Pkg} (hq : l[k]? = some q) (ho : okAt l k q = false) : okT l l.length = false := by
  rw [Bool.eq_false_iff]
  intro h
  unfold okT at h
  rw [List.all_eq_true] at h
  have := h k (List.mem_range.2 (List.getElem?_eq_some_iff.1 hq).1)
  simp [hq, ho] at this
theorem hlth_no {l : List Pkg} {k : Nat} {q : Pkg} (hq : l[k]? = some q) (ho : okAt l k q = false) : hlthS l = false := by
  unfold hlthS
  rw [okT_no hq ho]
  rfl
theorem okAt_may {l : List Pkg} {k : Nat} {q : Pkg} (h : mayE q ≠ 0) : okAt l k q = false := by simp [okAt, h]
theorem okAt_bad {l : List Pkg} {k : Nat} {q : Pkg} (h : (l.take k).any (badQ q) = true) : okAt l k q = false := by unfold okAt; rw [h]; simp
theorem okAt_yes {l : List Pkg} {k : Nat} {q : Pkg} (h : mayE q = 0) (h2 : (l.take k).any (badQ q) = false) : okAt l k q = true := by unfold okAt; rw [h2]; simp [h]
theorem hlth_cl {l : List Pkg} {k : Nat} {q : Pkg} (hq : l[k]? = some q) (ho : okCl l q = false) : hlthS l = false := by
  unfold hlthS
  rw [all_no hq ho]
  simp
theorem hlth_yes {l : List Pkg} (h : okT l l.length = true) (h2 : l.all (okCl l) = true) : hlthS l = true := by unfold hlthS; rw [h, h2]; rfl
end Go.Proofs.YtflmocamfedbdaaGreatDoor
