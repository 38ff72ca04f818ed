/- The plain functions: who meets an atom, what is wrong, what a whole costs. -/
import Derived.Test.YtcbomomlojhghaaDoorPk
import Derived.Test.YtcbomomlojhghaaDoorVp
import Derived.Test.YtcbomomlojhghaaDoorNm
namespace Go.Proofs.YtcbomomlojhghaaDoor
set_option linter.unusedSimpArgs false
set_option linter.unusedVariables false

/-- may an atom be? -/
def mayA (a : Atm) : Bool := nameS a.name && (decide (a.rel = 0) && decide (a.ver = []) || decide (1 ≤ a.rel ∧ a.rel ≤ 5) && isV a.ver)
def meetsP (a : Atm) (v : Prv) : Bool := decide (v.name = a.name) && (decide (a.rel = 0) || holdsS a.rel v.ver a.ver)
/-- does a package meet an atom? -/
def satS (p : Pkg) (a : Atm) : Bool := mayA a && (decide (p.name = a.name) && holdsS a.rel p.ver a.ver || p.prv.any (meetsP a))
/-- is a clause met? -/
def metS (c : List Atm) (l : List Pkg) : Bool := l.any fun p => c.any (satS p)
/-- the clauses that none of some packages meets, as violations -/
def lacksS (name : List UInt8) (pre : Bool) (on : List Pkg) (cs : List (List Atm)) : List Vio := cs.zipIdx.flatMap fun x => if metS x.1 on then [] else [⟨1, name, pre, x.2, []⟩]
def clash1 (l : List Ent) (at_ : Nat) (kind : Int) (name : List UInt8) (i : Nat) (a : Atm) : List Vio := l.zipIdx.flatMap fun x => if decide (x.2 ≠ at_) && (decide (kind = 2) || x.1.conf) && satS x.1.pkg a then [⟨kind, name, false, i, x.1.pkg.name⟩] else []
def clashS (l : List Ent) (at_ : Nat) (kind : Int) (name : List UInt8) (as : List Atm) : List Vio := as.zipIdx.flatMap fun y => clash1 l at_ kind name y.2 y.1
def onS (l : List Ent) : List Pkg := (l.filter Ent.conf).map Ent.pkg
def wrong1 (l : List Ent) (i : Nat) (x : Ent) : List Vio :=
  lacksS x.pkg.name true (onS l) x.pkg.pre ++ ((if x.conf then lacksS x.pkg.name false (onS l) x.pkg.dep else []) ++ (clashS l i 2 x.pkg.name x.pkg.con ++ clashS l i 3 x.pkg.name x.pkg.brk))
/-- what is wrong with entries -/
def wrongS (l : List Ent) : List Vio := l.zipIdx.flatMap fun x => wrong1 l x.2 x.1
theorem zip_step {α : Type} {l : List α} {k : Nat} {q : α} (h : l[k]? = some q) : (l.take (k + 1)).zipIdx = (l.take k).zipIdx ++ [(q, k)] := by
  have hk : k ≤ l.length := Nat.le_of_lt (List.getElem?_eq_some_iff.1 h).1
  rw [take_step h, List.zipIdx_append]
  simp [List.length_take, Nat.min_eq_left hk]
theorem flat_step {α β : Type} {l : List α} {k : Nat} {q : α} (f : α × Nat → List β) (h : l[k]? = some q) : (l.take (k + 1)).zipIdx.flatMap f = (l.take k).zipIdx.flatMap f ++ f (q, k) := by
  rw [zip_step h, List.flatMap_append]
  simp
def lgtC (K C : Nat) (cs : List (List Atm)) : Bool := decide (cs.length ≤ K) && cs.all fun c => decide (c.length ≤ C)
def lgtP (N K C : Nat) (p : Pkg) : Bool := decide (p.con.length + p.brk.length + p.prv.length ≤ N) && lgtC K C p.pre && lgtC K C p.dep && lgtC K C p.rcm
/-- few and small packages -/
def lightS (N K C : Nat) (l : List Pkg) : Bool := decide (l.length ≤ 26) && l.all (lgtP N K C)
end Go.Proofs.YtcbomomlojhghaaDoor
