/- Plain data of packages, and what it means that a world holds them: a slice that reads as a list, elements of any number of cells. -/
import Derived.Test.YtcbomomlojhghaaDoorMem
import Derived.Deep.MidRow
import Derived.Deep.Slices
import Derived.SizedLaws
import Derived.Deep.AppendLies
import Derived.Maps.AppendAt
namespace Go.Proofs.YtcbomomlojhghaaDoor
set_option linter.unusedSimpArgs false
set_option linter.unusedVariables false
open Go.RowKit

structure Atm where
  name : List UInt8
  rel : Int
  ver : List UInt8
  deriving DecidableEq
structure Prv where
  name : List UInt8
  ver : List UInt8
  deriving DecidableEq
structure Pkg where
  name : List UInt8
  ver : List UInt8
  pre : List (List Atm)
  dep : List (List Atm)
  rcm : List (List Atm)
  con : List Atm
  brk : List Atm
  prv : List Prv
  ess : Bool
  deriving DecidableEq
structure Ent where
  pkg : Pkg
  conf : Bool
  hold : Bool
  deriving DecidableEq
structure Vio where
  kind : Int
  name : List UInt8
  pre : Bool
  i : Int
  other : List UInt8
  deriving DecidableEq

/-- a slice value (its address, its capacity) that reads as a list: each element lies in k cells, z bytes -/
def Slc {α : Type} (w : World) (k z : Nat) (R : List Value → α → Prop) (A : Option Addr) (c : Nat) (l : List α) : Prop :=
  l.length ≤ c ∧ c ≤ 9223372036854775807 ∧ l.length * z ≤ 140737488351232 ∧
    (0 < l.length → ∃ b o, A = some ⟨b, o, none⟩ ∧ ∀ i x, l[i]? = some x → ∃ cs, R cs x ∧ cs.length = k ∧ w.rangeAt b (o + i * k) cs)

theorem below_alloc {w w1 : World} (h : Below w.heap.size w w1) (o : Obj) : Below w.heap.size w (w1.alloc o) := h.alloc h.size o
theorem bcell {W w1 : World} (hb : Below W.heap.size W w1) : (∀ b o, b < W.heap.size → w1.cell? ⟨b, o, none⟩ = W.cell? ⟨b, o, none⟩) ∧ (∀ b o, b < W.heap.size → w1.frozen? ⟨b, o, none⟩ = W.frozen? ⟨b, o, none⟩) ∧ W.heap.size ≤ w1.heap.size :=
  ⟨fun b o h => hb.cell (p := ⟨b, o, none⟩) h, fun b o h => hb.frozen (p := ⟨b, o, none⟩) h, hb.size⟩
/-- all cells that are there stay -/
def Kept (w w' : World) : Prop := ∀ (p : Addr) (v : Value), w.cell? p = some v → w'.cell? p = some v
theorem Kept.refl (w : World) : Kept w w := fun _ _ h => h
theorem Kept.trans {a b c : World} (h : Kept a b) (k : Kept b c) : Kept a c := fun p v hv => k p v (h p v hv)
theorem Kept.of_below {w w' : World} (h : Below w.heap.size w w') : Kept w w' := fun p v hv => (h.cell (block_lt_of_cell hv)).trans hv
theorem Kept.alloc (w : World) (o : Obj) : Kept w (w.alloc o) := fun p v hv => (World.cell?_alloc_lt w o p (block_lt_of_cell hv)).trans hv
theorem Kept.drewN (w : World) (n : Nat) : Kept w (w.drewN n) := fun _ _ h => h
theorem Kept.drew (w : World) : Kept w w.drew := fun _ _ h => h
theorem rangeAt_kept {w w' : World} (h : Kept w w') {b o : Nat} {cs : List Value} (hr : w.rangeAt b o cs) : w'.rangeAt b o cs := fun j v hv => h _ _ (hr j v hv)

section
variable {α : Type} {w w' : World} {k z : Nat} {R R' : List Value → α → Prop} {A : Option Addr} {c : Nat} {l : List α}
theorem Slc.mono (h : Slc w k z R A c l) (hk : Kept w w') (hR : ∀ cs x, R cs x → R' cs x) : Slc w' k z R' A c l := by
  obtain ⟨h2, h3, h4, h5⟩ := h
  refine ⟨h2, h3, h4, fun h0 => ?_⟩
  obtain ⟨b, o, hA, hx⟩ := h5 h0
  refine ⟨b, o, hA, fun i x hi => ?_⟩
  obtain ⟨cs, hr, hc, hw⟩ := hx i x hi
  exact ⟨cs, hR _ _ hr, hc, rangeAt_kept hk hw⟩
theorem Slc.nil_ (hc : c ≤ 9223372036854775807) : Slc w k z R A c [] := ⟨Nat.zero_le _, hc, by simp, fun h => absurd h (by simp)⟩
theorem Slc.bd (h : Slc w k z R A c l) : l.length ≤ c ∧ c ≤ 9223372036854775807 ∧ l.length * z ≤ 140737488351232 := ⟨h.1, h.2.1, h.2.2.1⟩
/-- the element at a place -/
theorem Slc.at_ {i : Nat} (h : Slc w k z R A c l) (hi : i < l.length) : ∃ x b o cs, l[i]? = some x ∧ A = some ⟨b, o, none⟩ ∧ R cs x ∧ cs.length = k ∧ w.rangeAt b (o + i * k) cs := by
  obtain ⟨b, o, hA, hx⟩ := h.2.2.2 (by omega)
  obtain ⟨cs, h1, h2, h3⟩ := hx i _ (List.getElem?_eq_getElem hi)
  exact ⟨_, b, o, cs, List.getElem?_eq_getElem hi, hA, h1, h2, h3⟩
end
theorem range2 {w : World} {b o : Nat} {v0 v1 : Value} (h : w.rangeAt b o [v0, v1]) : w.cell? ⟨b, o, none⟩ = some v0 ∧ w.cell? ⟨b, o + 1, none⟩ = some v1 := ⟨h 0 _ rfl, h 1 _ rfl⟩
theorem range3 {w : World} {b o : Nat} {v0 v1 v2 : Value} (h : w.rangeAt b o [v0, v1, v2]) : w.cell? ⟨b, o, none⟩ = some v0 ∧ w.cell? ⟨b, o + 1, none⟩ = some v1 ∧ w.cell? ⟨b, o + 2, none⟩ = some v2 := ⟨h 0 _ rfl, h 1 _ rfl, h 2 _ rfl⟩
theorem range5 {w : World} {b o : Nat} {v0 v1 v2 v3 v4 : Value} (h : w.rangeAt b o [v0, v1, v2, v3, v4]) :
    w.cell? ⟨b, o, none⟩ = some v0 ∧ w.cell? ⟨b, o + 1, none⟩ = some v1 ∧ w.cell? ⟨b, o + 2, none⟩ = some v2 ∧ w.cell? ⟨b, o + 3, none⟩ = some v3 ∧ w.cell? ⟨b, o + 4, none⟩ = some v4 := ⟨h 0 _ rfl, h 1 _ rfl, h 2 _ rfl, h 3 _ rfl, h 4 _ rfl⟩
theorem range9 {w : World} {b o : Nat} {v0 v1 v2 v3 v4 v5 v6 v7 v8 : Value} (h : w.rangeAt b o [v0, v1, v2, v3, v4, v5, v6, v7, v8]) :
    w.cell? ⟨b, o, none⟩ = some v0 ∧ w.cell? ⟨b, o + 1, none⟩ = some v1 ∧ w.cell? ⟨b, o + 2, none⟩ = some v2 ∧ w.cell? ⟨b, o + 3, none⟩ = some v3 ∧ w.cell? ⟨b, o + 4, none⟩ = some v4 ∧ w.cell? ⟨b, o + 5, none⟩ = some v5 ∧
      w.cell? ⟨b, o + 6, none⟩ = some v6 ∧ w.cell? ⟨b, o + 7, none⟩ = some v7 ∧ w.cell? ⟨b, o + 8, none⟩ = some v8 :=
  ⟨h 0 _ rfl, h 1 _ rfl, h 2 _ rfl, h 3 _ rfl, h 4 _ rfl, h 5 _ rfl, h 6 _ rfl, h 7 _ rfl, h 8 _ rfl⟩
theorem range11 {w : World} {b o : Nat} {v0 v1 v2 v3 v4 v5 v6 v7 v8 v9 v10 : Value} (h : w.rangeAt b o [v0, v1, v2, v3, v4, v5, v6, v7, v8, v9, v10]) :
    w.cell? ⟨b, o, none⟩ = some v0 ∧ w.cell? ⟨b, o + 1, none⟩ = some v1 ∧ w.cell? ⟨b, o + 2, none⟩ = some v2 ∧ w.cell? ⟨b, o + 3, none⟩ = some v3 ∧ w.cell? ⟨b, o + 4, none⟩ = some v4 ∧ w.cell? ⟨b, o + 5, none⟩ = some v5 ∧
      w.cell? ⟨b, o + 6, none⟩ = some v6 ∧ w.cell? ⟨b, o + 7, none⟩ = some v7 ∧ w.cell? ⟨b, o + 8, none⟩ = some v8 ∧ w.cell? ⟨b, o + 9, none⟩ = some v9 ∧ w.cell? ⟨b, o + 10, none⟩ = some v10 :=
  ⟨h 0 _ rfl, h 1 _ rfl, h 2 _ rfl, h 3 _ rfl, h 4 _ rfl, h 5 _ rfl, h 6 _ rfl, h 7 _ rfl, h 8 _ rfl, h 9 _ rfl, h 10 _ rfl⟩

def encA (a : Atm) : List Value := [.string (bs a.name), .int .i64 a.rel, .string (bs a.ver)]
def encP (a : Prv) : List Value := [.string (bs a.name), .string (bs a.ver)]
def encV (a : Vio) : List Value := [.int .i64 a.kind, .string (bs a.name), .bool a.pre, .int .i64 a.i, .string (bs a.other)]
/-- the length of a string that is there -/
def short (l : List UInt8) : Prop := l.length ≤ 140737488351232
def Atm.ok (a : Atm) : Prop := short a.name ∧ short a.ver
def Prv.ok (a : Prv) : Prop := short a.name ∧ short a.ver
def RAtm (cs : List Value) (a : Atm) : Prop := cs = encA a ∧ a.ok
def RPrv (cs : List Value) (a : Prv) : Prop := cs = encP a ∧ a.ok
def RVio (cs : List Value) (a : Vio) : Prop := cs = encV a
def Atms (w : World) (A : Option Addr) (c : Nat) (l : List Atm) : Prop := Slc w 3 40 RAtm A c l
def RCls (w : World) (cs : List Value) (l : List Atm) : Prop := ∃ A c, cs = [.slice A l.length c] ∧ Atms w A c l
def Clss (w : World) (A : Option Addr) (c : Nat) (l : List (List Atm)) : Prop := Slc w 1 24 (RCls w) A c l
def Prvs (w : World) (A : Option Addr) (c : Nat) (l : List Prv) : Prop := Slc w 2 32 RPrv A c l
def Vios (w : World) (A : Option Addr) (c : Nat) (l : List Vio) : Prop := Slc w 5 56 RVio A c l
/-- where a package's six slices lie -/
structure Raw where
  a1 : Option Addr
  a2 : Option Addr
  a3 : Option Addr
  a4 : Option Addr
  a5 : Option Addr
  a6 : Option Addr
  c1 : Nat
  c2 : Nat
  c3 : Nat
  c4 : Nat
  c5 : Nat
  c6 : Nat
def RP (w : World) (r : Raw) (p : Pkg) : Prop :=
  short p.name ∧ short p.ver ∧ Clss w r.a1 r.c1 p.pre ∧ Clss w r.a2 r.c2 p.dep ∧ Clss w r.a3 r.c3 p.rcm ∧ Atms w r.a4 r.c4 p.con ∧ Atms w r.a5 r.c5 p.brk ∧ Prvs w r.a6 r.c6 p.prv
def encK (r : Raw) (p : Pkg) : List Value :=
  [.string (bs p.name), .string (bs p.ver), .slice r.a1 p.pre.length r.c1, .slice r.a2 p.dep.length r.c2, .slice r.a3 p.rcm.length r.c3, .slice r.a4 p.con.length r.c4, .slice r.a5 p.brk.length r.c5, .slice r.a6 p.prv.length r.c6, .bool p.ess]
def encE (r : Raw) (x : Ent) : List Value :=
  [.string (bs x.pkg.name), .string (bs x.pkg.ver), .slice r.a1 x.pkg.pre.length r.c1, .slice r.a2 x.pkg.dep.length r.c2, .slice r.a3 x.pkg.rcm.length r.c3, .slice r.a4 x.pkg.con.length r.c4, .slice r.a5 x.pkg.brk.length r.c5, .slice r.a6 x.pkg.prv.length r.c6, .bool x.pkg.ess, .bool x.conf, .bool x.hold]
def RPkg (w : World) (cs : List Value) (p : Pkg) : Prop := ∃ r, cs = encK r p ∧ RP w r p
def REnt (w : World) (cs : List Value) (x : Ent) : Prop := ∃ r, cs = encE r x ∧ RP w r x.pkg
def Pkgs (w : World) (A : Option Addr) (c : Nat) (l : List Pkg) : Prop := Slc w 9 184 (RPkg w) A c l
def Ents (w : World) (A : Option Addr) (c : Nat) (l : List Ent) : Prop := Slc w 11 192 (REnt w) A c l
section
variable {w w' : World} {A : Option Addr} {c : Nat}
theorem Atms.kept {l : List Atm} (h : Atms w A c l) (hk : Kept w w') : Atms w' A c l := Slc.mono h hk fun _ _ h => h
theorem Prvs.kept {l : List Prv} (h : Prvs w A c l) (hk : Kept w w') : Prvs w' A c l := Slc.mono h hk fun _ _ h => h
theorem Vios.kept {l : List Vio} (h : Vios w A c l) (hk : Kept w w') : Vios w' A c l := Slc.mono h hk fun _ _ h => h
theorem RCls.kept {cs : List Value} {l : List Atm} (h : RCls w cs l) (hk : Kept w w') : RCls w' cs l := let ⟨A, c, h1, h2⟩ := h; ⟨A, c, h1, h2.kept hk⟩
theorem Clss.kept {l : List (List Atm)} (h : Clss w A c l) (hk : Kept w w') : Clss w' A c l := Slc.mono h hk fun _ _ h => h.kept hk
theorem RP.kept {r : Raw} {p : Pkg} (h : RP w r p) (hk : Kept w w') : RP w' r p := by
  obtain ⟨h1, h2, h3, h4, h5, h6, h7, h8⟩ := h
  exact ⟨h1, h2, h3.kept hk, h4.kept hk, h5.kept hk, h6.kept hk, h7.kept hk, h8.kept hk⟩
theorem RPkg.kept {cs : List Value} {p : Pkg} (h : RPkg w cs p) (hk : Kept w w') : RPkg w' cs p := let ⟨r, h1, h2⟩ := h; ⟨r, h1, h2.kept hk⟩
theorem REnt.kept {cs : List Value} {p : Ent} (h : REnt w cs p) (hk : Kept w w') : REnt w' cs p := let ⟨r, h1, h2⟩ := h; ⟨r, h1, h2.kept hk⟩
theorem Pkgs.kept {l : List Pkg} (h : Pkgs w A c l) (hk : Kept w w') : Pkgs w' A c l := Slc.mono h hk fun _ _ h => h.kept hk
theorem Ents.kept {l : List Ent} (h : Ents w A c l) (hk : Kept w w') : Ents w' A c l := Slc.mono h hk fun _ _ h => h.kept hk
theorem RP.pre {r : Raw} {p : Pkg} (h : RP w r p) : Clss w r.a1 r.c1 p.pre := h.2.2.1
theorem RP.dep {r : Raw} {p : Pkg} (h : RP w r p) : Clss w r.a2 r.c2 p.dep := h.2.2.2.1
theorem RP.rcm {r : Raw} {p : Pkg} (h : RP w r p) : Clss w r.a3 r.c3 p.rcm := h.2.2.2.2.1
theorem RP.con {r : Raw} {p : Pkg} (h : RP w r p) : Atms w r.a4 r.c4 p.con := h.2.2.2.2.2.1
theorem RP.brk {r : Raw} {p : Pkg} (h : RP w r p) : Atms w r.a5 r.c5 p.brk := h.2.2.2.2.2.2.1
theorem RP.prv {r : Raw} {p : Pkg} (h : RP w r p) : Prvs w r.a6 r.c6 p.prv := h.2.2.2.2.2.2.2
/-- an element, cell by cell, in a later world -/
theorem Pkgs.at_ {l : List Pkg} {i : Nat} (h : Pkgs w A c l) (hi : i < l.length) (hk : Kept w w') : ∃ x b o r, l[i]? = some x ∧ A = some ⟨b, o, none⟩ ∧ RP w r x ∧
    w'.cell? ⟨b, o + i * 9, none⟩ = some (.string (bs x.name)) ∧ w'.cell? ⟨b, o + i * 9 + 1, none⟩ = some (.string (bs x.ver)) ∧ w'.cell? ⟨b, o + i * 9 + 2, none⟩ = some (.slice r.a1 x.pre.length r.c1) ∧
    w'.cell? ⟨b, o + i * 9 + 3, none⟩ = some (.slice r.a2 x.dep.length r.c2) ∧ w'.cell? ⟨b, o + i * 9 + 4, none⟩ = some (.slice r.a3 x.rcm.length r.c3) ∧ w'.cell? ⟨b, o + i * 9 + 5, none⟩ = some (.slice r.a4 x.con.length r.c4) ∧
    w'.cell? ⟨b, o + i * 9 + 6, none⟩ = some (.slice r.a5 x.brk.length r.c5) ∧ w'.cell? ⟨b, o + i * 9 + 7, none⟩ = some (.slice r.a6 x.prv.length r.c6) ∧ w'.cell? ⟨b, o + i * 9 + 8, none⟩ = some (.bool x.ess) := by
  obtain ⟨x, b, o, cs, h1, h2, ⟨r, rfl, h3⟩, _, h4⟩ := Slc.at_ h hi
  exact ⟨x, b, o, r, h1, h2, h3, range9 (rangeAt_kept hk h4)⟩
theorem Ents.at_ {l : List Ent} {i : Nat} (h : Ents w A c l) (hi : i < l.length) (hk : Kept w w') : ∃ x b o r, l[i]? = some x ∧ A = some ⟨b, o, none⟩ ∧ RP w r x.pkg ∧
    w'.cell? ⟨b, o + i * 11, none⟩ = some (.string (bs x.pkg.name)) ∧ w'.cell? ⟨b, o + i * 11 + 1, none⟩ = some (.string (bs x.pkg.ver)) ∧ w'.cell? ⟨b, o + i * 11 + 2, none⟩ = some (.slice r.a1 x.pkg.pre.length r.c1) ∧
    w'.cell? ⟨b, o + i * 11 + 3, none⟩ = some (.slice r.a2 x.pkg.dep.length r.c2) ∧ w'.cell? ⟨b, o + i * 11 + 4, none⟩ = some (.slice r.a3 x.pkg.rcm.length r.c3) ∧ w'.cell? ⟨b, o + i * 11 + 5, none⟩ = some (.slice r.a4 x.pkg.con.length r.c4) ∧
    w'.cell? ⟨b, o + i * 11 + 6, none⟩ = some (.slice r.a5 x.pkg.brk.length r.c5) ∧ w'.cell? ⟨b, o + i * 11 + 7, none⟩ = some (.slice r.a6 x.pkg.prv.length r.c6) ∧ w'.cell? ⟨b, o + i * 11 + 8, none⟩ = some (.bool x.pkg.ess) ∧
    w'.cell? ⟨b, o + i * 11 + 9, none⟩ = some (.bool x.conf) ∧ w'.cell? ⟨b, o + i * 11 + 10, none⟩ = some (.bool x.hold) := by
  obtain ⟨x, b, o, cs, h1, h2, ⟨r, rfl, h3⟩, _, h4⟩ := Slc.at_ h hi
  exact ⟨x, b, o, r, h1, h2, h3, range11 (rangeAt_kept hk h4)⟩
theorem Atms.at_ {l : List Atm} {i : Nat} (h : Atms w A c l) (hi : i < l.length) (hk : Kept w w') : ∃ x b o, l[i]? = some x ∧ A = some ⟨b, o, none⟩ ∧ x.ok ∧
    w'.cell? ⟨b, o + i * 3, none⟩ = some (.string (bs x.name)) ∧ w'.cell? ⟨b, o + i * 3 + 1, none⟩ = some (.int .i64 x.rel) ∧ w'.cell? ⟨b, o + i * 3 + 2, none⟩ = some (.string (bs x.ver)) := by
  obtain ⟨x, b, o, cs, h1, h2, ⟨rfl, h3⟩, _, h4⟩ := Slc.at_ h hi
  exact ⟨x, b, o, h1, h2, h3, range3 (rangeAt_kept hk h4)⟩
theorem Prvs.at_ {l : List Prv} {i : Nat} (h : Prvs w A c l) (hi : i < l.length) (hk : Kept w w') : ∃ x b o, l[i]? = some x ∧ A = some ⟨b, o, none⟩ ∧ x.ok ∧
    w'.cell? ⟨b, o + i * 2, none⟩ = some (.string (bs x.name)) ∧ w'.cell? ⟨b, o + i * 2 + 1, none⟩ = some (.string (bs x.ver)) := by
  obtain ⟨x, b, o, cs, h1, h2, ⟨rfl, h3⟩, _, h4⟩ := Slc.at_ h hi
  exact ⟨x, b, o, h1, h2, h3, range2 (rangeAt_kept hk h4)⟩
theorem Vios.at_ {l : List Vio} {i : Nat} (h : Vios w A c l) (hi : i < l.length) (hk : Kept w w') : ∃ x b o, l[i]? = some x ∧ A = some ⟨b, o, none⟩ ∧
    w'.cell? ⟨b, o + i * 5, none⟩ = some (.int .i64 x.kind) ∧ w'.cell? ⟨b, o + i * 5 + 1, none⟩ = some (.string (bs x.name)) ∧ w'.cell? ⟨b, o + i * 5 + 2, none⟩ = some (.bool x.pre) ∧ w'.cell? ⟨b, o + i * 5 + 3, none⟩ = some (.int .i64 x.i) ∧ w'.cell? ⟨b, o + i * 5 + 4, none⟩ = some (.string (bs x.other)) := by
  obtain ⟨x, b, o, cs, h1, h2, rfl, _, h4⟩ := Slc.at_ h hi
  exact ⟨x, b, o, h1, h2, range5 (rangeAt_kept hk h4)⟩
theorem Clss.at_ {l : List (List Atm)} {i : Nat} (h : Clss w A c l) (hi : i < l.length) (hk : Kept w w') : ∃ x b o A' c', l[i]? = some x ∧ A = some ⟨b, o, none⟩ ∧ Atms w A' c' x ∧ w'.cell? ⟨b, o + i, none⟩ = some (.slice A' x.length c') := by
  obtain ⟨x, b, o, cs, h1, h2, ⟨A', c', rfl, h3⟩, _, h4⟩ := Slc.at_ h hi
  refine ⟨x, b, o, A', c', h1, h2, h3, ?_⟩
  have := rangeAt_kept hk h4 0 _ rfl
  simpa using this
end
theorem blk_new1 (w : World) (t : TypeId) (cs : Array Value) : Blk (w.alloc (.cells cs t)) w.heap.size t cs := Blk.new w t cs
theorem blk_new2 (w : World) (o : Obj) (t : TypeId) (cs : Array Value) : Blk ((w.alloc o).alloc (.cells cs t)) (w.heap.size + 1) t cs := by
  have := Blk.new (w.alloc o) t cs
  simpa using this
theorem blk_new3 (w : World) (o o' : Obj) (t : TypeId) (cs : Array Value) : Blk (((w.alloc o).alloc o').alloc (.cells cs t)) (w.heap.size + 2) t cs := by
  have := Blk.new ((w.alloc o).alloc o') t cs
  simpa using this
theorem blk3 {w : World} {g t : Nat} {v0 v1 v2 : Value} (h : Blk w g t #[v0, v1, v2]) : w.cell? ⟨g, 0, none⟩ = some v0 ∧ w.cell? ⟨g, 1, none⟩ = some v1 ∧ w.cell? ⟨g, 2, none⟩ = some v2 := ⟨h.cell 0, h.cell 1, h.cell 2⟩
theorem blk9 {w : World} {g t : Nat} {v0 v1 v2 v3 v4 v5 v6 v7 v8 : Value} (h : Blk w g t #[v0, v1, v2, v3, v4, v5, v6, v7, v8]) : w.cell? ⟨g, 0, none⟩ = some v0 ∧ w.cell? ⟨g, 1, none⟩ = some v1 ∧ w.cell? ⟨g, 2, none⟩ = some v2 ∧
    w.cell? ⟨g, 3, none⟩ = some v3 ∧ w.cell? ⟨g, 4, none⟩ = some v4 ∧ w.cell? ⟨g, 5, none⟩ = some v5 ∧ w.cell? ⟨g, 6, none⟩ = some v6 ∧ w.cell? ⟨g, 7, none⟩ = some v7 ∧ w.cell? ⟨g, 8, none⟩ = some v8 := ⟨h.cell 0, h.cell 1, h.cell 2, h.cell 3, h.cell 4, h.cell 5, h.cell 6, h.cell 7, h.cell 8⟩
theorem blk11 {w : World} {g t : Nat} {v0 v1 v2 v3 v4 v5 v6 v7 v8 v9 v10 : Value} (h : Blk w g t #[v0, v1, v2, v3, v4, v5, v6, v7, v8, v9, v10]) : w.cell? ⟨g, 0, none⟩ = some v0 ∧ w.cell? ⟨g, 1, none⟩ = some v1 ∧ w.cell? ⟨g, 2, none⟩ = some v2 ∧
    w.cell? ⟨g, 3, none⟩ = some v3 ∧ w.cell? ⟨g, 4, none⟩ = some v4 ∧ w.cell? ⟨g, 5, none⟩ = some v5 ∧ w.cell? ⟨g, 6, none⟩ = some v6 ∧ w.cell? ⟨g, 7, none⟩ = some v7 ∧ w.cell? ⟨g, 8, none⟩ = some v8 ∧ w.cell? ⟨g, 9, none⟩ = some v9 ∧ w.cell? ⟨g, 10, none⟩ = some v10 :=
  ⟨h.cell 0, h.cell 1, h.cell 2, h.cell 3, h.cell 4, h.cell 5, h.cell 6, h.cell 7, h.cell 8, h.cell 9, h.cell 10⟩
theorem take_step {α : Type} {l : List α} {k : Nat} {q : α} (h : l[k]? = some q) : l.take (k + 1) = l.take k ++ [q] := by
  obtain ⟨hk, rfl⟩ := List.getElem?_eq_some_iff.1 h
  rw [List.take_succ_eq_append_getElem hk]
theorem take_end {α : Type} {l : List α} {k : Nat} (hk : k ≤ l.length) (h : ¬ k < l.length) : l.take k = l := List.take_of_length_le (by omega)
end Go.Proofs.YtcbomomlojhghaaDoor
