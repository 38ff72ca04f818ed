/- Words for memory: a block known whole, what one call may turn, slices that read as lists. (Begun from the guide's lemma pages, for this seat.) Plain data of packages, and what it means that a world holds them: a slice that reads as a list, elements of any number of cells. A slice that the call itself makes by appending elements of k cells: what it reads as, and the laws of append. The first place at which something holds, plainly. A region that draws its order, only reads, and whose calls leave what was there: walked once, in the order of the text (the kit's theorem wp_region_quiet at the class of all worlds behind this one). A store into one cell of a row of the call's own: what the row reads as behind it; entries with one field turned. The part of a world that lies in blocks of some element types: it stays while all else turns. The plain functions: who meets an atom, what is wrong, what a whole costs. Violations among violations, plainly. append of a whole slice to a row of the call's own, also where it has no element. Parts held against each other as the reference does it: the plain side. For all texts: holding two parts of versions against each other is a comparison, sign by sign, of two lists of numbers behind which stand noughts without end. So it is an order. -/
import Derived.Test.YtaicidbopgnmfaaGreatDoorVb
import Derived.Laws.OwnMore
import Derived.Deep.Draws
import Derived.Laws.Rows
import Derived.Deep.OwnRows
import Derived.OwnWalk
import Derived.Laws.AppendOwn
import Derived.Deep.MidRow
import Derived.Deep.Slices
import Derived.SizedLaws
import Derived.Deep.AppendLies
import Derived.Maps.AppendAt
import Derived.Deep.QuietTactic
import Derived.Lib.AppendZeros
namespace Go.Proofs.YtaicidbopgnmfaaGreatDoor
set_option linter.unusedSimpArgs false
set_option linter.unusedVariables false
open Go.RowKit

/-- block g is just these cells of element type t, none frozen -/
def Blk (w : World) (g : Nat) (t : TypeId) (cs : Array Value) : Prop := w.heap[g]? = some (.cells cs t (0, 0))
section
variable {w w' : World} {g : Nat} {t : TypeId} {cs : Array Value}
theorem Blk.lt (h : Blk w g t cs) : g < w.heap.size := by
  rcases Nat.lt_or_ge g w.heap.size with hlt | hge
  · exact hlt
  · unfold Blk at h; rw [Array.getElem?_eq_none hge] at h; cases h
theorem Blk.cell (h : Blk w g t cs) (i : Nat) : w.cell? ⟨g, i, none⟩ = cs[i]? := cell_of_row w g i cs t (0, 0) h
theorem Blk.frozen (h : Blk w g t cs) (i : Nat) : w.frozen? ⟨g, i, none⟩ = false := by
  unfold Blk at h
  simp [World.frozen?, h]
theorem Blk.new (w : World) (t : TypeId) (cs : Array Value) : Blk (w.alloc (.cells cs t)) w.heap.size t cs := heap_alloc_new w _
theorem Blk.drewN (h : Blk w g t cs) (n : Nat) : Blk (w.drewN n) g t cs := h
theorem Blk.alloc (h : Blk w g t cs) (o : Obj) : Blk (w.alloc o) g t cs := (Below.heap_alloc w o g h.lt).trans h
theorem Blk.set_ (h : Blk w g t cs) (i : Nat) (u : Value) : Blk (w.setCell ⟨g, i, none⟩ u) g t (cs.setIfInBounds i u) := by
  unfold Blk at h ⊢
  simp [World.setCell, Array.getElem?_modify, h]
theorem Blk.far (h : Blk w g t cs) {p : Addr} (hp : g ≠ p.block) (u : Value) : Blk (w.setCell p u) g t cs := (Below.heap_setCell w p u g hp).trans h
theorem Blk.below {B : Nat} (h : Blk w g t cs) (hb : Below B w w') (hg : g < B) : Blk w' g t cs := (hb.block g hg).trans h
theorem Blk.next (h : Blk w g t cs) (hb : Below w.heap.size w w') : Blk w' g t cs := h.below hb h.lt
theorem Blk.grown {row : Option Nat} (h : Blk w g t cs) (hb : w.grownBy w' row) (hg : some g ≠ row) : Blk w' g t cs := (hb.block g h.lt hg).trans h
end
theorem only_drewN {a w : World} {row : Option Nat} (h : a.grownBy w row) (n : Nat) : a.grownBy (w.drewN n) row := ⟨h.os, h.tape, h.output, h.size, h.block⟩
theorem only_alloc {a w : World} {row : Option Nat} (h : a.grownBy w row) (o : Obj) : a.grownBy (w.alloc o) row :=
  ⟨h.os, h.tape, h.output, Nat.le_trans h.size (by simp), fun i hi hne => (Below.heap_alloc w o i (Nat.lt_of_lt_of_le hi h.size)).trans (h.block i hi hne)⟩
theorem only_setCell {a w : World} {g : Nat} (h : a.grownBy w (some g)) {p : Addr} (hp : p.block = g ∨ a.heap.size ≤ p.block) (u : Value) : a.grownBy (w.setCell p u) (some g) :=
  ⟨h.os, h.tape, h.output, by simpa [World.setCell] using h.size, fun i hi hne => (Below.heap_setCell w p u i (by
    rintro rfl
    rcases hp with hp | hp
    · exact hne (by rw [hp])
    · omega)).trans (h.block i hi hne)⟩
theorem only_set {a w : World} {g : Nat} (h : a.grownBy w (some g)) (i : Nat) (u : Value) : a.grownBy (w.setCell ⟨g, i, none⟩ u) (some g) := only_setCell h (.inl rfl) u
theorem only_of_below {a w : World} (h : Below a.heap.size a w) (row : Option Nat) : a.grownBy w row := ⟨h.os, h.tape, h.output, h.size, fun i hi _ => h.block i hi⟩
theorem only_next {a w w1 : World} {row : Option Nat} (h : a.grownBy w row) (hb : Below w.heap.size w w1) : a.grownBy w1 row :=
  ⟨hb.os.trans h.os, hb.tape.trans h.tape, hb.output.trans h.output, Nat.le_trans h.size hb.size, fun i hi hn => (hb.block i (Nat.lt_of_lt_of_le hi h.size)).trans (h.block i hi hn)⟩
/-- a call that turned one block of the call's own -/
theorem below_only {a w w1 : World} {g : Nat} (h : Below a.heap.size a w) (hg : w.grownBy w1 (some g)) (hB : a.heap.size ≤ g) : Below a.heap.size a w1 :=
  ⟨hg.os.trans h.os, hg.tape.trans h.tape, hg.output.trans h.output, Nat.le_trans h.size hg.size, fun i hi => (hg.block i (Nat.lt_of_lt_of_le hi h.size) (fun e => by injection e with e; omega)).trans (h.block i hi)⟩
/-- the length of a string in a cell: for a loop's measure -/
def strAt (w : World) (a : Addr) : Nat := match w.cell? a with | some (.string s) => s.size | _ => 0
theorem strAt_of {w : World} {a : Addr} {s : ByteArray} (h : w.cell? a = some (.string s)) : strAt w a = s.size := by simp [strAt, h]
def strLen (v : Value) : Nat := match v with | .string s => s.size | _ => 0
theorem strLen_bs (l : List UInt8) : strLen (.string (bs l)) = l.length := rfl
end Go.Proofs.YtaicidbopgnmfaaGreatDoor
namespace Go.Proofs.YtaicidbopgnmfaaGreatDoor
set_option linter.unusedSimpArgs false
set_option linter.unusedVariables false
open Go.RowKit

structure Atm where
  name : List UInt8
  rel : Int
  ver : List UInt8
  deriving DecidableEq
structure Prv where
  name : List UInt8
  ver : List UInt8
  deriving DecidableEq
structure Pkg where
  name : List UInt8
  ver : List UInt8
  pre : List (List Atm)
  dep : List (List Atm)
  rcm : List (List Atm)
  con : List Atm
  brk : List Atm
  prv : List Prv
  ess : Bool
  deriving DecidableEq
structure Ent where
  pkg : Pkg
  conf : Bool
  hold : Bool
  deriving DecidableEq
structure Vio where
  kind : Int
  name : List UInt8
  pre : Bool
  i : Int
  other : List UInt8
  deriving DecidableEq

/-- a slice value (its address, its capacity) that reads as a list: each element lies in k cells, z bytes -/
def Slc {α : Type} (w : World) (k z : Nat) (R : List Value → α → Prop) (A : Option Addr) (c : Nat) (l : List α) : Prop :=
  l.length ≤ c ∧ c ≤ 9223372036854775807 ∧ l.length * z ≤ 140737488351232 ∧
    (0 < l.length → ∃ b o, A = some ⟨b, o, none⟩ ∧ ∀ i x, l[i]? = some x → ∃ cs, R cs x ∧ cs.length = k ∧ w.rangeAt b (o + i * k) cs)

theorem below_alloc {w w1 : World} (h : Below w.heap.size w w1) (o : Obj) : Below w.heap.size w (w1.alloc o) := h.alloc h.size o
theorem bcell {W w1 : World} (hb : Below W.heap.size W w1) : (∀ b o, b < W.heap.size → w1.cell? ⟨b, o, none⟩ = W.cell? ⟨b, o, none⟩) ∧ (∀ b o, b < W.heap.size → w1.frozen? ⟨b, o, none⟩ = W.frozen? ⟨b, o, none⟩) ∧ W.heap.size ≤ w1.heap.size :=
  ⟨fun b o h => hb.cell (p := ⟨b, o, none⟩) h, fun b o h => hb.frozen (p := ⟨b, o, none⟩) h, hb.size⟩
/-- all cells that are there stay -/
def Kept (w w' : World) : Prop := ∀ (p : Addr) (v : Value), w.cell? p = some v → w'.cell? p = some v
theorem Kept.refl (w : World) : Kept w w := fun _ _ h => h
theorem Kept.trans {a b c : World} (h : Kept a b) (k : Kept b c) : Kept a c := fun p v hv => k p v (h p v hv)
theorem Kept.of_below {w w' : World} (h : Below w.heap.size w w') : Kept w w' := fun p v hv => (h.cell (block_lt_of_cell hv)).trans hv
theorem Kept.alloc (w : World) (o : Obj) : Kept w (w.alloc o) := fun p v hv => (World.cell?_alloc_lt w o p (block_lt_of_cell hv)).trans hv
theorem Kept.drewN (w : World) (n : Nat) : Kept w (w.drewN n) := fun _ _ h => h
theorem Kept.drew (w : World) : Kept w w.drew := fun _ _ h => h
theorem rangeAt_kept {w w' : World} (h : Kept w w') {b o : Nat} {cs : List Value} (hr : w.rangeAt b o cs) : w'.rangeAt b o cs := fun j v hv => h _ _ (hr j v hv)

section
variable {α : Type} {w w' : World} {k z : Nat} {R R' : List Value → α → Prop} {A : Option Addr} {c : Nat} {l : List α}
theorem Slc.mono (h : Slc w k z R A c l) (hk : Kept w w') (hR : ∀ cs x, R cs x → R' cs x) : Slc w' k z R' A c l := by
  obtain ⟨h2, h3, h4, h5⟩ := h
  refine ⟨h2, h3, h4, fun h0 => ?_⟩
  obtain ⟨b, o, hA, hx⟩ := h5 h0
  refine ⟨b, o, hA, fun i x hi => ?_⟩
  obtain ⟨cs, hr, hc, hw⟩ := hx i x hi
  exact ⟨cs, hR _ _ hr, hc, rangeAt_kept hk hw⟩
theorem Slc.nil_ (hc : c ≤ 9223372036854775807) : Slc w k z R A c [] := ⟨Nat.zero_le _, hc, by simp, fun h => absurd h (by simp)⟩
theorem Slc.bd (h : Slc w k z R A c l) : l.length ≤ c ∧ c ≤ 9223372036854775807 ∧ l.length * z ≤ 140737488351232 := ⟨h.1, h.2.1, h.2.2.1⟩
/-- the element at a place -/
theorem Slc.at_ {i : Nat} (h : Slc w k z R A c l) (hi : i < l.length) : ∃ x b o cs, l[i]? = some x ∧ A = some ⟨b, o, none⟩ ∧ R cs x ∧ cs.length = k ∧ w.rangeAt b (o + i * k) cs := by
  obtain ⟨b, o, hA, hx⟩ := h.2.2.2 (by omega)
  obtain ⟨cs, h1, h2, h3⟩ := hx i _ (List.getElem?_eq_getElem hi)
  exact ⟨_, b, o, cs, List.getElem?_eq_getElem hi, hA, h1, h2, h3⟩
end
theorem range2 {w : World} {b o : Nat} {v0 v1 : Value} (h : w.rangeAt b o [v0, v1]) : w.cell? ⟨b, o, none⟩ = some v0 ∧ w.cell? ⟨b, o + 1, none⟩ = some v1 := ⟨h 0 _ rfl, h 1 _ rfl⟩
theorem range3 {w : World} {b o : Nat} {v0 v1 v2 : Value} (h : w.rangeAt b o [v0, v1, v2]) : w.cell? ⟨b, o, none⟩ = some v0 ∧ w.cell? ⟨b, o + 1, none⟩ = some v1 ∧ w.cell? ⟨b, o + 2, none⟩ = some v2 := ⟨h 0 _ rfl, h 1 _ rfl, h 2 _ rfl⟩
theorem range5 {w : World} {b o : Nat} {v0 v1 v2 v3 v4 : Value} (h : w.rangeAt b o [v0, v1, v2, v3, v4]) :
    w.cell? ⟨b, o, none⟩ = some v0 ∧ w.cell? ⟨b, o + 1, none⟩ = some v1 ∧ w.cell? ⟨b, o + 2, none⟩ = some v2 ∧ w.cell? ⟨b, o + 3, none⟩ = some v3 ∧ w.cell? ⟨b, o + 4, none⟩ = some v4 := ⟨h 0 _ rfl, h 1 _ rfl, h 2 _ rfl, h 3 _ rfl, h 4 _ rfl⟩
theorem range9 {w : World} {b o : Nat} {v0 v1 v2 v3 v4 v5 v6 v7 v8 : Value} (h : w.rangeAt b o [v0, v1, v2, v3, v4, v5, v6, v7, v8]) :
    w.cell? ⟨b, o, none⟩ = some v0 ∧ w.cell? ⟨b, o + 1, none⟩ = some v1 ∧ w.cell? ⟨b, o + 2, none⟩ = some v2 ∧ w.cell? ⟨b, o + 3, none⟩ = some v3 ∧ w.cell? ⟨b, o + 4, none⟩ = some v4 ∧ w.cell? ⟨b, o + 5, none⟩ = some v5 ∧
      w.cell? ⟨b, o + 6, none⟩ = some v6 ∧ w.cell? ⟨b, o + 7, none⟩ = some v7 ∧ w.cell? ⟨b, o + 8, none⟩ = some v8 :=
  ⟨h 0 _ rfl, h 1 _ rfl, h 2 _ rfl, h 3 _ rfl, h 4 _ rfl, h 5 _ rfl, h 6 _ rfl, h 7 _ rfl, h 8 _ rfl⟩
theorem range11 {w : World} {b o : Nat} {v0 v1 v2 v3 v4 v5 v6 v7 v8 v9 v10 : Value} (h : w.rangeAt b o [v0, v1, v2, v3, v4, v5, v6, v7, v8, v9, v10]) :
    w.cell? ⟨b, o, none⟩ = some v0 ∧ w.cell? ⟨b, o + 1, none⟩ = some v1 ∧ w.cell? ⟨b, o + 2, none⟩ = some v2 ∧ w.cell? ⟨b, o + 3, none⟩ = some v3 ∧ w.cell? ⟨b, o + 4, none⟩ = some v4 ∧ w.cell? ⟨b, o + 5, none⟩ = some v5 ∧
      w.cell? ⟨b, o + 6, none⟩ = some v6 ∧ w.cell? ⟨b, o + 7, none⟩ = some v7 ∧ w.cell? ⟨b, o + 8, none⟩ = some v8 ∧ w.cell? ⟨b, o + 9, none⟩ = some v9 ∧ w.cell? ⟨b, o + 10, none⟩ = some v10 :=
  ⟨h 0 _ rfl, h 1 _ rfl, h 2 _ rfl, h 3 _ rfl, h 4 _ rfl, h 5 _ rfl, h 6 _ rfl, h 7 _ rfl, h 8 _ rfl, h 9 _ rfl, h 10 _ rfl⟩

def encA (a : Atm) : List Value := [.string (bs a.name), .int .i64 a.rel, .string (bs a.ver)]
def encP (a : Prv) : List Value := [.string (bs a.name), .string (bs a.ver)]
def encV (a : Vio) : List Value := [.int .i64 a.kind, .string (bs a.name), .bool a.pre, .int .i64 a.i, .string (bs a.other)]
/-- the length of a string that is there -/
def short (l : List UInt8) : Prop := l.length ≤ 140737488351232
def Atm.ok (a : Atm) : Prop := short a.name ∧ short a.ver
def Prv.ok (a : Prv) : Prop := short a.name ∧ short a.ver
def RAtm (cs : List Value) (a : Atm) : Prop := cs = encA a ∧ a.ok
def RPrv (cs : List Value) (a : Prv) : Prop := cs = encP a ∧ a.ok
def RVio (cs : List Value) (a : Vio) : Prop := cs = encV a
def Atms (w : World) (A : Option Addr) (c : Nat) (l : List Atm) : Prop := Slc w 3 40 RAtm A c l
def RCls (w : World) (cs : List Value) (l : List Atm) : Prop := ∃ A c, cs = [.slice A l.length c] ∧ Atms w A c l
def Clss (w : World) (A : Option Addr) (c : Nat) (l : List (List Atm)) : Prop := Slc w 1 24 (RCls w) A c l
def Prvs (w : World) (A : Option Addr) (c : Nat) (l : List Prv) : Prop := Slc w 2 32 RPrv A c l
def Vios (w : World) (A : Option Addr) (c : Nat) (l : List Vio) : Prop := Slc w 5 56 RVio A c l
/-- where a package's six slices lie -/
structure Raw where
  a1 : Option Addr
  a2 : Option Addr
  a3 : Option Addr
  a4 : Option Addr
  a5 : Option Addr
  a6 : Option Addr
  c1 : Nat
  c2 : Nat
  c3 : Nat
  c4 : Nat
  c5 : Nat
  c6 : Nat
def RP (w : World) (r : Raw) (p : Pkg) : Prop :=
  short p.name ∧ short p.ver ∧ Clss w r.a1 r.c1 p.pre ∧ Clss w r.a2 r.c2 p.dep ∧ Clss w r.a3 r.c3 p.rcm ∧ Atms w r.a4 r.c4 p.con ∧ Atms w r.a5 r.c5 p.brk ∧ Prvs w r.a6 r.c6 p.prv
def encK (r : Raw) (p : Pkg) : List Value :=
  [.string (bs p.name), .string (bs p.ver), .slice r.a1 p.pre.length r.c1, .slice r.a2 p.dep.length r.c2, .slice r.a3 p.rcm.length r.c3, .slice r.a4 p.con.length r.c4, .slice r.a5 p.brk.length r.c5, .slice r.a6 p.prv.length r.c6, .bool p.ess]
def encE (r : Raw) (x : Ent) : List Value :=
  [.string (bs x.pkg.name), .string (bs x.pkg.ver), .slice r.a1 x.pkg.pre.length r.c1, .slice r.a2 x.pkg.dep.length r.c2, .slice r.a3 x.pkg.rcm.length r.c3, .slice r.a4 x.pkg.con.length r.c4, .slice r.a5 x.pkg.brk.length r.c5, .slice r.a6 x.pkg.prv.length r.c6, .bool x.pkg.ess, .bool x.conf, .bool x.hold]
def RPkg (w : World) (cs : List Value) (p : Pkg) : Prop := ∃ r, cs = encK r p ∧ RP w r p
def REnt (w : World) (cs : List Value) (x : Ent) : Prop := ∃ r, cs = encE r x ∧ RP w r x.pkg
def Pkgs (w : World) (A : Option Addr) (c : Nat) (l : List Pkg) : Prop := Slc w 9 184 (RPkg w) A c l
def Ents (w : World) (A : Option Addr) (c : Nat) (l : List Ent) : Prop := Slc w 11 192 (REnt w) A c l
section
variable {w w' : World} {A : Option Addr} {c : Nat}
theorem Atms.kept {l : List Atm} (h : Atms w A c l) (hk : Kept w w') : Atms w' A c l := Slc.mono h hk fun _ _ h => h
theorem Prvs.kept {l : List Prv} (h : Prvs w A c l) (hk : Kept w w') : Prvs w' A c l := Slc.mono h hk fun _ _ h => h
theorem Vios.kept {l : List Vio} (h : Vios w A c l) (hk : Kept w w') : Vios w' A c l := Slc.mono h hk fun _ _ h => h
theorem RCls.kept {cs : List Value} {l : List Atm} (h : RCls w cs l) (hk : Kept w w') : RCls w' cs l := let ⟨A, c, h1, h2⟩ := h; ⟨A, c, h1, h2.kept hk⟩
theorem Clss.kept {l : List (List Atm)} (h : Clss w A c l) (hk : Kept w w') : Clss w' A c l := Slc.mono h hk fun _ _ h => h.kept hk
theorem RP.kept {r : Raw} {p : Pkg} (h : RP w r p) (hk : Kept w w') : RP w' r p := by
  obtain ⟨h1, h2, h3, h4, h5, h6, h7, h8⟩ := h
  exact ⟨h1, h2, h3.kept hk, h4.kept hk, h5.kept hk, h6.kept hk, h7.kept hk, h8.kept hk⟩
theorem RPkg.kept {cs : List Value} {p : Pkg} (h : RPkg w cs p) (hk : Kept w w') : RPkg w' cs p := let ⟨r, h1, h2⟩ := h; ⟨r, h1, h2.kept hk⟩
theorem REnt.kept {cs : List Value} {p : Ent} (h : REnt w cs p) (hk : Kept w w') : REnt w' cs p := let ⟨r, h1, h2⟩ := h; ⟨r, h1, h2.kept hk⟩
theorem Pkgs.kept {l : List Pkg} (h : Pkgs w A c l) (hk : Kept w w') : Pkgs w' A c l := Slc.mono h hk fun _ _ h => h.kept hk
theorem Ents.kept {l : List Ent} (h : Ents w A c l) (hk : Kept w w') : Ents w' A c l := Slc.mono h hk fun _ _ h => h.kept hk
theorem RP.pre {r : Raw} {p : Pkg} (h : RP w r p) : Clss w r.a1 r.c1 p.pre := h.2.2.1
theorem RP.dep {r : Raw} {p : Pkg} (h : RP w r p) : Clss w r.a2 r.c2 p.dep := h.2.2.2.1
theorem RP.rcm {r : Raw} {p : Pkg} (h : RP w r p) : Clss w r.a3 r.c3 p.rcm := h.2.2.2.2.1
theorem RP.con {r : Raw} {p : Pkg} (h : RP w r p) : Atms w r.a4 r.c4 p.con := h.2.2.2.2.2.1
theorem RP.brk {r : Raw} {p : Pkg} (h : RP w r p) : Atms w r.a5 r.c5 p.brk := h.2.2.2.2.2.2.1
theorem RP.prv {r : Raw} {p : Pkg} (h : RP w r p) : Prvs w r.a6 r.c6 p.prv := h.2.2.2.2.2.2.2
/-- an element, cell by cell, in a later world -/
theorem Pkgs.at_ {l : List Pkg} {i : Nat} (h : Pkgs w A c l) (hi : i < l.length) (hk : Kept w w') : ∃ x b o r, l[i]? = some x ∧ A = some ⟨b, o, none⟩ ∧ RP w r x ∧
    w'.cell? ⟨b, o + i * 9, none⟩ = some (.string (bs x.name)) ∧ w'.cell? ⟨b, o + i * 9 + 1, none⟩ = some (.string (bs x.ver)) ∧ w'.cell? ⟨b, o + i * 9 + 2, none⟩ = some (.slice r.a1 x.pre.length r.c1) ∧
    w'.cell? ⟨b, o + i * 9 + 3, none⟩ = some (.slice r.a2 x.dep.length r.c2) ∧ w'.cell? ⟨b, o + i * 9 + 4, none⟩ = some (.slice r.a3 x.rcm.length r.c3) ∧ w'.cell? ⟨b, o + i * 9 + 5, none⟩ = some (.slice r.a4 x.con.length r.c4) ∧
    w'.cell? ⟨b, o + i * 9 + 6, none⟩ = some (.slice r.a5 x.brk.length r.c5) ∧ w'.cell? ⟨b, o + i * 9 + 7, none⟩ = some (.slice r.a6 x.prv.length r.c6) ∧ w'.cell? ⟨b, o + i * 9 + 8, none⟩ = some (.bool x.ess) := by
  obtain ⟨x, b, o, cs, h1, h2, ⟨r, rfl, h3⟩, _, h4⟩ := Slc.at_ h hi
  exact ⟨x, b, o, r, h1, h2, h3, range9 (rangeAt_kept hk h4)⟩
theorem Ents.at_ {l : List Ent} {i : Nat} (h : Ents w A c l) (hi : i < l.length) (hk : Kept w w') : ∃ x b o r, l[i]? = some x ∧ A = some ⟨b, o, none⟩ ∧ RP w r x.pkg ∧
    w'.cell? ⟨b, o + i * 11, none⟩ = some (.string (bs x.pkg.name)) ∧ w'.cell? ⟨b, o + i * 11 + 1, none⟩ = some (.string (bs x.pkg.ver)) ∧ w'.cell? ⟨b, o + i * 11 + 2, none⟩ = some (.slice r.a1 x.pkg.pre.length r.c1) ∧
    w'.cell? ⟨b, o + i * 11 + 3, none⟩ = some (.slice r.a2 x.pkg.dep.length r.c2) ∧ w'.cell? ⟨b, o + i * 11 + 4, none⟩ = some (.slice r.a3 x.pkg.rcm.length r.c3) ∧ w'.cell? ⟨b, o + i * 11 + 5, none⟩ = some (.slice r.a4 x.pkg.con.length r.c4) ∧
    w'.cell? ⟨b, o + i * 11 + 6, none⟩ = some (.slice r.a5 x.pkg.brk.length r.c5) ∧ w'.cell? ⟨b, o + i * 11 + 7, none⟩ = some (.slice r.a6 x.pkg.prv.length r.c6) ∧ w'.cell? ⟨b, o + i * 11 + 8, none⟩ = some (.bool x.pkg.ess) ∧
    w'.cell? ⟨b, o + i * 11 + 9, none⟩ = some (.bool x.conf) ∧ w'.cell? ⟨b, o + i * 11 + 10, none⟩ = some (.bool x.hold) := by
  obtain ⟨x, b, o, cs, h1, h2, ⟨r, rfl, h3⟩, _, h4⟩ := Slc.at_ h hi
  exact ⟨x, b, o, r, h1, h2, h3, range11 (rangeAt_kept hk h4)⟩
theorem Atms.at_ {l : List Atm} {i : Nat} (h : Atms w A c l) (hi : i < l.length) (hk : Kept w w') : ∃ x b o, l[i]? = some x ∧ A = some ⟨b, o, none⟩ ∧ x.ok ∧
    w'.cell? ⟨b, o + i * 3, none⟩ = some (.string (bs x.name)) ∧ w'.cell? ⟨b, o + i * 3 + 1, none⟩ = some (.int .i64 x.rel) ∧ w'.cell? ⟨b, o + i * 3 + 2, none⟩ = some (.string (bs x.ver)) := by
  obtain ⟨x, b, o, cs, h1, h2, ⟨rfl, h3⟩, _, h4⟩ := Slc.at_ h hi
  exact ⟨x, b, o, h1, h2, h3, range3 (rangeAt_kept hk h4)⟩
theorem Prvs.at_ {l : List Prv} {i : Nat} (h : Prvs w A c l) (hi : i < l.length) (hk : Kept w w') : ∃ x b o, l[i]? = some x ∧ A = some ⟨b, o, none⟩ ∧ x.ok ∧
    w'.cell? ⟨b, o + i * 2, none⟩ = some (.string (bs x.name)) ∧ w'.cell? ⟨b, o + i * 2 + 1, none⟩ = some (.string (bs x.ver)) := by
  obtain ⟨x, b, o, cs, h1, h2, ⟨rfl, h3⟩, _, h4⟩ := Slc.at_ h hi
  exact ⟨x, b, o, h1, h2, h3, range2 (rangeAt_kept hk h4)⟩
theorem Vios.at_ {l : List Vio} {i : Nat} (h : Vios w A c l) (hi : i < l.length) (hk : Kept w w') : ∃ x b o, l[i]? = some x ∧ A = some ⟨b, o, none⟩ ∧
    w'.cell? ⟨b, o + i * 5, none⟩ = some (.int .i64 x.kind) ∧ w'.cell? ⟨b, o + i * 5 + 1, none⟩ = some (.string (bs x.name)) ∧ w'.cell? ⟨b, o + i * 5 + 2, none⟩ = some (.bool x.pre) ∧ w'.cell? ⟨b, o + i * 5 + 3, none⟩ = some (.int .i64 x.i) ∧ w'.cell? ⟨b, o + i * 5 + 4, none⟩ = some (.string (bs x.other)) := by
  obtain ⟨x, b, o, cs, h1, h2, rfl, _, h4⟩ := Slc.at_ h hi
  exact ⟨x, b, o, h1, h2, range5 (rangeAt_kept hk h4)⟩
theorem Clss.at_ {l : List (List Atm)} {i : Nat} (h : Clss w A c l) (hi : i < l.length) (hk : Kept w w') : ∃ x b o A' c', l[i]? = some x ∧ A = some ⟨b, o, none⟩ ∧ Atms w A' c' x ∧ w'.cell? ⟨b, o + i, none⟩ = some (.slice A' x.length c') := by
  obtain ⟨x, b, o, cs, h1, h2, ⟨A', c', rfl, h3⟩, _, h4⟩ := Slc.at_ h hi
  refine ⟨x, b, o, A', c', h1, h2, h3, ?_⟩
  have := rangeAt_kept hk h4 0 _ rfl
  simpa using this
end
theorem blk_new1 (w : World) (t : TypeId) (cs : Array Value) : Blk (w.alloc (.cells cs t)) w.heap.size t cs := Blk.new w t cs
theorem blk_new2 (w : World) (o : Obj) (t : TypeId) (cs : Array Value) : Blk ((w.alloc o).alloc (.cells cs t)) (w.heap.size + 1) t cs := by
  have := Blk.new (w.alloc o) t cs
  simpa using this
theorem blk_new3 (w : World) (o o' : Obj) (t : TypeId) (cs : Array Value) : Blk (((w.alloc o).alloc o').alloc (.cells cs t)) (w.heap.size + 2) t cs := by
  have := Blk.new ((w.alloc o).alloc o') t cs
  simpa using this
theorem blk3 {w : World} {g t : Nat} {v0 v1 v2 : Value} (h : Blk w g t #[v0, v1, v2]) : w.cell? ⟨g, 0, none⟩ = some v0 ∧ w.cell? ⟨g, 1, none⟩ = some v1 ∧ w.cell? ⟨g, 2, none⟩ = some v2 := ⟨h.cell 0, h.cell 1, h.cell 2⟩
theorem blk9 {w : World} {g t : Nat} {v0 v1 v2 v3 v4 v5 v6 v7 v8 : Value} (h : Blk w g t #[v0, v1, v2, v3, v4, v5, v6, v7, v8]) : w.cell? ⟨g, 0, none⟩ = some v0 ∧ w.cell? ⟨g, 1, none⟩ = some v1 ∧ w.cell? ⟨g, 2, none⟩ = some v2 ∧
    w.cell? ⟨g, 3, none⟩ = some v3 ∧ w.cell? ⟨g, 4, none⟩ = some v4 ∧ w.cell? ⟨g, 5, none⟩ = some v5 ∧ w.cell? ⟨g, 6, none⟩ = some v6 ∧ w.cell? ⟨g, 7, none⟩ = some v7 ∧ w.cell? ⟨g, 8, none⟩ = some v8 := ⟨h.cell 0, h.cell 1, h.cell 2, h.cell 3, h.cell 4, h.cell 5, h.cell 6, h.cell 7, h.cell 8⟩
theorem blk11 {w : World} {g t : Nat} {v0 v1 v2 v3 v4 v5 v6 v7 v8 v9 v10 : Value} (h : Blk w g t #[v0, v1, v2, v3, v4, v5, v6, v7, v8, v9, v10]) : w.cell? ⟨g, 0, none⟩ = some v0 ∧ w.cell? ⟨g, 1, none⟩ = some v1 ∧ w.cell? ⟨g, 2, none⟩ = some v2 ∧
    w.cell? ⟨g, 3, none⟩ = some v3 ∧ w.cell? ⟨g, 4, none⟩ = some v4 ∧ w.cell? ⟨g, 5, none⟩ = some v5 ∧ w.cell? ⟨g, 6, none⟩ = some v6 ∧ w.cell? ⟨g, 7, none⟩ = some v7 ∧ w.cell? ⟨g, 8, none⟩ = some v8 ∧ w.cell? ⟨g, 9, none⟩ = some v9 ∧ w.cell? ⟨g, 10, none⟩ = some v10 :=
  ⟨h.cell 0, h.cell 1, h.cell 2, h.cell 3, h.cell 4, h.cell 5, h.cell 6, h.cell 7, h.cell 8, h.cell 9, h.cell 10⟩
theorem take_step {α : Type} {l : List α} {k : Nat} {q : α} (h : l[k]? = some q) : l.take (k + 1) = l.take k ++ [q] := by
  obtain ⟨hk, rfl⟩ := List.getElem?_eq_some_iff.1 h
  rw [List.take_succ_eq_append_getElem hk]
theorem take_end {α : Type} {l : List α} {k : Nat} (hk : k ≤ l.length) (h : ¬ k < l.length) : l.take k = l := List.take_of_length_le (by omega)
end Go.Proofs.YtaicidbopgnmfaaGreatDoor
namespace Go.Proofs.YtaicidbopgnmfaaGreatDoor
set_option linter.unusedSimpArgs false
set_option linter.unusedVariables false
open Go.RowKit

/-- slice value v owns its row (in blocks from B on, element type e); it reads as l -/
def Own {α : Type} (w : World) (B : Nat) (e : TypeId) (k : Nat) (R : List Value → α → Prop) (v : Value) (l : List α) : Prop :=
  ∃ css : List (List Value), css.length = l.length ∧ (∀ (i : Nat) (cs : List Value) (x : α), css[i]? = some cs → l[i]? = some x → R cs x ∧ cs.length = k) ∧ w.ownsRow B e k v l.length css.flatten
theorem flat_at {α : Type} {k : Nat} : ∀ {css : List (List α)}, (∀ cs ∈ css, cs.length = k) → ∀ {i j : Nat} {cs : List α} {v : α}, css[i]? = some cs → cs[j]? = some v → css.flatten[i * k + j]? = some v
  | c :: css, h, 0, j, cs, v, hi, hj => by
    simp only [List.getElem?_cons_zero, Option.some.injEq] at hi
    subst hi
    rw [List.flatten_cons, Nat.zero_mul, Nat.zero_add, List.getElem?_append_left (List.getElem?_eq_some_iff.1 hj).1]
    exact hj
  | c :: css, h, i + 1, j, cs, v, hi, hj => by
    simp only [List.getElem?_cons_succ] at hi
    have hc : c.length = k := h c (List.mem_cons_self ..)
    rw [List.flatten_cons, List.getElem?_append_right (by rw [hc, Nat.succ_mul]; omega), hc, show (i + 1) * k + j - k = i * k + j from by rw [Nat.succ_mul]; omega]
    exact flat_at (fun cs hcs => h cs (List.mem_cons_of_mem _ hcs)) hi hj
theorem own_lens {α : Type} {css : List (List Value)} {l : List α} {k : Nat} {R : List Value → α → Prop} (hl : css.length = l.length) (h : ∀ (i : Nat) (cs : List Value) (x : α), css[i]? = some cs → l[i]? = some x → R cs x ∧ cs.length = k) : ∀ cs ∈ css, cs.length = k := fun cs hcs => by
  obtain ⟨i, hi, rfl⟩ := List.mem_iff_getElem.1 hcs
  exact (h i _ _ (List.getElem?_eq_getElem hi) (List.getElem?_eq_getElem (by omega : i < l.length))).2
section
variable {α : Type} {w w' : World} {B : Nat} {e : TypeId} {k z : Nat} {R R' : List Value → α → Prop} {v : Value} {l : List α}
theorem Own.nil_ (w : World) (B : Nat) (e : TypeId) (k : Nat) (R : List Value → α → Prop) : Own w B e k R (.slice none 0 0) [] :=
  ⟨[], rfl, fun i cs x h => by simp at h, ⟨by simp, .inl ⟨rfl, rfl⟩⟩⟩
theorem Own.slc (h : Own w B e k R v l) (hz : l.length * z ≤ 140737488351232) : ∃ A c, v = .slice A l.length c ∧ Slc w k z R A c l := by
  obtain ⟨css, hl, hR, hlen, ho⟩ := h
  rcases ho with ⟨rfl, h0⟩ | ⟨g, cap, cur, rfl, hb, hg, hnc, hcm, hcs, hxs⟩
  · have : l = [] := List.eq_nil_of_length_eq_zero h0
    subst this
    exact ⟨none, 0, rfl, Slc.nil_ (by omega)⟩
  · refine ⟨_, cap, rfl, hnc, by unfold maxLen at hcm; omega, hz, fun _ => ⟨g, 0, rfl, fun i x hi => ?_⟩⟩
    have hil : i < l.length := (List.getElem?_eq_some_iff.1 hi).1
    have hci : css[i]? = some (css[i]'(by omega)) := List.getElem?_eq_getElem (by omega)
    obtain ⟨h1, h2⟩ := hR i _ x hci hi
    refine ⟨_, h1, h2, fun j u hj => ?_⟩
    have h3 := flat_at (own_lens hl hR) hci hj
    rw [Nat.zero_add, cell_of_row w g (i * k + j) cur e (0, 0) hg]
    rw [← hxs] at h3
    have h4 : i * k + j < l.length * k := by
      have := (List.getElem?_eq_some_iff.1 hj).1
      have h5 : (i + 1) * k ≤ l.length * k := Nat.mul_le_mul_right k hil
      rw [Nat.succ_mul] at h5
      omega
    rw [List.getElem?_take_of_lt h4] at h3
    simpa using h3
theorem Own.mono (h : Own w B e k R v l) (hR : ∀ cs x, R cs x → R' cs x) : Own w B e k R' v l := by
  obtain ⟨css, hl, hR', ho⟩ := h
  exact ⟨css, hl, fun i cs x h1 h2 => let ⟨a, b⟩ := hR' i cs x h1 h2; ⟨hR _ _ a, b⟩, ho⟩
theorem Own.base (h : Own w B e k R v l) {g : Nat} (hg : v.ownBlock = some g) : B ≤ g ∧ ∃ cur, w.heap[g]? = some (.cells cur e (0, 0)) := by
  obtain ⟨css, hl, hR', hlen, ho⟩ := h
  rcases ho with ⟨rfl, h0⟩ | ⟨g', cap, cur, rfl, hb, hg', _⟩
  · simp [Value.ownBlock] at hg
  · obtain rfl : g' = g := by simpa [Value.ownBlock] using hg
    exact ⟨hb, cur, hg'⟩
/-- a world in which the own block is as it was -/
theorem Own.same (h : Own w B e k R v l) (hb : ∀ g, v.ownBlock = some g → w'.heap[g]? = w.heap[g]?) : Own w' B e k R v l := by
  obtain ⟨css, hl, hR', hlen, ho⟩ := h
  refine ⟨css, hl, hR', hlen, ?_⟩
  rcases ho with ⟨rfl, h0⟩ | ⟨g, cap, cur, rfl, hb', hg, hrest⟩
  · exact .inl ⟨rfl, h0⟩
  · exact .inr ⟨g, cap, cur, rfl, hb', (hb g rfl).trans hg, hrest⟩
theorem heap_lt {w : World} {g : Nat} {o : Obj} (h : w.heap[g]? = some o) : g < w.heap.size := by
  rcases Nat.lt_or_ge g w.heap.size with hlt | hge
  · exact hlt
  · rw [Array.getElem?_eq_none hge] at h; cases h
theorem Own.alloc (h : Own w B e k R v l) (o : Obj) : Own (w.alloc o) B e k R v l := h.same fun g hg => let ⟨_, _, hc⟩ := h.base hg; Below.heap_alloc w o g (heap_lt hc)
theorem Own.drewN (h : Own w B e k R v l) (n : Nat) : Own (w.drewN n) B e k R v l := h.same fun _ _ => rfl
theorem Own.drew (h : Own w B e k R v l) : Own w.drew B e k R v l := h.same fun _ _ => rfl
theorem Own.next (h : Own w B e k R v l) (hb : Below w.heap.size w w') : Own w' B e k R v l := h.same fun g hg => let ⟨_, _, hc⟩ := h.base hg; hb.block g (heap_lt hc)
theorem Own.grown (h : Own w B e k R v l) {row : Option Nat} (hg : w.grownBy w' row) (hr : ∀ g cur, row = some g → w.heap[g]? ≠ some (.cells cur e (0, 0))) : Own w' B e k R v l :=
  h.same fun g hv => let ⟨_, cur, hc⟩ := h.base hv; hg.block g (heap_lt hc) (fun he => hr g cur he.symm hc)
theorem Own.setCell (h : Own w B e k R v l) {p : Addr} (hp : ∀ cur, w.heap[p.block]? ≠ some (.cells cur e (0, 0))) (u : Value) : Own (w.setCell p u) B e k R v l :=
  h.same fun g hv => let ⟨_, cur, hc⟩ := h.base hv; Below.heap_setCell w p u g (fun he => hp cur (he ▸ hc))
/-- a row of this element type: another one's block holds another type -/
theorem Own.far {β : Type} {e' : TypeId} {k' : Nat} {R2 : List Value → β → Prop} {v2 : Value} {l2 : List β} (h : Own w B e k R v l) (h2 : Own w B e' k' R2 v2 l2) (hne : e ≠ e') (hg : w.grownBy w' v2.ownBlock) : Own w' B e k R v l :=
  h.grown hg fun g cur hv hc => by
    obtain ⟨_, cur', hc'⟩ := h2.base hv
    rw [hc] at hc'
    injection hc' with hc'
    injection hc' with _ ht
    exact hne ht
theorem Own.blk (h : Own w B e k R v l) {g t : Nat} {cs : Array Value} (hB : Blk w g t cs) (hne : e ≠ t) (hg : w.grownBy w' v.ownBlock) : Blk w' g t cs := by
  refine hB.grown hg fun he => ?_
  obtain ⟨_, cur, hc⟩ := h.base he.symm
  unfold Blk at hB
  rw [hB] at hc
  injection hc with hc
  injection hc with _ ht
  exact hne ht.symm
theorem Own.below (h : Own w B e k R v l) {w0 : World} (hb : Below B w0 w) (hB : B ≤ w.heap.size) (hg : w.grownBy w' v.ownBlock) : Below B w0 w' :=
  hb.trans ⟨hg.os, hg.tape, hg.output, hg.size, fun i hi => hg.block i (by omega) (fun e => by have := (h.base e.symm).1; omega)⟩
end
theorem grown_undrew {w w' : World} {row : Option Nat} (h : w.drew.grownBy w' row) : w.grownBy w' row := ⟨h.os, h.tape, h.output, h.size, h.block⟩
/-- every block of these element types stays as it was -/
def KeepB (T : Nat → Prop) (w w' : World) : Prop := ∀ (g t : Nat) (cs : Array Value), w.heap[g]? = some (.cells cs t (0, 0)) → T t → w'.heap[g]? = w.heap[g]?
section
variable {T : Nat → Prop} {w w1 w2 w' : World}
theorem KeepB.refl (T : Nat → Prop) (w : World) : KeepB T w w := fun _ _ _ _ _ => rfl
theorem KeepB.trans (h : KeepB T w w1) (k : KeepB T w1 w2) : KeepB T w w2 := fun g t cs hg ht => (k g t cs ((h g t cs hg ht).trans hg) ht).trans (h g t cs hg ht)
theorem KeepB.of_below (hb : Below w.heap.size w w') : KeepB T w w' := fun g _ _ hg _ => hb.block g (heap_lt hg)
theorem KeepB.alloc (o : Obj) : KeepB T w (w.alloc o) := fun g _ _ hg _ => Below.heap_alloc w o g (heap_lt hg)
theorem KeepB.drewN (n : Nat) : KeepB T w (w.drewN n) := fun _ _ _ _ _ => rfl
theorem KeepB.setCell {p : Addr} {cs : Array Value} {t : Nat} (hp : w.heap[p.block]? = some (.cells cs t (0, 0))) (hT : ¬ T t) (u : Value) : KeepB T w (w.setCell p u) := fun g t' cs' hg ht =>
  Below.heap_setCell w p u g (fun he => by
    subst he
    rw [hp] at hg
    injection hg with hg
    injection hg with _ h2
    exact hT (h2 ▸ ht))
theorem KeepB.blk (h : KeepB T w w') {g t : Nat} {cs : Array Value} (hB : Blk w g t cs) (hT : T t) : Blk w' g t cs := (h g t cs hB hT).trans hB
theorem KeepB.own {α : Type} (h : KeepB T w w') {B : Nat} {e : TypeId} {k : Nat} {R : List Value → α → Prop} {v : Value} {l : List α} (ho : Own w B e k R v l) (hT : T e) : Own w' B e k R v l :=
  ho.same fun g hg => let ⟨_, cur, hc⟩ := ho.base hg; h g e cur hc hT
theorem Own.keep {α : Type} {B : Nat} {e : TypeId} {k : Nat} {R : List Value → α → Prop} {v : Value} {l : List α} (ho : Own w B e k R v l) (hg : w.grownBy w' v.ownBlock) (hT : ¬ T e) : KeepB T w w' := fun g t cs hc ht =>
  hg.block g (heap_lt hc) (fun he => by
    obtain ⟨_, cur, hc'⟩ := ho.base he.symm
    rw [hc] at hc'
    injection hc' with hc'
    injection hc' with _ h2
    exact hT (h2 ▸ ht))
end
theorem encK_one (r : Raw) (p : Pkg) : ∀ u ∈ encK r p, u.oneCell' = true := by simp [encK, Value.oneCell']
theorem encE_one (r : Raw) (p : Ent) : ∀ u ∈ encE r p, u.oneCell' = true := by simp [encE, Value.oneCell']
theorem encA_one (p : Atm) : ∀ u ∈ encA p, u.oneCell' = true := by simp [encA, Value.oneCell']
theorem encP_one (p : Prv) : ∀ u ∈ encP p, u.oneCell' = true := by simp [encP, Value.oneCell']
theorem encV_one (p : Vio) : ∀ u ∈ encV p, u.oneCell' = true := by simp [encV, Value.oneCell']
section
variable {P : Program} {w : World}
/-- append of one element that lies in a block of its own -/
theorem Own.appended {α : Type} {w' : World} {B : Nat} {e : TypeId} {k : Nat} {R : List Value → α → Prop} {v' : Value} {l : List α} {cs : List Value} {x : α} {css : List (List Value)} (hl : css.length = l.length)
    (hR : ∀ (i : Nat) (cs : List Value) (x : α), css[i]? = some cs → l[i]? = some x → R cs x ∧ cs.length = k) (hx : R cs x) (hc : cs.length = k) (ho : w'.ownsRow B e k v' (l.length + 1) (css.flatten ++ cs)) : Own w' B e k R v' (l ++ [x]) := by
  refine ⟨css ++ [cs], by simp [hl], fun i cs' x' h1 h2 => ?_, by simpa using ho⟩
  rcases Nat.lt_or_ge i l.length with hi | hi
  · rw [List.getElem?_append_left (by omega)] at h1
    rw [List.getElem?_append_left hi] at h2
    exact hR i cs' x' h1 h2
  · have hil := (List.getElem?_eq_some_iff.1 h2).1
    simp at hil
    obtain rfl : i = l.length := by omega
    rw [List.getElem?_append_right (by omega), hl] at h1
    rw [List.getElem?_append_right (by omega)] at h2
    simp at h1 h2
    subst h1 h2
    exact ⟨hx, hc⟩
theorem wpList_append_el {α : Type} {ops : Array Oper} {rest : List Oper} {o : Oper} {a : Act} {Q : Exit → Act → World → Prop} (hgd : o.guard = none) (s x : Operand) (t : TypeId)
    (ho : o.op = .call { callee := .builtin .append, args := #[s, x], argTypes := #[t, t] })
    (B : Nat) (e : TypeId) (z : Value) (k bytes : Nat) (ht : P.underlying t = some (.slice e)) (hinfo : (P.info? e).map (fun i => (i.zero, i.size, i.bytes)) = some (some z, k, bytes)) (hzs : z.cells.size = k) (hsz : 0 < k)
    (R : List Value → α → Prop) (v : Value) (l : List α) (hs : a.eval s = v) (hown : Own w B e k R v l)
    (y : α) (cs : List Value) (g0 c0 : Nat) (hx : a.eval x = .slice (some ⟨g0, 0, none⟩) 1 c0) (hg0 : w.heap[g0]? = some (.cells cs.toArray e (0, 0))) (hy : R cs y) (hlen : cs.length = k) (h1 : ∀ u ∈ cs, u.oneCell' = true)
    (hbytes : (l.length + 1) * bytes ≤ 140737488355328) (hbz : 1 ≤ bytes) (hbase : B ≤ w.heap.size)
    (h : ∀ g cap w', Own w' B e k R (.slice (some ⟨g, 0, none⟩) (l.length + 1) cap) (l ++ [y]) → w.grownBy w' v.ownBlock → wpList P ops Q rest (a.put o.dst (.slice (some ⟨g, 0, none⟩) (l.length + 1) cap)) w') : wpList P ops Q (o :: rest) a w := by
  obtain ⟨i, hi, hz0, hz1, hz2⟩ := info_parts hinfo
  obtain ⟨css, hl, hR, hrow⟩ := hown
  refine wpList_append_lies w hgd s x t ho B e i z k bytes ht hi hz0 hz1 hz2 hzs hsz v l.length css.flatten hs hrow ⟨g0, 0, none⟩ 1 c0 cs hx (by omega) (fun j u hj => ?_) h1 (by omega) ?_ hbytes hbase _ rfl fun g cap w' h2 h3 _ _ => h g cap w' ?_ h3
  · rw [Addr.add_mid, cell_of_row w g0 (0 + j) cs.toArray e (0, 0) hg0, Nat.zero_add]
    simpa using hj
  · have : (l.length + 1) * 1 ≤ (l.length + 1) * bytes := Nat.mul_le_mul_left _ hbz
    unfold maxLen
    omega
  · exact Own.appended hl hR hy hlen h2
theorem step_append_el {α : Type} {ops : Array Oper} {o : Oper} {a : Act} {K : Act → World → Prop} {Q : Exit → Act → World → Prop} {E : Prop} (hgd : o.guard = none) (s x : Operand) (t : TypeId)
    (ho : o.op = .call { callee := .builtin .append, args := #[s, x], argTypes := #[t, t] })
    (B : Nat) (e : TypeId) (z : Value) (k bytes : Nat) (ht : P.underlying t = some (.slice e)) (hinfo : (P.info? e).map (fun i => (i.zero, i.size, i.bytes)) = some (some z, k, bytes)) (hzs : z.cells.size = k) (hsz : 0 < k)
    (R : List Value → α → Prop) (v : Value) (l : List α) (hs : a.eval s = v) (hown : Own w B e k R v l)
    (y : α) (cs : List Value) (g0 c0 : Nat) (hx : a.eval x = .slice (some ⟨g0, 0, none⟩) 1 c0) (hg0 : w.heap[g0]? = some (.cells cs.toArray e (0, 0))) (hy : R cs y) (hlen : cs.length = k) (h1 : ∀ u ∈ cs, u.oneCell' = true)
    (hbytes : (l.length + 1) * bytes ≤ 140737488355328) (hbz : 1 ≤ bytes) (hbase : B ≤ w.heap.size)
    (h : ∀ g cap w', Own w' B e k R (.slice (some ⟨g, 0, none⟩) (l.length + 1) cap) (l ++ [y]) → w.grownBy w' v.ownBlock → K (a.put o.dst (.slice (some ⟨g, 0, none⟩) (l.length + 1) cap)) w') :
    if Region.wanted o (yielded ops a.tmps) = true then Oper.wp P o a w K Q else E := by
  obtain ⟨i, hi, hz0, hz1, hz2⟩ := info_parts hinfo
  obtain ⟨css, hl, hR, hrow⟩ := hown
  refine step_append_lies w hgd s x t ho B e i z k bytes ht hi hz0 hz1 hz2 hzs hsz v l.length css.flatten hs hrow ⟨g0, 0, none⟩ 1 c0 cs hx (by omega) (fun j u hj => ?_) h1 (by omega) ?_ hbytes hbase _ rfl fun g cap w' h2 h3 _ _ => h g cap w' ?_ h3
  · rw [Addr.add_mid, cell_of_row w g0 (0 + j) cs.toArray e (0, 0) hg0, Nat.zero_add]
    simpa using hj
  · have : (l.length + 1) * 1 ≤ (l.length + 1) * bytes := Nat.mul_le_mul_left _ hbz
    unfold maxLen
    omega
  · exact Own.appended hl hR hy hlen h2
end
end Go.Proofs.YtaicidbopgnmfaaGreatDoor
namespace Go.Proofs.YtaicidbopgnmfaaGreatDoor
set_option linter.unusedSimpArgs false
set_option linter.unusedVariables false
/-- the first place at which p holds; -1 -/
def idxS {α : Type} (p : α → Bool) (l : List α) : Int := match l.findIdx? p with | some i => i | none => -1
section
variable {α : Type} {p : α → Bool} {l : List α} {k : Nat} {q : α}
theorem idx_any : decide (0 ≤ idxS p l) = l.any p := by
  unfold idxS
  rcases h : l.findIdx? p with _ | i
  · rw [List.findIdx?_eq_none_iff] at h
    have : l.any p = false := by simpa using h
    rw [this]; rfl
  · have h' : (l.findIdx? p).isSome = true := by rw [h]; rfl
    rw [List.findIdx?_isSome] at h'
    rw [h']
    simp
theorem idx_at (hq : l[k]? = some q) (hp : p q = true) (hn : (l.take k).any p = false) : idxS p l = k := by
  obtain ⟨hk, rfl⟩ := List.getElem?_eq_some_iff.1 hq
  have : l.findIdx? p = some k := by
    rw [List.findIdx?_eq_some_iff_getElem]
    refine ⟨hk, hp, fun j hj => ?_⟩
    rw [List.any_eq_false] at hn
    have := hn l[j] (List.mem_take_iff_getElem.2 ⟨j, by omega, rfl⟩)
    simpa using this
  simp [idxS, this]
theorem idx_no (h : l.any p = false) : idxS p l = -1 := by
  have : l.findIdx? p = none := by
    rw [List.findIdx?_eq_none_iff]
    simpa using h
  simp [idxS, this]
theorem any_step (hq : l[k]? = some q) (hp : p q = false) (hn : (l.take k).any p = false) : (l.take (k + 1)).any p = false := by
  rw [take_step hq, List.any_append, hn]
  simp [hp]
theorem any_yes (hq : l[k]? = some q) (hp : p q = true) : l.any p = true := List.any_eq_true.2 ⟨q, List.mem_of_getElem? hq, hp⟩
theorem all_step' (hq : l[k]? = some q) (hp : p q = true) (hn : (l.take k).all p = true) : (l.take (k + 1)).all p = true := by
  rw [take_step hq, List.all_append, hn]
  simp [hp]
theorem all_no (hq : l[k]? = some q) (hp : p q = false) : l.all p = false := by
  rw [Bool.eq_false_iff]
  intro h
  rw [List.all_eq_true] at h
  rw [h q (List.mem_of_getElem? hq)] at hp
  cases hp
theorem any_end (hk : k ≤ l.length) (h : ¬ k < l.length) (hn : (l.take k).any p = false) : l.any p = false := by rwa [take_end hk h] at hn
theorem all_end (hk : k ≤ l.length) (h : ¬ k < l.length) (hn : (l.take k).all p = true) : l.all p = true := by rwa [take_end hk h] at hn
end
end Go.Proofs.YtaicidbopgnmfaaGreatDoor
namespace Go.Proofs.YtaicidbopgnmfaaGreatDoor
set_option linter.unusedSimpArgs false
set_option linter.unusedVariables false
open Go.RowKit

/-- a world behind w -/
structure Be (w : World) where
  w' : World
  h : Below w.heap.size w w'
instance (w : World) : Inhabited (Be w) := ⟨⟨w, Below.refl _ _⟩⟩
theorem region_be {P : Program} {id : Nat} {Q : Exit → Act → World → Prop} {a : Act} {w : World} {l : List Oper} (hm : P.follows .mixedOrders = true) (hB : Region.lexB .any l.toArray = true)
    (h : wpQuiet P l.toArray (fun w' => ∃ p : Be w, w' = p.w') (fun a' => ∀ w', (∃ p : Be w, w' = p.w') → Q .normal a' w') l a) : (Code.region id l.toArray true).wp P Q a w :=
  wp_region_quiet (C := fun w' => ∃ p : Be w, w' = p.w') hm hB ⟨⟨w.drew, (Below.refl _ _).drew⟩, rfl⟩ (by simpa using h)
theorem Calls.be_of {P : Program} {f : FuncId} {args : Array Value} {w : World} {p : Be w} {v : Value} (h : Calls P f args p.w' fun e w'' => e = .returned v ∧ Below p.w'.heap.size p.w' w'') :
    Calls P f args p.w' fun e w'' => e = .returned v ∧ ∃ q : Be w, w'' = q.w' :=
  h.mono fun _ w2 ⟨he, hb⟩ => ⟨he, ⟨w2, p.h.trans (hb.mono p.h.size)⟩, rfl⟩
theorem Be.cell {w : World} {a : Addr} {v : Value} (h : w.cell? a = some v) (p : Be w) : p.w'.cell? a = some v := Kept.of_below p.h a v h
theorem Be.kept {w : World} (p : Be w) : Kept w p.w' := Kept.of_below p.h
end Go.Proofs.YtaicidbopgnmfaaGreatDoor
namespace Go.Proofs.YtaicidbopgnmfaaGreatDoor
set_option linter.unusedSimpArgs false
set_option linter.unusedVariables false
open Go.RowKit
theorem flat_set {α : Type} {k : Nat} : ∀ {css : List (List α)}, (∀ cs ∈ css, cs.length = k) → ∀ {i j : Nat} {cs : List α} (u : α), css[i]? = some cs → j < k → (css.set i (cs.set j u)).flatten = css.flatten.set (i * k + j) u
  | [], _, i, j, cs, u, hi, _ => by simp at hi
  | c :: css, h, 0, j, cs, u, hi, hj => by
    simp only [List.getElem?_cons_zero, Option.some.injEq] at hi
    subst hi
    have hc : c.length = k := h c (List.mem_cons_self ..)
    rw [List.set_cons_zero, List.flatten_cons, List.flatten_cons, Nat.zero_mul, Nat.zero_add, List.set_append_left _ _ (by omega)]
  | c :: css, h, i + 1, j, cs, u, hi, hj => by
    simp only [List.getElem?_cons_succ] at hi
    have hc : c.length = k := h c (List.mem_cons_self ..)
    rw [List.set_cons_succ, List.flatten_cons, List.flatten_cons, flat_set (fun cs hcs => h cs (List.mem_cons_of_mem _ hcs)) u hi hj, List.set_append_right _ _ (by rw [hc, Nat.succ_mul]; omega), hc]
    congr 2
    rw [Nat.succ_mul]
    omega
section
variable {α : Type} {w : World} {B : Nat} {e : TypeId} {k : Nat} {R : List Value → α → Prop} {g n cap : Nat} {l : List α}
theorem Own.form {v : Value} (h : Own w B e k R v l) (h0 : 0 < l.length) : ∃ g cap, v = .slice (some ⟨g, 0, none⟩) l.length cap ∧ B ≤ g := by
  obtain ⟨css, hl, hR, hlen, ho⟩ := h
  rcases ho with ⟨_, hn⟩ | ⟨g, cap, cur, rfl, hb, _⟩
  · omega
  · exact ⟨g, cap, rfl, hb⟩
theorem Own.frz (h : Own w B e k R (.slice (some ⟨g, 0, none⟩) n cap) l) (j : Nat) : w.frozen? ⟨g, j, none⟩ = false := by
  obtain ⟨_, cur, hc⟩ := h.base (g := g) rfl
  simp [World.frozen?, hc]
theorem Own.sizeLt (h : Own w B e k R (.slice (some ⟨g, 0, none⟩) n cap) l) : g < w.heap.size := by
  obtain ⟨_, cur, hc⟩ := h.base (g := g) rfl
  exact heap_lt hc
theorem Own.elem (h : Own w B e k R (.slice (some ⟨g, 0, none⟩) n cap) l) {i : Nat} {x : α} (hx : l[i]? = some x) (hz : l.length ≤ 1000) : ∃ cs, R cs x ∧ cs.length = k ∧ w.rangeAt g (i * k) cs := by
  obtain ⟨A, c, hv, hs⟩ := h.slc (z := 1) (by omega)
  injection hv with hv
  subst hv
  obtain ⟨y, b, o, cs, hy, hA, hcs, hlen, hr⟩ := hs.at_ (List.getElem?_eq_some_iff.1 hx).1
  injection hA with hA
  injection hA with h1 h2
  subst h1 h2
  obtain rfl : y = x := Option.some.inj (hy.symm.trans hx)
  rw [Nat.zero_add] at hr
  exact ⟨cs, hcs, hlen, hr⟩
theorem Own.set (h : Own w B e k R (.slice (some ⟨g, 0, none⟩) n cap) l) {i j : Nat} {x y : α} {u : Value} (hx : l[i]? = some x) (hj : j < k) (hR : ∀ cs, R cs x → R (cs.set j u) y) :
    Own (w.setCell ⟨g, i * k + j, none⟩ u) B e k R (.slice (some ⟨g, 0, none⟩) n cap) (l.set i y) := by
  obtain ⟨css, hl, hRR, hlen, ho⟩ := h
  rcases ho with ⟨hv, _⟩ | ⟨g', cap', cur, hv, hb, hg, hnc, hcm, hcs, hxs⟩
  · cases hv
  · injection hv with h1 h2 h3
    injection h1 with h1
    injection h1 with h1
    subst h1 h2 h3
    have hil : i < l.length := (List.getElem?_eq_some_iff.1 hx).1
    have hci : css[i]? = some (css[i]'(by omega)) := List.getElem?_eq_getElem (by omega)
    generalize css[i]'(by omega) = cs at hci
    obtain ⟨hr1, hr2⟩ := hRR i cs x hci hx
    have hfl := flat_set (own_lens hl hRR) u hci hj
    refine ⟨css.set i (cs.set j u), by simp [hl], fun m cs' x' e1 e2 => ?_, ?_, .inr ⟨g, cap, cur.setIfInBounds (i * k + j) u, by simp, hb, ?_, by simpa using hnc, hcm, by simpa using hcs, ?_⟩⟩
    · rw [List.getElem?_set] at e1 e2
      by_cases hm : i = m
      · subst hm
        rw [if_pos rfl] at e1 e2
        rw [if_pos (by omega)] at e1
        rw [if_pos hil] at e2
        injection e1 with e1
        injection e2 with e2
        subst e1 e2
        exact ⟨hR cs hr1, by rw [List.length_set]; exact hr2⟩
      · rw [if_neg hm] at e1 e2
        exact hRR m cs' x' e1 e2
    · rw [hfl, List.length_set, List.length_set]
      exact hlen
    · simp [World.setCell, Array.getElem?_modify, hg]
    · rw [hfl, Array.toList_setIfInBounds, List.take_set, List.length_set, hxs]
theorem Own.belowSet {w0 : World} (h : Own w B e k R (.slice (some ⟨g, 0, none⟩) n cap) l) (hb : Below B w0 w) (p : Addr) (hp : p.block = g) (u : Value) : Below B w0 (w.setCell p u) := by
  obtain ⟨hg, _⟩ := h.base (g := g) rfl
  exact hb.setCell (by rw [hp]; exact hg) u
end
theorem set_map {α : Type} {f : α → α} {s : List α} {k : Nat} {x : α} (hx : s[k]? = some x) : ((s.take k).map f ++ s.drop k).set k (f x) = (s.take (k + 1)).map f ++ s.drop (k + 1) := by
  have hk : k < s.length := (List.getElem?_eq_some_iff.1 hx).1
  obtain ⟨_, hxe⟩ := List.getElem?_eq_some_iff.1 hx
  have hl : ((s.take k).map f).length = k := by simp; omega
  rw [List.set_append_right _ _ (by omega), hl, Nat.sub_self, List.drop_eq_getElem_cons hk, List.set_cons_zero, take_step hx, List.map_append]
  simp
theorem get_map {α : Type} {f : α → α} {s : List α} {k : Nat} {x : α} (hx : s[k]? = some x) : ((s.take k).map f ++ s.drop k)[k]? = some x := by
  have hk : k < s.length := (List.getElem?_eq_some_iff.1 hx).1
  have hl : ((s.take k).map f).length = k := by simp; omega
  rw [List.getElem?_append_right (by omega), hl, Nat.sub_self, List.getElem?_drop]
  simpa using hx
theorem len_map {α : Type} {f : α → α} (s : List α) (k : Nat) : ((s.take k).map f ++ s.drop k).length = s.length := by simp; omega
end Go.Proofs.YtaicidbopgnmfaaGreatDoor
namespace Go.Proofs.YtaicidbopgnmfaaGreatDoor
set_option linter.unusedSimpArgs false
set_option linter.unusedVariables false
open Go.RowKit

def oFlt (T : Nat → Bool) (o : Obj) : Obj := match o with
  | .cells cs t z => if T t = true ∧ z = (0, 0) then .cells cs t z else .cells #[] 0 (0, 0)
  | _ => .cells #[] 0 (0, 0)
/-- the blocks of these element types alone -/
def flt (T : Nat → Bool) (w : World) : World := { w with heap := w.heap.map (oFlt T) }
section
variable {T : Nat → Bool} {w w' : World}
theorem flt_blk {g t : Nat} {cs : Array Value} (h : w.heap[g]? = some (.cells cs t (0, 0))) (ht : T t = true) : (flt T w).heap[g]? = some (.cells cs t (0, 0)) := by
  simp [flt, h, oFlt, ht]
theorem flt_inv {p : Addr} {v : Value} (h : (flt T w).cell? p = some v) : ∃ cs t, w.heap[p.block]? = some (.cells cs t (0, 0)) ∧ T t = true ∧ p.spot.isSome = false ∧ cs[p.off]? = some v := by
  unfold World.cell? at h
  rcases ho : w.heap[p.block]? with _ | o
  · simp [flt, ho] at h
  · have e : (flt T w).heap[p.block]? = some (oFlt T o) := by simp [flt, ho]
    rw [e] at h
    unfold oFlt at h
    split at h
    · rename_i c t z he
      split at he
      · rename_i cs t' z'
        split at he
        · rename_i hc
          injection he with he
          injection he with h1 h2 h3
          subst h1 h2 h3
          obtain ⟨hc1, hc2⟩ := hc
          subst hc2
          split at h
          · cases h
          · rename_i hs
            exact ⟨_, _, rfl, hc1, by simpa using hs, h⟩
        · injection he with he
          injection he with h1 h2 h3
          subst h1
          split at h <;> simp at h
      · injection he with he
        injection he with h1 h2 h3
        subst h1
        split at h <;> simp at h
    · cases h
theorem flt_cell {p : Addr} {v : Value} (h : (flt T w).cell? p = some v) : w.cell? p = some v := by
  obtain ⟨cs, t, h1, h2, h3, h4⟩ := flt_inv h
  unfold World.cell?
  rw [h1]
  simp [h3, h4]
theorem Kept.flt (T : Nat → Bool) (w : World) : Kept (flt T w) w := fun _ _ h => flt_cell h
theorem flt_mono (h : KeepB (fun t => T t = true) w w') : Kept (Go.Proofs.YtaicidbopgnmfaaGreatDoor.flt T w) (Go.Proofs.YtaicidbopgnmfaaGreatDoor.flt T w') := fun p v hv => by
  obtain ⟨cs, t, h1, h2, h3, h4⟩ := flt_inv hv
  have h5 := (h p.block t cs h1 h2).trans h1
  unfold World.cell?
  rw [flt_blk h5 h2]
  simp [h3, h4]
theorem flt_own {α : Type} {B : Nat} {e : TypeId} {k : Nat} {R : List Value → α → Prop} {v : Value} {l : List α} (h : Own w B e k R v l) (he : T e = true) : Own (Go.Proofs.YtaicidbopgnmfaaGreatDoor.flt T w) B e k R v l :=
  h.same fun g hg => let ⟨_, cur, hc⟩ := h.base hg; (flt_blk hc he).trans hc.symm
end
end Go.Proofs.YtaicidbopgnmfaaGreatDoor
namespace Go.Proofs.YtaicidbopgnmfaaGreatDoor
set_option linter.unusedSimpArgs false
set_option linter.unusedVariables false

/-- may an atom be? -/
def mayA (a : Atm) : Bool := nameS a.name && (decide (a.rel = 0) && decide (a.ver = []) || decide (1 ≤ a.rel ∧ a.rel ≤ 5) && isV a.ver)
def meetsP (a : Atm) (v : Prv) : Bool := decide (v.name = a.name) && (decide (a.rel = 0) || holdsS a.rel v.ver a.ver)
/-- does a package meet an atom? -/
def satS (p : Pkg) (a : Atm) : Bool := mayA a && (decide (p.name = a.name) && holdsS a.rel p.ver a.ver || p.prv.any (meetsP a))
/-- is a clause met? -/
def metS (c : List Atm) (l : List Pkg) : Bool := l.any fun p => c.any (satS p)
/-- the clauses that none of some packages meets, as violations -/
def lacksS (name : List UInt8) (pre : Bool) (on : List Pkg) (cs : List (List Atm)) : List Vio := cs.zipIdx.flatMap fun x => if metS x.1 on then [] else [⟨1, name, pre, x.2, []⟩]
def clash1 (l : List Ent) (at_ : Nat) (kind : Int) (name : List UInt8) (i : Nat) (a : Atm) : List Vio := l.zipIdx.flatMap fun x => if decide (x.2 ≠ at_) && (decide (kind = 2) || x.1.conf) && satS x.1.pkg a then [⟨kind, name, false, i, x.1.pkg.name⟩] else []
def clashS (l : List Ent) (at_ : Nat) (kind : Int) (name : List UInt8) (as : List Atm) : List Vio := as.zipIdx.flatMap fun y => clash1 l at_ kind name y.2 y.1
def onS (l : List Ent) : List Pkg := (l.filter Ent.conf).map Ent.pkg
def wrong1 (l : List Ent) (i : Nat) (x : Ent) : List Vio :=
  lacksS x.pkg.name true (onS l) x.pkg.pre ++ ((if x.conf then lacksS x.pkg.name false (onS l) x.pkg.dep else []) ++ (clashS l i 2 x.pkg.name x.pkg.con ++ clashS l i 3 x.pkg.name x.pkg.brk))
/-- what is wrong with entries -/
def wrongS (l : List Ent) : List Vio := l.zipIdx.flatMap fun x => wrong1 l x.2 x.1
theorem zip_step {α : Type} {l : List α} {k : Nat} {q : α} (h : l[k]? = some q) : (l.take (k + 1)).zipIdx = (l.take k).zipIdx ++ [(q, k)] := by
  have hk : k ≤ l.length := Nat.le_of_lt (List.getElem?_eq_some_iff.1 h).1
  rw [take_step h, List.zipIdx_append]
  simp [List.length_take, Nat.min_eq_left hk]
theorem flat_step {α β : Type} {l : List α} {k : Nat} {q : α} (f : α × Nat → List β) (h : l[k]? = some q) : (l.take (k + 1)).zipIdx.flatMap f = (l.take k).zipIdx.flatMap f ++ f (q, k) := by
  rw [zip_step h, List.flatMap_append]
  simp
def lgtC (K C : Nat) (cs : List (List Atm)) : Bool := decide (cs.length ≤ K) && cs.all fun c => decide (c.length ≤ C)
def lgtP (N K C : Nat) (p : Pkg) : Bool := decide (p.con.length + p.brk.length + p.prv.length ≤ N) && lgtC K C p.pre && lgtC K C p.dep && lgtC K C p.rcm
/-- few and small packages -/
def lightS (N K C : Nat) (l : List Pkg) : Bool := decide (l.length ≤ 26) && l.all (lgtP N K C)
end Go.Proofs.YtaicidbopgnmfaaGreatDoor
namespace Go.Proofs.YtaicidbopgnmfaaGreatDoor
set_option linter.unusedSimpArgs false
set_option linter.unusedVariables false
def withinS (a b : List Vio) : Bool := a.all fun x => b.any fun y => decide (x = y)
end Go.Proofs.YtaicidbopgnmfaaGreatDoor
namespace Go.Proofs.YtaicidbopgnmfaaGreatDoor
set_option linter.unusedSimpArgs false
set_option linter.unusedVariables false
open Go.RowKit
section
variable {P : Program} {w : World} {α : Type}
theorem slc_cells {k z : Nat} {R : List Value → α → Prop} {b o c : Nat} {m : List α} (h : Slc w k z R (some ⟨b, o, none⟩) c m) : ∀ n, n ≤ m.length → ∃ css : List (List Value), css.length = n ∧
    (∀ (i : Nat) (cs : List Value) (x : α), css[i]? = some cs → m[i]? = some x → R cs x ∧ cs.length = k) ∧ css.flatten.length = n * k ∧ ∀ (j : Nat) (u : Value), css.flatten[j]? = some u → w.cell? ⟨b, o + j, none⟩ = some u
  | 0, _ => ⟨[], rfl, fun i cs x h => by simp at h, by simp, fun j u h => by simp at h⟩
  | n + 1, hn => by
    obtain ⟨css, h1, h2, h3, h4⟩ := slc_cells h n (by omega)
    obtain ⟨x, b', o', cs, hx, hA, hcs, hlen, hr⟩ := h.at_ (i := n) (by omega)
    injection hA with hA
    injection hA with hA1 hA2
    subst hA1 hA2
    refine ⟨css ++ [cs], by simp [h1], fun i cs' x' e1 e2 => ?_, ?_, fun j u hj => ?_⟩
    · rcases Nat.lt_or_ge i n with hi | hi
      · rw [List.getElem?_append_left (by omega)] at e1
        exact h2 i cs' x' e1 e2
      · have hi2 := (List.getElem?_eq_some_iff.1 e1).1
        simp [h1] at hi2
        obtain rfl : i = n := by omega
        rw [List.getElem?_append_right (by omega), h1] at e1
        simp at e1
        subst e1
        rw [hx] at e2
        injection e2 with e2
        subst e2
        exact ⟨hcs, hlen⟩
    · rw [List.flatten_append, List.length_append, h3, Nat.succ_mul]
      simp [hlen]
    · rw [List.flatten_append] at hj
      simp only [List.flatten_cons, List.flatten_nil, List.append_nil] at hj
      rcases Nat.lt_or_ge j (n * k) with hjn | hjn
      · rw [List.getElem?_append_left (by omega)] at hj
        exact h4 j u hj
      · rw [List.getElem?_append_right (by omega), h3] at hj
        have := hr (j - n * k) u hj
        rw [← this]
        congr 2
        omega
theorem append_all_run (t ty : TypeId) (B : Nat) (e : TypeId) (z : Value) (k bytes z0 : Nat) (ht : P.underlying t = some (.slice e)) (hinfo : (P.info? e).map (fun i => (i.zero, i.size, i.bytes)) = some (some z, k, bytes)) (hzs : z.cells.size = k) (hsz : 0 < k)
    (R : List Value → α → Prop) (v : Value) (l : List α) (hown : Own w B e k R v l) (A : Option Addr) (c0 : Nat) (m : List α) (hsl : Slc w k z0 R A c0 m) (hone : ∀ cs y, R cs y → ∀ u ∈ cs, u.oneCell' = true)
    (hbytes : (l.length + m.length) * bytes ≤ 140737488355328) (hbz : 1 ≤ bytes) (hbase : B ≤ w.heap.size) :
    ∃ v' w', (Builtin.append_ #[t, t] ty #[v, .slice A m.length c0]).run P w = .ok v' w' ∧ Own w' B e k R v' (l ++ m) ∧ w.grownBy w' v.ownBlock := by
  obtain ⟨i, hi, hz0, hz1, hz2⟩ := info_parts hinfo
  have h63 : l.length + m.length ≤ maxLen := by
    have : (l.length + m.length) * 1 ≤ (l.length + m.length) * bytes := Nat.mul_le_mul_left _ hbz
    unfold maxLen
    omega
  have hown0 := hown
  obtain ⟨css, hl, hR, hrow⟩ := hown
  have fin : ∀ (v' : Value) (w' : World) (css' : List (List Value)), css'.length = m.length → (∀ (i : Nat) (cs : List Value) (x : α), css'[i]? = some cs → m[i]? = some x → R cs x ∧ cs.length = k) → w'.ownsRow B e k v' (l.length + m.length) (css.flatten ++ css'.flatten) → Own w' B e k R v' (l ++ m) := by
    intro v' w' css' h1 h2 h3
    refine ⟨css ++ css', by simp [hl, h1], fun i cs x e1 e2 => ?_, by rw [List.length_append, List.flatten_append]; exact h3⟩
    rcases Nat.lt_or_ge i l.length with hil | hil
    · rw [List.getElem?_append_left (by omega)] at e1
      rw [List.getElem?_append_left hil] at e2
      exact hR i cs x e1 e2
    · rw [List.getElem?_append_right (by omega), hl] at e1
      rw [List.getElem?_append_right hil] at e2
      exact h2 _ cs x e1 e2
  rcases A with _ | ⟨b, o, sp⟩
  · have hm : m = [] := by
      rcases m with _ | ⟨x, m⟩
      · rfl
      · obtain ⟨b, o, h, _⟩ := hsl.2.2.2 (by simp)
        cases h
    subst hm
    refine ⟨v, w, ?_, by simpa using hown0, ⟨rfl, rfl, rfl, Nat.le_refl _, fun _ _ _ => rfl⟩⟩
    rcases hrow.2 with ⟨rfl, h0⟩ | ⟨g, cap, cur, rfl, hbg, hg, hnc, hcm, hcs, htake⟩
    · simp [Builtin.append_, run_underlying ht, sizeOf, typeInfo, hi, Builtin.lenOf, Builtin.firstCells, loadCells, loadCellsFrom]
    · simp [Builtin.append_, run_underlying ht, sizeOf, typeInfo, hi, Builtin.lenOf, Builtin.firstCells, loadCells, loadCellsFrom, hnc, storeCells]
  · by_cases hm : m = []
    · subst hm
      obtain ⟨v', w', hr, h2, h3, _, _⟩ := run_append_own_at (P := P) w B t ty e i z k bytes ht hi hz0 hz1 hz2 hzs hsz v l.length css.flatten hrow ⟨b, o, sp⟩ 0 c0 [] (by simp) (fun j u h => by simp at h) (fun u h => by simp at h) (by simpa using h63) (by simpa using hbytes) hbase
      exact ⟨v', w', hr, fin v' w' [] rfl (fun i cs x h => by simp at h) (by simpa using h2), h3⟩
    · have h0 : 0 < m.length := List.length_pos_iff.2 hm
      obtain ⟨b', o', hA, _⟩ := hsl.2.2.2 h0
      injection hA with hA
      injection hA with hA1 hA2 hA3
      subst hA1 hA2 hA3
      obtain ⟨css', h1, h2, h3, h4⟩ := slc_cells hsl m.length (Nat.le_refl _)
      obtain ⟨v', w', hr, k2, k3, _, _⟩ := run_append_own_at (P := P) w B t ty e i z k bytes ht hi hz0 hz1 hz2 hzs hsz v l.length css.flatten hrow ⟨b, o, none⟩ m.length c0 css'.flatten h3 (fun j u hj => by rw [Addr.add_mid]; exact h4 j u hj) (fun u hu => by
        obtain ⟨cs, hcs, hu⟩ := List.mem_flatten.1 hu
        obtain ⟨i, hi, rfl⟩ := List.mem_iff_getElem.1 hcs
        exact hone _ _ (h2 i _ _ (List.getElem?_eq_getElem hi) (List.getElem?_eq_getElem (by omega : i < m.length))).1 u hu) h63 hbytes hbase
      exact ⟨v', w', hr, fin v' w' css' h1 h2 k2, k3⟩
theorem wpList_append_all {ops : Array Oper} {rest : List Oper} {o : Oper} {a : Act} {Q : Exit → Act → World → Prop} (hgd : o.guard = none) (s x : Operand) (t : TypeId)
    (ho : o.op = .call { callee := .builtin .append, args := #[s, x], argTypes := #[t, t] })
    (B : Nat) (e : TypeId) (z : Value) (k bytes z0 : Nat) (ht : P.underlying t = some (.slice e)) (hinfo : (P.info? e).map (fun i => (i.zero, i.size, i.bytes)) = some (some z, k, bytes)) (hzs : z.cells.size = k) (hsz : 0 < k)
    (R : List Value → α → Prop) (v : Value) (l : List α) (hs : a.eval s = v) (hown : Own w B e k R v l) (A : Option Addr) (c0 : Nat) (m : List α) (hx : a.eval x = .slice A m.length c0) (hsl : Slc w k z0 R A c0 m) (hone : ∀ cs y, R cs y → ∀ u ∈ cs, u.oneCell' = true)
    (hbytes : (l.length + m.length) * bytes ≤ 140737488355328) (hbz : 1 ≤ bytes) (hbase : B ≤ w.heap.size)
    (h : ∀ v' w', Own w' B e k R v' (l ++ m) → w.grownBy w' v.ownBlock → wpList P ops Q rest (a.put o.dst v') w') : wpList P ops Q (o :: rest) a w := by
  obtain ⟨v', w', hr, h1, h2⟩ := append_all_run (P := P) (w := w) t o.type B e z k bytes z0 ht hinfo hzs hsz R v l hown A c0 m hsl hone hbytes hbz hbase
  exact Lib.wpList_append_run w hgd s x t t ho v _ hs hx v' w' hr (h v' w' h1 h2)
theorem step_append_all {ops : Array Oper} {o : Oper} {a : Act} {K : Act → World → Prop} {Q : Exit → Act → World → Prop} {E : Prop} (hgd : o.guard = none) (s x : Operand) (t : TypeId)
    (ho : o.op = .call { callee := .builtin .append, args := #[s, x], argTypes := #[t, t] })
    (B : Nat) (e : TypeId) (z : Value) (k bytes z0 : Nat) (ht : P.underlying t = some (.slice e)) (hinfo : (P.info? e).map (fun i => (i.zero, i.size, i.bytes)) = some (some z, k, bytes)) (hzs : z.cells.size = k) (hsz : 0 < k)
    (R : List Value → α → Prop) (v : Value) (l : List α) (hs : a.eval s = v) (hown : Own w B e k R v l) (A : Option Addr) (c0 : Nat) (m : List α) (hx : a.eval x = .slice A m.length c0) (hsl : Slc w k z0 R A c0 m) (hone : ∀ cs y, R cs y → ∀ u ∈ cs, u.oneCell' = true)
    (hbytes : (l.length + m.length) * bytes ≤ 140737488355328) (hbz : 1 ≤ bytes) (hbase : B ≤ w.heap.size)
    (h : ∀ v' w', Own w' B e k R v' (l ++ m) → w.grownBy w' v.ownBlock → K (a.put o.dst v') w') :
    if Region.wanted o (yielded ops a.tmps) = true then Oper.wp P o a w K Q else E := by
  have hw : Region.wanted o (yielded ops a.tmps) = true := by simp [Region.wanted, hgd]
  rw [if_pos hw]
  obtain ⟨v', w', hr, h1, h2⟩ := append_all_run (P := P) (w := w) t o.type B e z k bytes z0 ht hinfo hzs hsz R v l hown A c0 m hsl hone hbytes hbz hbase
  exact Lib.wp_append_run w s x t t ho v _ hs hx v' w' hr (h v' w' h1 h2)
end
end Go.Proofs.YtaicidbopgnmfaaGreatDoor
namespace Go.Proofs.YtaicidbopgnmfaaGreatDoor
set_option linter.unusedSimpArgs false
set_option linter.unusedVariables false
open Go.RowKit

def rrankS : List UInt8 → Int
  | [] => 0
  | c :: _ => if digB c then 0 else if c.toNat = 126 then -1 else if letB c then 1 + c.toNat else 300 + c.toNat
theorem rrank_zero (l : List UInt8) : rrankS l = 0 ↔ rankS l = 0 := by
  rcases l with _ | ⟨c, l⟩
  · simp [rrankS, rankS]
  · simp only [rrankS, rankS]
    by_cases h : digB c = true
    · simp [h]
    · by_cases h2 : letB c = true
      · have : 65 ≤ c.toNat := by simp [letB] at h2; omega
        simp only [h, h2]; grind
      · simp only [h, h2]; grind
theorem rrank_cmp (a b : List UInt8) : Lib.compareInt (rrankS a) (rrankS b) = Lib.compareInt (rankS a) (rankS b) := by
  have key : ∀ c : UInt8, letB c = true → 65 ≤ c.toNat ∧ c.toNat ≤ 122 := by intro c h; simp [letB] at h; omega
  rcases a with _ | ⟨x, a⟩ <;> rcases b with _ | ⟨y, b⟩ <;> simp only [rrankS, rankS]
  · have := key y; have := y.toNat_lt; unfold Lib.compareInt; grind
  · have := key x; have := x.toNat_lt; unfold Lib.compareInt; grind
  · have := key x; have := x.toNat_lt; have := key y; have := y.toNat_lt; unfold Lib.compareInt; grind
def skipS (l : List UInt8) : List UInt8 := (l.dropWhile (fun c => !digB c)).dropWhile (· == 48)
theorem signs_skip {a b : List UInt8} (h : (signsS a b).1 = 0) : a.dropWhile (fun c => !digB c) = (signsS a b).2.1 ∧ b.dropWhile (fun c => !digB c) = (signsS a b).2.2 := by
  have base : ∀ l : List UInt8, rankS l = 0 → l.dropWhile (fun c => !digB c) = l := by
    intro l hl
    rcases l with _ | ⟨c, l⟩
    · rfl
    · rcases (rank_zero _).1 hl with h | h
      · cases h
      · have : digB c = true := h
        simp [this]
  have hd : ∀ (c : UInt8) (l : List UInt8), rankS (c :: l) ≠ 0 → digB c = false := by
    intro c l hl
    cases hc : digB c
    · rfl
    · exact absurd ((rank_zero (c :: l)).2 (.inr hc)) hl
  induction a generalizing b with
  | nil =>
    simp only [signsS, compareInt_zero] at h ⊢
    exact ⟨rfl, base b h.symm⟩
  | cons x a ih =>
    simp only [signsS] at h ⊢
    by_cases h1 : rankS (x :: a) = rankS b
    · rw [if_pos h1] at h ⊢
      by_cases h2 : rankS (x :: a) = 0
      · rw [if_pos h2] at h ⊢
        exact ⟨base _ h2, base _ (by rw [← h1]; exact h2)⟩
      · rw [if_neg h2] at h ⊢
        have hb : rankS b ≠ 0 := by rw [← h1]; exact h2
        rcases b with _ | ⟨y, b⟩
        · exact absurd rfl hb
        have hx := hd x a h2
        have hy := hd y b hb
        have := ih h
        simp only [List.dropWhile_cons, hx, hy, Bool.not_false, if_true]
        exact this
    · rw [if_neg h1] at h
      exact absurd ((compareInt_zero _ _).1 h) h1
theorem dropNought {A : List UInt8} (h : rankS A = 0) : A.dropWhile (· == 48) = (digitsS A).1 ++ (digitsS A).2 := by
  unfold digitsS
  induction A with
  | nil => rfl
  | cons x A ih =>
    have hx : digB x = true := by
      rcases (rank_zero _).1 h with h | h
      · cases h
      · exact h
    by_cases h48 : x = 48
    · subst h48
      simp only [List.dropWhile_cons, List.takeWhile_cons, hx, if_true, beq_self_eq_true]
      by_cases hA : rankS A = 0
      · exact ih hA
      · have hn : ∀ y B, A = y :: B → digB y = false := by
          intro y B e
          cases hy : digB y
          · rfl
          · exact absurd ((rank_zero A).2 (.inr (by rw [e]; exact hy))) hA
        rcases A with _ | ⟨y, B⟩
        · rfl
        · have hy := hn y B rfl
          have h4 : (y == 48) = false := by
            rw [beq_eq_false_iff_ne]
            rintro rfl
            cases hy
          simp [List.takeWhile_cons, hy, h4]
    · have h4 : (x == 48) = false := by simpa using h48
      simp only [List.dropWhile_cons, List.takeWhile_cons, hx, if_true, h4]
      simp [List.takeWhile_append_dropWhile]
theorem skip_parts {a b : List UInt8} (h : (signsS a b).1 = 0) :
    skipS a = (digitsS (signsS a b).2.1).1 ++ (digitsS (signsS a b).2.1).2 ∧ skipS b = (digitsS (signsS a b).2.2).1 ++ (digitsS (signsS a b).2.2).2 := by
  have hs := signs_skip h
  have hz := signs_same h
  unfold skipS
  rw [hs.1, hs.2]
  exact ⟨dropNought hz.1, dropNought hz.2⟩
theorem mem_takeWhile_ {p : UInt8 → Bool} {c : UInt8} : ∀ {l : List UInt8}, c ∈ l.takeWhile p → p c = true
  | [], h => by simp at h
  | x :: l, h => by
    simp only [List.takeWhile_cons] at h
    split at h
    · rcases List.mem_cons.1 h with rfl | h
      · assumption
      · exact mem_takeWhile_ h
    · cases h
theorem takeWhile_dropWhile_ {p : UInt8 → Bool} : ∀ l : List UInt8, (l.dropWhile p).takeWhile p = []
  | [] => rfl
  | x :: l => by
    simp only [List.dropWhile_cons]
    split
    · exact takeWhile_dropWhile_ l
    · rename_i hx; simp [hx]
theorem run_parts (A : List UInt8) : ((digitsS A).1 ++ (digitsS A).2).takeWhile digB = (digitsS A).1 := by
  have h1 : ∀ c ∈ (digitsS A).1, digB c = true := fun c hc => mem_takeWhile_ ((List.dropWhile_suffix (l := A.takeWhile digB) (· == 48)).subset hc)
  rw [List.takeWhile_append_of_pos h1, show (digitsS A).2.takeWhile digB = [] from takeWhile_dropWhile_ A, List.append_nil]
theorem bytesLess_same (a : List UInt8) : Op.bytesLess a a = false := by
  induction a with
  | nil => rfl
  | cons x a ih => simp [Op.bytesLess, ih]
theorem cmpB_same (a : List UInt8) : cmpB a a = 0 := by simp [cmpB, bytesLess_same]
theorem cmpB_diff {p q : List UInt8} {i : Nat} {x y : UInt8} (h : p.take i = q.take i) (hx : p[i]? = some x) (hy : q[i]? = some y) (hne : x.toNat ≠ y.toNat) : cmpB p q = Lib.compareInt x.toNat y.toNat := by
  induction p generalizing q i with
  | nil => simp at hx
  | cons a p ih =>
    rcases q with _ | ⟨b, q⟩
    · simp at hy
    rcases i with _ | i
    · simp at hx hy
      subst hx; subst hy
      have hab : ¬ a = b := fun e => hne (by rw [e])
      have hlt : decide (a < b) = decide ((a.toNat : Int) < b.toNat) := by
        rw [Bool.eq_iff_iff]; simp [UInt8.lt_iff_toNat_lt]
      have hbe : (a == b) = false := by simpa using hab
      have hb : Op.bytesLess (a :: p) (b :: q) = decide ((a.toNat : Int) < b.toNat) := by simp only [Op.bytesLess, hlt, hbe, Bool.false_and, Bool.or_false]
      unfold cmpB Lib.compareInt
      rw [hb]
      simp only [decide_eq_true_eq, List.cons.injEq, hab, false_and, if_false]
      split
      · rfl
      · rw [if_pos (by omega)]
    · simp only [List.take_succ_cons, List.cons.injEq] at h
      obtain ⟨rfl, h⟩ := h
      have := ih (q := q) (i := i) h (by simpa using hx) (by simpa using hy)
      rw [← this]
      simp [cmpB, Op.bytesLess]
end Go.Proofs.YtaicidbopgnmfaaGreatDoor
namespace Go.Proofs.YtaicidbopgnmfaaGreatDoor
set_option linter.unusedSimpArgs false
set_option linter.unusedVariables false
open Go.RowKit

def sgn (x : Int) : Int := Lib.compareInt x 0
/-- two lists of numbers, noughts behind them, from the left -/
def lexZ : List Int → List Int → Int
  | [], [] => 0
  | [], y :: b => if 0 = y then lexZ [] b else Lib.compareInt 0 y
  | x :: a, [] => if x = 0 then lexZ a [] else Lib.compareInt x 0
  | x :: a, y :: b => if x = y then lexZ a b else Lib.compareInt x y
theorem cI_val (x y : Int) : Lib.compareInt x y = if x < y then -1 else if y < x then 1 else 0 := by unfold Lib.compareInt; grind
theorem lexZ_self (a : List Int) : lexZ a a = 0 := by induction a <;> simp [lexZ, *]
theorem lexZ_val (a b : List Int) : lexZ a b = -1 ∨ lexZ a b = 0 ∨ lexZ a b = 1 := by
  fun_induction lexZ a b <;> grind [cI_val]
theorem lexZ_swap (a b : List Int) : lexZ b a = - lexZ a b := by
  fun_induction lexZ a b <;> simp only [lexZ] <;> grind [cI_val, lexZ]
/-- the three laws of an order, of which one holds whatever the signs -/
def ord (x y z : Int) : Prop := (x ≤ 0 ∧ y ≤ 0 → z ≤ 0) ∧ (x < 0 ∧ y ≤ 0 → z < 0) ∧ (x ≤ 0 ∧ y < 0 → z < 0) ∧ (0 ≤ x ∧ 0 ≤ y → 0 ≤ z) ∧ (0 < x ∧ 0 ≤ y → 0 < z) ∧ (0 ≤ x ∧ 0 < y → 0 < z) ∧ (x = 0 → z = y) ∧ (y = 0 → z = x)
theorem step_ord {x y z t u v : Int} (h : ord t u v) : ord (if x = y then t else Lib.compareInt x y) (if y = z then u else Lib.compareInt y z) (if x = z then v else Lib.compareInt x z) := by
  unfold ord at *
  simp only [cI_val]
  by_cases h1 : x = y <;> by_cases h2 : y = z <;> by_cases h3 : x = z <;> simp only [h1, h2, h3, if_true, if_false] <;> grind
theorem lexZ_ord (a b c : List Int) : ord (lexZ a b) (lexZ b c) (lexZ a c) := by
  induction a generalizing b c with
  | nil =>
    induction b generalizing c with
    | nil => unfold ord; simp [lexZ]
    | cons y b ih =>
      cases c with
      | nil =>
        have := step_ord (x := 0) (y := y) (z := 0) (ih [])
        simp only [lexZ, if_true] at *
        exact this
      | cons z c => simpa only [lexZ] using step_ord (x := 0) (y := y) (z := z) (ih c)
  | cons x a ih =>
    cases b with
    | nil =>
      cases c with
      | nil =>
        have := step_ord (x := x) (y := 0) (z := 0) (ih [] [])
        simp only [lexZ, if_true] at *
        exact this
      | cons z c => simpa only [lexZ] using step_ord (x := x) (y := 0) (z := z) (ih [] c)
    | cons y b =>
      cases c with
      | nil => simpa only [lexZ] using step_ord (x := x) (y := y) (z := 0) (ih b [])
      | cons z c => simpa only [lexZ] using step_ord (x := x) (y := y) (z := z) (ih b c)

/-- a part of a version as such a list: a sign that is no digit by its rank; digits by a nought, how many they are, and each of them -/
def keyF : Nat → List UInt8 → List Int
  | 0, _ => []
  | _, [] => []
  | n + 1, c :: l => if digB c then 0 :: ((digitsS (c :: l)).1.length : Int) :: ((digitsS (c :: l)).1.map (fun d => (d.toNat : Int)) ++ keyF n (digitsS (c :: l)).2) else rankS (c :: l) :: keyF n l
def keyS (l : List UInt8) : List Int := keyF l.length l
theorem keyF_more (n : Nat) : ∀ (m : Nat) (l : List UInt8), l.length ≤ n → n ≤ m → keyF m l = keyF n l := by
  induction n with
  | zero =>
    intro m l h _
    obtain rfl : l = [] := List.eq_nil_of_length_eq_zero (by omega)
    cases m <;> simp [keyF]
  | succ n ih =>
    intro m l h hm
    obtain ⟨m, rfl⟩ : ∃ k, m = k + 1 := ⟨m - 1, by omega⟩
    rcases l with _ | ⟨c, l⟩
    · simp [keyF]
    · simp only [keyF]
      simp only [List.length_cons] at h
      by_cases hc : digB c = true
      · rw [if_pos hc, if_pos hc]
        have : (digitsS (c :: l)).2.length ≤ l.length := by
          have := (List.dropWhile_suffix (l := l) digB).length_le
          simp only [digitsS, List.dropWhile_cons, hc, if_true]
          omega
        rw [ih m _ (by omega) (by omega)]
      · rw [if_neg hc, if_neg hc, ih m _ (by omega) (by omega)]
theorem keyS_nil : keyS [] = [] := rfl
theorem keyS_sign {c : UInt8} {l : List UInt8} (h : digB c = false) : keyS (c :: l) = rankS (c :: l) :: keyS l := by
  unfold keyS
  simp only [List.length_cons, keyF, h]
  simp
theorem keyS_dig {l : List UInt8} (h : headDig l = true) : keyS l = 0 :: ((digitsS l).1.length : Int) :: ((digitsS l).1.map (fun d => (d.toNat : Int)) ++ keyS (digitsS l).2) := by
  rcases l with _ | ⟨c, l⟩
  · simp [headDig] at h
  · simp only [headDig] at h
    unfold keyS
    simp only [List.length_cons, keyF, h, if_true]
    have : (digitsS (c :: l)).2.length ≤ l.length := by
      have := (List.dropWhile_suffix (l := l) digB).length_le
      simp only [digitsS, List.dropWhile_cons, h, if_true]
      omega
    rw [keyF_more _ l.length _ (Nat.le_refl _) this]
/-- at a digit or at the end, noughts aside, the key reads alike -/
theorem lexZ_nil_zero (a : List Int) : lexZ [] (0 :: 0 :: a) = lexZ [] a ∧ lexZ (0 :: 0 :: a) [] = lexZ a [] := by simp [lexZ]
theorem cmpB_lex : ∀ (a b : List UInt8), a.length = b.length → ∀ k m : List Int, lexZ (a.map (fun d => (d.toNat : Int)) ++ k) (b.map (fun d => (d.toNat : Int)) ++ m) = if cmpB a b ≠ 0 then cmpB a b else lexZ k m
  | [], [], _, k, m => by simp [cmpB, Op.bytesLess]
  | [], y :: b, h, _, _ => by simp at h
  | x :: a, [], h, _, _ => by simp at h
  | x :: a, y :: b, h, k, m => by
    have ih := cmpB_lex a b (by simpa using h) k m
    simp only [List.map_cons, List.cons_append, lexZ]
    by_cases hxy : x = y
    · subst hxy
      have : cmpB (x :: a) (x :: b) = cmpB a b := by simp [cmpB, Op.bytesLess]
      rw [if_pos rfl, ih, this]
    · have hn : x.toNat ≠ y.toNat := fun e => hxy (UInt8.toNat_inj.1 e)
      have : cmpB (x :: a) (y :: b) = Lib.compareInt x.toNat y.toNat := by
        simp [cmpB, Op.bytesLess, cI_val, hxy, UInt8.lt_iff_toNat_lt]
        grind
      rw [if_neg (by omega), this, if_pos]
      rw [cI_val]; grind
theorem nums_lex {a b : List UInt8} (ha : rankS a = 0) (hb : rankS b = 0) : lexZ (keyS a) (keyS b) = if numsS a b ≠ 0 then numsS a b else lexZ (keyS (digitsS a).2) (keyS (digitsS b).2) := by
  have hl : lexZ (0 :: ((digitsS a).1.length : Int) :: ((digitsS a).1.map (fun d => (d.toNat : Int)) ++ keyS (digitsS a).2)) (0 :: ((digitsS b).1.length : Int) :: ((digitsS b).1.map (fun d => (d.toNat : Int)) ++ keyS (digitsS b).2)) = if numsS a b ≠ 0 then numsS a b else lexZ (keyS (digitsS a).2) (keyS (digitsS b).2) := by
    simp only [lexZ, if_true]
    unfold numsS
    by_cases h : (digitsS a).1.length = (digitsS b).1.length
    · rw [if_pos (by omega), if_pos h, cmpB_lex _ _ h]
    · rw [if_neg (by omega), if_neg h, if_pos]
      rw [cI_val]; grind
  rcases (rank_zero a).1 ha with rfl | ha
  · rcases (rank_zero b).1 hb with rfl | hb
    · rfl
    · rw [keyS_dig hb, ← hl]
      simp [digitsS, keyS_nil, lexZ]
  · rcases (rank_zero b).1 hb with rfl | hb
    · rw [keyS_dig ha, ← hl]
      simp [digitsS, keyS_nil, lexZ]
    · rw [keyS_dig ha, keyS_dig hb, hl]
theorem key_head {l : List UInt8} : ∃ r, (l = [] ∧ keyS l = []) ∨ keyS l = rankS l :: r := by
  rcases l with _ | ⟨c, l⟩
  · exact ⟨[], .inl ⟨rfl, rfl⟩⟩
  · by_cases h : digB c = true
    · exact ⟨_, .inr (by rw [keyS_dig (l := c :: l) (by simpa [headDig] using h)]; simp [rankS, h]; rfl)⟩
    · exact ⟨_, .inr (keyS_sign (by simpa using h))⟩
theorem rank_nil : rankS [] = 0 := rfl
theorem lex_head {a b : List UInt8} (h : rankS a ≠ rankS b) : lexZ (keyS a) (keyS b) = Lib.compareInt (rankS a) (rankS b) := by
  obtain ⟨r, ⟨rfl, ha⟩ | ha⟩ := key_head (l := a) <;> obtain ⟨q, ⟨rfl, hb⟩ | hb⟩ := key_head (l := b)
  · exact absurd rfl h
  · rw [rank_nil] at h ⊢; rw [hb]; simp only [keyS_nil, lexZ]; rw [if_neg h]
  · rw [rank_nil] at h ⊢; rw [ha]; simp only [keyS_nil, lexZ]; rw [if_neg h]
  · rw [ha, hb]; simp only [lexZ]; rw [if_neg h]
def sel (x y : Int) : Int := if x = 0 then y else x
theorem sel_zero (y : Int) : sel 0 y = y := rfl
theorem sel_not {x : Int} (y : Int) (h : x ≠ 0) : sel x y = x := by simp [sel, h]
theorem signs_lex (a b : List UInt8) : lexZ (keyS a) (keyS b) = sel (signsS a b).1 (lexZ (keyS (signsS a b).2.1) (keyS (signsS a b).2.2)) := by
  induction a generalizing b with
  | nil =>
    have e : signsS [] b = (Lib.compareInt 0 (rankS b), [], b) := rfl
    rw [e]
    by_cases h : rankS [] = rankS b
    · rw [rank_nil] at h
      rw [(compareInt_zero _ _).2 h, sel_zero]
    · rw [lex_head h]
      rw [rank_nil] at h ⊢
      exact (sel_not _ (fun e => h ((compareInt_zero _ _).1 e))).symm
  | cons x a ih =>
    by_cases h : rankS (x :: a) = rankS b
    · by_cases h0 : rankS (x :: a) = 0
      · have e : signsS (x :: a) b = (0, x :: a, b) := by simp only [signsS]; rw [if_pos h, if_pos h0]
        rw [e, sel_zero]
      · have e : signsS (x :: a) b = signsS a b.tail := by simp only [signsS]; rw [if_pos h, if_neg h0]
        rw [e, ← ih b.tail]
        have hx : digB x = false := Bool.not_eq_true _ ▸ fun (e : digB x = true) => h0 (by simp [rankS, e])
        rcases b with _ | ⟨y, b⟩
        · exact absurd (h.trans rank_nil) h0
        · have hy : digB y = false := Bool.not_eq_true _ ▸ fun (e : digB y = true) => h0 (by rw [h]; simp [rankS, e])
          rw [keyS_sign hx, keyS_sign hy]
          simp only [lexZ, List.tail_cons]
          rw [if_pos h]
    · have e : signsS (x :: a) b = (Lib.compareInt (rankS (x :: a)) (rankS b), x :: a, b) := by simp only [signsS]; rw [if_neg h]
      rw [e, lex_head h]
      exact (sel_not _ (fun e => h ((compareInt_zero _ _).1 e))).symm
theorem partF_lex (n : Nat) : ∀ a b : List UInt8, a.length + b.length ≤ n → partS a b = lexZ (keyS a) (keyS b) := by
  induction n with
  | zero =>
    intro a b h
    obtain rfl : a = [] := List.eq_nil_of_length_eq_zero (by omega)
    obtain rfl : b = [] := List.eq_nil_of_length_eq_zero (by omega)
    simp [partS_nil, keyS_nil, lexZ]
  | succ n ih =>
    intro a b h
    by_cases hne : a = [] ∧ b = []
    · obtain ⟨rfl, rfl⟩ := hne; simp [partS_nil, keyS_nil, lexZ]
    · rw [partS_round hne, signs_lex]
      by_cases hs : (signsS a b).1 ≠ 0
      · rw [if_pos hs, sel_not _ hs]
      · rw [if_neg hs]
        have hs' : (signsS a b).1 = 0 := by simpa using hs
        have hr := round_len hne hs'
        have hz := signs_same hs'
        rw [nums_lex hz.1 hz.2, ih _ _ (by omega), hs', sel_zero]
theorem partS_lex (a b : List UInt8) : partS a b = lexZ (keyS a) (keyS b) := partF_lex _ a b (Nat.le_refl _)
theorem partS_self (a : List UInt8) : partS a a = 0 := by rw [partS_lex, lexZ_self]
theorem partS_swap (a b : List UInt8) : partS b a = - partS a b := by rw [partS_lex, partS_lex, lexZ_swap]
theorem partS_val (a b : List UInt8) : partS a b = -1 ∨ partS a b = 0 ∨ partS a b = 1 := by rw [partS_lex]; exact lexZ_val _ _
theorem partS_ord (a b c : List UInt8) : ord (partS a b) (partS b c) (partS a c) := by rw [partS_lex, partS_lex, partS_lex]; exact lexZ_ord _ _ _
theorem orS_swap (x y z : Int) : orS (-x) (-y) (-z) = - orS x y z := by unfold orS; grind
theorem orS_ord {x y z x' y' z' x2 y2 z2 : Int} (h : ord x y z) (h' : ord x' y' z') (h2 : ord x2 y2 z2) : ord (orS x x' x2) (orS y y' y2) (orS z z' z2) := by
  unfold ord orS at *
  grind
theorem cmpV_some {a b e u r f v s : List UInt8} (ha : verS a = some (e, u, r)) (hb : verS b = some (f, v, s)) : cmpV a b = (orS (partS e f) (partS u v) (partS r s), true) := by simp [cmpV, ha, hb]
theorem cmpV_self (a : List UInt8) : (cmpV a a).1 = 0 := by
  rcases h : verS a with _ | ⟨e, u, r⟩
  · simp [cmpV, h]
  · simp [cmpV, h, partS_self, orS]
theorem cmpV_swap (a b : List UInt8) : (cmpV b a).1 = - (cmpV a b).1 := by
  rcases ha : verS a with _ | ⟨e, u, r⟩ <;> rcases hb : verS b with _ | ⟨f, v, s⟩
  · simp [cmpV, ha, hb]
  · simp [cmpV, ha, hb]
  · simp [cmpV, ha, hb]
  · rw [cmpV_some ha hb, cmpV_some hb ha, partS_swap e f, partS_swap u v, partS_swap r s]
    exact orS_swap _ _ _
theorem cmpV_ord {a b c : List UInt8} (ha : isV a = true) (hb : isV b = true) (hc : isV c = true) : ord (cmpV a b).1 (cmpV b c).1 (cmpV a c).1 := by
  unfold isV at ha hb hc
  rcases ha' : verS a with _ | ⟨e, u, r⟩
  · rw [ha'] at ha; cases ha
  · rcases hb' : verS b with _ | ⟨f, v, s⟩
    · rw [hb'] at hb; cases hb
    · rcases hc' : verS c with _ | ⟨g, w, t⟩
      · rw [hc'] at hc; cases hc
      · rw [cmpV_some ha' hb', cmpV_some hb' hc', cmpV_some ha' hc']
        exact orS_ord (partS_ord _ _ _) (partS_ord _ _ _) (partS_ord _ _ _)
end Go.Proofs.YtaicidbopgnmfaaGreatDoor
