/- The contract of the reference's Reached. -/
import Derived.Test.YtflmocamfedbdaaGreatDoorUrA
import Derived.Test.YtflmocamfedbdaaGreatDoorStC
import Derived.Laws.MakeOwn
namespace Go.Proofs.YtflmocamfedbdaaGreatDoor
set_option linter.unusedSimpArgs false
set_option linter.unusedVariables false
open Go.RowKit
attribute [local go_sem ↓] Go.wp_at_zero Go.wp_at_succ
attribute [local irreducible] wpQuiet
abbrev Nms := List (List UInt8)
def atmQ (a : Atm) (W : Nms) (q : Pkg) : Nms := if satP a q then W ++ [q.name] else W
def atmF (all : List Pkg) (W : Nms) (a : Atm) : Nms := all.foldl (atmQ a) W
def clsF (all : List Pkg) (W : Nms) (c : List Atm) : Nms := c.foldl (atmF all) W
def lstF (all : List Pkg) (W : Nms) (L : List (List Atm)) : Nms := L.foldl (clsF all) W
def pkgF (all : List Pkg) (W : Nms) (x : Pkg × Bool) : Nms := if x.2 then [x.1.pre, x.1.dep, x.1.rcm].foldl (lstF all) W else W
def stpI (all : List Pkg) (I : List Bool) (W : Nms) : List Bool := (all.zip I).map fun x => x.2 || W.any fun y => decide (y = x.1.name)
def rndF (all : List Pkg) (s : List Bool × Nms) : List Bool × Nms :=
  let I := stpI all s.1 s.2
  let W := (all.zip I).foldl (pkgF all) s.2
  (I, if 2000 < W.length then uniS W else W)
def itR (all : List Pkg) (s : List Bool × Nms) : Nat → List Bool × Nms
  | 0 => s
  | k + 1 => rndF all (itR all s k)
def outR (all : List Pkg) (I : List Bool) : List Pkg := ((all.zip I).filter (·.2)).map (·.1)
def rsR (all : List Pkg) (seeds : Nms) : List Pkg := outR all (itR all (List.replicate all.length false, seeds) (all.length + 1)).1
theorem stpI_len {all : List Pkg} {I : List Bool} {W : Nms} (h : I.length = all.length) : (stpI all I W).length = all.length := by
  unfold stpI; rw [List.length_map, List.length_zip]; omega
theorem zip_at {all : List Pkg} {I : List Bool} {k : Nat} {p : Pkg} {b : Bool} (hp : all[k]? = some p) (hb : I[k]? = some b) : (all.zip I)[k]? = some (p, b) := by
  rw [List.getElem?_zip_eq_some]; exact ⟨hp, hb⟩
theorem stpI_at {all : List Pkg} {I : List Bool} {W : Nms} {k : Nat} {p : Pkg} {b : Bool} (hp : all[k]? = some p) (hb : I[k]? = some b) : (stpI all I W)[k]? = some (b || W.any fun y => decide (y = p.name)) := by
  unfold stpI
  rw [List.getElem?_map, zip_at hp hb]
  rfl
/-- the first k of one list, the rest of another -/
def mixL {α : Type} (X Y : List α) (k : Nat) : List α := X.take k ++ Y.drop k
theorem mix_at {α : Type} {X Y : List α} {k : Nat} (hk : k ≤ X.length) : (mixL X Y k)[k]? = Y[k]? := by
  unfold mixL
  rw [List.getElem?_append_right (by rw [List.length_take]; omega), List.length_take, List.getElem?_drop]
  congr 1
  omega
theorem mix_set {α : Type} {X Y : List α} {k : Nat} {x : α} (hl : X.length = Y.length) (hx : X[k]? = some x) : (mixL X Y k).set k x = mixL X Y (k + 1) := by
  have hk := (List.getElem?_eq_some_iff.1 hx).1
  unfold mixL
  rw [List.set_append_right _ _ (by rw [List.length_take]; omega), List.length_take, take_step hx, List.append_assoc, show k - min k X.length = 0 by omega, List.drop_eq_getElem_cons (by omega : k < Y.length)]
  rfl
theorem mix_end {α : Type} {X Y : List α} (hl : X.length = Y.length) : mixL X Y X.length = X := by
  unfold mixL
  rw [List.take_length, List.drop_of_length_le (by omega), List.append_nil]
/-- a row of truths -/
def bls (I : List Bool) : Array Value := (I.map Value.bool).toArray
theorem bls_set (I : List Bool) (k : Nat) (b : Bool) : (bls I).setIfInBounds k (.bool b) = bls (I.set k b) := by
  unfold bls
  rw [List.setIfInBounds_toArray, List.map_set]
theorem bls_at {I : List Bool} {k : Nat} {b : Bool} (h : I[k]? = some b) : (bls I)[k]? = some (.bool b) := by
  unfold bls
  simp [h]
theorem bls_made (n : Nat) : madeCells #[.bool false] n = bls (List.replicate n false) := by
  unfold madeCells bls
  apply Array.ext
  · simp
  · intro i h1 h2
    simp [Nat.mod_one]
/-- the state of Reached -/
def QS (w wr : World) (gi : Nat) (I : List Bool) (v : Value) (W : Nms) : Prop :=
  Below w.heap.size w wr ∧ w.heap.size ≤ gi ∧ Blk wr gi 4 (bls I) ∧ Own wr w.heap.size 9 1 RStr v W
section
variable {w wr wr' : World} {gi : Nat} {I : List Bool} {v : Value} {W : Nms}
theorem QS.next (h : QS w wr gi I v W) (hb : Below wr.heap.size wr wr') : QS w wr' gi I v W := ⟨below_next h.1 hb, h.2.1, h.2.2.1.next hb, h.2.2.2.next hb⟩
theorem QS.alloc (h : QS w wr gi I v W) (o : Obj) : QS w (wr.alloc o) gi I v W := h.next (below_alloc (Below.refl _ _) o)
theorem QS.app (h : QS w wr gi I v W) {v' : Value} {W' : Nms} (ho : Own wr' w.heap.size 9 1 RStr v' W') (hg : wr.grownBy wr' v.ownBlock) : QS w wr' gi I v' W' :=
  ⟨h.2.2.2.below h.1 h.1.size hg, h.2.1, h.2.2.2.blk h.2.2.1 (by decide) hg, ho⟩
theorem QS.set (h : QS w wr gi I v W) (k : Nat) (b : Bool) : QS w (wr.setCell ⟨gi, k, none⟩ (.bool b)) gi (I.set k b) v W :=
  ⟨h.1.setCell (p := ⟨gi, k, none⟩) h.2.1 _, h.2.1, by rw [← bls_set]; exact h.2.2.1.set_ k _, h.2.2.2.setCell (p := ⟨gi, k, none⟩) (fun cur hc => by
    have h := h.2.2.1
    unfold Blk at h
    dsimp only at hc
    rw [h] at hc
    injection hc with hc
    injection hc with _ ht
    revert ht
    decide) _⟩
theorem QS.at_ (h : QS w wr gi I v W) {k : Nat} {b : Bool} (hb : I[k]? = some b) : wr.cell? ⟨gi, k, none⟩ = some (.bool b) := (h.2.2.1.cell k).trans (bls_at hb)
theorem QS.base (h : QS w wr gi I v W) : w.heap.size ≤ wr.heap.size := h.1.size
end
def l15 (p : Pkg) : Prop := (p.pre.length ≤ 15 ∧ ∀ x ∈ p.pre, x.length ≤ 15) ∧ (p.dep.length ≤ 15 ∧ ∀ x ∈ p.dep, x.length ≤ 15) ∧ (p.rcm.length ≤ 15 ∧ ∀ x ∈ p.rcm, x.length ≤ 15)
theorem map_name_at {s : List Ent} {sn : Nms} {k : Nat} {y : Ent} (h : sn = entN s) (hy : s[k]? = some y) : sn[k]? = some y.pkg.name := by
  rw [h, entN, List.getElem?_map, hy]; rfl
theorem cut9 {n m : Nat} (h : n ≤ 15) (hm : m ≤ n) : m * 24 ≤ 360 := by omega
end Go.Proofs.YtflmocamfedbdaaGreatDoor
