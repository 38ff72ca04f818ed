/- The insertion sort of packages or entries: what it computes (plain), and one exchange of two elements in a row of the call's own. A row returned, only its block turned. The stable sort of slices: its functions' contracts, at packages. The stable sort of slices: the functions on stretches, at packages. -/
import Derived.Test.YtaicidbopgnmfaaGreatDoorMk
import Derived.Deep.RegionHeld3
import Derived.Test.YtaicidbopgnmfaaGreatDoorSp
import Derived.BigRegion
import Derived.Test.YtaicidbopgnmfaaGreatDoorWa
import Derived.BigQuiet
namespace Go.Proofs.YtaicidbopgnmfaaGreatDoor
set_option linter.unusedSimpArgs false
set_option linter.unusedVariables false
open Go.RowKit

/-- from place j down: exchanged with what stands ahead as long as it is less -/
def insIn {α : Type} (lt : α → α → Bool) : Nat → List α → List α
  | 0, l => l
  | j + 1, l => match l[j + 1]?, l[j]? with
    | some x, some y => if lt x y then insIn lt j ((l.set (j + 1) y).set j x) else l
    | _, _ => l
/-- the places i, i + 1, .. (n of them), one behind the other -/
def insOut {α : Type} (lt : α → α → Bool) : Nat → Nat → List α → List α
  | 0, _, l => l
  | n + 1, i, l => insOut lt n (i + 1) (insIn lt i l)
theorem insIn_len {α : Type} (lt : α → α → Bool) : ∀ (j : Nat) (l : List α), (insIn lt j l).length = l.length
  | 0, l => rfl
  | j + 1, l => by
    unfold insIn
    split
    · split
      · rw [insIn_len, List.length_set, List.length_set]
      · rfl
    · rfl
theorem insIn_go {α : Type} {lt : α → α → Bool} {j : Nat} {l : List α} {x y : α} (hx : l[j + 1]? = some x) (hy : l[j]? = some y) (h : lt x y = true) : insIn lt (j + 1) l = insIn lt j ((l.set (j + 1) y).set j x) := by
  rw [insIn, hx, hy]
  simp [h]
theorem insIn_stop {α : Type} {lt : α → α → Bool} {j : Nat} {l : List α} {x y : α} (hx : l[j + 1]? = some x) (hy : l[j]? = some y) (h : lt x y = false) : insIn lt (j + 1) l = l := by
  rw [insIn, hx, hy]
  simp [h]
section
variable {α : Type} {w : World} {B : Nat} {e : TypeId} {k : Nat} {R : List Value → α → Prop} {g n cap : Nat} {l : List α}
/-- a row, cell by cell: each element is its list of cells -/
theorem Own.raw {v : Value} (h : Own w B e k R v l) : ∃ css : List (List Value), css.length = l.length ∧ (∀ (i : Nat) (cs : List Value) (x : α), css[i]? = some cs → l[i]? = some x → R cs x ∧ cs.length = k) ∧ Own w B e k (fun cs x => cs = x) v css := by
  obtain ⟨css, hl, hR, ho⟩ := h
  refine ⟨css, hl, hR, css, rfl, fun i cs x h1 h2 => ?_, by rw [hl]; exact ho⟩
  rw [h1] at h2
  injection h2 with h2
  exact ⟨h2, own_lens hl hR cs (List.mem_of_getElem? h1)⟩
theorem Own.unraw {v : Value} {css : List (List Value)} (h : Own w B e k (fun cs x => cs = x) v css) (hl : css.length = l.length) (hR : ∀ (i : Nat) (cs : List Value) (x : α), css[i]? = some cs → l[i]? = some x → R cs x ∧ cs.length = k) : Own w B e k R v l := by
  obtain ⟨css', hl', hR', ho⟩ := h
  have he : css' = css := by
    apply List.ext_getElem?
    intro i
    rcases Nat.lt_or_ge i css.length with hi | hi
    · rw [List.getElem?_eq_getElem hi, List.getElem?_eq_getElem (by omega : i < css'.length)]
      exact congrArg some (hR' i _ _ (List.getElem?_eq_getElem (by omega)) (List.getElem?_eq_getElem hi)).1
    · rw [List.getElem?_eq_none hi, List.getElem?_eq_none (by omega)]
  subst he
  exact ⟨css', hl, hR, by rw [← hl]; exact ho⟩
/-- one cell of a raw row -/
theorem Own.rset {css : List (List Value)} (h : Own w B e k (fun cs x => cs = x) (.slice (some ⟨g, 0, none⟩) n cap) css) {i j : Nat} {cs : List Value} (hx : css[i]? = some cs) (hj : j < k) (u : Value) :
    Own (w.setCell ⟨g, i * k + j, none⟩ u) B e k (fun cs x => cs = x) (.slice (some ⟨g, 0, none⟩) n cap) (css.set i (cs.set j u)) :=
  h.set hx hj fun cs' hcs => by rw [hcs]
end
/-- nine cells of one element stored, one behind the other -/
theorem set9 {w : World} {B : Nat} {e : TypeId} {g n cap : Nat} {css : List (List Value)} (h : Own w B e 9 (fun cs x => cs = x) (.slice (some ⟨g, 0, none⟩) n cap) css) {i : Nat} {a0 a1 a2 a3 a4 a5 a6 a7 a8 : Value} (hx : css[i]? = some [a0, a1, a2, a3, a4, a5, a6, a7, a8]) (b0 b1 b2 b3 b4 b5 b6 b7 b8 : Value) :
    Own (((((((((w.setCell ⟨g, i * 9, none⟩ b0).setCell ⟨g, i * 9 + 1, none⟩ b1).setCell ⟨g, i * 9 + 2, none⟩ b2).setCell ⟨g, i * 9 + 3, none⟩ b3).setCell ⟨g, i * 9 + 4, none⟩ b4).setCell ⟨g, i * 9 + 5, none⟩ b5).setCell ⟨g, i * 9 + 6, none⟩ b6).setCell ⟨g, i * 9 + 7, none⟩ b7).setCell ⟨g, i * 9 + 8, none⟩ b8)
      B e 9 (fun cs x => cs = x) (.slice (some ⟨g, 0, none⟩) n cap) (css.set i [b0, b1, b2, b3, b4, b5, b6, b7, b8]) := by
  have hi : i < css.length := (List.getElem?_eq_some_iff.1 hx).1
  have h0 := h.rset (j := 0) hx (by omega) b0
  have h1 := h0.rset (j := 1) (List.getElem?_set_self hi) (by omega) b1
  rw [List.set_set] at h1
  have h2 := h1.rset (j := 2) (List.getElem?_set_self hi) (by omega) b2
  rw [List.set_set] at h2
  have h3 := h2.rset (j := 3) (List.getElem?_set_self hi) (by omega) b3
  rw [List.set_set] at h3
  have h4 := h3.rset (j := 4) (List.getElem?_set_self hi) (by omega) b4
  rw [List.set_set] at h4
  have h5 := h4.rset (j := 5) (List.getElem?_set_self hi) (by omega) b5
  rw [List.set_set] at h5
  have h6 := h5.rset (j := 6) (List.getElem?_set_self hi) (by omega) b6
  rw [List.set_set] at h6
  have h7 := h6.rset (j := 7) (List.getElem?_set_self hi) (by omega) b7
  rw [List.set_set] at h7
  have h8 := h7.rset (j := 8) (List.getElem?_set_self hi) (by omega) b8
  rw [List.set_set] at h8
  exact h8
end Go.Proofs.YtaicidbopgnmfaaGreatDoor
namespace Go.Proofs.YtaicidbopgnmfaaGreatDoor
set_option linter.unusedSimpArgs false
set_option linter.unusedVariables false
open Go.RowKit
/-- a row returned: only its block turned -/
def RetRow {α : Type} (w : World) (B : Nat) (e : TypeId) (k : Nat) (R : List Value → α → Prop) (g n cap : Nat) (l : List α) (x : Ending) (w' : World) : Prop :=
  x = .returned (.tuple #[]) ∧ Own w' B e k R (.slice (some ⟨g, 0, none⟩) n cap) l ∧ w.grownBy w' (some g)
theorem Own.nextG {w w1 w0 : World} {g : Nat} (hg : w0.grownBy w (some g)) (hb : Below w.heap.size w w1) : w0.grownBy w1 (some g) := only_next hg hb
/-- only block g turned, twice -/
theorem grown_trans {a b c : World} {g : Nat} (h1 : a.grownBy b (some g)) (h2 : b.grownBy c (some g)) : a.grownBy c (some g) :=
  ⟨h2.os.trans h1.os, h2.tape.trans h1.tape, h2.output.trans h1.output, Nat.le_trans h1.size h2.size, fun i hi hne => (h2.block i (Nat.lt_of_lt_of_le hi h1.size) hne).trans (h1.block i hi hne)⟩
theorem grown_refl (w : World) (r : Option Nat) : w.grownBy w r := ⟨rfl, rfl, rfl, Nat.le_refl _, fun _ _ _ => rfl⟩
end Go.Proofs.YtaicidbopgnmfaaGreatDoor
namespace Go.Proofs.YtaicidbopgnmfaaGreatDoor
set_option linter.unusedSimpArgs false
set_option linter.unusedVariables false
open Go.RowKit

/-- nine cells of one element stored, one behind the other -/
theorem set11 {w : World} {B : Nat} {e : TypeId} {g n cap : Nat} {css : List (List Value)} (h : Own w B e 11 (fun cs x => cs = x) (.slice (some ⟨g, 0, none⟩) n cap) css) {i : Nat} {a0 a1 a2 a3 a4 a5 a6 a7 a8 a9 a10 : Value} (hx : css[i]? = some [a0, a1, a2, a3, a4, a5, a6, a7, a8, a9, a10]) (b0 b1 b2 b3 b4 b5 b6 b7 b8 b9 b10 : Value) :
    Own (((((((((((w.setCell ⟨g, i * 11, none⟩ b0).setCell ⟨g, i * 11 + 1, none⟩ b1).setCell ⟨g, i * 11 + 2, none⟩ b2).setCell ⟨g, i * 11 + 3, none⟩ b3).setCell ⟨g, i * 11 + 4, none⟩ b4).setCell ⟨g, i * 11 + 5, none⟩ b5).setCell ⟨g, i * 11 + 6, none⟩ b6).setCell ⟨g, i * 11 + 7, none⟩ b7).setCell ⟨g, i * 11 + 8, none⟩ b8).setCell ⟨g, i * 11 + 9, none⟩ b9).setCell ⟨g, i * 11 + 10, none⟩ b10)
      B e 11 (fun cs x => cs = x) (.slice (some ⟨g, 0, none⟩) n cap) (css.set i [b0, b1, b2, b3, b4, b5, b6, b7, b8, b9, b10]) := by
  have hi : i < css.length := (List.getElem?_eq_some_iff.1 hx).1
  have h0 := h.rset (j := 0) hx (by omega) b0
  have h1 := h0.rset (j := 1) (List.getElem?_set_self hi) (by omega) b1
  rw [List.set_set] at h1
  have h2 := h1.rset (j := 2) (List.getElem?_set_self hi) (by omega) b2
  rw [List.set_set] at h2
  have h3 := h2.rset (j := 3) (List.getElem?_set_self hi) (by omega) b3
  rw [List.set_set] at h3
  have h4 := h3.rset (j := 4) (List.getElem?_set_self hi) (by omega) b4
  rw [List.set_set] at h4
  have h5 := h4.rset (j := 5) (List.getElem?_set_self hi) (by omega) b5
  rw [List.set_set] at h5
  have h6 := h5.rset (j := 6) (List.getElem?_set_self hi) (by omega) b6
  rw [List.set_set] at h6
  have h7 := h6.rset (j := 7) (List.getElem?_set_self hi) (by omega) b7
  rw [List.set_set] at h7
  have h8 := h7.rset (j := 8) (List.getElem?_set_self hi) (by omega) b8
  rw [List.set_set] at h8
  have h9 := h8.rset (j := 9) (List.getElem?_set_self hi) (by omega) b9
  rw [List.set_set] at h9
  have h10 := h9.rset (j := 10) (List.getElem?_set_self hi) (by omega) b10
  rw [List.set_set] at h10
  exact h10
theorem Own.raw_swap11 {α : Type} {w : World} {B : Nat} {e : TypeId} {R : List Value → α → Prop} {g n cap : Nat} {l : List α} (h : Own w B e 11 R (.slice (some ⟨g, 0, none⟩) n cap) l) {i j : Nat} {x y : α} (hx : l[i]? = some x) (hy : l[j]? = some y)
    {a0 a1 a2 a3 a4 a5 a6 a7 a8 a9 a10 b0 b1 b2 b3 b4 b5 b6 b7 b8 b9 b10 : Value} (ha : R [a0, a1, a2, a3, a4, a5, a6, a7, a8, a9, a10] x) (hb : R [b0, b1, b2, b3, b4, b5, b6, b7, b8, b9, b10] y) :
    Own ((((((((((((((((((((((w.setCell ⟨g, i * 11, none⟩ b0).setCell ⟨g, i * 11 + 1, none⟩ b1).setCell ⟨g, i * 11 + 2, none⟩ b2).setCell ⟨g, i * 11 + 3, none⟩ b3).setCell ⟨g, i * 11 + 4, none⟩ b4).setCell ⟨g, i * 11 + 5, none⟩ b5).setCell ⟨g, i * 11 + 6, none⟩ b6).setCell ⟨g, i * 11 + 7, none⟩ b7).setCell ⟨g, i * 11 + 8, none⟩ b8).setCell ⟨g, i * 11 + 9, none⟩ b9).setCell ⟨g, i * 11 + 10, none⟩ b10).setCell ⟨g, j * 11, none⟩ a0).setCell ⟨g, j * 11 + 1, none⟩ a1).setCell ⟨g, j * 11 + 2, none⟩ a2).setCell ⟨g, j * 11 + 3, none⟩ a3).setCell ⟨g, j * 11 + 4, none⟩ a4).setCell ⟨g, j * 11 + 5, none⟩ a5).setCell ⟨g, j * 11 + 6, none⟩ a6).setCell ⟨g, j * 11 + 7, none⟩ a7).setCell ⟨g, j * 11 + 8, none⟩ a8).setCell ⟨g, j * 11 + 9, none⟩ a9).setCell ⟨g, j * 11 + 10, none⟩ a10)
      B e 11 R (.slice (some ⟨g, 0, none⟩) n cap) (swp l i j) := by
  obtain ⟨css, hl, hR, ho⟩ := h.raw
  have hil : i < css.length := by rw [hl]; exact (List.getElem?_eq_some_iff.1 hx).1
  have hjl : j < css.length := by rw [hl]; exact (List.getElem?_eq_some_iff.1 hy).1
  have nine : ∀ {cs : List Value}, cs.length = 11 → ∃ c0 c1 c2 c3 c4 c5 c6 c7 c8 c9 c10, cs = [c0, c1, c2, c3, c4, c5, c6, c7, c8, c9, c10] := fun {cs} h => by
    match cs, h with
    | [c0, c1, c2, c3, c4, c5, c6, c7, c8, c9, c10], _ => exact ⟨c0, c1, c2, c3, c4, c5, c6, c7, c8, c9, c10, rfl⟩
  obtain ⟨_, h2⟩ := hR i _ x (List.getElem?_eq_getElem hil) hx
  obtain ⟨c0, c1, c2, c3, c4, c5, c6, c7, c8, c9, c10, hc⟩ := nine h2
  have s1 := set11 ho (i := i) (by rw [List.getElem?_eq_getElem hil, hc]) b0 b1 b2 b3 b4 b5 b6 b7 b8 b9 b10
  have hR1 : ∀ (m : Nat) (cs : List Value) (z : α), (css.set i [b0, b1, b2, b3, b4, b5, b6, b7, b8, b9, b10])[m]? = some cs → (l.set i y)[m]? = some z → R cs z ∧ cs.length = 11 := fun m cs z e1 e2 => by
    rw [List.getElem?_set] at e1 e2
    by_cases hm : i = m
    · rw [if_pos hm, if_pos hil] at e1
      rw [if_pos hm, if_pos (by omega)] at e2
      injection e1 with e1
      injection e2 with e2
      subst e1 e2
      exact ⟨hb, rfl⟩
    · rw [if_neg hm] at e1 e2
      exact hR m cs z e1 e2
  have hjl1 : j < (css.set i [b0, b1, b2, b3, b4, b5, b6, b7, b8, b9, b10]).length := by simpa using hjl
  obtain ⟨_, h3⟩ := hR1 j _ ((l.set i y)[j]'(by simp; omega)) (List.getElem?_eq_getElem hjl1) (List.getElem?_eq_getElem (by simp; omega))
  obtain ⟨d0, d1, d2, d3, d4, d5, d6, d7, d8, d9, d10, hd⟩ := nine h3
  have s2 := set11 s1 (i := j) (by rw [List.getElem?_eq_getElem hjl1, hd]) a0 a1 a2 a3 a4 a5 a6 a7 a8 a9 a10
  rw [swp_at hx hy]
  refine Own.unraw s2 (by simp [hl]) fun m cs z e1 e2 => ?_
  rw [List.getElem?_set] at e1 e2
  by_cases hm : j = m
  · rw [if_pos hm, if_pos hjl1] at e1
    rw [if_pos hm, if_pos (by simp; omega)] at e2
    injection e1 with e1
    injection e2 with e2
    subst e1 e2
    exact ⟨ha, rfl⟩
  · rw [if_neg hm] at e1 e2
    exact hR1 m cs z e1 e2
/-- an element that is a package: its cells by where its slices lie; of these Z -/
def RKE (Z : Raw → Ent → Prop) (cs : List Value) (p : Ent) : Prop := ∃ r, cs = encE r p ∧ Z r p
theorem swapKE {w w0 : World} {B : Nat} {e : TypeId} {Z : Raw → Ent → Prop} {g n cap : Nat} {l : List Ent} (h : Own w B e 11 (RKE Z) (.slice (some ⟨g, 0, none⟩) n cap) l) (i j : Nat) {x y : Ent} {r s : Raw} (hx : l[i]? = some x) (hy : l[j]? = some y) (hr : Z r x) (hs : Z s y) (hg : w0.grownBy w (some g)) :
    Own (((((((((((((((((((((((w).setCell ⟨g, i * 11, none⟩ (.string (bs y.pkg.name))).setCell ⟨g, i * 11 + 1, none⟩ (.string (bs y.pkg.ver))).setCell ⟨g, i * 11 + 2, none⟩ (.slice s.a1 y.pkg.pre.length s.c1)).setCell ⟨g, i * 11 + 3, none⟩ (.slice s.a2 y.pkg.dep.length s.c2)).setCell ⟨g, i * 11 + 4, none⟩ (.slice s.a3 y.pkg.rcm.length s.c3)).setCell ⟨g, i * 11 + 5, none⟩ (.slice s.a4 y.pkg.con.length s.c4)).setCell ⟨g, i * 11 + 6, none⟩ (.slice s.a5 y.pkg.brk.length s.c5)).setCell ⟨g, i * 11 + 7, none⟩ (.slice s.a6 y.pkg.prv.length s.c6)).setCell ⟨g, i * 11 + 8, none⟩ (.bool y.pkg.ess)).setCell ⟨g, i * 11 + 9, none⟩ (.bool y.conf)).setCell ⟨g, i * 11 + 10, none⟩ (.bool y.hold)).setCell ⟨g, j * 11, none⟩ (.string (bs x.pkg.name))).setCell ⟨g, j * 11 + 1, none⟩ (.string (bs x.pkg.ver))).setCell ⟨g, j * 11 + 2, none⟩ (.slice r.a1 x.pkg.pre.length r.c1)).setCell ⟨g, j * 11 + 3, none⟩ (.slice r.a2 x.pkg.dep.length r.c2)).setCell ⟨g, j * 11 + 4, none⟩ (.slice r.a3 x.pkg.rcm.length r.c3)).setCell ⟨g, j * 11 + 5, none⟩ (.slice r.a4 x.pkg.con.length r.c4)).setCell ⟨g, j * 11 + 6, none⟩ (.slice r.a5 x.pkg.brk.length r.c5)).setCell ⟨g, j * 11 + 7, none⟩ (.slice r.a6 x.pkg.prv.length r.c6)).setCell ⟨g, j * 11 + 8, none⟩ (.bool x.pkg.ess)).setCell ⟨g, j * 11 + 9, none⟩ (.bool x.conf)).setCell ⟨g, j * 11 + 10, none⟩ (.bool x.hold)).drew B e 11 (RKE Z) (.slice (some ⟨g, 0, none⟩) n cap) (swp l i j) ∧ w0.grownBy (((((((((((((((((((((((w).setCell ⟨g, i * 11, none⟩ (.string (bs y.pkg.name))).setCell ⟨g, i * 11 + 1, none⟩ (.string (bs y.pkg.ver))).setCell ⟨g, i * 11 + 2, none⟩ (.slice s.a1 y.pkg.pre.length s.c1)).setCell ⟨g, i * 11 + 3, none⟩ (.slice s.a2 y.pkg.dep.length s.c2)).setCell ⟨g, i * 11 + 4, none⟩ (.slice s.a3 y.pkg.rcm.length s.c3)).setCell ⟨g, i * 11 + 5, none⟩ (.slice s.a4 y.pkg.con.length s.c4)).setCell ⟨g, i * 11 + 6, none⟩ (.slice s.a5 y.pkg.brk.length s.c5)).setCell ⟨g, i * 11 + 7, none⟩ (.slice s.a6 y.pkg.prv.length s.c6)).setCell ⟨g, i * 11 + 8, none⟩ (.bool y.pkg.ess)).setCell ⟨g, i * 11 + 9, none⟩ (.bool y.conf)).setCell ⟨g, i * 11 + 10, none⟩ (.bool y.hold)).setCell ⟨g, j * 11, none⟩ (.string (bs x.pkg.name))).setCell ⟨g, j * 11 + 1, none⟩ (.string (bs x.pkg.ver))).setCell ⟨g, j * 11 + 2, none⟩ (.slice r.a1 x.pkg.pre.length r.c1)).setCell ⟨g, j * 11 + 3, none⟩ (.slice r.a2 x.pkg.dep.length r.c2)).setCell ⟨g, j * 11 + 4, none⟩ (.slice r.a3 x.pkg.rcm.length r.c3)).setCell ⟨g, j * 11 + 5, none⟩ (.slice r.a4 x.pkg.con.length r.c4)).setCell ⟨g, j * 11 + 6, none⟩ (.slice r.a5 x.pkg.brk.length r.c5)).setCell ⟨g, j * 11 + 7, none⟩ (.slice r.a6 x.pkg.prv.length r.c6)).setCell ⟨g, j * 11 + 8, none⟩ (.bool x.pkg.ess)).setCell ⟨g, j * 11 + 9, none⟩ (.bool x.conf)).setCell ⟨g, j * 11 + 10, none⟩ (.bool x.hold)).drew (some g) :=
  ⟨(h.raw_swap11 hx hy ⟨r, rfl, hr⟩ ⟨s, rfl, hs⟩).drew, only_drewN (only_setCell (only_setCell (only_setCell (only_setCell (only_setCell (only_setCell (only_setCell (only_setCell (only_setCell (only_setCell (only_setCell (only_setCell (only_setCell (only_setCell (only_setCell (only_setCell (only_setCell (only_setCell (only_setCell (only_setCell (only_setCell (only_setCell hg (.inl rfl) _) (.inl rfl) _) (.inl rfl) _) (.inl rfl) _) (.inl rfl) _) (.inl rfl) _) (.inl rfl) _) (.inl rfl) _) (.inl rfl) _) (.inl rfl) _) (.inl rfl) _) (.inl rfl) _) (.inl rfl) _) (.inl rfl) _) (.inl rfl) _) (.inl rfl) _) (.inl rfl) _) (.inl rfl) _) (.inl rfl) _) (.inl rfl) _) (.inl rfl) _) (.inl rfl) _) 1⟩
theorem Own.atKE {w : World} {B : Nat} {e : TypeId} {Z : Raw → Ent → Prop} {g n cap : Nat} {l : List Ent} (h : Own w B e 11 (RKE Z) (.slice (some ⟨g, 0, none⟩) n cap) l) {i : Nat} (hi : i < l.length) (hz : l.length ≤ 1000) : ∃ x r, l[i]? = some x ∧ Z r x ∧
    w.cell? ⟨g, i * 11, none⟩ = some (.string (bs x.pkg.name)) ∧ w.cell? ⟨g, i * 11 + 1, none⟩ = some (.string (bs x.pkg.ver)) ∧ w.cell? ⟨g, i * 11 + 2, none⟩ = some (.slice r.a1 x.pkg.pre.length r.c1) ∧
    w.cell? ⟨g, i * 11 + 3, none⟩ = some (.slice r.a2 x.pkg.dep.length r.c2) ∧ w.cell? ⟨g, i * 11 + 4, none⟩ = some (.slice r.a3 x.pkg.rcm.length r.c3) ∧ w.cell? ⟨g, i * 11 + 5, none⟩ = some (.slice r.a4 x.pkg.con.length r.c4) ∧
    w.cell? ⟨g, i * 11 + 6, none⟩ = some (.slice r.a5 x.pkg.brk.length r.c5) ∧ w.cell? ⟨g, i * 11 + 7, none⟩ = some (.slice r.a6 x.pkg.prv.length r.c6) ∧ w.cell? ⟨g, i * 11 + 8, none⟩ = some (.bool x.pkg.ess) ∧ w.cell? ⟨g, i * 11 + 9, none⟩ = some (.bool x.conf) ∧ w.cell? ⟨g, i * 11 + 10, none⟩ = some (.bool x.hold) := by
  obtain ⟨cs, ⟨r, rfl, hz⟩, _, hr⟩ := h.elem (List.getElem?_eq_getElem hi) hz
  exact ⟨_, r, List.getElem?_eq_getElem hi, hz, range11 hr⟩
set_option maxRecDepth 100000 in
set_option maxHeartbeats 4000000 in
theorem swapRangeE_any (B : Nat) (Z : Raw → Ent → Prop) (fv : Value) (g cap : Nat) (l : List Ent) (a b n : Nat) (w : World) (ho : Own w B 45 11 (RKE Z) (.slice (some ⟨g, 0, none⟩) l.length cap) l)
    (h1 : a + n ≤ b) (h2 : b + n ≤ l.length) (hs : l.length ≤ 1000) :
    Calls Tryz.prog 208 #[.slice (some ⟨g, 0, none⟩) l.length cap, .int .i64 a, .int .i64 b, .int .i64 n, fv] w (RetRow w B 45 11 (RKE Z) g l.length cap (swpN l a b n)) := by
  have HO := Lib.hid ho
  clear ho
  go_enter Tryz.func208, Tryz.ntmps208
  go_wp2
  go_loopw [10] (fun i wr => ∃ k : Nat, k ≤ n ∧ i = .int .i64 k ∧ Own wr B 45 11 (RKE Z) (.slice (some ⟨g, 0, none⟩) l.length cap) (swpN l a b k) ∧ w.grownBy wr (some g)) (fun i _ => n - (intOf i).toNat)
  case atStart => exact ⟨0, Nat.zero_le _, rfl, HO.out, ⟨rfl, rfl, rfl, Nat.le_refl _, fun _ _ _ => rfl⟩⟩
  case round =>
    clear HO
    obtain ⟨k, hk, rfl, ho, hg⟩ := hrel
    obtain ⟨wo, rfl⟩ : ∃ wo : World, wo = wr := ⟨_, rfl⟩
    have hlen := Lib.hid (swpN_len l a b k)
    by_cases hlt : k < n
    · obtain ⟨x, r, hx, hr, e0, e1, e2, e3, e4, e5, e6, e7, e8, e9, e10⟩ := ho.atKE (i := a + k) (by rw [hlen.out]; omega) (by rw [hlen.out]; exact hs)
      obtain ⟨y, s, hy, hq, f0, f1, f2, f3, f4, f5, f6, f7, f8, f9, f10⟩ := ho.atKE (i := b + k) (by rw [hlen.out]; omega) (by rw [hlen.out]; exact hs)
      have hfz := ho.frz
      have HO := Lib.hid ho
      have HG := Lib.hid hg
      have HX := Lib.hid hx
      have HY := Lib.hid hy
      have HR := Lib.hid hr
      have HQ := Lib.hid hq
      clear ho hg hx hy hr hq
      go_wp2_with fail
      go_region
      go_wp2
      go_roundw
      case rel =>
        have hsw := swapKE HO.out (a + k) (b + k) HX.out HY.out HR.out HQ.out HG.out
        exact ⟨k + 1, by omega, by simp, hsw.1, hsw.2⟩
      case measure => (try simp only [intOf]); omega
    · go_wp2
      go_end0
      obtain rfl : k = n := by omega
      exact ⟨rfl, ho, hg⟩
end Go.Proofs.YtaicidbopgnmfaaGreatDoor
namespace Go.Proofs.YtaicidbopgnmfaaGreatDoor
set_option linter.unusedSimpArgs false
set_option linter.unusedVariables false
open Go.RowKit

/-- a comparison of two packages -/
def CmpOkE (G : FuncId) (Z : Raw → Ent → Prop) (c : Ent → Ent → Int) : Prop :=
  ∀ (x y : Ent) (r s : Raw) (W : World), Z r x → Z s y → Calls Tryz.prog G #[(.agg #[.string (bs (x).pkg.name), .string (bs (x).pkg.ver), .slice (r).a1 (x).pkg.pre.length (r).c1, .slice (r).a2 (x).pkg.dep.length (r).c2, .slice (r).a3 (x).pkg.rcm.length (r).c3, .slice (r).a4 (x).pkg.con.length (r).c4, .slice (r).a5 (x).pkg.brk.length (r).c5, .slice (r).a6 (x).pkg.prv.length (r).c6, .bool (x).pkg.ess, .bool (x).conf, .bool (x).hold]), (.agg #[.string (bs (y).pkg.name), .string (bs (y).pkg.ver), .slice (s).a1 (y).pkg.pre.length (s).c1, .slice (s).a2 (y).pkg.dep.length (s).c2, .slice (s).a3 (y).pkg.rcm.length (s).c3, .slice (s).a4 (y).pkg.con.length (s).c4, .slice (s).a5 (y).pkg.brk.length (s).c5, .slice (s).a6 (y).pkg.prv.length (s).c6, .bool (y).pkg.ess, .bool (y).conf, .bool (y).hold])] W fun e w' => e = .returned (.int .i64 (c x y)) ∧ Below W.heap.size W w'
theorem CmpOkE.call {G : FuncId} {Z : Raw → Ent → Prop} {c : Ent → Ent → Int} (h : CmpOkE G Z c) (x y : Ent) (r s : Raw) (W : World) (hx : Z r x) (hy : Z s y) : Calls Tryz.prog G #[(.agg #[.string (bs (x).pkg.name), .string (bs (x).pkg.ver), .slice (r).a1 (x).pkg.pre.length (r).c1, .slice (r).a2 (x).pkg.dep.length (r).c2, .slice (r).a3 (x).pkg.rcm.length (r).c3, .slice (r).a4 (x).pkg.con.length (r).c4, .slice (r).a5 (x).pkg.brk.length (r).c5, .slice (r).a6 (x).pkg.prv.length (r).c6, .bool (x).pkg.ess, .bool (x).conf, .bool (x).hold]), (.agg #[.string (bs (y).pkg.name), .string (bs (y).pkg.ver), .slice (s).a1 (y).pkg.pre.length (s).c1, .slice (s).a2 (y).pkg.dep.length (s).c2, .slice (s).a3 (y).pkg.rcm.length (s).c3, .slice (s).a4 (y).pkg.con.length (s).c4, .slice (s).a5 (y).pkg.brk.length (s).c5, .slice (s).a6 (y).pkg.prv.length (s).c6, .bool (y).pkg.ess, .bool (y).conf, .bool (y).hold])] W fun e w' => e = .returned (.int .i64 (c x y)) ∧ Below W.heap.size W w' := h x y r s W hx hy
set_option maxRecDepth 100000 in
set_option maxHeartbeats 400000 in
theorem rotateE_any (B : Nat) (Z : Raw → Ent → Prop) (fv : Value) (g cap : Nat) (l : List Ent) (a m b : Nat) (w : World) (ho : Own w B 45 11 (RKE Z) (.slice (some ⟨g, 0, none⟩) l.length cap) (l))
    (h1 : a < m) (h2 : m < b) (h3 : b ≤ l.length) (hs : l.length ≤ 1000) :
    Calls Tryz.prog 199 #[(.slice (some ⟨g, 0, none⟩) l.length cap), .int .i64 a, .int .i64 m, .int .i64 b, fv] w (RetRow w B 45 11 (RKE Z) g l.length cap (rotF l m (b + 1) (m - a) (b - m))) := by
  have HO := Lib.hid ho
  clear ho
  generalize hF : rotF l m (b + 1) (m - a) (b - m) = F
  have HF := Lib.hid hF
  clear hF
  go_enter Tryz.func199, Tryz.ntmps199
  go_wp2
  go_loopw [10, 11] (fun vi vj wr => ∃ (f i j : Nat) (q : List Ent), vi = .int .i64 i ∧ vj = .int .i64 j ∧ 0 < i ∧ 0 < j ∧ i + j < f ∧ i ≤ m ∧ m + j ≤ l.length ∧ q.length = l.length ∧ rotF q m f i j = F ∧ Own wr B 45 11 (RKE Z) (.slice (some ⟨g, 0, none⟩) l.length cap) (q) ∧ w.grownBy wr (some g)) (fun vi vj _ => (intOf vi).toNat + (intOf vj).toNat)
  case atStart => exact ⟨b + 1, m - a, b - m, l, by congr 1; omega, by congr 1; omega, by omega, by omega, by omega, by omega, by omega, rfl, HF.out, HO.out, grown_refl _ _⟩
  case round =>
    clear HO HF h1 h2
    obtain ⟨f, i, j, q, rfl, rfl, hi, hj, hf, him, hjm, hq, hF, ho, hg⟩ := hrel
    obtain ⟨wo, rfl⟩ : ∃ wo : World, wo = wr := ⟨_, rfl⟩
    have HQ := Lib.hid hq
    have HF := Lib.hid hF
    have HG := Lib.hid hg
    rw [← hq] at ho
    have HO := Lib.hid ho
    clear hq hF hg ho
    obtain ⟨f, rfl⟩ : ∃ f', f = f' + 1 := ⟨f - 1, by omega⟩
    obtain ⟨d, hd⟩ : ∃ d : Nat, d = m - i := ⟨_, rfl⟩
    have hd1 : d + i ≤ m := by omega
    have hd2 : m ≤ d + i := by omega
    have HD := Lib.hid hd
    have hw3 : IntKind.i64.wrap ((m : Int) - i) = (d : Int) := by rw [IntKind.wrap_i64]; omega
    clear hd
    by_cases hij : i = j
    · subst hij
      go_wp2_with fail
      rw [← HQ.out]
      refine (swapRangeE_any B Z fv g cap q d m i wo HO.out (by omega) (by rw [HQ.out]; omega) (by rw [HQ.out]; omega)).mono ?_
      rintro e w1 ⟨rfl, ho1, hg1⟩
      clear hw3
      go_wp2
      go_end0
      exact ⟨rfl, by rw [← HF.out, rotF_same, ← HQ.out, ← HD.out]; exact ho1, grown_trans HG.out hg1⟩
    · by_cases hlt : j < i
      · obtain ⟨n, hn⟩ : ∃ n : Nat, n = i - j := ⟨_, rfl⟩
        have hn1 : n + j ≤ i := by omega
        have hn2 : i ≤ n + j := by omega
        have HN := Lib.hid hn
        clear hn
        go_wp2_with fail
        rw [← HQ.out]
        refine (swapRangeE_any B Z fv g cap q d m j wo HO.out (by omega) (by rw [HQ.out]; omega) (by rw [HQ.out]; omega)).mono ?_
        rintro e w1 ⟨rfl, ho1, hg1⟩
        rw [HQ.out] at ho1 ⊢
        have HO1 := Lib.hid ho1
        have HG1 := Lib.hid hg1
        have hw4 : IntKind.i64.wrap ((i : Int) - j) = (n : Int) := by rw [IntKind.wrap_i64]; omega
        clear hw3 ho1 hg1
        go_wp2
        go_roundw
        case rel => exact ⟨f, n, j, _, rfl, rfl, by omega, hj, by omega, by omega, hjm, by rw [swpN_len]; exact HQ.out, by rw [HN.out, HD.out, ← rotF_gt hlt]; exact HF.out, HO1.out, grown_trans HG.out HG1.out⟩
        case measure => (try simp only [intOf]); omega
      · obtain ⟨n, hn⟩ : ∃ n : Nat, n = j - i := ⟨_, rfl⟩
        have hn1 : n + i ≤ j := by omega
        have hn2 : j ≤ n + i := by omega
        have HN := Lib.hid hn
        obtain ⟨t, ht⟩ : ∃ t : Nat, t = m + j - i := ⟨_, rfl⟩
        have ht1 : t + i ≤ m + j := by omega
        have ht2 : m + j ≤ t + i := by omega
        have HT := Lib.hid ht
        have hw5 : IntKind.i64.wrap ((m : Int) + j - i) = (t : Int) := by rw [IntKind.wrap_i64]; omega
        clear hn ht
        go_wp2_with fail
        rw [← HQ.out]
        refine (swapRangeE_any B Z fv g cap q d t i wo HO.out (by omega) (by rw [HQ.out]; omega) (by rw [HQ.out]; omega)).mono ?_
        rintro e w1 ⟨rfl, ho1, hg1⟩
        rw [HQ.out] at ho1 ⊢
        have HO1 := Lib.hid ho1
        have HG1 := Lib.hid hg1
        have hw4 : IntKind.i64.wrap ((j : Int) - i) = (n : Int) := by rw [IntKind.wrap_i64]; omega
        clear hw3 hw5 ho1 hg1
        go_wp2
        go_roundw
        case rel => exact ⟨f, i, n, _, rfl, rfl, hi, by omega, by omega, him, by omega, by rw [swpN_len]; exact HQ.out, by rw [HN.out, HT.out, HD.out, ← rotF_lt (by omega)]; exact HF.out, HO1.out, grown_trans HG.out HG1.out⟩
        case measure => (try simp only [intOf]); omega
set_option maxRecDepth 100000 in
set_option maxHeartbeats 400000 in
theorem insE_any (B : Nat) (Z : Raw → Ent → Prop) (c : Ent → Ent → Int) (hc : CmpOkE 117 Z c) (g cap : Nat) (l : List Ent) (a b : Nat) (w : World) (ho : Own w B 45 11 (RKE Z) (.slice (some ⟨g, 0, none⟩) l.length cap) (l))
    (h1 : a ≤ b) (h3 : b ≤ l.length) (hs : l.length ≤ 1000) :
    Calls Tryz.prog 185 #[(.slice (some ⟨g, 0, none⟩) l.length cap), .int .i64 a, .int .i64 b, .func (.func 117) #[] #[]] w (RetRow w B 45 11 (RKE Z) g l.length cap (insO (fun x y => decide (c x y < 0)) a (b - (a + 1)) (a + 1) l)) := by
  have HO := Lib.hid ho
  clear ho
  generalize hF : insO (fun x y => decide (c x y < 0)) a (b - (a + 1)) (a + 1) l = F
  have HF := Lib.hid hF
  clear hF
  go_enter Tryz.func185, Tryz.ntmps185
  go_wp2
  go_loopw [8] (fun vi wr => ∃ (i : Nat) (q : List Ent), vi = .int .i64 i ∧ a < i ∧ i ≤ b + 1 ∧ q.length = l.length ∧ insO (fun x y => decide (c x y < 0)) a (b - i) i q = F ∧ Own wr B 45 11 (RKE Z) (.slice (some ⟨g, 0, none⟩) l.length cap) (q) ∧ w.grownBy wr (some g)) (fun vi _ => b + 1 - (intOf vi).toNat)
  case atStart => exact ⟨a + 1, l, by simp, by omega, by omega, rfl, HF.out, HO.out, grown_refl _ _⟩
  case round =>
    clear HO HF
    obtain ⟨i, q, rfl, hi, hib, hq, hF, ho, hg⟩ := hrel
    obtain ⟨wo, rfl⟩ : ∃ wo : World, wo = wr := ⟨_, rfl⟩
    have HQ := Lib.hid hq
    have HF := Lib.hid hF
    have HG := Lib.hid hg
    have HO := Lib.hid ho
    clear hq hF hg ho
    by_cases hlt : i < b
    · generalize hT : insA (fun x y => decide (c x y < 0)) a (i - a) q = T
      have HT := Lib.hid hT
      clear hT
      go_wp2
      go_loopw [9] (fun vj wr => ∃ (d : Nat) (q : List Ent), vj = .int .i64 (a + d : Nat) ∧ a + d ≤ i ∧ q.length = l.length ∧ insA (fun x y => decide (c x y < 0)) a d q = T ∧ Own wr B 45 11 (RKE Z) (.slice (some ⟨g, 0, none⟩) l.length cap) (q) ∧ w.grownBy wr (some g)) (fun vj _ => (intOf vj).toNat)
      case atStart => exact ⟨i - a, q, by rw [show a + (i - a) = i by omega], by omega, HQ.out, HT.out, HO.out, HG.out⟩
      case round =>
        have HTT := Lib.hid (show insO (fun x y => decide (c x y < 0)) a (b - (i + 1)) (i + 1) T = F by
          rw [← HF.out, show b - i = (b - (i + 1)) + 1 by omega, insO, HT.out])
        clear HO HG HT HQ HF
        obtain ⟨d, q, rfl, hd, hq, hT, ho, hg⟩ := hrel
        obtain ⟨wo, rfl⟩ : ∃ wo : World, wo = wr := ⟨_, rfl⟩
        have HQ := Lib.hid hq
        have HT := Lib.hid hT
        have HG := Lib.hid hg
        have HO := Lib.hid ho
        clear hT hg
        rcases d with _ | d
        · have hdd : decide ((a : Int) < (a : Int)) = false := decide_eq_false (by omega)
          clear ho hq
          rw [Nat.add_zero]
          go_wp2_with fail
          go_quiet (fail)
          go_wp2
          go_roundw
          case rel => exact ⟨i + 1, q, by simp, by omega, by omega, HQ.out, by rw [show q = T by have := HT.out; simpa [insA] using this]; exact HTT.out, HO.out.drewN _, only_drewN HG.out _⟩
          case measure => (try simp only [intOf]); omega
        · obtain ⟨j, hj⟩ : ∃ j : Nat, j = a + d := ⟨_, rfl⟩
          have HJ := Lib.hid hj
          rw [show a + (d + 1) = j + 1 by omega]
          have hjd : a ≤ j := by omega
          have hji : j + 1 ≤ i := by omega
          have hjl : j + 1 < l.length := by omega
          obtain ⟨x, r, hx, hr, e0, e1, e2, e3, e4, e5, e6, e7, e8, e9, e10⟩ := ho.atKE (i := j + 1) (by omega) (by omega)
          obtain ⟨y, s, hy, hz, f0, f1, f2, f3, f4, f5, f6, f7, f8, f9, f10⟩ := ho.atKE (i := j) (by omega) (by omega)
          have HX := Lib.hid hx
          have HY := Lib.hid hy
          have HR := Lib.hid hr
          have HZ := Lib.hid hz
          clear hx hy hr hz hd hj ho hq
          (have s0 := fun p : Be wo => Be.cell e0 p); (have s1 := fun p : Be wo => Be.cell e1 p); (have s2 := fun p : Be wo => Be.cell e2 p); (have s3 := fun p : Be wo => Be.cell e3 p); (have s4 := fun p : Be wo => Be.cell e4 p); (have s5 := fun p : Be wo => Be.cell e5 p); (have s6 := fun p : Be wo => Be.cell e6 p); (have s7 := fun p : Be wo => Be.cell e7 p); (have s8 := fun p : Be wo => Be.cell e8 p); (have s9 := fun p : Be wo => Be.cell e9 p); (have s10 := fun p : Be wo => Be.cell e10 p)
          (have t0 := fun p : Be wo => Be.cell f0 p); (have t1 := fun p : Be wo => Be.cell f1 p); (have t2 := fun p : Be wo => Be.cell f2 p); (have t3 := fun p : Be wo => Be.cell f3 p); (have t4 := fun p : Be wo => Be.cell f4 p); (have t5 := fun p : Be wo => Be.cell f5 p); (have t6 := fun p : Be wo => Be.cell f6 p); (have t7 := fun p : Be wo => Be.cell f7 p); (have t8 := fun p : Be wo => Be.cell f8 p); (have t9 := fun p : Be wo => Be.cell f9 p); (have t10 := fun p : Be wo => Be.cell f10 p)
          clear e0 e1 e2 e3 e4 e5 e6 e7 e8 e9 e10 f0 f1 f2 f3 f4 f5 f6 f7 f8 f9 f10
          have hdd : decide ((a : Int) < (j : Int) + 1) = true := decide_eq_true (by omega)
          have hw1 : IntKind.i64.wrap ((j : Int) + 1 - 1) = (j : Int) := by rw [IntKind.wrap_i64]; omega
          have hw2 : IntKind.i64.wrap (j : Int) = (j : Int) := by rw [IntKind.wrap_i64]; omega
          have hj0 : (0 : Int) ≤ (j : Int) + 1 := by omega
          have hjt : ((j : Int) + 1).toNat = j + 1 := by omega
          have hj1 : (j : Int) + 1 < (l.length : Int) := by omega
          have hj2 : (j : Int) < (l.length : Int) := by omega
          have hj3 : (0 : Int) ≤ (j : Int) := by omega
          generalize hcv : c x y = v
          have HCV := Lib.hid hcv
          clear hcv
          go_wp2_with fail
          refine region_be (by kernel_rfl) (by kernel_rfl) ?_
          repeat (quiet_step (first | (go_at_call 117; with_reducible exact Calls.be_of ((hc.call x y r s _ HR.out HZ.out).mono fun _ _ h => ⟨h.1.trans (congrArg (fun b => Ending.returned (Value.int .i64 b)) HCV.out), h.2⟩))))
          refine wpQuiet_nil ?_
          intro _ hw'
          obtain ⟨pb, hw''⟩ := hw'
          subst hw''
          obtain ⟨W2, hbw⟩ := pb
          dsimp only
          clear s0 s1 s2 s3 s4 s5 s6 s7 s8 s9 s10 t0 t1 t2 t3 t4 t5 t6 t7 t8 t9 t10
          have ho := HO.out.next hbw
          have HG2 := Lib.hid (only_next HG.out hbw)
          clear hbw
          obtain ⟨x', r', hx, hr, e0, e1, e2, e3, e4, e5, e6, e7, e8, e9, e10⟩ := ho.atKE (i := j + 1) (by rw [HQ.out]; omega) (by rw [HQ.out]; omega)
          obtain ⟨y', s', hy, hz, f0, f1, f2, f3, f4, f5, f6, f7, f8, f9, f10⟩ := ho.atKE (i := j) (by rw [HQ.out]; omega) (by rw [HQ.out]; omega)
          obtain rfl : x' = x := Option.some.inj (hx.symm.trans HX.out)
          obtain rfl : y' = y := Option.some.inj (hy.symm.trans HY.out)
          have HR' := Lib.hid hr
          have HZ' := Lib.hid hz
          have hfz := ho.frz
          have HO2 := Lib.hid ho
          clear hx hy hr hz ho
          by_cases hv : v < 0
          · have hvd : decide (v < 0) = true := decide_eq_true hv
            have HL := Lib.hid (show decide (c x' y' < 0) = true by rw [HCV.out]; exact hvd)
            go_wp2
            go_region
            go_wp2
            go_roundw
            case rel =>
              have hsw := swapKE HO2.out (j + 1) j HX.out HY.out HR'.out HZ'.out HG2.out
              exact ⟨d, swp q (j + 1) j, by rw [HJ.out], by have := HJ.out; omega, by rw [swp_len]; exact HQ.out, by
                have h1 := insA_go (lt := fun x y => decide (c x y < 0)) (a := a) (d := d) (l := q) (x := x') (y := y') (by have := HX.out; rw [HJ.out] at this; exact this) (by have := HY.out; rw [HJ.out] at this; exact this) HL.out
                rw [← HT.out, h1, HJ.out], hsw.1, hsw.2⟩
            case measure => (try simp only [intOf]); omega
          · have hvd : decide (v < 0) = false := decide_eq_false hv
            have HL := Lib.hid (show decide (c x' y' < 0) = false by rw [HCV.out]; exact hvd)
            go_wp2
            go_roundw
            case rel =>
              have h1 := insA_stop (lt := fun x y => decide (c x y < 0)) (a := a) (d := d) (l := q) (x := x') (y := y') (by have := HX.out; rw [HJ.out] at this; exact this) (by have := HY.out; rw [HJ.out] at this; exact this) HL.out
              exact ⟨i + 1, q, by simp, by omega, by omega, HQ.out, by rw [show q = T by rw [← HT.out]; exact h1.symm]; exact HTT.out, HO2.out, HG2.out⟩
            case measure => (try simp only [intOf]); omega
    · go_wp2
      go_end0
      exact ⟨rfl, by have := HF.out; rw [show b - i = 0 by omega] at this; rw [← this]; exact HO.out, HG.out⟩
end Go.Proofs.YtaicidbopgnmfaaGreatDoor
