/- The insertion sort of packages or entries: what it computes (plain), and one exchange of two elements in a row of the call's own. -/
import Derived.Test.YtefjoigngnnbjaaDoorMk
import Derived.Deep.RegionHeld3
namespace Go.Proofs.YtefjoigngnnbjaaDoor
set_option linter.unusedSimpArgs false
set_option linter.unusedVariables false
open Go.RowKit

/-- from place j down: exchanged with what stands ahead as long as it is less -/
def insIn {α : Type} (lt : α → α → Bool) : Nat → List α → List α
  | 0, l => l
  | j + 1, l => match l[j + 1]?, l[j]? with
    | some x, some y => if lt x y then insIn lt j ((l.set (j + 1) y).set j x) else l
    | _, _ => l
/-- the places i, i + 1, .. (n of them), one behind the other -/
def insOut {α : Type} (lt : α → α → Bool) : Nat → Nat → List α → List α
  | 0, _, l => l
  | n + 1, i, l => insOut lt n (i + 1) (insIn lt i l)
theorem insIn_len {α : Type} (lt : α → α → Bool) : ∀ (j : Nat) (l : List α), (insIn lt j l).length = l.length
  | 0, l => rfl
  | j + 1, l => by
    unfold insIn
    split
    · split
      · rw [insIn_len, List.length_set, List.length_set]
      · rfl
    · rfl
theorem insIn_go {α : Type} {lt : α → α → Bool} {j : Nat} {l : List α} {x y : α} (hx : l[j + 1]? = some x) (hy : l[j]? = some y) (h : lt x y = true) : insIn lt (j + 1) l = insIn lt j ((l.set (j + 1) y).set j x) := by
  rw [insIn, hx, hy]
  simp [h]
theorem insIn_stop {α : Type} {lt : α → α → Bool} {j : Nat} {l : List α} {x y : α} (hx : l[j + 1]? = some x) (hy : l[j]? = some y) (h : lt x y = false) : insIn lt (j + 1) l = l := by
  rw [insIn, hx, hy]
  simp [h]
section
variable {α : Type} {w : World} {B : Nat} {e : TypeId} {k : Nat} {R : List Value → α → Prop} {g n cap : Nat} {l : List α}
/-- a row, cell by cell: each element is its list of cells -/
theorem Own.raw {v : Value} (h : Own w B e k R v l) : ∃ css : List (List Value), css.length = l.length ∧ (∀ (i : Nat) (cs : List Value) (x : α), css[i]? = some cs → l[i]? = some x → R cs x ∧ cs.length = k) ∧ Own w B e k (fun cs x => cs = x) v css := by
  obtain ⟨css, hl, hR, ho⟩ := h
  refine ⟨css, hl, hR, css, rfl, fun i cs x h1 h2 => ?_, by rw [hl]; exact ho⟩
  rw [h1] at h2
  injection h2 with h2
  exact ⟨h2, own_lens hl hR cs (List.mem_of_getElem? h1)⟩
theorem Own.unraw {v : Value} {css : List (List Value)} (h : Own w B e k (fun cs x => cs = x) v css) (hl : css.length = l.length) (hR : ∀ (i : Nat) (cs : List Value) (x : α), css[i]? = some cs → l[i]? = some x → R cs x ∧ cs.length = k) : Own w B e k R v l := by
  obtain ⟨css', hl', hR', ho⟩ := h
  have he : css' = css := by
    apply List.ext_getElem?
    intro i
    rcases Nat.lt_or_ge i css.length with hi | hi
    · rw [List.getElem?_eq_getElem hi, List.getElem?_eq_getElem (by omega : i < css'.length)]
      exact congrArg some (hR' i _ _ (List.getElem?_eq_getElem (by omega)) (List.getElem?_eq_getElem hi)).1
    · rw [List.getElem?_eq_none hi, List.getElem?_eq_none (by omega)]
  subst he
  exact ⟨css', hl, hR, by rw [← hl]; exact ho⟩
/-- one cell of a raw row -/
theorem Own.rset {css : List (List Value)} (h : Own w B e k (fun cs x => cs = x) (.slice (some ⟨g, 0, none⟩) n cap) css) {i j : Nat} {cs : List Value} (hx : css[i]? = some cs) (hj : j < k) (u : Value) :
    Own (w.setCell ⟨g, i * k + j, none⟩ u) B e k (fun cs x => cs = x) (.slice (some ⟨g, 0, none⟩) n cap) (css.set i (cs.set j u)) :=
  h.set hx hj fun cs' hcs => by rw [hcs]
end
/-- nine cells of one element stored, one behind the other -/
theorem set9 {w : World} {B : Nat} {e : TypeId} {g n cap : Nat} {css : List (List Value)} (h : Own w B e 9 (fun cs x => cs = x) (.slice (some ⟨g, 0, none⟩) n cap) css) {i : Nat} {a0 a1 a2 a3 a4 a5 a6 a7 a8 : Value} (hx : css[i]? = some [a0, a1, a2, a3, a4, a5, a6, a7, a8]) (b0 b1 b2 b3 b4 b5 b6 b7 b8 : Value) :
    Own (((((((((w.setCell ⟨g, i * 9, none⟩ b0).setCell ⟨g, i * 9 + 1, none⟩ b1).setCell ⟨g, i * 9 + 2, none⟩ b2).setCell ⟨g, i * 9 + 3, none⟩ b3).setCell ⟨g, i * 9 + 4, none⟩ b4).setCell ⟨g, i * 9 + 5, none⟩ b5).setCell ⟨g, i * 9 + 6, none⟩ b6).setCell ⟨g, i * 9 + 7, none⟩ b7).setCell ⟨g, i * 9 + 8, none⟩ b8)
      B e 9 (fun cs x => cs = x) (.slice (some ⟨g, 0, none⟩) n cap) (css.set i [b0, b1, b2, b3, b4, b5, b6, b7, b8]) := by
  have hi : i < css.length := (List.getElem?_eq_some_iff.1 hx).1
  have h0 := h.rset (j := 0) hx (by omega) b0
  have h1 := h0.rset (j := 1) (List.getElem?_set_self hi) (by omega) b1
  rw [List.set_set] at h1
  have h2 := h1.rset (j := 2) (List.getElem?_set_self hi) (by omega) b2
  rw [List.set_set] at h2
  have h3 := h2.rset (j := 3) (List.getElem?_set_self hi) (by omega) b3
  rw [List.set_set] at h3
  have h4 := h3.rset (j := 4) (List.getElem?_set_self hi) (by omega) b4
  rw [List.set_set] at h4
  have h5 := h4.rset (j := 5) (List.getElem?_set_self hi) (by omega) b5
  rw [List.set_set] at h5
  have h6 := h5.rset (j := 6) (List.getElem?_set_self hi) (by omega) b6
  rw [List.set_set] at h6
  have h7 := h6.rset (j := 7) (List.getElem?_set_self hi) (by omega) b7
  rw [List.set_set] at h7
  have h8 := h7.rset (j := 8) (List.getElem?_set_self hi) (by omega) b8
  rw [List.set_set] at h8
  exact h8
end Go.Proofs.YtefjoigngnnbjaaDoor
