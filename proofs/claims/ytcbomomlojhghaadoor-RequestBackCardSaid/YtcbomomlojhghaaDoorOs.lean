/- A store into one cell of a row of the call's own: what the row reads as behind it; entries with one field turned. -/
import Derived.Test.YtcbomomlojhghaaDoorOw
namespace Go.Proofs.YtcbomomlojhghaaDoor
set_option linter.unusedSimpArgs false
set_option linter.unusedVariables false
open Go.RowKit
theorem flat_set {α : Type} {k : Nat} : ∀ {css : List (List α)}, (∀ cs ∈ css, cs.length = k) → ∀ {i j : Nat} {cs : List α} (u : α), css[i]? = some cs → j < k → (css.set i (cs.set j u)).flatten = css.flatten.set (i * k + j) u
  | [], _, i, j, cs, u, hi, _ => by simp at hi
  | c :: css, h, 0, j, cs, u, hi, hj => by
    simp only [List.getElem?_cons_zero, Option.some.injEq] at hi
    subst hi
    have hc : c.length = k := h c (List.mem_cons_self ..)
    rw [List.set_cons_zero, List.flatten_cons, List.flatten_cons, Nat.zero_mul, Nat.zero_add, List.set_append_left _ _ (by omega)]
  | c :: css, h, i + 1, j, cs, u, hi, hj => by
    simp only [List.getElem?_cons_succ] at hi
    have hc : c.length = k := h c (List.mem_cons_self ..)
    rw [List.set_cons_succ, List.flatten_cons, List.flatten_cons, flat_set (fun cs hcs => h cs (List.mem_cons_of_mem _ hcs)) u hi hj, List.set_append_right _ _ (by rw [hc, Nat.succ_mul]; omega), hc]
    congr 2
    rw [Nat.succ_mul]
    omega
section
variable {α : Type} {w : World} {B : Nat} {e : TypeId} {k : Nat} {R : List Value → α → Prop} {g n cap : Nat} {l : List α}
theorem Own.form {v : Value} (h : Own w B e k R v l) (h0 : 0 < l.length) : ∃ g cap, v = .slice (some ⟨g, 0, none⟩) l.length cap ∧ B ≤ g := by
  obtain ⟨css, hl, hR, hlen, ho⟩ := h
  rcases ho with ⟨_, hn⟩ | ⟨g, cap, cur, rfl, hb, _⟩
  · omega
  · exact ⟨g, cap, rfl, hb⟩
theorem Own.frz (h : Own w B e k R (.slice (some ⟨g, 0, none⟩) n cap) l) (j : Nat) : w.frozen? ⟨g, j, none⟩ = false := by
  obtain ⟨_, cur, hc⟩ := h.base (g := g) rfl
  simp [World.frozen?, hc]
theorem Own.sizeLt (h : Own w B e k R (.slice (some ⟨g, 0, none⟩) n cap) l) : g < w.heap.size := by
  obtain ⟨_, cur, hc⟩ := h.base (g := g) rfl
  exact heap_lt hc
theorem Own.elem (h : Own w B e k R (.slice (some ⟨g, 0, none⟩) n cap) l) {i : Nat} {x : α} (hx : l[i]? = some x) (hz : l.length ≤ 1000) : ∃ cs, R cs x ∧ cs.length = k ∧ w.rangeAt g (i * k) cs := by
  obtain ⟨A, c, hv, hs⟩ := h.slc (z := 1) (by omega)
  injection hv with hv
  subst hv
  obtain ⟨y, b, o, cs, hy, hA, hcs, hlen, hr⟩ := hs.at_ (List.getElem?_eq_some_iff.1 hx).1
  injection hA with hA
  injection hA with h1 h2
  subst h1 h2
  obtain rfl : y = x := Option.some.inj (hy.symm.trans hx)
  rw [Nat.zero_add] at hr
  exact ⟨cs, hcs, hlen, hr⟩
theorem Own.set (h : Own w B e k R (.slice (some ⟨g, 0, none⟩) n cap) l) {i j : Nat} {x y : α} {u : Value} (hx : l[i]? = some x) (hj : j < k) (hR : ∀ cs, R cs x → R (cs.set j u) y) :
    Own (w.setCell ⟨g, i * k + j, none⟩ u) B e k R (.slice (some ⟨g, 0, none⟩) n cap) (l.set i y) := by
  obtain ⟨css, hl, hRR, hlen, ho⟩ := h
  rcases ho with ⟨hv, _⟩ | ⟨g', cap', cur, hv, hb, hg, hnc, hcm, hcs, hxs⟩
  · cases hv
  · injection hv with h1 h2 h3
    injection h1 with h1
    injection h1 with h1
    subst h1 h2 h3
    have hil : i < l.length := (List.getElem?_eq_some_iff.1 hx).1
    have hci : css[i]? = some (css[i]'(by omega)) := List.getElem?_eq_getElem (by omega)
    generalize css[i]'(by omega) = cs at hci
    obtain ⟨hr1, hr2⟩ := hRR i cs x hci hx
    have hfl := flat_set (own_lens hl hRR) u hci hj
    refine ⟨css.set i (cs.set j u), by simp [hl], fun m cs' x' e1 e2 => ?_, ?_, .inr ⟨g, cap, cur.setIfInBounds (i * k + j) u, by simp, hb, ?_, by simpa using hnc, hcm, by simpa using hcs, ?_⟩⟩
    · rw [List.getElem?_set] at e1 e2
      by_cases hm : i = m
      · subst hm
        rw [if_pos rfl] at e1 e2
        rw [if_pos (by omega)] at e1
        rw [if_pos hil] at e2
        injection e1 with e1
        injection e2 with e2
        subst e1 e2
        exact ⟨hR cs hr1, by rw [List.length_set]; exact hr2⟩
      · rw [if_neg hm] at e1 e2
        exact hRR m cs' x' e1 e2
    · rw [hfl, List.length_set, List.length_set]
      exact hlen
    · simp [World.setCell, Array.getElem?_modify, hg]
    · rw [hfl, Array.toList_setIfInBounds, List.take_set, List.length_set, hxs]
theorem Own.belowSet {w0 : World} (h : Own w B e k R (.slice (some ⟨g, 0, none⟩) n cap) l) (hb : Below B w0 w) (p : Addr) (hp : p.block = g) (u : Value) : Below B w0 (w.setCell p u) := by
  obtain ⟨hg, _⟩ := h.base (g := g) rfl
  exact hb.setCell (by rw [hp]; exact hg) u
end
theorem set_map {α : Type} {f : α → α} {s : List α} {k : Nat} {x : α} (hx : s[k]? = some x) : ((s.take k).map f ++ s.drop k).set k (f x) = (s.take (k + 1)).map f ++ s.drop (k + 1) := by
  have hk : k < s.length := (List.getElem?_eq_some_iff.1 hx).1
  obtain ⟨_, hxe⟩ := List.getElem?_eq_some_iff.1 hx
  have hl : ((s.take k).map f).length = k := by simp; omega
  rw [List.set_append_right _ _ (by omega), hl, Nat.sub_self, List.drop_eq_getElem_cons hk, List.set_cons_zero, take_step hx, List.map_append]
  simp
theorem get_map {α : Type} {f : α → α} {s : List α} {k : Nat} {x : α} (hx : s[k]? = some x) : ((s.take k).map f ++ s.drop k)[k]? = some x := by
  have hk : k < s.length := (List.getElem?_eq_some_iff.1 hx).1
  have hl : ((s.take k).map f).length = k := by simp; omega
  rw [List.getElem?_append_right (by omega), hl, Nat.sub_self, List.getElem?_drop]
  simpa using hx
theorem len_map {α : Type} {f : α → α} (s : List α) (k : Nat) : ((s.take k).map f ++ s.drop k).length = s.length := by simp; omega
end Go.Proofs.YtcbomomlojhghaaDoor
