/- append of a whole slice to a row of the call's own, also where it has no element. -/
import Derived.Test.YtcbomomlojhghaaDoorOw
import Derived.Lib.AppendZeros
namespace Go.Proofs.YtcbomomlojhghaaDoor
set_option linter.unusedSimpArgs false
set_option linter.unusedVariables false
open Go.RowKit
section
variable {P : Program} {w : World} {α : Type}
theorem slc_cells {k z : Nat} {R : List Value → α → Prop} {b o c : Nat} {m : List α} (h : Slc w k z R (some ⟨b, o, none⟩) c m) : ∀ n, n ≤ m.length → ∃ css : List (List Value), css.length = n ∧
    (∀ (i : Nat) (cs : List Value) (x : α), css[i]? = some cs → m[i]? = some x → R cs x ∧ cs.length = k) ∧ css.flatten.length = n * k ∧ ∀ (j : Nat) (u : Value), css.flatten[j]? = some u → w.cell? ⟨b, o + j, none⟩ = some u
  | 0, _ => ⟨[], rfl, fun i cs x h => by simp at h, by simp, fun j u h => by simp at h⟩
  | n + 1, hn => by
    obtain ⟨css, h1, h2, h3, h4⟩ := slc_cells h n (by omega)
    obtain ⟨x, b', o', cs, hx, hA, hcs, hlen, hr⟩ := h.at_ (i := n) (by omega)
    injection hA with hA
    injection hA with hA1 hA2
    subst hA1 hA2
    refine ⟨css ++ [cs], by simp [h1], fun i cs' x' e1 e2 => ?_, ?_, fun j u hj => ?_⟩
    · rcases Nat.lt_or_ge i n with hi | hi
      · rw [List.getElem?_append_left (by omega)] at e1
        exact h2 i cs' x' e1 e2
      · have hi2 := (List.getElem?_eq_some_iff.1 e1).1
        simp [h1] at hi2
        obtain rfl : i = n := by omega
        rw [List.getElem?_append_right (by omega), h1] at e1
        simp at e1
        subst e1
        rw [hx] at e2
        injection e2 with e2
        subst e2
        exact ⟨hcs, hlen⟩
    · rw [List.flatten_append, List.length_append, h3, Nat.succ_mul]
      simp [hlen]
    · rw [List.flatten_append] at hj
      simp only [List.flatten_cons, List.flatten_nil, List.append_nil] at hj
      rcases Nat.lt_or_ge j (n * k) with hjn | hjn
      · rw [List.getElem?_append_left (by omega)] at hj
        exact h4 j u hj
      · rw [List.getElem?_append_right (by omega), h3] at hj
        have := hr (j - n * k) u hj
        rw [← this]
        congr 2
        omega
theorem append_all_run (t ty : TypeId) (B : Nat) (e : TypeId) (z : Value) (k bytes z0 : Nat) (ht : P.underlying t = some (.slice e)) (hinfo : (P.info? e).map (fun i => (i.zero, i.size, i.bytes)) = some (some z, k, bytes)) (hzs : z.cells.size = k) (hsz : 0 < k)
    (R : List Value → α → Prop) (v : Value) (l : List α) (hown : Own w B e k R v l) (A : Option Addr) (c0 : Nat) (m : List α) (hsl : Slc w k z0 R A c0 m) (hone : ∀ cs y, R cs y → ∀ u ∈ cs, u.oneCell' = true)
    (hbytes : (l.length + m.length) * bytes ≤ 140737488355328) (hbz : 1 ≤ bytes) (hbase : B ≤ w.heap.size) :
    ∃ v' w', (Builtin.append_ #[t, t] ty #[v, .slice A m.length c0]).run P w = .ok v' w' ∧ Own w' B e k R v' (l ++ m) ∧ w.grownBy w' v.ownBlock := by
  obtain ⟨i, hi, hz0, hz1, hz2⟩ := info_parts hinfo
  have h63 : l.length + m.length ≤ maxLen := by
    have : (l.length + m.length) * 1 ≤ (l.length + m.length) * bytes := Nat.mul_le_mul_left _ hbz
    unfold maxLen
    omega
  have hown0 := hown
  obtain ⟨css, hl, hR, hrow⟩ := hown
  have fin : ∀ (v' : Value) (w' : World) (css' : List (List Value)), css'.length = m.length → (∀ (i : Nat) (cs : List Value) (x : α), css'[i]? = some cs → m[i]? = some x → R cs x ∧ cs.length = k) → w'.ownsRow B e k v' (l.length + m.length) (css.flatten ++ css'.flatten) → Own w' B e k R v' (l ++ m) := by
    intro v' w' css' h1 h2 h3
    refine ⟨css ++ css', by simp [hl, h1], fun i cs x e1 e2 => ?_, by rw [List.length_append, List.flatten_append]; exact h3⟩
    rcases Nat.lt_or_ge i l.length with hil | hil
    · rw [List.getElem?_append_left (by omega)] at e1
      rw [List.getElem?_append_left hil] at e2
      exact hR i cs x e1 e2
    · rw [List.getElem?_append_right (by omega), hl] at e1
      rw [List.getElem?_append_right hil] at e2
      exact h2 _ cs x e1 e2
  rcases A with _ | ⟨b, o, sp⟩
  · have hm : m = [] := by
      rcases m with _ | ⟨x, m⟩
      · rfl
      · obtain ⟨b, o, h, _⟩ := hsl.2.2.2 (by simp)
        cases h
    subst hm
    refine ⟨v, w, ?_, by simpa using hown0, ⟨rfl, rfl, rfl, Nat.le_refl _, fun _ _ _ => rfl⟩⟩
    rcases hrow.2 with ⟨rfl, h0⟩ | ⟨g, cap, cur, rfl, hbg, hg, hnc, hcm, hcs, htake⟩
    · simp [Builtin.append_, run_underlying ht, sizeOf, typeInfo, hi, Builtin.lenOf, Builtin.firstCells, loadCells, loadCellsFrom]
    · simp [Builtin.append_, run_underlying ht, sizeOf, typeInfo, hi, Builtin.lenOf, Builtin.firstCells, loadCells, loadCellsFrom, hnc, storeCells]
  · by_cases hm : m = []
    · subst hm
      obtain ⟨v', w', hr, h2, h3, _, _⟩ := run_append_own_at (P := P) w B t ty e i z k bytes ht hi hz0 hz1 hz2 hzs hsz v l.length css.flatten hrow ⟨b, o, sp⟩ 0 c0 [] (by simp) (fun j u h => by simp at h) (fun u h => by simp at h) (by simpa using h63) (by simpa using hbytes) hbase
      exact ⟨v', w', hr, fin v' w' [] rfl (fun i cs x h => by simp at h) (by simpa using h2), h3⟩
    · have h0 : 0 < m.length := List.length_pos_iff.2 hm
      obtain ⟨b', o', hA, _⟩ := hsl.2.2.2 h0
      injection hA with hA
      injection hA with hA1 hA2 hA3
      subst hA1 hA2 hA3
      obtain ⟨css', h1, h2, h3, h4⟩ := slc_cells hsl m.length (Nat.le_refl _)
      obtain ⟨v', w', hr, k2, k3, _, _⟩ := run_append_own_at (P := P) w B t ty e i z k bytes ht hi hz0 hz1 hz2 hzs hsz v l.length css.flatten hrow ⟨b, o, none⟩ m.length c0 css'.flatten h3 (fun j u hj => by rw [Addr.add_mid]; exact h4 j u hj) (fun u hu => by
        obtain ⟨cs, hcs, hu⟩ := List.mem_flatten.1 hu
        obtain ⟨i, hi, rfl⟩ := List.mem_iff_getElem.1 hcs
        exact hone _ _ (h2 i _ _ (List.getElem?_eq_getElem hi) (List.getElem?_eq_getElem (by omega : i < m.length))).1 u hu) h63 hbytes hbase
      exact ⟨v', w', hr, fin v' w' css' h1 h2 k2, k3⟩
theorem wpList_append_all {ops : Array Oper} {rest : List Oper} {o : Oper} {a : Act} {Q : Exit → Act → World → Prop} (hgd : o.guard = none) (s x : Operand) (t : TypeId)
    (ho : o.op = .call { callee := .builtin .append, args := #[s, x], argTypes := #[t, t] })
    (B : Nat) (e : TypeId) (z : Value) (k bytes z0 : Nat) (ht : P.underlying t = some (.slice e)) (hinfo : (P.info? e).map (fun i => (i.zero, i.size, i.bytes)) = some (some z, k, bytes)) (hzs : z.cells.size = k) (hsz : 0 < k)
    (R : List Value → α → Prop) (v : Value) (l : List α) (hs : a.eval s = v) (hown : Own w B e k R v l) (A : Option Addr) (c0 : Nat) (m : List α) (hx : a.eval x = .slice A m.length c0) (hsl : Slc w k z0 R A c0 m) (hone : ∀ cs y, R cs y → ∀ u ∈ cs, u.oneCell' = true)
    (hbytes : (l.length + m.length) * bytes ≤ 140737488355328) (hbz : 1 ≤ bytes) (hbase : B ≤ w.heap.size)
    (h : ∀ v' w', Own w' B e k R v' (l ++ m) → w.grownBy w' v.ownBlock → wpList P ops Q rest (a.put o.dst v') w') : wpList P ops Q (o :: rest) a w := by
  obtain ⟨v', w', hr, h1, h2⟩ := append_all_run (P := P) (w := w) t o.type B e z k bytes z0 ht hinfo hzs hsz R v l hown A c0 m hsl hone hbytes hbz hbase
  exact Lib.wpList_append_run w hgd s x t t ho v _ hs hx v' w' hr (h v' w' h1 h2)
theorem step_append_all {ops : Array Oper} {o : Oper} {a : Act} {K : Act → World → Prop} {Q : Exit → Act → World → Prop} {E : Prop} (hgd : o.guard = none) (s x : Operand) (t : TypeId)
    (ho : o.op = .call { callee := .builtin .append, args := #[s, x], argTypes := #[t, t] })
    (B : Nat) (e : TypeId) (z : Value) (k bytes z0 : Nat) (ht : P.underlying t = some (.slice e)) (hinfo : (P.info? e).map (fun i => (i.zero, i.size, i.bytes)) = some (some z, k, bytes)) (hzs : z.cells.size = k) (hsz : 0 < k)
    (R : List Value → α → Prop) (v : Value) (l : List α) (hs : a.eval s = v) (hown : Own w B e k R v l) (A : Option Addr) (c0 : Nat) (m : List α) (hx : a.eval x = .slice A m.length c0) (hsl : Slc w k z0 R A c0 m) (hone : ∀ cs y, R cs y → ∀ u ∈ cs, u.oneCell' = true)
    (hbytes : (l.length + m.length) * bytes ≤ 140737488355328) (hbz : 1 ≤ bytes) (hbase : B ≤ w.heap.size)
    (h : ∀ v' w', Own w' B e k R v' (l ++ m) → w.grownBy w' v.ownBlock → K (a.put o.dst v') w') :
    if Region.wanted o (yielded ops a.tmps) = true then Oper.wp P o a w K Q else E := by
  have hw : Region.wanted o (yielded ops a.tmps) = true := by simp [Region.wanted, hgd]
  rw [if_pos hw]
  obtain ⟨v', w', hr, h1, h2⟩ := append_all_run (P := P) (w := w) t o.type B e z k bytes z0 ht hinfo hzs hsz R v l hown A c0 m hsl hone hbytes hbz hbase
  exact Lib.wp_append_run w s x t t ho v _ hs hx v' w' hr (h v' w' h1 h2)
end
end Go.Proofs.YtcbomomlojhghaaDoor
