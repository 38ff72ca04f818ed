/- Edges appended to rows of the call's own. -/
import Derived.Test.YtodhianmaogfpaaScJ
import Derived.Test.YtodhianmaogfpaaTjH
import Derived.BigQuiet
import Derived.Deep.AppendLies
namespace Go.Proofs.Ytodhianmaogfpaa
set_option linter.unusedSimpArgs false
set_option linter.unusedVariables false
open Go.RowKit
attribute [local go_sem ↓] Go.wp_at_zero Go.wp_at_succ
attribute [local irreducible] wpQuiet
/-- edges as cells -/
def edgC (l : List (Int × Int)) : List Value := l.flatMap fun e => [.int .i64 e.1, .int .i64 e.2]
theorem edgC_app (l m : List (Int × Int)) : edgC (l ++ m) = edgC l ++ edgC m := by simp [edgC]
theorem edgC_len (l : List (Int × Int)) : (edgC l).length = l.length * 2 := by
  unfold edgC
  induction l with
  | nil => rfl
  | cons a l ih => rw [List.flatMap_cons, List.length_append, ih]; simp; omega
theorem edgC_one (l : List (Int × Int)) : ∀ u ∈ edgC l, u.oneCell' = true := fun u hu => by
  obtain ⟨e, _, h⟩ := List.mem_flatMap.1 hu
  simp at h
  rcases h with rfl | rfl <;> rfl
theorem own_edg {w : World} {B t : Nat} {v : Value} {l : List (Int × Int)} (h : Own w B t 2 REdge v l) : w.ownsRow B t 2 v l.length (edgC l) := by
  obtain ⟨css, hl, hR, ho⟩ := h
  have : css.flatten = edgC l := by
    have hc : css = l.map fun e => [.int .i64 e.1, .int .i64 e.2] := by
      apply List.ext_getElem (by simpa using hl)
      intro i h1 h2
      have hi : i < l.length := by simpa using h2
      obtain ⟨h3, _⟩ := hR i _ _ (List.getElem?_eq_getElem h1) (List.getElem?_eq_getElem hi)
      rw [List.getElem_map]
      exact h3
    rw [hc, edgC, List.flatMap_def]
  rw [← this]
  exact ho
theorem edg_own {w : World} {B t : Nat} {v : Value} {l : List (Int × Int)} (h : w.ownsRow B t 2 v l.length (edgC l)) : Own w B t 2 REdge v l := by
  refine ⟨l.map fun e => [.int .i64 e.1, .int .i64 e.2], by simp, fun i cs x h1 h2 => ?_, ?_⟩
  · rw [List.getElem?_map, h2] at h1
    simp at h1
    subst h1
    exact ⟨rfl, rfl⟩
  · rw [← List.flatMap_def]
    exact h
theorem infEdg : (Try.prog.info? 29).map (fun i => (i.zero, i.size, i.bytes)) = some (some (.agg #[.int .i64 0, .int .i64 0]), 2, 16) := by kernel_rfl
theorem wpList_edges {w : World} {ops : Array Oper} {rest : List Oper} {o : Oper} {a : Act} {Q : Exit → Act → World → Prop} (hgd : o.guard = none) (s x : Operand)
    (ho : o.op = .call { callee := .builtin .append, args := #[s, x], argTypes := #[22, 22] }) (B : Nat) (v : Value) (l : List (Int × Int)) (hs : a.eval s = v) (hown : Own w B 29 2 REdge v l)
    (ys : List (Int × Int)) (g0 c0 m : Nat) (hm : m = ys.length) (hx : a.eval x = .slice (some ⟨g0, 0, none⟩) m c0) (hg0 : w.heap[g0]? = some (.cells (edgC ys).toArray 29 (0, 0))) (hpos : 0 < ys.length) (hlen : l.length + ys.length ≤ 1000000) (hbase : B ≤ w.heap.size)
    (h : ∀ g cap w', Own w' B 29 2 REdge (.slice (some ⟨g, 0, none⟩) (l.length + m) cap) (l ++ ys) → w.grownBy w' v.ownBlock → (v.ownBlock = some g ∨ g = w.heap.size) → wpList Try.prog ops Q rest (a.put o.dst (.slice (some ⟨g, 0, none⟩) (l.length + m) cap)) w') : wpList Try.prog ops Q (o :: rest) a w := by
  subst hm
  obtain ⟨i, hi, hz0, hz1, hz2⟩ := info_parts infEdg
  refine wpList_append_lies w hgd s x _ ho B _ i _ 2 16 Try.underlying22 hi hz0 hz1 hz2 rfl (by omega) v l.length (edgC l) hs (own_edg hown) ⟨g0, 0, none⟩ ys.length c0 (edgC ys) hx (edgC_len _) (fun j u hj => ?_) (edgC_one _) hpos (by unfold maxLen; omega) (by omega) hbase _ rfl fun g cap w' h2 h3 h4 _ => h g cap w' ?_ h3 h4
  · rw [Addr.add_mid, cell_of_row w g0 (0 + j) _ _ (0, 0) hg0, Nat.zero_add]
    simpa using hj
  · rw [← edgC_app] at h2
    have h2' := h2
    rw [← List.length_append] at h2' ⊢
    exact edg_own h2'
/-- two rows of the call's own, apart -/
structure Two (B : Nat) (w : World) (va : Value) (la : List (Int × Int)) (vb : Value) (lb : List (Int × Int)) : Prop where
  a : Own w B 29 2 REdge va la
  b : Own w B 29 2 REdge vb lb
  apart : ∀ g, va.ownBlock = some g → vb.ownBlock ≠ some g
section
variable {B : Nat} {w w' : World} {va vb : Value} {la lb : List (Int × Int)}
theorem Two.swap (h : Two B w va la vb lb) : Two B w vb lb va la := ⟨h.b, h.a, fun g h1 h2 => h.apart g h2 h1⟩
theorem Two.alloc (h : Two B w va la vb lb) (o : Obj) : Two B (w.alloc o) va la vb lb := ⟨h.a.alloc o, h.b.alloc o, h.apart⟩
theorem Two.app (h : Two B w va la vb lb) {g n cap : Nat} {l' : List (Int × Int)} (ho : Own w' B 29 2 REdge (.slice (some ⟨g, 0, none⟩) n cap) l') (hg : w.grownBy w' va.ownBlock) (hat : va.ownBlock = some g ∨ g = w.heap.size) : Two B w' (.slice (some ⟨g, 0, none⟩) n cap) l' vb lb := by
  refine ⟨ho, h.b.same fun k hk => ?_, fun k hk hk2 => ?_⟩
  · obtain ⟨_, cur, hc⟩ := h.b.base hk
    exact hg.block k (heap_lt hc) fun he => h.apart k he.symm hk
  · obtain rfl : g = k := by simpa [Value.ownBlock] using hk
    rcases hat with h1 | h1
    · exact h.apart g h1 hk2
    · obtain ⟨_, cur, hc⟩ := h.b.base hk2
      have := heap_lt hc
      omega
theorem Two.lt (h : Two B w va la vb lb) : ∀ g, va.ownBlock = some g → B ≤ g ∧ g < w.heap.size := fun g hg => by
  obtain ⟨h1, cur, hc⟩ := h.a.base hg
  exact ⟨h1, heap_lt hc⟩
theorem Two.below (h : Two B w va la vb lb) {w0 : World} (hb : Below B w0 w) (hB : B ≤ w.heap.size) (hg : w.grownBy w' va.ownBlock) : Below B w0 w' := hb.grown hg hB fun k hk => (h.lt k hk).1
end
theorem rev_at {l : List (Int × Int)} {k : Nat} (hk : k < l.length) {x : Int × Int} (hx : l[l.length - 1 - k]? = some x) : l.reverse[k]? = some x := by
  rw [List.getElem?_reverse hk]; exact hx
end Go.Proofs.Ytodhianmaogfpaa
