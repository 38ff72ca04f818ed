/- append of one number to a row of the call's own, and where the row lies then. -/
import Derived.Test.YtodhianmaogfpaaFmA
import Derived.Deep.RegionLaw
namespace Go.Proofs.Ytodhianmaogfpaa
set_option linter.unusedSimpArgs false
set_option linter.unusedVariables false
open Go.RowKit
section
variable {P : Program} {w : World} {α : Type}
theorem wpList_el2 {ops : Array Oper} {rest : List Oper} {o : Oper} {a : Act} {Q : Exit → Act → World → Prop} (hgd : o.guard = none) (s x : Operand) (t : TypeId)
    (ho : o.op = .call { callee := .builtin .append, args := #[s, x], argTypes := #[t, t] })
    (B : Nat) (e : TypeId) (z : Value) (k bytes : Nat) (ht : P.underlying t = some (.slice e)) (hinfo : (P.info? e).map (fun i => (i.zero, i.size, i.bytes)) = some (some z, k, bytes)) (hzs : z.cells.size = k) (hsz : 0 < k)
    (R : List Value → α → Prop) (v : Value) (l : List α) (hs : a.eval s = v) (hown : Own w B e k R v l)
    (y : α) (cs : List Value) (g0 c0 : Nat) (hx : a.eval x = .slice (some ⟨g0, 0, none⟩) 1 c0) (hg0 : w.heap[g0]? = some (.cells cs.toArray e (0, 0))) (hy : R cs y) (hlen : cs.length = k) (h1 : ∀ u ∈ cs, u.oneCell' = true)
    (hbytes : (l.length + 1) * bytes ≤ 140737488355328) (hbz : 1 ≤ bytes) (hbase : B ≤ w.heap.size)
    (h : ∀ g cap w', Own w' B e k R (.slice (some ⟨g, 0, none⟩) (l.length + 1) cap) (l ++ [y]) → w.grownBy w' v.ownBlock → (v.ownBlock = some g ∨ g = w.heap.size) → wpList P ops Q rest (a.put o.dst (.slice (some ⟨g, 0, none⟩) (l.length + 1) cap)) w') : wpList P ops Q (o :: rest) a w := by
  obtain ⟨i, hi, hz0, hz1, hz2⟩ := info_parts hinfo
  obtain ⟨css, hl, hR, hrow⟩ := hown
  refine wpList_append_lies w hgd s x t ho B e i z k bytes ht hi hz0 hz1 hz2 hzs hsz v l.length css.flatten hs hrow ⟨g0, 0, none⟩ 1 c0 cs hx (by omega) (fun j u hj => ?_) h1 (by omega) ?_ hbytes hbase _ rfl fun g cap w' h2 h3 h4 _ => h g cap w' ?_ h3 h4
  · rw [Addr.add_mid, cell_of_row w g0 (0 + j) cs.toArray e (0, 0) hg0, Nat.zero_add]
    simpa using hj
  · have : (l.length + 1) * 1 ≤ (l.length + 1) * bytes := Nat.mul_le_mul_left _ hbz
    unfold maxLen
    omega
  · exact Own.appended hl hR hy hlen h2
theorem step_el2 {ops : Array Oper} {o : Oper} {a : Act} {K : Act → World → Prop} {Q : Exit → Act → World → Prop} {E : Prop} (hgd : o.guard = none) (s x : Operand) (t : TypeId)
    (ho : o.op = .call { callee := .builtin .append, args := #[s, x], argTypes := #[t, t] })
    (B : Nat) (e : TypeId) (z : Value) (k bytes : Nat) (ht : P.underlying t = some (.slice e)) (hinfo : (P.info? e).map (fun i => (i.zero, i.size, i.bytes)) = some (some z, k, bytes)) (hzs : z.cells.size = k) (hsz : 0 < k)
    (R : List Value → α → Prop) (v : Value) (l : List α) (hs : a.eval s = v) (hown : Own w B e k R v l)
    (y : α) (cs : List Value) (g0 c0 : Nat) (hx : a.eval x = .slice (some ⟨g0, 0, none⟩) 1 c0) (hg0 : w.heap[g0]? = some (.cells cs.toArray e (0, 0))) (hy : R cs y) (hlen : cs.length = k) (h1 : ∀ u ∈ cs, u.oneCell' = true)
    (hbytes : (l.length + 1) * bytes ≤ 140737488355328) (hbz : 1 ≤ bytes) (hbase : B ≤ w.heap.size)
    (h : ∀ g cap w', Own w' B e k R (.slice (some ⟨g, 0, none⟩) (l.length + 1) cap) (l ++ [y]) → w.grownBy w' v.ownBlock → (v.ownBlock = some g ∨ g = w.heap.size) → K (a.put o.dst (.slice (some ⟨g, 0, none⟩) (l.length + 1) cap)) w') :
    if Region.wanted o (yielded ops a.tmps) = true then Oper.wp P o a w K Q else E := by
  obtain ⟨i, hi, hz0, hz1, hz2⟩ := info_parts hinfo
  obtain ⟨css, hl, hR, hrow⟩ := hown
  refine step_append_lies w hgd s x t ho B e i z k bytes ht hi hz0 hz1 hz2 hzs hsz v l.length css.flatten hs hrow ⟨g0, 0, none⟩ 1 c0 cs hx (by omega) (fun j u hj => ?_) h1 (by omega) ?_ hbytes hbase _ rfl fun g cap w' h2 h3 h4 _ => h g cap w' ?_ h3 h4
  · rw [Addr.add_mid, cell_of_row w g0 (0 + j) cs.toArray e (0, 0) hg0, Nat.zero_add]
    simpa using hj
  · have : (l.length + 1) * 1 ≤ (l.length + 1) * bytes := Nat.mul_le_mul_left _ hbz
    unfold maxLen
    omega
  · exact Own.appended hl hR hy hlen h2
end
section
variable {w : World}
/-- a number appended to a row, in a list of operations -/
theorem list_row {ops : Array Oper} {rest : List Oper} {o : Oper} {a : Act} {Q : Exit → Act → World → Prop} (hgd : o.guard = none) (s x : Operand) (t : TypeId)
    (ho : o.op = .call { callee := .builtin .append, args := #[s, x], argTypes := #[t, t] }) (ht : Try.prog.underlying t = some (.slice 3)) (B : Nat) (v : Value) (l : List Nat) (hs : a.eval s = v) (hown : Row w B v l)
    (y g0 c0 : Nat) (hx : a.eval x = .slice (some ⟨g0, 0, none⟩) 1 c0) (hg0 : w.heap[g0]? = some (.cells #[.int .i64 y] 3 (0, 0))) (hlen : l.length ≤ 1000000000) (hbase : B ≤ w.heap.size)
    (h : ∀ g cap w', Row w' B (.slice (some ⟨g, 0, none⟩) (l.length + 1) cap) (l ++ [y]) → w.grownBy w' v.ownBlock → (v.ownBlock = some g ∨ g = w.heap.size) → wpList Try.prog ops Q rest (a.put o.dst (.slice (some ⟨g, 0, none⟩) (l.length + 1) cap)) w') : wpList Try.prog ops Q (o :: rest) a w :=
  wpList_el2 hgd s x t ho B 3 _ 1 8 ht infNat rfl (by omega) RNat v l hs hown y [.int .i64 y] g0 c0 hx hg0 rfl rfl (by simp [Value.oneCell']) (by omega) (by omega) hbase h
/-- .. in a region that draws -/
theorem step_row {ops : Array Oper} {o : Oper} {a : Act} {K : Act → World → Prop} {Q : Exit → Act → World → Prop} {E : Prop} (hgd : o.guard = none) (s x : Operand) (t : TypeId)
    (ho : o.op = .call { callee := .builtin .append, args := #[s, x], argTypes := #[t, t] }) (ht : Try.prog.underlying t = some (.slice 3)) (B : Nat) (v : Value) (l : List Nat) (hs : a.eval s = v) (hown : Row w B v l)
    (y g0 c0 : Nat) (hx : a.eval x = .slice (some ⟨g0, 0, none⟩) 1 c0) (hg0 : w.heap[g0]? = some (.cells #[.int .i64 y] 3 (0, 0))) (hlen : l.length ≤ 1000000000) (hbase : B ≤ w.heap.size)
    (h : ∀ g cap w', Row w' B (.slice (some ⟨g, 0, none⟩) (l.length + 1) cap) (l ++ [y]) → w.grownBy w' v.ownBlock → (v.ownBlock = some g ∨ g = w.heap.size) → K (a.put o.dst (.slice (some ⟨g, 0, none⟩) (l.length + 1) cap)) w') :
    if Region.wanted o (yielded ops a.tmps) = true then Oper.wp Try.prog o a w K Q else E :=
  step_el2 hgd s x t ho B 3 _ 1 8 ht infNat rfl (by omega) RNat v l hs hown y [.int .i64 y] g0 c0 hx hg0 rfl rfl (by simp [Value.oneCell']) (by omega) (by omega) hbase h
end
end Go.Proofs.Ytodhianmaogfpaa
