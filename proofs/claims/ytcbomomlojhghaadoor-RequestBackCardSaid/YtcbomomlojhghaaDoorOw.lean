/- A slice that the call itself makes by appending elements of k cells: what it reads as, and the laws of append. -/
import Derived.Test.YtcbomomlojhghaaDoorPk
namespace Go.Proofs.YtcbomomlojhghaaDoor
set_option linter.unusedSimpArgs false
set_option linter.unusedVariables false
open Go.RowKit

/-- slice value v owns its row (in blocks from B on, element type e); it reads as l -/
def Own {α : Type} (w : World) (B : Nat) (e : TypeId) (k : Nat) (R : List Value → α → Prop) (v : Value) (l : List α) : Prop :=
  ∃ css : List (List Value), css.length = l.length ∧ (∀ (i : Nat) (cs : List Value) (x : α), css[i]? = some cs → l[i]? = some x → R cs x ∧ cs.length = k) ∧ w.ownsRow B e k v l.length css.flatten
theorem flat_at {α : Type} {k : Nat} : ∀ {css : List (List α)}, (∀ cs ∈ css, cs.length = k) → ∀ {i j : Nat} {cs : List α} {v : α}, css[i]? = some cs → cs[j]? = some v → css.flatten[i * k + j]? = some v
  | c :: css, h, 0, j, cs, v, hi, hj => by
    simp only [List.getElem?_cons_zero, Option.some.injEq] at hi
    subst hi
    rw [List.flatten_cons, Nat.zero_mul, Nat.zero_add, List.getElem?_append_left (List.getElem?_eq_some_iff.1 hj).1]
    exact hj
  | c :: css, h, i + 1, j, cs, v, hi, hj => by
    simp only [List.getElem?_cons_succ] at hi
    have hc : c.length = k := h c (List.mem_cons_self ..)
    rw [List.flatten_cons, List.getElem?_append_right (by rw [hc, Nat.succ_mul]; omega), hc, show (i + 1) * k + j - k = i * k + j from by rw [Nat.succ_mul]; omega]
    exact flat_at (fun cs hcs => h cs (List.mem_cons_of_mem _ hcs)) hi hj
theorem own_lens {α : Type} {css : List (List Value)} {l : List α} {k : Nat} {R : List Value → α → Prop} (hl : css.length = l.length) (h : ∀ (i : Nat) (cs : List Value) (x : α), css[i]? = some cs → l[i]? = some x → R cs x ∧ cs.length = k) : ∀ cs ∈ css, cs.length = k := fun cs hcs => by
  obtain ⟨i, hi, rfl⟩ := List.mem_iff_getElem.1 hcs
  exact (h i _ _ (List.getElem?_eq_getElem hi) (List.getElem?_eq_getElem (by omega : i < l.length))).2
section
variable {α : Type} {w w' : World} {B : Nat} {e : TypeId} {k z : Nat} {R R' : List Value → α → Prop} {v : Value} {l : List α}
theorem Own.nil_ (w : World) (B : Nat) (e : TypeId) (k : Nat) (R : List Value → α → Prop) : Own w B e k R (.slice none 0 0) [] :=
  ⟨[], rfl, fun i cs x h => by simp at h, ⟨by simp, .inl ⟨rfl, rfl⟩⟩⟩
theorem Own.slc (h : Own w B e k R v l) (hz : l.length * z ≤ 140737488351232) : ∃ A c, v = .slice A l.length c ∧ Slc w k z R A c l := by
  obtain ⟨css, hl, hR, hlen, ho⟩ := h
  rcases ho with ⟨rfl, h0⟩ | ⟨g, cap, cur, rfl, hb, hg, hnc, hcm, hcs, hxs⟩
  · have : l = [] := List.eq_nil_of_length_eq_zero h0
    subst this
    exact ⟨none, 0, rfl, Slc.nil_ (by omega)⟩
  · refine ⟨_, cap, rfl, hnc, by unfold maxLen at hcm; omega, hz, fun _ => ⟨g, 0, rfl, fun i x hi => ?_⟩⟩
    have hil : i < l.length := (List.getElem?_eq_some_iff.1 hi).1
    have hci : css[i]? = some (css[i]'(by omega)) := List.getElem?_eq_getElem (by omega)
    obtain ⟨h1, h2⟩ := hR i _ x hci hi
    refine ⟨_, h1, h2, fun j u hj => ?_⟩
    have h3 := flat_at (own_lens hl hR) hci hj
    rw [Nat.zero_add, cell_of_row w g (i * k + j) cur e (0, 0) hg]
    rw [← hxs] at h3
    have h4 : i * k + j < l.length * k := by
      have := (List.getElem?_eq_some_iff.1 hj).1
      have h5 : (i + 1) * k ≤ l.length * k := Nat.mul_le_mul_right k hil
      rw [Nat.succ_mul] at h5
      omega
    rw [List.getElem?_take_of_lt h4] at h3
    simpa using h3
theorem Own.mono (h : Own w B e k R v l) (hR : ∀ cs x, R cs x → R' cs x) : Own w B e k R' v l := by
  obtain ⟨css, hl, hR', ho⟩ := h
  exact ⟨css, hl, fun i cs x h1 h2 => let ⟨a, b⟩ := hR' i cs x h1 h2; ⟨hR _ _ a, b⟩, ho⟩
theorem Own.base (h : Own w B e k R v l) {g : Nat} (hg : v.ownBlock = some g) : B ≤ g ∧ ∃ cur, w.heap[g]? = some (.cells cur e (0, 0)) := by
  obtain ⟨css, hl, hR', hlen, ho⟩ := h
  rcases ho with ⟨rfl, h0⟩ | ⟨g', cap, cur, rfl, hb, hg', _⟩
  · simp [Value.ownBlock] at hg
  · obtain rfl : g' = g := by simpa [Value.ownBlock] using hg
    exact ⟨hb, cur, hg'⟩
/-- a world in which the own block is as it was -/
theorem Own.same (h : Own w B e k R v l) (hb : ∀ g, v.ownBlock = some g → w'.heap[g]? = w.heap[g]?) : Own w' B e k R v l := by
  obtain ⟨css, hl, hR', hlen, ho⟩ := h
  refine ⟨css, hl, hR', hlen, ?_⟩
  rcases ho with ⟨rfl, h0⟩ | ⟨g, cap, cur, rfl, hb', hg, hrest⟩
  · exact .inl ⟨rfl, h0⟩
  · exact .inr ⟨g, cap, cur, rfl, hb', (hb g rfl).trans hg, hrest⟩
theorem heap_lt {w : World} {g : Nat} {o : Obj} (h : w.heap[g]? = some o) : g < w.heap.size := by
  rcases Nat.lt_or_ge g w.heap.size with hlt | hge
  · exact hlt
  · rw [Array.getElem?_eq_none hge] at h; cases h
theorem Own.alloc (h : Own w B e k R v l) (o : Obj) : Own (w.alloc o) B e k R v l := h.same fun g hg => let ⟨_, _, hc⟩ := h.base hg; Below.heap_alloc w o g (heap_lt hc)
theorem Own.drewN (h : Own w B e k R v l) (n : Nat) : Own (w.drewN n) B e k R v l := h.same fun _ _ => rfl
theorem Own.drew (h : Own w B e k R v l) : Own w.drew B e k R v l := h.same fun _ _ => rfl
theorem Own.next (h : Own w B e k R v l) (hb : Below w.heap.size w w') : Own w' B e k R v l := h.same fun g hg => let ⟨_, _, hc⟩ := h.base hg; hb.block g (heap_lt hc)
theorem Own.grown (h : Own w B e k R v l) {row : Option Nat} (hg : w.grownBy w' row) (hr : ∀ g cur, row = some g → w.heap[g]? ≠ some (.cells cur e (0, 0))) : Own w' B e k R v l :=
  h.same fun g hv => let ⟨_, cur, hc⟩ := h.base hv; hg.block g (heap_lt hc) (fun he => hr g cur he.symm hc)
theorem Own.setCell (h : Own w B e k R v l) {p : Addr} (hp : ∀ cur, w.heap[p.block]? ≠ some (.cells cur e (0, 0))) (u : Value) : Own (w.setCell p u) B e k R v l :=
  h.same fun g hv => let ⟨_, cur, hc⟩ := h.base hv; Below.heap_setCell w p u g (fun he => hp cur (he ▸ hc))
/-- a row of this element type: another one's block holds another type -/
theorem Own.far {β : Type} {e' : TypeId} {k' : Nat} {R2 : List Value → β → Prop} {v2 : Value} {l2 : List β} (h : Own w B e k R v l) (h2 : Own w B e' k' R2 v2 l2) (hne : e ≠ e') (hg : w.grownBy w' v2.ownBlock) : Own w' B e k R v l :=
  h.grown hg fun g cur hv hc => by
    obtain ⟨_, cur', hc'⟩ := h2.base hv
    rw [hc] at hc'
    injection hc' with hc'
    injection hc' with _ ht
    exact hne ht
theorem Own.blk (h : Own w B e k R v l) {g t : Nat} {cs : Array Value} (hB : Blk w g t cs) (hne : e ≠ t) (hg : w.grownBy w' v.ownBlock) : Blk w' g t cs := by
  refine hB.grown hg fun he => ?_
  obtain ⟨_, cur, hc⟩ := h.base he.symm
  unfold Blk at hB
  rw [hB] at hc
  injection hc with hc
  injection hc with _ ht
  exact hne ht.symm
theorem Own.below (h : Own w B e k R v l) {w0 : World} (hb : Below B w0 w) (hB : B ≤ w.heap.size) (hg : w.grownBy w' v.ownBlock) : Below B w0 w' :=
  hb.trans ⟨hg.os, hg.tape, hg.output, hg.size, fun i hi => hg.block i (by omega) (fun e => by have := (h.base e.symm).1; omega)⟩
end
theorem grown_undrew {w w' : World} {row : Option Nat} (h : w.drew.grownBy w' row) : w.grownBy w' row := ⟨h.os, h.tape, h.output, h.size, h.block⟩
/-- every block of these element types stays as it was -/
def KeepB (T : Nat → Prop) (w w' : World) : Prop := ∀ (g t : Nat) (cs : Array Value), w.heap[g]? = some (.cells cs t (0, 0)) → T t → w'.heap[g]? = w.heap[g]?
section
variable {T : Nat → Prop} {w w1 w2 w' : World}
theorem KeepB.refl (T : Nat → Prop) (w : World) : KeepB T w w := fun _ _ _ _ _ => rfl
theorem KeepB.trans (h : KeepB T w w1) (k : KeepB T w1 w2) : KeepB T w w2 := fun g t cs hg ht => (k g t cs ((h g t cs hg ht).trans hg) ht).trans (h g t cs hg ht)
theorem KeepB.of_below (hb : Below w.heap.size w w') : KeepB T w w' := fun g _ _ hg _ => hb.block g (heap_lt hg)
theorem KeepB.alloc (o : Obj) : KeepB T w (w.alloc o) := fun g _ _ hg _ => Below.heap_alloc w o g (heap_lt hg)
theorem KeepB.drewN (n : Nat) : KeepB T w (w.drewN n) := fun _ _ _ _ _ => rfl
theorem KeepB.setCell {p : Addr} {cs : Array Value} {t : Nat} (hp : w.heap[p.block]? = some (.cells cs t (0, 0))) (hT : ¬ T t) (u : Value) : KeepB T w (w.setCell p u) := fun g t' cs' hg ht =>
  Below.heap_setCell w p u g (fun he => by
    subst he
    rw [hp] at hg
    injection hg with hg
    injection hg with _ h2
    exact hT (h2 ▸ ht))
theorem KeepB.blk (h : KeepB T w w') {g t : Nat} {cs : Array Value} (hB : Blk w g t cs) (hT : T t) : Blk w' g t cs := (h g t cs hB hT).trans hB
theorem KeepB.own {α : Type} (h : KeepB T w w') {B : Nat} {e : TypeId} {k : Nat} {R : List Value → α → Prop} {v : Value} {l : List α} (ho : Own w B e k R v l) (hT : T e) : Own w' B e k R v l :=
  ho.same fun g hg => let ⟨_, cur, hc⟩ := ho.base hg; h g e cur hc hT
theorem Own.keep {α : Type} {B : Nat} {e : TypeId} {k : Nat} {R : List Value → α → Prop} {v : Value} {l : List α} (ho : Own w B e k R v l) (hg : w.grownBy w' v.ownBlock) (hT : ¬ T e) : KeepB T w w' := fun g t cs hc ht =>
  hg.block g (heap_lt hc) (fun he => by
    obtain ⟨_, cur, hc'⟩ := ho.base he.symm
    rw [hc] at hc'
    injection hc' with hc'
    injection hc' with _ h2
    exact hT (h2 ▸ ht))
end
theorem encK_one (r : Raw) (p : Pkg) : ∀ u ∈ encK r p, u.oneCell' = true := by simp [encK, Value.oneCell']
theorem encE_one (r : Raw) (p : Ent) : ∀ u ∈ encE r p, u.oneCell' = true := by simp [encE, Value.oneCell']
theorem encA_one (p : Atm) : ∀ u ∈ encA p, u.oneCell' = true := by simp [encA, Value.oneCell']
theorem encP_one (p : Prv) : ∀ u ∈ encP p, u.oneCell' = true := by simp [encP, Value.oneCell']
theorem encV_one (p : Vio) : ∀ u ∈ encV p, u.oneCell' = true := by simp [encV, Value.oneCell']
section
variable {P : Program} {w : World}
/-- append of one element that lies in a block of its own -/
theorem Own.appended {α : Type} {w' : World} {B : Nat} {e : TypeId} {k : Nat} {R : List Value → α → Prop} {v' : Value} {l : List α} {cs : List Value} {x : α} {css : List (List Value)} (hl : css.length = l.length)
    (hR : ∀ (i : Nat) (cs : List Value) (x : α), css[i]? = some cs → l[i]? = some x → R cs x ∧ cs.length = k) (hx : R cs x) (hc : cs.length = k) (ho : w'.ownsRow B e k v' (l.length + 1) (css.flatten ++ cs)) : Own w' B e k R v' (l ++ [x]) := by
  refine ⟨css ++ [cs], by simp [hl], fun i cs' x' h1 h2 => ?_, by simpa using ho⟩
  rcases Nat.lt_or_ge i l.length with hi | hi
  · rw [List.getElem?_append_left (by omega)] at h1
    rw [List.getElem?_append_left hi] at h2
    exact hR i cs' x' h1 h2
  · have hil := (List.getElem?_eq_some_iff.1 h2).1
    simp at hil
    obtain rfl : i = l.length := by omega
    rw [List.getElem?_append_right (by omega), hl] at h1
    rw [List.getElem?_append_right (by omega)] at h2
    simp at h1 h2
    subst h1 h2
    exact ⟨hx, hc⟩
theorem wpList_append_el {α : Type} {ops : Array Oper} {rest : List Oper} {o : Oper} {a : Act} {Q : Exit → Act → World → Prop} (hgd : o.guard = none) (s x : Operand) (t : TypeId)
    (ho : o.op = .call { callee := .builtin .append, args := #[s, x], argTypes := #[t, t] })
    (B : Nat) (e : TypeId) (z : Value) (k bytes : Nat) (ht : P.underlying t = some (.slice e)) (hinfo : (P.info? e).map (fun i => (i.zero, i.size, i.bytes)) = some (some z, k, bytes)) (hzs : z.cells.size = k) (hsz : 0 < k)
    (R : List Value → α → Prop) (v : Value) (l : List α) (hs : a.eval s = v) (hown : Own w B e k R v l)
    (y : α) (cs : List Value) (g0 c0 : Nat) (hx : a.eval x = .slice (some ⟨g0, 0, none⟩) 1 c0) (hg0 : w.heap[g0]? = some (.cells cs.toArray e (0, 0))) (hy : R cs y) (hlen : cs.length = k) (h1 : ∀ u ∈ cs, u.oneCell' = true)
    (hbytes : (l.length + 1) * bytes ≤ 140737488355328) (hbz : 1 ≤ bytes) (hbase : B ≤ w.heap.size)
    (h : ∀ g cap w', Own w' B e k R (.slice (some ⟨g, 0, none⟩) (l.length + 1) cap) (l ++ [y]) → w.grownBy w' v.ownBlock → wpList P ops Q rest (a.put o.dst (.slice (some ⟨g, 0, none⟩) (l.length + 1) cap)) w') : wpList P ops Q (o :: rest) a w := by
  obtain ⟨i, hi, hz0, hz1, hz2⟩ := info_parts hinfo
  obtain ⟨css, hl, hR, hrow⟩ := hown
  refine wpList_append_lies w hgd s x t ho B e i z k bytes ht hi hz0 hz1 hz2 hzs hsz v l.length css.flatten hs hrow ⟨g0, 0, none⟩ 1 c0 cs hx (by omega) (fun j u hj => ?_) h1 (by omega) ?_ hbytes hbase _ rfl fun g cap w' h2 h3 _ _ => h g cap w' ?_ h3
  · rw [Addr.add_mid, cell_of_row w g0 (0 + j) cs.toArray e (0, 0) hg0, Nat.zero_add]
    simpa using hj
  · have : (l.length + 1) * 1 ≤ (l.length + 1) * bytes := Nat.mul_le_mul_left _ hbz
    unfold maxLen
    omega
  · exact Own.appended hl hR hy hlen h2
theorem step_append_el {α : Type} {ops : Array Oper} {o : Oper} {a : Act} {K : Act → World → Prop} {Q : Exit → Act → World → Prop} {E : Prop} (hgd : o.guard = none) (s x : Operand) (t : TypeId)
    (ho : o.op = .call { callee := .builtin .append, args := #[s, x], argTypes := #[t, t] })
    (B : Nat) (e : TypeId) (z : Value) (k bytes : Nat) (ht : P.underlying t = some (.slice e)) (hinfo : (P.info? e).map (fun i => (i.zero, i.size, i.bytes)) = some (some z, k, bytes)) (hzs : z.cells.size = k) (hsz : 0 < k)
    (R : List Value → α → Prop) (v : Value) (l : List α) (hs : a.eval s = v) (hown : Own w B e k R v l)
    (y : α) (cs : List Value) (g0 c0 : Nat) (hx : a.eval x = .slice (some ⟨g0, 0, none⟩) 1 c0) (hg0 : w.heap[g0]? = some (.cells cs.toArray e (0, 0))) (hy : R cs y) (hlen : cs.length = k) (h1 : ∀ u ∈ cs, u.oneCell' = true)
    (hbytes : (l.length + 1) * bytes ≤ 140737488355328) (hbz : 1 ≤ bytes) (hbase : B ≤ w.heap.size)
    (h : ∀ g cap w', Own w' B e k R (.slice (some ⟨g, 0, none⟩) (l.length + 1) cap) (l ++ [y]) → w.grownBy w' v.ownBlock → K (a.put o.dst (.slice (some ⟨g, 0, none⟩) (l.length + 1) cap)) w') :
    if Region.wanted o (yielded ops a.tmps) = true then Oper.wp P o a w K Q else E := by
  obtain ⟨i, hi, hz0, hz1, hz2⟩ := info_parts hinfo
  obtain ⟨css, hl, hR, hrow⟩ := hown
  refine step_append_lies w hgd s x t ho B e i z k bytes ht hi hz0 hz1 hz2 hzs hsz v l.length css.flatten hs hrow ⟨g0, 0, none⟩ 1 c0 cs hx (by omega) (fun j u hj => ?_) h1 (by omega) ?_ hbytes hbase _ rfl fun g cap w' h2 h3 _ _ => h g cap w' ?_ h3
  · rw [Addr.add_mid, cell_of_row w g0 (0 + j) cs.toArray e (0, 0) hg0, Nat.zero_add]
    simpa using hj
  · have : (l.length + 1) * 1 ≤ (l.length + 1) * bytes := Nat.mul_le_mul_left _ hbz
    unfold maxLen
    omega
  · exact Own.appended hl hR hy hlen h2
end
end Go.Proofs.YtcbomomlojhghaaDoor
