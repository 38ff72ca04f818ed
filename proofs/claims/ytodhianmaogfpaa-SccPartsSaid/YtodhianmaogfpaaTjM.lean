/- Each node in just one component: the numbers that the law SccParts writes. -/
import Derived.Test.YtodhianmaogfpaaTjL
namespace Go.Proofs.Ytodhianmaogfpaa
set_option linter.unusedSimpArgs false
set_option linter.unusedVariables false
/-- the nodes in order of their components, as far as the first k components and j nodes of the next go -/
def seenL (out : List (List Nat)) (k j : Nat) : List Nat := (out.take k).flatten ++ ((out[k]?.getD []).take j)
theorem seen_zero (out : List (List Nat)) : seenL out 0 0 = [] := by simp [seenL]
theorem seen_next {out : List (List Nat)} {k j x : Nat} {c : List Nat} (hc : out[k]? = some c) (hx : c[j]? = some x) : seenL out k (j + 1) = seenL out k j ++ [x] := by
  unfold seenL
  rw [hc, Option.getD_some, take_step hx, List.append_assoc]
theorem seen_end {out : List (List Nat)} {k : Nat} {c : List Nat} (hc : out[k]? = some c) : seenL out k c.length = seenL out (k + 1) 0 := by
  unfold seenL
  rw [hc, Option.getD_some, List.take_length, take_step hc, List.flatten_append]
  simp
theorem CI.flat_nd {n : Nat} {G : Nat → Nat → Bool} {out : List (List Nat)} (h : CI n G out) (hG : Gr n G) : out.flatten.Pairwise (· ≠ ·) := by
  rw [List.pairwise_flatten]
  refine ⟨fun c hc => ?_, ?_⟩
  · obtain ⟨i, _, rfl⟩ := h.each c hc
    exact ((range_lt n).filter _).imp fun h => by omega
  · refine h.ord.imp_of_mem fun {a b} ha _ hab x hx y hy he => ?_
    subst he
    obtain ⟨i, _, rfl⟩ := h.each a ha
    have := hab x hx x hy
    rw [hG.rf x (mem_comp.1 hx).1] at this
    cases this
theorem CI.flat_mem {n : Nat} {G : Nat → Nat → Bool} {out : List (List Nat)} (h : CI n G out) (x : Nat) : x ∈ out.flatten ↔ x < n := by
  rw [List.mem_flatten]
  constructor
  · rintro ⟨c, hc, hx⟩
    obtain ⟨i, _, rfl⟩ := h.each c hc
    exact (mem_comp.1 hx).1
  · intro hx
    obtain ⟨c, hc, hm⟩ := h.all x hx
    exact ⟨c, hc, hm⟩
theorem CI.flat_len {n : Nat} {G : Nat → Nat → Bool} {out : List (List Nat)} (h : CI n G out) (hG : Gr n G) : out.flatten.length = n := by
  have h1 := len_sub (m := List.range n) (h.flat_nd hG) fun x hx => List.mem_range.2 ((h.flat_mem x).1 hx)
  have h2 := len_sub (l := List.range n) (m := out.flatten) ((range_lt n).imp fun h => by omega) fun x hx => (h.flat_mem x).2 (List.mem_range.1 hx)
  rw [List.length_range] at h1 h2
  omega
theorem CI.asc {n : Nat} {G : Nat → Nat → Bool} {out : List (List Nat)} (h : CI n G out) {c : List Nat} (hc : c ∈ out) {j x y : Nat} (hx : c[j]? = some x) (hy : c[j + 1]? = some y) : x < y := by
  obtain ⟨i, _, rfl⟩ := h.each c hc
  have hp : (compS n G i).Pairwise (· < ·) := (range_lt n).filter _
  obtain ⟨h1, e1⟩ := List.getElem?_eq_some_iff.1 hx
  obtain ⟨h2, e2⟩ := List.getElem?_eq_some_iff.1 hy
  rw [← e1, ← e2]
  exact List.pairwise_iff_getElem.1 hp j (j + 1) h1 h2 (by omega)
/-- the number of a node's component -/
def ixC (out : List (List Nat)) (v : Nat) : Nat := out.findIdx fun c => c.contains v
theorem CI.ix {n : Nat} {G : Nat → Nat → Bool} {out : List (List Nat)} (h : CI n G out) (hG : Gr n G) {k x : Nat} {c : List Nat} (hk : out[k]? = some c) (hx : x ∈ c) : ixC out x = k := by
  obtain ⟨h1, e1⟩ := List.getElem?_eq_some_iff.1 hk
  have hxn : x < n := (h.flat_mem x).1 (List.mem_flatten.2 ⟨c, List.mem_of_getElem? hk, hx⟩)
  have hlt : ixC out x < out.length := List.findIdx_lt_length_of_exists ⟨c, List.mem_of_getElem? hk, by rw [List.contains_iff_mem]; exact hx⟩
  have hp : (out[ixC out x]).contains x = true := List.findIdx_getElem (w := hlt)
  rw [List.contains_iff_mem] at hp
  have hord := List.pairwise_iff_getElem.1 h.ord
  rcases Nat.lt_trichotomy (ixC out x) k with h2 | h2 | h2
  · have := hord _ _ hlt h1 h2 x hp x (by rw [e1]; exact hx)
    rw [hG.rf x hxn] at this
    cases this
  · exact h2
  · have := hord _ _ h1 hlt h2 x (by rw [e1]; exact hx) x hp
    rw [hG.rf x hxn] at this
    cases this
/-- what stands in the array -/
def ofF (out : List (List Nat)) (k j v : Nat) : Nat := if v ∈ seenL out k j then ixC out v + 1 else 0
theorem of_zero (out : List (List Nat)) : ofF out 0 0 = fun _ => 0 := by funext v; simp [ofF, seen_zero]
theorem CI.of_step {n : Nat} {G : Nat → Nat → Bool} {out : List (List Nat)} (h : CI n G out) (hG : Gr n G) {k j x : Nat} {c : List Nat} (hc : out[k]? = some c) (hx : c[j]? = some x) : ofF out k (j + 1) = upf (ofF out k j) x (k + 1) := by
  funext v
  unfold ofF
  rw [seen_next hc hx]
  by_cases e : v = x
  · subst e
    rw [upf_at, if_pos (by simp), h.ix hG hc (List.mem_of_getElem? hx)]
  · rw [upf_ne e]
    simp [e]
/-- whoever is reached stands no later -/
theorem CI.ix_le {n : Nat} {G : Nat → Nat → Bool} {out : List (List Nat)} (h : CI n G out) (hG : Gr n G) {x y : Nat} (hx : x < n) (hy : y < n) (hg : G x y = true) : ixC out y ≤ ixC out x := by
  obtain ⟨c, hc, hxc⟩ := h.all x hx
  obtain ⟨d, hd, hyd⟩ := h.all y hy
  obtain ⟨i, hi⟩ := List.getElem?_of_mem hc
  obtain ⟨j, hj⟩ := List.getElem?_of_mem hd
  rw [h.ix hG hi hxc, h.ix hG hj hyd]
  obtain ⟨h1, e1⟩ := List.getElem?_eq_some_iff.1 hi
  obtain ⟨h2, e2⟩ := List.getElem?_eq_some_iff.1 hj
  rcases Nat.lt_or_ge i j with h3 | h3
  · have := List.pairwise_iff_getElem.1 h.ord i j h1 h2 h3 x (by rw [e1]; exact hxc) y (by rw [e2]; exact hyd)
    rw [hg] at this
    cases this
  · exact h3
theorem CI.of_end {n : Nat} {G : Nat → Nat → Bool} {out : List (List Nat)} (h : CI n G out) {x : Nat} (hx : x < n) : ofF out out.length 0 x = ixC out x + 1 := by
  unfold ofF seenL
  rw [List.take_length, if_pos (List.mem_append_left _ ((h.flat_mem x).2 hx))]
theorem CI.fresh {n : Nat} {G : Nat → Nat → Bool} {out : List (List Nat)} (h : CI n G out) (hG : Gr n G) {k j x : Nat} {c : List Nat} (hc : out[k]? = some c) (hx : c[j]? = some x) : x < n ∧ ofF out k j x = 0 := by
  have hm : x ∈ out.flatten := List.mem_flatten.2 ⟨c, List.mem_of_getElem? hc, List.mem_of_getElem? hx⟩
  refine ⟨(h.flat_mem x).1 hm, ?_⟩
  have hsub : (seenL out k (j + 1)).Sublist out.flatten := by
    obtain ⟨hk, rfl⟩ := List.getElem?_eq_some_iff.1 hc
    have e : out.flatten = (out.take k).flatten ++ (out[k] ++ (out.drop (k + 1)).flatten) := by
      conv => lhs; rw [← List.take_append_drop k out, List.drop_eq_getElem_cons hk]
      rw [List.flatten_append, List.flatten_cons]
    unfold seenL
    rw [hc, Option.getD_some, e]
    exact (List.Sublist.refl _).append ((List.take_sublist _ _).trans (List.sublist_append_left _ _))
  have hnd := (h.flat_nd hG).sublist hsub
  rw [seen_next hc hx] at hnd
  unfold ofF
  rw [if_neg fun hmem => ?_]
  exact (List.pairwise_append.1 hnd).2.2 x hmem x (by simp) rfl
theorem seen_len {out : List (List Nat)} {k j x : Nat} {c : List Nat} (hc : out[k]? = some c) (hx : c[j]? = some x) : (seenL out k (j + 1)).length = (seenL out k j).length + 1 := by
  rw [seen_next hc hx]; simp
theorem CI.seen_few {n : Nat} {G : Nat → Nat → Bool} {out : List (List Nat)} (h : CI n G out) (hG : Gr n G) {k j : Nat} {c : List Nat} (hc : out[k]? = some c) (hj : j ≤ c.length) : (seenL out k j).length ≤ n := by
  have hsub : (seenL out k j).Sublist out.flatten := by
    obtain ⟨hk, rfl⟩ := List.getElem?_eq_some_iff.1 hc
    have e : out.flatten = (out.take k).flatten ++ (out[k] ++ (out.drop (k + 1)).flatten) := by
      conv => lhs; rw [← List.take_append_drop k out, List.drop_eq_getElem_cons hk]
      rw [List.flatten_append, List.flatten_cons]
    unfold seenL
    rw [hc, Option.getD_some, e]
    exact (List.Sublist.refl _).append ((List.take_sublist _ _).trans (List.sublist_append_left _ _))
  have := hsub.length_le
  rw [h.flat_len hG] at this
  exact this
theorem CI.seen_all {n : Nat} {G : Nat → Nat → Bool} {out : List (List Nat)} (h : CI n G out) (hG : Gr n G) : (seenL out out.length 0).length = n := by
  unfold seenL
  rw [List.take_length, List.take_zero, List.append_nil, h.flat_len hG]
theorem of_next {out : List (List Nat)} {k : Nat} {c : List Nat} (hc : out[k]? = some c) : ofF out k c.length = ofF out (k + 1) 0 := by
  funext v
  unfold ofF
  rw [seen_end hc]
theorem edge_in {n : Nat} {l : List (Int × Int)} (hl : l.length ≤ 20000) {a b : Nat} (ha : a < n) (hb : b < n) (he : ((a : Int), (b : Int)) ∈ l) : gE n (vE n l) a b = true := by
  have hm : (a, b) ∈ vE n l := by rw [vE_few hl]; exact mem_inE.2 ⟨he, ha, hb⟩
  exact (gE_iff (vE_in n l) ha).2 (.edge (mem_adj.2 hm))
theorem reach_in {n : Nat} {E : List (Nat × Nat)} {b y : Nat} (h : y ∈ reachV n E (b : Int)) : y < n := by
  unfold reachV at h
  split at h
  · exact List.mem_range.1 (List.mem_filter.1 h).1
  · cases h
def inS (re : List Nat) (m v : Nat) : Bool := decide (v ∈ re.take m)
theorem in_zero (re : List Nat) : inS re 0 = fun _ => false := by funext v; simp [inS]
theorem in_step {re : List Nat} {m y : Nat} (h : re[m]? = some y) : inS re (m + 1) = upf (inS re m) y true := by
  funext v
  unfold inS
  rw [take_step h]
  by_cases e : v = y
  · subst e; rw [upf_at]; simp
  · rw [upf_ne e]; simp [e]
end Go.Proofs.Ytodhianmaogfpaa
