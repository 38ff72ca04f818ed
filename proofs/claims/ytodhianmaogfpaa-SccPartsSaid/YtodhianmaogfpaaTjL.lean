/- An order: each node once, behind all that its edges lead to. -/
import Derived.Test.YtodhianmaogfpaaTjK
namespace Go.Proofs.Ytodhianmaogfpaa
set_option linter.unusedSimpArgs false
set_option linter.unusedVariables false
theorem nodup_at {h : List Nat} (hp : h.Pairwise (· ≠ ·)) {i j x : Nat} (hi : h[i]? = some x) (hj : h[j]? = some x) : i = j := by
  obtain ⟨h1, e1⟩ := List.getElem?_eq_some_iff.1 hi
  obtain ⟨h2, e2⟩ := List.getElem?_eq_some_iff.1 hj
  rw [List.pairwise_iff_getElem] at hp
  rcases Nat.lt_trichotomy i j with h | h | h
  · exact absurd (e1.trans e2.symm) (hp i j h1 h2 h)
  · exact h
  · exact absurd (e2.trans e1.symm) (hp j i h2 h1 h)
/-- an order, as a list of nodes -/
structure OrdL (n : Nat) (G : Nat → Nat → Bool) (h : List Nat) : Prop where
  mem : ∀ x, x ∈ h ↔ x < n
  ord : h.Pairwise fun x y => G x y = false
theorem OrdL.nd {n : Nat} {G : Nat → Nat → Bool} {h : List Nat} (k : OrdL n G h) (hG : Gr n G) : h.Pairwise (· ≠ ·) := k.ord.imp_of_mem fun {a b} ha _ hab he => by
  subst he
  rw [hG.rf a ((k.mem a).1 ha)] at hab
  cases hab
theorem OrdL.len {n : Nat} {G : Nat → Nat → Bool} {h : List Nat} (k : OrdL n G h) (hG : Gr n G) : h.length = n := by
  have h1 := len_sub (m := List.range n) (k.nd hG) fun x hx => List.mem_range.2 ((k.mem x).1 hx)
  have h2 := len_sub (l := List.range n) (m := h) ((range_lt n).imp fun h => by omega) fun x hx => (k.mem x).2 (List.mem_range.1 hx)
  simp at h1 h2
  omega
theorem ord_list {n : Nat} {G : Nat → Nat → Bool} {adj : Nat → List Nat} {out : List (List Nat)} (hci : CI n G out) (hG : Gr n G) (hc : canS n adj out = true) : OrdL n G out.flatten := by
  unfold canS at hc
  rw [Bool.and_eq_true, List.all_eq_true, List.all_eq_true] at hc
  have hone : ∀ c ∈ out, ∃ i, i < n ∧ c = [i] := fun c hcm => by
    obtain ⟨i, hi, rfl⟩ := hci.each c hcm
    have h1 := hc.2 _ hcm
    simp only [decide_eq_true_eq] at h1
    have hm : i ∈ compS n G i := mem_comp.2 ⟨hi, hG.rf i hi, hG.rf i hi⟩
    match hcc : compS n G i, hm, h1 with
    | [j], hm, _ => exact ⟨i, hi, by rw [List.mem_singleton.1 hm]⟩
    | _ :: _ :: _, _, h1 => simp at h1
  have hmap : out = (out.map fun c => c.headD 0).map fun x => [x] := by
    rw [List.map_map]
    conv => lhs; rw [← List.map_id out]
    apply List.map_congr_left
    intro c hcm
    obtain ⟨i, _, rfl⟩ := hone c hcm
    rfl
  have hfl : out.flatten = out.map fun c => c.headD 0 := by conv => lhs; rw [hmap, flat_one]
  rw [hfl]
  refine ⟨fun x => ?_, ?_⟩
  · rw [List.mem_map]
    constructor
    · rintro ⟨c, hcm, rfl⟩
      obtain ⟨i, hi, rfl⟩ := hone c hcm
      exact hi
    · intro hx
      obtain ⟨c, hcm, hxc⟩ := hci.all x hx
      obtain ⟨i, hi, rfl⟩ := hone c hcm
      obtain rfl := List.mem_singleton.1 hxc
      exact ⟨_, hcm, rfl⟩
  · rw [List.pairwise_map]
    refine hci.ord.imp_of_mem fun {a b} ha hb hab => ?_
    obtain ⟨i, hi, rfl⟩ := hone a ha
    obtain ⟨j, hj, rfl⟩ := hone b hb
    exact hab i (by simp) j (by simp)
/-- where a node stands among the first k, from 1 on; 0: not yet -/
def atF (h : List Nat) (k v : Nat) : Nat := if h.idxOf v < k then h.idxOf v + 1 else 0
theorem at_zero (h : List Nat) : atF h 0 = fun _ => 0 := by funext v; simp [atF]
theorem idx_at {h : List Nat} {x : Nat} (hx : x ∈ h) : h[h.idxOf x]? = some x := by
  have h1 := List.idxOf_lt_length_of_mem hx
  rw [List.getElem?_eq_getElem h1, List.getElem_idxOf h1]
theorem idx_is {h : List Nat} (hp : h.Pairwise (· ≠ ·)) {k x : Nat} (hk : h[k]? = some x) : h.idxOf x = k := nodup_at hp (idx_at (List.mem_of_getElem? hk)) hk
theorem at_fresh {h : List Nat} (hp : h.Pairwise (· ≠ ·)) {k x : Nat} (hk : h[k]? = some x) : atF h k x = 0 := by
  unfold atF
  rw [idx_is hp hk, if_neg (Nat.lt_irrefl _)]
theorem at_succ {h : List Nat} (hp : h.Pairwise (· ≠ ·)) {k x : Nat} (hk : h[k]? = some x) : atF h (k + 1) = upf (atF h k) x (k + 1) := by
  funext v
  by_cases e : v = x
  · subst e
    rw [upf_at]
    unfold atF
    rw [idx_is hp hk, if_pos (by omega)]
  · rw [upf_ne e]
    unfold atF
    have hne : h.idxOf v ≠ k := by
      intro hi
      by_cases hv : v ∈ h
      · have := idx_at hv
        rw [hi, hk] at this
        exact e (Option.some.inj this).symm
      · have h1 : h.idxOf v = h.length := List.idxOf_eq_length hv
        have := (List.getElem?_eq_some_iff.1 hk).1
        omega
    by_cases h1 : h.idxOf v < k
    · rw [if_pos h1, if_pos (by omega)]
    · rw [if_neg h1, if_neg (by omega)]
theorem at_edge {n : Nat} {G : Nat → Nat → Bool} {h : List Nat} (k : OrdL n G h) (hG : Gr n G) {a b : Nat} (ha : a < n) (hb : b < n) (hg : G a b = true) (hne : a ≠ b) : atF h h.length b < atF h h.length a := by
  have ia := idx_at ((k.mem a).2 ha)
  have ib := idx_at ((k.mem b).2 hb)
  have la := (List.getElem?_eq_some_iff.1 ia).1
  have lb := (List.getElem?_eq_some_iff.1 ib).1
  unfold atF
  rw [if_pos la, if_pos lb]
  have hord := List.pairwise_iff_getElem.1 k.ord
  rcases Nat.lt_trichotomy (h.idxOf a) (h.idxOf b) with h1 | h1 | h1
  · have := hord _ _ la lb h1
    rw [List.getElem_idxOf la, List.getElem_idxOf lb, hg] at this
    cases this
  · rw [h1, ib] at ia
    exact absurd (Option.some.inj ia).symm hne
  · omega
/-- no self loop where no edge leads back -/
theorem can_ne {n : Nat} {l : List (Int × Int)} (hl : l.length ≤ 20000) (hc : canP n (gE n (vE n l)) l = true) {a b : Nat} (ha : a < n) (hb : b < n) (he : ((a : Int), (b : Int)) ∈ l) : gE n (vE n l) a b = true ∧ a ≠ b := by
  have hm : (a, b) ∈ vE n l := by rw [vE_few hl]; exact mem_inE.2 ⟨he, ha, hb⟩
  refine ⟨(gE_iff (vE_in n l) ha).2 (.edge (mem_adj.2 hm)), fun e => ?_⟩
  subst e
  unfold canP at hc
  rw [List.all_eq_true] at hc
  have h1 := hc _ he
  have h2 : okE n ((a : Int), (a : Int)) = true := by simp only [okE, Bool.and_eq_true, decide_eq_true_eq]; omega
  rw [h2] at h1
  simp [(gE_gr (n := n) (E := vE n l)).rf a ha] at h1
theorem reach_has {n : Nat} {E : List (Nat × Nat)} {a b : Nat} (ha : a < n) (hb : b < n) : a ∈ reachV n E b ↔ gE n E b a = true := by
  unfold reachV
  rw [if_pos (by omega), List.mem_filter, List.mem_range, Int.toNat_natCast]
  exact ⟨fun h => h.2, fun h => ⟨ha, h⟩⟩
end Go.Proofs.Ytodhianmaogfpaa
