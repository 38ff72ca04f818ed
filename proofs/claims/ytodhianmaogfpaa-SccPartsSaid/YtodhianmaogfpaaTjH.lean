/- What the components are: each node in just one, none leads to a later one; of turned edges they have the same nodes. -/
import Derived.Test.YtodhianmaogfpaaTjG
namespace Go.Proofs.Ytodhianmaogfpaa
set_option linter.unusedSimpArgs false
set_option linter.unusedVariables false
theorem mem_comp {n : Nat} {G : Nat → Nat → Bool} {i j : Nat} : j ∈ compS n G i ↔ j < n ∧ G i j = true ∧ G j i = true := by
  unfold compS
  rw [List.mem_filter, List.mem_range, Bool.and_eq_true]
structure CI (n : Nat) (G : Nat → Nat → Bool) (out : List (List Nat)) : Prop where
  each : ∀ c ∈ out, ∃ i, i < n ∧ c = compS n G i
  ord : out.Pairwise fun a b => ∀ x ∈ a, ∀ y ∈ b, G x y = false
  all : ∀ i, i < n → ∃ c ∈ out, i ∈ c
theorem outK_ci {n : Nat} {G : Nat → Nat → Bool} (hG : Gr n G) : ∀ k, (∀ j, j < n → ((outK n G k).1 j = true ↔ ∃ c ∈ (outK n G k).2, j ∈ c)) ∧ (∀ c ∈ (outK n G k).2, ∃ i, i < n ∧ c = compS n G i) ∧ (outK n G k).2.Pairwise fun a b => ∀ x ∈ a, ∀ y ∈ b, G x y = false
  | 0 => ⟨fun j _ => by simp [outK], fun c hc => by simp [outK] at hc, by simp [outK]⟩
  | k + 1 => by
    obtain ⟨h1, h2, h3⟩ := outK_ci hG k
    cases h : nextS n G (outK n G k).1 with
    | none => rw [show outK n G (k + 1) = outK n G k from outK_stop h 1]; exact ⟨h1, h2, h3⟩
    | some i =>
      rw [outK_some h]
      obtain ⟨hi, hr, _⟩ := next_iff.1 h
      obtain ⟨hd, hr2⟩ := ready_iff.1 hr
      have ht := told_out hG k
      refine ⟨fun j hj => ?_, fun c hc => ?_, ?_⟩
      · simp only [Bool.or_eq_true, Bool.and_eq_true, List.mem_append, List.mem_singleton]
        rw [h1 j hj]
        constructor
        · rintro (⟨c, hc, hm⟩ | ⟨h4, h5⟩)
          · exact ⟨c, .inl hc, hm⟩
          · exact ⟨_, .inr rfl, mem_comp.2 ⟨hj, h4, h5⟩⟩
        · rintro ⟨c, hc | rfl, hm⟩
          · exact .inl ⟨c, hc, hm⟩
          · exact .inr (mem_comp.1 hm).2
      · simp only [List.mem_append, List.mem_singleton] at hc
        rcases hc with hc | rfl
        · exact h2 c hc
        · exact ⟨i, hi, rfl⟩
      · rw [List.pairwise_append]
        refine ⟨h3, by simp, fun a ha b hb x hx y hy => ?_⟩
        obtain rfl := List.mem_singleton.1 hb
        obtain ⟨hy1, hy2, hy3⟩ := mem_comp.1 hy
        obtain ⟨i', hi', rfl⟩ := h2 a ha
        have hx1 := (mem_comp.1 hx).1
        rw [Bool.eq_false_iff]
        intro hg
        have h4 := ht.sh x y hx1 hy1 ((h1 x hx1).2 ⟨_, ha, hx⟩) hg
        have h5 := ht.sh y i hy1 hi h4 hy3
        rw [hd] at h5
        cases h5
theorem CompsIs.ci {n : Nat} {G : Nat → Nat → Bool} {out : List (List Nat)} (h : CompsIs n G out) (hG : Gr n G) : CI n G out := by
  obtain ⟨k, hk, rfl⟩ := h
  obtain ⟨h1, h2, h3⟩ := outK_ci hG k
  refine ⟨h2, h3, fun i hi => (h1 i hi).1 ?_⟩
  cases hd : (outK n G k).1 i with
  | true => rfl
  | false =>
    obtain ⟨j, hj, hr⟩ := some_ready hG hi hd
    rw [next_none.1 hk j hj] at hr
    cases hr
theorem comp_same {n : Nat} {G : Nat → Nat → Bool} (hG : Gr n G) {i j : Nat} (hi : i < n) (hj : j ∈ compS n G i) : compS n G i = compS n G j := by
  obtain ⟨h1, h2, h3⟩ := mem_comp.1 hj
  unfold compS
  apply List.filter_congr
  intro x hx
  have hx := List.mem_range.1 hx
  rw [Bool.eq_iff_iff, Bool.and_eq_true, Bool.and_eq_true]
  constructor
  · rintro ⟨h4, h5⟩
    exact ⟨hG.tr j i x h1 hi hx h3 h4, hG.tr x i j hx hi h1 h5 h2⟩
  · rintro ⟨h4, h5⟩
    exact ⟨hG.tr i j x hi h1 hx h2 h4, hG.tr x j i hx h1 hi h5 h3⟩
theorem CI.mem {n : Nat} {G : Nat → Nat → Bool} {out : List (List Nat)} (h : CI n G out) (hG : Gr n G) {i : Nat} (hi : i < n) : compS n G i ∈ out := by
  obtain ⟨c, hc, hm⟩ := h.all i hi
  obtain ⟨j, hj, rfl⟩ := h.each c hc
  rw [← comp_same hG hj hm]
  exact hc
theorem CI.nodup {n : Nat} {G : Nat → Nat → Bool} {out : List (List Nat)} (h : CI n G out) (hG : Gr n G) : out.Pairwise (· ≠ ·) := by
  refine h.ord.imp_of_mem fun {a b} ha _ hab he => ?_
  obtain ⟨i, hi, rfl⟩ := h.each a ha
  subst he
  have hm : i ∈ compS n G i := mem_comp.2 ⟨hi, hG.rf i hi, hG.rf i hi⟩
  have := hab i hm i hm
  rw [hG.rf i hi] at this
  cases this
theorem len_sub {α : Type} [BEq α] [LawfulBEq α] : ∀ {l m : List α}, l.Pairwise (· ≠ ·) → (∀ x ∈ l, x ∈ m) → l.length ≤ m.length
  | [], _, _, _ => Nat.zero_le _
  | a :: l, m, hp, hs => by
    obtain ⟨h1, h2⟩ := List.pairwise_cons.1 hp
    have ha := hs a (List.mem_cons_self ..)
    have ih := len_sub (l := l) (m := m.erase a) h2 fun x hx => (List.mem_erase_of_ne (Ne.symm (h1 x hx))).2 (hs x (List.mem_cons_of_mem _ hx))
    have hl := List.length_erase_of_mem ha
    have hpos : 0 < m.length := List.length_pos_of_mem ha
    simp only [List.length_cons]
    omega
theorem comps_len {n : Nat} {G G' : Nat → Nat → Bool} {a b : List (List Nat)} (ha : CI n G a) (hb : CI n G' b) (hG : Gr n G) (hG' : Gr n G') (hc : ∀ i, i < n → compS n G i = compS n G' i) : a.length = b.length := by
  have h1 := len_sub (ha.nodup hG) fun x hx => by obtain ⟨i, hi, rfl⟩ := ha.each x hx; rw [hc i hi]; exact hb.mem hG' hi
  have h2 := len_sub (hb.nodup hG') fun x hx => by obtain ⟨i, hi, rfl⟩ := hb.each x hx; rw [← hc i hi]; exact ha.mem hG hi
  omega
/-- edges with the same members -/
theorem g0_congr {E E' : List (Nat × Nat)} (h : ∀ e, e ∈ E ↔ e ∈ E') : g0 E = g0 E' := by
  funext a b
  unfold g0
  have : E.contains (a, b) = E'.contains (a, b) := by rw [Bool.eq_iff_iff, List.contains_iff_mem, List.contains_iff_mem]; exact h _
  rw [this]
theorem gE_congr {n : Nat} {E E' : List (Nat × Nat)} (h : ∀ e, e ∈ E ↔ e ∈ E') : gE n E = gE n E' := by unfold gE; rw [g0_congr h]
theorem wal_turn {f g : Nat → Nat → Bool} (h : ∀ a b, f a b = g b a) : ∀ k a b, wal f k a b = wal g k b a
  | 0, a, b => h a b
  | k + 1, a, b => by
    simp only [wal]
    rw [wal_turn h k a b, wal_turn h k a k, wal_turn h k k b, Bool.and_comm (wal g k k a)]
theorem gE_turn {n : Nat} {E E' : List (Nat × Nat)} (h : ∀ a b, (a, b) ∈ E ↔ (b, a) ∈ E') (a b : Nat) : gE n E a b = gE n E' b a := by
  refine wal_turn (fun a b => ?_) n a b
  unfold g0
  have h1 : E.contains (a, b) = E'.contains (b, a) := by rw [Bool.eq_iff_iff, List.contains_iff_mem, List.contains_iff_mem]; exact h _ _
  have h2 : (a == b) = (b == a) := by rw [Bool.eq_iff_iff, beq_iff_eq, beq_iff_eq]; exact eq_comm
  rw [h1, h2]
theorem vE_few {n : Nat} {l : List (Int × Int)} (h : l.length ≤ 20000) : vE n l = inE n l := by
  unfold vE
  apply List.take_of_length_le
  unfold inE
  rw [List.length_map]
  exact Nat.le_trans (List.length_filter_le _ _) h
theorem mem_inE {n : Nat} {l : List (Int × Int)} {e : Nat × Nat} : e ∈ inE n l ↔ ((e.1 : Int), (e.2 : Int)) ∈ l ∧ e.1 < n ∧ e.2 < n := by
  unfold inE
  rw [List.mem_map]
  constructor
  · rintro ⟨x, hx, rfl⟩
    obtain ⟨h1, h2⟩ := List.mem_filter.1 hx
    simp only [okE, Bool.and_eq_true, decide_eq_true_eq] at h2
    obtain ⟨a, b⟩ := x
    simp only [natE] at *
    refine ⟨?_, by omega, by omega⟩
    rw [show ((a.toNat : Int)) = a by omega, show ((b.toNat : Int)) = b by omega]
    exact h1
  · rintro ⟨h1, h2, h3⟩
    refine ⟨_, List.mem_filter.2 ⟨h1, ?_⟩, ?_⟩
    · simp only [okE, Bool.and_eq_true, decide_eq_true_eq]; omega
    · obtain ⟨a, b⟩ := e; simp [natE]
def dupE (l : List (Int × Int)) : List (Int × Int) := l.flatMap fun e => [e, e]
def swpE (l : List (Int × Int)) : List (Int × Int) := l.map fun e => (e.2, e.1)
theorem dup_snoc (l : List (Int × Int)) (e : Int × Int) : dupE (l ++ [e]) = dupE l ++ [e, e] := by simp [dupE]
theorem swp_snoc (l : List (Int × Int)) (e : Int × Int) : swpE (l ++ [e]) = swpE l ++ [(e.2, e.1)] := by simp [swpE]
theorem dup_len (l : List (Int × Int)) : (dupE l).length = 2 * l.length := by
  unfold dupE
  induction l with
  | nil => rfl
  | cons a l ih => rw [List.flatMap_cons, List.length_append, ih]; simp; omega
theorem gE_dup {n : Nat} {l : List (Int × Int)} (h : l.length ≤ 200) : gE n (vE n (dupE l.reverse)) = gE n (vE n l) := by
  rw [vE_few (by rw [dup_len, List.length_reverse]; omega), vE_few (by omega)]
  apply gE_congr
  intro e
  rw [mem_inE, mem_inE]
  have : ∀ x, x ∈ dupE l.reverse ↔ x ∈ l := fun x => by simp [dupE]
  rw [this]
theorem gE_swp {n : Nat} {l : List (Int × Int)} (h : l.length ≤ 200) (a b : Nat) : gE n (vE n (swpE l.reverse)) a b = gE n (vE n l) b a := by
  rw [vE_few (by unfold swpE; rw [List.length_map, List.length_reverse]; omega), vE_few (by omega)]
  apply gE_turn
  intro a b
  rw [mem_inE, mem_inE]
  have : ∀ x y, (x, y) ∈ swpE l.reverse ↔ (y, x) ∈ l := fun x y => by
    simp only [swpE, List.mem_map, List.mem_reverse, Prod.mk.injEq, Prod.exists]
    constructor
    · rintro ⟨a, b, h, rfl, rfl⟩; exact h
    · intro h; exact ⟨_, _, h, rfl, rfl⟩
  simp only [this, And.comm (a := a < n)]
theorem comp_turn {n : Nat} {l : List (Int × Int)} (h : l.length ≤ 200) (i : Nat) : compS n (gE n (vE n l)) i = compS n (gE n (vE n (swpE l.reverse))) i := by
  unfold compS
  apply List.filter_congr
  intro x _
  rw [gE_swp h, gE_swp h, Bool.and_comm]
theorem turned_len {n : Nat} {l : List (Int × Int)} (h : l.length ≤ 200) {a c : List (List Nat)} (ha : CompsIs n (gE n (vE n l)) a) (hc : CompsIs n (gE n (vE n (swpE l.reverse))) c) : a.length = c.length :=
  comps_len (ha.ci gE_gr) (hc.ci gE_gr) gE_gr gE_gr fun i _ => comp_turn h i
theorem turned_mem {n : Nat} {l : List (Int × Int)} (h : l.length ≤ 200) {a c : List (List Nat)} (ha : CompsIs n (gE n (vE n l)) a) (hc : CompsIs n (gE n (vE n (swpE l.reverse))) c) {x : List Nat} (hx : x ∈ a) : x ∈ c := by
  obtain ⟨i, hi, rfl⟩ := (ha.ci gE_gr).each x hx
  rw [comp_turn h]
  exact (hc.ci gE_gr).mem gE_gr hi
end Go.Proofs.Ytodhianmaogfpaa
