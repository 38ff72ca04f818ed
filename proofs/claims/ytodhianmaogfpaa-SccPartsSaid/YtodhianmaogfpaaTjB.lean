/- Components told one behind the other, plainly; Warshall's table. -/
import Derived.Test.YtodhianmaogfpaaBs
namespace Go.Proofs.Ytodhianmaogfpaa
set_option linter.unusedSimpArgs false
set_option linter.unusedVariables false
/-- who reaches whom, as a table; what may stand next; a component; what is told in so many rounds -/
def readyS (n : Nat) (G : Nat → Nat → Bool) (done : Nat → Bool) (i : Nat) : Bool := !done i && (List.range n).all fun j => !G i j || G j i || done j
def compS (n : Nat) (G : Nat → Nat → Bool) (i : Nat) : List Nat := (List.range n).filter fun j => G i j && G j i
def nextS (n : Nat) (G : Nat → Nat → Bool) (done : Nat → Bool) : Option Nat := (List.range n).find? (readyS n G done)
def tellS (n : Nat) (G : Nat → Nat → Bool) (st : (Nat → Bool) × List (List Nat)) : (Nat → Bool) × List (List Nat) :=
  match nextS n G st.1 with
  | none => st
  | some i => (fun j => st.1 j || (G i j && G j i), st.2 ++ [compS n G i])
def outK (n : Nat) (G : Nat → Nat → Bool) : Nat → (Nat → Bool) × List (List Nat)
  | 0 => (fun _ => false, [])
  | k + 1 => tellS n G (outK n G k)
theorem outK_stop {n : Nat} {G : Nat → Nat → Bool} {k : Nat} (h : nextS n G (outK n G k).1 = none) : ∀ m, outK n G (k + m) = outK n G k
  | 0 => rfl
  | m + 1 => by
    have ih := outK_stop h m
    show tellS n G (outK n G (k + m)) = _
    rw [ih]
    unfold tellS
    rw [h]
theorem outK_end {n : Nat} {G : Nat → Nat → Bool} {k m : Nat} (h : nextS n G (outK n G k).1 = none) (h' : nextS n G (outK n G m).1 = none) : outK n G k = outK n G m := by
  rcases Nat.le_total k m with hk | hk
  · obtain ⟨d, rfl⟩ := Nat.exists_eq_add_of_le hk
    exact (outK_stop h d).symm
  · obtain ⟨d, rfl⟩ := Nat.exists_eq_add_of_le hk
    exact outK_stop h' d
theorem outK_some {n : Nat} {G : Nat → Nat → Bool} {k i : Nat} (h : nextS n G (outK n G k).1 = some i) : outK n G (k + 1) = (fun j => (outK n G k).1 j || (G i j && G j i), (outK n G k).2 ++ [compS n G i]) := by
  show tellS n G (outK n G k) = _
  unfold tellS
  rw [h]
/-- the table is one of reaching -/
structure Gr (n : Nat) (G : Nat → Nat → Bool) : Prop where
  rf : ∀ i, i < n → G i i = true
  tr : ∀ i j k, i < n → j < n → k < n → G i j = true → G j k = true → G i k = true
theorem ready_iff {n : Nat} {G : Nat → Nat → Bool} {done : Nat → Bool} {i : Nat} : readyS n G done i = true ↔ done i = false ∧ ∀ j, j < n → G i j = true → G j i = true ∨ done j = true := by
  unfold readyS
  simp only [Bool.and_eq_true, Bool.not_eq_true', List.all_eq_true, List.mem_range, Bool.or_eq_true]
  constructor
  · rintro ⟨a, b⟩
    refine ⟨a, fun j hj hg => ?_⟩
    rcases b j hj with (c | c) | c
    · rw [hg] at c; cases c
    · exact .inl c
    · exact .inr c
  · rintro ⟨a, b⟩
    refine ⟨a, fun j hj => ?_⟩
    rcases h : G i j
    · exact .inl (.inl rfl)
    · rcases b j hj h with c | c
      · exact .inl (.inr c)
      · exact .inr c
theorem next_iff {n : Nat} {G : Nat → Nat → Bool} {done : Nat → Bool} {i : Nat} : nextS n G done = some i ↔ i < n ∧ readyS n G done i = true ∧ ∀ j, j < i → readyS n G done j = false := by
  unfold nextS
  constructor
  · intro h
    have h1 := List.find?_some h
    have h2 := List.mem_range.1 (List.mem_of_find?_eq_some h)
    refine ⟨h2, h1, fun j hj => ?_⟩
    rw [List.find?_eq_some_iff_append] at h
    obtain ⟨_, as, bs, he, ha⟩ := h
    have hlen : as.length = i := by
      have h3 : (List.range n)[as.length]? = some i := by rw [he]; simp
      rw [List.getElem?_range (by have := congrArg List.length he; simp at this; omega)] at h3
      injection h3
    have hja : j ∈ as := by
      have h3 : (List.range n)[j]? = some j := List.getElem?_range (by omega)
      rw [he, List.getElem?_append_left (by omega)] at h3
      exact List.mem_of_getElem? h3
    simpa using ha j hja
  · rintro ⟨h1, h2, h3⟩
    cases h : (List.range n).find? (readyS n G done) with
    | none => exact absurd h2 (List.find?_eq_none.1 h i (List.mem_range.2 h1))
    | some j =>
      have h4 := List.find?_some h
      have h5 : ∀ m, m < j → readyS n G done m = false := by
        intro m hm
        rw [List.find?_eq_some_iff_append] at h
        obtain ⟨_, as, bs, he, ha⟩ := h
        have hlen : as.length = j := by
          have h3 : (List.range n)[as.length]? = some j := by rw [he]; simp
          rw [List.getElem?_range (by have := congrArg List.length he; simp at this; omega)] at h3
          injection h3
        have hjn : as.length < n := by have := congrArg List.length he; simp at this; omega
        have hja : m ∈ as := by
          have h3 : (List.range n)[m]? = some m := List.getElem?_range (by omega)
          rw [he, List.getElem?_append_left (by omega)] at h3
          exact List.mem_of_getElem? h3
        simpa using ha m hja
      rcases Nat.lt_trichotomy i j with hij | hij | hij
      · rw [h5 i hij] at h2; cases h2
      · rw [hij]
      · rw [h3 j hij] at h4; cases h4
theorem next_none {n : Nat} {G : Nat → Nat → Bool} {done : Nat → Bool} : nextS n G done = none ↔ ∀ i, i < n → readyS n G done i = false := by
  unfold nextS
  rw [List.find?_eq_none]
  simp [List.mem_range]
/-- as long as a node is not told, one may stand next -/
theorem some_ready {n : Nat} {G : Nat → Nat → Bool} {done : Nat → Bool} (hG : Gr n G) {v : Nat} (hv : v < n) (hd : done v = false) : ∃ i, i < n ∧ readyS n G done i = true := by
  have key : ∀ k v, v < n → done v = false → ((List.range n).filter (G v)).length ≤ k → ∃ i, i < n ∧ readyS n G done i = true := by
    intro k
    induction k with
    | zero =>
      intro v hv _ hk
      have : v ∈ (List.range n).filter (G v) := List.mem_filter.2 ⟨List.mem_range.2 hv, hG.rf v hv⟩
      have := List.length_pos_of_mem this
      omega
    | succ k ih =>
      intro v hv hd hk
      by_cases hr : readyS n G done v = true
      · exact ⟨v, hv, hr⟩
      · rw [ready_iff] at hr
        have : ∃ j, j < n ∧ G v j = true ∧ G j v = false ∧ done j = false := by
          apply Classical.byContradiction
          intro hno
          apply hr
          refine ⟨hd, fun j hj hg => ?_⟩
          rcases h1 : G j v
          · rcases h2 : done j
            · exact absurd ⟨j, hj, hg, h1, h2⟩ hno
            · exact .inr rfl
          · exact .inl rfl
        obtain ⟨j, hj, h1, h2, h3⟩ := this
        refine ih j hj h3 ?_
        have hsub : ((List.range n).filter (G j)).length < ((List.range n).filter (G v)).length := by
          have e1 : (List.range n).filter (G j) = ((List.range n).filter (G v)).filter (G j) := by
            rw [List.filter_filter]
            apply List.filter_congr
            intro x hx
            have hx := List.mem_range.1 hx
            rcases h4 : G j x
            · rfl
            · rw [hG.tr v j x hv hj hx h1 h4]; rfl
          rw [e1]
          have hvm : v ∈ (List.range n).filter (G v) := List.mem_filter.2 ⟨List.mem_range.2 hv, hG.rf v hv⟩
          apply List.length_filter_lt_length_iff_exists.2
          exact ⟨v, hvm, by simp [h2]⟩
        omega
  exact key _ v hv hd (Nat.le_refl _)
/-- what is told is shut, and told by whole components -/
structure Told (n : Nat) (G : Nat → Nat → Bool) (done : Nat → Bool) : Prop where
  sh : ∀ i j, i < n → j < n → done i = true → G i j = true → done j = true
theorem told0 (n : Nat) (G : Nat → Nat → Bool) : Told n G fun _ => false := ⟨fun _ _ _ _ h => by cases h⟩
theorem Told.next {n : Nat} {G : Nat → Nat → Bool} {done : Nat → Bool} (h : Told n G done) (hG : Gr n G) {i : Nat} (hi : i < n) (hr : readyS n G done i = true) : Told n G fun j => done j || (G i j && G j i) := by
  refine ⟨fun a b ha hb hd hg => ?_⟩
  rw [ready_iff] at hr
  simp only [Bool.or_eq_true, Bool.and_eq_true] at hd ⊢
  rcases hd with hd | ⟨h1, h2⟩
  · exact .inl (h.sh a b ha hb hd hg)
  · have h3 := hG.tr i a b hi ha hb h1 hg
    rcases hr.2 b hb h3 with h4 | h4
    · exact .inr ⟨h3, h4⟩
    · exact .inl h4
theorem told_out {n : Nat} {G : Nat → Nat → Bool} (hG : Gr n G) : ∀ k, Told n G (outK n G k).1
  | 0 => told0 n G
  | k + 1 => by
    have ih := told_out hG k
    show Told n G (tellS n G (outK n G k)).1
    unfold tellS
    cases h : nextS n G (outK n G k).1 with
    | none => exact ih
    | some i =>
      obtain ⟨h1, h2, _⟩ := next_iff.1 h
      exact ih.next hG h1 h2
/-- components by number: what the search tells -/
structure Cmp (n : Nat) (G : Nat → Nat → Bool) (of : Nat → Nat) (cnt : Nat) : Prop where
  lt : ∀ v, v < n → of v < cnt
  eq : ∀ v w, v < n → w < n → (of v = of w ↔ G v w = true ∧ G w v = true)
  all : ∀ c, c < cnt → ∃ v, v < n ∧ of v = c
def prtC (n : Nat) (of : Nat → Nat) (c : Nat) : List Nat := (List.range n).filter fun v => of v == c
theorem comp_part {n : Nat} {G : Nat → Nat → Bool} {of : Nat → Nat} {cnt : Nat} (h : Cmp n G of cnt) {i : Nat} (hi : i < n) : compS n G i = prtC n of (of i) := by
  unfold compS prtC
  apply List.filter_congr
  intro j hj
  have hj := List.mem_range.1 hj
  have := h.eq j i hj hi
  rw [Bool.eq_iff_iff]
  simp only [Bool.and_eq_true, beq_iff_eq]
  rw [this]
  exact And.comm
/-- the least node of a component -/
theorem part_head {n : Nat} {of : Nat → Nat} {c v : Nat} (hv : v < n) (hc : of v = c) : ∃ m l, prtC n of c = m :: l ∧ m < n ∧ of m = c ∧ ∀ x, x < n → of x = c → m ≤ x := by
  have hm : v ∈ prtC n of c := List.mem_filter.2 ⟨List.mem_range.2 hv, by simp [hc]⟩
  cases hp : prtC n of c with
  | nil => rw [hp] at hm; simp at hm
  | cons m l =>
    have hmm : m ∈ prtC n of c := by rw [hp]; simp
    obtain ⟨h1, h2⟩ := List.mem_filter.1 hmm
    refine ⟨m, l, rfl, List.mem_range.1 h1, by simpa using h2, fun x hx hxc => ?_⟩
    have hxm : x ∈ prtC n of c := List.mem_filter.2 ⟨List.mem_range.2 hx, by simp [hxc]⟩
    have hs : (prtC n of c).Pairwise (· < ·) := List.Pairwise.filter _ List.pairwise_lt_range
    rw [hp] at hs hxm
    rcases List.mem_cons.1 hxm with rfl | hxl
    · exact Nat.le_refl _
    · exact Nat.le_of_lt ((List.pairwise_cons.1 hs).1 x hxl)
/-- Warshall's table -/
def wal (G0 : Nat → Nat → Bool) : Nat → Nat → Nat → Bool
  | 0 => G0
  | k + 1 => fun a b => wal G0 k a b || (wal G0 k a k && wal G0 k k b)
theorem wal_mono {G0 : Nat → Nat → Bool} {a b : Nat} (h : G0 a b = true) : ∀ k, wal G0 k a b = true
  | 0 => h
  | k + 1 => by show (_ || _) = true; rw [wal_mono h k]; rfl
theorem wal_trans {G0 : Nat → Nat → Bool} : ∀ k a m b, m < k → wal G0 k a m = true → wal G0 k m b = true → wal G0 k a b = true
  | 0, _, _, _, h, _, _ => absurd h (by omega)
  | k + 1, a, m, b, hm, h1, h2 => by
    have ih := wal_trans (G0 := G0) k
    simp only [wal, Bool.or_eq_true, Bool.and_eq_true] at h1 h2 ⊢
    by_cases e : m = k
    · subst e
      refine .inr ⟨?_, ?_⟩
      · rcases h1 with h1 | h1
        · exact h1
        · exact h1.1
      · rcases h2 with h2 | h2
        · exact h2
        · exact h2.2
    · have hmk : m < k := by omega
      rcases h1 with h1 | ⟨h1, h1'⟩ <;> rcases h2 with h2 | ⟨h2, h2'⟩
      · exact .inl (ih a m b hmk h1 h2)
      · exact .inr ⟨ih a m k hmk h1 h2, h2'⟩
      · exact .inr ⟨h1, ih k m b hmk h1' h2⟩
      · exact .inr ⟨h1, h2'⟩
end Go.Proofs.Ytodhianmaogfpaa
