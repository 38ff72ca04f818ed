/- What the telling picks each round, plainly. -/
import Derived.Test.YtodhianmaogfpaaTjA
import Derived.Test.YtodhianmaogfpaaTjB
namespace Go.Proofs.Ytodhianmaogfpaa
set_option linter.unusedSimpArgs false
set_option linter.unusedVariables false
/-- the edges, and what the search told of them -/
structure Em (n : Nat) (G : Nat → Nat → Bool) (of : Nat → Nat) (cnt : Nat) (P : List (Nat × Nat)) : Prop where
  cmp : Cmp n G of cnt
  gr : Gr n G
  pm : ∀ e ∈ P, e.1 < n ∧ e.2 < n ∧ G e.1 e.2 = true
  pc : ∀ S : Nat → Prop, (∀ e ∈ P, S e.1 → S e.2) → ∀ v w, v < n → w < n → G v w = true → S v → S w
def leadsP (of : Nat → Nat) (P : List (Nat × Nat)) (told : Nat → Nat) (c : Nat) : Nat := P.countP fun e => of e.1 == c && of e.1 != of e.2 && told (of e.2) == 0
def backP (of : Nat → Nat) (P : List (Nat × Nat)) (d : Nat) : List Nat := (P.filter fun e => of e.1 != of e.2 && of e.2 == d).map fun e => of e.1
/-- the state of the telling behind k rounds -/
structure Ek (n : Nat) (G : Nat → Nat → Bool) (of : Nat → Nat) (cnt : Nat) (k : Nat) (told : Nat → Nat) : Prop where
  bit : ∀ c, c < cnt → told c = 0 ∨ told c = 1
  num : ((List.range cnt).filter fun c => told c == 1).length = k
  dn : ∀ v, v < n → (outK n G k).1 v = (told (of v) == 1)
variable {n : Nat} {G : Nat → Nat → Bool} {of : Nat → Nat} {cnt : Nat} {P : List (Nat × Nat)} {k : Nat} {told : Nat → Nat}
theorem ek0 : Ek n G of cnt 0 fun _ => 0 := ⟨fun _ _ => .inl rfl, by simp, fun v _ => rfl⟩
theorem Ek.not_done (h : Ek n G of cnt k told) (hc : Cmp n G of cnt) {v : Nat} (hv : v < n) : (outK n G k).1 v = false ↔ told (of v) = 0 := by
  rw [h.dn v hv]
  rcases h.bit _ (hc.lt v hv) with e | e <;> simp [e]
theorem leads_zero (hE : Em n G of cnt P) (h : Ek n G of cnt k told) {i : Nat} (hi : i < n) : readyS n G (outK n G k).1 i = true ↔ told (of i) = 0 ∧ leadsP of P told (of i) = 0 := by
  have hc := hE.cmp
  rw [ready_iff, h.not_done hc hi]
  refine and_congr_right fun h0 => ?_
  unfold leadsP
  rw [List.countP_eq_zero]
  constructor
  · intro hr e he hbad
    simp only [Bool.and_eq_true, beq_iff_eq, bne_iff_ne, ne_eq] at hbad
    obtain ⟨⟨h1, h2⟩, h3⟩ := hbad
    obtain ⟨p1, p2, p3⟩ := hE.pm e he
    have hie := ((hc.eq i e.1 hi p1).1 h1.symm).1
    rcases hr e.2 p2 (hE.gr.tr i e.1 e.2 hi p1 p2 hie p3) with h4 | h4
    · have h5 := hE.gr.tr e.2 i e.1 p2 hi p1 h4 hie
      exact h2 ((hc.eq e.1 e.2 p1 p2).2 ⟨p3, h5⟩)
    · have := (h.not_done hc p2).2 h3
      rw [this] at h4; cases h4
  · intro hn j hj hg
    have key := hE.pc (fun x => x < n ∧ (of x = of i ∨ told (of x) ≠ 0)) (fun e he ⟨_, hS⟩ => by
      obtain ⟨p1, p2, p3⟩ := hE.pm e he
      refine ⟨p2, ?_⟩
      rcases hS with hS | hS
      · by_cases h1 : of e.1 = of e.2
        · exact .inl (h1 ▸ hS)
        · by_cases h2 : told (of e.2) = 0
          · exact absurd (by rw [Bool.and_eq_true, Bool.and_eq_true]; exact ⟨⟨by simpa using hS, by simpa using h1⟩, by simpa using h2⟩) (hn e he)
          · exact .inr h2
      · refine .inr fun h2 => ?_
        have h3 : (outK n G k).1 e.1 = true := by
          rcases h4 : (outK n G k).1 e.1
          · exact absurd ((h.not_done hc p1).1 h4) hS
          · rfl
        have h5 := (told_out hE.gr k).sh e.1 e.2 p1 p2 h3 p3
        rw [(h.not_done hc p2).2 h2] at h5; cases h5) i j hi hj hg ⟨hi, .inl rfl⟩
    rcases key.2 with h1 | h1
    · exact .inl ((hc.eq j i hj hi).1 h1).1
    · refine .inr ?_
      rcases h4 : (outK n G k).1 j
      · exact absurd ((h.not_done hc hj).1 h4) h1
      · rfl
def hdS (n : Nat) (of : Nat → Nat) (c : Nat) : Nat := (prtC n of c).headD 0
def okC (of : Nat → Nat) (P : List (Nat × Nat)) (told : Nat → Nat) (c : Nat) : Prop := told c = 0 ∧ leadsP of P told c = 0
/-- the best of the first m components -/
def Best (n : Nat) (of : Nat → Nat) (P : List (Nat × Nat)) (told : Nat → Nat) (m : Nat) (b : Option Nat) : Prop :=
  (b = none ∧ ∀ c, c < m → ¬ okC of P told c) ∨ ∃ c, b = some c ∧ c < m ∧ okC of P told c ∧ ∀ c', c' < m → okC of P told c' → hdS n of c ≤ hdS n of c'
theorem best0 : Best n of P told 0 none := .inl ⟨rfl, fun _ h => absurd h (by omega)⟩
theorem lt_succ_cases {m c : Nat} (h : c < m + 1) : c < m ∨ c = m := by omega
theorem Best.skip {m : Nat} {b : Option Nat} (h : Best n of P told m b) (hk : ¬ okC of P told m) : Best n of P told (m + 1) b := by
  rcases h with ⟨h1, h2⟩ | ⟨c, h1, h2, h3, h4⟩
  · exact .inl ⟨h1, fun c hc => (lt_succ_cases hc).elim (h2 c) fun e => e ▸ hk⟩
  · exact .inr ⟨c, h1, by omega, h3, fun c' hc' hok => (lt_succ_cases hc').elim (fun hl => h4 c' hl hok) fun e => absurd hok (e ▸ hk)⟩
theorem Best.worse {m c : Nat} (h : Best n of P told m (some c)) (hk : ¬ hdS n of m < hdS n of c) : Best n of P told (m + 1) (some c) := by
  rcases h with ⟨h1, h2⟩ | ⟨c2, h1, h2, h3, h4⟩
  · cases h1
  · injection h1 with h1
    subst h1
    exact .inr ⟨c, rfl, by omega, h3, fun c' hc' hok => (lt_succ_cases hc').elim (fun hl => h4 c' hl hok) fun e => by subst e; omega⟩
theorem Best.first {m : Nat} (h : Best n of P told m none) (hk : okC of P told m) : Best n of P told (m + 1) (some m) := by
  rcases h with ⟨h1, h2⟩ | ⟨c, h1, h2, h3, h4⟩
  · exact .inr ⟨m, rfl, by omega, hk, fun c' hc' hok => (lt_succ_cases hc').elim (fun hl => absurd hok (h2 c' hl)) fun e => e ▸ Nat.le_refl _⟩
  · cases h1
theorem Best.better {m c : Nat} (h : Best n of P told m (some c)) (hk : okC of P told m) (hl : hdS n of m < hdS n of c) : Best n of P told (m + 1) (some m) := by
  rcases h with ⟨h1, h2⟩ | ⟨c2, h1, h2, h3, h4⟩
  · cases h1
  · injection h1 with h1
    subst h1
    exact .inr ⟨m, rfl, by omega, hk, fun c' hc' hok => (lt_succ_cases hc').elim (fun hl' => Nat.le_trans (Nat.le_of_lt hl) (h4 c' hl' hok)) fun e => e ▸ Nat.le_refl _⟩
theorem some_untold (h : Ek n G of cnt k told) (hk : k < cnt) : ∃ c, c < cnt ∧ told c = 0 := by
  apply Classical.byContradiction
  intro hno
  have : ((List.range cnt).filter fun c => told c == 1) = List.range cnt := by
    rw [List.filter_eq_self]
    intro c hc
    have hc := List.mem_range.1 hc
    rcases h.bit c hc with e | e
    · exact absurd ⟨c, hc, e⟩ hno
    · simp [e]
  have h2 := h.num
  rw [this, List.length_range] at h2
  omega
/-- the best of all is what stands next -/
theorem best_next (hE : Em n G of cnt P) (h : Ek n G of cnt k told) (hk : k < cnt) {b : Option Nat} (hb : Best n of P told cnt b) :
    ∃ i c, b = some c ∧ c < cnt ∧ told c = 0 ∧ i < n ∧ of i = c ∧ nextS n G (outK n G k).1 = some i ∧ compS n G i = prtC n of c := by
  have hc := hE.cmp
  obtain ⟨c0, hc0, h0⟩ := some_untold h hk
  obtain ⟨v, hv, rfl⟩ := hc.all c0 hc0
  obtain ⟨i, hi, hr⟩ := some_ready hE.gr hv ((h.not_done hc hv).2 h0)
  cases hn : nextS n G (outK n G k).1 with
  | none => rw [next_none] at hn; rw [hn i hi] at hr; cases hr
  | some j =>
    obtain ⟨h1, h2, h3⟩ := next_iff.1 hn
    have hok := (leads_zero hE h h1).1 h2
    have hhead : hdS n of (of j) = j := by
      obtain ⟨m, l, e, hm, hmc, hmin⟩ := part_head h1 (rfl : of j = of j)
      have hmr : readyS n G (outK n G k).1 m = true := by rw [leads_zero hE h hm, hmc]; exact hok
      have := hmin j h1 rfl
      have : ¬ m < j := fun hlt => by rw [h3 m hlt] at hmr; cases hmr
      unfold hdS
      rw [e]; simp; omega
    rcases hb with ⟨_, hb⟩ | ⟨c, rfl, hcl, hcok, hmin⟩
    · exact absurd hok (hb _ (hc.lt j h1))
    · have hle := hmin _ (hc.lt j h1) hok
      obtain ⟨x, hx, rfl⟩ := hc.all c hcl
      obtain ⟨m, l, e, hm, hmc, _⟩ := part_head hx (rfl : of x = of x)
      have hmr : readyS n G (outK n G k).1 m = true := by rw [leads_zero hE h hm, hmc]; exact hcok
      have hm2 : hdS n of (of x) = m := by unfold hdS; rw [e]; rfl
      have hnl : ¬ m < j := fun hlt => by rw [h3 m hlt] at hmr; cases hmr
      rw [hm2, hhead] at hle
      obtain rfl : m = j := by omega
      exact ⟨m, of x, rfl, hcl, hcok.1, h1, hmc, rfl, by rw [comp_part hc h1, hmc]⟩
theorem num_upd {told : Nat → Nat} {c : Nat} : ∀ {m}, c < m → told c = 0 → ((List.range m).filter fun x => upd told c 1 x == 1).length = ((List.range m).filter fun x => told x == 1).length + 1
  | 0, h, _ => absurd h (by omega)
  | m + 1, h, h0 => by
    rw [List.range_succ, List.filter_append, List.filter_append, List.length_append, List.length_append]
    by_cases e : c = m
    · subst e
      have : ((List.range c).filter fun x => upd told c 1 x == 1) = (List.range c).filter fun x => told x == 1 := by
        apply List.filter_congr
        intro x hx
        rw [upd_ne (by have := List.mem_range.1 hx; omega)]
      rw [this]
      simp [upd_at, h0]
    · rw [num_upd (by omega : c < m) h0]
      have : ([m].filter fun x => upd told c 1 x == 1) = [m].filter fun x => told x == 1 := by
        apply List.filter_congr
        intro x hx
        rw [List.mem_singleton.1 hx, upd_ne (by omega)]
      rw [this]; omega
/-- one component more is told -/
theorem Ek.tell (hE : Em n G of cnt P) (h : Ek n G of cnt k told) {i c : Nat} (hi : i < n) (hic : of i = c) (h0 : told c = 0) (hn : nextS n G (outK n G k).1 = some i) : Ek n G of cnt (k + 1) (upd told c 1) := by
  have hc := hE.cmp
  refine ⟨fun c' hc' => ?_, ?_, fun v hv => ?_⟩
  · by_cases e : c' = c
    · rw [e, upd_at]; exact .inr rfl
    · rw [upd_ne e]; exact h.bit c' hc'
  · rw [num_upd (hic ▸ hc.lt i hi) h0, h.num]
  · rw [outK_some hn]
    show ((outK n G k).1 v || (G i v && G v i)) = _
    rw [h.dn v hv]
    by_cases e : of v = c
    · rw [e, upd_at]
      have := (hc.eq i v hi hv).1 (hic.trans e.symm)
      rw [this.1, this.2]; simp
    · rw [upd_ne e]
      have : (G i v && G v i) = false := by
        rw [Bool.eq_false_iff]
        intro hb
        rw [Bool.and_eq_true] at hb
        exact e (((hc.eq i v hi hv).2 hb).symm.trans hic)
      rw [this, Bool.or_false]
theorem leads_tell {c : Nat} (h0 : told c = 0) (c' : Nat) : leadsP of P told c' = leadsP of P (upd told c 1) c' + (backP of P c).count c' := by
  unfold leadsP backP

  induction P with
  | nil => rfl
  | cons e P ih =>
    rw [List.countP_cons, List.countP_cons, List.filter_cons, ih]
    by_cases h1 : of e.1 = of e.2
    · simp [h1]
    · by_cases h2 : of e.2 = c
      · rw [h2, upd_at, h0]
        rw [h2] at h1
        have h4 : (of e.1 != c) = true := bne_iff_ne.2 h1
        rw [h4]
        by_cases h3 : of e.1 = c'
        · simp [h3]; omega
        · simp [h3]
      · rw [upd_ne h2]
        simp [h1, h2]; omega
theorem Ek.all_told (h : Ek n G of cnt cnt told) (hc : Cmp n G of cnt) : nextS n G (outK n G cnt).1 = none := by
  have hall : ∀ c, c < cnt → told c = 1 := by
    have h1 := h.num
    have h2 : ((List.range cnt).filter fun c => told c == 1) = List.range cnt := by
      apply List.Sublist.eq_of_length List.filter_sublist
      rw [h1, List.length_range]
    rw [List.filter_eq_self] at h2
    intro c hc
    simpa using h2 c (List.mem_range.2 hc)
  rw [next_none]
  intro i hi
  unfold readyS
  rw [h.dn i hi, hall _ (hc.lt i hi)]
  rfl
end Go.Proofs.Ytodhianmaogfpaa
