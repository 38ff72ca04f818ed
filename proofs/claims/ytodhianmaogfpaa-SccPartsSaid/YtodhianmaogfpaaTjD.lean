/- Edges, plainly: the graph that they make, who reaches whom, and what both texts tell of it. -/
import Derived.Test.YtodhianmaogfpaaTjC
namespace Go.Proofs.Ytodhianmaogfpaa
set_option linter.unusedSimpArgs false
set_option linter.unusedVariables false
def okE (n : Nat) (e : Int × Int) : Bool := decide (0 ≤ e.1) && decide (e.1 < (n : Int)) && decide (0 ≤ e.2) && decide (e.2 < (n : Int))
def natE (e : Int × Int) : Nat × Nat := (e.1.toNat, e.2.toNat)
/-- the edges that are there -/
def inE (n : Nat) (l : List (Int × Int)) : List (Nat × Nat) := (l.filter (okE n)).map natE
/-- .. and that count -/
def vE (n : Nat) (l : List (Int × Int)) : List (Nat × Nat) := (inE n l).take 20000
def adjE (E : List (Nat × Nat)) (v : Nat) : List Nat := (E.filter fun e => e.1 == v).map fun e => e.2
def inN (n : Nat) (E : List (Nat × Nat)) : Prop := ∀ e ∈ E, e.1 < n ∧ e.2 < n
theorem inE_in (n : Nat) (l : List (Int × Int)) : inN n (inE n l) := by
  intro e he
  obtain ⟨x, hx, rfl⟩ := List.mem_map.1 he
  have := (List.mem_filter.1 hx).2
  simp only [okE, Bool.and_eq_true, decide_eq_true_eq] at this
  unfold natE
  simp only
  omega
theorem vE_in (n : Nat) (l : List (Int × Int)) : inN n (vE n l) := fun e he => inE_in n l e (List.mem_of_mem_take he)
theorem mem_adj {E : List (Nat × Nat)} {v w : Nat} : w ∈ adjE E v ↔ (v, w) ∈ E := by
  unfold adjE
  rw [List.mem_map]
  constructor
  · rintro ⟨⟨a, b⟩, he, rfl⟩
    obtain ⟨h1, h2⟩ := List.mem_filter.1 he
    obtain rfl : a = v := by simpa using h2
    exact h1
  · intro h
    exact ⟨(v, w), List.mem_filter.2 ⟨h, by simp⟩, rfl⟩
theorem adj_lt {n : Nat} {E : List (Nat × Nat)} (h : inN n E) : ∀ v w, w ∈ adjE E v → w < n := fun v w hw => (h _ (mem_adj.1 hw)).2
def g0 (E : List (Nat × Nat)) (a b : Nat) : Bool := a == b || E.contains (a, b)
def gE (n : Nat) (E : List (Nat × Nat)) : Nat → Nat → Bool := wal (g0 E) n
theorem wal_rch {E : List (Nat × Nat)} : ∀ k a b, wal (g0 E) k a b = true → Rch (adjE E) a b
  | 0, a, b, h => by
    simp only [wal, g0, Bool.or_eq_true, beq_iff_eq, List.contains_iff_mem] at h
    rcases h with rfl | h
    · exact .refl _
    · exact .edge (mem_adj.2 h)
  | k + 1, a, b, h => by
    simp only [wal, Bool.or_eq_true, Bool.and_eq_true] at h
    rcases h with h | ⟨h1, h2⟩
    · exact wal_rch k a b h
    · exact (wal_rch k a k h1).trans (wal_rch k k b h2)
theorem gE_iff {n : Nat} {E : List (Nat × Nat)} (hE : inN n E) {a b : Nat} (ha : a < n) : gE n E a b = true ↔ Rch (adjE E) a b := by
  constructor
  · exact wal_rch n a b
  · intro h
    induction h with
    | refl u => exact wal_mono (by simp [g0]) n
    | step h _ ih =>
      have hm := mem_adj.1 h
      have hw := (hE _ hm).2
      exact wal_trans n _ _ _ hw (wal_mono (by simp [g0, hm]) n) (ih hw)
theorem gE_gr {n : Nat} {E : List (Nat × Nat)} : Gr n (gE n E) := ⟨fun i _ => wal_mono (by simp [g0]) n, fun i j k _ hj _ h1 h2 => wal_trans n i j k hj h1 h2⟩
def prs (n : Nat) (adj : Nat → List Nat) : List (Nat × Nat) := (List.range n).flatMap fun v => (adj v).map fun w => (v, w)
theorem mem_prs {n : Nat} {adj : Nat → List Nat} {v w : Nat} : (v, w) ∈ prs n adj ↔ v < n ∧ w ∈ adj v := by
  unfold prs
  rw [List.mem_flatMap]
  constructor
  · rintro ⟨u, hu, h⟩
    obtain ⟨x, hx, he⟩ := List.mem_map.1 h
    injection he with h1 h2
    subst h1 h2
    exact ⟨List.mem_range.1 hu, hx⟩
  · rintro ⟨h1, h2⟩
    exact ⟨v, List.mem_range.2 h1, List.mem_map.2 ⟨w, h2, rfl⟩⟩
/-- what the search tells of these edges -/
theorem em_of {n : Nat} {E : List (Nat × Nat)} (hE : inN n E) {of : Nat → Nat} {cnt : Nat} (h1 : ∀ v, v < n → of v < cnt) (h2 : ∀ v w, v < n → w < n → (of v = of w ↔ Rch (adjE E) v w ∧ Rch (adjE E) w v)) (h3 : ∀ c, c < cnt → ∃ v, v < n ∧ of v = c) :
    Em n (gE n E) of cnt (prs n (adjE E)) := by
  refine ⟨⟨h1, fun v w hv hw => ?_, h3⟩, gE_gr, fun e he => ?_, fun S hS v w hv hw hg => ?_⟩
  · rw [gE_iff hE hv, gE_iff hE hw]; exact h2 v w hv hw
  · obtain ⟨a, b⟩ := e
    obtain ⟨h4, h5⟩ := mem_prs.1 he
    exact ⟨h4, adj_lt hE _ _ h5, (gE_iff hE h4).2 (.edge h5)⟩
  · intro hs
    have := ((gE_iff hE hv).1 hg).shut (P := fun x => x < n ∧ S x) (fun u x ⟨hu, hsu⟩ hx => ⟨adj_lt hE _ _ hx, hS (u, x) (mem_prs.2 ⟨hu, hx⟩) hsu⟩) ⟨hv, hs⟩
    exact this.2
/-- the components, told -/
def CompsIs (n : Nat) (G : Nat → Nat → Bool) (out : List (List Nat)) : Prop := ∃ k, nextS n G (outK n G k).1 = none ∧ out = (outK n G k).2
theorem CompsIs.uniq {n : Nat} {G : Nat → Nat → Bool} {a b : List (List Nat)} (ha : CompsIs n G a) (hb : CompsIs n G b) : a = b := by
  obtain ⟨k, h1, rfl⟩ := ha
  obtain ⟨m, h2, rfl⟩ := hb
  rw [outK_end h1 h2]
end Go.Proofs.Ytodhianmaogfpaa
