/- A healthy whole, all configured, has nothing wrong, and the other way round: plain. -/
import Derived.Test.YthgghkicdclinaaDoorHeP
namespace Go.Proofs.YthgghkicdclinaaDoor
set_option linter.unusedSimpArgs false
set_option linter.unusedVariables false
open Go.RowKit

/-- each name stands at one place -/
def soloN (l : List Pkg) : Prop := ∀ (i j : Nat) p q, l[i]? = some p → l[j]? = some q → p.name = q.name → i = j
theorem flat_nil {α β : Type} {l : List α} {f : α × Nat → List β} : l.zipIdx.flatMap f = [] ↔ ∀ (i : Nat) x, l[i]? = some x → f (x, i) = [] := by
  rw [List.flatMap_eq_nil_iff]
  constructor
  · intro h i x hx
    exact h (x, i) (List.mem_zipIdx_iff_getElem?.2 hx)
  · intro h y hy
    exact h y.2 y.1 (List.mem_zipIdx_iff_getElem?.1 hy)
theorem lacks_nil {name : List UInt8} {pre : Bool} {on : List Pkg} {cs : List (List Atm)} : lacksS name pre on cs = [] ↔ ∀ c ∈ cs, metS c on = true := by
  unfold lacksS
  rw [flat_nil]
  constructor
  · intro h c hc
    obtain ⟨i, hi, rfl⟩ := List.mem_iff_getElem.1 hc
    have := h i _ (List.getElem?_eq_getElem hi)
    dsimp only at this
    split at this
    · assumption
    · cases this
  · intro h i x hx
    dsimp only
    rw [if_pos (h x (List.mem_of_getElem? hx))]
theorem clash_nil {s : List Ent} {at_ : Nat} {kind : Int} {name : List UInt8} {ats : List Atm} (hk : kind = 2 ∨ ∀ x ∈ s, x.conf = true) :
    clashS s at_ kind name ats = [] ↔ ∀ a ∈ ats, ∀ (j : Nat) y, s[j]? = some y → j ≠ at_ → satS y.pkg a = false := by
  unfold clashS
  rw [flat_nil]
  constructor
  · intro h a ha j y hy hj
    obtain ⟨i, hi, rfl⟩ := List.mem_iff_getElem.1 ha
    have h1 := h i _ (List.getElem?_eq_getElem hi)
    unfold clash1 at h1
    rw [flat_nil] at h1
    have h2 := h1 j y hy
    dsimp only at h2
    split at h2
    · cases h2
    · rename_i h3
      rw [Bool.eq_false_iff]
      intro h4
      apply h3
      rcases hk with rfl | hk
      · simp [hj, h4]
      · simp [hj, h4, hk y (List.mem_of_getElem? hy)]
  · intro h i a ha
    dsimp only
    unfold clash1
    rw [flat_nil]
    intro j y hy
    dsimp only
    rw [if_neg]
    intro h1
    simp only [Bool.and_eq_true, decide_eq_true_eq] at h1
    rw [h a (List.mem_of_getElem? ha) j y hy h1.1.1] at h1
    exact absurd h1.2 (by simp)
theorem onS_all {s : List Ent} (h : ∀ x ∈ s, x.conf = true) : onS s = s.map Ent.pkg := by
  unfold onS
  rw [List.filter_eq_self.2 h]
theorem wrong_nil {s : List Ent} {l : List Pkg} (hm : s.map Ent.pkg = l) (hc : ∀ x ∈ s, x.conf = true) :
    wrongS s = [] ↔ ∀ (i : Nat) p, l[i]? = some p → (∀ c ∈ p.pre ++ p.dep, metS c l = true) ∧ ∀ (j : Nat) q, l[j]? = some q → j ≠ i → agnS p q = false := by
  have hon : onS s = l := (onS_all hc).trans hm
  unfold wrongS
  rw [flat_nil]
  have hget : ∀ (i : Nat) p, l[i]? = some p ↔ ∃ x, s[i]? = some x ∧ x.pkg = p := fun i p => by
    rw [← hm, List.getElem?_map, Option.map_eq_some_iff]
  constructor
  · intro h i p hp
    obtain ⟨x, hx, rfl⟩ := (hget i p).1 hp
    have h1 := h i x hx
    dsimp only at h1
    unfold wrong1 at h1
    rw [hc x (List.mem_of_getElem? hx), if_pos rfl, hon] at h1
    simp only [List.append_eq_nil_iff] at h1
    obtain ⟨a1, a2, a3, a4⟩ := h1
    rw [lacks_nil] at a1 a2
    rw [clash_nil (.inl rfl)] at a3
    rw [clash_nil (.inr hc)] at a4
    refine ⟨fun c hcm => ?_, fun j q hq hj => ?_⟩
    · rcases List.mem_append.1 hcm with hcm | hcm
      · exact a1 c hcm
      · exact a2 c hcm
    · obtain ⟨y, hy, rfl⟩ := (hget j q).1 hq
      unfold agnS
      rw [Bool.or_eq_false_iff, List.any_eq_false, List.any_eq_false]
      exact ⟨fun a ha => by rw [a3 a ha j y hy hj]; simp, fun a ha => by rw [a4 a ha j y hy hj]; simp⟩
  · intro h i x hx
    obtain ⟨b1, b2⟩ := h i x.pkg ((hget i x.pkg).2 ⟨x, hx, rfl⟩)
    dsimp only
    unfold wrong1
    rw [hc x (List.mem_of_getElem? hx), if_pos rfl, hon]
    simp only [List.append_eq_nil_iff]
    refine ⟨lacks_nil.2 fun c hcm => b1 c (List.mem_append_left _ hcm), lacks_nil.2 fun c hcm => b1 c (List.mem_append_right _ hcm), ?_, ?_⟩
    · rw [clash_nil (.inl rfl)]
      intro a ha j y hy hj
      have h1 := b2 j y.pkg ((hget j y.pkg).2 ⟨y, hy, rfl⟩) hj
      unfold agnS at h1
      rw [Bool.or_eq_false_iff, List.any_eq_false, List.any_eq_false] at h1
      simpa using h1.1 a ha
    · rw [clash_nil (.inr hc)]
      intro a ha j y hy hj
      have h1 := b2 j y.pkg ((hget j y.pkg).2 ⟨y, hy, rfl⟩) hj
      unfold agnS at h1
      rw [Bool.or_eq_false_iff, List.any_eq_false, List.any_eq_false] at h1
      simpa using h1.2 a ha
theorem hlth_iff {l : List Pkg} (hmay : ∀ p ∈ l, mayE p = 0) (ho : soloN l) :
    hlthS l = true ↔ ∀ (i : Nat) p, l[i]? = some p → (∀ c ∈ p.pre ++ p.dep, metS c l = true) ∧ ∀ (j : Nat) q, l[j]? = some q → j ≠ i → agnS p q = false := by
  unfold hlthS okT
  rw [Bool.and_eq_true, List.all_eq_true, List.all_eq_true]
  have hbad : ∀ (i j : Nat) p q, l[i]? = some p → l[j]? = some q → j ≠ i → (badQ p q = false ↔ agnS p q = false ∧ agnS q p = false) := fun i j p q hp hq hj => by
    have hn : p.name ≠ q.name := fun he => hj (ho i j p q hp hq he).symm
    have hn' : ¬ q.name = p.name := fun he => hn he.symm
    simp [badQ, clhS, hn, hn']
  constructor
  · rintro ⟨h1, h2⟩ i p hp
    refine ⟨?_, fun j q hq hj => ?_⟩
    · have := h2 p (List.mem_of_getElem? hp)
      unfold okCl at this
      rw [List.all_eq_true] at this
      exact this
    · have ok : ∀ (i j : Nat) p q, l[i]? = some p → l[j]? = some q → j < i → agnS p q = false ∧ agnS q p = false := fun i j p q hp hq hlt => by
        have h3 := h1 i (List.mem_range.2 (List.getElem?_eq_some_iff.1 hp).1)
        rw [hp] at h3
        simp only [okAt, Bool.and_eq_true, Bool.not_eq_true'] at h3
        rw [List.any_eq_false] at h3
        have h4 := h3.2 q (List.mem_of_getElem? (by rw [List.getElem?_take_of_lt hlt]; exact hq))
        exact (hbad i j p q hp hq (by omega)).1 (by simpa using h4)
      rcases Nat.lt_or_ge j i with hlt | hge
      · exact (ok i j p q hp hq hlt).1
      · exact (ok j i q p hq hp (by omega)).2
  · intro h
    refine ⟨fun i hi => ?_, fun p hp => ?_⟩
    · have hp : l[i]? = some (l[i]'(List.mem_range.1 hi)) := List.getElem?_eq_getElem (List.mem_range.1 hi)
      rw [hp]
      simp only [okAt, Bool.and_eq_true, Bool.not_eq_true', decide_eq_true_eq]
      refine ⟨hmay _ (List.mem_of_getElem? hp), ?_⟩
      rw [List.any_eq_false]
      intro q hq
      obtain ⟨j, hj, rfl⟩ := List.mem_iff_getElem.1 hq
      have hjl : j < i := by simp at hj; omega
      have hq2 : l[j]? = some ((l.take i)[j]) := by rw [← List.getElem?_take_of_lt hjl]; exact List.getElem?_eq_getElem hj
      have h5 := (hbad i j _ _ hp hq2 (by omega)).2 ⟨(h i _ hp).2 j _ hq2 (by omega), (h j _ hq2).2 i _ hp (by omega)⟩
      rw [h5]
      simp
    · obtain ⟨i, hi, rfl⟩ := List.mem_iff_getElem.1 hp
      unfold okCl
      rw [List.all_eq_true]
      exact (h i _ (List.getElem?_eq_getElem hi)).1
theorem sound {l : List Pkg} {s : List Ent} (hm : s.map Ent.pkg = l) (hc : ∀ x ∈ s, x.conf = true) (hmay : ∀ p ∈ l, mayE p = 0) (ho : soloN l) : hlthS l = decide (wrongS s = []) := by
  rw [Bool.eq_iff_iff, decide_eq_true_iff, hlth_iff hmay ho, wrong_nil hm hc]
end Go.Proofs.YthgghkicdclinaaDoor
