/- The first place at which something holds, plainly. -/
import Derived.Test.YtcbomomlojhghaaDoorPk
namespace Go.Proofs.YtcbomomlojhghaaDoor
set_option linter.unusedSimpArgs false
set_option linter.unusedVariables false
/-- the first place at which p holds; -1 -/
def idxS {α : Type} (p : α → Bool) (l : List α) : Int := match l.findIdx? p with | some i => i | none => -1
section
variable {α : Type} {p : α → Bool} {l : List α} {k : Nat} {q : α}
theorem idx_any : decide (0 ≤ idxS p l) = l.any p := by
  unfold idxS
  rcases h : l.findIdx? p with _ | i
  · rw [List.findIdx?_eq_none_iff] at h
    have : l.any p = false := by simpa using h
    rw [this]; rfl
  · have h' : (l.findIdx? p).isSome = true := by rw [h]; rfl
    rw [List.findIdx?_isSome] at h'
    rw [h']
    simp
theorem idx_at (hq : l[k]? = some q) (hp : p q = true) (hn : (l.take k).any p = false) : idxS p l = k := by
  obtain ⟨hk, rfl⟩ := List.getElem?_eq_some_iff.1 hq
  have : l.findIdx? p = some k := by
    rw [List.findIdx?_eq_some_iff_getElem]
    refine ⟨hk, hp, fun j hj => ?_⟩
    rw [List.any_eq_false] at hn
    have := hn l[j] (List.mem_take_iff_getElem.2 ⟨j, by omega, rfl⟩)
    simpa using this
  simp [idxS, this]
theorem idx_no (h : l.any p = false) : idxS p l = -1 := by
  have : l.findIdx? p = none := by
    rw [List.findIdx?_eq_none_iff]
    simpa using h
  simp [idxS, this]
theorem any_step (hq : l[k]? = some q) (hp : p q = false) (hn : (l.take k).any p = false) : (l.take (k + 1)).any p = false := by
  rw [take_step hq, List.any_append, hn]
  simp [hp]
theorem any_yes (hq : l[k]? = some q) (hp : p q = true) : l.any p = true := List.any_eq_true.2 ⟨q, List.mem_of_getElem? hq, hp⟩
theorem all_step' (hq : l[k]? = some q) (hp : p q = true) (hn : (l.take k).all p = true) : (l.take (k + 1)).all p = true := by
  rw [take_step hq, List.all_append, hn]
  simp [hp]
theorem all_no (hq : l[k]? = some q) (hp : p q = false) : l.all p = false := by
  rw [Bool.eq_false_iff]
  intro h
  rw [List.all_eq_true] at h
  rw [h q (List.mem_of_getElem? hq)] at hp
  cases hp
theorem any_end (hk : k ≤ l.length) (h : ¬ k < l.length) (hn : (l.take k).any p = false) : l.any p = false := by rwa [take_end hk h] at hn
theorem all_end (hk : k ≤ l.length) (h : ¬ k < l.length) (hn : (l.take k).all p = true) : l.all p = true := by rwa [take_end hk h] at hn
end
end Go.Proofs.YtcbomomlojhghaaDoor
