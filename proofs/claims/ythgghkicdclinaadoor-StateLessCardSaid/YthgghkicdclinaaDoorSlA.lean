/- What is wrong hangs on names, versions, what is provided, what is configured, and the relations: plain laws for StateLess. -/
import Derived.Test.YthgghkicdclinaaDoorStP
namespace Go.Proofs.YthgghkicdclinaaDoor
set_option linter.unusedSimpArgs false
set_option linter.unusedVariables false
open Go.RowKit

/-- an entry without its relations and its hold -/
def coreE (x : Ent) : Ent := ⟨⟨x.pkg.name, x.pkg.ver, [], [], [], [], [], x.pkg.prv, false⟩, x.conf, false⟩
theorem zip_map {α β γ : Type} (l : List α) (g : α → β) (F : β × Nat → List γ) (F' : α × Nat → List γ) (h : ∀ x i, F (g x, i) = F' (x, i)) : (l.map g).zipIdx.flatMap F = l.zipIdx.flatMap F' := by
  rw [List.zipIdx_map, List.flatMap_map]
  congr 1
  funext ⟨x, i⟩
  exact h x i
theorem clash1_core (s : List Ent) (at_ : Nat) (kind : Int) (name : List UInt8) (i : Nat) (a : Atm) : clash1 (s.map coreE) at_ kind name i a = clash1 s at_ kind name i a :=
  zip_map s coreE _ _ fun _ _ => rfl
theorem clashS_core (s : List Ent) (at_ : Nat) (kind : Int) (name : List UInt8) (ats : List Atm) : clashS (s.map coreE) at_ kind name ats = clashS s at_ kind name ats := by
  unfold clashS
  congr 1
  funext y
  exact clash1_core s at_ kind name y.2 y.1
theorem met_core (c : List Atm) : ∀ s : List Ent, metS c (onS (s.map coreE)) = metS c (onS s)
  | [] => rfl
  | x :: s => by
    have ih := met_core c s
    unfold metS onS at ih ⊢
    simp only [List.map_cons, List.filter_cons]
    have e : (coreE x).conf = x.conf := rfl
    rw [e]
    cases x.conf
    · exact ih
    · simp only [if_true, List.map_cons, List.any_cons]
      rw [ih]
      rfl
theorem lacks_congr {name : List UInt8} {pre : Bool} {on on' : List Pkg} {cs : List (List Atm)} (h : ∀ c, metS c on = metS c on') : lacksS name pre on cs = lacksS name pre on' cs := by
  unfold lacksS
  simp only [h]
theorem wrong1_core {s t : List Ent} (h : s.map coreE = t.map coreE) (i : Nat) (x : Ent) : wrong1 s i x = wrong1 t i x := by
  have hm : ∀ c, metS c (onS s) = metS c (onS t) := fun c => by rw [← met_core c s, ← met_core c t, h]
  have hc : ∀ (kind : Int) ats, clashS s i kind x.pkg.name ats = clashS t i kind x.pkg.name ats := fun kind ats => by rw [← clashS_core s, ← clashS_core t, h]
  unfold wrong1
  rw [lacks_congr (cs := x.pkg.pre) hm, lacks_congr (cs := x.pkg.dep) hm, hc, hc]
def flipE (x : Ent) : Ent := ⟨x.pkg, x.conf, !x.hold⟩
theorem flip_core (s : List Ent) : (s.map flipE).map coreE = s.map coreE := by
  rw [List.map_map]
  rfl
/-- holds make no difference -/
theorem wrong_flip (s : List Ent) : wrongS (s.map flipE) = wrongS s := by
  unfold wrongS
  exact zip_map s flipE _ _ fun x i => wrong1_core (flip_core s) i (flipE x)
theorem wrong_mem {s : List Ent} {v : Vio} : v ∈ wrongS s ↔ ∃ (i : Nat) (x : Ent), s[i]? = some x ∧ v ∈ wrong1 s i x := by
  unfold wrongS
  rw [List.mem_flatMap]
  constructor
  · rintro ⟨⟨x, i⟩, h1, h2⟩
    exact ⟨i, x, List.mem_zipIdx_iff_getElem?.1 h1, h2⟩
  · rintro ⟨i, x, h1, h2⟩
    exact ⟨(x, i), List.mem_zipIdx_iff_getElem?.2 h1, h2⟩
/-- one list of relations of an entry taken out -/
def cutK (k : Nat) (x : Ent) : Ent := match k with
  | 0 => ⟨⟨x.pkg.name, x.pkg.ver, x.pkg.pre, [], x.pkg.rcm, x.pkg.con, x.pkg.brk, x.pkg.prv, x.pkg.ess⟩, x.conf, x.hold⟩
  | 1 => ⟨⟨x.pkg.name, x.pkg.ver, [], x.pkg.dep, x.pkg.rcm, x.pkg.con, x.pkg.brk, x.pkg.prv, x.pkg.ess⟩, x.conf, x.hold⟩
  | 2 => ⟨⟨x.pkg.name, x.pkg.ver, x.pkg.pre, x.pkg.dep, x.pkg.rcm, [], x.pkg.brk, x.pkg.prv, x.pkg.ess⟩, x.conf, x.hold⟩
  | _ => ⟨⟨x.pkg.name, x.pkg.ver, x.pkg.pre, x.pkg.dep, x.pkg.rcm, x.pkg.con, [], x.pkg.prv, x.pkg.ess⟩, x.conf, x.hold⟩
theorem cut_core (k : Nat) (x : Ent) : coreE (cutK k x) = coreE x := by
  unfold cutK
  split <;> rfl
theorem lacks_none (name : List UInt8) (pre : Bool) (on : List Pkg) : lacksS name pre on [] = [] := rfl
theorem clash_none (s : List Ent) (i : Nat) (kind : Int) (name : List UInt8) : clashS s i kind name [] = [] := rfl
theorem cut_sub (s : List Ent) (i k : Nat) (x : Ent) {v : Vio} (h : v ∈ wrong1 s i (cutK k x)) : v ∈ wrong1 s i x := by
  unfold cutK at h
  unfold wrong1 at h ⊢
  simp only [List.mem_append] at h ⊢
  split at h
  · dsimp only at h
    rw [lacks_none] at h
    rcases h with h | h | h | h
    · exact .inl h
    · split at h <;> simp at h
    · exact .inr (.inr (.inl h))
    · exact .inr (.inr (.inr h))
  · dsimp only at h
    rw [lacks_none] at h
    rcases h with h | h | h | h
    · simp at h
    · exact .inr (.inl h)
    · exact .inr (.inr (.inl h))
    · exact .inr (.inr (.inr h))
  · dsimp only at h
    rw [clash_none] at h
    rcases h with h | h | h | h
    · exact .inl h
    · exact .inr (.inl h)
    · simp at h
    · exact .inr (.inr (.inr h))
  · dsimp only at h
    rw [clash_none] at h
    rcases h with h | h | h | h
    · exact .inl h
    · exact .inr (.inl h)
    · exact .inr (.inr (.inl h))
    · simp at h
theorem set_core {s : List Ent} {i : Nat} {x y : Ent} (hx : s[i]? = some x) (h : coreE y = coreE x) : (s.set i y).map coreE = s.map coreE := by
  rw [List.map_set, h]
  obtain ⟨hi, rfl⟩ := List.getElem?_eq_some_iff.1 hx
  apply List.ext_getElem?
  intro j
  rw [List.getElem?_set]
  split
  · rename_i hij
    subst hij
    simp [hi]
  · rfl
/-- with fewer relations of a package nothing more is wrong -/
theorem wrong_less {s : List Ent} {i k : Nat} {x : Ent} (hx : s[i]? = some x) : withinS (wrongS (s.set i (cutK k x))) (wrongS s) = true := by
  unfold withinS
  rw [List.all_eq_true]
  intro v hv
  rw [List.any_eq_true]
  refine ⟨v, ?_, by simp⟩
  obtain ⟨j, z, hz, hvz⟩ := wrong_mem.1 hv
  rw [wrong1_core (set_core hx (cut_core k x))] at hvz
  rw [wrong_mem]
  rw [List.getElem?_set] at hz
  split at hz
  · rename_i hij
    subst hij
    split at hz
    · injection hz with hz
      subst hz
      exact ⟨i, x, hx, cut_sub s i k x hvz⟩
    · cases hz
  · exact ⟨j, z, hz, hvz⟩
/-- without relations -/
def bareE (x : Ent) : Ent := ⟨⟨x.pkg.name, x.pkg.ver, [], [], x.pkg.rcm, [], [], x.pkg.prv, x.pkg.ess⟩, x.conf, x.hold⟩
theorem wrong_bare (s : List Ent) : wrongS (s.map bareE) = [] := by
  rw [List.eq_nil_iff_forall_not_mem]
  intro v hv
  obtain ⟨i, x, hx, hvx⟩ := wrong_mem.1 hv
  rw [List.getElem?_map, Option.map_eq_some_iff] at hx
  obtain ⟨y, _, rfl⟩ := hx
  unfold wrong1 bareE at hvx
  dsimp only at hvx
  rw [lacks_none, lacks_none, clash_none, clash_none] at hvx
  split at hvx <;> simp at hvx
end Go.Proofs.YthgghkicdclinaaDoor
