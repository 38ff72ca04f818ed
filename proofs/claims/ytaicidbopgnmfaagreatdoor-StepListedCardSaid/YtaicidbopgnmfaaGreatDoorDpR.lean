/- Steps one behind the other, plainly. -/
import Derived.Test.YtaicidbopgnmfaaGreatDoorDoF
namespace Go.Proofs.YtaicidbopgnmfaaGreatDoor
set_option linter.unusedSimpArgs false
set_option linter.unusedVariables false
open Go.RowKit
theorem done_sub {s : List Ent} {r : List Ent × Int} {y : Ent} (h : y ∈ (doneS s r).1) : y ∈ r.1 := by
  unfold doneS at h
  split at h
  · cases h
  · split at h
    · cases h
    · split at h
      · exact h
      · cases h
theorem do_fewD {s : List Ent} {st : Stp} {fr : List Pkg} (hs : ∀ x ∈ s, fewD x.pkg) (hf : ∀ p ∈ fr, fewD p) : ∀ y ∈ (doS s st fr).1, fewD y.pkg := fun y hy => by
  unfold doS at hy
  split at hy
  · cases hy
  · split at hy
    · cases hy
    · split at hy
      · cases hy
      · exact turn_fewD hs hf y (done_sub hy)
/-- steps as far as they go: what there is, how many were done, why no more -/
def runS : List Ent → List Stp → List Pkg → Nat → List Ent × Nat × Int
  | s, [], _, i => (s, i, 0)
  | s, st :: l, fr, i => if (doS s st fr).2 = 0 then runS (doS s st fr).1 l fr (i + 1) else (s, i, (doS s st fr).2)
def runM (s : List Ent) (l : List Stp) (fr : List Pkg) : List Ent × Nat × Int := if 200 < l.length then ([], 0, 12) else runS s l fr 0
theorem run_cons {s : List Ent} {st : Stp} {l : List Stp} {fr : List Pkg} {i : Nat} : runS s (st :: l) fr i = if (doS s st fr).2 = 0 then runS (doS s st fr).1 l fr (i + 1) else (s, i, (doS s st fr).2) := by
  rw [runS]
theorem run_go {s : List Ent} {l : List Stp} {fr : List Pkg} {k : Nat} {st : Stp} (h : l[k]? = some st) (h0 : (doS s st fr).2 = 0) : runS s (l.drop k) fr k = runS (doS s st fr).1 (l.drop (k + 1)) fr (k + 1) := by
  obtain ⟨hk, rfl⟩ := List.getElem?_eq_some_iff.1 h
  rw [List.drop_eq_getElem_cons hk]
  exact run_cons.trans (if_pos h0)
theorem run_stop {s : List Ent} {l : List Stp} {fr : List Pkg} {k : Nat} {st : Stp} (h : l[k]? = some st) (h0 : (doS s st fr).2 ≠ 0) : runS s (l.drop k) fr k = (s, k, (doS s st fr).2) := by
  obtain ⟨hk, rfl⟩ := List.getElem?_eq_some_iff.1 h
  rw [List.drop_eq_getElem_cons hk]
  exact run_cons.trans (if_neg h0)
theorem run_end {s : List Ent} {l : List Stp} {fr : List Pkg} {k : Nat} (h : l.length ≤ k) : runS s (l.drop k) fr k = (s, k, 0) := by
  rw [List.drop_of_length_le h, runS]
/-- steps, those that are refused passed over: the first k of them -/
def safeS (s : List Ent) (fr : List Pkg) : List Stp → List Ent
  | [] => s
  | st :: l => safeS (if (doS s st fr).2 = 0 then (doS s st fr).1 else s) fr l
def safe1 (fr : List Pkg) (t : List Ent) (st : Stp) : List Ent := if (doS t st fr).2 = 0 then (doS t st fr).1 else t
theorem safe_snoc {s : List Ent} {fr : List Pkg} : ∀ (l : List Stp) (st : Stp), safeS s fr (l ++ [st]) = safe1 fr (safeS s fr l) st := fun l => by
  induction l generalizing s with
  | nil => exact fun st => rfl
  | cons a l ih => exact fun st => ih st
/-- what holds of a run that passes over what is refused -/
structure SafeI (s : List Ent) (fr : List Pkg) (l : List Stp) (t : List Ent) : Prop where
  ents : mayEntsE t = 0
  within : withinS (wrongS t) (wrongS s) = true
  few : ∀ x ∈ t, fewD x.pkg
  keeps : ∀ x ∈ s, x.pkg.ess = true → (∀ st ∈ l, ¬ (st.kind = 3 ∧ st.name = x.pkg.name)) → ∃ y ∈ t, y.pkg = x.pkg
theorem SafeI.zero {s : List Ent} {fr : List Pkg} (h : mayEntsE s = 0) (hs : ∀ x ∈ s, fewD x.pkg) : SafeI s fr [] s := ⟨h, within_refl _, hs, fun x hx _ _ => ⟨x, hx, rfl⟩⟩
theorem SafeI.no {s t : List Ent} {fr : List Pkg} {l : List Stp} (h : SafeI s fr l t) (st : Stp) : SafeI s fr (l ++ [st]) t := ⟨h.ents, h.within, h.few, fun x hx he hn => h.keeps x hx he fun a ha => hn a (List.mem_append_left _ ha)⟩
theorem SafeI.yes {s t : List Ent} {fr : List Pkg} {l : List Stp} {st : Stp} (h : SafeI s fr l t) (hf : ∀ p ∈ fr, fewD p) (h0 : (doS t st fr).2 = 0) : SafeI s fr (l ++ [st]) (doS t st fr).1 := by
  have hd := do_did h0
  refine ⟨hd.may, within_trans hd.within h.within, do_fewD h.few hf, fun x hx he hn => ?_⟩
  obtain ⟨y, hy, e⟩ := h.keeps x hx he fun a ha => hn a (List.mem_append_left _ ha)
  obtain ⟨z, hz, e2⟩ := hd.keeps hy (by rw [e]; exact he) (by rw [e]; exact hn st (by simp))
  exact ⟨z, hz, e2.trans e⟩
end Go.Proofs.YtaicidbopgnmfaaGreatDoor
