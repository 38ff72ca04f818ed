/- Which steps can be done, plainly; the order of steps. -/
import Derived.Test.YtaicidbopgnmfaaGreatDoorDpR
import Derived.Test.YtaicidbopgnmfaaGreatDoorSq2
namespace Go.Proofs.YtaicidbopgnmfaaGreatDoor
set_option linter.unusedSimpArgs false
set_option linter.unusedVariables false
open Go.RowKit
/-- two steps compared: kinds, names, versions, the versions' bytes -/
def stC (a b : Stp) : Int := orS (Lib.compareInt a.kind b.kind) (cmpB a.name b.name) (orS (cmpX a.ver b.ver) (cmpB a.ver b.ver) 0)
def stLt (a b : Stp) : Bool := decide (stC a b < 0)
theorem cI_swap (x y : Int) : Lib.compareInt y x = - Lib.compareInt x y := by
  simp only [cI_val]
  grind
theorem cI_ord (x y z : Int) : ord (Lib.compareInt x y) (Lib.compareInt y z) (Lib.compareInt x z) := by
  unfold ord
  simp only [cI_val]
  grind
theorem cI_zero {x y : Int} : Lib.compareInt x y = 0 ↔ x = y := by
  simp only [cI_val]
  grind
theorem orS_zero {x y z : Int} : orS x y z = 0 ↔ x = 0 ∧ y = 0 ∧ z = 0 := by
  unfold orS
  grind
theorem stC_swap (a b : Stp) : stC b a = - stC a b := by
  unfold stC
  rw [cI_swap a.kind b.kind, cmpB_swap a.name b.name, cmpX_swap a.ver b.ver, cmpB_swap a.ver b.ver]
  have h := orS_swap (cmpX a.ver b.ver) (cmpB a.ver b.ver) 0
  rw [Int.neg_zero] at h
  rw [h]
  exact orS_swap _ _ _
theorem stC_ord (a b c : Stp) : ord (stC a b) (stC b c) (stC a c) := orS_ord (cI_ord ..) (cmpB_ord ..) (orS_ord (cmpX_ord ..) (cmpB_ord ..) ord_zero)
theorem stSW : SW stLt := sw_of stC_swap stC_ord
theorem stC_zero {a b : Stp} (h : stC a b = 0) : a = b := by
  unfold stC at h
  rw [orS_zero, orS_zero] at h
  obtain ⟨h1, h2, _, h3, _⟩ := h
  have e1 := cI_zero.1 h1
  have e2 := cmpB_zero.1 h2
  have e3 := cmpB_zero.1 h3
  cases a
  cases b
  simp only at e1 e2 e3
  subst e1 e2 e3
  rfl
theorem st_tot {a b : Stp} (h1 : stLt a b = false) (h2 : stLt b a = false) : a = b := by
  have h := stC_swap a b
  unfold stLt at h1 h2
  simp at h1 h2
  exact stC_zero (by omega)
/-- y ahead of the first that is not less -/
def insF : List Stp → Stp → List Stp
  | [], y => [y]
  | x :: l, y => if stLt x y then x :: insF l y else y :: x :: l
theorem insF_eq : ∀ {l : List Stp} (y : Stp), Ris stLt l → insF l y = insR stLt l y
  | [], y, _ => rfl
  | x :: l, y, h => by
    have hl : Ris stLt l := (List.pairwise_cons.1 h).2
    have hx := (List.pairwise_cons.1 h).1
    have ih := insF_eq y hl
    unfold insF insR
    rcases h1 : stLt x y
    · rcases h2 : stLt y x
      · obtain rfl : x = y := st_tot h1 h2
        rw [if_neg (by simp), if_neg (by simp), ← ih]
        rcases l with _ | ⟨z, l⟩
        · rfl
        · unfold insF
          rw [if_neg (by rw [hx z (by simp)]; simp)]
      · rw [if_neg (by simp), if_pos rfl]
    · have h2 := stSW.asym _ _ h1
      rw [if_pos rfl, if_neg (by rw [h2]; simp), ih]
/-- the steps that could be -/
def may3 (x : Ent) : List Stp := [⟨1, x.pkg.name, []⟩, ⟨2, x.pkg.name, []⟩, ⟨4, x.pkg.name, []⟩]
def mayL (s : List Ent) (fr : List Pkg) : List Stp := s.flatMap may3 ++ fr.map fun p => ⟨3, p.name, p.ver⟩
def doneB (s : List Ent) (fr : List Pkg) (st : Stp) : Bool := decide ((doS s st fr).2 = 0)
def allS (s : List Ent) (fr : List Pkg) : List Stp := srt stLt ((mayL s fr).filter (doneB s fr))
/-- the reference's way: one behind the other -/
def allF (s : List Ent) (fr : List Pkg) (l : List Stp) : List Stp := l.foldl (fun r st => if doneB s fr st then insF r st else r) []
theorem allF_snoc (s : List Ent) (fr : List Pkg) (l : List Stp) (st : Stp) : allF s fr (l ++ [st]) = if doneB s fr st then insF (allF s fr l) st else allF s fr l := by
  unfold allF
  rw [List.foldl_append]
  rfl
theorem allF_srt (s : List Ent) (fr : List Pkg) (l : List Stp) : allF s fr l = srt stLt (l.filter (doneB s fr)) := by
  have : ∀ (l : List Stp) (r : List Stp), Ris stLt r → l.foldl (fun r st => if doneB s fr st then insF r st else r) r = mrg stLt r (l.filter (doneB s fr)) := fun l => by
    induction l with
    | nil => intro r _; rfl
    | cons a l ih =>
      intro r hr
      rw [List.foldl_cons]
      rcases h : doneB s fr a
      · rw [if_neg (by simp), List.filter_cons_of_neg (by simp [h])]
        exact ih r hr
      · rw [if_pos rfl, List.filter_cons_of_pos h, insF_eq a hr]
        exact ih _ (insR_ris stSW hr)
  exact this l [] .nil
end Go.Proofs.YtaicidbopgnmfaaGreatDoor
