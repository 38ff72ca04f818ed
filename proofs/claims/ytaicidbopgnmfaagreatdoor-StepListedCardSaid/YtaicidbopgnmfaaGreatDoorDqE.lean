/- Steps that may be done, plainly: their comparison as the program makes it is an order. -/
import Derived.Test.YtaicidbopgnmfaaGreatDoorDqD
namespace Go.Proofs.YtaicidbopgnmfaaGreatDoor
set_option linter.unusedSimpArgs false
set_option linter.unusedVariables false
open Go.RowKit
/-- a step with a version just where it unpacks -/
def goodS (st : Stp) : Prop := (st.kind = 3 → isV st.ver = true) ∧ (st.kind ≠ 3 → st.ver = [])
def sgC (a b : Stp) : Int := if stC a b < 0 then -1 else if stC b a < 0 then 1 else 0
theorem cmpV_nil : (cmpV [] []).1 = 0 := by decide +kernel
theorem cmpX_nil : cmpX [] [] = 0 := by decide +kernel
theorem stK_good {a b : Stp} (ha : goodS a) (hb : goodS b) : stK a b = stC a b := by
  unfold stK stC
  by_cases hk : a.kind = b.kind
  · by_cases h3 : a.kind = 3
    · rw [cmpX_of (ha.1 h3) (hb.1 (hk ▸ h3))]
    · rw [ha.2 h3, hb.2 (hk ▸ h3), cmpV_nil, cmpX_nil]
  · have h0 : Lib.compareInt a.kind b.kind ≠ 0 := fun h => hk (cI_zero.1 h)
    unfold orS
    simp [h0]
theorem sgK_good {a b : Stp} (ha : goodS a) (hb : goodS b) : sgK a b = sgC a b := by
  unfold sgK sgC
  rw [stK_good ha hb, stK_good hb ha]
theorem sgC_lt (a b : Stp) : decide (sgC a b < 0) = stLt a b := by
  unfold sgC stLt
  split
  · rename_i h; simp [h]
  · rename_i h
    split <;> simp [h]
theorem sgC_fun : (fun x y => decide (sgC x y < 0)) = stLt := funext fun x => funext fun y => sgC_lt x y
theorem sgSW : SW (fun x y => decide (sgC x y < 0)) := by rw [sgC_fun]; exact stSW
theorem may3_good {x : Ent} {st : Stp} (h : st ∈ may3 x) : goodS st := by
  simp only [may3, List.mem_cons, List.not_mem_nil, or_false] at h
  rcases h with rfl | rfl | rfl <;> exact ⟨fun h => by simp at h, fun _ => rfl⟩
theorem mayE_v {p : Pkg} (h : mayE p = 0) : isV p.ver = true := by
  rcases hv : isV p.ver
  · rw [mayE_ver hv] at h; exact absurd h (by decide)
  · rfl
theorem mayL_good {s : List Ent} {fr : List Pkg} (h0 : mayAllE fr = 0) {st : Stp} (h : st ∈ mayL s fr) : goodS st := by
  unfold mayL at h
  rcases List.mem_append.1 h with h | h
  · obtain ⟨x, _, hx⟩ := List.mem_flatMap.1 h
    exact may3_good hx
  · obtain ⟨p, hp, rfl⟩ := List.mem_map.1 h
    exact ⟨fun _ => mayE_v ((mayAll_zero h0).2.1 p hp), fun h => absurd rfl h⟩
theorem done_all {s : List Ent} {fr : List Pkg} {st : Stp} (h : doneB s fr st = true) : mayEntsE s = 0 ∧ mayAllE fr = 0 := by
  have h := of_decide_eq_true h
  unfold doS at h
  by_cases h1 : mayEntsE s = 0
  · rw [if_neg (by simpa using h1)] at h
    by_cases h2 : mayAllE fr = 0
    · exact ⟨h1, h2⟩
    · rw [if_pos h2] at h
      exact absurd h h2
  · rw [if_pos h1] at h
    exact absurd h h1
theorem done_good {s : List Ent} {fr : List Pkg} {st : Stp} (hm : st ∈ mayL s fr) (h : doneB s fr st = true) : goodS st := mayL_good (done_all h).2 hm
theorem may3_len (s : List Ent) : (s.flatMap may3).length = 3 * s.length := by
  induction s with
  | nil => rfl
  | cons x s ih => rw [List.flatMap_cons, List.length_append, ih, List.length_cons]; simp [may3]; omega
theorem mayL_len (s : List Ent) (fr : List Pkg) : (mayL s fr).length = 3 * s.length + fr.length := by
  unfold mayL
  rw [List.length_append, may3_len, List.length_map]
theorem may3_step {s : List Ent} {k : Nat} {x : Ent} (h : s[k]? = some x) : (s.take (k + 1)).flatMap may3 = (s.take k).flatMap may3 ++ may3 x := by
  rw [take_step h, List.flatMap_append, List.flatMap_cons, List.flatMap_nil, List.append_nil]
theorem filt_step {s : List Ent} {fr : List Pkg} {l : List Stp} {k : Nat} {x : Stp} (h : l[k]? = some x) : (l.take (k + 1)).filter (doneB s fr) = (l.take k).filter (doneB s fr) ++ (if doneB s fr x then [x] else []) := by
  rw [take_step h, List.filter_append]
  congr 1
  rcases hd : doneB s fr x <;> simp [hd]
/-- nothing can be done where the entries or the packages may not be -/
theorem all_none {s : List Ent} {fr : List Pkg} (h : mayEntsE s ≠ 0 ∨ mayAllE fr ≠ 0) : allS s fr = [] := by
  unfold allS
  have : (mayL s fr).filter (doneB s fr) = [] := by
    rw [List.filter_eq_nil_iff]
    intro st _ hd
    have := done_all hd
    rcases h with h | h
    · exact h this.1
    · exact h this.2
  rw [this]
  rfl
end Go.Proofs.YtaicidbopgnmfaaGreatDoor
