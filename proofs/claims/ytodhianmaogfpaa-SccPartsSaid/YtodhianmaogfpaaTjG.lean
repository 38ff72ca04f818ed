/- How many edges the search walks. -/
import Derived.Test.YtodhianmaogfpaaTjE
namespace Go.Proofs.Ytodhianmaogfpaa
set_option linter.unusedSimpArgs false
set_option linter.unusedVariables false
theorem prs_succ (n : Nat) (adj : Nat → List Nat) : prs (n + 1) adj = prs n adj ++ (adj n).map fun w => (n, w) := by
  unfold prs
  rw [List.range_succ, List.flatMap_append]; simp
theorem adj_cnt (E : List (Nat × Nat)) (v : Nat) : (adjE E v).length = E.countP fun e => e.1 == v := by
  unfold adjE
  rw [List.length_map, List.countP_eq_length_filter]
theorem count_split (E : List (Nat × Nat)) (n : Nat) : E.countP (fun e => decide (e.1 < n + 1)) = E.countP (fun e => decide (e.1 < n)) + E.countP (fun e => e.1 == n) := by
  induction E with
  | nil => rfl
  | cons e E ih =>
    rw [List.countP_cons, List.countP_cons, List.countP_cons, ih]
    by_cases h1 : e.1 < n
    · have h2 : e.1 < n + 1 := by omega
      have h3 : e.1 ≠ n := by omega
      simp [h1, h2, h3]; omega
    · by_cases h3 : e.1 = n
      · simp [h3]; omega
      · have h2 : ¬ e.1 < n + 1 := by omega
        simp [h1, h2, h3]
theorem prs_cnt (E : List (Nat × Nat)) : ∀ n, (prs n (adjE E)).length = E.countP fun e => decide (e.1 < n)
  | 0 => by simp [prs]
  | n + 1 => by rw [prs_succ, List.length_append, List.length_map, prs_cnt E n, adj_cnt, count_split]
theorem prs_len (E : List (Nat × Nat)) (n : Nat) : (prs n (adjE E)).length ≤ E.length := by
  rw [prs_cnt]; exact List.countP_le_length
theorem muN_prs (adj : Nat → List Nat) : ∀ n, muN n adj (fun _ => 0) = (prs n adj).length + n
  | 0 => by simp [muN, prs]
  | n + 1 => by
    have ih := muN_prs adj n
    rw [prs_succ, List.length_append, List.length_map]
    unfold muN at ih ⊢
    rw [List.range_succ, List.map_append, List.sum_append, ih]
    simp
    omega
theorem vE_len (n : Nat) (l : List (Int × Int)) : (vE n l).length ≤ 20000 := by unfold vE; rw [List.length_take]; omega
theorem vE_prs (n : Nat) (l : List (Int × Int)) : (prs n (adjE (vE n l))).length ≤ 1000000 := by
  have h1 := prs_len (vE n l) n
  have h2 := vE_len n l
  omega
theorem vE_mu (n : Nat) (l : List (Int × Int)) (hn : n ≤ 2000) : muN n (adjE (vE n l)) (fun _ => 0) ≤ 1000000 := by
  have h1 := prs_len (vE n l) n
  have h2 := vE_len n l
  rw [muN_prs]
  omega
end Go.Proofs.Ytodhianmaogfpaa
