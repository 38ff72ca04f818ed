/- For all relations and texts: the walk of VersionSigns ends in true. -/
import Derived.Test.YtlhnmafnioaojaaDoorVerJ
namespace Go.Proofs.YtlhnmafnioaojaaDoor
set_option linter.unusedSimpArgs false
set_option linter.unusedVariables false
open Go.RowKit

def signL (rel : Int) : List UInt8 := if rel = 1 then [60, 60] else if rel = 2 then [60, 61] else if rel = 3 then [61] else if rel = 4 then [62, 61] else if rel = 5 then [62, 62] else []
def relL (s : List UInt8) : Int := if s = [60, 60] then 1 else if s = [60, 61] then 2 else if s = [61] then 3 else if s = [62, 61] then 4 else if s = [62, 62] then 5 else 0
theorem Sign_any (rel : Int) (w : World) : Calls Tryd.prog 22 #[.int .i64 rel] w fun e w' => e = .returned (.string (bs (signL rel))) ∧ w = w' := by
  go_enter Tryd.func22, Tryd.ntmps22
  go_wp2
  all_goals go_ret
  all_goals refine ⟨?_, rfl⟩
  all_goals first | (simp_all [signL]; done) | (simp_all [signL]; rfl)
theorem rSign_any (rel : Int) (w : World) : Calls Tryd.prog 21 #[.int .i64 rel] w fun e w' => e = .returned (.string (bs (signL rel))) ∧ w = w' := by
  go_enter Tryd.func21, Tryd.ntmps21
  go_wp2
  all_goals go_ret
  all_goals refine ⟨?_, rfl⟩
  all_goals first | (simp_all [signL]; done) | (simp_all [signL]; rfl)
def b2iS (b : Bool) : Int := if b then 1 else 0
theorem b2i_any (b : Bool) (w : World) : Calls Tryd.prog 24 #[.bool b] w fun e w' => e = .returned (.int .i64 (b2iS b)) ∧ w = w' := by
  cases b
  · go_enter Tryd.func24, Tryd.ntmps24
    go_wp2
    go_ret
    exact ⟨rfl, rfl⟩
  · go_enter Tryd.func24, Tryd.ntmps24
    go_wp2
    go_ret
    exact ⟨rfl, rfl⟩
theorem rel_of {k : Nat} (h1 : 1 ≤ k) (h5 : k ≤ 5) : relL (signL k) = k := by
  obtain rfl | rfl | rfl | rfl | rfl : k = 1 ∨ k = 2 ∨ k = 3 ∨ k = 4 ∨ k = 5 := by omega
  all_goals decide
theorem rel_none {s : List UInt8} (h : ∀ j : Nat, 1 ≤ j → j < 6 → signL j ≠ s) : relL s = 0 := by
  have h1 : [60, 60] ≠ s := h 1 (by omega) (by omega)
  have h2 : [60, 61] ≠ s := h 2 (by omega) (by omega)
  have h3 : [61] ≠ s := h 3 (by omega) (by omega)
  have h4 : [62, 61] ≠ s := h 4 (by omega) (by omega)
  have h5 : [62, 62] ≠ s := h 5 (by omega) (by omega)
  unfold relL
  rw [if_neg (Ne.symm h1), if_neg (Ne.symm h2), if_neg (Ne.symm h3), if_neg (Ne.symm h4), if_neg (Ne.symm h5)]
theorem Rel_any (s : List UInt8) (w : World) : Calls Tryd.prog 23 #[.string (bs s)] w fun e w' => e = .returned (.int .i64 (relL s)) ∧ w = w' := by
  go_enter Tryd.func23, Tryd.ntmps23
  go_wp2
  go_loop [3] (fun i => ∃ k : Nat, 1 ≤ k ∧ k ≤ 6 ∧ i = .int .i64 k ∧ ∀ j : Nat, 1 ≤ j → j < k → signL j ≠ s) (fun i => 6 - (intOf i).toNat)
  case atStart => exact ⟨1, by omega, by omega, rfl, fun j h1 h2 => by omega⟩
  case round =>
    obtain ⟨k, h1, h6, rfl, hn⟩ := hrel
    have HN := Lib.hid hn
    clear hn
    by_cases h5 : (k : Int) ≤ 5
    · go_wp2_with (go_at_call 22; refine (Sign_any _ _).mono ?_; rintro e w' ⟨rfl, rfl⟩)
      · go_ret
        refine ⟨?_, rfl⟩
        have hr := rel_of h1 (by omega)
        rename_i hq
        have hq' : signL k = s := by simpa using hq
        have hr2 : relL s = k := by rw [← hq']; exact hr
        simp [hr2]
      · rename_i hq
        have hq' : signL k ≠ s := by simpa using hq
        go_round
        case rel => exact ⟨k + 1, by omega, by omega, by simp, fun j hj1 hj2 => by
          rcases Nat.lt_or_eq_of_le (Nat.le_of_lt_succ hj2) with h | rfl
          · exact HN.out j hj1 h
          · exact hq'⟩
        case measure => (try simp only [intOf]); omega
    · have HR := Lib.hid (rel_none (fun j hj1 hj2 => HN.out j hj1 (by omega)))
      go_wp2
      go_ret
      exact ⟨by simp [HR.out], rfl⟩
def wantF (s : List UInt8) : Nat → Int
  | 0 => 0
  | k + 1 => if 1 ≤ k ∧ signL k = s then k else wantF s k
theorem want_yes {s : List UInt8} {k : Nat} (h1 : 1 ≤ k) (h : signL k = s) : wantF s (k + 1) = k := by simp [wantF, h1, h]
theorem want_no {s : List UInt8} {k : Nat} (h : signL k ≠ s) : wantF s (k + 1) = wantF s k := by simp [wantF, h]
theorem want_rel (s : List UInt8) : relL s = wantF s 6 := by
  by_cases h : ∃ k : Nat, 1 ≤ k ∧ k < 6 ∧ signL k = s
  · obtain ⟨k, h1, h6, rfl⟩ := h
    rw [rel_of h1 (by omega)]
    obtain rfl | rfl | rfl | rfl | rfl : k = 1 ∨ k = 2 ∨ k = 3 ∨ k = 4 ∨ k = 5 := by omega
    all_goals decide
  · have hn : ∀ j : Nat, 1 ≤ j → j < 6 → signL j ≠ s := fun j h1 h6 e => h ⟨j, h1, h6, e⟩
    rw [rel_none hn]
    rw [want_no (hn 5 (by omega) (by omega)), want_no (hn 4 (by omega) (by omega)), want_no (hn 3 (by omega) (by omega)), want_no (hn 2 (by omega) (by omega)), want_no (hn 1 (by omega) (by omega))]
    rfl
theorem rel_back (rel : Int) : (rel = 1 ∨ rel = 2 ∨ rel = 3 ∨ rel = 4 ∨ rel = 5) ∧ relL (signL rel) = rel ∨ (rel < 1 ∨ 5 < rel) ∧ relL (signL rel) = 0 := by
  by_cases h : rel = 1 ∨ rel = 2 ∨ rel = 3 ∨ rel = 4 ∨ rel = 5
  · refine .inl ⟨h, ?_⟩
    rcases h with rfl | rfl | rfl | rfl | rfl <;> decide
  · refine .inr ⟨by omega, ?_⟩
    have : signL rel = [] := by
      unfold signL
      rw [if_neg (by omega), if_neg (by omega), if_neg (by omega), if_neg (by omega), if_neg (by omega)]
    rw [this]
    decide
set_option maxRecDepth 100000 in
set_option maxHeartbeats 800000 in
theorem law_signs (rel : Int) (s : List UInt8) (w : World) : Calls Tryd.prog 10 #[.int .i64 rel, .string (bs s)] w fun e w' => e = .returned (.bool true) ∧ Below w.heap.size w w' := by
  go_enter Tryd.func10, Tryd.ntmps10
  go_wp2
  go_loop [5, 6] (fun u i => ∃ k : Nat, 1 ≤ k ∧ k ≤ 6 ∧ i = .int .i64 k ∧ u = .int .i64 (wantF s k)) (fun _ i => 6 - (intOf i).toNat)
  case atStart => exact ⟨1, by omega, by omega, rfl, rfl⟩
  case round =>
    obtain ⟨k, h1, h6, rfl, rfl⟩ := hrel
    by_cases h5 : (k : Int) ≤ 5
    · go_wp2_with (go_at_call 21; refine (rSign_any _ _).mono ?_; rintro e w' ⟨rfl, rfl⟩)
      · rename_i hq
        have hq' : signL k = s := by simpa using hq
        go_round
        case rel => exact ⟨k + 1, by omega, by omega, by simp, by rw [want_yes h1 hq']⟩
        case measure => (try simp only [intOf]); omega
      · rename_i hq
        have hq' : signL k ≠ s := by simpa using hq
        go_round
        case rel => exact ⟨k + 1, by omega, by omega, by simp, by rw [want_no hq']⟩
        case measure => (try simp only [intOf]); omega
    · obtain rfl : k = 6 := by omega
      have HW := Lib.hid (want_rel s)
      rcases rel_back rel with ⟨h | h | h | h | h, hr⟩ | ⟨h | h, hr⟩
      · subst h
        have HRR := Lib.hid hr
        clear hr
        go_wp2_with (first | (go_at_call 22; refine (Sign_any _ _).mono ?_; rintro e w1 ⟨rfl, rfl⟩) | (go_at_call 21; refine (rSign_any _ _).mono ?_; rintro e w1 ⟨rfl, rfl⟩) | (go_at_call 23; refine (Rel_any _ _).mono ?_; rintro e w1 ⟨rfl, rfl⟩; (first | rw [HRR.out] | rw [HW.out])) | (go_at_call 24; refine (b2i_any _ _).mono ?_; rintro e w1 ⟨rfl, rfl⟩; simp only [b2iS]) | (go_at_call 15; refine (awake_any _).mono ?_; rintro e w1 ⟨rfl, hb⟩))
        go_ret
        exact ⟨rfl, by (repeat (first | assumption | exact Below.refl _ _ | refine below_next ?_ (by assumption) | refine below_drewN ?_ _))⟩
      · subst h
        have HRR := Lib.hid hr
        clear hr
        go_wp2_with (first | (go_at_call 22; refine (Sign_any _ _).mono ?_; rintro e w1 ⟨rfl, rfl⟩) | (go_at_call 21; refine (rSign_any _ _).mono ?_; rintro e w1 ⟨rfl, rfl⟩) | (go_at_call 23; refine (Rel_any _ _).mono ?_; rintro e w1 ⟨rfl, rfl⟩; (first | rw [HRR.out] | rw [HW.out])) | (go_at_call 24; refine (b2i_any _ _).mono ?_; rintro e w1 ⟨rfl, rfl⟩; simp only [b2iS]) | (go_at_call 15; refine (awake_any _).mono ?_; rintro e w1 ⟨rfl, hb⟩))
        go_ret
        exact ⟨rfl, by (repeat (first | assumption | exact Below.refl _ _ | refine below_next ?_ (by assumption) | refine below_drewN ?_ _))⟩
      · subst h
        have HRR := Lib.hid hr
        clear hr
        go_wp2_with (first | (go_at_call 22; refine (Sign_any _ _).mono ?_; rintro e w1 ⟨rfl, rfl⟩) | (go_at_call 21; refine (rSign_any _ _).mono ?_; rintro e w1 ⟨rfl, rfl⟩) | (go_at_call 23; refine (Rel_any _ _).mono ?_; rintro e w1 ⟨rfl, rfl⟩; (first | rw [HRR.out] | rw [HW.out])) | (go_at_call 24; refine (b2i_any _ _).mono ?_; rintro e w1 ⟨rfl, rfl⟩; simp only [b2iS]) | (go_at_call 15; refine (awake_any _).mono ?_; rintro e w1 ⟨rfl, hb⟩))
        go_ret
        exact ⟨rfl, by (repeat (first | assumption | exact Below.refl _ _ | refine below_next ?_ (by assumption) | refine below_drewN ?_ _))⟩
      · subst h
        have HRR := Lib.hid hr
        clear hr
        go_wp2_with (first | (go_at_call 22; refine (Sign_any _ _).mono ?_; rintro e w1 ⟨rfl, rfl⟩) | (go_at_call 21; refine (rSign_any _ _).mono ?_; rintro e w1 ⟨rfl, rfl⟩) | (go_at_call 23; refine (Rel_any _ _).mono ?_; rintro e w1 ⟨rfl, rfl⟩; (first | rw [HRR.out] | rw [HW.out])) | (go_at_call 24; refine (b2i_any _ _).mono ?_; rintro e w1 ⟨rfl, rfl⟩; simp only [b2iS]) | (go_at_call 15; refine (awake_any _).mono ?_; rintro e w1 ⟨rfl, hb⟩))
        go_ret
        exact ⟨rfl, by (repeat (first | assumption | exact Below.refl _ _ | refine below_next ?_ (by assumption) | refine below_drewN ?_ _))⟩
      · subst h
        have HRR := Lib.hid hr
        clear hr
        go_wp2_with (first | (go_at_call 22; refine (Sign_any _ _).mono ?_; rintro e w1 ⟨rfl, rfl⟩) | (go_at_call 21; refine (rSign_any _ _).mono ?_; rintro e w1 ⟨rfl, rfl⟩) | (go_at_call 23; refine (Rel_any _ _).mono ?_; rintro e w1 ⟨rfl, rfl⟩; (first | rw [HRR.out] | rw [HW.out])) | (go_at_call 24; refine (b2i_any _ _).mono ?_; rintro e w1 ⟨rfl, rfl⟩; simp only [b2iS]) | (go_at_call 15; refine (awake_any _).mono ?_; rintro e w1 ⟨rfl, hb⟩))
        go_ret
        exact ⟨rfl, by (repeat (first | assumption | exact Below.refl _ _ | refine below_next ?_ (by assumption) | refine below_drewN ?_ _))⟩
      · have HRR := Lib.hid hr
        clear hr
        have h' : ¬ 1 ≤ rel := by omega
        go_wp2_with (first | (go_at_call 22; refine (Sign_any _ _).mono ?_; rintro e w1 ⟨rfl, rfl⟩) | (go_at_call 21; refine (rSign_any _ _).mono ?_; rintro e w1 ⟨rfl, rfl⟩) | (go_at_call 23; refine (Rel_any _ _).mono ?_; rintro e w1 ⟨rfl, rfl⟩; (first | rw [HRR.out] | rw [HW.out])) | (go_at_call 24; refine (b2i_any _ _).mono ?_; rintro e w1 ⟨rfl, rfl⟩; simp only [b2iS]) | (go_at_call 15; refine (awake_any _).mono ?_; rintro e w1 ⟨rfl, hb⟩))
        go_ret
        exact ⟨rfl, by (repeat (first | assumption | exact Below.refl _ _ | refine below_next ?_ (by assumption) | refine below_drewN ?_ _))⟩
      · have HRR := Lib.hid hr
        clear hr
        have h' : ¬ rel ≤ 5 := by omega
        have h2 : 1 ≤ rel := by omega
        go_wp2_with (first | (go_at_call 22; refine (Sign_any _ _).mono ?_; rintro e w1 ⟨rfl, rfl⟩) | (go_at_call 21; refine (rSign_any _ _).mono ?_; rintro e w1 ⟨rfl, rfl⟩) | (go_at_call 23; refine (Rel_any _ _).mono ?_; rintro e w1 ⟨rfl, rfl⟩; (first | rw [HRR.out] | rw [HW.out])) | (go_at_call 24; refine (b2i_any _ _).mono ?_; rintro e w1 ⟨rfl, rfl⟩; simp only [b2iS]) | (go_at_call 15; refine (awake_any _).mono ?_; rintro e w1 ⟨rfl, hb⟩))
        go_ret
        exact ⟨rfl, by (repeat (first | assumption | exact Below.refl _ _ | refine below_next ?_ (by assumption) | refine below_drewN ?_ _))⟩
end Go.Proofs.YtlhnmafnioaojaaDoor
