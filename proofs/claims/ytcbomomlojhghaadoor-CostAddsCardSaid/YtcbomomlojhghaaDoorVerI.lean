/- The contracts of Compare, Same, Holds, Sign, Rel: the program's and the reference's. -/
import Derived.Test.YtcbomomlojhghaaDoorVerH
namespace Go.Proofs.YtcbomomlojhghaaDoor
set_option linter.unusedSimpArgs false
set_option linter.unusedVariables false
open Go.RowKit

theorem Compare_any (a b : List UInt8) (w : World) :
    Calls Tryd.prog 37 #[.string (bs a), .string (bs b)] w fun e w' => e = .returned (.int .i64 (cmpV a b).1) ∧ Below w.heap.size w w' := by
  go_enter Tryd.func37, Tryd.ntmps37
  go_wp2_with (go_at_call 55; refine (compare_any _ _ _).mono ?_; rintro e w1 ⟨rfl, hb⟩)
  go_ret
  exact ⟨rfl, hb⟩
def sameV (a b : List UInt8) : Bool := (cmpV a b).2 && decide ((cmpV a b).1 = 0)
theorem Same_any (a b : List UInt8) (w : World) :
    Calls Tryd.prog 35 #[.string (bs a), .string (bs b)] w fun e w' => e = .returned (.bool (sameV a b)) ∧ Below w.heap.size w w' := by
  go_enter Tryd.func35, Tryd.ntmps35
  go_wp2_with (go_at_call 55; refine (compare_any _ _ _).mono ?_; rintro e w1 ⟨rfl, hb⟩)
  all_goals go_ret
  all_goals refine ⟨?_, hb⟩
  all_goals (go_tidy; simp [sameV]; try grind)
set_option maxRecDepth 100000 in
set_option maxHeartbeats 400000 in
theorem Holds_any (rel : Int) (a b : List UInt8) (w : World) :
    Calls Tryd.prog 82 #[.int .i64 rel, .string (bs a), .string (bs b)] w fun e w' => e = .returned (.bool (holdsS rel a b)) ∧ Below w.heap.size w w' := by
  by_cases h0 : rel = 0
  · subst h0
    rcases ha : verS a with _ | ⟨e, u, r⟩
    · have HA := Lib.hid (verV_none ha)
      have HH := Lib.hid (show holdsS 0 a b = false by simp [holdsS, isV, ha])
      clear ha
      go_enter Tryd.func82, Tryd.ntmps82
      go_wp2_with (go_at_call 76; refine (parse_any _ _).mono ?_; rintro e w1 ⟨rfl, hb⟩; rw [HA.out])
      go_ret
      exact ⟨by rw [HH.out]; rfl, hb⟩
    · have HA := Lib.hid (verV_some ha)
      have HH := Lib.hid (show holdsS 0 a b = true by simp [holdsS, isV, ha])
      clear ha
      go_enter Tryd.func82, Tryd.ntmps82
      go_wp2_with (go_at_call 76; refine (parse_any _ _).mono ?_; rintro e w1 ⟨rfl, hb⟩; rw [HA.out])
      go_ret
      exact ⟨by rw [HH.out]; rfl, hb⟩
  · have hz : (rel == 0) = false := by simpa using h0
    go_enter Tryd.func82, Tryd.ntmps82
    go_wp2_with (go_at_call 55; refine (compare_any _ _ _).mono ?_; rintro e w1 ⟨rfl, hb⟩)
    all_goals go_ret
    all_goals refine ⟨?_, hb⟩
    all_goals (go_tidy; simp [holdsS]; try grind)
/- the reference's -/
theorem rIs_any (a : List UInt8) (w : World) :
    Calls Tryd.prog 27 #[.string (bs a)] w fun e w' => e = .returned (.bool (isV a)) ∧ Below w.heap.size w w' := by
  rcases ha : verS a with _ | ⟨e, u, r⟩
  · have HI := Lib.hid (show isV a = false by simp [isV, ha])
    have HA := Lib.hid (verW_none ha)
    clear ha
    go_enter Tryd.func27, Tryd.ntmps27
    go_wp2_with (go_at_call 53; refine (rversion_any _ _).mono ?_; rintro e w1 ⟨rfl, hb⟩; rw [HA.out])
    go_ret
    exact ⟨by rw [HI.out]; rfl, hb⟩
  · have HI := Lib.hid (show isV a = true by simp [isV, ha])
    have HA := Lib.hid (verW_some ha)
    clear ha
    go_enter Tryd.func27, Tryd.ntmps27
    go_wp2_with (go_at_call 53; refine (rversion_any _ _).mono ?_; rintro e w1 ⟨rfl, hb⟩; rw [HA.out])
    go_ret
    exact ⟨by rw [HI.out]; rfl, hb⟩
end Go.Proofs.YtcbomomlojhghaaDoor
