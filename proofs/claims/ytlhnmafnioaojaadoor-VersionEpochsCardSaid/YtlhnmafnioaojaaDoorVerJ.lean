/- The walks of the laws of layer 6: awake, VersionParses, VersionParts, VersionCompares. -/
import Derived.Test.YtlhnmafnioaojaaDoorVerI
namespace Go.Proofs.YtlhnmafnioaojaaDoor
set_option linter.unusedSimpArgs false
set_option linter.unusedVariables false
open Go.RowKit

def s_rc1 : List UInt8 := [49, 46, 48, 126, 114, 99, 49]
def s_10 : List UInt8 := [49, 46, 48]
def s_1c01 : List UInt8 := [49, 58, 48, 46, 49]
def s_9 : List UInt8 := [57]
def s_101 : List UInt8 := [49, 46, 48, 45, 49]
theorem wake1 : (cmpV s_rc1 s_10).1 = -1 := by decide +kernel
theorem wake2 : (cmpV s_1c01 s_9).1 = 1 := by decide +kernel
theorem wake3 : (cmpV s_101 s_10).1 = 1 := by decide +kernel
theorem awake_any (w : World) : Calls Tryd.prog 15 #[] w fun e w' => e = .returned (.bool true) ∧ Below w.heap.size w w' := by
  go_enter Tryd.func15, Tryd.ntmps15
  go_wp2_with fail
  refine (Compare_any s_rc1 s_10 _).mono ?_
  rintro e w1 ⟨rfl, hb1⟩
  rw [wake1]
  go_wp2_with fail
  refine (Compare_any s_1c01 s_9 _).mono ?_
  rintro e w2 ⟨rfl, hb2⟩
  rw [wake2]
  go_wp2_with fail
  refine (Compare_any s_101 s_10 _).mono ?_
  rintro e w3 ⟨rfl, hb3⟩
  rw [wake3]
  go_wp2_with fail
  go_ret
  exact ⟨rfl, by (repeat (first | assumption | exact Below.refl _ _ | refine below_next ?_ (by assumption) | refine below_drewN ?_ _))⟩

theorem law_parses (l : List UInt8) (w : World) : Calls Tryd.prog 3 #[.string (bs l)] w fun e w' => e = .returned (.bool true) ∧ Below w.heap.size w w' := by
  rcases h : verS l with _ | ⟨e, u, r⟩
  · have HV := Lib.hid (verV_none h)
    have HW := Lib.hid (verW_none h)
    clear h
    go_enter Tryd.func3, Tryd.ntmps3
    go_wp2_with (first | (go_at_call 13; refine (parse_any _ _).mono ?_; rintro e w1 ⟨rfl, hb1⟩; rw [HV.out]) | (go_at_call 14; refine (rversion_any _ _).mono ?_; rintro e w2 ⟨rfl, hb2⟩; rw [HW.out]) | (go_at_call 15; refine (awake_any _).mono ?_; rintro e w3 ⟨rfl, hb3⟩))
    go_ret
    exact ⟨rfl, by (repeat (first | assumption | exact Below.refl _ _ | refine below_next ?_ (by assumption) | refine below_drewN ?_ _))⟩
  · have HV := Lib.hid (verV_some h)
    have HW := Lib.hid (verW_some h)
    clear h
    have e1 : (e == e) = true := by simp
    have e2 : (u == u) = true := by simp
    have e3 : (r == r) = true := by simp
    go_enter Tryd.func3, Tryd.ntmps3
    go_wp2_with (first | (go_at_call 13; refine (parse_any _ _).mono ?_; rintro e w1 ⟨rfl, hb1⟩; rw [HV.out]) | (go_at_call 14; refine (rversion_any _ _).mono ?_; rintro e w2 ⟨rfl, hb2⟩; rw [HW.out]) | (go_at_call 15; refine (awake_any _).mono ?_; rintro e w3 ⟨rfl, hb3⟩))
    go_ret
    exact ⟨rfl, by (repeat (first | assumption | exact Below.refl _ _ | refine below_next ?_ (by assumption) | refine below_drewN ?_ _))⟩
theorem law_parts (a b : List UInt8) (ha : a.length ≤ 1048576) (hb : b.length ≤ 1048576) (w : World) : Calls Tryd.prog 4 #[.string (bs a), .string (bs b)] w fun e w' => e = .returned (.bool true) ∧ Below w.heap.size w w' := by
  go_enter Tryd.func4, Tryd.ntmps4
  go_wp2_with (first | (go_at_call 16; refine (part_any _ _ _ ha hb).mono ?_; rintro e w1 ⟨rfl, hb1⟩) | (go_at_call 17; refine (rpart_any _ _ _ ha hb).mono ?_; rintro e w2 ⟨rfl, hb2⟩) | (go_at_call 15; refine (awake_any _).mono ?_; rintro e w3 ⟨rfl, hb3⟩))
  go_ret
  exact ⟨rfl, by (repeat (first | assumption | exact Below.refl _ _ | refine below_next ?_ (by assumption) | refine below_drewN ?_ _))⟩
theorem law_compares (a b : List UInt8) (rel : Int) (w : World) : Calls Tryd.prog 12 #[.string (bs a), .string (bs b), .int .i64 rel] w fun e w' => e = .returned (.bool true) ∧ Below w.heap.size w w' := by
  go_enter Tryd.func12, Tryd.ntmps12
  go_wp2_with (first | (go_at_call 18; refine (Compare_any _ _ _).mono ?_; rintro e w1 ⟨rfl, hb1⟩) | (go_at_call 27; refine (rCompare_any _ _ _).mono ?_; rintro e w2 ⟨rfl, hb2⟩) | (go_at_call 19; refine (Same_any _ _ _).mono ?_; rintro e w3 ⟨rfl, hb3⟩) | (go_at_call 28; refine (rSameVersion_any _ _ _).mono ?_; rintro e w4 ⟨rfl, hb4⟩) | (go_at_call 26; refine (Holds_any _ _ _ _).mono ?_; rintro e w5 ⟨rfl, hb5⟩) | (go_at_call 29; refine (rHolds_any _ _ _ _).mono ?_; rintro e w6 ⟨rfl, hb6⟩) | (go_at_call 15; refine (awake_any _).mono ?_; rintro e w7 ⟨rfl, hb7⟩))
  go_ret
  exact ⟨rfl, by (repeat (first | assumption | exact Below.refl _ _ | refine below_next ?_ (by assumption) | refine below_drewN ?_ _))⟩
end Go.Proofs.YtlhnmafnioaojaaDoor
