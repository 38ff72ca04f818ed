/- The contracts of MayAtom, of both texts. -/
import Derived.Test.YtflmocamfedbdaaGreatDoorReqA
import Derived.Test.YtflmocamfedbdaaGreatDoorVerI
import Derived.Test.YtflmocamfedbdaaGreatDoorMk
namespace Go.Proofs.YtflmocamfedbdaaGreatDoor
set_option linter.unusedSimpArgs false
set_option linter.unusedVariables false
open Go.RowKit

def signL (rel : Int) : List UInt8 := if rel = 1 then [60, 60] else if rel = 2 then [60, 61] else if rel = 3 then [61] else if rel = 4 then [62, 61] else if rel = 5 then [62, 62] else []
theorem rSign_any (rel : Int) (w : World) : Calls Tryz.prog 96 #[.int .i64 rel] w fun e w' => e = .returned (.string (bs (signL rel))) ∧ w = w' := by
  go_enter Tryz.func96, Tryz.ntmps96
  go_wp2
  all_goals go_ret
  all_goals refine ⟨?_, rfl⟩
  all_goals first | (simp_all [signL]; done) | (simp_all [signL]; rfl)
theorem isV_none {l : List UInt8} (h : verS l = none) : isV l = false := by simp [isV, h]
theorem isV_some' {l : List UInt8} {a b c : List UInt8} (h : verS l = some (a, b, c)) : isV l = true := by simp [isV, h]
set_option maxRecDepth 100000 in
theorem mayAtom_any (a : Atm) (ha : a.ok) (w : World) :
    Calls Tryz.prog 52 #[(.agg #[.string (bs (a).name), .int .i64 (a).rel, .string (bs (a).ver)])] w fun e w' => e = .returned (.bool (mayA a)) ∧ Below w.heap.size w w' := by
  have hn : a.name.length ≤ 140737488351232 := ha.1
  rcases h : verS a.ver with _ | ⟨x, y, z⟩
  · have HV := Lib.hid (verV_none h)
    have HI := Lib.hid (isV_none h)
    clear h
    go_enter Tryz.func52, Tryz.ntmps52
    go_wp2_with (first | (go_at_call 92; refine (name_any _ (by omega) _).mono ?_; rintro e w1 ⟨rfl, hb⟩; obtain ⟨hc, hf, hz⟩ := bcell hb; try simp at hz) | (go_at_call 93; refine (parse_any _ _).mono ?_; rintro e w2 ⟨rfl, hb2⟩; rw [HV.out]))
    all_goals go_ret
    all_goals refine ⟨?_, by (repeat (first | assumption | exact Below.refl _ _ | refine below_next ?_ (by assumption) | refine below_drewN ?_ _ | refine below_alloc ?_ _))⟩
    all_goals (have HI := HI.out; go_tidy; simp [mayA, HI]; try grind)
  · have HV := Lib.hid (verV_some h)
    have HI := Lib.hid (isV_some' h)
    clear h
    go_enter Tryz.func52, Tryz.ntmps52
    go_wp2_with (first | (go_at_call 92; refine (name_any _ (by omega) _).mono ?_; rintro e w1 ⟨rfl, hb⟩; obtain ⟨hc, hf, hz⟩ := bcell hb; try simp at hz) | (go_at_call 93; refine (parse_any _ _).mono ?_; rintro e w2 ⟨rfl, hb2⟩; rw [HV.out]))
    all_goals go_ret
    all_goals refine ⟨?_, by (repeat (first | assumption | exact Below.refl _ _ | refine below_next ?_ (by assumption) | refine below_drewN ?_ _ | refine below_alloc ?_ _))⟩
    all_goals (have HI := HI.out; go_tidy; simp [mayA, HI]; try grind)
set_option maxRecDepth 100000 in
theorem rmayAtom_any (a : Atm) (ha : a.ok) (w : World) :
    Calls Tryz.prog 56 #[(.agg #[.string (bs (a).name), .int .i64 (a).rel, .string (bs (a).ver)])] w fun e w' => e = .returned (.bool (mayA a)) ∧ Below w.heap.size w w' := by
  have hn : a.name.length ≤ 140737488351232 := ha.1
  go_enter Tryz.func56, Tryz.ntmps56
  go_wp2_with (first | (go_at_call 45; refine (rname_any _ (by omega) _).mono ?_; rintro e w1 ⟨rfl, rfl⟩) | (go_at_call 96; refine (rSign_any _ _).mono ?_; rintro e w' ⟨rfl, rfl⟩) | (go_at_call 13; refine (rIs_any _ _).mono ?_; rintro e w1 ⟨rfl, hb⟩))
  all_goals go_ret
  all_goals refine ⟨?_, by (repeat (first | assumption | exact Below.refl _ _ | refine below_next ?_ (by assumption) | refine below_drewN ?_ _ | refine below_alloc ?_ _))⟩
  all_goals (go_tidy; simp [mayA]; try grind [signL])
end Go.Proofs.YtflmocamfedbdaaGreatDoor
