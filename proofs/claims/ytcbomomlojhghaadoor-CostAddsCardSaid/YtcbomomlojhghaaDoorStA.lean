/- The contracts of MayAtom, of both texts. -/
import Derived.Test.YtcbomomlojhghaaDoorReqA
import Derived.Test.YtcbomomlojhghaaDoorVerI
import Derived.Test.YtcbomomlojhghaaDoorPs
namespace Go.Proofs.YtcbomomlojhghaaDoor
set_option linter.unusedSimpArgs false
set_option linter.unusedVariables false
open Go.RowKit

def signL (rel : Int) : List UInt8 := if rel = 1 then [60, 60] else if rel = 2 then [60, 61] else if rel = 3 then [61] else if rel = 4 then [62, 61] else if rel = 5 then [62, 62] else []
theorem rSign_any (rel : Int) (w : World) : Calls Tryd.prog 75 #[.int .i64 rel] w fun e w' => e = .returned (.string (bs (signL rel))) ∧ w = w' := by
  go_enter Tryd.func75, Tryd.ntmps75
  go_wp2
  all_goals go_ret
  all_goals refine ⟨?_, rfl⟩
  all_goals first | (simp_all [signL]; done) | (simp_all [signL]; rfl)
theorem isV_none {l : List UInt8} (h : verS l = none) : isV l = false := by simp [isV, h]
theorem isV_some' {l : List UInt8} {a b c : List UInt8} (h : verS l = some (a, b, c)) : isV l = true := by simp [isV, h]
set_option maxRecDepth 100000 in
theorem mayAtom_any (a : Atm) (ha : a.ok) (w : World) :
    Calls Tryd.prog 81 #[(.agg #[.string (bs (a).name), .int .i64 (a).rel, .string (bs (a).ver)])] w fun e w' => e = .returned (.bool (mayA a)) ∧ Below w.heap.size w w' := by
  have hn : a.name.length ≤ 140737488351232 := ha.1
  rcases h : verS a.ver with _ | ⟨x, y, z⟩
  · have HV := Lib.hid (verV_none h)
    have HI := Lib.hid (isV_none h)
    clear h
    go_enter Tryd.func81, Tryd.ntmps81
    go_wp2_with (first | (go_at_call 70; refine (name_any _ (by omega) _).mono ?_; rintro e w1 ⟨rfl, hb⟩; obtain ⟨hc, hf, hz⟩ := bcell hb; try simp at hz) | (go_at_call 76; refine (parse_any _ _).mono ?_; rintro e w2 ⟨rfl, hb2⟩; rw [HV.out]))
    all_goals go_ret
    all_goals refine ⟨?_, by (repeat (first | assumption | exact Below.refl _ _ | refine below_next ?_ (by assumption) | refine below_drewN ?_ _ | refine below_alloc ?_ _))⟩
    all_goals (have HI := HI.out; go_tidy; simp [mayA, HI]; try grind)
  · have HV := Lib.hid (verV_some h)
    have HI := Lib.hid (isV_some' h)
    clear h
    go_enter Tryd.func81, Tryd.ntmps81
    go_wp2_with (first | (go_at_call 70; refine (name_any _ (by omega) _).mono ?_; rintro e w1 ⟨rfl, hb⟩; obtain ⟨hc, hf, hz⟩ := bcell hb; try simp at hz) | (go_at_call 76; refine (parse_any _ _).mono ?_; rintro e w2 ⟨rfl, hb2⟩; rw [HV.out]))
    all_goals go_ret
    all_goals refine ⟨?_, by (repeat (first | assumption | exact Below.refl _ _ | refine below_next ?_ (by assumption) | refine below_drewN ?_ _ | refine below_alloc ?_ _))⟩
    all_goals (have HI := HI.out; go_tidy; simp [mayA, HI]; try grind)
set_option maxRecDepth 100000 in
theorem rmayAtom_any (a : Atm) (ha : a.ok) (w : World) :
    Calls Tryd.prog 54 #[(.agg #[.string (bs (a).name), .int .i64 (a).rel, .string (bs (a).ver)])] w fun e w' => e = .returned (.bool (mayA a)) ∧ Below w.heap.size w w' := by
  have hn : a.name.length ≤ 140737488351232 := ha.1
  go_enter Tryd.func54, Tryd.ntmps54
  go_wp2_with (first | (go_at_call 26; refine (rname_any _ (by omega) _).mono ?_; rintro e w1 ⟨rfl, rfl⟩) | (go_at_call 75; refine (rSign_any _ _).mono ?_; rintro e w' ⟨rfl, rfl⟩) | (go_at_call 27; refine (rIs_any _ _).mono ?_; rintro e w1 ⟨rfl, hb⟩))
  all_goals go_ret
  all_goals refine ⟨?_, by (repeat (first | assumption | exact Below.refl _ _ | refine below_next ?_ (by assumption) | refine below_drewN ?_ _ | refine below_alloc ?_ _))⟩
  all_goals (go_tidy; simp [mayA]; try grind [signL])
end Go.Proofs.YtcbomomlojhghaaDoor
