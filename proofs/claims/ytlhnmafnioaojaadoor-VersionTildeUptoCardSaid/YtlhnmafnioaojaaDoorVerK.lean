/- For all texts: the walk of VersionOrder ends in true. -/
import Derived.Test.YtlhnmafnioaojaaDoorVerJ
import Derived.Test.YtlhnmafnioaojaaDoorVo
namespace Go.Proofs.YtlhnmafnioaojaaDoor
set_option linter.unusedSimpArgs false
set_option linter.unusedVariables false
open Go.RowKit

theorem cmpV_val (a b : List UInt8) : (cmpV a b).1 = -1 ∨ (cmpV a b).1 = 0 ∨ (cmpV a b).1 = 1 := by
  rcases ha : verS a with _ | ⟨e, u, r⟩ <;> rcases hb : verS b with _ | ⟨f, v, s⟩
  · simp [cmpV, ha, hb]
  · simp [cmpV, ha, hb]
  · simp [cmpV, ha, hb]
  · rw [cmpV_some ha hb]
    have h1 := partS_val e f
    have h2 := partS_val u v
    have h3 := partS_val r s
    simp only [orS]
    grind
def Tri (x nx : Int) (s : Bool) : Prop := (x = -1 ∧ nx = 1 ∧ s = false) ∨ (x = 0 ∧ nx = 0 ∧ s = true) ∨ (x = 1 ∧ nx = -1 ∧ s = false)
theorem tri_of {a b : List UInt8} (ha : isV a = true) (hb : isV b = true) : ∃ x nx s, (cmpV a b).1 = x ∧ (cmpV b a).1 = nx ∧ sameV a b = s ∧ Tri x nx s := by
  refine ⟨_, _, _, rfl, rfl, rfl, ?_⟩
  rw [cmpV_swap a b]
  have h : (cmpV a b).2 = true := by
    unfold isV at ha hb
    rcases ha' : verS a with _ | ⟨e, u, r⟩
    · rw [ha'] at ha; cases ha
    · rcases hb' : verS b with _ | ⟨f, v, s⟩
      · rw [hb'] at hb; cases hb
      · rw [cmpV_some ha' hb']
  unfold Tri sameV
  rw [h]
  rcases cmpV_val a b with h | h | h <;> rw [h] <;> decide
theorem isV_some {l e u r : List UInt8} (h : verS l = some (e, u, r)) : isV l = true := by simp [isV, h]

set_option maxRecDepth 100000 in
theorem order_none_a {a : List UInt8} (b c : List UInt8) (w : World) (ha : verS a = none) : Calls Tryd.prog 8 #[.string (bs a), .string (bs b), .string (bs c)] w fun e w' => e = .returned (.bool true) ∧ Below w.heap.size w w' := by
  have HX := Lib.hid (show (cmpV a b).1 = 0 by simp [cmpV, ha])
  have HN := Lib.hid (show (cmpV b a).1 = 0 by rw [cmpV_swap]; simp [cmpV, ha])
  have HZ := Lib.hid (show (cmpV a c).1 = 0 by simp [cmpV, ha])
  have HAA := Lib.hid (cmpV_self a)
  have HA := Lib.hid (verV_none ha)
  clear ha
  obtain ⟨vb, hvb⟩ : ∃ v, verV b = v := ⟨_, rfl⟩
  rcases hb : verS b with _ | ⟨eb, ub, rb⟩
  · have HB := Lib.hid (verV_none hb)
    rcases hc : verS c with _ | ⟨ec, uc, rc⟩
    · have HC := Lib.hid (verV_none hc)
      clear hb hc hvb
      go_enter Tryd.func8, Tryd.ntmps8
      go_wp2_with (first | (go_at_call 18; refine (Compare_any _ _ _).mono ?_; rintro e w1 ⟨rfl, hb⟩; (try first | rw [HX.out] | rw [HN.out] | rw [HZ.out] | rw [HAA.out])) | (go_at_call 13; refine (parse_any _ _).mono ?_; rintro e w1 ⟨rfl, hb⟩; (first | rw [HA.out] | rw [HB.out] | rw [HC.out])) | (go_at_call 19; refine (Same_any _ _ _).mono ?_; rintro e w1 ⟨rfl, hb⟩; rw [HS.out]) | (go_at_call 15; refine (awake_any _).mono ?_; rintro e w1 ⟨rfl, hb⟩))
      go_ret
      exact ⟨rfl, by (repeat (first | assumption | exact Below.refl _ _ | refine below_next ?_ (by assumption) | refine below_drewN ?_ _))⟩
    · have HC := Lib.hid (verV_some hc)
      clear hb hc hvb
      go_enter Tryd.func8, Tryd.ntmps8
      go_wp2_with (first | (go_at_call 18; refine (Compare_any _ _ _).mono ?_; rintro e w1 ⟨rfl, hb⟩; (try first | rw [HX.out] | rw [HN.out] | rw [HZ.out] | rw [HAA.out])) | (go_at_call 13; refine (parse_any _ _).mono ?_; rintro e w1 ⟨rfl, hb⟩; (first | rw [HA.out] | rw [HB.out] | rw [HC.out])) | (go_at_call 19; refine (Same_any _ _ _).mono ?_; rintro e w1 ⟨rfl, hb⟩; rw [HS.out]) | (go_at_call 15; refine (awake_any _).mono ?_; rintro e w1 ⟨rfl, hb⟩))
      go_ret
      exact ⟨rfl, by (repeat (first | assumption | exact Below.refl _ _ | refine below_next ?_ (by assumption) | refine below_drewN ?_ _))⟩
  · have HB := Lib.hid (verV_some hb)
    rcases hc : verS c with _ | ⟨ec, uc, rc⟩
    · have HC := Lib.hid (verV_none hc)
      clear hb hc hvb
      go_enter Tryd.func8, Tryd.ntmps8
      go_wp2_with (first | (go_at_call 18; refine (Compare_any _ _ _).mono ?_; rintro e w1 ⟨rfl, hb⟩; (try first | rw [HX.out] | rw [HN.out] | rw [HZ.out] | rw [HAA.out])) | (go_at_call 13; refine (parse_any _ _).mono ?_; rintro e w1 ⟨rfl, hb⟩; (first | rw [HA.out] | rw [HB.out] | rw [HC.out])) | (go_at_call 19; refine (Same_any _ _ _).mono ?_; rintro e w1 ⟨rfl, hb⟩; rw [HS.out]) | (go_at_call 15; refine (awake_any _).mono ?_; rintro e w1 ⟨rfl, hb⟩))
      go_ret
      exact ⟨rfl, by (repeat (first | assumption | exact Below.refl _ _ | refine below_next ?_ (by assumption) | refine below_drewN ?_ _))⟩
    · have HC := Lib.hid (verV_some hc)
      clear hb hc hvb
      go_enter Tryd.func8, Tryd.ntmps8
      go_wp2_with (first | (go_at_call 18; refine (Compare_any _ _ _).mono ?_; rintro e w1 ⟨rfl, hb⟩; (try first | rw [HX.out] | rw [HN.out] | rw [HZ.out] | rw [HAA.out])) | (go_at_call 13; refine (parse_any _ _).mono ?_; rintro e w1 ⟨rfl, hb⟩; (first | rw [HA.out] | rw [HB.out] | rw [HC.out])) | (go_at_call 19; refine (Same_any _ _ _).mono ?_; rintro e w1 ⟨rfl, hb⟩; rw [HS.out]) | (go_at_call 15; refine (awake_any _).mono ?_; rintro e w1 ⟨rfl, hb⟩))
      go_ret
      exact ⟨rfl, by (repeat (first | assumption | exact Below.refl _ _ | refine below_next ?_ (by assumption) | refine below_drewN ?_ _))⟩
set_option maxRecDepth 100000 in
theorem order_none_b {a b : List UInt8} (c : List UInt8) {ea ua ra : List UInt8} (w : World) (ha : verS a = some (ea, ua, ra)) (hb : verS b = none) : Calls Tryd.prog 8 #[.string (bs a), .string (bs b), .string (bs c)] w fun e w' => e = .returned (.bool true) ∧ Below w.heap.size w w' := by
  have HX := Lib.hid (show (cmpV a b).1 = 0 by simp [cmpV, hb])
  have HN := Lib.hid (show (cmpV b a).1 = 0 by rw [cmpV_swap]; simp [cmpV, hb])
  have HY := Lib.hid (show (cmpV b c).1 = 0 by simp [cmpV, hb])
  have HZ := Lib.hid (rfl : (cmpV a c).1 = (cmpV a c).1)
  have HAA := Lib.hid (cmpV_self a)
  have HA := Lib.hid (verV_some ha)
  have HB := Lib.hid (verV_none hb)
  clear ha hb
  rcases hc : verS c with _ | ⟨ec, uc, rc⟩
  · have HC := Lib.hid (verV_none hc)
    clear hc
    go_enter Tryd.func8, Tryd.ntmps8
    go_wp2_with (first | (go_at_call 18; refine (Compare_any _ _ _).mono ?_; rintro e w1 ⟨rfl, hb⟩; (try first | rw [HX.out] | rw [HN.out] | rw [HY.out] | rw [HZ.out] | rw [HAA.out])) | (go_at_call 13; refine (parse_any _ _).mono ?_; rintro e w1 ⟨rfl, hb⟩; (first | rw [HA.out] | rw [HB.out] | rw [HC.out])) | (go_at_call 19; refine (Same_any _ _ _).mono ?_; rintro e w1 ⟨rfl, hb⟩; rw [HS.out]) | (go_at_call 15; refine (awake_any _).mono ?_; rintro e w1 ⟨rfl, hb⟩))
    go_ret
    exact ⟨rfl, by (repeat (first | assumption | exact Below.refl _ _ | refine below_next ?_ (by assumption) | refine below_drewN ?_ _))⟩
  · have HC := Lib.hid (verV_some hc)
    clear hc
    go_enter Tryd.func8, Tryd.ntmps8
    go_wp2_with (first | (go_at_call 18; refine (Compare_any _ _ _).mono ?_; rintro e w1 ⟨rfl, hb⟩; (try first | rw [HX.out] | rw [HN.out] | rw [HY.out] | rw [HZ.out] | rw [HAA.out])) | (go_at_call 13; refine (parse_any _ _).mono ?_; rintro e w1 ⟨rfl, hb⟩; (first | rw [HA.out] | rw [HB.out] | rw [HC.out])) | (go_at_call 19; refine (Same_any _ _ _).mono ?_; rintro e w1 ⟨rfl, hb⟩; rw [HS.out]) | (go_at_call 15; refine (awake_any _).mono ?_; rintro e w1 ⟨rfl, hb⟩))
    go_ret
    exact ⟨rfl, by (repeat (first | assumption | exact Below.refl _ _ | refine below_next ?_ (by assumption) | refine below_drewN ?_ _))⟩
set_option maxRecDepth 100000 in
theorem order_none_c {a b c : List UInt8} {ea ua ra eb ub rb : List UInt8} (w : World) (ha : verS a = some (ea, ua, ra)) (hb : verS b = some (eb, ub, rb)) (hc : verS c = none) : Calls Tryd.prog 8 #[.string (bs a), .string (bs b), .string (bs c)] w fun e w' => e = .returned (.bool true) ∧ Below w.heap.size w w' := by
  obtain ⟨x, nx, s, hX, hN, hS, ht⟩ := tri_of (isV_some ha) (isV_some hb)
  have HX := Lib.hid hX
  have HN := Lib.hid hN
  have HY := Lib.hid (show (cmpV b c).1 = 0 by rw [cmpV_swap]; simp [cmpV, hc])
  have HZ := Lib.hid (show (cmpV a c).1 = 0 by rw [cmpV_swap]; simp [cmpV, hc])
  have HAA := Lib.hid (cmpV_self a)
  have HA := Lib.hid (verV_some ha)
  have HB := Lib.hid (verV_some hb)
  have HC := Lib.hid (verV_none hc)
  clear ha hb hc hX hN hS
  rcases ht with ⟨rfl, rfl, _⟩ | ⟨rfl, rfl, _⟩ | ⟨rfl, rfl, _⟩
  · go_enter Tryd.func8, Tryd.ntmps8
    go_wp2_with (first | (go_at_call 18; refine (Compare_any _ _ _).mono ?_; rintro e w1 ⟨rfl, hb⟩; (try first | rw [HX.out] | rw [HN.out] | rw [HY.out] | rw [HZ.out] | rw [HAA.out])) | (go_at_call 13; refine (parse_any _ _).mono ?_; rintro e w1 ⟨rfl, hb⟩; (first | rw [HA.out] | rw [HB.out] | rw [HC.out])) | (go_at_call 19; refine (Same_any _ _ _).mono ?_; rintro e w1 ⟨rfl, hb⟩; rw [HS.out]) | (go_at_call 15; refine (awake_any _).mono ?_; rintro e w1 ⟨rfl, hb⟩))
    go_ret
    exact ⟨rfl, by (repeat (first | assumption | exact Below.refl _ _ | refine below_next ?_ (by assumption) | refine below_drewN ?_ _))⟩
  · go_enter Tryd.func8, Tryd.ntmps8
    go_wp2_with (first | (go_at_call 18; refine (Compare_any _ _ _).mono ?_; rintro e w1 ⟨rfl, hb⟩; (try first | rw [HX.out] | rw [HN.out] | rw [HY.out] | rw [HZ.out] | rw [HAA.out])) | (go_at_call 13; refine (parse_any _ _).mono ?_; rintro e w1 ⟨rfl, hb⟩; (first | rw [HA.out] | rw [HB.out] | rw [HC.out])) | (go_at_call 19; refine (Same_any _ _ _).mono ?_; rintro e w1 ⟨rfl, hb⟩; rw [HS.out]) | (go_at_call 15; refine (awake_any _).mono ?_; rintro e w1 ⟨rfl, hb⟩))
    go_ret
    exact ⟨rfl, by (repeat (first | assumption | exact Below.refl _ _ | refine below_next ?_ (by assumption) | refine below_drewN ?_ _))⟩
  · go_enter Tryd.func8, Tryd.ntmps8
    go_wp2_with (first | (go_at_call 18; refine (Compare_any _ _ _).mono ?_; rintro e w1 ⟨rfl, hb⟩; (try first | rw [HX.out] | rw [HN.out] | rw [HY.out] | rw [HZ.out] | rw [HAA.out])) | (go_at_call 13; refine (parse_any _ _).mono ?_; rintro e w1 ⟨rfl, hb⟩; (first | rw [HA.out] | rw [HB.out] | rw [HC.out])) | (go_at_call 19; refine (Same_any _ _ _).mono ?_; rintro e w1 ⟨rfl, hb⟩; rw [HS.out]) | (go_at_call 15; refine (awake_any _).mono ?_; rintro e w1 ⟨rfl, hb⟩))
    go_ret
    exact ⟨rfl, by (repeat (first | assumption | exact Below.refl _ _ | refine below_next ?_ (by assumption) | refine below_drewN ?_ _))⟩
set_option maxHeartbeats 1600000 in
set_option maxRecDepth 100000 in
theorem order_all {a b c : List UInt8} {ea ua ra eb ub rb ec uc rc : List UInt8} (w : World) (ha : verS a = some (ea, ua, ra)) (hb : verS b = some (eb, ub, rb)) (hc : verS c = some (ec, uc, rc)) : Calls Tryd.prog 8 #[.string (bs a), .string (bs b), .string (bs c)] w fun e w' => e = .returned (.bool true) ∧ Below w.heap.size w w' := by
  obtain ⟨x, nx, s, hX, hN, hS, ht⟩ := tri_of (isV_some ha) (isV_some hb)
  have ho := cmpV_ord (isV_some ha) (isV_some hb) (isV_some hc)
  have hy := cmpV_val b c
  have hz := cmpV_val a c
  rw [hX] at ho
  generalize hY : (cmpV b c).1 = y at ho hy
  generalize hZ : (cmpV a c).1 = z at ho hz
  have HX := Lib.hid hX
  have HN := Lib.hid hN
  have HY := Lib.hid hY
  have HZ := Lib.hid hZ
  have HS := Lib.hid hS
  have HAA := Lib.hid (cmpV_self a)
  have HA := Lib.hid (verV_some ha)
  have HB := Lib.hid (verV_some hb)
  have HC := Lib.hid (verV_some hc)
  clear ha hb hc hX hN hS hY hZ
  rcases ht with ⟨rfl, rfl, rfl⟩ | ⟨rfl, rfl, rfl⟩ | ⟨rfl, rfl, rfl⟩ <;> rcases hy with rfl | rfl | rfl <;> rcases hz with rfl | rfl | rfl <;>
    first
    | (exfalso; unfold ord at ho; revert ho; decide)
    | (clear ho
       go_enter Tryd.func8, Tryd.ntmps8
       go_wp2_with (first | (go_at_call 18; refine (Compare_any _ _ _).mono ?_; rintro e w1 ⟨rfl, hb⟩; (try first | rw [HX.out] | rw [HN.out] | rw [HY.out] | rw [HZ.out] | rw [HAA.out])) | (go_at_call 13; refine (parse_any _ _).mono ?_; rintro e w1 ⟨rfl, hb⟩; (first | rw [HA.out] | rw [HB.out] | rw [HC.out])) | (go_at_call 19; refine (Same_any _ _ _).mono ?_; rintro e w1 ⟨rfl, hb⟩; rw [HS.out]) | (go_at_call 15; refine (awake_any _).mono ?_; rintro e w1 ⟨rfl, hb⟩))
       go_ret
       exact ⟨rfl, by (repeat (first | assumption | exact Below.refl _ _ | refine below_next ?_ (by assumption) | refine below_drewN ?_ _))⟩)
theorem law_order (a b c : List UInt8) (w : World) : Calls Tryd.prog 8 #[.string (bs a), .string (bs b), .string (bs c)] w fun e w' => e = .returned (.bool true) ∧ Below w.heap.size w w' := by
  rcases ha : verS a with _ | ⟨ea, ua, ra⟩
  · exact order_none_a b c w ha
  · rcases hb : verS b with _ | ⟨eb, ub, rb⟩
    · exact order_none_b c w ha hb
    · rcases hc : verS c with _ | ⟨ec, uc, rc⟩
      · exact order_none_c w ha hb hc
      · exact order_all w ha hb hc
end Go.Proofs.YtlhnmafnioaojaaDoor
