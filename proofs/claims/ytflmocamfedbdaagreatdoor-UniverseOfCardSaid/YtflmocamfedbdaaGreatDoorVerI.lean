/- The contracts of Compare, Same, Holds, Sign, Rel: the program's and the reference's. -/
import Derived.Test.YtflmocamfedbdaaGreatDoorVerH
namespace Go.Proofs.YtflmocamfedbdaaGreatDoor
set_option linter.unusedSimpArgs false
set_option linter.unusedVariables false
open Go.RowKit

theorem Compare_any (a b : List UInt8) (w : World) :
    Calls Tryz.prog 66 #[.string (bs a), .string (bs b)] w fun e w' => e = .returned (.int .i64 (cmpV a b).1) ∧ Below w.heap.size w w' := by
  go_enter Tryz.func66, Tryz.ntmps66
  go_wp2_with (go_at_call 94; refine (compare_any _ _ _).mono ?_; rintro e w1 ⟨rfl, hb⟩)
  go_ret
  exact ⟨rfl, hb⟩
def sameV (a b : List UInt8) : Bool := (cmpV a b).2 && decide ((cmpV a b).1 = 0)
theorem Same_any (a b : List UInt8) (w : World) :
    Calls Tryz.prog 74 #[.string (bs a), .string (bs b)] w fun e w' => e = .returned (.bool (sameV a b)) ∧ Below w.heap.size w w' := by
  go_enter Tryz.func74, Tryz.ntmps74
  go_wp2_with (go_at_call 94; refine (compare_any _ _ _).mono ?_; rintro e w1 ⟨rfl, hb⟩)
  all_goals go_ret
  all_goals refine ⟨?_, hb⟩
  all_goals (go_tidy; simp [sameV]; try grind)
set_option maxRecDepth 100000 in
set_option maxHeartbeats 400000 in
theorem Holds_any (rel : Int) (a b : List UInt8) (w : World) :
    Calls Tryz.prog 53 #[.int .i64 rel, .string (bs a), .string (bs b)] w fun e w' => e = .returned (.bool (holdsS rel a b)) ∧ Below w.heap.size w w' := by
  by_cases h0 : rel = 0
  · subst h0
    rcases ha : verS a with _ | ⟨e, u, r⟩
    · have HA := Lib.hid (verV_none ha)
      have HH := Lib.hid (show holdsS 0 a b = false by simp [holdsS, isV, ha])
      clear ha
      go_enter Tryz.func53, Tryz.ntmps53
      go_wp2_with (go_at_call 93; refine (parse_any _ _).mono ?_; rintro e w1 ⟨rfl, hb⟩; rw [HA.out])
      go_ret
      exact ⟨by rw [HH.out]; rfl, hb⟩
    · have HA := Lib.hid (verV_some ha)
      have HH := Lib.hid (show holdsS 0 a b = true by simp [holdsS, isV, ha])
      clear ha
      go_enter Tryz.func53, Tryz.ntmps53
      go_wp2_with (go_at_call 93; refine (parse_any _ _).mono ?_; rintro e w1 ⟨rfl, hb⟩; rw [HA.out])
      go_ret
      exact ⟨by rw [HH.out]; rfl, hb⟩
  · have hz : (rel == 0) = false := by simpa using h0
    go_enter Tryz.func53, Tryz.ntmps53
    go_wp2_with (go_at_call 94; refine (compare_any _ _ _).mono ?_; rintro e w1 ⟨rfl, hb⟩)
    all_goals go_ret
    all_goals refine ⟨?_, hb⟩
    all_goals (go_tidy; simp [holdsS]; try grind)
/- the reference's -/
theorem rIs_any (a : List UInt8) (w : World) :
    Calls Tryz.prog 13 #[.string (bs a)] w fun e w' => e = .returned (.bool (isV a)) ∧ Below w.heap.size w w' := by
  rcases ha : verS a with _ | ⟨e, u, r⟩
  · have HI := Lib.hid (show isV a = false by simp [isV, ha])
    have HA := Lib.hid (verW_none ha)
    clear ha
    go_enter Tryz.func13, Tryz.ntmps13
    go_wp2_with (go_at_call 51; refine (rversion_any _ _).mono ?_; rintro e w1 ⟨rfl, hb⟩; rw [HA.out])
    go_ret
    exact ⟨by rw [HI.out]; rfl, hb⟩
  · have HI := Lib.hid (show isV a = true by simp [isV, ha])
    have HA := Lib.hid (verW_some ha)
    clear ha
    go_enter Tryz.func13, Tryz.ntmps13
    go_wp2_with (go_at_call 51; refine (rversion_any _ _).mono ?_; rintro e w1 ⟨rfl, hb⟩; rw [HA.out])
    go_ret
    exact ⟨by rw [HI.out]; rfl, hb⟩
set_option maxRecDepth 100000 in
set_option maxHeartbeats 800000 in
theorem rCompare_any (a b : List UInt8) (w : World) :
    Calls Tryz.prog 68 #[.string (bs a), .string (bs b)] w fun e w' => e = .returned (.int .i64 (cmpV a b).1) ∧ Below w.heap.size w w' := by
  rcases ha : verS a with _ | ⟨e, u, r⟩
  · have HA := Lib.hid (verW_none ha)
    have HC := Lib.hid (show cmpV a b = (0, false) by simp [cmpV, ha])
    clear ha
    rcases hb : verS b with _ | ⟨f, v, s⟩
    · have HB := Lib.hid (verW_none hb)
      clear hb
      go_enter Tryz.func68, Tryz.ntmps68
      go_wp2_with fail
      refine (rversion_any a _).mono ?_
      rintro e1 w1 ⟨rfl, hd1⟩
      rw [HA.out]
      go_wp2_with fail
      refine (rversion_any b _).mono ?_
      rintro e2 w2 ⟨rfl, hd2⟩
      rw [HB.out]
      go_wp2_with fail
      go_ret
      exact ⟨by rw [HC.out]; rfl, below_next hd1 hd2⟩
    · have HB := Lib.hid (verW_some hb)
      clear hb
      go_enter Tryz.func68, Tryz.ntmps68
      go_wp2_with fail
      refine (rversion_any a _).mono ?_
      rintro e1 w1 ⟨rfl, hd1⟩
      rw [HA.out]
      go_wp2_with fail
      refine (rversion_any b _).mono ?_
      rintro e2 w2 ⟨rfl, hd2⟩
      rw [HB.out]
      go_wp2_with fail
      go_ret
      exact ⟨by rw [HC.out]; rfl, below_next hd1 hd2⟩
  · have HA := Lib.hid (verW_some ha)
    have hla := verS_len ha
    rcases hb : verS b with _ | ⟨f, v, s⟩
    · have HB := Lib.hid (verW_none hb)
      have HC := Lib.hid (show cmpV a b = (0, false) by simp [cmpV, ha, hb])
      clear ha
      clear hb
      go_enter Tryz.func68, Tryz.ntmps68
      go_wp2_with fail
      refine (rversion_any a _).mono ?_
      rintro e1 w1 ⟨rfl, hd1⟩
      rw [HA.out]
      go_wp2_with fail
      refine (rversion_any b _).mono ?_
      rintro e2 w2 ⟨rfl, hd2⟩
      rw [HB.out]
      go_wp2_with fail
      go_ret
      exact ⟨by rw [HC.out]; rfl, below_next hd1 hd2⟩
    · have HB := Lib.hid (verW_some hb)
      have hlb := verS_len hb
      have HC := Lib.hid (show cmpV a b = (orS (partS e f) (partS u v) (partS r s), true) by simp [cmpV, ha, hb])
      clear ha hb
      obtain ⟨ha1, ha2, ha3⟩ := hla
      obtain ⟨hb1, hb2, hb3⟩ := hlb
      go_enter Tryz.func68, Tryz.ntmps68
      go_wp2_with fail
      refine (rversion_any a _).mono ?_
      rintro e1 w1 ⟨rfl, hd1⟩
      rw [HA.out]
      go_wp2_with fail
      refine (rversion_any b _).mono ?_
      rintro e2 w2 ⟨rfl, hd2⟩
      rw [HB.out]
      have i0 : ∀ w, (Instr.index 132 (.agg #[.string (bs e), .string (bs f), .string (bs u), .string (bs v), .string (bs r), .string (bs s)]) (.int .i64 0)).run Tryz.prog w = .ok (.agg #[.string (bs e), .string (bs f)]) w := fun _ => by kernel_rfl
      have i1 : ∀ w, (Instr.index 132 (.agg #[.string (bs e), .string (bs f), .string (bs u), .string (bs v), .string (bs r), .string (bs s)]) (.int .i64 1)).run Tryz.prog w = .ok (.agg #[.string (bs u), .string (bs v)]) w := fun _ => by kernel_rfl
      have i2 : ∀ w, (Instr.index 132 (.agg #[.string (bs e), .string (bs f), .string (bs u), .string (bs v), .string (bs r), .string (bs s)]) (.int .i64 2)).run Tryz.prog w = .ok (.agg #[.string (bs r), .string (bs s)]) w := fun _ => by kernel_rfl
      go_wp2_with fail
      go_loopw [46] (fun i wr => Below w.heap.size w wr ∧ (i = .int .i64 0 ∨ (i = .int .i64 1 ∧ partS e f = 0) ∨ (i = .int .i64 2 ∧ partS e f = 0 ∧ partS u v = 0) ∨ (i = .int .i64 3 ∧ partS e f = 0 ∧ partS u v = 0 ∧ partS r s = 0))) (fun i _ => 3 - (intOf i).toNat)
      case atStart => exact ⟨below_next hd1 hd2, .inl rfl⟩
      case round =>
        obtain ⟨hbr, hrel⟩ := hrel
        have HBR := Lib.hid hbr
        clear hbr
        rcases hrel with rfl | ⟨rfl, hx⟩ | ⟨rfl, hx, hy⟩ | ⟨rfl, hx, hy, hz⟩
        all_goals go_wp2_with (go_at_call 108; refine (rpart_any _ _ _ (by omega) (by omega)).mono ?_; rintro e3 w3 ⟨rfl, hc1⟩)
        · have HF : Hid (Below w.heap.size w w3) := Lib.hid (below_next (HBR.out.alloc HBR.out.size _) hc1)
          go_ret
          refine ⟨?_, HF.out⟩
          rw [HC.out]
          try (go_tidy; simp [orS]; try grind)
        · have HF : Hid (Below w.heap.size w w3) := Lib.hid (below_next (HBR.out.alloc HBR.out.size _) hc1)
          go_roundw
          case rel => exact ⟨HF.out, by go_tidy; simp; try grind⟩
          case measure => simp [intOf]
        · have HF : Hid (Below w.heap.size w w3) := Lib.hid (below_next (HBR.out.alloc HBR.out.size _) hc1)
          go_ret
          refine ⟨?_, HF.out⟩
          rw [HC.out]
          try (go_tidy; simp [orS]; try grind)
        · have HF : Hid (Below w.heap.size w w3) := Lib.hid (below_next (HBR.out.alloc HBR.out.size _) hc1)
          go_roundw
          case rel => exact ⟨HF.out, by go_tidy; simp; try grind⟩
          case measure => simp [intOf]
        · have HF : Hid (Below w.heap.size w w3) := Lib.hid (below_next (HBR.out.alloc HBR.out.size _) hc1)
          go_ret
          refine ⟨?_, HF.out⟩
          rw [HC.out]
          try (go_tidy; simp [orS]; try grind)
        · have HF : Hid (Below w.heap.size w w3) := Lib.hid (below_next (HBR.out.alloc HBR.out.size _) hc1)
          go_roundw
          case rel => exact ⟨HF.out, by go_tidy; simp; try grind⟩
          case measure => simp [intOf]
        · go_ret
          refine ⟨?_, HBR.out⟩
          rw [HC.out]
          try (go_tidy; simp [orS]; try grind)
theorem rSameVersion_any (a b : List UInt8) (w : World) :
    Calls Tryz.prog 67 #[.string (bs a), .string (bs b)] w fun e w' => e = .returned (.bool (sameV a b)) ∧ Below w.heap.size w w' := by
  have hs : sameV a b = (isV a && isV b && decide ((cmpV a b).1 = 0)) := by
    unfold sameV cmpV isV
    rcases verS a with _ | ⟨e, u, r⟩ <;> rcases verS b with _ | ⟨f, v, s⟩ <;> simp
  have HS := Lib.hid hs
  clear hs
  go_enter Tryz.func67, Tryz.ntmps67
  go_wp2_with fail
  refine (rIs_any a _).mono ?_
  rintro e1 w1 ⟨rfl, hd1⟩
  go_wp2_with (first | (go_at_call 13; refine (rIs_any b _).mono ?_; rintro e1 w2 ⟨rfl, hd2⟩) | (go_at_call 68; refine (rCompare_any a b _).mono ?_; rintro e1 w3 ⟨rfl, hd3⟩))
  all_goals go_ret
  all_goals refine ⟨?_, by (repeat (first | assumption | exact Below.refl _ _ | refine below_next ?_ (by assumption) | refine below_drewN ?_ _ | refine below_alloc ?_ _))⟩
  all_goals (rw [HS.out]; go_tidy; simp; try grind)
set_option maxRecDepth 100000 in
set_option maxHeartbeats 400000 in
theorem rHolds_any (rel : Int) (a b : List UInt8) (w : World) :
    Calls Tryz.prog 57 #[.int .i64 rel, .string (bs a), .string (bs b)] w fun e w' => e = .returned (.bool (holdsS rel a b)) ∧ Below w.heap.size w w' := by
  have hs : (cmpV a b).2 = (isV a && isV b) := by
    unfold cmpV isV
    rcases verS a with _ | ⟨e, u, r⟩ <;> rcases verS b with _ | ⟨f, v, s⟩ <;> simp
  have HS := Lib.hid hs
  clear hs
  by_cases h0 : rel = 0
  · subst h0
    go_enter Tryz.func57, Tryz.ntmps57
    go_wp2_with (go_at_call 13; refine (rIs_any a _).mono ?_; rintro e1 w1 ⟨rfl, hd1⟩)
    go_ret
    exact ⟨rfl, hd1⟩
  · have hz : (rel == 0) = false := by simpa using h0
    go_enter Tryz.func57, Tryz.ntmps57
    go_wp2_with fail
    refine (rIs_any a _).mono ?_
    rintro e1 w1 ⟨rfl, hd1⟩
    go_wp2_with (first | (go_at_call 13; refine (rIs_any b _).mono ?_; rintro e1 w2 ⟨rfl, hd2⟩) | (go_at_call 68; refine (rCompare_any a b _).mono ?_; rintro e1 w3 ⟨rfl, hd3⟩))
    all_goals go_ret
    all_goals refine ⟨?_, by (repeat (first | assumption | exact Below.refl _ _ | refine below_next ?_ (by assumption) | refine below_drewN ?_ _ | refine below_alloc ?_ _))⟩
    all_goals (have hq := HS.out; go_tidy; simp [holdsS]; grind)
end Go.Proofs.YtflmocamfedbdaaGreatDoor
