/- The contracts of Compare, Same, Holds: the program's and the reference's. -/
import Derived.Test.YtcbomomlojhghaaDoorVerG
import Derived.Test.YtcbomomlojhghaaDoorVerD
import Derived.Lib.SmallJoins
namespace Go.Proofs.YtcbomomlojhghaaDoor
set_option linter.unusedSimpArgs false
set_option linter.unusedVariables false
open Go.RowKit

theorem cut_lens (l : List UInt8) : (cutE l).1.length ≤ l.length + 1 ∧ (cutE l).2.length ≤ l.length ∧ (cutR l).1.length ≤ l.length ∧ (cutR l).2.length ≤ l.length := by
  unfold cutE cutR
  refine ⟨?_, ?_, ?_, ?_⟩ <;> split <;> simp <;> omega
theorem verS_len {l e u v : List UInt8} (h : verS l = some (e, u, v)) : e.length ≤ 49 ∧ u.length ≤ 48 ∧ v.length ≤ 48 := by
  unfold verS at h
  split at h
  · cases h
  · split at h
    · cases h
    · split at h
      · simp only [Option.some.injEq, Prod.mk.injEq] at h
        obtain ⟨rfl, rfl, rfl⟩ := h
        have h1 := cut_lens l
        have h2 := cut_lens (cutE l).2
        omega
      · cases h
theorem verW_none {l : List UInt8} (h : verS l = none) : verW l = .tuple #[.string (bs []), .string (bs []), .string (bs []), .bool false] := by simp [verW, h]
theorem verW_some {l a b c : List UInt8} (h : verS l = some (a, b, c)) : verW l = .tuple #[.string (bs a), .string (bs b), .string (bs c), .bool true] := by simp [verW, h]

set_option maxRecDepth 100000 in
theorem or3_any (g : Nat) (x y z : Int) (w : World) (h0 : w.cell? ⟨g, 0, none⟩ = some (.int .i64 x)) (h1 : w.cell? ⟨g, 1, none⟩ = some (.int .i64 y)) (h2 : w.cell? ⟨g, 2, none⟩ = some (.int .i64 z)) :
    Calls Tryd.prog 77 #[.slice (some ⟨g, 0, none⟩) 3 3] w fun e w' => e = .returned (.int .i64 (orS x y z)) ∧ w = w' := by
  go_enter Tryd.func77, Tryd.ntmps77
  go_wp2
  go_loop [8] (fun i => i = .int .i64 0 ∨ (i = .int .i64 1 ∧ x = 0) ∨ (i = .int .i64 2 ∧ x = 0 ∧ y = 0) ∨ (i = .int .i64 3 ∧ x = 0 ∧ y = 0 ∧ z = 0)) (fun i => 3 - (intOf i).toNat)
  case atStart => exact .inl rfl
  case round =>
    rcases hrel with rfl | ⟨rfl, hx⟩ | ⟨rfl, hx, hy⟩ | ⟨rfl, hx, hy, hz⟩
    all_goals go_wp2
    all_goals first
      | (go_round
         case rel => (go_tidy; simp; grind)
         case measure => simp [intOf])
      | (go_ret
         refine ⟨?_, rfl⟩
         go_tidy
         simp [orS]
         try grind)
theorem compare_any (a b : List UInt8) (w : World) :
    Calls Tryd.prog 55 #[.string (bs a), .string (bs b)] w fun e w' => e = .returned (.tuple #[.int .i64 (cmpV a b).1, .bool (cmpV a b).2]) ∧ Below w.heap.size w w' := by
  rcases ha : verS a with _ | ⟨e, u, r⟩
  · have HA := Lib.hid (verV_none ha)
    have HC := Lib.hid (show cmpV a b = (0, false) by simp [cmpV, ha])
    clear ha
    rcases hb : verS b with _ | ⟨f, v, s⟩
    · have HB := Lib.hid (verV_none hb)
      clear hb
      go_enter Tryd.func55, Tryd.ntmps55
      go_wp2_with fail
      refine (parse_any a _).mono ?_
      rintro e1 w1 ⟨rfl, hd1⟩
      rw [HA.out]
      go_wp2_with fail
      refine (parse_any b _).mono ?_
      rintro e2 w2 ⟨rfl, hd2⟩
      rw [HB.out]
      go_wp2_with fail
      go_ret2
      exact ⟨by rw [HC.out]; rfl, below_next hd1 hd2⟩
    · have HB := Lib.hid (verV_some hb)
      clear hb
      go_enter Tryd.func55, Tryd.ntmps55
      go_wp2_with fail
      refine (parse_any a _).mono ?_
      rintro e1 w1 ⟨rfl, hd1⟩
      rw [HA.out]
      go_wp2_with fail
      refine (parse_any b _).mono ?_
      rintro e2 w2 ⟨rfl, hd2⟩
      rw [HB.out]
      go_wp2_with fail
      go_ret2
      exact ⟨by rw [HC.out]; rfl, below_next hd1 hd2⟩
  · have HA := Lib.hid (verV_some ha)
    have hla := verS_len ha
    rcases hb : verS b with _ | ⟨f, v, s⟩
    · have HB := Lib.hid (verV_none hb)
      have HC := Lib.hid (show cmpV a b = (0, false) by simp [cmpV, ha, hb])
      clear ha
      clear hb
      go_enter Tryd.func55, Tryd.ntmps55
      go_wp2_with fail
      refine (parse_any a _).mono ?_
      rintro e1 w1 ⟨rfl, hd1⟩
      rw [HA.out]
      go_wp2_with fail
      refine (parse_any b _).mono ?_
      rintro e2 w2 ⟨rfl, hd2⟩
      rw [HB.out]
      go_wp2_with fail
      go_ret2
      exact ⟨by rw [HC.out]; rfl, below_next hd1 hd2⟩
    · have HB := Lib.hid (verV_some hb)
      have hlb := verS_len hb
      have HC := Lib.hid (show cmpV a b = (orS (partS e f) (partS u v) (partS r s), true) by simp [cmpV, ha, hb])
      clear ha hb
      obtain ⟨ha1, ha2, ha3⟩ := hla
      obtain ⟨hb1, hb2, hb3⟩ := hlb
      go_enter Tryd.func55, Tryd.ntmps55
      go_wp2_with fail
      refine (parse_any a _).mono ?_
      rintro e1 w1 ⟨rfl, hd1⟩
      rw [HA.out]
      go_wp2_with fail
      refine (parse_any b _).mono ?_
      rintro e2 w2 ⟨rfl, hd2⟩
      rw [HB.out]
      go_wp2_with fail
      refine (part_any e f _ (by omega) (by omega)).mono ?_
      rintro e3 w3 ⟨rfl, hc1⟩
      go_wp2_with fail
      refine (part_any u v _ (by omega) (by omega)).mono ?_
      rintro e4 w4 ⟨rfl, hc2⟩
      go_wp2_with fail
      refine (part_any r s _ (by omega) (by omega)).mono ?_
      rintro e5 w5 ⟨rfl, hc3⟩
      go_wp2_with fail
      refine (or3_any _ (partS e f) (partS u v) (partS r s) _ ((Blk.new _ _ _).cell 0) ((Blk.new _ _ _).cell 1) ((Blk.new _ _ _).cell 2)).mono ?_
      rintro e6 w6 ⟨rfl, rfl⟩
      go_wp2
      go_ret2
      exact ⟨by rw [HC.out]; rfl, (below_next (below_next (below_next (below_next hd1 hd2) hc1) hc2) hc3).alloc (by exact (below_next (below_next (below_next (below_next hd1 hd2) hc1) hc2) hc3).size) _⟩
end Go.Proofs.YtcbomomlojhghaaDoor
