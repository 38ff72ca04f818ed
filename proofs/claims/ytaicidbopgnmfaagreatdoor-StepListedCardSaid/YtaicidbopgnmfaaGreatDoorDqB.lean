/- The contracts of step.Less, of the reference's Less. -/
import Derived.Test.YtaicidbopgnmfaaGreatDoorDqA
import Derived.Test.YtaicidbopgnmfaaGreatDoorVw
import Derived.Test.YtaicidbopgnmfaaGreatDoorPy
namespace Go.Proofs.YtaicidbopgnmfaaGreatDoor
set_option linter.unusedSimpArgs false
set_option linter.unusedVariables false
open Go.RowKit
set_option maxRecDepth 100000 in
theorem or4_any (g : Nat) (x y z u : Int) (w : World) (h0 : w.cell? ⟨g, 0, none⟩ = some (.int .i64 x)) (h1 : w.cell? ⟨g, 1, none⟩ = some (.int .i64 y)) (h2 : w.cell? ⟨g, 2, none⟩ = some (.int .i64 z)) (h3 : w.cell? ⟨g, 3, none⟩ = some (.int .i64 u)) :
    Calls Tryz.prog 68 #[.slice (some ⟨g, 0, none⟩) 4 4] w fun e w' => e = .returned (.int .i64 (orS x y (orS z u 0))) ∧ w = w' := by
  go_enter Tryz.func68, Tryz.ntmps68
  go_wp2
  go_loop [8] (fun i => i = .int .i64 0 ∨ (i = .int .i64 1 ∧ x = 0) ∨ (i = .int .i64 2 ∧ x = 0 ∧ y = 0) ∨ (i = .int .i64 3 ∧ x = 0 ∧ y = 0 ∧ z = 0) ∨ (i = .int .i64 4 ∧ x = 0 ∧ y = 0 ∧ z = 0 ∧ u = 0)) (fun i => 4 - (intOf i).toNat)
  case atStart => exact .inl rfl
  case round =>
    rcases hrel with rfl | ⟨rfl, hx⟩ | ⟨rfl, hx, hy⟩ | ⟨rfl, hx, hy, hz⟩ | ⟨rfl, hx, hy, hz, hu⟩
    all_goals go_wp2
    all_goals first
      | (go_round
         case rel => (go_tidy; simp; grind)
         case measure => simp [intOf])
      | (go_ret
         refine ⟨?_, rfl⟩
         go_tidy
         simp [orS]
         try grind)
/-- two steps compared as the program compares them: versions that are none are alike -/
def stK (a b : Stp) : Int := orS (Lib.compareInt a.kind b.kind) (cmpB a.name b.name) (orS (cmpV a.ver b.ver).1 (cmpB a.ver b.ver) 0)
set_option maxRecDepth 100000 in
set_option maxHeartbeats 2000000 in
theorem less_any (k : Int) (nm vr : List UInt8) (k2 : Int) (nm2 vr2 : List UInt8) (w : World) :
    Calls Tryz.prog 32 #[.agg #[.int .i64 k, .string (bs nm), .string (bs vr)], .agg #[.int .i64 k2, .string (bs nm2), .string (bs vr2)]] w fun e w' => e = .returned (.bool (decide (stK ⟨k, nm, vr⟩ ⟨k2, nm2, vr2⟩ < 0))) ∧ Below w.heap.size w w' := by
  go_enter Tryz.func32, Tryz.ntmps32
  go_wp2_with fail
  have K1 := Lib.hid (show Blk ((w.alloc (.cells #[.int .i64 k, .string (bs nm), .string (bs vr)] 24)).alloc (.cells #[.int .i64 k2, .string (bs nm2), .string (bs vr2)] 24)) w.heap.size 24 #[.int .i64 k, .string (bs nm), .string (bs vr)] from Blk.alloc (blk_new1 _ _ _) _)
  have K2 := Lib.hid (show Blk ((w.alloc (.cells #[.int .i64 k, .string (bs nm), .string (bs vr)] 24)).alloc (.cells #[.int .i64 k2, .string (bs nm2), .string (bs vr2)] 24)) (w.heap.size + 1) 24 #[.int .i64 k2, .string (bs nm2), .string (bs vr2)] from blk_new2 _ _ _ _)
  have HB := Lib.hid (show Below w.heap.size w ((w.alloc (.cells #[.int .i64 k, .string (bs nm), .string (bs vr)] 24)).alloc (.cells #[.int .i64 k2, .string (bs nm2), .string (bs vr2)] 24)) from below_alloc (below_alloc (Below.refl _ _) _) _)
  generalize World.alloc _ _ = W at K1 K2 HB ⊢
  have a0 := K1.out.cell 0
  have a1 := K1.out.cell 1
  have a2 := K1.out.cell 2
  have b0 := K2.out.cell 0
  have b1 := K2.out.cell 1
  have b2 := K2.out.cell 2
  simp only [List.getElem?_toArray, List.getElem?_cons_zero, List.getElem?_cons_succ] at a0 a1 a2 b0 b1 b2
  go_region_held3 (fun w' => w'.cell? ⟨w.heap.size, 0, none⟩ = some (.int .i64 k) ∧ w'.cell? ⟨w.heap.size, 1, none⟩ = some (.string (bs nm)) ∧ w'.cell? ⟨w.heap.size, 2, none⟩ = some (.string (bs vr)) ∧ w'.cell? ⟨w.heap.size + 1, 0, none⟩ = some (.int .i64 k2) ∧ w'.cell? ⟨w.heap.size + 1, 1, none⟩ = some (.string (bs nm2)) ∧ w'.cell? ⟨w.heap.size + 1, 2, none⟩ = some (.string (bs vr2)) ∧ Hid (Below W.heap.size W w')) (first | exact (by assumption : _ ∧ _ ∧ _ ∧ _ ∧ _ ∧ _ ∧ Hid (Below W.heap.size W _)) | (have hHeld := (by assumption : _ ∧ _ ∧ _ ∧ _ ∧ _ ∧ _ ∧ Hid (Below W.heap.size W _)); obtain ⟨q0, q1, q2, q3, q4, q5, qB⟩ := hHeld; exact ⟨Kept.of_below hb4 _ _ q0, Kept.of_below hb4 _ _ q1, Kept.of_below hb4 _ _ q2, Kept.of_below hb4 _ _ q3, Kept.of_below hb4 _ _ q4, Kept.of_below hb4 _ _ q5, below_next qB.out hb4⟩) | (have hHeld := (by assumption : _ ∧ _ ∧ _ ∧ _ ∧ _ ∧ _ ∧ Hid (Below W.heap.size W _)); obtain ⟨q0, q1, q2, q3, q4, q5, qB⟩ := hHeld; exact ⟨Kept.alloc _ _ _ _ q0, Kept.alloc _ _ _ _ q1, Kept.alloc _ _ _ _ q2, Kept.alloc _ _ _ _ q3, Kept.alloc _ _ _ _ q4, Kept.alloc _ _ _ _ q5, below_alloc qB.out _⟩) | exact ⟨a0, a1, a2, b0, b1, b2, below_drewN (Below.refl _ _) 1⟩)
    (first | (go_at_call 69; refine (compareInt_any _ _ _).mono ?_; rintro e w3 ⟨rfl, rfl⟩) | (go_at_call 70; refine (compareStr_any _ _ _).mono ?_; rintro e w3 ⟨rfl, rfl⟩) | (go_at_call 71; refine (Compare_any _ _ _).mono ?_; rintro e w4 ⟨rfl, hb4⟩) | (go_at_call 68; refine (or4_any _ (Lib.compareInt k k2) (cmpB nm nm2) (cmpV vr vr2).1 (cmpB vr vr2) _ ((Blk.new _ _ _).cell 0) ((Blk.new _ _ _).cell 1) ((Blk.new _ _ _).cell 2) ((Blk.new _ _ _).cell 3)).mono ?_; rintro e w3 ⟨rfl, rfl⟩))
  all_goals go_wp2
  all_goals go_ret
  all_goals exact ⟨rfl, below_next HB.out (by assumption : _ ∧ _ ∧ _ ∧ _ ∧ _ ∧ _ ∧ Hid (Below W.heap.size W _)).2.2.2.2.2.2.out⟩
end Go.Proofs.YtaicidbopgnmfaaGreatDoor
