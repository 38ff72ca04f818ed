/- slices.SortStableFunc at steps: its contract. -/
import Derived.Test.YtaicidbopgnmfaaGreatDoorZoW
namespace Go.Proofs.YtaicidbopgnmfaaGreatDoor
set_option linter.unusedSimpArgs false
set_option linter.unusedVariables false
open Go.RowKit
set_option maxRecDepth 100000 in
theorem sortS_any (B : Nat) (Z : Raw → Stp → Prop) (c : Stp → Stp → Int) (hc : CmpOkS 65 Z c) (hsw : SW (fun x y => decide (c x y < 0))) (g cap n : Nat) (l : List Stp) (w : World) (ho : Own w B 24 3 (RKS Z) (.slice (some ⟨g, 0, none⟩) n cap) l) (hn : l.length = n) (hs : n ≤ 1000) (F : List Stp) (hF : srt (fun x y => decide (c x y < 0)) l = F) :
    Calls Tryz.prog 64 #[.slice (some ⟨g, 0, none⟩) n cap, .func (.func 65) #[] #[]] w (RetRow w B 24 3 (RKS Z) g n cap F) := by
  have hst := Lib.hid (stableS_any B Z c hc hsw g cap n l w ho hn hs F hF)
  clear ho hn hF
  go_enter Tryz.func64, Tryz.ntmps64
  go_wp2_with fail
  refine hst.out.mono ?_
  rintro e w1 ⟨rfl, ho1, hg1⟩
  go_wp2
  go_end0
  exact ⟨rfl, ho1, hg1⟩
theorem insS_nil (fv : Value) (w : World) : Calls Tryz.prog 157 #[.slice none 0 0, .int .i64 0, .int .i64 0, fv] w fun e w' => e = .returned (.tuple #[]) ∧ w = w' := by
  go_enter Tryz.func157, Tryz.ntmps157
  go_wp2
  refine wp_loop_rounds 1 ?_
  rw [rounds_succ]
  go_wp2
  go_end0
  exact ⟨rfl, rfl⟩
theorem stableS_nil (fv : Value) (w : World) : Calls Tryz.prog 118 #[.slice none 0 0, .int .i64 0, fv] w fun e w' => e = .returned (.tuple #[]) ∧ w = w' := by
  go_enter Tryz.func118, Tryz.ntmps118
  go_wp2
  refine wp_loop_rounds 1 ?_
  rw [rounds_succ]
  go_wp2_with fail
  refine (insS_nil _ _).mono ?_
  rintro e w1 ⟨rfl, rfl⟩
  go_wp2
  refine wp_loop_rounds 1 ?_
  rw [rounds_succ]
  go_wp2
  go_end0
  exact ⟨rfl, rfl⟩
theorem sortS_nil (fv : Value) (w : World) : Calls Tryz.prog 64 #[.slice none 0 0, fv] w fun e w' => e = .returned (.tuple #[]) ∧ w = w' := by
  go_enter Tryz.func64, Tryz.ntmps64
  go_wp2_with fail
  refine (stableS_nil _ _).mono ?_
  rintro e w1 ⟨rfl, rfl⟩
  go_wp2
  go_end0
  exact ⟨rfl, rfl⟩
end Go.Proofs.YtaicidbopgnmfaaGreatDoor
