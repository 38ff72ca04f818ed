/- slices.SortStableFunc at packages: its contract. -/
import Derived.Test.YtefjoigngnnbjaaDoorEoW
namespace Go.Proofs.YtefjoigngnnbjaaDoor
set_option linter.unusedSimpArgs false
set_option linter.unusedVariables false
open Go.RowKit
set_option maxRecDepth 100000 in
theorem sortE_any (B : Nat) (Z : Raw → Ent → Prop) (c : Ent → Ent → Int) (hc : CmpOkE 38 Z c) (hsw : SW (fun x y => decide (c x y < 0))) (g cap n : Nat) (l : List Ent) (w : World) (ho : Own w B 50 11 (RKE Z) (.slice (some ⟨g, 0, none⟩) n cap) l) (hn : l.length = n) (hs : n ≤ 1000) (F : List Ent) (hF : srt (fun x y => decide (c x y < 0)) l = F) :
    Calls Tryd.prog 37 #[.slice (some ⟨g, 0, none⟩) n cap, .func (.func 38) #[] #[]] w (RetRow w B 50 11 (RKE Z) g n cap F) := by
  have hst := Lib.hid (stableE_any B Z c hc hsw g cap n l w ho hn hs F hF)
  clear ho hn hF
  go_enter Tryd.func37, Tryd.ntmps37
  go_wp2_with fail
  refine hst.out.mono ?_
  rintro e w1 ⟨rfl, ho1, hg1⟩
  go_wp2
  go_end0
  exact ⟨rfl, ho1, hg1⟩
theorem insE_nil (fv : Value) (w : World) : Calls Tryd.prog 84 #[.slice none 0 0, .int .i64 0, .int .i64 0, fv] w fun e w' => e = .returned (.tuple #[]) ∧ w = w' := by
  go_enter Tryd.func84, Tryd.ntmps84
  go_wp2
  refine wp_loop_rounds 1 ?_
  rw [rounds_succ]
  go_wp2
  go_end0
  exact ⟨rfl, rfl⟩
theorem stableE_nil (fv : Value) (w : World) : Calls Tryd.prog 62 #[.slice none 0 0, .int .i64 0, fv] w fun e w' => e = .returned (.tuple #[]) ∧ w = w' := by
  go_enter Tryd.func62, Tryd.ntmps62
  go_wp2
  refine wp_loop_rounds 1 ?_
  rw [rounds_succ]
  go_wp2_with fail
  refine (insE_nil _ _).mono ?_
  rintro e w1 ⟨rfl, rfl⟩
  go_wp2
  refine wp_loop_rounds 1 ?_
  rw [rounds_succ]
  go_wp2
  go_end0
  exact ⟨rfl, rfl⟩
theorem sortE_nil (fv : Value) (w : World) : Calls Tryd.prog 37 #[.slice none 0 0, fv] w fun e w' => e = .returned (.tuple #[]) ∧ w = w' := by
  go_enter Tryd.func37, Tryd.ntmps37
  go_wp2_with fail
  refine (stableE_nil _ _).mono ?_
  rintro e w1 ⟨rfl, rfl⟩
  go_wp2
  go_end0
  exact ⟨rfl, rfl⟩
end Go.Proofs.YtefjoigngnnbjaaDoor
