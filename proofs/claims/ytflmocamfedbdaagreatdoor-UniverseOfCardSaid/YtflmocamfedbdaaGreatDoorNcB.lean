/- slices.SortStableFunc at packages: its contract. -/
import Derived.Test.YtflmocamfedbdaaGreatDoorSoW
import Derived.Test.YtflmocamfedbdaaGreatDoorNcA
namespace Go.Proofs.YtflmocamfedbdaaGreatDoor
set_option linter.unusedSimpArgs false
set_option linter.unusedVariables false
open Go.RowKit
set_option maxRecDepth 100000 in
theorem sort_any (B : Nat) (Z : Raw → Pkg → Prop) (c : Pkg → Pkg → Int) (hc : CmpOk 63 Z c) (hsw : SW (fun x y => decide (c x y < 0))) (g cap n : Nat) (l : List Pkg) (w : World) (ho : Own w B 26 9 (RK Z) (.slice (some ⟨g, 0, none⟩) n cap) l) (hn : l.length = n) (hs : n ≤ 1000) (F : List Pkg) (hF : srt (fun x y => decide (c x y < 0)) l = F) :
    Calls Tryz.prog 62 #[.slice (some ⟨g, 0, none⟩) n cap, .func (.func 63) #[] #[]] w (RetRow w B 26 9 (RK Z) g n cap F) := by
  have hst := Lib.hid (stable_any B Z c hc hsw g cap n l w ho hn hs F hF)
  clear ho hn hF
  go_enter Tryz.func62, Tryz.ntmps62
  go_wp2_with fail
  refine hst.out.mono ?_
  rintro e w1 ⟨rfl, ho1, hg1⟩
  go_wp2
  go_end0
  exact ⟨rfl, ho1, hg1⟩
theorem ins_nil (fv : Value) (w : World) : Calls Tryz.prog 123 #[.slice none 0 0, .int .i64 0, .int .i64 0, fv] w fun e w' => e = .returned (.tuple #[]) ∧ w = w' := by
  go_enter Tryz.func123, Tryz.ntmps123
  go_wp2
  refine wp_loop_rounds 1 ?_
  rw [rounds_succ]
  go_wp2
  go_end0
  exact ⟨rfl, rfl⟩
theorem stable_nil (fv : Value) (w : World) : Calls Tryz.prog 106 #[.slice none 0 0, .int .i64 0, fv] w fun e w' => e = .returned (.tuple #[]) ∧ w = w' := by
  go_enter Tryz.func106, Tryz.ntmps106
  go_wp2
  refine wp_loop_rounds 1 ?_
  rw [rounds_succ]
  go_wp2_with fail
  refine (ins_nil _ _).mono ?_
  rintro e w1 ⟨rfl, rfl⟩
  go_wp2
  refine wp_loop_rounds 1 ?_
  rw [rounds_succ]
  go_wp2
  go_end0
  exact ⟨rfl, rfl⟩
theorem sort_nil (fv : Value) (w : World) : Calls Tryz.prog 62 #[.slice none 0 0, fv] w fun e w' => e = .returned (.tuple #[]) ∧ w = w' := by
  go_enter Tryz.func62, Tryz.ntmps62
  go_wp2_with fail
  refine (stable_nil _ _).mono ?_
  rintro e w1 ⟨rfl, rfl⟩
  go_wp2
  go_end0
  exact ⟨rfl, rfl⟩
end Go.Proofs.YtflmocamfedbdaaGreatDoor
