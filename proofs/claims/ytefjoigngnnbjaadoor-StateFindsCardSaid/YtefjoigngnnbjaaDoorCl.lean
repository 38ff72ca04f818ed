/- The contracts of slices.Clone at clauses, atoms, provides: a copy in memory of its own. -/
import Derived.Test.YtefjoigngnnbjaaDoorMaA
import Derived.Test.YtefjoigngnnbjaaDoorMk
import Derived.Lib.SliceRun
namespace Go.Proofs.YtefjoigngnnbjaaDoor
set_option linter.unusedSimpArgs false
set_option linter.unusedVariables false
open Go.RowKit

theorem infPrv : (Tryd.prog.info? 79).map (fun i => (i.zero, i.size, i.bytes)) = some (some (.agg #[.string (bs []), .string (bs [])]), 2, 32) := by kernel_rfl
theorem atm_one : ∀ cs y, RAtm cs y → ∀ u ∈ cs, u.oneCell' = true := fun cs y ⟨h, _⟩ u hu => by
  subst h
  exact encA_one y u hu
theorem prv_one : ∀ cs y, RPrv cs y → ∀ u ∈ cs, u.oneCell' = true := fun cs y ⟨h, _⟩ u hu => by
  subst h
  exact encP_one y u hu
theorem own_made {α : Type} {R : List Value → α → Prop} (W : World) (e : TypeId) (k : Nat) : Own (W.alloc (.cells #[] e)) W.heap.size e k R (.slice (some ⟨W.heap.size, 0, none⟩) 0 0) [] :=
  ⟨[], rfl, fun i cs x h => by simp at h, World.ownsRow_made W #[] 0 (Nat.le_refl _) (Nat.zero_le _) (by simp)⟩
/-- a copy of a row is returned -/
def RetOwn {α : Type} (w : World) (e : TypeId) (k : Nat) (R : List Value → α → Prop) (l : List α) (x : Ending) (w' : World) : Prop := ∃ v, x = .returned v ∧ Own w' w.heap.size e k R v l ∧ Below w.heap.size w w'
set_option maxRecDepth 100000 in
set_option maxHeartbeats 400000 in
theorem cloneC_any (A : Option Addr) (c : Nat) (l : List Atm) (w : World) (hl : Slc w 3 40 RAtm A c l) (hbig : l.length ≤ 1000000) :
    Calls Tryd.prog 59 #[.slice A l.length c] w (RetOwn w 64 3 RAtm l) := by
  have hbd := hl.bd
  have HL := Lib.hid hl
  have heq : ∀ (A : Option Addr) (n c : Nat) (W : World), (binOp .eql 48 (.slice A n c) (.slice none 0 0)).run Tryd.prog W = .ok (.bool A.isNone) W := fun A n c W => Lib.run_eql_slice_nil W 48 64 A n c 0 0 Tryd.underlying48
  rcases A with _ | ⟨b, o, sp⟩
  · have hn : l = [] := by
      rcases l with _ | ⟨x, l⟩
      · rfl
      · obtain ⟨b, o, h, _⟩ := hl.2.2.2 (by simp)
        cases h
    clear hl
    subst hn
    go_enter Tryd.func59, Tryd.ntmps59
    go_wp2
    all_goals go_ret
    all_goals exact ⟨_, rfl, Own.nil_ _ _ _ _ _, Below.refl _ _⟩
  · clear hl
    go_enter Tryd.func59, Tryd.ntmps59
    go_wp2_with (at_builtin; refine wpList_append_all (by rfl) _ _ 48 (by rfl) w.heap.size 64 _ 3 40 40 Tryd.underlying48 infAtm rfl (by omega) RAtm _ [] (by rfl) (own_made w 64 3) (some ⟨b, o, sp⟩) c l (by rfl) (Slc.mono HL.out (Kept.alloc _ _) fun _ _ h => h) atm_one (by simp; omega) (by omega) (by simp) ?_; intro v1 w1 ho1 hg1)
    have hb1 := (own_made (R := RAtm) w 64 3).below (below_alloc (Below.refl _ _) _) (by simp) hg1
    rw [List.nil_append] at ho1
    go_ret
    exact ⟨_, rfl, ho1, hb1⟩
set_option maxRecDepth 100000 in
set_option maxHeartbeats 400000 in
theorem cloneA_any (A : Option Addr) (c : Nat) (l : List Atm) (w : World) (hl : Slc w 3 40 RAtm A c l) (hbig : l.length ≤ 1000000) :
    Calls Tryd.prog 60 #[.slice A l.length c] w (RetOwn w 64 3 RAtm l) := by
  have hbd := hl.bd
  have HL := Lib.hid hl
  have heq : ∀ (A : Option Addr) (n c : Nat) (W : World), (binOp .eql 25 (.slice A n c) (.slice none 0 0)).run Tryd.prog W = .ok (.bool A.isNone) W := fun A n c W => Lib.run_eql_slice_nil W 25 64 A n c 0 0 Tryd.underlying25
  rcases A with _ | ⟨b, o, sp⟩
  · have hn : l = [] := by
      rcases l with _ | ⟨x, l⟩
      · rfl
      · obtain ⟨b, o, h, _⟩ := hl.2.2.2 (by simp)
        cases h
    clear hl
    subst hn
    go_enter Tryd.func60, Tryd.ntmps60
    go_wp2
    all_goals go_ret
    all_goals exact ⟨_, rfl, Own.nil_ _ _ _ _ _, Below.refl _ _⟩
  · clear hl
    go_enter Tryd.func60, Tryd.ntmps60
    go_wp2_with (at_builtin; refine wpList_append_all (by rfl) _ _ 25 (by rfl) w.heap.size 64 _ 3 40 40 Tryd.underlying25 infAtm rfl (by omega) RAtm _ [] (by rfl) (own_made w 64 3) (some ⟨b, o, sp⟩) c l (by rfl) (Slc.mono HL.out (Kept.alloc _ _) fun _ _ h => h) atm_one (by simp; omega) (by omega) (by simp) ?_; intro v1 w1 ho1 hg1)
    have hb1 := (own_made (R := RAtm) w 64 3).below (below_alloc (Below.refl _ _) _) (by simp) hg1
    rw [List.nil_append] at ho1
    go_ret
    exact ⟨_, rfl, ho1, hb1⟩
set_option maxRecDepth 100000 in
set_option maxHeartbeats 400000 in
theorem cloneP_any (A : Option Addr) (c : Nat) (l : List Prv) (w : World) (hl : Slc w 2 32 RPrv A c l) (hbig : l.length ≤ 1000000) :
    Calls Tryd.prog 61 #[.slice A l.length c] w (RetOwn w 79 2 RPrv l) := by
  have hbd := hl.bd
  have HL := Lib.hid hl
  have heq : ∀ (A : Option Addr) (n c : Nat) (W : World), (binOp .eql 26 (.slice A n c) (.slice none 0 0)).run Tryd.prog W = .ok (.bool A.isNone) W := fun A n c W => Lib.run_eql_slice_nil W 26 79 A n c 0 0 Tryd.underlying26
  rcases A with _ | ⟨b, o, sp⟩
  · have hn : l = [] := by
      rcases l with _ | ⟨x, l⟩
      · rfl
      · obtain ⟨b, o, h, _⟩ := hl.2.2.2 (by simp)
        cases h
    clear hl
    subst hn
    go_enter Tryd.func61, Tryd.ntmps61
    go_wp2
    all_goals go_ret
    all_goals exact ⟨_, rfl, Own.nil_ _ _ _ _ _, Below.refl _ _⟩
  · clear hl
    go_enter Tryd.func61, Tryd.ntmps61
    go_wp2_with (at_builtin; refine wpList_append_all (by rfl) _ _ 26 (by rfl) w.heap.size 79 _ 2 32 32 Tryd.underlying26 infPrv rfl (by omega) RPrv _ [] (by rfl) (own_made w 79 2) (some ⟨b, o, sp⟩) c l (by rfl) (Slc.mono HL.out (Kept.alloc _ _) fun _ _ h => h) prv_one (by simp; omega) (by omega) (by simp) ?_; intro v1 w1 ho1 hg1)
    have hb1 := (own_made (R := RPrv) w 79 2).below (below_alloc (Below.refl _ _) _) (by simp) hg1
    rw [List.nil_append] at ho1
    go_ret
    exact ⟨_, rfl, ho1, hb1⟩
end Go.Proofs.YtefjoigngnnbjaaDoor
