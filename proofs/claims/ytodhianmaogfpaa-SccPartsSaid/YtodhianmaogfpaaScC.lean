/- The finder's meet and close: their contracts. -/
import Derived.Test.YtodhianmaogfpaaScB
namespace Go.Proofs.Ytodhianmaogfpaa
set_option linter.unusedSimpArgs false
set_option linter.unusedVariables false
open Go.RowKit
attribute [local go_sem ↓] Go.wp_at_zero Go.wp_at_succ
variable {w0 : World} {B fb n : Nat} {gv : Value} {b0 b1 b2 b3 : Nat}
set_option maxRecDepth 100000 in
set_option maxHeartbeats 2000000 in
theorem meet_any (w : World) (s : TS) (sv : Value) (v : Nat) (h : Fin w0 w B fb n gv b0 b1 b2 b3 s sv) (hv : v < n) (hs : s.stack.length ≤ 100000) (ht : s.time ≤ 100000) (hn : n ≤ 100000) :
    Calls Try.prog 24 #[.pointer (some ⟨fb, 0, none⟩), .int .i64 v] w fun e w' => e = .returned (.tuple #[]) ∧ ∃ sv', Fin w0 w' B fb n gv b0 b1 b2 b3 (s.meet v) sv' := by
  have H := Lib.hid h
  clear h
  have hv0 : (0 : Int) ≤ (v : Int) := Int.natCast_nonneg _
  have hv1 : (v : Int) < (n : Int) := by omega
  have htn : ((v : Int)).toNat = v := Int.toNat_natCast _
  have hwr : wrap64 ((s.time : Int) + 1) = (s.time : Int) + 1 := wrap64_of (by omega) (by omega)
  obtain ⟨-, -, -, -, -, c5, -, -⟩ := H.out.cells
  have f5 := H.out.box.frozen 5
  have hlt := H.out.box.lt
  go_enter Try.func24, Try.ntmps24
  go_upto_region 1 with (fail)
  have F1 : Fin w0 (World.setCell w ⟨fb, 5, none⟩ (.int .i64 ((s.time : Int) + 1))) B fb n gv b0 b1 b2 b3 { s with time := s.time + 1 } sv := H.out.setTime (s.time + 1)
  generalize World.setCell w _ _ = W1 at F1 ⊢
  clear c5 f5 hlt H
  have H := Lib.hid F1
  clear F1
  have HC := Lib.hid (show (fun w' : World => w'.cell? ⟨fb, 1, none⟩ = some (.slice (some ⟨b0, 0, none⟩) n n) ∧ w'.cell? ⟨fb, 2, none⟩ = some (.slice (some ⟨b1, 0, none⟩) n n) ∧ w'.cell? ⟨fb, 3, none⟩ = some (.slice (some ⟨b2, 0, none⟩) n n) ∧ w'.cell? ⟨fb, 5, none⟩ = some (.int .i64 ((s.time : Int) + 1))) W1.drew from ⟨H.out.cells.2.1, H.out.cells.2.2.1, H.out.cells.2.2.2.1, H.out.cells.2.2.2.2.2.1⟩)
  refine regionC_l (fun w' : World => w'.cell? ⟨fb, 1, none⟩ = some (.slice (some ⟨b0, 0, none⟩) n n) ∧ w'.cell? ⟨fb, 2, none⟩ = some (.slice (some ⟨b1, 0, none⟩) n n) ∧ w'.cell? ⟨fb, 3, none⟩ = some (.slice (some ⟨b2, 0, none⟩) n n) ∧ w'.cell? ⟨fb, 5, none⟩ = some (.int .i64 ((s.time : Int) + 1))) (fun j => true) (n := 29) (listed := #[false, false, false, false, false, false, false, false, false, false, false, false, false, false, false, false, false, false, false, false, false, false, false, false, false, false, false, false, false]) (by kernel_rfl) rfl rfl ?_
  (refine pure_l (i := 0) (v := _) rfl (by decide +kernel) (by decide +kernel) (by decide +kernel) (by decide +kernel) (fun _ _ _ h => h) (by kernel_rfl) (by (intro w; go_simp; first | done | with_reducible rfl)) HC.out ?_; try simp only [Act.put, List.setIfInBounds_toArray, List.set_cons_zero, List.set_cons_succ])
  (refine pure_l (i := 1) (v := _) rfl (by decide +kernel) (by decide +kernel) (by decide +kernel) (by decide +kernel) (fun _ _ _ h => h) (by kernel_rfl) (by (intro w; go_simp; first | done | with_reducible rfl)) HC.out ?_; try simp only [Act.put, List.setIfInBounds_toArray, List.set_cons_zero, List.set_cons_succ])
  (refine pure_l (i := 2) (v := _) rfl (by decide +kernel) (by decide +kernel) (by decide +kernel) (by decide +kernel) (fun _ _ _ h => h) (by kernel_rfl) (by (intro w; go_simp; first | done | with_reducible rfl)) HC.out ?_; try simp only [Act.put, List.setIfInBounds_toArray, List.set_cons_zero, List.set_cons_succ])
  (refine pure_l (i := 4) (v := _) rfl (by decide +kernel) (by decide +kernel) (by decide +kernel) (by decide +kernel) (fun _ _ _ h => h) (by kernel_rfl) (by (intro w; go_simp; first | done | with_reducible rfl)) HC.out ?_; try simp only [Act.put, List.setIfInBounds_toArray, List.set_cons_zero, List.set_cons_succ])
  (refine pure_l (i := 5) (v := _) rfl (by decide +kernel) (by decide +kernel) (by decide +kernel) (by decide +kernel) (fun _ _ _ h => h) (by kernel_rfl) (by (intro w; go_simp; first | done | with_reducible rfl)) HC.out ?_; try simp only [Act.put, List.setIfInBounds_toArray, List.set_cons_zero, List.set_cons_succ])
  (refine pure_l (i := 6) (v := _) rfl (by decide +kernel) (by decide +kernel) (by decide +kernel) (by decide +kernel) (fun _ _ _ h => h) (by kernel_rfl) (by (intro w; go_simp; first | done | with_reducible rfl)) HC.out ?_; try simp only [Act.put, List.setIfInBounds_toArray, List.set_cons_zero, List.set_cons_succ])
  (refine pure_l (i := 7) (v := _) rfl (by decide +kernel) (by decide +kernel) (by decide +kernel) (by decide +kernel) (fun _ _ _ h => h) (by kernel_rfl) (by (intro w; go_simp; first | done | with_reducible rfl)) HC.out ?_; try simp only [Act.put, List.setIfInBounds_toArray, List.set_cons_zero, List.set_cons_succ])
  (refine pure_l (i := 9) (v := _) rfl (by decide +kernel) (by decide +kernel) (by decide +kernel) (by decide +kernel) (fun _ _ _ h => h) (by kernel_rfl) (by (intro w; go_simp; first | done | with_reducible rfl)) HC.out ?_; try simp only [Act.put, List.setIfInBounds_toArray, List.set_cons_zero, List.set_cons_succ])
  (refine pure_l (i := 10) (v := _) rfl (by decide +kernel) (by decide +kernel) (by decide +kernel) (by decide +kernel) (fun _ _ _ h => h) (by kernel_rfl) (by (intro w; go_simp; first | done | with_reducible rfl)) HC.out ?_; try simp only [Act.put, List.setIfInBounds_toArray, List.set_cons_zero, List.set_cons_succ])
  (refine pure_l (i := 11) (v := _) rfl (by decide +kernel) (by decide +kernel) (by decide +kernel) (by decide +kernel) (fun _ _ _ h => h) (by kernel_rfl) (by (intro w; go_simp; first | done | with_reducible rfl)) HC.out ?_; try simp only [Act.put, List.setIfInBounds_toArray, List.set_cons_zero, List.set_cons_succ])
  (refine pure_l (i := 12) (v := _) rfl (by decide +kernel) (by decide +kernel) (by decide +kernel) (by decide +kernel) (fun _ _ _ h => h) (by kernel_rfl) (by (intro w; go_simp; first | done | with_reducible rfl)) HC.out ?_; try simp only [Act.put, List.setIfInBounds_toArray, List.set_cons_zero, List.set_cons_succ])
  (refine pure_l (i := 14) (v := _) rfl (by decide +kernel) (by decide +kernel) (by decide +kernel) (by decide +kernel) (fun _ _ _ h => h) (by kernel_rfl) (by (intro w; go_simp; first | done | with_reducible rfl)) HC.out ?_; try simp only [Act.put, List.setIfInBounds_toArray, List.set_cons_zero, List.set_cons_succ])
  (refine pure_l (i := 15) (v := _) rfl (by decide +kernel) (by decide +kernel) (by decide +kernel) (by decide +kernel) (fun _ _ _ h => h) (by kernel_rfl) (by (intro w; go_simp; first | done | with_reducible rfl)) HC.out ?_; try simp only [Act.put, List.setIfInBounds_toArray, List.set_cons_zero, List.set_cons_succ])
  (refine pure_l (i := 16) (v := _) rfl (by decide +kernel) (by decide +kernel) (by decide +kernel) (by decide +kernel) (fun _ _ _ h => h) (by kernel_rfl) (by (intro w; go_simp; first | done | with_reducible rfl)) HC.out ?_; try simp only [Act.put, List.setIfInBounds_toArray, List.set_cons_zero, List.set_cons_succ])
  (refine pure_l (i := 17) (v := _) rfl (by decide +kernel) (by decide +kernel) (by decide +kernel) (by decide +kernel) (fun _ _ _ h => h) (by kernel_rfl) (by (intro w; go_simp; first | done | with_reducible rfl)) HC.out ?_; try simp only [Act.put, List.setIfInBounds_toArray, List.set_cons_zero, List.set_cons_succ])
  (refine pure_l (i := 19) (v := _) rfl (by decide +kernel) (by decide +kernel) (by decide +kernel) (by decide +kernel) (fun _ _ _ h => h) (by kernel_rfl) (by (intro w; go_simp; first | done | with_reducible rfl)) HC.out ?_; try simp only [Act.put, List.setIfInBounds_toArray, List.set_cons_zero, List.set_cons_succ])
  (refine pure_l (i := 20) (v := _) rfl (by decide +kernel) (by decide +kernel) (by decide +kernel) (by decide +kernel) (fun _ _ _ h => h) (by kernel_rfl) (by (intro w; go_simp; first | done | with_reducible rfl)) HC.out ?_; try simp only [Act.put, List.setIfInBounds_toArray, List.set_cons_zero, List.set_cons_succ])
  (refine pure_l (i := 21) (v := _) rfl (by decide +kernel) (by decide +kernel) (by decide +kernel) (by decide +kernel) (fun _ _ _ h => h) (by kernel_rfl) (by (intro w; go_simp; first | done | with_reducible rfl)) HC.out ?_; try simp only [Act.put, List.setIfInBounds_toArray, List.set_cons_zero, List.set_cons_succ])
  (refine load_l (i := 3) (v := _) rfl (by decide +kernel) (by decide +kernel) (by decide +kernel) (by decide +kernel) (fun _ _ _ h => h) ⟨by kernel_rfl, by (rintro w ⟨c1, c2, c3, c5⟩; go_simp; first | done | with_reducible rfl)⟩ HC.out ?_; try simp only [Act.put, List.setIfInBounds_toArray, List.set_cons_zero, List.set_cons_succ])
  (refine load_l (i := 8) (v := _) rfl (by decide +kernel) (by decide +kernel) (by decide +kernel) (by decide +kernel) (fun _ _ _ h => h) ⟨by kernel_rfl, by (rintro w ⟨c1, c2, c3, c5⟩; go_simp; first | done | with_reducible rfl)⟩ HC.out ?_; try simp only [Act.put, List.setIfInBounds_toArray, List.set_cons_zero, List.set_cons_succ])
  (refine load_l (i := 13) (v := _) rfl (by decide +kernel) (by decide +kernel) (by decide +kernel) (by decide +kernel) (fun _ _ _ h => h) ⟨by kernel_rfl, by (rintro w ⟨c1, c2, c3, c5⟩; go_simp; first | done | with_reducible rfl)⟩ HC.out ?_; try simp only [Act.put, List.setIfInBounds_toArray, List.set_cons_zero, List.set_cons_succ])
  (refine load_l (i := 18) (v := _) rfl (by decide +kernel) (by decide +kernel) (by decide +kernel) (by decide +kernel) (fun _ _ _ h => h) ⟨by kernel_rfl, by (rintro w ⟨c1, c2, c3, c5⟩; go_simp; first | done | with_reducible rfl)⟩ HC.out ?_; try simp only [Act.put, List.setIfInBounds_toArray, List.set_cons_zero, List.set_cons_succ])
  (refine load_l (i := 22) (v := _) rfl (by decide +kernel) (by decide +kernel) (by decide +kernel) (by decide +kernel) (fun _ _ _ h => h) ⟨by kernel_rfl, by (rintro w ⟨c1, c2, c3, c5⟩; go_simp; first | done | with_reducible rfl)⟩ HC.out ?_; try simp only [Act.put, List.setIfInBounds_toArray, List.set_cons_zero, List.set_cons_succ])
  (refine pure_l (i := 23) (v := _) rfl (by decide +kernel) (by decide +kernel) (by decide +kernel) (by decide +kernel) (fun _ _ _ h => h) (by kernel_rfl) (by (intro w; go_simp; first | done | with_reducible rfl)) HC.out ?_; try simp only [Act.put, List.setIfInBounds_toArray, List.set_cons_zero, List.set_cons_succ])
  have H := Lib.hid H.out.drew
  generalize W1.drew = W2 at H HC ⊢
  have hcl := H.out.seenAt hv
  have hfr := Row.frz (H.out.row (k := 0) (by omega)) v
  have hlt := Row.lt (H.out.row (k := 0) (by omega))
  (refine one_l (i := 24) (by decide +kernel) rfl (fun K hK => ?_))
  go_simp
  have F1 : Fin w0 (World.setCell W2 ⟨b0, v, none⟩ (.int .i64 ((s.time : Int) + 1))) B fb n gv b0 b1 b2 b3 _ sv := H.out.setSeen hv (s.time + 1)
  refine hK _ _ (fun _ => ⟨F1.cells.2.1, F1.cells.2.2.1, F1.cells.2.2.2.1, F1.cells.2.2.2.2.2.1⟩) ?_
  clear hK K
  (try simp only [Act.put, List.setIfInBounds_toArray, List.set_cons_zero, List.set_cons_succ])
  generalize World.setCell W2 _ _ = W3 at F1 ⊢
  clear hcl hfr hlt H HC
  have H := Lib.hid F1
  clear F1
  have HC := Lib.hid (show (fun w' : World => w'.cell? ⟨fb, 1, none⟩ = some (.slice (some ⟨b0, 0, none⟩) n n) ∧ w'.cell? ⟨fb, 2, none⟩ = some (.slice (some ⟨b1, 0, none⟩) n n) ∧ w'.cell? ⟨fb, 3, none⟩ = some (.slice (some ⟨b2, 0, none⟩) n n) ∧ w'.cell? ⟨fb, 5, none⟩ = some (.int .i64 ((s.time : Int) + 1))) _ from ⟨H.out.cells.2.1, H.out.cells.2.2.1, H.out.cells.2.2.2.1, H.out.cells.2.2.2.2.2.1⟩)
  (refine pure_l (i := 25) (v := _) rfl (by decide +kernel) (by decide +kernel) (by decide +kernel) (by decide +kernel) (fun _ _ _ h => h) (by kernel_rfl) (by (intro w; go_simp; first | done | with_reducible rfl)) HC.out ?_; try simp only [Act.put, List.setIfInBounds_toArray, List.set_cons_zero, List.set_cons_succ])
  have hcl := H.out.lowAt hv
  have hfr := Row.frz (H.out.row (k := 1) (by omega)) v
  have hlt := Row.lt (H.out.row (k := 1) (by omega))
  (refine one_l (i := 26) (by decide +kernel) rfl (fun K hK => ?_))
  go_simp
  have F1 : Fin w0 (World.setCell W3 ⟨b1, v, none⟩ (.int .i64 ((s.time : Int) + 1))) B fb n gv b0 b1 b2 b3 _ sv := H.out.setLow hv (s.time + 1)
  refine hK _ _ (fun _ => ⟨F1.cells.2.1, F1.cells.2.2.1, F1.cells.2.2.2.1, F1.cells.2.2.2.2.2.1⟩) ?_
  clear hK K
  (try simp only [Act.put, List.setIfInBounds_toArray, List.set_cons_zero, List.set_cons_succ])
  generalize World.setCell W3 _ _ = W4 at F1 ⊢
  clear hcl hfr hlt H HC
  have H := Lib.hid F1
  clear F1
  have HC := Lib.hid (show (fun w' : World => w'.cell? ⟨fb, 1, none⟩ = some (.slice (some ⟨b0, 0, none⟩) n n) ∧ w'.cell? ⟨fb, 2, none⟩ = some (.slice (some ⟨b1, 0, none⟩) n n) ∧ w'.cell? ⟨fb, 3, none⟩ = some (.slice (some ⟨b2, 0, none⟩) n n) ∧ w'.cell? ⟨fb, 5, none⟩ = some (.int .i64 ((s.time : Int) + 1))) _ from ⟨H.out.cells.2.1, H.out.cells.2.2.1, H.out.cells.2.2.2.1, H.out.cells.2.2.2.2.2.1⟩)
  (refine pure_l (i := 27) (v := _) rfl (by decide +kernel) (by decide +kernel) (by decide +kernel) (by decide +kernel) (fun _ _ _ h => h) (by kernel_rfl) (by (intro w; go_simp; first | done | with_reducible rfl)) HC.out ?_; try simp only [Act.put, List.setIfInBounds_toArray, List.set_cons_zero, List.set_cons_succ])
  have hcl := H.out.onAt hv
  have hfr := Row.frz (H.out.row (k := 2) (by omega)) v
  have hlt := Row.lt (H.out.row (k := 2) (by omega))
  (refine one_l (i := 28) (by decide +kernel) rfl (fun K hK => ?_))
  go_simp
  have F1 : Fin w0 (World.setCell W4 ⟨b2, v, none⟩ (.int .i64 (1))) B fb n gv b0 b1 b2 b3 _ sv := H.out.setOn hv 1
  refine hK _ _ (fun _ => ⟨F1.cells.2.1, F1.cells.2.2.1, F1.cells.2.2.2.1, F1.cells.2.2.2.2.2.1⟩) ?_
  clear hK K
  (try simp only [Act.put, List.setIfInBounds_toArray, List.set_cons_zero, List.set_cons_succ])
  generalize World.setCell W4 _ _ = W5 at F1 ⊢
  clear hcl hfr hlt H HC
  have H := Lib.hid F1
  clear F1
  refine done_l (by decide +kernel) ?_ _
  have c4 := H.out.cells.2.2.2.2.1
  go_wp2_with (at_builtin; refine list_row (by rfl) _ _ 26 (by rfl) Try.underlying26 B sv s.stack (by rfl) ((H.out.fam.own 4 (by omega)).alloc _) v W5.heap.size 1 (by rfl) (blk_new1 _ _ _) (by omega) (by have := H.out.size; simp; omega) ?_; intro g2 cap w2 ho hg hat; have HX := Lib.hid (((H.out.fam.own 4 (by omega)).alloc (.cells #[.int .i64 v] 3)).blk (H.out.box.alloc _) (by decide) hg); have HB := Lib.hid (((H.out.fam.own 4 (by omega)).alloc (.cells #[.int .i64 v] 3)).below (H.out.below.alloc H.out.size _) (by have := H.out.size; simp; omega) hg); have HK := Lib.hid ((H.out.keep.trans (KeepB.alloc _)).trans (Own.keep (T := TF) ((H.out.fam.own 4 (by omega)).alloc (.cells #[.int .i64 v] 3)) hg (by unfold TF; decide))); have HF := Lib.hid (fam_stack ((H.out.fam.alloc (.cells #[.int .i64 v] 3)).app (k := 4) (by omega) ho hg hat)); have HZ := Lib.hid (Nat.le_trans (show B ≤ (W5.alloc (.cells #[.int .i64 v] 3)).heap.size by have := H.out.size; simp; omega) hg.size); have c4b := HX.out.cell 4; have f4b := HX.out.frozen 4; have l4b := HX.out.lt; clear ho hg hat)
  go_end0
  exact ⟨rfl, _, (H.out.setStack HF.out HX.out HB.out HK.out HZ.out).todo rfl rfl rfl rfl rfl rfl rfl⟩
/-- the state while a component is shut -/
def popS (s : TS) (s1 : List Nat) (v : Nat) (r d : List Nat) : TS :=
  { s with stack := s1 ++ v :: r, on := fun x => if x ∈ d then 0 else s.on x, of := fun x => if x ∈ d then s.cnt else s.of x }
theorem upd_mem {f : Nat → Nat} {d : List Nat} {x c : Nat} : upd (fun y => if y ∈ d then c else f y) x c = fun y => if y ∈ x :: d then c else f y := by
  funext y
  unfold upd
  by_cases e : y = x
  · subst e; simp
  · simp [e]
set_option maxRecDepth 100000 in
set_option maxHeartbeats 2000000 in
theorem close_any (w : World) (s : TS) (sv : Value) (v : Nat) (s1 s2 : List Nat) (h : Fin w0 w B fb n gv b0 b1 b2 b3 s sv) (hs : s.stack = s1 ++ v :: s2) (hlt : ∀ x ∈ s.stack, x < n) (hv : v ∉ s2) (hl : s.stack.length ≤ 100000) (hc : s.cnt ≤ 100000) (hn : n ≤ 100000) :
    Calls Try.prog 25 #[.pointer (some ⟨fb, 0, none⟩), .int .i64 v] w fun e w' => e = .returned (.tuple #[]) ∧ ∃ sv', Fin w0 w' B fb n gv b0 b1 b2 b3 (s.shut s1 s2 v s.todo) sv' := by
  have hcnt : wrap64 ((s.cnt : Int) + 1) = (s.cnt : Int) + 1 := wrap64_of (by omega) (by omega)
  have HLT := Lib.hid hlt
  have HV := Lib.hid hv
  have HS := Lib.hid hs
  have H0 := Lib.hid (show Fin w0 w B fb n gv b0 b1 b2 b3 (popS s s1 v s2 []) sv from h.todo rfl rfl (by simp [popS]) (by simp [popS]) hs.symm rfl rfl)
  clear h hlt hv hs
  go_enter Try.func25, Try.ntmps25
  go_wp2
  go_loopg [4] s2.length (fun k _ wr => ∃ (r d : List Nat) (sv' : Value), k = r.length ∧ s2 = r ++ d ∧ Fin w0 wr B fb n gv b0 b1 b2 b3 (popS s s1 v r d) sv')
  case atStart => exact ⟨s2, [], sv, rfl, by simp, H0.out⟩
  case round =>
    clear H0
    obtain ⟨r, d, sv', hk, hrd, hF⟩ := hrel
    have HK := Lib.hid hk
    have HRD := Lib.hid hrd
    clear hk hrd
    obtain ⟨b, x, hbx⟩ : ∃ b x, s1 ++ v :: r = b ++ [x] := ⟨_, _, (List.dropLast_concat_getLast (by simp : s1 ++ v :: r ≠ [])).symm⟩
    have HBX := Lib.hid hbx
    have hxm : x ∈ s.stack := by
      rw [HS.out, HRD.out]
      have : x ∈ s1 ++ v :: r := by rw [hbx]; simp
      simp at this ⊢; grind
    have hxn : x < n := HLT.out x hxm
    have hlen : b.length + 1 = s1.length + (r.length + 1) := by
      have := congrArg List.length hbx; simp at this; omega
    have hbl : b.length ≤ 100000 := by
      have h1 := congrArg List.length HS.out
      have h2 := congrArg List.length HRD.out
      simp at h1 h2; omega
    obtain ⟨g, cap, rfl, _⟩ := Own.form (hF.row (k := 4) (by omega)) (show 0 < (s1 ++ v :: r).length by simp; omega)
    have hlf : (tsL n (popS s s1 v r d) 4).length = b.length + 1 := by simp [tsL, popS]; omega
    have hst : (popS s s1 v r d).stack = b ++ [x] := hbx
    rw [hlf] at hF
    have hro : Row wr B (.slice (some ⟨g, 0, none⟩) (b.length + 1) cap) (b ++ [x]) := by have := hF.row (k := 4) (by omega); rw [show tsL n (popS s s1 v r d) 4 = b ++ [x] from hst] at this; exact this
    have hcl := Row.cell hro (i := b.length) (x := x) (by simp)
    have hcap : b.length + 1 ≤ cap := by have := (Row.capB hro).1; simpa using this
    have hcapi : (b.length : Int) ≤ (cap : Int) := by omega
    have hb0 : (0 : Int) ≤ (b.length : Int) := Int.natCast_nonneg _
    have hb1 : (b.length : Int) < (b.length : Int) + 1 := by omega
    have hbt : ((b.length : Int)).toNat = b.length := Int.toNat_natCast _
    have hx0 : (0 : Int) ≤ (x : Int) := Int.natCast_nonneg _
    have hx1 : (x : Int) < (n : Int) := by omega
    have hxt : ((x : Int)).toNat = x := Int.toNat_natCast _
    have c4 := hF.cells.2.2.2.2.1
    have f4 := hF.box.frozen 4
    have l4 := hF.box.lt
    have HF := Lib.hid hF
    have HRO := Lib.hid hro
    have HST := Lib.hid hst
    clear hF hbx hxm hlf hro hst hlen
    go_upto_region 3 with (fail)
    have F1 := HF.out.popStack HST.out
    generalize World.setCell wr _ _ = W1 at F1 ⊢
    clear c4 f4 l4 HF HRO hcl
    have H := Lib.hid F1.drew
    clear F1
    have HC := Lib.hid (show (fun w' : World => w'.cell? ⟨fb, 3, none⟩ = some (.slice (some ⟨b2, 0, none⟩) n n) ∧ w'.cell? ⟨fb, 6, none⟩ = some (.slice (some ⟨b3, 0, none⟩) n n) ∧ w'.cell? ⟨fb, 7, none⟩ = some (.int .i64 (s.cnt : Nat))) W1.drew from ⟨H.out.cells.2.2.2.1, H.out.cells.2.2.2.2.2.2.1, H.out.cells.2.2.2.2.2.2.2⟩)
    refine regionC_l (fun w' : World => w'.cell? ⟨fb, 3, none⟩ = some (.slice (some ⟨b2, 0, none⟩) n n) ∧ w'.cell? ⟨fb, 6, none⟩ = some (.slice (some ⟨b3, 0, none⟩) n n) ∧ w'.cell? ⟨fb, 7, none⟩ = some (.int .i64 (s.cnt : Nat))) (fun j => true) (n := 18) (listed := #[false, false, false, false, false, false, false, false, false, false, false, false, false, false, false, false, false, false]) (by kernel_rfl) rfl rfl ?_
    generalize W1.drew = W2 at H HC ⊢
    (refine pure_l (i := 0) (v := _) rfl (by decide +kernel) (by decide +kernel) (by decide +kernel) (by decide +kernel) (fun _ _ _ h => h) (by kernel_rfl) (by (intro w; go_simp; first | done | with_reducible rfl)) HC.out ?_; try simp only [Act.put, List.setIfInBounds_toArray, List.set_cons_zero, List.set_cons_succ])
    (refine pure_l (i := 1) (v := _) rfl (by decide +kernel) (by decide +kernel) (by decide +kernel) (by decide +kernel) (fun _ _ _ h => h) (by kernel_rfl) (by (intro w; go_simp; first | done | with_reducible rfl)) HC.out ?_; try simp only [Act.put, List.setIfInBounds_toArray, List.set_cons_zero, List.set_cons_succ])
    (refine pure_l (i := 2) (v := _) rfl (by decide +kernel) (by decide +kernel) (by decide +kernel) (by decide +kernel) (fun _ _ _ h => h) (by kernel_rfl) (by (intro w; go_simp; first | done | with_reducible rfl)) HC.out ?_; try simp only [Act.put, List.setIfInBounds_toArray, List.set_cons_zero, List.set_cons_succ])
    (refine pure_l (i := 4) (v := _) rfl (by decide +kernel) (by decide +kernel) (by decide +kernel) (by decide +kernel) (fun _ _ _ h => h) (by kernel_rfl) (by (intro w; go_simp; first | done | with_reducible rfl)) HC.out ?_; try simp only [Act.put, List.setIfInBounds_toArray, List.set_cons_zero, List.set_cons_succ])
    (refine pure_l (i := 5) (v := _) rfl (by decide +kernel) (by decide +kernel) (by decide +kernel) (by decide +kernel) (fun _ _ _ h => h) (by kernel_rfl) (by (intro w; go_simp; first | done | with_reducible rfl)) HC.out ?_; try simp only [Act.put, List.setIfInBounds_toArray, List.set_cons_zero, List.set_cons_succ])
    (refine pure_l (i := 6) (v := _) rfl (by decide +kernel) (by decide +kernel) (by decide +kernel) (by decide +kernel) (fun _ _ _ h => h) (by kernel_rfl) (by (intro w; go_simp; first | done | with_reducible rfl)) HC.out ?_; try simp only [Act.put, List.setIfInBounds_toArray, List.set_cons_zero, List.set_cons_succ])
    (refine pure_l (i := 7) (v := _) rfl (by decide +kernel) (by decide +kernel) (by decide +kernel) (by decide +kernel) (fun _ _ _ h => h) (by kernel_rfl) (by (intro w; go_simp; first | done | with_reducible rfl)) HC.out ?_; try simp only [Act.put, List.setIfInBounds_toArray, List.set_cons_zero, List.set_cons_succ])
    (refine pure_l (i := 9) (v := _) rfl (by decide +kernel) (by decide +kernel) (by decide +kernel) (by decide +kernel) (fun _ _ _ h => h) (by kernel_rfl) (by (intro w; go_simp; first | done | with_reducible rfl)) HC.out ?_; try simp only [Act.put, List.setIfInBounds_toArray, List.set_cons_zero, List.set_cons_succ])
    (refine pure_l (i := 10) (v := _) rfl (by decide +kernel) (by decide +kernel) (by decide +kernel) (by decide +kernel) (fun _ _ _ h => h) (by kernel_rfl) (by (intro w; go_simp; first | done | with_reducible rfl)) HC.out ?_; try simp only [Act.put, List.setIfInBounds_toArray, List.set_cons_zero, List.set_cons_succ])
    (refine pure_l (i := 11) (v := _) rfl (by decide +kernel) (by decide +kernel) (by decide +kernel) (by decide +kernel) (fun _ _ _ h => h) (by kernel_rfl) (by (intro w; go_simp; first | done | with_reducible rfl)) HC.out ?_; try simp only [Act.put, List.setIfInBounds_toArray, List.set_cons_zero, List.set_cons_succ])
    (refine pure_l (i := 12) (v := _) rfl (by decide +kernel) (by decide +kernel) (by decide +kernel) (by decide +kernel) (fun _ _ _ h => h) (by kernel_rfl) (by (intro w; go_simp; first | done | with_reducible rfl)) HC.out ?_; try simp only [Act.put, List.setIfInBounds_toArray, List.set_cons_zero, List.set_cons_succ])
    (refine load_l (i := 3) (v := _) rfl (by decide +kernel) (by decide +kernel) (by decide +kernel) (by decide +kernel) (fun _ _ _ h => h) ⟨by kernel_rfl, by (rintro w ⟨c3, c6, c7⟩; go_simp; first | done | with_reducible rfl)⟩ HC.out ?_; try simp only [Act.put, List.setIfInBounds_toArray, List.set_cons_zero, List.set_cons_succ])
    (refine load_l (i := 8) (v := _) rfl (by decide +kernel) (by decide +kernel) (by decide +kernel) (by decide +kernel) (fun _ _ _ h => h) ⟨by kernel_rfl, by (rintro w ⟨c3, c6, c7⟩; go_simp; first | done | with_reducible rfl)⟩ HC.out ?_; try simp only [Act.put, List.setIfInBounds_toArray, List.set_cons_zero, List.set_cons_succ])
    (refine load_l (i := 13) (v := _) rfl (by decide +kernel) (by decide +kernel) (by decide +kernel) (by decide +kernel) (fun _ _ _ h => h) ⟨by kernel_rfl, by (rintro w ⟨c3, c6, c7⟩; go_simp; first | done | with_reducible rfl)⟩ HC.out ?_; try simp only [Act.put, List.setIfInBounds_toArray, List.set_cons_zero, List.set_cons_succ])
    (refine pure_l (i := 14) (v := _) rfl (by decide +kernel) (by decide +kernel) (by decide +kernel) (by decide +kernel) (fun _ _ _ h => h) (by kernel_rfl) (by (intro w; go_simp; first | done | with_reducible rfl)) HC.out ?_; try simp only [Act.put, List.setIfInBounds_toArray, List.set_cons_zero, List.set_cons_succ])
    have hcl := H.out.onAt hxn
    have hfr := Row.frz (H.out.row (k := 2) (by omega)) x
    have hlt := Row.lt (H.out.row (k := 2) (by omega))
    (refine one_l (i := 15) (by decide +kernel) rfl (fun K hK => ?_))
    go_simp
    have F1 : Fin w0 (World.setCell W2 ⟨b2, x, none⟩ (.int .i64 (0 : Nat))) B fb n gv b0 b1 b2 b3 _ _ := H.out.setOn hxn 0
    refine hK _ _ (fun _ => ⟨F1.cells.2.2.2.1, F1.cells.2.2.2.2.2.2.1, F1.cells.2.2.2.2.2.2.2⟩) ?_
    clear hK K
    (try simp only [Act.put, List.setIfInBounds_toArray, List.set_cons_zero, List.set_cons_succ])
    generalize World.setCell W2 _ _ = W3 at F1 ⊢
    clear hcl hfr hlt H HC
    have H := Lib.hid F1
    clear F1
    have HC := Lib.hid (show (fun w' : World => w'.cell? ⟨fb, 3, none⟩ = some (.slice (some ⟨b2, 0, none⟩) n n) ∧ w'.cell? ⟨fb, 6, none⟩ = some (.slice (some ⟨b3, 0, none⟩) n n) ∧ w'.cell? ⟨fb, 7, none⟩ = some (.int .i64 (s.cnt : Nat))) _ from ⟨H.out.cells.2.2.2.1, H.out.cells.2.2.2.2.2.2.1, H.out.cells.2.2.2.2.2.2.2⟩)
    (refine pure_l (i := 16) (v := _) rfl (by decide +kernel) (by decide +kernel) (by decide +kernel) (by decide +kernel) (fun _ _ _ h => h) (by kernel_rfl) (by (intro w; go_simp; first | done | with_reducible rfl)) HC.out ?_; try simp only [Act.put, List.setIfInBounds_toArray, List.set_cons_zero, List.set_cons_succ])
    have hcl := H.out.ofAt hxn
    have hfr := Row.frz (H.out.row (k := 3) (by omega)) x
    have hlt := Row.lt (H.out.row (k := 3) (by omega))
    (refine one_l (i := 17) (by decide +kernel) rfl (fun K hK => ?_))
    go_simp
    have F1 : Fin w0 (World.setCell W3 ⟨b3, x, none⟩ (.int .i64 (s.cnt : Nat))) B fb n gv b0 b1 b2 b3 _ _ := H.out.setOf hxn s.cnt
    refine hK _ _ (fun _ => ⟨F1.cells.2.2.2.1, F1.cells.2.2.2.2.2.2.1, F1.cells.2.2.2.2.2.2.2⟩) ?_
    clear hK K
    (try simp only [Act.put, List.setIfInBounds_toArray, List.set_cons_zero, List.set_cons_succ])
    generalize World.setCell W3 _ _ = W4 at F1 ⊢
    clear hcl hfr hlt H HC
    have H := Lib.hid F1
    clear F1
    refine done_l (by decide +kernel) ?_ _
    have hmr : x ≠ v → ∃ r', r = r' ++ [x] ∧ b = s1 ++ v :: r' := by
      intro hne
      rcases List.eq_nil_or_concat r with rfl | ⟨r', y, rfl⟩
      · have := (List.append_inj' HBX.out rfl).2
        injection this with this
        exact absurd this.symm hne
      · have h1 : (s1 ++ v :: r') ++ [y] = b ++ [x] := by rw [← HBX.out]; simp
        have h2 := List.append_inj' h1 rfl
        injection h2.2 with h3
        subst h3
        exact ⟨r', by simp, h2.1.symm⟩
    by_cases hxv : x = v
    · subst hxv
      have hrn : r = [] := by
        rcases List.eq_nil_or_concat r with h | ⟨r', y, rfl⟩
        · exact h
        · have h1 : (s1 ++ x :: r') ++ [y] = b ++ [x] := by rw [← HBX.out]; simp
          have h2 := (List.append_inj' h1 rfl).2
          injection h2 with h3
          subst h3
          exact absurd (by rw [HRD.out]; simp) HV.out
      subst hrn
      have hd2 : s2 = d := HRD.out
      have hbs : b = s1 := ((List.append_inj' HBX.out rfl).1).symm
      subst hd2 hbs
      have hbq : ((x : Int) == (x : Int)) = true := beq_self_eq_true _
      have c7 : W4.cell? ⟨fb, 7, none⟩ = some (.int .i64 (s.cnt : Nat)) := H.out.cells.2.2.2.2.2.2.2
      have f7 := H.out.box.frozen 7
      have l7 := H.out.box.lt
      go_wp2
      (try simp only [Exit.inBlock, Exit.then])
      refine bodyPost_ret (results_none rfl _ _ _) rfl ?_
      refine ⟨rfl, _, ((H.out.setCnt (s.cnt + 1)).todo rfl rfl ?_ ?_ rfl rfl rfl)⟩
      · exact upd_mem.symm
      · exact upd_mem.symm
    · obtain ⟨r', hr', hb'⟩ := hmr hxv
      have hbq : ((x : Int) == (v : Int)) = false := by rw [beq_eq_false_iff_ne]; omega
      subst hr' hb'
      clear hmr hb0 hb1 hbt hcap hcapi
      go_wp2_with fail
      go_roundg r'.length
      case measure => have := HK.out; simp at this; omega
      case rel => exact ⟨r', x :: d, _, rfl, by rw [HRD.out]; simp, H.out.todo rfl rfl upd_mem.symm upd_mem.symm rfl rfl rfl⟩
end Go.Proofs.Ytodhianmaogfpaa
