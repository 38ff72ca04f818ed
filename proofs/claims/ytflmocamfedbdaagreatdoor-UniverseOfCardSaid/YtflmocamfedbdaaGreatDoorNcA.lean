/- The comparison of packages by which the index is sorted: its contract. -/
import Derived.Test.YtflmocamfedbdaaGreatDoorSoT
import Derived.Test.YtflmocamfedbdaaGreatDoorSoQ
import Derived.Test.YtflmocamfedbdaaGreatDoorVerI
import Derived.Deep.RegionHeld3
namespace Go.Proofs.YtflmocamfedbdaaGreatDoor
set_option linter.unusedSimpArgs false
set_option linter.unusedVariables false
open Go.RowKit
set_option maxRecDepth 100000 in
theorem or2_any (g : Nat) (x y : Int) (w : World) (h0 : w.cell? ⟨g, 0, none⟩ = some (.int .i64 x)) (h1 : w.cell? ⟨g, 1, none⟩ = some (.int .i64 y)) :
    Calls Tryz.prog 64 #[.slice (some ⟨g, 0, none⟩) 2 2] w fun e w' => e = .returned (.int .i64 (orS x y 0)) ∧ w = w' := by
  go_enter Tryz.func64, Tryz.ntmps64
  go_wp2
  go_loop [8] (fun i => i = .int .i64 0 ∨ (i = .int .i64 1 ∧ x = 0) ∨ (i = .int .i64 2 ∧ x = 0 ∧ y = 0)) (fun i => 2 - (intOf i).toNat)
  case atStart => exact .inl rfl
  case round =>
    rcases hrel with rfl | ⟨rfl, hx⟩ | ⟨rfl, hx, hy⟩
    all_goals go_wp2
    all_goals first
      | (go_round
         case rel => (go_tidy; simp; grind)
         case measure => simp [intOf])
      | (go_ret
         refine ⟨?_, rfl⟩
         go_tidy
         simp [orS]
         try grind)
set_option maxRecDepth 100000 in
set_option maxHeartbeats 400000 in
theorem ncmp_any (p q : Pkg) (r s : Raw) (w : World) :
    Calls Tryz.prog 63 #[(.agg #[.string (bs (p).name), .string (bs (p).ver), .slice (r).a1 (p).pre.length (r).c1, .slice (r).a2 (p).dep.length (r).c2, .slice (r).a3 (p).rcm.length (r).c3, .slice (r).a4 (p).con.length (r).c4, .slice (r).a5 (p).brk.length (r).c5, .slice (r).a6 (p).prv.length (r).c6, .bool (p).ess]), (.agg #[.string (bs (q).name), .string (bs (q).ver), .slice (s).a1 (q).pre.length (s).c1, .slice (s).a2 (q).dep.length (s).c2, .slice (s).a3 (q).rcm.length (s).c3, .slice (s).a4 (q).con.length (s).c4, .slice (s).a5 (q).brk.length (s).c5, .slice (s).a6 (q).prv.length (s).c6, .bool (q).ess])] w fun e w' => e = .returned (.int .i64 (orS (cmpB p.name q.name) (cmpV q.ver p.ver).1 0)) ∧ Below w.heap.size w w' := by
  go_enter Tryz.func63, Tryz.ntmps63
  go_wp2_with fail
  have K1 := Lib.hid (show Blk ((w.alloc (.cells #[.string (bs (p).name), .string (bs (p).ver), .slice (r).a1 (p).pre.length (r).c1, .slice (r).a2 (p).dep.length (r).c2, .slice (r).a3 (p).rcm.length (r).c3, .slice (r).a4 (p).con.length (r).c4, .slice (r).a5 (p).brk.length (r).c5, .slice (r).a6 (p).prv.length (r).c6, .bool (p).ess] 26)).alloc (.cells #[.string (bs (q).name), .string (bs (q).ver), .slice (s).a1 (q).pre.length (s).c1, .slice (s).a2 (q).dep.length (s).c2, .slice (s).a3 (q).rcm.length (s).c3, .slice (s).a4 (q).con.length (s).c4, .slice (s).a5 (q).brk.length (s).c5, .slice (s).a6 (q).prv.length (s).c6, .bool (q).ess] 26)) w.heap.size 26 #[.string (bs (p).name), .string (bs (p).ver), .slice (r).a1 (p).pre.length (r).c1, .slice (r).a2 (p).dep.length (r).c2, .slice (r).a3 (p).rcm.length (r).c3, .slice (r).a4 (p).con.length (r).c4, .slice (r).a5 (p).brk.length (r).c5, .slice (r).a6 (p).prv.length (r).c6, .bool (p).ess] from Blk.alloc (blk_new1 _ _ _) _)
  have K2 := Lib.hid (show Blk ((w.alloc (.cells #[.string (bs (p).name), .string (bs (p).ver), .slice (r).a1 (p).pre.length (r).c1, .slice (r).a2 (p).dep.length (r).c2, .slice (r).a3 (p).rcm.length (r).c3, .slice (r).a4 (p).con.length (r).c4, .slice (r).a5 (p).brk.length (r).c5, .slice (r).a6 (p).prv.length (r).c6, .bool (p).ess] 26)).alloc (.cells #[.string (bs (q).name), .string (bs (q).ver), .slice (s).a1 (q).pre.length (s).c1, .slice (s).a2 (q).dep.length (s).c2, .slice (s).a3 (q).rcm.length (s).c3, .slice (s).a4 (q).con.length (s).c4, .slice (s).a5 (q).brk.length (s).c5, .slice (s).a6 (q).prv.length (s).c6, .bool (q).ess] 26)) (w.heap.size + 1) 26 #[.string (bs (q).name), .string (bs (q).ver), .slice (s).a1 (q).pre.length (s).c1, .slice (s).a2 (q).dep.length (s).c2, .slice (s).a3 (q).rcm.length (s).c3, .slice (s).a4 (q).con.length (s).c4, .slice (s).a5 (q).brk.length (s).c5, .slice (s).a6 (q).prv.length (s).c6, .bool (q).ess] from blk_new2 _ _ _ _)
  have HB := Lib.hid (show Below w.heap.size w ((w.alloc (.cells #[.string (bs (p).name), .string (bs (p).ver), .slice (r).a1 (p).pre.length (r).c1, .slice (r).a2 (p).dep.length (r).c2, .slice (r).a3 (p).rcm.length (r).c3, .slice (r).a4 (p).con.length (r).c4, .slice (r).a5 (p).brk.length (r).c5, .slice (r).a6 (p).prv.length (r).c6, .bool (p).ess] 26)).alloc (.cells #[.string (bs (q).name), .string (bs (q).ver), .slice (s).a1 (q).pre.length (s).c1, .slice (s).a2 (q).dep.length (s).c2, .slice (s).a3 (q).rcm.length (s).c3, .slice (s).a4 (q).con.length (s).c4, .slice (s).a5 (q).brk.length (s).c5, .slice (s).a6 (q).prv.length (s).c6, .bool (q).ess] 26)) from below_alloc (below_alloc (Below.refl _ _) _) _)
  generalize World.alloc _ _ = W at K1 K2 HB ⊢
  obtain ⟨a0, a1, a2, a3, a4, a5, a6, a7, a8⟩ := blk9 K1.out
  obtain ⟨b0, b1, b2, b3, b4, b5, b6, b7, b8⟩ := blk9 K2.out
  clear a2 a3 a4 a5 a6 a7 a8 b2 b3 b4 b5 b6 b7 b8
  go_region_held3 (fun w' => w'.cell? ⟨w.heap.size, 0, none⟩ = some (.string (bs p.name)) ∧ w'.cell? ⟨w.heap.size, 1, none⟩ = some (.string (bs p.ver)) ∧ w'.cell? ⟨w.heap.size + 1, 0, none⟩ = some (.string (bs q.name)) ∧ w'.cell? ⟨w.heap.size + 1, 1, none⟩ = some (.string (bs q.ver)) ∧ Hid (Below W.heap.size W w')) (first | exact (by assumption : _ ∧ _ ∧ _ ∧ _ ∧ Hid (Below W.heap.size W _)) | (have hHeld := (by assumption : _ ∧ _ ∧ _ ∧ _ ∧ Hid (Below W.heap.size W _)); obtain ⟨q0, q1, q2, q3, qB⟩ := hHeld; exact ⟨Kept.of_below hb4 _ _ q0, Kept.of_below hb4 _ _ q1, Kept.of_below hb4 _ _ q2, Kept.of_below hb4 _ _ q3, below_next qB.out hb4⟩) | (have hHeld := (by assumption : _ ∧ _ ∧ _ ∧ _ ∧ Hid (Below W.heap.size W _)); obtain ⟨q0, q1, q2, q3, qB⟩ := hHeld; exact ⟨Kept.alloc _ _ _ _ q0, Kept.alloc _ _ _ _ q1, Kept.alloc _ _ _ _ q2, Kept.alloc _ _ _ _ q3, below_alloc qB.out _⟩) | exact ⟨a0, a1, b0, b1, below_drewN (Below.refl _ _) 1⟩)
    (first | (go_at_call 65; refine (compareStr_any _ _ _).mono ?_; rintro e w3 ⟨rfl, rfl⟩) | (go_at_call 66; refine (Compare_any _ _ _).mono ?_; rintro e w4 ⟨rfl, hb4⟩) | (go_at_call 64; refine (or2_any _ (cmpB p.name q.name) (cmpV q.ver p.ver).1 _ ((Blk.new _ _ _).cell 0) ((Blk.new _ _ _).cell 1)).mono ?_; rintro e w3 ⟨rfl, rfl⟩))
  all_goals go_wp2
  all_goals go_ret
  all_goals exact ⟨rfl, below_next HB.out (by assumption : _ ∧ _ ∧ _ ∧ _ ∧ Hid (Below W.heap.size W _)).2.2.2.2.out⟩
theorem ncmp_ok (Z : Raw → Pkg → Prop) (hz : ∀ r p, Z r p → isV p.ver = true) : CmpOk 63 Z pCmp := fun x y r s W hx hy =>
  (ncmp_any x y r s W).mono fun _ _ h => ⟨by rw [h.1, pCmp, cmpX_of (hz _ _ hy) (hz _ _ hx)], h.2⟩
end Go.Proofs.YtflmocamfedbdaaGreatDoor
