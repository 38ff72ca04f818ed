/- The law CostLess. -/
import Derived.Test.YthgghkicdclinaaDoorStY
import Derived.Test.YthgghkicdclinaaDoorBe
namespace Go.Proofs.YthgghkicdclinaaDoor
set_option linter.unusedSimpArgs false
set_option linter.unusedVariables false
open Go.RowKit
set_option maxRecDepth 100000 in
set_option maxHeartbeats 4000000 in
theorem law_costLess (x y z : Cst) (w : World) :
    Calls Tryd.prog 10 #[(.agg #[.int .i64 (x).a, .int .i64 (x).b, .int .i64 (x).c, .int .i64 (x).d, .int .i64 (x).e]), (.agg #[.int .i64 (y).a, .int .i64 (y).b, .int .i64 (y).c, .int .i64 (y).d, .int .i64 (y).e]), (.agg #[.int .i64 (z).a, .int .i64 (z).b, .int .i64 (z).c, .int .i64 (z).d, .int .i64 (z).e])] w fun e w' => e = .returned (.bool true) ∧ Below w.heap.size w w' := by
  have HXX := Lib.hid (lessC_self x)
  rcases hxy : lessC x y
  · rcases hyx : lessC y x
    · have HXY := Lib.hid hxy
      have HYX := Lib.hid hyx
      have he := lessC_eq hxy hyx
      have hq : ∀ W, (binOp .eql 43 (.agg #[.int .i64 (x).a, .int .i64 (x).b, .int .i64 (x).c, .int .i64 (x).d, .int .i64 (x).e]) (.agg #[.int .i64 (y).a, .int .i64 (y).b, .int .i64 (y).c, .int .i64 (y).d, .int .i64 (y).e])).run Tryd.prog W = .ok (.bool true) W := fun W => by rw [cst_eql, decide_eq_true he]
      clear hxy hyx he
      go_enter Tryd.func10, Tryd.ntmps10
      go_wp2_with fail
      have K1 := Lib.hid (show Blk (((w.alloc (.cells #[.int .i64 (x).a, .int .i64 (x).b, .int .i64 (x).c, .int .i64 (x).d, .int .i64 (x).e] 43)).alloc (.cells #[.int .i64 (y).a, .int .i64 (y).b, .int .i64 (y).c, .int .i64 (y).d, .int .i64 (y).e] 43)).alloc (.cells #[.int .i64 (z).a, .int .i64 (z).b, .int .i64 (z).c, .int .i64 (z).d, .int .i64 (z).e] 43)) w.heap.size 43 #[.int .i64 (x).a, .int .i64 (x).b, .int .i64 (x).c, .int .i64 (x).d, .int .i64 (x).e] from Blk.alloc (Blk.alloc (blk_new1 _ _ _) _) _)
      have K2 := Lib.hid (show Blk (((w.alloc (.cells #[.int .i64 (x).a, .int .i64 (x).b, .int .i64 (x).c, .int .i64 (x).d, .int .i64 (x).e] 43)).alloc (.cells #[.int .i64 (y).a, .int .i64 (y).b, .int .i64 (y).c, .int .i64 (y).d, .int .i64 (y).e] 43)).alloc (.cells #[.int .i64 (z).a, .int .i64 (z).b, .int .i64 (z).c, .int .i64 (z).d, .int .i64 (z).e] 43)) (w.heap.size + 1) 43 #[.int .i64 (y).a, .int .i64 (y).b, .int .i64 (y).c, .int .i64 (y).d, .int .i64 (y).e] from Blk.alloc (blk_new2 _ _ _ _) _)
      have K3 := Lib.hid (show Blk (((w.alloc (.cells #[.int .i64 (x).a, .int .i64 (x).b, .int .i64 (x).c, .int .i64 (x).d, .int .i64 (x).e] 43)).alloc (.cells #[.int .i64 (y).a, .int .i64 (y).b, .int .i64 (y).c, .int .i64 (y).d, .int .i64 (y).e] 43)).alloc (.cells #[.int .i64 (z).a, .int .i64 (z).b, .int .i64 (z).c, .int .i64 (z).d, .int .i64 (z).e] 43)) (w.heap.size + 2) 43 #[.int .i64 (z).a, .int .i64 (z).b, .int .i64 (z).c, .int .i64 (z).d, .int .i64 (z).e] from blk_new3 _ _ _ _ _)
      have HB := Lib.hid (show Below w.heap.size w (((w.alloc (.cells #[.int .i64 (x).a, .int .i64 (x).b, .int .i64 (x).c, .int .i64 (x).d, .int .i64 (x).e] 43)).alloc (.cells #[.int .i64 (y).a, .int .i64 (y).b, .int .i64 (y).c, .int .i64 (y).d, .int .i64 (y).e] 43)).alloc (.cells #[.int .i64 (z).a, .int .i64 (z).b, .int .i64 (z).c, .int .i64 (z).d, .int .i64 (z).e] 43)) from below_alloc (below_alloc (below_alloc (Below.refl _ _) _) _) _)
      generalize World.alloc _ _ = W at K1 K2 K3 HB ⊢
      have a0 := fun p : Be W => (blk5 (Blk.nextOf p.h K1.out)).1
      have a1 := fun p : Be W => (blk5 (Blk.nextOf p.h K1.out)).2.1
      have a2 := fun p : Be W => (blk5 (Blk.nextOf p.h K1.out)).2.2.1
      have a3 := fun p : Be W => (blk5 (Blk.nextOf p.h K1.out)).2.2.2.1
      have a4 := fun p : Be W => (blk5 (Blk.nextOf p.h K1.out)).2.2.2.2
      have b0 := fun p : Be W => (blk5 (Blk.nextOf p.h K2.out)).1
      have b1 := fun p : Be W => (blk5 (Blk.nextOf p.h K2.out)).2.1
      have b2 := fun p : Be W => (blk5 (Blk.nextOf p.h K2.out)).2.2.1
      have b3 := fun p : Be W => (blk5 (Blk.nextOf p.h K2.out)).2.2.2.1
      have b4 := fun p : Be W => (blk5 (Blk.nextOf p.h K2.out)).2.2.2.2
      refine region_be (by kernel_rfl) (by kernel_rfl) ?_
      repeat (quiet_step (first | (go_at_call 34; with_reducible exact Calls.be_of ((less_any x y _).mono fun _ _ h => ⟨h.1.trans (congrArg (fun b => Ending.returned (Value.bool b)) (HXY).out), h.2⟩)) | (go_at_call 35; with_reducible exact Calls.be_of ((rless_any x y _).mono fun _ _ h => ⟨h.1.trans (congrArg (fun b => Ending.returned (Value.bool b)) (HXY).out), h.2⟩)) | (go_at_call 34; with_reducible exact Calls.be_of ((less_any x x _).mono fun _ _ h => ⟨h.1.trans (congrArg (fun b => Ending.returned (Value.bool b)) (HXX).out), h.2⟩)) | (go_at_call 34; with_reducible exact Calls.be_of ((less_any y x _).mono fun _ _ h => ⟨h.1.trans (congrArg (fun b => Ending.returned (Value.bool b)) (HYX).out), h.2⟩))))
      refine wpQuiet_nil ?_
      intro _ hw'
      obtain ⟨pb, hw''⟩ := hw'
      subst hw''
      clear a0 a1 a2 a3 a4 b0 b1 b2 b3 b4
      obtain ⟨W2, hbw⟩ := pb
      dsimp only
      have K1 := Lib.hid (Blk.nextOf hbw K1.out)
      have K2 := Lib.hid (Blk.nextOf hbw K2.out)
      have K3 := Lib.hid (Blk.nextOf hbw K3.out)
      have HB := Lib.hid (below_next HB.out hbw)
      clear hbw
      obtain ⟨a0, a1, a2, a3, a4⟩ := blk5 K1.out
      obtain ⟨b0, b1, b2, b3, b4⟩ := blk5 K2.out
      obtain ⟨c0, c1, c2, c3, c4⟩ := blk5 K3.out
      go_wp2_with (first | (go_at_call 34; with_reducible refine (less_any x y _).mono ?_; rintro e w1 ⟨rfl, hb⟩; rw [(HXY).out]; have K1 := Lib.hid (Blk.nextOf hb K1.out); have K2 := Lib.hid (Blk.nextOf hb K2.out); have K3 := Lib.hid (Blk.nextOf hb K3.out); have HB := Lib.hid (below_next HB.out hb); obtain ⟨a0, a1, a2, a3, a4⟩ := blk5 K1.out; obtain ⟨b0, b1, b2, b3, b4⟩ := blk5 K2.out; obtain ⟨c0, c1, c2, c3, c4⟩ := blk5 K3.out) | (go_at_call 34; with_reducible refine (less_any y z _).mono ?_; rintro e w1 ⟨rfl, hb⟩; rw [(HYZ).out]; have K1 := Lib.hid (Blk.nextOf hb K1.out); have K2 := Lib.hid (Blk.nextOf hb K2.out); have K3 := Lib.hid (Blk.nextOf hb K3.out); have HB := Lib.hid (below_next HB.out hb); obtain ⟨a0, a1, a2, a3, a4⟩ := blk5 K1.out; obtain ⟨b0, b1, b2, b3, b4⟩ := blk5 K2.out; obtain ⟨c0, c1, c2, c3, c4⟩ := blk5 K3.out) | (go_at_call 34; with_reducible refine (less_any x z _).mono ?_; rintro e w1 ⟨rfl, hb⟩; rw [(HXZ).out]; have K1 := Lib.hid (Blk.nextOf hb K1.out); have K2 := Lib.hid (Blk.nextOf hb K2.out); have K3 := Lib.hid (Blk.nextOf hb K3.out); have HB := Lib.hid (below_next HB.out hb); obtain ⟨a0, a1, a2, a3, a4⟩ := blk5 K1.out; obtain ⟨b0, b1, b2, b3, b4⟩ := blk5 K2.out; obtain ⟨c0, c1, c2, c3, c4⟩ := blk5 K3.out) | (go_at_call 34; with_reducible refine (less_any y x _).mono ?_; rintro e w1 ⟨rfl, hb⟩; rw [(HYX).out]; have K1 := Lib.hid (Blk.nextOf hb K1.out); have K2 := Lib.hid (Blk.nextOf hb K2.out); have K3 := Lib.hid (Blk.nextOf hb K3.out); have HB := Lib.hid (below_next HB.out hb); obtain ⟨a0, a1, a2, a3, a4⟩ := blk5 K1.out; obtain ⟨b0, b1, b2, b3, b4⟩ := blk5 K2.out; obtain ⟨c0, c1, c2, c3, c4⟩ := blk5 K3.out) | (go_at_call 23; refine (cawake_any _).mono ?_; rintro e w1 ⟨rfl, hb⟩; have HB := Lib.hid (below_next HB.out hb)))
      go_ret
      exact ⟨rfl, HB.out⟩
    · have HXY := Lib.hid hxy
      have HYX := Lib.hid hyx
      clear hxy hyx
      go_enter Tryd.func10, Tryd.ntmps10
      go_wp2_with fail
      have K1 := Lib.hid (show Blk (((w.alloc (.cells #[.int .i64 (x).a, .int .i64 (x).b, .int .i64 (x).c, .int .i64 (x).d, .int .i64 (x).e] 43)).alloc (.cells #[.int .i64 (y).a, .int .i64 (y).b, .int .i64 (y).c, .int .i64 (y).d, .int .i64 (y).e] 43)).alloc (.cells #[.int .i64 (z).a, .int .i64 (z).b, .int .i64 (z).c, .int .i64 (z).d, .int .i64 (z).e] 43)) w.heap.size 43 #[.int .i64 (x).a, .int .i64 (x).b, .int .i64 (x).c, .int .i64 (x).d, .int .i64 (x).e] from Blk.alloc (Blk.alloc (blk_new1 _ _ _) _) _)
      have K2 := Lib.hid (show Blk (((w.alloc (.cells #[.int .i64 (x).a, .int .i64 (x).b, .int .i64 (x).c, .int .i64 (x).d, .int .i64 (x).e] 43)).alloc (.cells #[.int .i64 (y).a, .int .i64 (y).b, .int .i64 (y).c, .int .i64 (y).d, .int .i64 (y).e] 43)).alloc (.cells #[.int .i64 (z).a, .int .i64 (z).b, .int .i64 (z).c, .int .i64 (z).d, .int .i64 (z).e] 43)) (w.heap.size + 1) 43 #[.int .i64 (y).a, .int .i64 (y).b, .int .i64 (y).c, .int .i64 (y).d, .int .i64 (y).e] from Blk.alloc (blk_new2 _ _ _ _) _)
      have K3 := Lib.hid (show Blk (((w.alloc (.cells #[.int .i64 (x).a, .int .i64 (x).b, .int .i64 (x).c, .int .i64 (x).d, .int .i64 (x).e] 43)).alloc (.cells #[.int .i64 (y).a, .int .i64 (y).b, .int .i64 (y).c, .int .i64 (y).d, .int .i64 (y).e] 43)).alloc (.cells #[.int .i64 (z).a, .int .i64 (z).b, .int .i64 (z).c, .int .i64 (z).d, .int .i64 (z).e] 43)) (w.heap.size + 2) 43 #[.int .i64 (z).a, .int .i64 (z).b, .int .i64 (z).c, .int .i64 (z).d, .int .i64 (z).e] from blk_new3 _ _ _ _ _)
      have HB := Lib.hid (show Below w.heap.size w (((w.alloc (.cells #[.int .i64 (x).a, .int .i64 (x).b, .int .i64 (x).c, .int .i64 (x).d, .int .i64 (x).e] 43)).alloc (.cells #[.int .i64 (y).a, .int .i64 (y).b, .int .i64 (y).c, .int .i64 (y).d, .int .i64 (y).e] 43)).alloc (.cells #[.int .i64 (z).a, .int .i64 (z).b, .int .i64 (z).c, .int .i64 (z).d, .int .i64 (z).e] 43)) from below_alloc (below_alloc (below_alloc (Below.refl _ _) _) _) _)
      generalize World.alloc _ _ = W at K1 K2 K3 HB ⊢
      have a0 := fun p : Be W => (blk5 (Blk.nextOf p.h K1.out)).1
      have a1 := fun p : Be W => (blk5 (Blk.nextOf p.h K1.out)).2.1
      have a2 := fun p : Be W => (blk5 (Blk.nextOf p.h K1.out)).2.2.1
      have a3 := fun p : Be W => (blk5 (Blk.nextOf p.h K1.out)).2.2.2.1
      have a4 := fun p : Be W => (blk5 (Blk.nextOf p.h K1.out)).2.2.2.2
      have b0 := fun p : Be W => (blk5 (Blk.nextOf p.h K2.out)).1
      have b1 := fun p : Be W => (blk5 (Blk.nextOf p.h K2.out)).2.1
      have b2 := fun p : Be W => (blk5 (Blk.nextOf p.h K2.out)).2.2.1
      have b3 := fun p : Be W => (blk5 (Blk.nextOf p.h K2.out)).2.2.2.1
      have b4 := fun p : Be W => (blk5 (Blk.nextOf p.h K2.out)).2.2.2.2
      refine region_be (by kernel_rfl) (by kernel_rfl) ?_
      repeat (quiet_step (first | (go_at_call 34; with_reducible exact Calls.be_of ((less_any x y _).mono fun _ _ h => ⟨h.1.trans (congrArg (fun b => Ending.returned (Value.bool b)) (HXY).out), h.2⟩)) | (go_at_call 35; with_reducible exact Calls.be_of ((rless_any x y _).mono fun _ _ h => ⟨h.1.trans (congrArg (fun b => Ending.returned (Value.bool b)) (HXY).out), h.2⟩)) | (go_at_call 34; with_reducible exact Calls.be_of ((less_any x x _).mono fun _ _ h => ⟨h.1.trans (congrArg (fun b => Ending.returned (Value.bool b)) (HXX).out), h.2⟩)) | (go_at_call 34; with_reducible exact Calls.be_of ((less_any y x _).mono fun _ _ h => ⟨h.1.trans (congrArg (fun b => Ending.returned (Value.bool b)) (HYX).out), h.2⟩))))
      refine wpQuiet_nil ?_
      intro _ hw'
      obtain ⟨pb, hw''⟩ := hw'
      subst hw''
      clear a0 a1 a2 a3 a4 b0 b1 b2 b3 b4
      obtain ⟨W2, hbw⟩ := pb
      dsimp only
      have K1 := Lib.hid (Blk.nextOf hbw K1.out)
      have K2 := Lib.hid (Blk.nextOf hbw K2.out)
      have K3 := Lib.hid (Blk.nextOf hbw K3.out)
      have HB := Lib.hid (below_next HB.out hbw)
      clear hbw
      obtain ⟨a0, a1, a2, a3, a4⟩ := blk5 K1.out
      obtain ⟨b0, b1, b2, b3, b4⟩ := blk5 K2.out
      obtain ⟨c0, c1, c2, c3, c4⟩ := blk5 K3.out
      go_wp2_with (first | (go_at_call 34; with_reducible refine (less_any x y _).mono ?_; rintro e w1 ⟨rfl, hb⟩; rw [(HXY).out]; have K1 := Lib.hid (Blk.nextOf hb K1.out); have K2 := Lib.hid (Blk.nextOf hb K2.out); have K3 := Lib.hid (Blk.nextOf hb K3.out); have HB := Lib.hid (below_next HB.out hb); obtain ⟨a0, a1, a2, a3, a4⟩ := blk5 K1.out; obtain ⟨b0, b1, b2, b3, b4⟩ := blk5 K2.out; obtain ⟨c0, c1, c2, c3, c4⟩ := blk5 K3.out) | (go_at_call 34; with_reducible refine (less_any y z _).mono ?_; rintro e w1 ⟨rfl, hb⟩; rw [(HYZ).out]; have K1 := Lib.hid (Blk.nextOf hb K1.out); have K2 := Lib.hid (Blk.nextOf hb K2.out); have K3 := Lib.hid (Blk.nextOf hb K3.out); have HB := Lib.hid (below_next HB.out hb); obtain ⟨a0, a1, a2, a3, a4⟩ := blk5 K1.out; obtain ⟨b0, b1, b2, b3, b4⟩ := blk5 K2.out; obtain ⟨c0, c1, c2, c3, c4⟩ := blk5 K3.out) | (go_at_call 34; with_reducible refine (less_any x z _).mono ?_; rintro e w1 ⟨rfl, hb⟩; rw [(HXZ).out]; have K1 := Lib.hid (Blk.nextOf hb K1.out); have K2 := Lib.hid (Blk.nextOf hb K2.out); have K3 := Lib.hid (Blk.nextOf hb K3.out); have HB := Lib.hid (below_next HB.out hb); obtain ⟨a0, a1, a2, a3, a4⟩ := blk5 K1.out; obtain ⟨b0, b1, b2, b3, b4⟩ := blk5 K2.out; obtain ⟨c0, c1, c2, c3, c4⟩ := blk5 K3.out) | (go_at_call 34; with_reducible refine (less_any y x _).mono ?_; rintro e w1 ⟨rfl, hb⟩; rw [(HYX).out]; have K1 := Lib.hid (Blk.nextOf hb K1.out); have K2 := Lib.hid (Blk.nextOf hb K2.out); have K3 := Lib.hid (Blk.nextOf hb K3.out); have HB := Lib.hid (below_next HB.out hb); obtain ⟨a0, a1, a2, a3, a4⟩ := blk5 K1.out; obtain ⟨b0, b1, b2, b3, b4⟩ := blk5 K2.out; obtain ⟨c0, c1, c2, c3, c4⟩ := blk5 K3.out) | (go_at_call 23; refine (cawake_any _).mono ?_; rintro e w1 ⟨rfl, hb⟩; have HB := Lib.hid (below_next HB.out hb)))
      go_ret
      exact ⟨rfl, HB.out⟩
  · have HYX := Lib.hid (lessC_anti hxy)
    have HXY := Lib.hid hxy
    rcases hyz : lessC y z
    · have HYZ := Lib.hid hyz
      clear hxy hyz
      go_enter Tryd.func10, Tryd.ntmps10
      go_wp2_with fail
      have K1 := Lib.hid (show Blk (((w.alloc (.cells #[.int .i64 (x).a, .int .i64 (x).b, .int .i64 (x).c, .int .i64 (x).d, .int .i64 (x).e] 43)).alloc (.cells #[.int .i64 (y).a, .int .i64 (y).b, .int .i64 (y).c, .int .i64 (y).d, .int .i64 (y).e] 43)).alloc (.cells #[.int .i64 (z).a, .int .i64 (z).b, .int .i64 (z).c, .int .i64 (z).d, .int .i64 (z).e] 43)) w.heap.size 43 #[.int .i64 (x).a, .int .i64 (x).b, .int .i64 (x).c, .int .i64 (x).d, .int .i64 (x).e] from Blk.alloc (Blk.alloc (blk_new1 _ _ _) _) _)
      have K2 := Lib.hid (show Blk (((w.alloc (.cells #[.int .i64 (x).a, .int .i64 (x).b, .int .i64 (x).c, .int .i64 (x).d, .int .i64 (x).e] 43)).alloc (.cells #[.int .i64 (y).a, .int .i64 (y).b, .int .i64 (y).c, .int .i64 (y).d, .int .i64 (y).e] 43)).alloc (.cells #[.int .i64 (z).a, .int .i64 (z).b, .int .i64 (z).c, .int .i64 (z).d, .int .i64 (z).e] 43)) (w.heap.size + 1) 43 #[.int .i64 (y).a, .int .i64 (y).b, .int .i64 (y).c, .int .i64 (y).d, .int .i64 (y).e] from Blk.alloc (blk_new2 _ _ _ _) _)
      have K3 := Lib.hid (show Blk (((w.alloc (.cells #[.int .i64 (x).a, .int .i64 (x).b, .int .i64 (x).c, .int .i64 (x).d, .int .i64 (x).e] 43)).alloc (.cells #[.int .i64 (y).a, .int .i64 (y).b, .int .i64 (y).c, .int .i64 (y).d, .int .i64 (y).e] 43)).alloc (.cells #[.int .i64 (z).a, .int .i64 (z).b, .int .i64 (z).c, .int .i64 (z).d, .int .i64 (z).e] 43)) (w.heap.size + 2) 43 #[.int .i64 (z).a, .int .i64 (z).b, .int .i64 (z).c, .int .i64 (z).d, .int .i64 (z).e] from blk_new3 _ _ _ _ _)
      have HB := Lib.hid (show Below w.heap.size w (((w.alloc (.cells #[.int .i64 (x).a, .int .i64 (x).b, .int .i64 (x).c, .int .i64 (x).d, .int .i64 (x).e] 43)).alloc (.cells #[.int .i64 (y).a, .int .i64 (y).b, .int .i64 (y).c, .int .i64 (y).d, .int .i64 (y).e] 43)).alloc (.cells #[.int .i64 (z).a, .int .i64 (z).b, .int .i64 (z).c, .int .i64 (z).d, .int .i64 (z).e] 43)) from below_alloc (below_alloc (below_alloc (Below.refl _ _) _) _) _)
      generalize World.alloc _ _ = W at K1 K2 K3 HB ⊢
      have a0 := fun p : Be W => (blk5 (Blk.nextOf p.h K1.out)).1
      have a1 := fun p : Be W => (blk5 (Blk.nextOf p.h K1.out)).2.1
      have a2 := fun p : Be W => (blk5 (Blk.nextOf p.h K1.out)).2.2.1
      have a3 := fun p : Be W => (blk5 (Blk.nextOf p.h K1.out)).2.2.2.1
      have a4 := fun p : Be W => (blk5 (Blk.nextOf p.h K1.out)).2.2.2.2
      have b0 := fun p : Be W => (blk5 (Blk.nextOf p.h K2.out)).1
      have b1 := fun p : Be W => (blk5 (Blk.nextOf p.h K2.out)).2.1
      have b2 := fun p : Be W => (blk5 (Blk.nextOf p.h K2.out)).2.2.1
      have b3 := fun p : Be W => (blk5 (Blk.nextOf p.h K2.out)).2.2.2.1
      have b4 := fun p : Be W => (blk5 (Blk.nextOf p.h K2.out)).2.2.2.2
      refine region_be (by kernel_rfl) (by kernel_rfl) ?_
      repeat (quiet_step (first | (go_at_call 34; with_reducible exact Calls.be_of ((less_any x y _).mono fun _ _ h => ⟨h.1.trans (congrArg (fun b => Ending.returned (Value.bool b)) (HXY).out), h.2⟩)) | (go_at_call 35; with_reducible exact Calls.be_of ((rless_any x y _).mono fun _ _ h => ⟨h.1.trans (congrArg (fun b => Ending.returned (Value.bool b)) (HXY).out), h.2⟩)) | (go_at_call 34; with_reducible exact Calls.be_of ((less_any x x _).mono fun _ _ h => ⟨h.1.trans (congrArg (fun b => Ending.returned (Value.bool b)) (HXX).out), h.2⟩)) | (go_at_call 34; with_reducible exact Calls.be_of ((less_any y x _).mono fun _ _ h => ⟨h.1.trans (congrArg (fun b => Ending.returned (Value.bool b)) (HYX).out), h.2⟩))))
      refine wpQuiet_nil ?_
      intro _ hw'
      obtain ⟨pb, hw''⟩ := hw'
      subst hw''
      clear a0 a1 a2 a3 a4 b0 b1 b2 b3 b4
      obtain ⟨W2, hbw⟩ := pb
      dsimp only
      have K1 := Lib.hid (Blk.nextOf hbw K1.out)
      have K2 := Lib.hid (Blk.nextOf hbw K2.out)
      have K3 := Lib.hid (Blk.nextOf hbw K3.out)
      have HB := Lib.hid (below_next HB.out hbw)
      clear hbw
      obtain ⟨a0, a1, a2, a3, a4⟩ := blk5 K1.out
      obtain ⟨b0, b1, b2, b3, b4⟩ := blk5 K2.out
      obtain ⟨c0, c1, c2, c3, c4⟩ := blk5 K3.out
      go_wp2_with (first | (go_at_call 34; with_reducible refine (less_any x y _).mono ?_; rintro e w1 ⟨rfl, hb⟩; rw [(HXY).out]; have K1 := Lib.hid (Blk.nextOf hb K1.out); have K2 := Lib.hid (Blk.nextOf hb K2.out); have K3 := Lib.hid (Blk.nextOf hb K3.out); have HB := Lib.hid (below_next HB.out hb); obtain ⟨a0, a1, a2, a3, a4⟩ := blk5 K1.out; obtain ⟨b0, b1, b2, b3, b4⟩ := blk5 K2.out; obtain ⟨c0, c1, c2, c3, c4⟩ := blk5 K3.out) | (go_at_call 34; with_reducible refine (less_any y z _).mono ?_; rintro e w1 ⟨rfl, hb⟩; rw [(HYZ).out]; have K1 := Lib.hid (Blk.nextOf hb K1.out); have K2 := Lib.hid (Blk.nextOf hb K2.out); have K3 := Lib.hid (Blk.nextOf hb K3.out); have HB := Lib.hid (below_next HB.out hb); obtain ⟨a0, a1, a2, a3, a4⟩ := blk5 K1.out; obtain ⟨b0, b1, b2, b3, b4⟩ := blk5 K2.out; obtain ⟨c0, c1, c2, c3, c4⟩ := blk5 K3.out) | (go_at_call 34; with_reducible refine (less_any x z _).mono ?_; rintro e w1 ⟨rfl, hb⟩; rw [(HXZ).out]; have K1 := Lib.hid (Blk.nextOf hb K1.out); have K2 := Lib.hid (Blk.nextOf hb K2.out); have K3 := Lib.hid (Blk.nextOf hb K3.out); have HB := Lib.hid (below_next HB.out hb); obtain ⟨a0, a1, a2, a3, a4⟩ := blk5 K1.out; obtain ⟨b0, b1, b2, b3, b4⟩ := blk5 K2.out; obtain ⟨c0, c1, c2, c3, c4⟩ := blk5 K3.out) | (go_at_call 34; with_reducible refine (less_any y x _).mono ?_; rintro e w1 ⟨rfl, hb⟩; rw [(HYX).out]; have K1 := Lib.hid (Blk.nextOf hb K1.out); have K2 := Lib.hid (Blk.nextOf hb K2.out); have K3 := Lib.hid (Blk.nextOf hb K3.out); have HB := Lib.hid (below_next HB.out hb); obtain ⟨a0, a1, a2, a3, a4⟩ := blk5 K1.out; obtain ⟨b0, b1, b2, b3, b4⟩ := blk5 K2.out; obtain ⟨c0, c1, c2, c3, c4⟩ := blk5 K3.out) | (go_at_call 23; refine (cawake_any _).mono ?_; rintro e w1 ⟨rfl, hb⟩; have HB := Lib.hid (below_next HB.out hb)))
      go_ret
      exact ⟨rfl, HB.out⟩
    · have HXZ := Lib.hid (lessC_trans hxy hyz)
      have HYZ := Lib.hid hyz
      clear hxy hyz
      go_enter Tryd.func10, Tryd.ntmps10
      go_wp2_with fail
      have K1 := Lib.hid (show Blk (((w.alloc (.cells #[.int .i64 (x).a, .int .i64 (x).b, .int .i64 (x).c, .int .i64 (x).d, .int .i64 (x).e] 43)).alloc (.cells #[.int .i64 (y).a, .int .i64 (y).b, .int .i64 (y).c, .int .i64 (y).d, .int .i64 (y).e] 43)).alloc (.cells #[.int .i64 (z).a, .int .i64 (z).b, .int .i64 (z).c, .int .i64 (z).d, .int .i64 (z).e] 43)) w.heap.size 43 #[.int .i64 (x).a, .int .i64 (x).b, .int .i64 (x).c, .int .i64 (x).d, .int .i64 (x).e] from Blk.alloc (Blk.alloc (blk_new1 _ _ _) _) _)
      have K2 := Lib.hid (show Blk (((w.alloc (.cells #[.int .i64 (x).a, .int .i64 (x).b, .int .i64 (x).c, .int .i64 (x).d, .int .i64 (x).e] 43)).alloc (.cells #[.int .i64 (y).a, .int .i64 (y).b, .int .i64 (y).c, .int .i64 (y).d, .int .i64 (y).e] 43)).alloc (.cells #[.int .i64 (z).a, .int .i64 (z).b, .int .i64 (z).c, .int .i64 (z).d, .int .i64 (z).e] 43)) (w.heap.size + 1) 43 #[.int .i64 (y).a, .int .i64 (y).b, .int .i64 (y).c, .int .i64 (y).d, .int .i64 (y).e] from Blk.alloc (blk_new2 _ _ _ _) _)
      have K3 := Lib.hid (show Blk (((w.alloc (.cells #[.int .i64 (x).a, .int .i64 (x).b, .int .i64 (x).c, .int .i64 (x).d, .int .i64 (x).e] 43)).alloc (.cells #[.int .i64 (y).a, .int .i64 (y).b, .int .i64 (y).c, .int .i64 (y).d, .int .i64 (y).e] 43)).alloc (.cells #[.int .i64 (z).a, .int .i64 (z).b, .int .i64 (z).c, .int .i64 (z).d, .int .i64 (z).e] 43)) (w.heap.size + 2) 43 #[.int .i64 (z).a, .int .i64 (z).b, .int .i64 (z).c, .int .i64 (z).d, .int .i64 (z).e] from blk_new3 _ _ _ _ _)
      have HB := Lib.hid (show Below w.heap.size w (((w.alloc (.cells #[.int .i64 (x).a, .int .i64 (x).b, .int .i64 (x).c, .int .i64 (x).d, .int .i64 (x).e] 43)).alloc (.cells #[.int .i64 (y).a, .int .i64 (y).b, .int .i64 (y).c, .int .i64 (y).d, .int .i64 (y).e] 43)).alloc (.cells #[.int .i64 (z).a, .int .i64 (z).b, .int .i64 (z).c, .int .i64 (z).d, .int .i64 (z).e] 43)) from below_alloc (below_alloc (below_alloc (Below.refl _ _) _) _) _)
      generalize World.alloc _ _ = W at K1 K2 K3 HB ⊢
      have a0 := fun p : Be W => (blk5 (Blk.nextOf p.h K1.out)).1
      have a1 := fun p : Be W => (blk5 (Blk.nextOf p.h K1.out)).2.1
      have a2 := fun p : Be W => (blk5 (Blk.nextOf p.h K1.out)).2.2.1
      have a3 := fun p : Be W => (blk5 (Blk.nextOf p.h K1.out)).2.2.2.1
      have a4 := fun p : Be W => (blk5 (Blk.nextOf p.h K1.out)).2.2.2.2
      have b0 := fun p : Be W => (blk5 (Blk.nextOf p.h K2.out)).1
      have b1 := fun p : Be W => (blk5 (Blk.nextOf p.h K2.out)).2.1
      have b2 := fun p : Be W => (blk5 (Blk.nextOf p.h K2.out)).2.2.1
      have b3 := fun p : Be W => (blk5 (Blk.nextOf p.h K2.out)).2.2.2.1
      have b4 := fun p : Be W => (blk5 (Blk.nextOf p.h K2.out)).2.2.2.2
      refine region_be (by kernel_rfl) (by kernel_rfl) ?_
      repeat (quiet_step (first | (go_at_call 34; with_reducible exact Calls.be_of ((less_any x y _).mono fun _ _ h => ⟨h.1.trans (congrArg (fun b => Ending.returned (Value.bool b)) (HXY).out), h.2⟩)) | (go_at_call 35; with_reducible exact Calls.be_of ((rless_any x y _).mono fun _ _ h => ⟨h.1.trans (congrArg (fun b => Ending.returned (Value.bool b)) (HXY).out), h.2⟩)) | (go_at_call 34; with_reducible exact Calls.be_of ((less_any x x _).mono fun _ _ h => ⟨h.1.trans (congrArg (fun b => Ending.returned (Value.bool b)) (HXX).out), h.2⟩)) | (go_at_call 34; with_reducible exact Calls.be_of ((less_any y x _).mono fun _ _ h => ⟨h.1.trans (congrArg (fun b => Ending.returned (Value.bool b)) (HYX).out), h.2⟩))))
      refine wpQuiet_nil ?_
      intro _ hw'
      obtain ⟨pb, hw''⟩ := hw'
      subst hw''
      clear a0 a1 a2 a3 a4 b0 b1 b2 b3 b4
      obtain ⟨W2, hbw⟩ := pb
      dsimp only
      have K1 := Lib.hid (Blk.nextOf hbw K1.out)
      have K2 := Lib.hid (Blk.nextOf hbw K2.out)
      have K3 := Lib.hid (Blk.nextOf hbw K3.out)
      have HB := Lib.hid (below_next HB.out hbw)
      clear hbw
      obtain ⟨a0, a1, a2, a3, a4⟩ := blk5 K1.out
      obtain ⟨b0, b1, b2, b3, b4⟩ := blk5 K2.out
      obtain ⟨c0, c1, c2, c3, c4⟩ := blk5 K3.out
      go_wp2_with (first | (go_at_call 34; with_reducible refine (less_any x y _).mono ?_; rintro e w1 ⟨rfl, hb⟩; rw [(HXY).out]; have K1 := Lib.hid (Blk.nextOf hb K1.out); have K2 := Lib.hid (Blk.nextOf hb K2.out); have K3 := Lib.hid (Blk.nextOf hb K3.out); have HB := Lib.hid (below_next HB.out hb); obtain ⟨a0, a1, a2, a3, a4⟩ := blk5 K1.out; obtain ⟨b0, b1, b2, b3, b4⟩ := blk5 K2.out; obtain ⟨c0, c1, c2, c3, c4⟩ := blk5 K3.out) | (go_at_call 34; with_reducible refine (less_any y z _).mono ?_; rintro e w1 ⟨rfl, hb⟩; rw [(HYZ).out]; have K1 := Lib.hid (Blk.nextOf hb K1.out); have K2 := Lib.hid (Blk.nextOf hb K2.out); have K3 := Lib.hid (Blk.nextOf hb K3.out); have HB := Lib.hid (below_next HB.out hb); obtain ⟨a0, a1, a2, a3, a4⟩ := blk5 K1.out; obtain ⟨b0, b1, b2, b3, b4⟩ := blk5 K2.out; obtain ⟨c0, c1, c2, c3, c4⟩ := blk5 K3.out) | (go_at_call 34; with_reducible refine (less_any x z _).mono ?_; rintro e w1 ⟨rfl, hb⟩; rw [(HXZ).out]; have K1 := Lib.hid (Blk.nextOf hb K1.out); have K2 := Lib.hid (Blk.nextOf hb K2.out); have K3 := Lib.hid (Blk.nextOf hb K3.out); have HB := Lib.hid (below_next HB.out hb); obtain ⟨a0, a1, a2, a3, a4⟩ := blk5 K1.out; obtain ⟨b0, b1, b2, b3, b4⟩ := blk5 K2.out; obtain ⟨c0, c1, c2, c3, c4⟩ := blk5 K3.out) | (go_at_call 34; with_reducible refine (less_any y x _).mono ?_; rintro e w1 ⟨rfl, hb⟩; rw [(HYX).out]; have K1 := Lib.hid (Blk.nextOf hb K1.out); have K2 := Lib.hid (Blk.nextOf hb K2.out); have K3 := Lib.hid (Blk.nextOf hb K3.out); have HB := Lib.hid (below_next HB.out hb); obtain ⟨a0, a1, a2, a3, a4⟩ := blk5 K1.out; obtain ⟨b0, b1, b2, b3, b4⟩ := blk5 K2.out; obtain ⟨c0, c1, c2, c3, c4⟩ := blk5 K3.out) | (go_at_call 23; refine (cawake_any _).mono ?_; rintro e w1 ⟨rfl, hb⟩; have HB := Lib.hid (below_next HB.out hb)))
      go_ret
      exact ⟨rfl, HB.out⟩
end Go.Proofs.YthgghkicdclinaaDoor
