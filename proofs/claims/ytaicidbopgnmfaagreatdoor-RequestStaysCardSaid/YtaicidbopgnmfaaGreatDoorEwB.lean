/- index.own: a package in memory of its own: its contract. -/
import Derived.Test.YtaicidbopgnmfaaGreatDoorMx
import Derived.Test.YtaicidbopgnmfaaGreatDoorOx
import Derived.Deep.RegionWith
import Derived.Deep.DrawnRows
import Derived.Deep.DeepCutAuto
namespace Go.Proofs.YtaicidbopgnmfaaGreatDoor
set_option linter.unusedSimpArgs false
set_option linter.unusedVariables false
open Go.RowKit
attribute [local go_sem ↓] Go.wp_at_zero Go.wp_at_succ
/-- a package in new memory is returned -/
def RetEntF (w : World) (x : Ent) (e : Ending) (w' : World) : Prop := ∃ r, e = .returned (.agg #[.string (bs (x).pkg.name), .string (bs (x).pkg.ver), .slice (r).a1 (x).pkg.pre.length (r).c1, .slice (r).a2 (x).pkg.dep.length (r).c2, .slice (r).a3 (x).pkg.rcm.length (r).c3, .slice (r).a4 (x).pkg.con.length (r).c4, .slice (r).a5 (x).pkg.brk.length (r).c5, .slice (r).a6 (x).pkg.prv.length (r).c6, .bool (x).pkg.ess, .bool (x).conf, .bool (x).hold]) ∧ RP (flt TB w') r x.pkg ∧ Below w.heap.size w w'
set_option maxRecDepth 100000 in
set_option maxHeartbeats 4000000 in
theorem ownE_any (x : Ent) (r : Raw) (w : World) (hp : RP w r x.pkg) (hf : fewOE x.pkg) :
    Calls Tryz.prog 115 #[(.agg #[.string (bs (x).pkg.name), .string (bs (x).pkg.ver), .slice (r).a1 (x).pkg.pre.length (r).c1, .slice (r).a2 (x).pkg.dep.length (r).c2, .slice (r).a3 (x).pkg.rcm.length (r).c3, .slice (r).a4 (x).pkg.con.length (r).c4, .slice (r).a5 (x).pkg.brk.length (r).c5, .slice (r).a6 (x).pkg.prv.length (r).c6, .bool (x).pkg.ess, .bool (x).conf, .bool (x).hold])] w (RetEntF w x) := by
  obtain ⟨hsn, hsv, hp1, hp2, hp3, hp4, hp5, hp6⟩ := hp
  obtain ⟨f1, f2, f3, f4, f5, f6⟩ := hf
  have hq4 := Lib.hid hp4.bd.2.2
  have hq5 := Lib.hid hp5.bd.2.2
  have hq6 := Lib.hid hp6.bd.2.2
  rcases r with ⟨a1, a2, a3, a4, a5, a6, c1, c2, c3, c4, c5, c6⟩
  have HP1 := Lib.hid hp1
  have HP2 := Lib.hid hp2
  have HP3 := Lib.hid hp3
  have HP4 := Lib.hid hp4
  have HP5 := Lib.hid hp5
  have HP6 := Lib.hid hp6
  have F1 := Lib.hid f1
  have F2 := Lib.hid f2
  have F3 := Lib.hid f3
  have F4 := Lib.hid f4
  have F5 := Lib.hid f5
  have F6 := Lib.hid f6
  clear hp1 hp2 hp3 hp4 hp5 hp6 f1 f2 f3 f4 f5 f6
  go_enter Tryz.func115, Tryz.ntmps115
  go_wp2_with fail
  go_cut [14] (fun _ wx => ∃ (A1 A2 A3 : Option Addr) (C1 C2 C3 : Nat), Blk wx w.heap.size 45 #[.string (bs x.pkg.name), .string (bs x.pkg.ver), .slice A1 x.pkg.pre.length C1, .slice A2 x.pkg.dep.length C2, .slice A3 x.pkg.rcm.length C3, .slice a4 x.pkg.con.length c4, .slice a5 x.pkg.brk.length c5, .slice a6 x.pkg.prv.length c6, .bool x.pkg.ess, .bool x.conf, .bool x.hold] ∧ Blk wx (w.heap.size + 1) 45 #[.string (bs []), .string (bs []), .slice none 0 0, .slice none 0 0, .slice none 0 0, .slice none 0 0, .slice none 0 0, .slice none 0 0, .bool false, .bool false, .bool false] ∧ Below w.heap.size w wx ∧ Clss (flt TB wx) A1 C1 x.pkg.pre ∧ Clss (flt TB wx) A2 C2 x.pkg.dep ∧ Clss (flt TB wx) A3 C3 x.pkg.rcm)
  case first =>
    generalize hW : World.alloc (World.alloc w _) _ = W
    have K1 := Lib.hid (show Blk W w.heap.size 45 #[.string (bs x.pkg.name), .string (bs x.pkg.ver), .slice a1 x.pkg.pre.length c1, .slice a2 x.pkg.dep.length c2, .slice a3 x.pkg.rcm.length c3, .slice a4 x.pkg.con.length c4, .slice a5 x.pkg.brk.length c5, .slice a6 x.pkg.prv.length c6, .bool x.pkg.ess, .bool x.conf, .bool x.hold] by rw [← hW]; exact Blk.alloc (blk_new1 _ _ _) _)
    have K2 := Lib.hid (show Blk W (w.heap.size + 1) 45 #[.string (bs []), .string (bs []), .slice none 0 0, .slice none 0 0, .slice none 0 0, .slice none 0 0, .slice none 0 0, .slice none 0 0, .bool false, .bool false, .bool false] by rw [← hW]; exact blk_new2 _ _ _ _)
    have HB := Lib.hid (show Below w.heap.size w W by rw [← hW]; exact below_alloc (below_alloc (Below.refl _ _) _) _)
    clear hW
    obtain ⟨ux0, ux1, ux2, ux3, ux4, ux5, ux6, ux7, ux8, ux9, ux10⟩ := blk11 K1.out
    have uxf := fun j => K1.out.frozen j
    refine region_l (n := 30) (listed := #[false, false, false, false, false, false, false, false, false, false, false, false, false, false, false, false, false, false, false, false, false, false, false, false, false, false, false, false, false, false]) (by kernel_rfl) rfl rfl ?_
    (refine take_l (i := 0) (v := _) rfl (by kernel_rfl) (by kernel_rfl) (by kernel_rfl) (fun _ _ _ h => h) (Or.inl ⟨by kernel_rfl, by (intro w; go_simp; first | done | with_reducible rfl)⟩) ?_; try simp only [Act.put, List.setIfInBounds_toArray, List.set_cons_zero, List.set_cons_succ])
    (refine take_l (i := 1) (v := _) rfl (by kernel_rfl) (by kernel_rfl) (by kernel_rfl) (fun _ _ _ h => h) (Or.inl ⟨by kernel_rfl, by (intro w; go_simp; first | done | with_reducible rfl)⟩) ?_; try simp only [Act.put, List.setIfInBounds_toArray, List.set_cons_zero, List.set_cons_succ])
    (refine take_l (i := 2) (v := _) rfl (by kernel_rfl) (by kernel_rfl) (by kernel_rfl) (fun _ _ _ h => h) (Or.inl ⟨by kernel_rfl, by (intro w; go_simp; first | done | with_reducible rfl)⟩) ?_; try simp only [Act.put, List.setIfInBounds_toArray, List.set_cons_zero, List.set_cons_succ])
    (refine take_l (i := 3) (v := _) rfl (by kernel_rfl) (by kernel_rfl) (by kernel_rfl) (fun _ _ _ h => h) (Or.inl ⟨by kernel_rfl, by (intro w; go_simp; first | done | with_reducible rfl)⟩) ?_; try simp only [Act.put, List.setIfInBounds_toArray, List.set_cons_zero, List.set_cons_succ])
    (refine take_l (i := 4) (v := _) rfl (by kernel_rfl) (by kernel_rfl) (by kernel_rfl) (fun _ _ _ h => h) (Or.inl ⟨by kernel_rfl, by (intro w; go_simp; first | done | with_reducible rfl)⟩) ?_; try simp only [Act.put, List.setIfInBounds_toArray, List.set_cons_zero, List.set_cons_succ])
    (refine take_l (i := 5) (v := _) rfl (by kernel_rfl) (by kernel_rfl) (by kernel_rfl) (fun _ _ _ h => h) (Or.inl ⟨by kernel_rfl, by (intro w; go_simp; first | done | with_reducible rfl)⟩) ?_; try simp only [Act.put, List.setIfInBounds_toArray, List.set_cons_zero, List.set_cons_succ])
    (refine take_l (i := 6) (v := _) rfl (by kernel_rfl) (by kernel_rfl) (by kernel_rfl) (fun _ _ _ h => h) (Or.inl ⟨by kernel_rfl, by (intro w; go_simp; first | done | with_reducible rfl)⟩) ?_; try simp only [Act.put, List.setIfInBounds_toArray, List.set_cons_zero, List.set_cons_succ])
    (refine take_l (i := 9) (v := _) rfl (by kernel_rfl) (by kernel_rfl) (by kernel_rfl) (fun _ _ _ h => h) (Or.inl ⟨by kernel_rfl, by (intro w; go_simp; first | done | with_reducible rfl)⟩) ?_; try simp only [Act.put, List.setIfInBounds_toArray, List.set_cons_zero, List.set_cons_succ])
    (refine take_l (i := 10) (v := _) rfl (by kernel_rfl) (by kernel_rfl) (by kernel_rfl) (fun _ _ _ h => h) (Or.inl ⟨by kernel_rfl, by (intro w; go_simp; first | done | with_reducible rfl)⟩) ?_; try simp only [Act.put, List.setIfInBounds_toArray, List.set_cons_zero, List.set_cons_succ])
    (refine take_l (i := 11) (v := _) rfl (by kernel_rfl) (by kernel_rfl) (by kernel_rfl) (fun _ _ _ h => h) (Or.inl ⟨by kernel_rfl, by (intro w; go_simp; first | done | with_reducible rfl)⟩) ?_; try simp only [Act.put, List.setIfInBounds_toArray, List.set_cons_zero, List.set_cons_succ])
    (refine take_l (i := 12) (v := _) rfl (by kernel_rfl) (by kernel_rfl) (by kernel_rfl) (fun _ _ _ h => h) (Or.inl ⟨by kernel_rfl, by (intro w; go_simp; first | done | with_reducible rfl)⟩) ?_; try simp only [Act.put, List.setIfInBounds_toArray, List.set_cons_zero, List.set_cons_succ])
    (refine take_l (i := 15) (v := _) rfl (by kernel_rfl) (by kernel_rfl) (by kernel_rfl) (fun _ _ _ h => h) (Or.inl ⟨by kernel_rfl, by (intro w; go_simp; first | done | with_reducible rfl)⟩) ?_; try simp only [Act.put, List.setIfInBounds_toArray, List.set_cons_zero, List.set_cons_succ])
    (refine take_l (i := 16) (v := _) rfl (by kernel_rfl) (by kernel_rfl) (by kernel_rfl) (fun _ _ _ h => h) (Or.inl ⟨by kernel_rfl, by (intro w; go_simp; first | done | with_reducible rfl)⟩) ?_; try simp only [Act.put, List.setIfInBounds_toArray, List.set_cons_zero, List.set_cons_succ])
    (refine take_l (i := 17) (v := _) rfl (by kernel_rfl) (by kernel_rfl) (by kernel_rfl) (fun _ _ _ h => h) (Or.inl ⟨by kernel_rfl, by (intro w; go_simp; first | done | with_reducible rfl)⟩) ?_; try simp only [Act.put, List.setIfInBounds_toArray, List.set_cons_zero, List.set_cons_succ])
    (refine take_l (i := 18) (v := _) rfl (by kernel_rfl) (by kernel_rfl) (by kernel_rfl) (fun _ _ _ h => h) (Or.inl ⟨by kernel_rfl, by (intro w; go_simp; first | done | with_reducible rfl)⟩) ?_; try simp only [Act.put, List.setIfInBounds_toArray, List.set_cons_zero, List.set_cons_succ])
    refine inv_l (J := fun listed a wj => ∃ (l1 l2 l3 d1 d2 d3 : Bool) (x1 x2 x3 y1 y2 y3 : Value), listed = #[true, true, true, true, true, true, true, l1, d1, true, true, true, true, l2, d2, true, true, true, true, l3, d3, false, false, false, false, false, false, false, false, false] ∧ a = { tmps := #[.agg #[.string (bs x.pkg.name), .string (bs x.pkg.ver), .slice a1 x.pkg.pre.length c1, .slice a2 x.pkg.dep.length c2, .slice a3 x.pkg.rcm.length c3, .slice a4 x.pkg.con.length c4, .slice a5 x.pkg.brk.length c5, .slice a6 x.pkg.prv.length c6, .bool x.pkg.ess, .bool x.conf, .bool x.hold], .pointer (some ⟨w.heap.size, 0, none⟩), .pointer (some ⟨w.heap.size + 1, 0, none⟩), .pointer (some ⟨w.heap.size, 0, none⟩), .func (.func 152) #[] #[], .pointer (some ⟨w.heap.size, 0, none⟩), .pointer (some ⟨w.heap.size, 0, none⟩), .pointer (some ⟨w.heap.size, 0, none⟩), .pointer (some ⟨w.heap.size, 0, none⟩), .func (.func 152) #[] #[], .pointer (some ⟨w.heap.size, 0, none⟩), .pointer (some ⟨w.heap.size, 0, none⟩), .pointer (some ⟨w.heap.size, 2, none⟩), x1, y1, .func (.func 152) #[] #[], .pointer (some ⟨w.heap.size, 0, none⟩), .pointer (some ⟨w.heap.size, 0, none⟩), .pointer (some ⟨w.heap.size, 3, none⟩), x2, y2, .func (.func 152) #[] #[], .pointer (some ⟨w.heap.size, 0, none⟩), .pointer (some ⟨w.heap.size, 0, none⟩), .pointer (some ⟨w.heap.size, 4, none⟩), x3, y3, undef, undef, undef, undef, undef, undef, undef, undef, undef, undef, undef, undef, undef, undef, undef, undef, undef, undef, undef, undef, undef, undef, undef, undef, undef, undef, undef, undef, undef, undef, undef], defers := [] } ∧ (d1 = true → l1 = true) ∧ (d2 = true → d1 = true ∧ l2 = true) ∧ (d3 = true → d2 = true ∧ l3 = true) ∧ (l1 = true → x1 = .slice a1 x.pkg.pre.length c1) ∧ (l2 = true → x2 = .slice a2 x.pkg.dep.length c2) ∧ (l3 = true → x3 = .slice a3 x.pkg.rcm.length c3) ∧ (d1 = true → ∃ A C, y1 = .slice A x.pkg.pre.length C ∧ Clss (flt TB wj) A C x.pkg.pre) ∧ (d2 = true → ∃ A C, y2 = .slice A x.pkg.dep.length C ∧ Clss (flt TB wj) A C x.pkg.dep) ∧ (d3 = true → ∃ A C, y3 = .slice A x.pkg.rcm.length C ∧ Clss (flt TB wj) A C x.pkg.rcm) ∧ Blk wj w.heap.size 45 #[.string (bs x.pkg.name), .string (bs x.pkg.ver), .slice a1 x.pkg.pre.length c1, .slice a2 x.pkg.dep.length c2, .slice a3 x.pkg.rcm.length c3, .slice a4 x.pkg.con.length c4, .slice a5 x.pkg.brk.length c5, .slice a6 x.pkg.prv.length c6, .bool x.pkg.ess, .bool x.conf, .bool x.hold] ∧ Blk wj (w.heap.size + 1) 45 #[.string (bs []), .string (bs []), .slice none 0 0, .slice none 0 0, .slice none 0 0, .slice none 0 0, .slice none 0 0, .slice none 0 0, .bool false, .bool false, .bool false] ∧ Below w.heap.size w wj) (n := 15) ⟨false, false, false, false, false, false, _, _, _, _, _, _, rfl, rfl, nofun, nofun, nofun, nofun, nofun, nofun, nofun, nofun, nofun, K1.out, K2.out, HB.out.drew⟩ rfl ?_
    rintro listed a wj ⟨l1, l2, l3, d1, d2, d3, x1, x2, x3, y1, y2, y3, rfl, rfl, i1, i2, i3, j1, j2, j3, r1, r2, r3, kK, kZ, kB⟩
    rcases d3 with _ | _
    · right
      refine ⟨fun hr => Bool.noConfusion (ready_all (by kernel_rfl) hr 20 (by decide) : false = true), fun i hi => ?_⟩
      have hlt := lt_l (n := 30) rfl hi
      have hown := own_l hi
      obtain ⟨q0, q1, q2, q3, q4, q5, q6, q7, q8, q9, q10⟩ := blk11 kK
      have hcs : i = 0 ∨ i = 1 ∨ i = 2 ∨ i = 3 ∨ i = 4 ∨ i = 5 ∨ i = 6 ∨ i = 7 ∨ i = 8 ∨ i = 9 ∨ i = 10 ∨ i = 11 ∨ i = 12 ∨ i = 13 ∨ i = 14 ∨ i = 15 ∨ i = 16 ∨ i = 17 ∨ i = 18 ∨ i = 19 ∨ i = 20 ∨ i = 21 ∨ i = 22 ∨ i = 23 ∨ i = 24 ∨ i = 25 ∨ i = 26 ∨ i = 27 ∨ i = 28 ∨ i = 29 := by clear hi hown; omega
      clear hlt
      rcases hcs with rfl | rfl | rfl | rfl | rfl | rfl | rfl | rfl | rfl | rfl | rfl | rfl | rfl | rfl | rfl | rfl | rfl | rfl | rfl | rfl | rfl | rfl | rfl | rfl | rfl | rfl | rfl | rfl | rfl | rfl
      · exact Bool.noConfusion hown
      · exact Bool.noConfusion hown
      · exact Bool.noConfusion hown
      · exact Bool.noConfusion hown
      · exact Bool.noConfusion hown
      · exact Bool.noConfusion hown
      · exact Bool.noConfusion hown
      · obtain rfl : l1 = false := hown
        refine step_l rfl (fun K hK => ?_)
        clear hi
        go_simp
        refine hK _ _ ?_
        clear hK K
        simp only [Act.put, List.setIfInBounds_toArray, List.set_cons_zero, List.set_cons_succ]
        exact ⟨true, l2, l3, d1, d2, false, _, _, _, y1, y2, y3, rfl, rfl, fun _ => rfl, i2, i3, fun _ => rfl, (by first | exact j2 | exact fun _ => rfl), (by first | exact j3 | exact fun _ => rfl), r1, r2, r3, kK, kZ, kB⟩
      · have hl : l1 = true := dep_l (k := 7) hi rfl (by kernel_rfl)
        obtain rfl : d1 = false := hown
        obtain rfl := j1 hl
        refine step_l rfl (fun K hK => ?_)
        clear hi
        go_simp
        (refine (cloE_any _ _ x.pkg.pre _ (HP1.out.kept (Kept.of_below kB)) F1.out.1 F1.out.2).mono ?_; rintro e w1 ⟨A1, C1, rfl, hs, hb⟩; have kp := (KeepB.of_below hb : KeepB (fun t => TB t = true) wj w1))
        refine hK _ _ ?_
        clear hK K
        simp only [Act.put, List.setIfInBounds_toArray, List.set_cons_zero, List.set_cons_succ]
        exact ⟨l1, l2, l3, true, d2, false, _, _, _, _, _, _, rfl, rfl, fun _ => hl, fun h => ⟨rfl, (i2 h).2⟩, nofun, fun _ => rfl, (by first | exact j2 | exact fun _ => rfl), (by first | exact j3 | exact fun _ => rfl), fun _ => ⟨_, _, rfl, hs⟩, fun h => let ⟨A, C, e, s⟩ := r2 h; ⟨A, C, e, s.fkeep kp⟩, nofun, kK.next hb, kZ.next hb, below_next kB hb⟩
      · exact Bool.noConfusion hown
      · exact Bool.noConfusion hown
      · exact Bool.noConfusion hown
      · exact Bool.noConfusion hown
      · obtain rfl : l2 = false := hown
        refine step_l rfl (fun K hK => ?_)
        clear hi
        go_simp
        refine hK _ _ ?_
        clear hK K
        simp only [Act.put, List.setIfInBounds_toArray, List.set_cons_zero, List.set_cons_succ]
        exact ⟨l1, true, l3, d1, d2, false, _, _, _, y1, y2, y3, rfl, rfl, i1, fun h => ⟨(i2 h).1, rfl⟩, i3, (by first | exact j1 | exact fun _ => rfl), fun _ => rfl, (by first | exact j3 | exact fun _ => rfl), r1, r2, r3, kK, kZ, kB⟩
      · have hl : l2 = true := dep_l (k := 13) hi rfl (by kernel_rfl)
        have hd : d1 = true := dep_l (k := 8) hi rfl (by kernel_rfl)
        obtain rfl : d2 = false := hown
        obtain rfl := j2 hl
        refine step_l rfl (fun K hK => ?_)
        clear hi
        go_simp
        (refine (cloE_any _ _ x.pkg.dep _ (HP2.out.kept (Kept.of_below kB)) F2.out.1 F2.out.2).mono ?_; rintro e w1 ⟨A1, C1, rfl, hs, hb⟩; have kp := (KeepB.of_below hb : KeepB (fun t => TB t = true) wj w1))
        refine hK _ _ ?_
        clear hK K
        simp only [Act.put, List.setIfInBounds_toArray, List.set_cons_zero, List.set_cons_succ]
        exact ⟨l1, l2, l3, d1, true, false, _, _, _, _, _, _, rfl, rfl, i1, fun _ => ⟨hd, hl⟩, nofun, (by first | exact j1 | exact fun _ => rfl), fun _ => rfl, (by first | exact j3 | exact fun _ => rfl), fun h => let ⟨A, C, e, s⟩ := r1 h; ⟨A, C, e, s.fkeep kp⟩, fun _ => ⟨_, _, rfl, hs⟩, nofun, kK.next hb, kZ.next hb, below_next kB hb⟩
      · exact Bool.noConfusion hown
      · exact Bool.noConfusion hown
      · exact Bool.noConfusion hown
      · exact Bool.noConfusion hown
      · obtain rfl : l3 = false := hown
        refine step_l rfl (fun K hK => ?_)
        clear hi
        go_simp
        refine hK _ _ ?_
        clear hK K
        simp only [Act.put, List.setIfInBounds_toArray, List.set_cons_zero, List.set_cons_succ]
        exact ⟨l1, l2, true, d1, d2, false, _, _, _, y1, y2, y3, rfl, rfl, i1, i2, nofun, (by first | exact j1 | exact fun _ => rfl), (by first | exact j2 | exact fun _ => rfl), fun _ => rfl, r1, r2, r3, kK, kZ, kB⟩
      · have hl : l3 = true := dep_l (k := 19) hi rfl (by kernel_rfl)
        have hd : d2 = true := dep_l (k := 14) hi rfl (by kernel_rfl)
        obtain rfl := j3 hl
        refine step_l rfl (fun K hK => ?_)
        clear hi
        go_simp
        (refine (cloE_any _ _ x.pkg.rcm _ (HP3.out.kept (Kept.of_below kB)) F3.out.1 F3.out.2).mono ?_; rintro e w1 ⟨A1, C1, rfl, hs, hb⟩; have kp := (KeepB.of_below hb : KeepB (fun t => TB t = true) wj w1))
        refine hK _ _ ?_
        clear hK K
        simp only [Act.put, List.setIfInBounds_toArray, List.set_cons_zero, List.set_cons_succ]
        exact ⟨l1, l2, l3, d1, d2, true, _, _, _, _, _, _, rfl, rfl, i1, i2, fun _ => ⟨hd, hl⟩, (by first | exact j1 | exact fun _ => rfl), (by first | exact j2 | exact fun _ => rfl), fun _ => rfl, fun h => let ⟨A, C, e, s⟩ := r1 h; ⟨A, C, e, s.fkeep kp⟩, fun h => let ⟨A, C, e, s⟩ := r2 h; ⟨A, C, e, s.fkeep kp⟩, fun _ => ⟨_, _, rfl, hs⟩, kK.next hb, kZ.next hb, below_next kB hb⟩
      · exact Bool.noConfusion (dep_l (k := 20) hi rfl (by kernel_rfl) : false = true)
      · exact Bool.noConfusion (dep_l (k := 20) hi rfl (by kernel_rfl) : false = true)
      · exact Bool.noConfusion (dep_l (k := 20) hi rfl (by kernel_rfl) : false = true)
      · exact Bool.noConfusion (dep_l (k := 20) hi rfl (by kernel_rfl) : false = true)
      · exact Bool.noConfusion (dep_l (k := 20) hi rfl (by kernel_rfl) : false = true)
      · exact Bool.noConfusion (dep_l (k := 20) hi rfl (by kernel_rfl) : false = true)
      · exact Bool.noConfusion (dep_l (k := 20) hi rfl (by kernel_rfl) : false = true)
      · exact Bool.noConfusion (dep_l (k := 20) hi rfl (by kernel_rfl) : false = true)
      · exact Bool.noConfusion (dep_l (k := 20) hi rfl (by kernel_rfl) : false = true)
    · left
      intro f
      obtain ⟨rfl, rfl⟩ := i3 rfl
      obtain ⟨rfl, rfl⟩ := i2 rfl
      obtain rfl := i1 rfl
      obtain ⟨A1, C1, rfl, s1⟩ := r1 rfl
      obtain ⟨A2, C2, rfl, s2⟩ := r2 rfl
      obtain ⟨A3, C3, rfl, s3⟩ := r3 rfl
      clear i1 i2 i3 j1 j2 j3 r1 r2 r3
      show wpAny _ _ _ _ (f + 9) _ _ _
      have KK := Lib.hid kK
      obtain ⟨q0, q1, q2, q3, q4, q5, q6, q7, q8, q9, q10⟩ := blk11 kK
      have qf := fun j => kK.frozen j
      clear kK
      first
        | (refine take_l (i := 21) (v := _) rfl (by decide +kernel) (by decide +kernel) (by decide +kernel) (fun _ _ _ h => h) (Or.inl ⟨by kernel_rfl, by (intro w; go_simp; first | done | with_reducible rfl)⟩) ?_; try simp only [Act.put, List.setIfInBounds_toArray, List.set_cons_zero, List.set_cons_succ])
        | (refine take_l (i := 22) (v := _) rfl (by decide +kernel) (by decide +kernel) (by decide +kernel) (fun _ _ _ h => h) (Or.inl ⟨by kernel_rfl, by (intro w; go_simp; first | done | with_reducible rfl)⟩) ?_; try simp only [Act.put, List.setIfInBounds_toArray, List.set_cons_zero, List.set_cons_succ])
        | (refine take_l (i := 24) (v := _) rfl (by decide +kernel) (by decide +kernel) (by decide +kernel) (fun _ _ _ h => h) (Or.inl ⟨by kernel_rfl, by (intro w; go_simp; first | done | with_reducible rfl)⟩) ?_; try simp only [Act.put, List.setIfInBounds_toArray, List.set_cons_zero, List.set_cons_succ])
        | (refine take_l (i := 25) (v := _) rfl (by decide +kernel) (by decide +kernel) (by decide +kernel) (fun _ _ _ h => h) (Or.inl ⟨by kernel_rfl, by (intro w; go_simp; first | done | with_reducible rfl)⟩) ?_; try simp only [Act.put, List.setIfInBounds_toArray, List.set_cons_zero, List.set_cons_succ])
        | (refine take_l (i := 27) (v := _) rfl (by decide +kernel) (by decide +kernel) (by decide +kernel) (fun _ _ _ h => h) (Or.inl ⟨by kernel_rfl, by (intro w; go_simp; first | done | with_reducible rfl)⟩) ?_; try simp only [Act.put, List.setIfInBounds_toArray, List.set_cons_zero, List.set_cons_succ])
        | (refine take_l (i := 28) (v := _) rfl (by decide +kernel) (by decide +kernel) (by decide +kernel) (fun _ _ _ h => h) (Or.inl ⟨by kernel_rfl, by (intro w; go_simp; first | done | with_reducible rfl)⟩) ?_; try simp only [Act.put, List.setIfInBounds_toArray, List.set_cons_zero, List.set_cons_succ])
        | (refine wpAny_ready (rs := [23]) (by decide +kernel) (by simp) ?_; refine AllReady.cons rfl (fun K hK => ?_) AllReady.nil; go_simp; refine hK _ _ ?_; clear hK K; try simp only [Act.put, List.setIfInBounds_toArray, List.set_cons_zero, List.set_cons_succ])
        | (refine wpAny_ready (rs := [26]) (by decide +kernel) (by simp) ?_; refine AllReady.cons rfl (fun K hK => ?_) AllReady.nil; go_simp; refine hK _ _ ?_; clear hK K; try simp only [Act.put, List.setIfInBounds_toArray, List.set_cons_zero, List.set_cons_succ])
        | (refine wpAny_ready (rs := [29]) (by decide +kernel) (by simp) ?_; refine AllReady.cons rfl (fun K hK => ?_) AllReady.nil; go_simp; refine hK _ _ ?_; clear hK K; try simp only [Act.put, List.setIfInBounds_toArray, List.set_cons_zero, List.set_cons_succ])
      first
        | (refine take_l (i := 21) (v := _) rfl (by decide +kernel) (by decide +kernel) (by decide +kernel) (fun _ _ _ h => h) (Or.inl ⟨by kernel_rfl, by (intro w; go_simp; first | done | with_reducible rfl)⟩) ?_; try simp only [Act.put, List.setIfInBounds_toArray, List.set_cons_zero, List.set_cons_succ])
        | (refine take_l (i := 22) (v := _) rfl (by decide +kernel) (by decide +kernel) (by decide +kernel) (fun _ _ _ h => h) (Or.inl ⟨by kernel_rfl, by (intro w; go_simp; first | done | with_reducible rfl)⟩) ?_; try simp only [Act.put, List.setIfInBounds_toArray, List.set_cons_zero, List.set_cons_succ])
        | (refine take_l (i := 24) (v := _) rfl (by decide +kernel) (by decide +kernel) (by decide +kernel) (fun _ _ _ h => h) (Or.inl ⟨by kernel_rfl, by (intro w; go_simp; first | done | with_reducible rfl)⟩) ?_; try simp only [Act.put, List.setIfInBounds_toArray, List.set_cons_zero, List.set_cons_succ])
        | (refine take_l (i := 25) (v := _) rfl (by decide +kernel) (by decide +kernel) (by decide +kernel) (fun _ _ _ h => h) (Or.inl ⟨by kernel_rfl, by (intro w; go_simp; first | done | with_reducible rfl)⟩) ?_; try simp only [Act.put, List.setIfInBounds_toArray, List.set_cons_zero, List.set_cons_succ])
        | (refine take_l (i := 27) (v := _) rfl (by decide +kernel) (by decide +kernel) (by decide +kernel) (fun _ _ _ h => h) (Or.inl ⟨by kernel_rfl, by (intro w; go_simp; first | done | with_reducible rfl)⟩) ?_; try simp only [Act.put, List.setIfInBounds_toArray, List.set_cons_zero, List.set_cons_succ])
        | (refine take_l (i := 28) (v := _) rfl (by decide +kernel) (by decide +kernel) (by decide +kernel) (fun _ _ _ h => h) (Or.inl ⟨by kernel_rfl, by (intro w; go_simp; first | done | with_reducible rfl)⟩) ?_; try simp only [Act.put, List.setIfInBounds_toArray, List.set_cons_zero, List.set_cons_succ])
        | (refine wpAny_ready (rs := [23]) (by decide +kernel) (by simp) ?_; refine AllReady.cons rfl (fun K hK => ?_) AllReady.nil; go_simp; refine hK _ _ ?_; clear hK K; try simp only [Act.put, List.setIfInBounds_toArray, List.set_cons_zero, List.set_cons_succ])
        | (refine wpAny_ready (rs := [26]) (by decide +kernel) (by simp) ?_; refine AllReady.cons rfl (fun K hK => ?_) AllReady.nil; go_simp; refine hK _ _ ?_; clear hK K; try simp only [Act.put, List.setIfInBounds_toArray, List.set_cons_zero, List.set_cons_succ])
        | (refine wpAny_ready (rs := [29]) (by decide +kernel) (by simp) ?_; refine AllReady.cons rfl (fun K hK => ?_) AllReady.nil; go_simp; refine hK _ _ ?_; clear hK K; try simp only [Act.put, List.setIfInBounds_toArray, List.set_cons_zero, List.set_cons_succ])
      first
        | (refine take_l (i := 21) (v := _) rfl (by decide +kernel) (by decide +kernel) (by decide +kernel) (fun _ _ _ h => h) (Or.inl ⟨by kernel_rfl, by (intro w; go_simp; first | done | with_reducible rfl)⟩) ?_; try simp only [Act.put, List.setIfInBounds_toArray, List.set_cons_zero, List.set_cons_succ])
        | (refine take_l (i := 22) (v := _) rfl (by decide +kernel) (by decide +kernel) (by decide +kernel) (fun _ _ _ h => h) (Or.inl ⟨by kernel_rfl, by (intro w; go_simp; first | done | with_reducible rfl)⟩) ?_; try simp only [Act.put, List.setIfInBounds_toArray, List.set_cons_zero, List.set_cons_succ])
        | (refine take_l (i := 24) (v := _) rfl (by decide +kernel) (by decide +kernel) (by decide +kernel) (fun _ _ _ h => h) (Or.inl ⟨by kernel_rfl, by (intro w; go_simp; first | done | with_reducible rfl)⟩) ?_; try simp only [Act.put, List.setIfInBounds_toArray, List.set_cons_zero, List.set_cons_succ])
        | (refine take_l (i := 25) (v := _) rfl (by decide +kernel) (by decide +kernel) (by decide +kernel) (fun _ _ _ h => h) (Or.inl ⟨by kernel_rfl, by (intro w; go_simp; first | done | with_reducible rfl)⟩) ?_; try simp only [Act.put, List.setIfInBounds_toArray, List.set_cons_zero, List.set_cons_succ])
        | (refine take_l (i := 27) (v := _) rfl (by decide +kernel) (by decide +kernel) (by decide +kernel) (fun _ _ _ h => h) (Or.inl ⟨by kernel_rfl, by (intro w; go_simp; first | done | with_reducible rfl)⟩) ?_; try simp only [Act.put, List.setIfInBounds_toArray, List.set_cons_zero, List.set_cons_succ])
        | (refine take_l (i := 28) (v := _) rfl (by decide +kernel) (by decide +kernel) (by decide +kernel) (fun _ _ _ h => h) (Or.inl ⟨by kernel_rfl, by (intro w; go_simp; first | done | with_reducible rfl)⟩) ?_; try simp only [Act.put, List.setIfInBounds_toArray, List.set_cons_zero, List.set_cons_succ])
        | (refine wpAny_ready (rs := [23]) (by decide +kernel) (by simp) ?_; refine AllReady.cons rfl (fun K hK => ?_) AllReady.nil; go_simp; refine hK _ _ ?_; clear hK K; try simp only [Act.put, List.setIfInBounds_toArray, List.set_cons_zero, List.set_cons_succ])
        | (refine wpAny_ready (rs := [26]) (by decide +kernel) (by simp) ?_; refine AllReady.cons rfl (fun K hK => ?_) AllReady.nil; go_simp; refine hK _ _ ?_; clear hK K; try simp only [Act.put, List.setIfInBounds_toArray, List.set_cons_zero, List.set_cons_succ])
        | (refine wpAny_ready (rs := [29]) (by decide +kernel) (by simp) ?_; refine AllReady.cons rfl (fun K hK => ?_) AllReady.nil; go_simp; refine hK _ _ ?_; clear hK K; try simp only [Act.put, List.setIfInBounds_toArray, List.set_cons_zero, List.set_cons_succ])
      first
        | (refine take_l (i := 21) (v := _) rfl (by decide +kernel) (by decide +kernel) (by decide +kernel) (fun _ _ _ h => h) (Or.inl ⟨by kernel_rfl, by (intro w; go_simp; first | done | with_reducible rfl)⟩) ?_; try simp only [Act.put, List.setIfInBounds_toArray, List.set_cons_zero, List.set_cons_succ])
        | (refine take_l (i := 22) (v := _) rfl (by decide +kernel) (by decide +kernel) (by decide +kernel) (fun _ _ _ h => h) (Or.inl ⟨by kernel_rfl, by (intro w; go_simp; first | done | with_reducible rfl)⟩) ?_; try simp only [Act.put, List.setIfInBounds_toArray, List.set_cons_zero, List.set_cons_succ])
        | (refine take_l (i := 24) (v := _) rfl (by decide +kernel) (by decide +kernel) (by decide +kernel) (fun _ _ _ h => h) (Or.inl ⟨by kernel_rfl, by (intro w; go_simp; first | done | with_reducible rfl)⟩) ?_; try simp only [Act.put, List.setIfInBounds_toArray, List.set_cons_zero, List.set_cons_succ])
        | (refine take_l (i := 25) (v := _) rfl (by decide +kernel) (by decide +kernel) (by decide +kernel) (fun _ _ _ h => h) (Or.inl ⟨by kernel_rfl, by (intro w; go_simp; first | done | with_reducible rfl)⟩) ?_; try simp only [Act.put, List.setIfInBounds_toArray, List.set_cons_zero, List.set_cons_succ])
        | (refine take_l (i := 27) (v := _) rfl (by decide +kernel) (by decide +kernel) (by decide +kernel) (fun _ _ _ h => h) (Or.inl ⟨by kernel_rfl, by (intro w; go_simp; first | done | with_reducible rfl)⟩) ?_; try simp only [Act.put, List.setIfInBounds_toArray, List.set_cons_zero, List.set_cons_succ])
        | (refine take_l (i := 28) (v := _) rfl (by decide +kernel) (by decide +kernel) (by decide +kernel) (fun _ _ _ h => h) (Or.inl ⟨by kernel_rfl, by (intro w; go_simp; first | done | with_reducible rfl)⟩) ?_; try simp only [Act.put, List.setIfInBounds_toArray, List.set_cons_zero, List.set_cons_succ])
        | (refine wpAny_ready (rs := [23]) (by decide +kernel) (by simp) ?_; refine AllReady.cons rfl (fun K hK => ?_) AllReady.nil; go_simp; refine hK _ _ ?_; clear hK K; try simp only [Act.put, List.setIfInBounds_toArray, List.set_cons_zero, List.set_cons_succ])
        | (refine wpAny_ready (rs := [26]) (by decide +kernel) (by simp) ?_; refine AllReady.cons rfl (fun K hK => ?_) AllReady.nil; go_simp; refine hK _ _ ?_; clear hK K; try simp only [Act.put, List.setIfInBounds_toArray, List.set_cons_zero, List.set_cons_succ])
        | (refine wpAny_ready (rs := [29]) (by decide +kernel) (by simp) ?_; refine AllReady.cons rfl (fun K hK => ?_) AllReady.nil; go_simp; refine hK _ _ ?_; clear hK K; try simp only [Act.put, List.setIfInBounds_toArray, List.set_cons_zero, List.set_cons_succ])
      first
        | (refine take_l (i := 21) (v := _) rfl (by decide +kernel) (by decide +kernel) (by decide +kernel) (fun _ _ _ h => h) (Or.inl ⟨by kernel_rfl, by (intro w; go_simp; first | done | with_reducible rfl)⟩) ?_; try simp only [Act.put, List.setIfInBounds_toArray, List.set_cons_zero, List.set_cons_succ])
        | (refine take_l (i := 22) (v := _) rfl (by decide +kernel) (by decide +kernel) (by decide +kernel) (fun _ _ _ h => h) (Or.inl ⟨by kernel_rfl, by (intro w; go_simp; first | done | with_reducible rfl)⟩) ?_; try simp only [Act.put, List.setIfInBounds_toArray, List.set_cons_zero, List.set_cons_succ])
        | (refine take_l (i := 24) (v := _) rfl (by decide +kernel) (by decide +kernel) (by decide +kernel) (fun _ _ _ h => h) (Or.inl ⟨by kernel_rfl, by (intro w; go_simp; first | done | with_reducible rfl)⟩) ?_; try simp only [Act.put, List.setIfInBounds_toArray, List.set_cons_zero, List.set_cons_succ])
        | (refine take_l (i := 25) (v := _) rfl (by decide +kernel) (by decide +kernel) (by decide +kernel) (fun _ _ _ h => h) (Or.inl ⟨by kernel_rfl, by (intro w; go_simp; first | done | with_reducible rfl)⟩) ?_; try simp only [Act.put, List.setIfInBounds_toArray, List.set_cons_zero, List.set_cons_succ])
        | (refine take_l (i := 27) (v := _) rfl (by decide +kernel) (by decide +kernel) (by decide +kernel) (fun _ _ _ h => h) (Or.inl ⟨by kernel_rfl, by (intro w; go_simp; first | done | with_reducible rfl)⟩) ?_; try simp only [Act.put, List.setIfInBounds_toArray, List.set_cons_zero, List.set_cons_succ])
        | (refine take_l (i := 28) (v := _) rfl (by decide +kernel) (by decide +kernel) (by decide +kernel) (fun _ _ _ h => h) (Or.inl ⟨by kernel_rfl, by (intro w; go_simp; first | done | with_reducible rfl)⟩) ?_; try simp only [Act.put, List.setIfInBounds_toArray, List.set_cons_zero, List.set_cons_succ])
        | (refine wpAny_ready (rs := [23]) (by decide +kernel) (by simp) ?_; refine AllReady.cons rfl (fun K hK => ?_) AllReady.nil; go_simp; refine hK _ _ ?_; clear hK K; try simp only [Act.put, List.setIfInBounds_toArray, List.set_cons_zero, List.set_cons_succ])
        | (refine wpAny_ready (rs := [26]) (by decide +kernel) (by simp) ?_; refine AllReady.cons rfl (fun K hK => ?_) AllReady.nil; go_simp; refine hK _ _ ?_; clear hK K; try simp only [Act.put, List.setIfInBounds_toArray, List.set_cons_zero, List.set_cons_succ])
        | (refine wpAny_ready (rs := [29]) (by decide +kernel) (by simp) ?_; refine AllReady.cons rfl (fun K hK => ?_) AllReady.nil; go_simp; refine hK _ _ ?_; clear hK K; try simp only [Act.put, List.setIfInBounds_toArray, List.set_cons_zero, List.set_cons_succ])
      first
        | (refine take_l (i := 21) (v := _) rfl (by decide +kernel) (by decide +kernel) (by decide +kernel) (fun _ _ _ h => h) (Or.inl ⟨by kernel_rfl, by (intro w; go_simp; first | done | with_reducible rfl)⟩) ?_; try simp only [Act.put, List.setIfInBounds_toArray, List.set_cons_zero, List.set_cons_succ])
        | (refine take_l (i := 22) (v := _) rfl (by decide +kernel) (by decide +kernel) (by decide +kernel) (fun _ _ _ h => h) (Or.inl ⟨by kernel_rfl, by (intro w; go_simp; first | done | with_reducible rfl)⟩) ?_; try simp only [Act.put, List.setIfInBounds_toArray, List.set_cons_zero, List.set_cons_succ])
        | (refine take_l (i := 24) (v := _) rfl (by decide +kernel) (by decide +kernel) (by decide +kernel) (fun _ _ _ h => h) (Or.inl ⟨by kernel_rfl, by (intro w; go_simp; first | done | with_reducible rfl)⟩) ?_; try simp only [Act.put, List.setIfInBounds_toArray, List.set_cons_zero, List.set_cons_succ])
        | (refine take_l (i := 25) (v := _) rfl (by decide +kernel) (by decide +kernel) (by decide +kernel) (fun _ _ _ h => h) (Or.inl ⟨by kernel_rfl, by (intro w; go_simp; first | done | with_reducible rfl)⟩) ?_; try simp only [Act.put, List.setIfInBounds_toArray, List.set_cons_zero, List.set_cons_succ])
        | (refine take_l (i := 27) (v := _) rfl (by decide +kernel) (by decide +kernel) (by decide +kernel) (fun _ _ _ h => h) (Or.inl ⟨by kernel_rfl, by (intro w; go_simp; first | done | with_reducible rfl)⟩) ?_; try simp only [Act.put, List.setIfInBounds_toArray, List.set_cons_zero, List.set_cons_succ])
        | (refine take_l (i := 28) (v := _) rfl (by decide +kernel) (by decide +kernel) (by decide +kernel) (fun _ _ _ h => h) (Or.inl ⟨by kernel_rfl, by (intro w; go_simp; first | done | with_reducible rfl)⟩) ?_; try simp only [Act.put, List.setIfInBounds_toArray, List.set_cons_zero, List.set_cons_succ])
        | (refine wpAny_ready (rs := [23]) (by decide +kernel) (by simp) ?_; refine AllReady.cons rfl (fun K hK => ?_) AllReady.nil; go_simp; refine hK _ _ ?_; clear hK K; try simp only [Act.put, List.setIfInBounds_toArray, List.set_cons_zero, List.set_cons_succ])
        | (refine wpAny_ready (rs := [26]) (by decide +kernel) (by simp) ?_; refine AllReady.cons rfl (fun K hK => ?_) AllReady.nil; go_simp; refine hK _ _ ?_; clear hK K; try simp only [Act.put, List.setIfInBounds_toArray, List.set_cons_zero, List.set_cons_succ])
        | (refine wpAny_ready (rs := [29]) (by decide +kernel) (by simp) ?_; refine AllReady.cons rfl (fun K hK => ?_) AllReady.nil; go_simp; refine hK _ _ ?_; clear hK K; try simp only [Act.put, List.setIfInBounds_toArray, List.set_cons_zero, List.set_cons_succ])
      first
        | (refine take_l (i := 21) (v := _) rfl (by decide +kernel) (by decide +kernel) (by decide +kernel) (fun _ _ _ h => h) (Or.inl ⟨by kernel_rfl, by (intro w; go_simp; first | done | with_reducible rfl)⟩) ?_; try simp only [Act.put, List.setIfInBounds_toArray, List.set_cons_zero, List.set_cons_succ])
        | (refine take_l (i := 22) (v := _) rfl (by decide +kernel) (by decide +kernel) (by decide +kernel) (fun _ _ _ h => h) (Or.inl ⟨by kernel_rfl, by (intro w; go_simp; first | done | with_reducible rfl)⟩) ?_; try simp only [Act.put, List.setIfInBounds_toArray, List.set_cons_zero, List.set_cons_succ])
        | (refine take_l (i := 24) (v := _) rfl (by decide +kernel) (by decide +kernel) (by decide +kernel) (fun _ _ _ h => h) (Or.inl ⟨by kernel_rfl, by (intro w; go_simp; first | done | with_reducible rfl)⟩) ?_; try simp only [Act.put, List.setIfInBounds_toArray, List.set_cons_zero, List.set_cons_succ])
        | (refine take_l (i := 25) (v := _) rfl (by decide +kernel) (by decide +kernel) (by decide +kernel) (fun _ _ _ h => h) (Or.inl ⟨by kernel_rfl, by (intro w; go_simp; first | done | with_reducible rfl)⟩) ?_; try simp only [Act.put, List.setIfInBounds_toArray, List.set_cons_zero, List.set_cons_succ])
        | (refine take_l (i := 27) (v := _) rfl (by decide +kernel) (by decide +kernel) (by decide +kernel) (fun _ _ _ h => h) (Or.inl ⟨by kernel_rfl, by (intro w; go_simp; first | done | with_reducible rfl)⟩) ?_; try simp only [Act.put, List.setIfInBounds_toArray, List.set_cons_zero, List.set_cons_succ])
        | (refine take_l (i := 28) (v := _) rfl (by decide +kernel) (by decide +kernel) (by decide +kernel) (fun _ _ _ h => h) (Or.inl ⟨by kernel_rfl, by (intro w; go_simp; first | done | with_reducible rfl)⟩) ?_; try simp only [Act.put, List.setIfInBounds_toArray, List.set_cons_zero, List.set_cons_succ])
        | (refine wpAny_ready (rs := [23]) (by decide +kernel) (by simp) ?_; refine AllReady.cons rfl (fun K hK => ?_) AllReady.nil; go_simp; refine hK _ _ ?_; clear hK K; try simp only [Act.put, List.setIfInBounds_toArray, List.set_cons_zero, List.set_cons_succ])
        | (refine wpAny_ready (rs := [26]) (by decide +kernel) (by simp) ?_; refine AllReady.cons rfl (fun K hK => ?_) AllReady.nil; go_simp; refine hK _ _ ?_; clear hK K; try simp only [Act.put, List.setIfInBounds_toArray, List.set_cons_zero, List.set_cons_succ])
        | (refine wpAny_ready (rs := [29]) (by decide +kernel) (by simp) ?_; refine AllReady.cons rfl (fun K hK => ?_) AllReady.nil; go_simp; refine hK _ _ ?_; clear hK K; try simp only [Act.put, List.setIfInBounds_toArray, List.set_cons_zero, List.set_cons_succ])
      first
        | (refine take_l (i := 21) (v := _) rfl (by decide +kernel) (by decide +kernel) (by decide +kernel) (fun _ _ _ h => h) (Or.inl ⟨by kernel_rfl, by (intro w; go_simp; first | done | with_reducible rfl)⟩) ?_; try simp only [Act.put, List.setIfInBounds_toArray, List.set_cons_zero, List.set_cons_succ])
        | (refine take_l (i := 22) (v := _) rfl (by decide +kernel) (by decide +kernel) (by decide +kernel) (fun _ _ _ h => h) (Or.inl ⟨by kernel_rfl, by (intro w; go_simp; first | done | with_reducible rfl)⟩) ?_; try simp only [Act.put, List.setIfInBounds_toArray, List.set_cons_zero, List.set_cons_succ])
        | (refine take_l (i := 24) (v := _) rfl (by decide +kernel) (by decide +kernel) (by decide +kernel) (fun _ _ _ h => h) (Or.inl ⟨by kernel_rfl, by (intro w; go_simp; first | done | with_reducible rfl)⟩) ?_; try simp only [Act.put, List.setIfInBounds_toArray, List.set_cons_zero, List.set_cons_succ])
        | (refine take_l (i := 25) (v := _) rfl (by decide +kernel) (by decide +kernel) (by decide +kernel) (fun _ _ _ h => h) (Or.inl ⟨by kernel_rfl, by (intro w; go_simp; first | done | with_reducible rfl)⟩) ?_; try simp only [Act.put, List.setIfInBounds_toArray, List.set_cons_zero, List.set_cons_succ])
        | (refine take_l (i := 27) (v := _) rfl (by decide +kernel) (by decide +kernel) (by decide +kernel) (fun _ _ _ h => h) (Or.inl ⟨by kernel_rfl, by (intro w; go_simp; first | done | with_reducible rfl)⟩) ?_; try simp only [Act.put, List.setIfInBounds_toArray, List.set_cons_zero, List.set_cons_succ])
        | (refine take_l (i := 28) (v := _) rfl (by decide +kernel) (by decide +kernel) (by decide +kernel) (fun _ _ _ h => h) (Or.inl ⟨by kernel_rfl, by (intro w; go_simp; first | done | with_reducible rfl)⟩) ?_; try simp only [Act.put, List.setIfInBounds_toArray, List.set_cons_zero, List.set_cons_succ])
        | (refine wpAny_ready (rs := [23]) (by decide +kernel) (by simp) ?_; refine AllReady.cons rfl (fun K hK => ?_) AllReady.nil; go_simp; refine hK _ _ ?_; clear hK K; try simp only [Act.put, List.setIfInBounds_toArray, List.set_cons_zero, List.set_cons_succ])
        | (refine wpAny_ready (rs := [26]) (by decide +kernel) (by simp) ?_; refine AllReady.cons rfl (fun K hK => ?_) AllReady.nil; go_simp; refine hK _ _ ?_; clear hK K; try simp only [Act.put, List.setIfInBounds_toArray, List.set_cons_zero, List.set_cons_succ])
        | (refine wpAny_ready (rs := [29]) (by decide +kernel) (by simp) ?_; refine AllReady.cons rfl (fun K hK => ?_) AllReady.nil; go_simp; refine hK _ _ ?_; clear hK K; try simp only [Act.put, List.setIfInBounds_toArray, List.set_cons_zero, List.set_cons_succ])
      first
        | (refine take_l (i := 21) (v := _) rfl (by decide +kernel) (by decide +kernel) (by decide +kernel) (fun _ _ _ h => h) (Or.inl ⟨by kernel_rfl, by (intro w; go_simp; first | done | with_reducible rfl)⟩) ?_; try simp only [Act.put, List.setIfInBounds_toArray, List.set_cons_zero, List.set_cons_succ])
        | (refine take_l (i := 22) (v := _) rfl (by decide +kernel) (by decide +kernel) (by decide +kernel) (fun _ _ _ h => h) (Or.inl ⟨by kernel_rfl, by (intro w; go_simp; first | done | with_reducible rfl)⟩) ?_; try simp only [Act.put, List.setIfInBounds_toArray, List.set_cons_zero, List.set_cons_succ])
        | (refine take_l (i := 24) (v := _) rfl (by decide +kernel) (by decide +kernel) (by decide +kernel) (fun _ _ _ h => h) (Or.inl ⟨by kernel_rfl, by (intro w; go_simp; first | done | with_reducible rfl)⟩) ?_; try simp only [Act.put, List.setIfInBounds_toArray, List.set_cons_zero, List.set_cons_succ])
        | (refine take_l (i := 25) (v := _) rfl (by decide +kernel) (by decide +kernel) (by decide +kernel) (fun _ _ _ h => h) (Or.inl ⟨by kernel_rfl, by (intro w; go_simp; first | done | with_reducible rfl)⟩) ?_; try simp only [Act.put, List.setIfInBounds_toArray, List.set_cons_zero, List.set_cons_succ])
        | (refine take_l (i := 27) (v := _) rfl (by decide +kernel) (by decide +kernel) (by decide +kernel) (fun _ _ _ h => h) (Or.inl ⟨by kernel_rfl, by (intro w; go_simp; first | done | with_reducible rfl)⟩) ?_; try simp only [Act.put, List.setIfInBounds_toArray, List.set_cons_zero, List.set_cons_succ])
        | (refine take_l (i := 28) (v := _) rfl (by decide +kernel) (by decide +kernel) (by decide +kernel) (fun _ _ _ h => h) (Or.inl ⟨by kernel_rfl, by (intro w; go_simp; first | done | with_reducible rfl)⟩) ?_; try simp only [Act.put, List.setIfInBounds_toArray, List.set_cons_zero, List.set_cons_succ])
        | (refine wpAny_ready (rs := [23]) (by decide +kernel) (by simp) ?_; refine AllReady.cons rfl (fun K hK => ?_) AllReady.nil; go_simp; refine hK _ _ ?_; clear hK K; try simp only [Act.put, List.setIfInBounds_toArray, List.set_cons_zero, List.set_cons_succ])
        | (refine wpAny_ready (rs := [26]) (by decide +kernel) (by simp) ?_; refine AllReady.cons rfl (fun K hK => ?_) AllReady.nil; go_simp; refine hK _ _ ?_; clear hK K; try simp only [Act.put, List.setIfInBounds_toArray, List.set_cons_zero, List.set_cons_succ])
        | (refine wpAny_ready (rs := [29]) (by decide +kernel) (by simp) ?_; refine AllReady.cons rfl (fun K hK => ?_) AllReady.nil; go_simp; refine hK _ _ ?_; clear hK K; try simp only [Act.put, List.setIfInBounds_toArray, List.set_cons_zero, List.set_cons_succ])
      refine wpAny_done (by kernel_rfl) ?_ _
      go_wp2_with fail
      go_meet
      obtain ⟨k1, k2, k3, k4⟩ := ownE_set3a (a := .slice A1 x.pkg.pre.length C1) (b := .slice A2 x.pkg.dep.length C2) (c := .slice A3 x.pkg.rcm.length C3) KK.out _ kZ kB (Nat.le_refl _)
      exact ⟨A1, A2, A3, C1, C2, C3, k1, k2, k3, s1.fkeep k4, s2.fkeep k4, s3.fkeep k4⟩
  case rest =>
    obtain ⟨B1, B2, B3, D1, D2, D3, hk1, hk2, hb, hs1, hs2, hs3⟩ := hcut
    have K1 := Lib.hid hk1
    have K2 := Lib.hid hk2
    have HB := Lib.hid hb
    have HS1 := Lib.hid hs1
    have HS2 := Lib.hid hs2
    have HS3 := Lib.hid hs3
    clear hk1 hk2 hb hs1 hs2 hs3
    go_wp2_with fail
    go_cut [40] (fun _ wy => ∃ (A4 A5 A6 : Option Addr) (C4 C5 C6 : Nat), Blk wy w.heap.size 45 #[.string (bs x.pkg.name), .string (bs x.pkg.ver), .slice B1 x.pkg.pre.length D1, .slice B2 x.pkg.dep.length D2, .slice B3 x.pkg.rcm.length D3, .slice A4 x.pkg.con.length C4, .slice A5 x.pkg.brk.length C5, .slice A6 x.pkg.prv.length C6, .bool x.pkg.ess, .bool x.conf, .bool x.hold] ∧ Blk wy (w.heap.size + 1) 45 #[.string (bs []), .string (bs []), .slice none 0 0, .slice none 0 0, .slice none 0 0, .slice none 0 0, .slice none 0 0, .slice none 0 0, .bool false, .bool false, .bool false] ∧ Below w.heap.size w wy ∧ RP (flt TB wy) ⟨B1, B2, B3, A4, A5, A6, D1, D2, D3, C4, C5, C6⟩ x.pkg)
    case first =>
      obtain ⟨ux0, ux1, ux2, ux3, ux4, ux5, ux6, ux7, ux8, ux9, ux10⟩ := blk11 K1.out
      have uxf := fun j => K1.out.frozen j
      clear ux0 ux1 ux2 ux3 ux4 ux8
      refine region_l (n := 27) (listed := #[false, false, false, false, false, false, false, false, false, false, false, false, false, false, false, false, false, false, false, false, false, false, false, false, false, false, false]) (by kernel_rfl) rfl rfl ?_
      (refine take_l (i := 0) (v := _) rfl (by kernel_rfl) (by kernel_rfl) (by kernel_rfl) (fun _ _ _ h => h) (Or.inl ⟨by kernel_rfl, by (intro w; go_simp; first | done | with_reducible rfl)⟩) ?_; try simp only [Act.put, List.setIfInBounds_toArray, List.set_cons_zero, List.set_cons_succ])
      (refine take_l (i := 1) (v := _) rfl (by kernel_rfl) (by kernel_rfl) (by kernel_rfl) (fun _ _ _ h => h) (Or.inl ⟨by kernel_rfl, by (intro w; go_simp; first | done | with_reducible rfl)⟩) ?_; try simp only [Act.put, List.setIfInBounds_toArray, List.set_cons_zero, List.set_cons_succ])
      (refine take_l (i := 2) (v := _) rfl (by kernel_rfl) (by kernel_rfl) (by kernel_rfl) (fun _ _ _ h => h) (Or.inl ⟨by kernel_rfl, by (intro w; go_simp; first | done | with_reducible rfl)⟩) ?_; try simp only [Act.put, List.setIfInBounds_toArray, List.set_cons_zero, List.set_cons_succ])
      (refine take_l (i := 3) (v := _) rfl (by kernel_rfl) (by kernel_rfl) (by kernel_rfl) (fun _ _ _ h => h) (Or.inl ⟨by kernel_rfl, by (intro w; go_simp; first | done | with_reducible rfl)⟩) ?_; try simp only [Act.put, List.setIfInBounds_toArray, List.set_cons_zero, List.set_cons_succ])
      (refine take_l (i := 4) (v := _) rfl (by kernel_rfl) (by kernel_rfl) (by kernel_rfl) (fun _ _ _ h => h) (Or.inl ⟨by kernel_rfl, by (intro w; go_simp; first | done | with_reducible rfl)⟩) ?_; try simp only [Act.put, List.setIfInBounds_toArray, List.set_cons_zero, List.set_cons_succ])
      (refine take_l (i := 5) (v := _) rfl (by kernel_rfl) (by kernel_rfl) (by kernel_rfl) (fun _ _ _ h => h) (Or.inl ⟨by kernel_rfl, by (intro w; go_simp; first | done | with_reducible rfl)⟩) ?_; try simp only [Act.put, List.setIfInBounds_toArray, List.set_cons_zero, List.set_cons_succ])
      (refine take_l (i := 8) (v := _) rfl (by kernel_rfl) (by kernel_rfl) (by kernel_rfl) (fun _ _ _ h => h) (Or.inl ⟨by kernel_rfl, by (intro w; go_simp; first | done | with_reducible rfl)⟩) ?_; try simp only [Act.put, List.setIfInBounds_toArray, List.set_cons_zero, List.set_cons_succ])
      (refine take_l (i := 9) (v := _) rfl (by kernel_rfl) (by kernel_rfl) (by kernel_rfl) (fun _ _ _ h => h) (Or.inl ⟨by kernel_rfl, by (intro w; go_simp; first | done | with_reducible rfl)⟩) ?_; try simp only [Act.put, List.setIfInBounds_toArray, List.set_cons_zero, List.set_cons_succ])
      (refine take_l (i := 10) (v := _) rfl (by kernel_rfl) (by kernel_rfl) (by kernel_rfl) (fun _ _ _ h => h) (Or.inl ⟨by kernel_rfl, by (intro w; go_simp; first | done | with_reducible rfl)⟩) ?_; try simp only [Act.put, List.setIfInBounds_toArray, List.set_cons_zero, List.set_cons_succ])
      (refine take_l (i := 13) (v := _) rfl (by kernel_rfl) (by kernel_rfl) (by kernel_rfl) (fun _ _ _ h => h) (Or.inl ⟨by kernel_rfl, by (intro w; go_simp; first | done | with_reducible rfl)⟩) ?_; try simp only [Act.put, List.setIfInBounds_toArray, List.set_cons_zero, List.set_cons_succ])
      (refine take_l (i := 14) (v := _) rfl (by kernel_rfl) (by kernel_rfl) (by kernel_rfl) (fun _ _ _ h => h) (Or.inl ⟨by kernel_rfl, by (intro w; go_simp; first | done | with_reducible rfl)⟩) ?_; try simp only [Act.put, List.setIfInBounds_toArray, List.set_cons_zero, List.set_cons_succ])
      (refine take_l (i := 15) (v := _) rfl (by kernel_rfl) (by kernel_rfl) (by kernel_rfl) (fun _ _ _ h => h) (Or.inl ⟨by kernel_rfl, by (intro w; go_simp; first | done | with_reducible rfl)⟩) ?_; try simp only [Act.put, List.setIfInBounds_toArray, List.set_cons_zero, List.set_cons_succ])
      refine inv_l (J := fun listed a wj => ∃ (l1 l2 l3 d1 d2 d3 : Bool) (x1 x2 x3 y1 y2 y3 : Value), listed = #[true, true, true, true, true, true, l1, d1, true, true, true, l2, d2, true, true, true, l3, d3, false, false, false, false, false, false, false, false, false] ∧ a = { tmps := #[.agg #[.string (bs x.pkg.name), .string (bs x.pkg.ver), .slice a1 x.pkg.pre.length c1, .slice a2 x.pkg.dep.length c2, .slice a3 x.pkg.rcm.length c3, .slice a4 x.pkg.con.length c4, .slice a5 x.pkg.brk.length c5, .slice a6 x.pkg.prv.length c6, .bool x.pkg.ess, .bool x.conf, .bool x.hold], .pointer (some ⟨w.heap.size, 0, none⟩), .pointer (some ⟨w.heap.size + 1, 0, none⟩), .pointer (some ⟨w.heap.size, 0, none⟩), .func (.func 152) #[] #[], u5, u6, u7, u8, u9, u10, u11, u12, u13, u14, u15, u16, u17, u18, u19, u20, u21, u22, u23, u24, u25, u26, u27, u28, u29, u30, u31, u32, .pointer (some ⟨w.heap.size, 0, none⟩), .pointer (some ⟨w.heap.size, 0, none⟩), .pointer (some ⟨w.heap.size, 0, none⟩), .pointer (some ⟨w.heap.size, 0, none⟩), .pointer (some ⟨w.heap.size, 0, none⟩), .pointer (some ⟨w.heap.size, 5, none⟩), x1, y1, .pointer (some ⟨w.heap.size, 0, none⟩), .pointer (some ⟨w.heap.size, 0, none⟩), .pointer (some ⟨w.heap.size, 6, none⟩), x2, y2, .pointer (some ⟨w.heap.size, 0, none⟩), .pointer (some ⟨w.heap.size, 0, none⟩), .pointer (some ⟨w.heap.size, 7, none⟩), x3, y3, u51, u52, u53, u54, u55, u56, u57], defers := [] } ∧ (d1 = true → l1 = true) ∧ (d2 = true → d1 = true ∧ l2 = true) ∧ (d3 = true → d2 = true ∧ l3 = true) ∧ (l1 = true → x1 = .slice a4 x.pkg.con.length c4) ∧ (l2 = true → x2 = .slice a5 x.pkg.brk.length c5) ∧ (l3 = true → x3 = .slice a6 x.pkg.prv.length c6) ∧ (d1 = true → ∃ A C, y1 = .slice A x.pkg.con.length C ∧ Atms (flt TB wj) A C x.pkg.con) ∧ (d2 = true → ∃ A C, y2 = .slice A x.pkg.brk.length C ∧ Atms (flt TB wj) A C x.pkg.brk) ∧ (d3 = true → ∃ A C, y3 = .slice A x.pkg.prv.length C ∧ Prvs (flt TB wj) A C x.pkg.prv) ∧ Blk wj w.heap.size 45 #[.string (bs x.pkg.name), .string (bs x.pkg.ver), .slice B1 x.pkg.pre.length D1, .slice B2 x.pkg.dep.length D2, .slice B3 x.pkg.rcm.length D3, .slice a4 x.pkg.con.length c4, .slice a5 x.pkg.brk.length c5, .slice a6 x.pkg.prv.length c6, .bool x.pkg.ess, .bool x.conf, .bool x.hold] ∧ Blk wj (w.heap.size + 1) 45 #[.string (bs []), .string (bs []), .slice none 0 0, .slice none 0 0, .slice none 0 0, .slice none 0 0, .slice none 0 0, .slice none 0 0, .bool false, .bool false, .bool false] ∧ Below w.heap.size w wj ∧ Clss (flt TB wj) B1 D1 x.pkg.pre ∧ Clss (flt TB wj) B2 D2 x.pkg.dep ∧ Clss (flt TB wj) B3 D3 x.pkg.rcm) (n := 15) ⟨false, false, false, false, false, false, _, _, _, _, _, _, rfl, rfl, nofun, nofun, nofun, nofun, nofun, nofun, nofun, nofun, nofun, K1.out, K2.out, HB.out.drew, HS1.out.fkeep (KeepB.drewN 1), HS2.out.fkeep (KeepB.drewN 1), HS3.out.fkeep (KeepB.drewN 1)⟩ rfl ?_
      rintro listed a wj ⟨l1, l2, l3, d1, d2, d3, x1, x2, x3, y1, y2, y3, rfl, rfl, i1, i2, i3, j1, j2, j3, r1, r2, r3, kK, kZ, kB, t1, t2, t3⟩
      rcases d3 with _ | _
      · right
        refine ⟨fun hr => Bool.noConfusion (ready_all (by kernel_rfl) hr 17 (by decide) : false = true), fun i hi => ?_⟩
        have hlt := lt_l (n := 27) rfl hi
        have hown := own_l hi
        obtain ⟨q0, q1, q2, q3, q4, q5, q6, q7, q8, q9, q10⟩ := blk11 kK
        have hcs : i = 0 ∨ i = 1 ∨ i = 2 ∨ i = 3 ∨ i = 4 ∨ i = 5 ∨ i = 6 ∨ i = 7 ∨ i = 8 ∨ i = 9 ∨ i = 10 ∨ i = 11 ∨ i = 12 ∨ i = 13 ∨ i = 14 ∨ i = 15 ∨ i = 16 ∨ i = 17 ∨ i = 18 ∨ i = 19 ∨ i = 20 ∨ i = 21 ∨ i = 22 ∨ i = 23 ∨ i = 24 ∨ i = 25 ∨ i = 26 := by clear hi hown; omega
        clear hlt
        rcases hcs with rfl | rfl | rfl | rfl | rfl | rfl | rfl | rfl | rfl | rfl | rfl | rfl | rfl | rfl | rfl | rfl | rfl | rfl | rfl | rfl | rfl | rfl | rfl | rfl | rfl | rfl | rfl
        · exact Bool.noConfusion hown
        · exact Bool.noConfusion hown
        · exact Bool.noConfusion hown
        · exact Bool.noConfusion hown
        · exact Bool.noConfusion hown
        · exact Bool.noConfusion hown
        · obtain rfl : l1 = false := hown
          refine step_l rfl (fun K hK => ?_)
          clear hi
          go_simp
          refine hK _ _ ?_
          clear hK K
          simp only [Act.put, List.setIfInBounds_toArray, List.set_cons_zero, List.set_cons_succ]
          exact ⟨true, l2, l3, d1, d2, false, _, _, _, y1, y2, y3, rfl, rfl, fun _ => rfl, i2, i3, fun _ => rfl, (by first | exact j2 | exact fun _ => rfl), (by first | exact j3 | exact fun _ => rfl), r1, r2, r3, kK, kZ, kB, t1, t2, t3⟩
        · have hl : l1 = true := dep_l (k := 6) hi rfl (by kernel_rfl)
          obtain rfl : d1 = false := hown
          obtain rfl := j1 hl
          refine step_l rfl (fun K hK => ?_)
          clear hi
          go_simp
          (refine (cloneA_any _ _ x.pkg.con _ (HP4.out.kept (Kept.of_below kB)) F4.out).mono ?_; rintro e w1 hh; obtain ⟨A1, C1, rfl, hs, hb⟩ := retAtmF hq4.out rfl hh; have kp := (KeepB.of_below hb : KeepB (fun t => TB t = true) wj w1))
          refine hK _ _ ?_
          clear hK K
          simp only [Act.put, List.setIfInBounds_toArray, List.set_cons_zero, List.set_cons_succ]
          exact ⟨l1, l2, l3, true, d2, false, _, _, _, _, _, _, rfl, rfl, fun _ => hl, fun h => ⟨rfl, (i2 h).2⟩, nofun, fun _ => rfl, (by first | exact j2 | exact fun _ => rfl), (by first | exact j3 | exact fun _ => rfl), fun _ => ⟨_, _, rfl, hs⟩, fun h => let ⟨A, C, e, s⟩ := r2 h; ⟨A, C, e, s.fkeep kp⟩, nofun, kK.next hb, kZ.next hb, below_next kB hb, t1.fkeep kp, t2.fkeep kp, t3.fkeep kp⟩
        · exact Bool.noConfusion hown
        · exact Bool.noConfusion hown
        · exact Bool.noConfusion hown
        · obtain rfl : l2 = false := hown
          refine step_l rfl (fun K hK => ?_)
          clear hi
          go_simp
          refine hK _ _ ?_
          clear hK K
          simp only [Act.put, List.setIfInBounds_toArray, List.set_cons_zero, List.set_cons_succ]
          exact ⟨l1, true, l3, d1, d2, false, _, _, _, y1, y2, y3, rfl, rfl, i1, fun h => ⟨(i2 h).1, rfl⟩, i3, (by first | exact j1 | exact fun _ => rfl), fun _ => rfl, (by first | exact j3 | exact fun _ => rfl), r1, r2, r3, kK, kZ, kB, t1, t2, t3⟩
        · have hl : l2 = true := dep_l (k := 11) hi rfl (by kernel_rfl)
          have hd : d1 = true := dep_l (k := 7) hi rfl (by kernel_rfl)
          obtain rfl : d2 = false := hown
          obtain rfl := j2 hl
          refine step_l rfl (fun K hK => ?_)
          clear hi
          go_simp
          (refine (cloneA_any _ _ x.pkg.brk _ (HP5.out.kept (Kept.of_below kB)) F5.out).mono ?_; rintro e w1 hh; obtain ⟨A1, C1, rfl, hs, hb⟩ := retAtmF hq5.out rfl hh; have kp := (KeepB.of_below hb : KeepB (fun t => TB t = true) wj w1))
          refine hK _ _ ?_
          clear hK K
          simp only [Act.put, List.setIfInBounds_toArray, List.set_cons_zero, List.set_cons_succ]
          exact ⟨l1, l2, l3, d1, true, false, _, _, _, _, _, _, rfl, rfl, i1, fun _ => ⟨hd, hl⟩, nofun, (by first | exact j1 | exact fun _ => rfl), fun _ => rfl, (by first | exact j3 | exact fun _ => rfl), fun h => let ⟨A, C, e, s⟩ := r1 h; ⟨A, C, e, s.fkeep kp⟩, fun _ => ⟨_, _, rfl, hs⟩, nofun, kK.next hb, kZ.next hb, below_next kB hb, t1.fkeep kp, t2.fkeep kp, t3.fkeep kp⟩
        · exact Bool.noConfusion hown
        · exact Bool.noConfusion hown
        · exact Bool.noConfusion hown
        · obtain rfl : l3 = false := hown
          refine step_l rfl (fun K hK => ?_)
          clear hi
          go_simp
          refine hK _ _ ?_
          clear hK K
          simp only [Act.put, List.setIfInBounds_toArray, List.set_cons_zero, List.set_cons_succ]
          exact ⟨l1, l2, true, d1, d2, false, _, _, _, y1, y2, y3, rfl, rfl, i1, i2, nofun, (by first | exact j1 | exact fun _ => rfl), (by first | exact j2 | exact fun _ => rfl), fun _ => rfl, r1, r2, r3, kK, kZ, kB, t1, t2, t3⟩
        · have hl : l3 = true := dep_l (k := 16) hi rfl (by kernel_rfl)
          have hd : d2 = true := dep_l (k := 12) hi rfl (by kernel_rfl)
          obtain rfl := j3 hl
          refine step_l rfl (fun K hK => ?_)
          clear hi
          go_simp
          (refine (cloneP_any _ _ x.pkg.prv _ (HP6.out.kept (Kept.of_below kB)) F6.out).mono ?_; rintro e w1 hh; obtain ⟨A1, C1, rfl, hs, hb⟩ := retPrvF hq6.out rfl hh; have kp := (KeepB.of_below hb : KeepB (fun t => TB t = true) wj w1))
          refine hK _ _ ?_
          clear hK K
          simp only [Act.put, List.setIfInBounds_toArray, List.set_cons_zero, List.set_cons_succ]
          exact ⟨l1, l2, l3, d1, d2, true, _, _, _, _, _, _, rfl, rfl, i1, i2, fun _ => ⟨hd, hl⟩, (by first | exact j1 | exact fun _ => rfl), (by first | exact j2 | exact fun _ => rfl), fun _ => rfl, fun h => let ⟨A, C, e, s⟩ := r1 h; ⟨A, C, e, s.fkeep kp⟩, fun h => let ⟨A, C, e, s⟩ := r2 h; ⟨A, C, e, s.fkeep kp⟩, fun _ => ⟨_, _, rfl, hs⟩, kK.next hb, kZ.next hb, below_next kB hb, t1.fkeep kp, t2.fkeep kp, t3.fkeep kp⟩
        · exact Bool.noConfusion (dep_l (k := 17) hi rfl (by kernel_rfl) : false = true)
        · exact Bool.noConfusion (dep_l (k := 17) hi rfl (by kernel_rfl) : false = true)
        · exact Bool.noConfusion (dep_l (k := 17) hi rfl (by kernel_rfl) : false = true)
        · exact Bool.noConfusion (dep_l (k := 17) hi rfl (by kernel_rfl) : false = true)
        · exact Bool.noConfusion (dep_l (k := 17) hi rfl (by kernel_rfl) : false = true)
        · exact Bool.noConfusion (dep_l (k := 17) hi rfl (by kernel_rfl) : false = true)
        · exact Bool.noConfusion (dep_l (k := 17) hi rfl (by kernel_rfl) : false = true)
        · exact Bool.noConfusion (dep_l (k := 17) hi rfl (by kernel_rfl) : false = true)
        · exact Bool.noConfusion (dep_l (k := 17) hi rfl (by kernel_rfl) : false = true)
      · left
        intro f
        obtain ⟨rfl, rfl⟩ := i3 rfl
        obtain ⟨rfl, rfl⟩ := i2 rfl
        obtain rfl := i1 rfl
        obtain ⟨A1, C1, rfl, s1⟩ := r1 rfl
        obtain ⟨A2, C2, rfl, s2⟩ := r2 rfl
        obtain ⟨A3, C3, rfl, s3⟩ := r3 rfl
        clear i1 i2 i3 j1 j2 j3 r1 r2 r3
        show wpAny _ _ _ _ (f + 9) _ _ _
        have KK := Lib.hid kK
        obtain ⟨q0, q1, q2, q3, q4, q5, q6, q7, q8, q9, q10⟩ := blk11 kK
        have qf := fun j => kK.frozen j
        clear kK
        first
          | (refine take_l (i := 18) (v := _) rfl (by decide +kernel) (by decide +kernel) (by decide +kernel) (fun _ _ _ h => h) (Or.inl ⟨by kernel_rfl, by (intro w; go_simp; first | done | with_reducible rfl)⟩) ?_; try simp only [Act.put, List.setIfInBounds_toArray, List.set_cons_zero, List.set_cons_succ])
          | (refine take_l (i := 19) (v := _) rfl (by decide +kernel) (by decide +kernel) (by decide +kernel) (fun _ _ _ h => h) (Or.inl ⟨by kernel_rfl, by (intro w; go_simp; first | done | with_reducible rfl)⟩) ?_; try simp only [Act.put, List.setIfInBounds_toArray, List.set_cons_zero, List.set_cons_succ])
          | (refine take_l (i := 21) (v := _) rfl (by decide +kernel) (by decide +kernel) (by decide +kernel) (fun _ _ _ h => h) (Or.inl ⟨by kernel_rfl, by (intro w; go_simp; first | done | with_reducible rfl)⟩) ?_; try simp only [Act.put, List.setIfInBounds_toArray, List.set_cons_zero, List.set_cons_succ])
          | (refine take_l (i := 22) (v := _) rfl (by decide +kernel) (by decide +kernel) (by decide +kernel) (fun _ _ _ h => h) (Or.inl ⟨by kernel_rfl, by (intro w; go_simp; first | done | with_reducible rfl)⟩) ?_; try simp only [Act.put, List.setIfInBounds_toArray, List.set_cons_zero, List.set_cons_succ])
          | (refine take_l (i := 24) (v := _) rfl (by decide +kernel) (by decide +kernel) (by decide +kernel) (fun _ _ _ h => h) (Or.inl ⟨by kernel_rfl, by (intro w; go_simp; first | done | with_reducible rfl)⟩) ?_; try simp only [Act.put, List.setIfInBounds_toArray, List.set_cons_zero, List.set_cons_succ])
          | (refine take_l (i := 25) (v := _) rfl (by decide +kernel) (by decide +kernel) (by decide +kernel) (fun _ _ _ h => h) (Or.inl ⟨by kernel_rfl, by (intro w; go_simp; first | done | with_reducible rfl)⟩) ?_; try simp only [Act.put, List.setIfInBounds_toArray, List.set_cons_zero, List.set_cons_succ])
          | (refine wpAny_ready (rs := [20]) (by decide +kernel) (by simp) ?_; refine AllReady.cons rfl (fun K hK => ?_) AllReady.nil; go_simp; refine hK _ _ ?_; clear hK K; try simp only [Act.put, List.setIfInBounds_toArray, List.set_cons_zero, List.set_cons_succ])
          | (refine wpAny_ready (rs := [23]) (by decide +kernel) (by simp) ?_; refine AllReady.cons rfl (fun K hK => ?_) AllReady.nil; go_simp; refine hK _ _ ?_; clear hK K; try simp only [Act.put, List.setIfInBounds_toArray, List.set_cons_zero, List.set_cons_succ])
          | (refine wpAny_ready (rs := [26]) (by decide +kernel) (by simp) ?_; refine AllReady.cons rfl (fun K hK => ?_) AllReady.nil; go_simp; refine hK _ _ ?_; clear hK K; try simp only [Act.put, List.setIfInBounds_toArray, List.set_cons_zero, List.set_cons_succ])
        first
          | (refine take_l (i := 18) (v := _) rfl (by decide +kernel) (by decide +kernel) (by decide +kernel) (fun _ _ _ h => h) (Or.inl ⟨by kernel_rfl, by (intro w; go_simp; first | done | with_reducible rfl)⟩) ?_; try simp only [Act.put, List.setIfInBounds_toArray, List.set_cons_zero, List.set_cons_succ])
          | (refine take_l (i := 19) (v := _) rfl (by decide +kernel) (by decide +kernel) (by decide +kernel) (fun _ _ _ h => h) (Or.inl ⟨by kernel_rfl, by (intro w; go_simp; first | done | with_reducible rfl)⟩) ?_; try simp only [Act.put, List.setIfInBounds_toArray, List.set_cons_zero, List.set_cons_succ])
          | (refine take_l (i := 21) (v := _) rfl (by decide +kernel) (by decide +kernel) (by decide +kernel) (fun _ _ _ h => h) (Or.inl ⟨by kernel_rfl, by (intro w; go_simp; first | done | with_reducible rfl)⟩) ?_; try simp only [Act.put, List.setIfInBounds_toArray, List.set_cons_zero, List.set_cons_succ])
          | (refine take_l (i := 22) (v := _) rfl (by decide +kernel) (by decide +kernel) (by decide +kernel) (fun _ _ _ h => h) (Or.inl ⟨by kernel_rfl, by (intro w; go_simp; first | done | with_reducible rfl)⟩) ?_; try simp only [Act.put, List.setIfInBounds_toArray, List.set_cons_zero, List.set_cons_succ])
          | (refine take_l (i := 24) (v := _) rfl (by decide +kernel) (by decide +kernel) (by decide +kernel) (fun _ _ _ h => h) (Or.inl ⟨by kernel_rfl, by (intro w; go_simp; first | done | with_reducible rfl)⟩) ?_; try simp only [Act.put, List.setIfInBounds_toArray, List.set_cons_zero, List.set_cons_succ])
          | (refine take_l (i := 25) (v := _) rfl (by decide +kernel) (by decide +kernel) (by decide +kernel) (fun _ _ _ h => h) (Or.inl ⟨by kernel_rfl, by (intro w; go_simp; first | done | with_reducible rfl)⟩) ?_; try simp only [Act.put, List.setIfInBounds_toArray, List.set_cons_zero, List.set_cons_succ])
          | (refine wpAny_ready (rs := [20]) (by decide +kernel) (by simp) ?_; refine AllReady.cons rfl (fun K hK => ?_) AllReady.nil; go_simp; refine hK _ _ ?_; clear hK K; try simp only [Act.put, List.setIfInBounds_toArray, List.set_cons_zero, List.set_cons_succ])
          | (refine wpAny_ready (rs := [23]) (by decide +kernel) (by simp) ?_; refine AllReady.cons rfl (fun K hK => ?_) AllReady.nil; go_simp; refine hK _ _ ?_; clear hK K; try simp only [Act.put, List.setIfInBounds_toArray, List.set_cons_zero, List.set_cons_succ])
          | (refine wpAny_ready (rs := [26]) (by decide +kernel) (by simp) ?_; refine AllReady.cons rfl (fun K hK => ?_) AllReady.nil; go_simp; refine hK _ _ ?_; clear hK K; try simp only [Act.put, List.setIfInBounds_toArray, List.set_cons_zero, List.set_cons_succ])
        first
          | (refine take_l (i := 18) (v := _) rfl (by decide +kernel) (by decide +kernel) (by decide +kernel) (fun _ _ _ h => h) (Or.inl ⟨by kernel_rfl, by (intro w; go_simp; first | done | with_reducible rfl)⟩) ?_; try simp only [Act.put, List.setIfInBounds_toArray, List.set_cons_zero, List.set_cons_succ])
          | (refine take_l (i := 19) (v := _) rfl (by decide +kernel) (by decide +kernel) (by decide +kernel) (fun _ _ _ h => h) (Or.inl ⟨by kernel_rfl, by (intro w; go_simp; first | done | with_reducible rfl)⟩) ?_; try simp only [Act.put, List.setIfInBounds_toArray, List.set_cons_zero, List.set_cons_succ])
          | (refine take_l (i := 21) (v := _) rfl (by decide +kernel) (by decide +kernel) (by decide +kernel) (fun _ _ _ h => h) (Or.inl ⟨by kernel_rfl, by (intro w; go_simp; first | done | with_reducible rfl)⟩) ?_; try simp only [Act.put, List.setIfInBounds_toArray, List.set_cons_zero, List.set_cons_succ])
          | (refine take_l (i := 22) (v := _) rfl (by decide +kernel) (by decide +kernel) (by decide +kernel) (fun _ _ _ h => h) (Or.inl ⟨by kernel_rfl, by (intro w; go_simp; first | done | with_reducible rfl)⟩) ?_; try simp only [Act.put, List.setIfInBounds_toArray, List.set_cons_zero, List.set_cons_succ])
          | (refine take_l (i := 24) (v := _) rfl (by decide +kernel) (by decide +kernel) (by decide +kernel) (fun _ _ _ h => h) (Or.inl ⟨by kernel_rfl, by (intro w; go_simp; first | done | with_reducible rfl)⟩) ?_; try simp only [Act.put, List.setIfInBounds_toArray, List.set_cons_zero, List.set_cons_succ])
          | (refine take_l (i := 25) (v := _) rfl (by decide +kernel) (by decide +kernel) (by decide +kernel) (fun _ _ _ h => h) (Or.inl ⟨by kernel_rfl, by (intro w; go_simp; first | done | with_reducible rfl)⟩) ?_; try simp only [Act.put, List.setIfInBounds_toArray, List.set_cons_zero, List.set_cons_succ])
          | (refine wpAny_ready (rs := [20]) (by decide +kernel) (by simp) ?_; refine AllReady.cons rfl (fun K hK => ?_) AllReady.nil; go_simp; refine hK _ _ ?_; clear hK K; try simp only [Act.put, List.setIfInBounds_toArray, List.set_cons_zero, List.set_cons_succ])
          | (refine wpAny_ready (rs := [23]) (by decide +kernel) (by simp) ?_; refine AllReady.cons rfl (fun K hK => ?_) AllReady.nil; go_simp; refine hK _ _ ?_; clear hK K; try simp only [Act.put, List.setIfInBounds_toArray, List.set_cons_zero, List.set_cons_succ])
          | (refine wpAny_ready (rs := [26]) (by decide +kernel) (by simp) ?_; refine AllReady.cons rfl (fun K hK => ?_) AllReady.nil; go_simp; refine hK _ _ ?_; clear hK K; try simp only [Act.put, List.setIfInBounds_toArray, List.set_cons_zero, List.set_cons_succ])
        first
          | (refine take_l (i := 18) (v := _) rfl (by decide +kernel) (by decide +kernel) (by decide +kernel) (fun _ _ _ h => h) (Or.inl ⟨by kernel_rfl, by (intro w; go_simp; first | done | with_reducible rfl)⟩) ?_; try simp only [Act.put, List.setIfInBounds_toArray, List.set_cons_zero, List.set_cons_succ])
          | (refine take_l (i := 19) (v := _) rfl (by decide +kernel) (by decide +kernel) (by decide +kernel) (fun _ _ _ h => h) (Or.inl ⟨by kernel_rfl, by (intro w; go_simp; first | done | with_reducible rfl)⟩) ?_; try simp only [Act.put, List.setIfInBounds_toArray, List.set_cons_zero, List.set_cons_succ])
          | (refine take_l (i := 21) (v := _) rfl (by decide +kernel) (by decide +kernel) (by decide +kernel) (fun _ _ _ h => h) (Or.inl ⟨by kernel_rfl, by (intro w; go_simp; first | done | with_reducible rfl)⟩) ?_; try simp only [Act.put, List.setIfInBounds_toArray, List.set_cons_zero, List.set_cons_succ])
          | (refine take_l (i := 22) (v := _) rfl (by decide +kernel) (by decide +kernel) (by decide +kernel) (fun _ _ _ h => h) (Or.inl ⟨by kernel_rfl, by (intro w; go_simp; first | done | with_reducible rfl)⟩) ?_; try simp only [Act.put, List.setIfInBounds_toArray, List.set_cons_zero, List.set_cons_succ])
          | (refine take_l (i := 24) (v := _) rfl (by decide +kernel) (by decide +kernel) (by decide +kernel) (fun _ _ _ h => h) (Or.inl ⟨by kernel_rfl, by (intro w; go_simp; first | done | with_reducible rfl)⟩) ?_; try simp only [Act.put, List.setIfInBounds_toArray, List.set_cons_zero, List.set_cons_succ])
          | (refine take_l (i := 25) (v := _) rfl (by decide +kernel) (by decide +kernel) (by decide +kernel) (fun _ _ _ h => h) (Or.inl ⟨by kernel_rfl, by (intro w; go_simp; first | done | with_reducible rfl)⟩) ?_; try simp only [Act.put, List.setIfInBounds_toArray, List.set_cons_zero, List.set_cons_succ])
          | (refine wpAny_ready (rs := [20]) (by decide +kernel) (by simp) ?_; refine AllReady.cons rfl (fun K hK => ?_) AllReady.nil; go_simp; refine hK _ _ ?_; clear hK K; try simp only [Act.put, List.setIfInBounds_toArray, List.set_cons_zero, List.set_cons_succ])
          | (refine wpAny_ready (rs := [23]) (by decide +kernel) (by simp) ?_; refine AllReady.cons rfl (fun K hK => ?_) AllReady.nil; go_simp; refine hK _ _ ?_; clear hK K; try simp only [Act.put, List.setIfInBounds_toArray, List.set_cons_zero, List.set_cons_succ])
          | (refine wpAny_ready (rs := [26]) (by decide +kernel) (by simp) ?_; refine AllReady.cons rfl (fun K hK => ?_) AllReady.nil; go_simp; refine hK _ _ ?_; clear hK K; try simp only [Act.put, List.setIfInBounds_toArray, List.set_cons_zero, List.set_cons_succ])
        first
          | (refine take_l (i := 18) (v := _) rfl (by decide +kernel) (by decide +kernel) (by decide +kernel) (fun _ _ _ h => h) (Or.inl ⟨by kernel_rfl, by (intro w; go_simp; first | done | with_reducible rfl)⟩) ?_; try simp only [Act.put, List.setIfInBounds_toArray, List.set_cons_zero, List.set_cons_succ])
          | (refine take_l (i := 19) (v := _) rfl (by decide +kernel) (by decide +kernel) (by decide +kernel) (fun _ _ _ h => h) (Or.inl ⟨by kernel_rfl, by (intro w; go_simp; first | done | with_reducible rfl)⟩) ?_; try simp only [Act.put, List.setIfInBounds_toArray, List.set_cons_zero, List.set_cons_succ])
          | (refine take_l (i := 21) (v := _) rfl (by decide +kernel) (by decide +kernel) (by decide +kernel) (fun _ _ _ h => h) (Or.inl ⟨by kernel_rfl, by (intro w; go_simp; first | done | with_reducible rfl)⟩) ?_; try simp only [Act.put, List.setIfInBounds_toArray, List.set_cons_zero, List.set_cons_succ])
          | (refine take_l (i := 22) (v := _) rfl (by decide +kernel) (by decide +kernel) (by decide +kernel) (fun _ _ _ h => h) (Or.inl ⟨by kernel_rfl, by (intro w; go_simp; first | done | with_reducible rfl)⟩) ?_; try simp only [Act.put, List.setIfInBounds_toArray, List.set_cons_zero, List.set_cons_succ])
          | (refine take_l (i := 24) (v := _) rfl (by decide +kernel) (by decide +kernel) (by decide +kernel) (fun _ _ _ h => h) (Or.inl ⟨by kernel_rfl, by (intro w; go_simp; first | done | with_reducible rfl)⟩) ?_; try simp only [Act.put, List.setIfInBounds_toArray, List.set_cons_zero, List.set_cons_succ])
          | (refine take_l (i := 25) (v := _) rfl (by decide +kernel) (by decide +kernel) (by decide +kernel) (fun _ _ _ h => h) (Or.inl ⟨by kernel_rfl, by (intro w; go_simp; first | done | with_reducible rfl)⟩) ?_; try simp only [Act.put, List.setIfInBounds_toArray, List.set_cons_zero, List.set_cons_succ])
          | (refine wpAny_ready (rs := [20]) (by decide +kernel) (by simp) ?_; refine AllReady.cons rfl (fun K hK => ?_) AllReady.nil; go_simp; refine hK _ _ ?_; clear hK K; try simp only [Act.put, List.setIfInBounds_toArray, List.set_cons_zero, List.set_cons_succ])
          | (refine wpAny_ready (rs := [23]) (by decide +kernel) (by simp) ?_; refine AllReady.cons rfl (fun K hK => ?_) AllReady.nil; go_simp; refine hK _ _ ?_; clear hK K; try simp only [Act.put, List.setIfInBounds_toArray, List.set_cons_zero, List.set_cons_succ])
          | (refine wpAny_ready (rs := [26]) (by decide +kernel) (by simp) ?_; refine AllReady.cons rfl (fun K hK => ?_) AllReady.nil; go_simp; refine hK _ _ ?_; clear hK K; try simp only [Act.put, List.setIfInBounds_toArray, List.set_cons_zero, List.set_cons_succ])
        first
          | (refine take_l (i := 18) (v := _) rfl (by decide +kernel) (by decide +kernel) (by decide +kernel) (fun _ _ _ h => h) (Or.inl ⟨by kernel_rfl, by (intro w; go_simp; first | done | with_reducible rfl)⟩) ?_; try simp only [Act.put, List.setIfInBounds_toArray, List.set_cons_zero, List.set_cons_succ])
          | (refine take_l (i := 19) (v := _) rfl (by decide +kernel) (by decide +kernel) (by decide +kernel) (fun _ _ _ h => h) (Or.inl ⟨by kernel_rfl, by (intro w; go_simp; first | done | with_reducible rfl)⟩) ?_; try simp only [Act.put, List.setIfInBounds_toArray, List.set_cons_zero, List.set_cons_succ])
          | (refine take_l (i := 21) (v := _) rfl (by decide +kernel) (by decide +kernel) (by decide +kernel) (fun _ _ _ h => h) (Or.inl ⟨by kernel_rfl, by (intro w; go_simp; first | done | with_reducible rfl)⟩) ?_; try simp only [Act.put, List.setIfInBounds_toArray, List.set_cons_zero, List.set_cons_succ])
          | (refine take_l (i := 22) (v := _) rfl (by decide +kernel) (by decide +kernel) (by decide +kernel) (fun _ _ _ h => h) (Or.inl ⟨by kernel_rfl, by (intro w; go_simp; first | done | with_reducible rfl)⟩) ?_; try simp only [Act.put, List.setIfInBounds_toArray, List.set_cons_zero, List.set_cons_succ])
          | (refine take_l (i := 24) (v := _) rfl (by decide +kernel) (by decide +kernel) (by decide +kernel) (fun _ _ _ h => h) (Or.inl ⟨by kernel_rfl, by (intro w; go_simp; first | done | with_reducible rfl)⟩) ?_; try simp only [Act.put, List.setIfInBounds_toArray, List.set_cons_zero, List.set_cons_succ])
          | (refine take_l (i := 25) (v := _) rfl (by decide +kernel) (by decide +kernel) (by decide +kernel) (fun _ _ _ h => h) (Or.inl ⟨by kernel_rfl, by (intro w; go_simp; first | done | with_reducible rfl)⟩) ?_; try simp only [Act.put, List.setIfInBounds_toArray, List.set_cons_zero, List.set_cons_succ])
          | (refine wpAny_ready (rs := [20]) (by decide +kernel) (by simp) ?_; refine AllReady.cons rfl (fun K hK => ?_) AllReady.nil; go_simp; refine hK _ _ ?_; clear hK K; try simp only [Act.put, List.setIfInBounds_toArray, List.set_cons_zero, List.set_cons_succ])
          | (refine wpAny_ready (rs := [23]) (by decide +kernel) (by simp) ?_; refine AllReady.cons rfl (fun K hK => ?_) AllReady.nil; go_simp; refine hK _ _ ?_; clear hK K; try simp only [Act.put, List.setIfInBounds_toArray, List.set_cons_zero, List.set_cons_succ])
          | (refine wpAny_ready (rs := [26]) (by decide +kernel) (by simp) ?_; refine AllReady.cons rfl (fun K hK => ?_) AllReady.nil; go_simp; refine hK _ _ ?_; clear hK K; try simp only [Act.put, List.setIfInBounds_toArray, List.set_cons_zero, List.set_cons_succ])
        first
          | (refine take_l (i := 18) (v := _) rfl (by decide +kernel) (by decide +kernel) (by decide +kernel) (fun _ _ _ h => h) (Or.inl ⟨by kernel_rfl, by (intro w; go_simp; first | done | with_reducible rfl)⟩) ?_; try simp only [Act.put, List.setIfInBounds_toArray, List.set_cons_zero, List.set_cons_succ])
          | (refine take_l (i := 19) (v := _) rfl (by decide +kernel) (by decide +kernel) (by decide +kernel) (fun _ _ _ h => h) (Or.inl ⟨by kernel_rfl, by (intro w; go_simp; first | done | with_reducible rfl)⟩) ?_; try simp only [Act.put, List.setIfInBounds_toArray, List.set_cons_zero, List.set_cons_succ])
          | (refine take_l (i := 21) (v := _) rfl (by decide +kernel) (by decide +kernel) (by decide +kernel) (fun _ _ _ h => h) (Or.inl ⟨by kernel_rfl, by (intro w; go_simp; first | done | with_reducible rfl)⟩) ?_; try simp only [Act.put, List.setIfInBounds_toArray, List.set_cons_zero, List.set_cons_succ])
          | (refine take_l (i := 22) (v := _) rfl (by decide +kernel) (by decide +kernel) (by decide +kernel) (fun _ _ _ h => h) (Or.inl ⟨by kernel_rfl, by (intro w; go_simp; first | done | with_reducible rfl)⟩) ?_; try simp only [Act.put, List.setIfInBounds_toArray, List.set_cons_zero, List.set_cons_succ])
          | (refine take_l (i := 24) (v := _) rfl (by decide +kernel) (by decide +kernel) (by decide +kernel) (fun _ _ _ h => h) (Or.inl ⟨by kernel_rfl, by (intro w; go_simp; first | done | with_reducible rfl)⟩) ?_; try simp only [Act.put, List.setIfInBounds_toArray, List.set_cons_zero, List.set_cons_succ])
          | (refine take_l (i := 25) (v := _) rfl (by decide +kernel) (by decide +kernel) (by decide +kernel) (fun _ _ _ h => h) (Or.inl ⟨by kernel_rfl, by (intro w; go_simp; first | done | with_reducible rfl)⟩) ?_; try simp only [Act.put, List.setIfInBounds_toArray, List.set_cons_zero, List.set_cons_succ])
          | (refine wpAny_ready (rs := [20]) (by decide +kernel) (by simp) ?_; refine AllReady.cons rfl (fun K hK => ?_) AllReady.nil; go_simp; refine hK _ _ ?_; clear hK K; try simp only [Act.put, List.setIfInBounds_toArray, List.set_cons_zero, List.set_cons_succ])
          | (refine wpAny_ready (rs := [23]) (by decide +kernel) (by simp) ?_; refine AllReady.cons rfl (fun K hK => ?_) AllReady.nil; go_simp; refine hK _ _ ?_; clear hK K; try simp only [Act.put, List.setIfInBounds_toArray, List.set_cons_zero, List.set_cons_succ])
          | (refine wpAny_ready (rs := [26]) (by decide +kernel) (by simp) ?_; refine AllReady.cons rfl (fun K hK => ?_) AllReady.nil; go_simp; refine hK _ _ ?_; clear hK K; try simp only [Act.put, List.setIfInBounds_toArray, List.set_cons_zero, List.set_cons_succ])
        first
          | (refine take_l (i := 18) (v := _) rfl (by decide +kernel) (by decide +kernel) (by decide +kernel) (fun _ _ _ h => h) (Or.inl ⟨by kernel_rfl, by (intro w; go_simp; first | done | with_reducible rfl)⟩) ?_; try simp only [Act.put, List.setIfInBounds_toArray, List.set_cons_zero, List.set_cons_succ])
          | (refine take_l (i := 19) (v := _) rfl (by decide +kernel) (by decide +kernel) (by decide +kernel) (fun _ _ _ h => h) (Or.inl ⟨by kernel_rfl, by (intro w; go_simp; first | done | with_reducible rfl)⟩) ?_; try simp only [Act.put, List.setIfInBounds_toArray, List.set_cons_zero, List.set_cons_succ])
          | (refine take_l (i := 21) (v := _) rfl (by decide +kernel) (by decide +kernel) (by decide +kernel) (fun _ _ _ h => h) (Or.inl ⟨by kernel_rfl, by (intro w; go_simp; first | done | with_reducible rfl)⟩) ?_; try simp only [Act.put, List.setIfInBounds_toArray, List.set_cons_zero, List.set_cons_succ])
          | (refine take_l (i := 22) (v := _) rfl (by decide +kernel) (by decide +kernel) (by decide +kernel) (fun _ _ _ h => h) (Or.inl ⟨by kernel_rfl, by (intro w; go_simp; first | done | with_reducible rfl)⟩) ?_; try simp only [Act.put, List.setIfInBounds_toArray, List.set_cons_zero, List.set_cons_succ])
          | (refine take_l (i := 24) (v := _) rfl (by decide +kernel) (by decide +kernel) (by decide +kernel) (fun _ _ _ h => h) (Or.inl ⟨by kernel_rfl, by (intro w; go_simp; first | done | with_reducible rfl)⟩) ?_; try simp only [Act.put, List.setIfInBounds_toArray, List.set_cons_zero, List.set_cons_succ])
          | (refine take_l (i := 25) (v := _) rfl (by decide +kernel) (by decide +kernel) (by decide +kernel) (fun _ _ _ h => h) (Or.inl ⟨by kernel_rfl, by (intro w; go_simp; first | done | with_reducible rfl)⟩) ?_; try simp only [Act.put, List.setIfInBounds_toArray, List.set_cons_zero, List.set_cons_succ])
          | (refine wpAny_ready (rs := [20]) (by decide +kernel) (by simp) ?_; refine AllReady.cons rfl (fun K hK => ?_) AllReady.nil; go_simp; refine hK _ _ ?_; clear hK K; try simp only [Act.put, List.setIfInBounds_toArray, List.set_cons_zero, List.set_cons_succ])
          | (refine wpAny_ready (rs := [23]) (by decide +kernel) (by simp) ?_; refine AllReady.cons rfl (fun K hK => ?_) AllReady.nil; go_simp; refine hK _ _ ?_; clear hK K; try simp only [Act.put, List.setIfInBounds_toArray, List.set_cons_zero, List.set_cons_succ])
          | (refine wpAny_ready (rs := [26]) (by decide +kernel) (by simp) ?_; refine AllReady.cons rfl (fun K hK => ?_) AllReady.nil; go_simp; refine hK _ _ ?_; clear hK K; try simp only [Act.put, List.setIfInBounds_toArray, List.set_cons_zero, List.set_cons_succ])
        first
          | (refine take_l (i := 18) (v := _) rfl (by decide +kernel) (by decide +kernel) (by decide +kernel) (fun _ _ _ h => h) (Or.inl ⟨by kernel_rfl, by (intro w; go_simp; first | done | with_reducible rfl)⟩) ?_; try simp only [Act.put, List.setIfInBounds_toArray, List.set_cons_zero, List.set_cons_succ])
          | (refine take_l (i := 19) (v := _) rfl (by decide +kernel) (by decide +kernel) (by decide +kernel) (fun _ _ _ h => h) (Or.inl ⟨by kernel_rfl, by (intro w; go_simp; first | done | with_reducible rfl)⟩) ?_; try simp only [Act.put, List.setIfInBounds_toArray, List.set_cons_zero, List.set_cons_succ])
          | (refine take_l (i := 21) (v := _) rfl (by decide +kernel) (by decide +kernel) (by decide +kernel) (fun _ _ _ h => h) (Or.inl ⟨by kernel_rfl, by (intro w; go_simp; first | done | with_reducible rfl)⟩) ?_; try simp only [Act.put, List.setIfInBounds_toArray, List.set_cons_zero, List.set_cons_succ])
          | (refine take_l (i := 22) (v := _) rfl (by decide +kernel) (by decide +kernel) (by decide +kernel) (fun _ _ _ h => h) (Or.inl ⟨by kernel_rfl, by (intro w; go_simp; first | done | with_reducible rfl)⟩) ?_; try simp only [Act.put, List.setIfInBounds_toArray, List.set_cons_zero, List.set_cons_succ])
          | (refine take_l (i := 24) (v := _) rfl (by decide +kernel) (by decide +kernel) (by decide +kernel) (fun _ _ _ h => h) (Or.inl ⟨by kernel_rfl, by (intro w; go_simp; first | done | with_reducible rfl)⟩) ?_; try simp only [Act.put, List.setIfInBounds_toArray, List.set_cons_zero, List.set_cons_succ])
          | (refine take_l (i := 25) (v := _) rfl (by decide +kernel) (by decide +kernel) (by decide +kernel) (fun _ _ _ h => h) (Or.inl ⟨by kernel_rfl, by (intro w; go_simp; first | done | with_reducible rfl)⟩) ?_; try simp only [Act.put, List.setIfInBounds_toArray, List.set_cons_zero, List.set_cons_succ])
          | (refine wpAny_ready (rs := [20]) (by decide +kernel) (by simp) ?_; refine AllReady.cons rfl (fun K hK => ?_) AllReady.nil; go_simp; refine hK _ _ ?_; clear hK K; try simp only [Act.put, List.setIfInBounds_toArray, List.set_cons_zero, List.set_cons_succ])
          | (refine wpAny_ready (rs := [23]) (by decide +kernel) (by simp) ?_; refine AllReady.cons rfl (fun K hK => ?_) AllReady.nil; go_simp; refine hK _ _ ?_; clear hK K; try simp only [Act.put, List.setIfInBounds_toArray, List.set_cons_zero, List.set_cons_succ])
          | (refine wpAny_ready (rs := [26]) (by decide +kernel) (by simp) ?_; refine AllReady.cons rfl (fun K hK => ?_) AllReady.nil; go_simp; refine hK _ _ ?_; clear hK K; try simp only [Act.put, List.setIfInBounds_toArray, List.set_cons_zero, List.set_cons_succ])
        refine wpAny_done (by kernel_rfl) ?_ _
        go_wp2_with fail
        go_meet
        obtain ⟨k1, k2, k3, k4⟩ := ownE_set3b (a := .slice A1 x.pkg.con.length C1) (b := .slice A2 x.pkg.brk.length C2) (c := .slice A3 x.pkg.prv.length C3) KK.out _ kZ kB (Nat.le_refl _)
        exact ⟨A1, A2, A3, C1, C2, C3, k1, k2, k3, hsn, hsv, t1.fkeep k4, t2.fkeep k4, t3.fkeep k4, s1.fkeep k4, s2.fkeep k4, s3.fkeep k4⟩
    case rest =>
      obtain ⟨A4, A5, A6, C4, C5, C6, hk1, hk2, hb, hrp⟩ := hcut
      obtain ⟨ux0, ux1, ux2, ux3, ux4, ux5, ux6, ux7, ux8, ux9, ux10⟩ := blk11 hk1
      obtain ⟨kz, kb, kk⟩ := own_set11 (b0 := .string (bs x.pkg.name)) (b1 := .string (bs x.pkg.ver)) (b2 := .slice B1 x.pkg.pre.length D1) (b3 := .slice B2 x.pkg.dep.length D2) (b4 := .slice B3 x.pkg.rcm.length D3) (b5 := .slice A4 x.pkg.con.length C4) (b6 := .slice A5 x.pkg.brk.length C5) (b7 := .slice A6 x.pkg.prv.length C6) (b8 := .bool x.pkg.ess) (b9 := .bool x.conf) (b10 := .bool x.hold) hk2 hb (by omega : w.heap.size ≤ w.heap.size + 1)
      have KZ := Lib.hid kz
      have KB := Lib.hid kb
      have HRP := Lib.hid (RP.fkeep hrp kk)
      obtain ⟨uz0, uz1, uz2, uz3, uz4, uz5, uz6, uz7, uz8, uz9, uz10⟩ := blk11 hk2
      have zf := fun j => hk2.frozen j
      clear hk1 hk2 hb hrp kz kb kk
      go_wp2_with fail
      generalize World.setCell _ _ _ = Wf at KZ KB HRP ⊢
      have hsz := KZ.out.lt
      obtain ⟨uy0, uy1, uy2, uy3, uy4, uy5, uy6, uy7, uy8, uy9, uy10⟩ := blk11 KZ.out
      exact bodyPost_ret (v := .agg #[.string (bs x.pkg.name), .string (bs x.pkg.ver), .slice B1 x.pkg.pre.length D1, .slice B2 x.pkg.dep.length D2, .slice B3 x.pkg.rcm.length D3, .slice A4 x.pkg.con.length C4, .slice A5 x.pkg.brk.length C5, .slice A6 x.pkg.prv.length C6, .bool x.pkg.ess, .bool x.conf, .bool x.hold]) (by simp [results, Tryz.results115, go_sem, uy0, uy1, uy2, uy3, uy4, uy5, uy6, uy7, uy8, uy9, uy10, hsz]) rfl ⟨⟨B1, B2, B3, A4, A5, A6, D1, D2, D3, C4, C5, C6⟩, rfl, HRP.out, KB.out⟩
end Go.Proofs.YtaicidbopgnmfaaGreatDoor
