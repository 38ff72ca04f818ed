/- The law IndexMeets. -/
import Derived.Test.YtflmocamfedbdaaGreatDoorAwA
import Derived.Test.YtflmocamfedbdaaGreatDoorLg
import Derived.Test.YtflmocamfedbdaaGreatDoorHeA
import Derived.Test.YtflmocamfedbdaaGreatDoorRcA
import Derived.Test.YtflmocamfedbdaaGreatDoorStC
import Derived.Deep.RegionHeld3
import Derived.Deep.DrawnRows
namespace Go.Proofs.YtflmocamfedbdaaGreatDoor
set_option linter.unusedSimpArgs false
set_option linter.unusedVariables false
open Go.RowKit
attribute [local go_sem ↓] Go.wp_at_zero Go.wp_at_succ
theorem two_pkgs {W : World} {g : Nat} {p q : Pkg} {r s : Raw} (hB : Blk W g 26 #[.string (bs (p).name), .string (bs (p).ver), .slice (r).a1 (p).pre.length (r).c1, .slice (r).a2 (p).dep.length (r).c2, .slice (r).a3 (p).rcm.length (r).c3, .slice (r).a4 (p).con.length (r).c4, .slice (r).a5 (p).brk.length (r).c5, .slice (r).a6 (p).prv.length (r).c6, .bool (p).ess, .string (bs (q).name), .string (bs (q).ver), .slice (s).a1 (q).pre.length (s).c1, .slice (s).a2 (q).dep.length (s).c2, .slice (s).a3 (q).rcm.length (s).c3, .slice (s).a4 (q).con.length (s).c4, .slice (s).a5 (q).brk.length (s).c5, .slice (s).a6 (q).prv.length (s).c6, .bool (q).ess]) (hp : RP W r p) (hq : RP W s q) : Pkgs W (some ⟨g, 0, none⟩) 2 [p, q] :=
  slcB [encK r p, encK s q] hB rfl rfl (fun i cs x e1 e2 => by
    rcases i with _ | _ | i
    · simp at e1 e2
      subst e1 e2
      exact ⟨⟨r, rfl, hp⟩, rfl⟩
    · simp at e1 e2
      subst e1 e2
      exact ⟨⟨s, rfl, hq⟩, rfl⟩
    · simp at e1) rfl (by show 2 * 184 ≤ _; decide) (by show 2 ≤ _; decide) (by decide)
/-- the three boxes in a world, cell by cell -/
theorem cells21 {W w' : World} {g : Nat} {p q : Pkg} {r s : Raw} {a : Atm} (h1 : Blk W g 26 #[.string (bs (p).name), .string (bs (p).ver), .slice (r).a1 (p).pre.length (r).c1, .slice (r).a2 (p).dep.length (r).c2, .slice (r).a3 (p).rcm.length (r).c3, .slice (r).a4 (p).con.length (r).c4, .slice (r).a5 (p).brk.length (r).c5, .slice (r).a6 (p).prv.length (r).c6, .bool (p).ess]) (h2 : Blk W (g + 1) 26 #[.string (bs (q).name), .string (bs (q).ver), .slice (s).a1 (q).pre.length (s).c1, .slice (s).a2 (q).dep.length (s).c2, .slice (s).a3 (q).rcm.length (s).c3, .slice (s).a4 (q).con.length (s).c4, .slice (s).a5 (q).brk.length (s).c5, .slice (s).a6 (q).prv.length (s).c6, .bool (q).ess]) (h3 : Blk W (g + 1 + 1) 34 #[.string (bs (a).name), .int .i64 (a).rel, .string (bs (a).ver)]) (hb : Below W.heap.size W w') :
    w'.cell? ⟨g, 0, none⟩ = some (.string (bs p.name)) ∧ w'.cell? ⟨g, 1, none⟩ = some (.string (bs p.ver)) ∧ w'.cell? ⟨g, 2, none⟩ = some (.slice r.a1 p.pre.length r.c1) ∧ w'.cell? ⟨g, 3, none⟩ = some (.slice r.a2 p.dep.length r.c2) ∧ w'.cell? ⟨g, 4, none⟩ = some (.slice r.a3 p.rcm.length r.c3) ∧ w'.cell? ⟨g, 5, none⟩ = some (.slice r.a4 p.con.length r.c4) ∧ w'.cell? ⟨g, 6, none⟩ = some (.slice r.a5 p.brk.length r.c5) ∧ w'.cell? ⟨g, 7, none⟩ = some (.slice r.a6 p.prv.length r.c6) ∧ w'.cell? ⟨g, 8, none⟩ = some (.bool p.ess) ∧ w'.cell? ⟨g + 1, 0, none⟩ = some (.string (bs q.name)) ∧ w'.cell? ⟨g + 1, 1, none⟩ = some (.string (bs q.ver)) ∧ w'.cell? ⟨g + 1, 2, none⟩ = some (.slice s.a1 q.pre.length s.c1) ∧ w'.cell? ⟨g + 1, 3, none⟩ = some (.slice s.a2 q.dep.length s.c2) ∧ w'.cell? ⟨g + 1, 4, none⟩ = some (.slice s.a3 q.rcm.length s.c3) ∧ w'.cell? ⟨g + 1, 5, none⟩ = some (.slice s.a4 q.con.length s.c4) ∧ w'.cell? ⟨g + 1, 6, none⟩ = some (.slice s.a5 q.brk.length s.c5) ∧ w'.cell? ⟨g + 1, 7, none⟩ = some (.slice s.a6 q.prv.length s.c6) ∧ w'.cell? ⟨g + 1, 8, none⟩ = some (.bool q.ess) ∧ w'.cell? ⟨g + 1 + 1, 0, none⟩ = some (.string (bs a.name)) ∧ w'.cell? ⟨g + 1 + 1, 1, none⟩ = some (.int .i64 a.rel) ∧ w'.cell? ⟨g + 1 + 1, 2, none⟩ = some (.string (bs a.ver)) ∧ Hid (Below W.heap.size W w') := by
  obtain ⟨x0, x1, x2, x3, x4, x5, x6, x7, x8⟩ := blk9 (h1.next hb)
  obtain ⟨y0, y1, y2, y3, y4, y5, y6, y7, y8⟩ := blk9 (h2.next hb)
  obtain ⟨z0, z1, z2⟩ := blk3 (h3.next hb)
  exact ⟨x0, x1, x2, x3, x4, x5, x6, x7, x8, y0, y1, y2, y3, y4, y5, y6, y7, y8, z0, z1, z2, hb⟩
set_option maxRecDepth 100000 in
set_option maxHeartbeats 4000000 in
theorem meets_yes (p q : Pkg) (r s : Raw) (a : Atm) (w : World) (hp : RP w r p) (hq : RP w s q) (ha : a.ok) (hL : lightM 40 60 30 30 [p, q] = true) :
    Calls Tryz.prog 5 #[(.agg #[.string (bs (p).name), .string (bs (p).ver), .slice (r).a1 (p).pre.length (r).c1, .slice (r).a2 (p).dep.length (r).c2, .slice (r).a3 (p).rcm.length (r).c3, .slice (r).a4 (p).con.length (r).c4, .slice (r).a5 (p).brk.length (r).c5, .slice (r).a6 (p).prv.length (r).c6, .bool (p).ess]), (.agg #[.string (bs (q).name), .string (bs (q).ver), .slice (s).a1 (q).pre.length (s).c1, .slice (s).a2 (q).dep.length (s).c2, .slice (s).a3 (q).rcm.length (s).c3, .slice (s).a4 (q).con.length (s).c4, .slice (s).a5 (q).brk.length (s).c5, .slice (s).a6 (q).prv.length (s).c6, .bool (q).ess]), (.agg #[.string (bs (a).name), .int .i64 (a).rel, .string (bs (a).ver)])] w fun e w' => e = .returned (.bool true) ∧ Below w.heap.size w w' := by
  have HP := Lib.hid hp
  have HQ := Lib.hid hq
  have HL := Lib.hid hL
  clear hp hq hL
  go_enter Tryz.func5, Tryz.ntmps5
  go_wp2_with fail
  have K1 := Lib.hid (show Blk (((w.alloc (.cells #[.string (bs (p).name), .string (bs (p).ver), .slice (r).a1 (p).pre.length (r).c1, .slice (r).a2 (p).dep.length (r).c2, .slice (r).a3 (p).rcm.length (r).c3, .slice (r).a4 (p).con.length (r).c4, .slice (r).a5 (p).brk.length (r).c5, .slice (r).a6 (p).prv.length (r).c6, .bool (p).ess] 26)).alloc (.cells #[.string (bs (q).name), .string (bs (q).ver), .slice (s).a1 (q).pre.length (s).c1, .slice (s).a2 (q).dep.length (s).c2, .slice (s).a3 (q).rcm.length (s).c3, .slice (s).a4 (q).con.length (s).c4, .slice (s).a5 (q).brk.length (s).c5, .slice (s).a6 (q).prv.length (s).c6, .bool (q).ess] 26)).alloc (.cells #[.string (bs (a).name), .int .i64 (a).rel, .string (bs (a).ver)] 34)) w.heap.size 26 #[.string (bs (p).name), .string (bs (p).ver), .slice (r).a1 (p).pre.length (r).c1, .slice (r).a2 (p).dep.length (r).c2, .slice (r).a3 (p).rcm.length (r).c3, .slice (r).a4 (p).con.length (r).c4, .slice (r).a5 (p).brk.length (r).c5, .slice (r).a6 (p).prv.length (r).c6, .bool (p).ess] from Blk.alloc (Blk.alloc (blk_new1 _ _ _) _) _)
  have K2 := Lib.hid (show Blk (((w.alloc (.cells #[.string (bs (p).name), .string (bs (p).ver), .slice (r).a1 (p).pre.length (r).c1, .slice (r).a2 (p).dep.length (r).c2, .slice (r).a3 (p).rcm.length (r).c3, .slice (r).a4 (p).con.length (r).c4, .slice (r).a5 (p).brk.length (r).c5, .slice (r).a6 (p).prv.length (r).c6, .bool (p).ess] 26)).alloc (.cells #[.string (bs (q).name), .string (bs (q).ver), .slice (s).a1 (q).pre.length (s).c1, .slice (s).a2 (q).dep.length (s).c2, .slice (s).a3 (q).rcm.length (s).c3, .slice (s).a4 (q).con.length (s).c4, .slice (s).a5 (q).brk.length (s).c5, .slice (s).a6 (q).prv.length (s).c6, .bool (q).ess] 26)).alloc (.cells #[.string (bs (a).name), .int .i64 (a).rel, .string (bs (a).ver)] 34)) (w.heap.size + 1) 26 #[.string (bs (q).name), .string (bs (q).ver), .slice (s).a1 (q).pre.length (s).c1, .slice (s).a2 (q).dep.length (s).c2, .slice (s).a3 (q).rcm.length (s).c3, .slice (s).a4 (q).con.length (s).c4, .slice (s).a5 (q).brk.length (s).c5, .slice (s).a6 (q).prv.length (s).c6, .bool (q).ess] from Blk.alloc (blk_new2 _ _ _ _) _)
  have K3 := Lib.hid (show Blk (((w.alloc (.cells #[.string (bs (p).name), .string (bs (p).ver), .slice (r).a1 (p).pre.length (r).c1, .slice (r).a2 (p).dep.length (r).c2, .slice (r).a3 (p).rcm.length (r).c3, .slice (r).a4 (p).con.length (r).c4, .slice (r).a5 (p).brk.length (r).c5, .slice (r).a6 (p).prv.length (r).c6, .bool (p).ess] 26)).alloc (.cells #[.string (bs (q).name), .string (bs (q).ver), .slice (s).a1 (q).pre.length (s).c1, .slice (s).a2 (q).dep.length (s).c2, .slice (s).a3 (q).rcm.length (s).c3, .slice (s).a4 (q).con.length (s).c4, .slice (s).a5 (q).brk.length (s).c5, .slice (s).a6 (q).prv.length (s).c6, .bool (q).ess] 26)).alloc (.cells #[.string (bs (a).name), .int .i64 (a).rel, .string (bs (a).ver)] 34)) (w.heap.size + 1 + 1) 34 #[.string (bs (a).name), .int .i64 (a).rel, .string (bs (a).ver)] from blk_new3 _ _ _ _ _)
  have HB := Lib.hid (show Below w.heap.size w (((w.alloc (.cells #[.string (bs (p).name), .string (bs (p).ver), .slice (r).a1 (p).pre.length (r).c1, .slice (r).a2 (p).dep.length (r).c2, .slice (r).a3 (p).rcm.length (r).c3, .slice (r).a4 (p).con.length (r).c4, .slice (r).a5 (p).brk.length (r).c5, .slice (r).a6 (p).prv.length (r).c6, .bool (p).ess] 26)).alloc (.cells #[.string (bs (q).name), .string (bs (q).ver), .slice (s).a1 (q).pre.length (s).c1, .slice (s).a2 (q).dep.length (s).c2, .slice (s).a3 (q).rcm.length (s).c3, .slice (s).a4 (q).con.length (s).c4, .slice (s).a5 (q).brk.length (s).c5, .slice (s).a6 (q).prv.length (s).c6, .bool (q).ess] 26)).alloc (.cells #[.string (bs (a).name), .int .i64 (a).rel, .string (bs (a).ver)] 34)) from below_alloc (below_alloc (below_alloc (Below.refl _ _) _) _) _)
  generalize World.alloc _ _ = W at K1 K2 K3 HB ⊢
  have a0 := fun (w2 : World) (h : Hid (Below W.heap.size W w2)) => (cells21 K1.out K2.out K3.out h.out).1
  have a1 := fun (w2 : World) (h : Hid (Below W.heap.size W w2)) => (cells21 K1.out K2.out K3.out h.out).2.1
  have a2 := fun (w2 : World) (h : Hid (Below W.heap.size W w2)) => (cells21 K1.out K2.out K3.out h.out).2.2.1
  have a3 := fun (w2 : World) (h : Hid (Below W.heap.size W w2)) => (cells21 K1.out K2.out K3.out h.out).2.2.2.1
  have a4 := fun (w2 : World) (h : Hid (Below W.heap.size W w2)) => (cells21 K1.out K2.out K3.out h.out).2.2.2.2.1
  have a5 := fun (w2 : World) (h : Hid (Below W.heap.size W w2)) => (cells21 K1.out K2.out K3.out h.out).2.2.2.2.2.1
  have a6 := fun (w2 : World) (h : Hid (Below W.heap.size W w2)) => (cells21 K1.out K2.out K3.out h.out).2.2.2.2.2.2.1
  have a7 := fun (w2 : World) (h : Hid (Below W.heap.size W w2)) => (cells21 K1.out K2.out K3.out h.out).2.2.2.2.2.2.2.1
  have a8 := fun (w2 : World) (h : Hid (Below W.heap.size W w2)) => (cells21 K1.out K2.out K3.out h.out).2.2.2.2.2.2.2.2.1
  have b0 := fun (w2 : World) (h : Hid (Below W.heap.size W w2)) => (cells21 K1.out K2.out K3.out h.out).2.2.2.2.2.2.2.2.2.1
  have b1 := fun (w2 : World) (h : Hid (Below W.heap.size W w2)) => (cells21 K1.out K2.out K3.out h.out).2.2.2.2.2.2.2.2.2.2.1
  have b2 := fun (w2 : World) (h : Hid (Below W.heap.size W w2)) => (cells21 K1.out K2.out K3.out h.out).2.2.2.2.2.2.2.2.2.2.2.1
  have b3 := fun (w2 : World) (h : Hid (Below W.heap.size W w2)) => (cells21 K1.out K2.out K3.out h.out).2.2.2.2.2.2.2.2.2.2.2.2.1
  have b4 := fun (w2 : World) (h : Hid (Below W.heap.size W w2)) => (cells21 K1.out K2.out K3.out h.out).2.2.2.2.2.2.2.2.2.2.2.2.2.1
  have b5 := fun (w2 : World) (h : Hid (Below W.heap.size W w2)) => (cells21 K1.out K2.out K3.out h.out).2.2.2.2.2.2.2.2.2.2.2.2.2.2.1
  have b6 := fun (w2 : World) (h : Hid (Below W.heap.size W w2)) => (cells21 K1.out K2.out K3.out h.out).2.2.2.2.2.2.2.2.2.2.2.2.2.2.2.1
  have b7 := fun (w2 : World) (h : Hid (Below W.heap.size W w2)) => (cells21 K1.out K2.out K3.out h.out).2.2.2.2.2.2.2.2.2.2.2.2.2.2.2.2.1
  have b8 := fun (w2 : World) (h : Hid (Below W.heap.size W w2)) => (cells21 K1.out K2.out K3.out h.out).2.2.2.2.2.2.2.2.2.2.2.2.2.2.2.2.2.1
  have c0 := fun (w2 : World) (h : Hid (Below W.heap.size W w2)) => (cells21 K1.out K2.out K3.out h.out).2.2.2.2.2.2.2.2.2.2.2.2.2.2.2.2.2.2.1
  have c1 := fun (w2 : World) (h : Hid (Below W.heap.size W w2)) => (cells21 K1.out K2.out K3.out h.out).2.2.2.2.2.2.2.2.2.2.2.2.2.2.2.2.2.2.2.1
  have c2 := fun (w2 : World) (h : Hid (Below W.heap.size W w2)) => (cells21 K1.out K2.out K3.out h.out).2.2.2.2.2.2.2.2.2.2.2.2.2.2.2.2.2.2.2.2.1
  have HK := Lib.hid (show Kept w W from Kept.of_below HB.out)
  go_region_held3 (fun w' => Hid (Below W.heap.size W w')) (first | with_reducible assumption | exact HB6 | exact HB5 | exact HB4 | exact HB3 | exact HB2 | exact HB1 | exact Lib.hid (below_drewN (Below.refl _ _) 1) | (have hh := (by assumption : Hid (Below W.heap.size W _)); exact Lib.hid (below_alloc hh.out _)))
    (first | (go_at_call 11; have hh := (by assumption : Hid (Below W.heap.size W _)); refine (light10_any _ 2 [p, q] _ (two_pkgs ((blk_new1 W _ _).drewN 1) (HP.out.kept (HK.out.trans (Kept.of_below hh.out))) (HQ.out.kept (HK.out.trans (Kept.of_below hh.out))))).mono ?_; rintro e w1 ⟨rfl, hb1⟩; rw [HL.out]; have HB1 := Lib.hid (below_next hh.out hb1); clear hb1) | (go_at_call 16; have hh := (by assumption : Hid (Below W.heap.size W _)); refine (sat_any p r a _ (HP.out.kept (HK.out.trans (Kept.of_below hh.out))) ha).mono ?_; rintro e w2 ⟨rfl, hb2⟩; have HB2 := Lib.hid (below_next hh.out hb2); clear hb2) | (go_at_call 17; have hh := (by assumption : Hid (Below W.heap.size W _)); refine (rsat_any p r a _ (HP.out.kept (HK.out.trans (Kept.of_below hh.out))) ha).mono ?_; rintro e w3 ⟨rfl, hb3⟩; have HB3 := Lib.hid (below_next hh.out hb3); clear hb3) | (go_at_call 18; have hh := (by assumption : Hid (Below W.heap.size W _)); refine (clash_any p q r s _ (HP.out.kept (HK.out.trans (Kept.of_below hh.out))) (HQ.out.kept (HK.out.trans (Kept.of_below hh.out)))).mono ?_; rintro e w4 ⟨rfl, hb4⟩; have HB4 := Lib.hid (below_next hh.out hb4); clear hb4) | (go_at_call 19; have hh := (by assumption : Hid (Below W.heap.size W _)); refine (rclash_any p q r s _ (HP.out.kept (HK.out.trans (Kept.of_below hh.out))) (HQ.out.kept (HK.out.trans (Kept.of_below hh.out)))).mono ?_; rintro e w5 ⟨rfl, hb5⟩; have HB5 := Lib.hid (below_next hh.out hb5); clear hb5) | (go_at_call 14; have hh := (by assumption : Hid (Below W.heap.size W _)); refine (awake10_any _).mono ?_; rintro e w6 ⟨rfl, hb6⟩; have HB6 := Lib.hid (below_next hh.out hb6); clear hb6))
  all_goals
    go_wp2
    go_ret
    exact ⟨rfl, below_next HB.out HB6.out⟩
set_option maxRecDepth 100000 in
set_option maxHeartbeats 4000000 in
theorem meets_no (p q : Pkg) (r s : Raw) (a : Atm) (w : World) (hp : RP w r p) (hq : RP w s q) (ha : a.ok) (hL : lightM 40 60 30 30 [p, q] = false) :
    Calls Tryz.prog 5 #[(.agg #[.string (bs (p).name), .string (bs (p).ver), .slice (r).a1 (p).pre.length (r).c1, .slice (r).a2 (p).dep.length (r).c2, .slice (r).a3 (p).rcm.length (r).c3, .slice (r).a4 (p).con.length (r).c4, .slice (r).a5 (p).brk.length (r).c5, .slice (r).a6 (p).prv.length (r).c6, .bool (p).ess]), (.agg #[.string (bs (q).name), .string (bs (q).ver), .slice (s).a1 (q).pre.length (s).c1, .slice (s).a2 (q).dep.length (s).c2, .slice (s).a3 (q).rcm.length (s).c3, .slice (s).a4 (q).con.length (s).c4, .slice (s).a5 (q).brk.length (s).c5, .slice (s).a6 (q).prv.length (s).c6, .bool (q).ess]), (.agg #[.string (bs (a).name), .int .i64 (a).rel, .string (bs (a).ver)])] w fun e w' => e = .returned (.bool true) ∧ Below w.heap.size w w' := by
  have HP := Lib.hid hp
  have HQ := Lib.hid hq
  have HL := Lib.hid hL
  clear hp hq hL
  go_enter Tryz.func5, Tryz.ntmps5
  go_wp2_with fail
  have K1 := Lib.hid (show Blk (((w.alloc (.cells #[.string (bs (p).name), .string (bs (p).ver), .slice (r).a1 (p).pre.length (r).c1, .slice (r).a2 (p).dep.length (r).c2, .slice (r).a3 (p).rcm.length (r).c3, .slice (r).a4 (p).con.length (r).c4, .slice (r).a5 (p).brk.length (r).c5, .slice (r).a6 (p).prv.length (r).c6, .bool (p).ess] 26)).alloc (.cells #[.string (bs (q).name), .string (bs (q).ver), .slice (s).a1 (q).pre.length (s).c1, .slice (s).a2 (q).dep.length (s).c2, .slice (s).a3 (q).rcm.length (s).c3, .slice (s).a4 (q).con.length (s).c4, .slice (s).a5 (q).brk.length (s).c5, .slice (s).a6 (q).prv.length (s).c6, .bool (q).ess] 26)).alloc (.cells #[.string (bs (a).name), .int .i64 (a).rel, .string (bs (a).ver)] 34)) w.heap.size 26 #[.string (bs (p).name), .string (bs (p).ver), .slice (r).a1 (p).pre.length (r).c1, .slice (r).a2 (p).dep.length (r).c2, .slice (r).a3 (p).rcm.length (r).c3, .slice (r).a4 (p).con.length (r).c4, .slice (r).a5 (p).brk.length (r).c5, .slice (r).a6 (p).prv.length (r).c6, .bool (p).ess] from Blk.alloc (Blk.alloc (blk_new1 _ _ _) _) _)
  have K2 := Lib.hid (show Blk (((w.alloc (.cells #[.string (bs (p).name), .string (bs (p).ver), .slice (r).a1 (p).pre.length (r).c1, .slice (r).a2 (p).dep.length (r).c2, .slice (r).a3 (p).rcm.length (r).c3, .slice (r).a4 (p).con.length (r).c4, .slice (r).a5 (p).brk.length (r).c5, .slice (r).a6 (p).prv.length (r).c6, .bool (p).ess] 26)).alloc (.cells #[.string (bs (q).name), .string (bs (q).ver), .slice (s).a1 (q).pre.length (s).c1, .slice (s).a2 (q).dep.length (s).c2, .slice (s).a3 (q).rcm.length (s).c3, .slice (s).a4 (q).con.length (s).c4, .slice (s).a5 (q).brk.length (s).c5, .slice (s).a6 (q).prv.length (s).c6, .bool (q).ess] 26)).alloc (.cells #[.string (bs (a).name), .int .i64 (a).rel, .string (bs (a).ver)] 34)) (w.heap.size + 1) 26 #[.string (bs (q).name), .string (bs (q).ver), .slice (s).a1 (q).pre.length (s).c1, .slice (s).a2 (q).dep.length (s).c2, .slice (s).a3 (q).rcm.length (s).c3, .slice (s).a4 (q).con.length (s).c4, .slice (s).a5 (q).brk.length (s).c5, .slice (s).a6 (q).prv.length (s).c6, .bool (q).ess] from Blk.alloc (blk_new2 _ _ _ _) _)
  have K3 := Lib.hid (show Blk (((w.alloc (.cells #[.string (bs (p).name), .string (bs (p).ver), .slice (r).a1 (p).pre.length (r).c1, .slice (r).a2 (p).dep.length (r).c2, .slice (r).a3 (p).rcm.length (r).c3, .slice (r).a4 (p).con.length (r).c4, .slice (r).a5 (p).brk.length (r).c5, .slice (r).a6 (p).prv.length (r).c6, .bool (p).ess] 26)).alloc (.cells #[.string (bs (q).name), .string (bs (q).ver), .slice (s).a1 (q).pre.length (s).c1, .slice (s).a2 (q).dep.length (s).c2, .slice (s).a3 (q).rcm.length (s).c3, .slice (s).a4 (q).con.length (s).c4, .slice (s).a5 (q).brk.length (s).c5, .slice (s).a6 (q).prv.length (s).c6, .bool (q).ess] 26)).alloc (.cells #[.string (bs (a).name), .int .i64 (a).rel, .string (bs (a).ver)] 34)) (w.heap.size + 1 + 1) 34 #[.string (bs (a).name), .int .i64 (a).rel, .string (bs (a).ver)] from blk_new3 _ _ _ _ _)
  have HB := Lib.hid (show Below w.heap.size w (((w.alloc (.cells #[.string (bs (p).name), .string (bs (p).ver), .slice (r).a1 (p).pre.length (r).c1, .slice (r).a2 (p).dep.length (r).c2, .slice (r).a3 (p).rcm.length (r).c3, .slice (r).a4 (p).con.length (r).c4, .slice (r).a5 (p).brk.length (r).c5, .slice (r).a6 (p).prv.length (r).c6, .bool (p).ess] 26)).alloc (.cells #[.string (bs (q).name), .string (bs (q).ver), .slice (s).a1 (q).pre.length (s).c1, .slice (s).a2 (q).dep.length (s).c2, .slice (s).a3 (q).rcm.length (s).c3, .slice (s).a4 (q).con.length (s).c4, .slice (s).a5 (q).brk.length (s).c5, .slice (s).a6 (q).prv.length (s).c6, .bool (q).ess] 26)).alloc (.cells #[.string (bs (a).name), .int .i64 (a).rel, .string (bs (a).ver)] 34)) from below_alloc (below_alloc (below_alloc (Below.refl _ _) _) _) _)
  generalize World.alloc _ _ = W at K1 K2 K3 HB ⊢
  obtain ⟨a0, a1, a2, a3, a4, a5, a6, a7, a8⟩ := blk9 K1.out
  obtain ⟨b0, b1, b2, b3, b4, b5, b6, b7, b8⟩ := blk9 K2.out
  have HK := Lib.hid (show Kept w W from Kept.of_below HB.out)
  refine wp_region_any (by kernel_rfl) ?_
  try (change wpAny _ _ _ _ _ _ _ (World.drew _))
  refine wpAny_ready (rs := [0, 1]) (by kernel_rfl) (by simp) ?_
  refine AllReady.cons rfl (fun K hK => ?_) (AllReady.cons rfl (fun K hK => ?_) AllReady.nil)
  all_goals (go_simp; refine hK _ _ ?_; clear hK K; try simp only [Act.put, List.setIfInBounds_toArray, List.set_cons_zero, List.set_cons_succ])
  · (refine wpAny_ready (rs := [1]) (by kernel_rfl) (by simp) ?_; refine AllReady.cons rfl (fun K hK => ?_) AllReady.nil; go_simp; refine hK _ _ ?_; clear hK K; try simp only [Act.put, List.setIfInBounds_toArray, List.set_cons_zero, List.set_cons_succ])
    (refine wpAny_ready (rs := [2]) (by kernel_rfl) (by simp) ?_; refine AllReady.cons rfl (fun K hK => ?_) AllReady.nil; go_simp; refine hK _ _ ?_; clear hK K; try simp only [Act.put, List.setIfInBounds_toArray, List.set_cons_zero, List.set_cons_succ])
    refine wpAny_ready (rs := [3]) (by kernel_rfl) (by simp) ?_
    refine AllReady.cons rfl (fun K hK => ?_) AllReady.nil
    go_simp
    refine (light10_any _ 2 [p, q] _ (two_pkgs ((blk_new1 W _ _).drewN 1) (HP.out.kept (HK.out.trans (Kept.alloc _ _))) (HQ.out.kept (HK.out.trans (Kept.alloc _ _))))).mono ?_
    rintro e w1 ⟨rfl, hb1⟩
    rw [HL.out]
    have HB1 := Lib.hid (below_next (below_next HB.out (below_drewN (below_alloc (Below.refl _ _) _) 1)) hb1)
    clear hb1
    refine hK _ _ ?_
    clear hK K
    try simp only [Act.put, List.setIfInBounds_toArray, List.set_cons_zero, List.set_cons_succ]
    (refine wpAny_take (i := 4) (v := .bool true) rfl (by kernel_rfl) (by kernel_rfl) (by kernel_rfl) (fun _ _ _ h => h) (Or.inl ⟨by kernel_rfl, by (intro w; go_simp; first | done | with_reducible rfl)⟩) ?_; try simp only [Act.put, List.setIfInBounds_toArray, List.set_cons_zero, List.set_cons_succ])
    (refine wpAny_take (i := 5) (v := .bool true) rfl (by kernel_rfl) (by kernel_rfl) (by kernel_rfl) (fun _ _ _ h => h) (Or.inl ⟨by kernel_rfl, by (intro w; go_simp; first | done | with_reducible rfl)⟩) ?_; try simp only [Act.put, List.setIfInBounds_toArray, List.set_cons_zero, List.set_cons_succ])
    (refine wpAny_take (i := 6) (v := undef) rfl (by kernel_rfl) (by kernel_rfl) (by kernel_rfl) (fun _ _ _ h => h) (Or.inr ⟨by kernel_rfl, rfl⟩) ?_; try simp only [Act.put, List.setIfInBounds_toArray, List.set_cons_zero, List.set_cons_succ])
    (refine wpAny_take (i := 7) (v := undef) rfl (by kernel_rfl) (by kernel_rfl) (by kernel_rfl) (fun _ _ _ h => h) (Or.inr ⟨by kernel_rfl, rfl⟩) ?_; try simp only [Act.put, List.setIfInBounds_toArray, List.set_cons_zero, List.set_cons_succ])
    (refine wpAny_take (i := 8) (v := undef) rfl (by kernel_rfl) (by kernel_rfl) (by kernel_rfl) (fun _ _ _ h => h) (Or.inr ⟨by kernel_rfl, rfl⟩) ?_; try simp only [Act.put, List.setIfInBounds_toArray, List.set_cons_zero, List.set_cons_succ])
    (refine wpAny_take (i := 9) (v := undef) rfl (by kernel_rfl) (by kernel_rfl) (by kernel_rfl) (fun _ _ _ h => h) (Or.inr ⟨by kernel_rfl, rfl⟩) ?_; try simp only [Act.put, List.setIfInBounds_toArray, List.set_cons_zero, List.set_cons_succ])
    (refine wpAny_take (i := 10) (v := undef) rfl (by kernel_rfl) (by kernel_rfl) (by kernel_rfl) (fun _ _ _ h => h) (Or.inr ⟨by kernel_rfl, rfl⟩) ?_; try simp only [Act.put, List.setIfInBounds_toArray, List.set_cons_zero, List.set_cons_succ])
    (refine wpAny_take (i := 11) (v := undef) rfl (by kernel_rfl) (by kernel_rfl) (by kernel_rfl) (fun _ _ _ h => h) (Or.inr ⟨by kernel_rfl, rfl⟩) ?_; try simp only [Act.put, List.setIfInBounds_toArray, List.set_cons_zero, List.set_cons_succ])
    (refine wpAny_take (i := 12) (v := undef) rfl (by kernel_rfl) (by kernel_rfl) (by kernel_rfl) (fun _ _ _ h => h) (Or.inr ⟨by kernel_rfl, rfl⟩) ?_; try simp only [Act.put, List.setIfInBounds_toArray, List.set_cons_zero, List.set_cons_succ])
    (refine wpAny_take (i := 13) (v := undef) rfl (by kernel_rfl) (by kernel_rfl) (by kernel_rfl) (fun _ _ _ h => h) (Or.inr ⟨by kernel_rfl, rfl⟩) ?_; try simp only [Act.put, List.setIfInBounds_toArray, List.set_cons_zero, List.set_cons_succ])
    (refine wpAny_take (i := 14) (v := undef) rfl (by kernel_rfl) (by kernel_rfl) (by kernel_rfl) (fun _ _ _ h => h) (Or.inr ⟨by kernel_rfl, rfl⟩) ?_; try simp only [Act.put, List.setIfInBounds_toArray, List.set_cons_zero, List.set_cons_succ])
    (refine wpAny_take (i := 15) (v := undef) rfl (by kernel_rfl) (by kernel_rfl) (by kernel_rfl) (fun _ _ _ h => h) (Or.inr ⟨by kernel_rfl, rfl⟩) ?_; try simp only [Act.put, List.setIfInBounds_toArray, List.set_cons_zero, List.set_cons_succ])
    (refine wpAny_take (i := 16) (v := undef) rfl (by kernel_rfl) (by kernel_rfl) (by kernel_rfl) (fun _ _ _ h => h) (Or.inr ⟨by kernel_rfl, rfl⟩) ?_; try simp only [Act.put, List.setIfInBounds_toArray, List.set_cons_zero, List.set_cons_succ])
    (refine wpAny_take (i := 17) (v := undef) rfl (by kernel_rfl) (by kernel_rfl) (by kernel_rfl) (fun _ _ _ h => h) (Or.inr ⟨by kernel_rfl, rfl⟩) ?_; try simp only [Act.put, List.setIfInBounds_toArray, List.set_cons_zero, List.set_cons_succ])
    (refine wpAny_take (i := 18) (v := undef) rfl (by kernel_rfl) (by kernel_rfl) (by kernel_rfl) (fun _ _ _ h => h) (Or.inr ⟨by kernel_rfl, rfl⟩) ?_; try simp only [Act.put, List.setIfInBounds_toArray, List.set_cons_zero, List.set_cons_succ])
    (refine wpAny_take (i := 19) (v := undef) rfl (by kernel_rfl) (by kernel_rfl) (by kernel_rfl) (fun _ _ _ h => h) (Or.inr ⟨by kernel_rfl, rfl⟩) ?_; try simp only [Act.put, List.setIfInBounds_toArray, List.set_cons_zero, List.set_cons_succ])
    (refine wpAny_take (i := 20) (v := undef) rfl (by kernel_rfl) (by kernel_rfl) (by kernel_rfl) (fun _ _ _ h => h) (Or.inr ⟨by kernel_rfl, rfl⟩) ?_; try simp only [Act.put, List.setIfInBounds_toArray, List.set_cons_zero, List.set_cons_succ])
    (refine wpAny_take (i := 21) (v := undef) rfl (by kernel_rfl) (by kernel_rfl) (by kernel_rfl) (fun _ _ _ h => h) (Or.inr ⟨by kernel_rfl, rfl⟩) ?_; try simp only [Act.put, List.setIfInBounds_toArray, List.set_cons_zero, List.set_cons_succ])
    (refine wpAny_take (i := 22) (v := undef) rfl (by kernel_rfl) (by kernel_rfl) (by kernel_rfl) (fun _ _ _ h => h) (Or.inr ⟨by kernel_rfl, rfl⟩) ?_; try simp only [Act.put, List.setIfInBounds_toArray, List.set_cons_zero, List.set_cons_succ])
    (refine wpAny_take (i := 23) (v := undef) rfl (by kernel_rfl) (by kernel_rfl) (by kernel_rfl) (fun _ _ _ h => h) (Or.inr ⟨by kernel_rfl, rfl⟩) ?_; try simp only [Act.put, List.setIfInBounds_toArray, List.set_cons_zero, List.set_cons_succ])
    (refine wpAny_take (i := 24) (v := undef) rfl (by kernel_rfl) (by kernel_rfl) (by kernel_rfl) (fun _ _ _ h => h) (Or.inr ⟨by kernel_rfl, rfl⟩) ?_; try simp only [Act.put, List.setIfInBounds_toArray, List.set_cons_zero, List.set_cons_succ])
    (refine wpAny_ready (rs := [25]) (by kernel_rfl) (by simp) ?_; refine AllReady.cons rfl (fun K hK => ?_) AllReady.nil; go_simp; refine hK _ _ ?_; clear hK K; try simp only [Act.put, List.setIfInBounds_toArray, List.set_cons_zero, List.set_cons_succ])
    (refine wpAny_ready (rs := [26]) (by kernel_rfl) (by simp) ?_; refine AllReady.cons rfl (fun K hK => ?_) AllReady.nil; go_simp; refine hK _ _ ?_; clear hK K; try simp only [Act.put, List.setIfInBounds_toArray, List.set_cons_zero, List.set_cons_succ])
    refine wpAny_done (by kernel_rfl) ?_ _
    go_wp2
    go_ret
    exact ⟨rfl, HB1.out⟩
  · (refine wpAny_ready (rs := [0]) (by kernel_rfl) (by simp) ?_; refine AllReady.cons rfl (fun K hK => ?_) AllReady.nil; go_simp; refine hK _ _ ?_; clear hK K; try simp only [Act.put, List.setIfInBounds_toArray, List.set_cons_zero, List.set_cons_succ])
    (refine wpAny_ready (rs := [2]) (by kernel_rfl) (by simp) ?_; refine AllReady.cons rfl (fun K hK => ?_) AllReady.nil; go_simp; refine hK _ _ ?_; clear hK K; try simp only [Act.put, List.setIfInBounds_toArray, List.set_cons_zero, List.set_cons_succ])
    refine wpAny_ready (rs := [3]) (by kernel_rfl) (by simp) ?_
    refine AllReady.cons rfl (fun K hK => ?_) AllReady.nil
    go_simp
    refine (light10_any _ 2 [p, q] _ (two_pkgs ((blk_new1 W _ _).drewN 1) (HP.out.kept (HK.out.trans (Kept.alloc _ _))) (HQ.out.kept (HK.out.trans (Kept.alloc _ _))))).mono ?_
    rintro e w1 ⟨rfl, hb1⟩
    rw [HL.out]
    have HB1 := Lib.hid (below_next (below_next HB.out (below_drewN (below_alloc (Below.refl _ _) _) 1)) hb1)
    clear hb1
    refine hK _ _ ?_
    clear hK K
    try simp only [Act.put, List.setIfInBounds_toArray, List.set_cons_zero, List.set_cons_succ]
    (refine wpAny_take (i := 4) (v := .bool true) rfl (by kernel_rfl) (by kernel_rfl) (by kernel_rfl) (fun _ _ _ h => h) (Or.inl ⟨by kernel_rfl, by (intro w; go_simp; first | done | with_reducible rfl)⟩) ?_; try simp only [Act.put, List.setIfInBounds_toArray, List.set_cons_zero, List.set_cons_succ])
    (refine wpAny_take (i := 5) (v := .bool true) rfl (by kernel_rfl) (by kernel_rfl) (by kernel_rfl) (fun _ _ _ h => h) (Or.inl ⟨by kernel_rfl, by (intro w; go_simp; first | done | with_reducible rfl)⟩) ?_; try simp only [Act.put, List.setIfInBounds_toArray, List.set_cons_zero, List.set_cons_succ])
    (refine wpAny_take (i := 6) (v := undef) rfl (by kernel_rfl) (by kernel_rfl) (by kernel_rfl) (fun _ _ _ h => h) (Or.inr ⟨by kernel_rfl, rfl⟩) ?_; try simp only [Act.put, List.setIfInBounds_toArray, List.set_cons_zero, List.set_cons_succ])
    (refine wpAny_take (i := 7) (v := undef) rfl (by kernel_rfl) (by kernel_rfl) (by kernel_rfl) (fun _ _ _ h => h) (Or.inr ⟨by kernel_rfl, rfl⟩) ?_; try simp only [Act.put, List.setIfInBounds_toArray, List.set_cons_zero, List.set_cons_succ])
    (refine wpAny_take (i := 8) (v := undef) rfl (by kernel_rfl) (by kernel_rfl) (by kernel_rfl) (fun _ _ _ h => h) (Or.inr ⟨by kernel_rfl, rfl⟩) ?_; try simp only [Act.put, List.setIfInBounds_toArray, List.set_cons_zero, List.set_cons_succ])
    (refine wpAny_take (i := 9) (v := undef) rfl (by kernel_rfl) (by kernel_rfl) (by kernel_rfl) (fun _ _ _ h => h) (Or.inr ⟨by kernel_rfl, rfl⟩) ?_; try simp only [Act.put, List.setIfInBounds_toArray, List.set_cons_zero, List.set_cons_succ])
    (refine wpAny_take (i := 10) (v := undef) rfl (by kernel_rfl) (by kernel_rfl) (by kernel_rfl) (fun _ _ _ h => h) (Or.inr ⟨by kernel_rfl, rfl⟩) ?_; try simp only [Act.put, List.setIfInBounds_toArray, List.set_cons_zero, List.set_cons_succ])
    (refine wpAny_take (i := 11) (v := undef) rfl (by kernel_rfl) (by kernel_rfl) (by kernel_rfl) (fun _ _ _ h => h) (Or.inr ⟨by kernel_rfl, rfl⟩) ?_; try simp only [Act.put, List.setIfInBounds_toArray, List.set_cons_zero, List.set_cons_succ])
    (refine wpAny_take (i := 12) (v := undef) rfl (by kernel_rfl) (by kernel_rfl) (by kernel_rfl) (fun _ _ _ h => h) (Or.inr ⟨by kernel_rfl, rfl⟩) ?_; try simp only [Act.put, List.setIfInBounds_toArray, List.set_cons_zero, List.set_cons_succ])
    (refine wpAny_take (i := 13) (v := undef) rfl (by kernel_rfl) (by kernel_rfl) (by kernel_rfl) (fun _ _ _ h => h) (Or.inr ⟨by kernel_rfl, rfl⟩) ?_; try simp only [Act.put, List.setIfInBounds_toArray, List.set_cons_zero, List.set_cons_succ])
    (refine wpAny_take (i := 14) (v := undef) rfl (by kernel_rfl) (by kernel_rfl) (by kernel_rfl) (fun _ _ _ h => h) (Or.inr ⟨by kernel_rfl, rfl⟩) ?_; try simp only [Act.put, List.setIfInBounds_toArray, List.set_cons_zero, List.set_cons_succ])
    (refine wpAny_take (i := 15) (v := undef) rfl (by kernel_rfl) (by kernel_rfl) (by kernel_rfl) (fun _ _ _ h => h) (Or.inr ⟨by kernel_rfl, rfl⟩) ?_; try simp only [Act.put, List.setIfInBounds_toArray, List.set_cons_zero, List.set_cons_succ])
    (refine wpAny_take (i := 16) (v := undef) rfl (by kernel_rfl) (by kernel_rfl) (by kernel_rfl) (fun _ _ _ h => h) (Or.inr ⟨by kernel_rfl, rfl⟩) ?_; try simp only [Act.put, List.setIfInBounds_toArray, List.set_cons_zero, List.set_cons_succ])
    (refine wpAny_take (i := 17) (v := undef) rfl (by kernel_rfl) (by kernel_rfl) (by kernel_rfl) (fun _ _ _ h => h) (Or.inr ⟨by kernel_rfl, rfl⟩) ?_; try simp only [Act.put, List.setIfInBounds_toArray, List.set_cons_zero, List.set_cons_succ])
    (refine wpAny_take (i := 18) (v := undef) rfl (by kernel_rfl) (by kernel_rfl) (by kernel_rfl) (fun _ _ _ h => h) (Or.inr ⟨by kernel_rfl, rfl⟩) ?_; try simp only [Act.put, List.setIfInBounds_toArray, List.set_cons_zero, List.set_cons_succ])
    (refine wpAny_take (i := 19) (v := undef) rfl (by kernel_rfl) (by kernel_rfl) (by kernel_rfl) (fun _ _ _ h => h) (Or.inr ⟨by kernel_rfl, rfl⟩) ?_; try simp only [Act.put, List.setIfInBounds_toArray, List.set_cons_zero, List.set_cons_succ])
    (refine wpAny_take (i := 20) (v := undef) rfl (by kernel_rfl) (by kernel_rfl) (by kernel_rfl) (fun _ _ _ h => h) (Or.inr ⟨by kernel_rfl, rfl⟩) ?_; try simp only [Act.put, List.setIfInBounds_toArray, List.set_cons_zero, List.set_cons_succ])
    (refine wpAny_take (i := 21) (v := undef) rfl (by kernel_rfl) (by kernel_rfl) (by kernel_rfl) (fun _ _ _ h => h) (Or.inr ⟨by kernel_rfl, rfl⟩) ?_; try simp only [Act.put, List.setIfInBounds_toArray, List.set_cons_zero, List.set_cons_succ])
    (refine wpAny_take (i := 22) (v := undef) rfl (by kernel_rfl) (by kernel_rfl) (by kernel_rfl) (fun _ _ _ h => h) (Or.inr ⟨by kernel_rfl, rfl⟩) ?_; try simp only [Act.put, List.setIfInBounds_toArray, List.set_cons_zero, List.set_cons_succ])
    (refine wpAny_take (i := 23) (v := undef) rfl (by kernel_rfl) (by kernel_rfl) (by kernel_rfl) (fun _ _ _ h => h) (Or.inr ⟨by kernel_rfl, rfl⟩) ?_; try simp only [Act.put, List.setIfInBounds_toArray, List.set_cons_zero, List.set_cons_succ])
    (refine wpAny_take (i := 24) (v := undef) rfl (by kernel_rfl) (by kernel_rfl) (by kernel_rfl) (fun _ _ _ h => h) (Or.inr ⟨by kernel_rfl, rfl⟩) ?_; try simp only [Act.put, List.setIfInBounds_toArray, List.set_cons_zero, List.set_cons_succ])
    (refine wpAny_ready (rs := [25]) (by kernel_rfl) (by simp) ?_; refine AllReady.cons rfl (fun K hK => ?_) AllReady.nil; go_simp; refine hK _ _ ?_; clear hK K; try simp only [Act.put, List.setIfInBounds_toArray, List.set_cons_zero, List.set_cons_succ])
    (refine wpAny_ready (rs := [26]) (by kernel_rfl) (by simp) ?_; refine AllReady.cons rfl (fun K hK => ?_) AllReady.nil; go_simp; refine hK _ _ ?_; clear hK K; try simp only [Act.put, List.setIfInBounds_toArray, List.set_cons_zero, List.set_cons_succ])
    refine wpAny_done (by kernel_rfl) ?_ _
    go_wp2
    go_ret
    exact ⟨rfl, HB1.out⟩
theorem law_indexMeets (r : Raw) (p : Pkg) (s : Raw) (q : Pkg) (a : Atm) (w : World) (hp : RP w r p) (hq : RP w s q) (ha : a.ok) :
    Calls Tryz.prog 5 #[(.agg #[.string (bs (p).name), .string (bs (p).ver), .slice (r).a1 (p).pre.length (r).c1, .slice (r).a2 (p).dep.length (r).c2, .slice (r).a3 (p).rcm.length (r).c3, .slice (r).a4 (p).con.length (r).c4, .slice (r).a5 (p).brk.length (r).c5, .slice (r).a6 (p).prv.length (r).c6, .bool (p).ess]), (.agg #[.string (bs (q).name), .string (bs (q).ver), .slice (s).a1 (q).pre.length (s).c1, .slice (s).a2 (q).dep.length (s).c2, .slice (s).a3 (q).rcm.length (s).c3, .slice (s).a4 (q).con.length (s).c4, .slice (s).a5 (q).brk.length (s).c5, .slice (s).a6 (q).prv.length (s).c6, .bool (q).ess]), (.agg #[.string (bs (a).name), .int .i64 (a).rel, .string (bs (a).ver)])] w fun e w' => e = .returned (.bool true) ∧ Below w.heap.size w w' := by
  rcases hL : lightM 40 60 30 30 [p, q]
  · exact meets_no p q r s a w hp hq ha hL
  · exact meets_yes p q r s a w hp hq ha hL
end Go.Proofs.YtflmocamfedbdaaGreatDoor
