/- index.own: a package in memory of its own: its contract. -/
import Derived.Test.YtflmocamfedbdaaGreatDoorOwC
import Derived.Deep.RegionWith
import Derived.Deep.DrawnRows
import Derived.Deep.DeepCutAuto
namespace Go.Proofs.YtflmocamfedbdaaGreatDoor
set_option linter.unusedSimpArgs false
set_option linter.unusedVariables false
open Go.RowKit
attribute [local go_sem ↓] Go.wp_at_zero Go.wp_at_succ
def fewO (p : Pkg) : Prop := (p.pre.length ≤ 1000000 ∧ ∀ x ∈ p.pre, x.length ≤ 1000000) ∧ (p.dep.length ≤ 1000000 ∧ ∀ x ∈ p.dep, x.length ≤ 1000000) ∧ (p.rcm.length ≤ 1000000 ∧ ∀ x ∈ p.rcm, x.length ≤ 1000000) ∧ p.con.length ≤ 1000000 ∧ p.brk.length ≤ 1000000 ∧ p.prv.length ≤ 1000000
/-- a package in new memory is returned -/
def RetPkgF (w : World) (p : Pkg) (e : Ending) (w' : World) : Prop := ∃ r, e = .returned (.agg #[.string (bs (p).name), .string (bs (p).ver), .slice (r).a1 (p).pre.length (r).c1, .slice (r).a2 (p).dep.length (r).c2, .slice (r).a3 (p).rcm.length (r).c3, .slice (r).a4 (p).con.length (r).c4, .slice (r).a5 (p).brk.length (r).c5, .slice (r).a6 (p).prv.length (r).c6, .bool (p).ess]) ∧ RP (flt TB w') r p ∧ Below w.heap.size w w'
set_option maxRecDepth 100000 in
set_option maxHeartbeats 4000000 in
theorem own_any (p : Pkg) (r : Raw) (w : World) (hp : RP w r p) (hf : fewO p) :
    Calls Tryz.prog 61 #[(.agg #[.string (bs (p).name), .string (bs (p).ver), .slice (r).a1 (p).pre.length (r).c1, .slice (r).a2 (p).dep.length (r).c2, .slice (r).a3 (p).rcm.length (r).c3, .slice (r).a4 (p).con.length (r).c4, .slice (r).a5 (p).brk.length (r).c5, .slice (r).a6 (p).prv.length (r).c6, .bool (p).ess])] w (RetPkgF w p) := by
  obtain ⟨hsn, hsv, hp1, hp2, hp3, hp4, hp5, hp6⟩ := hp
  obtain ⟨f1, f2, f3, f4, f5, f6⟩ := hf
  have hq4 := Lib.hid hp4.bd.2.2
  have hq5 := Lib.hid hp5.bd.2.2
  have hq6 := Lib.hid hp6.bd.2.2
  rcases r with ⟨a1, a2, a3, a4, a5, a6, c1, c2, c3, c4, c5, c6⟩
  have HP1 := Lib.hid hp1
  have HP2 := Lib.hid hp2
  have HP3 := Lib.hid hp3
  have HP4 := Lib.hid hp4
  have HP5 := Lib.hid hp5
  have HP6 := Lib.hid hp6
  have F1 := Lib.hid f1
  have F2 := Lib.hid f2
  have F3 := Lib.hid f3
  have F4 := Lib.hid f4
  have F5 := Lib.hid f5
  have F6 := Lib.hid f6
  clear hp1 hp2 hp3 hp4 hp5 hp6 f1 f2 f3 f4 f5 f6
  go_enter Tryz.func61, Tryz.ntmps61
  go_wp2_with fail
  go_cut [7] (fun _ wx => ∃ (A1 A2 A3 : Option Addr) (C1 C2 C3 : Nat), Blk wx w.heap.size 26 #[.string (bs p.name), .string (bs p.ver), .slice A1 p.pre.length C1, .slice A2 p.dep.length C2, .slice A3 p.rcm.length C3, .slice a4 p.con.length c4, .slice a5 p.brk.length c5, .slice a6 p.prv.length c6, .bool p.ess] ∧ Blk wx (w.heap.size + 1) 26 #[.string (bs []), .string (bs []), .slice none 0 0, .slice none 0 0, .slice none 0 0, .slice none 0 0, .slice none 0 0, .slice none 0 0, .bool false] ∧ Below w.heap.size w wx ∧ Clss (flt TB wx) A1 C1 p.pre ∧ Clss (flt TB wx) A2 C2 p.dep ∧ Clss (flt TB wx) A3 C3 p.rcm)
  case first =>
    generalize hW : World.alloc (World.alloc w _) _ = W
    have K1 := Lib.hid (show Blk W w.heap.size 26 #[.string (bs p.name), .string (bs p.ver), .slice a1 p.pre.length c1, .slice a2 p.dep.length c2, .slice a3 p.rcm.length c3, .slice a4 p.con.length c4, .slice a5 p.brk.length c5, .slice a6 p.prv.length c6, .bool p.ess] by rw [← hW]; exact Blk.alloc (blk_new1 _ _ _) _)
    have K2 := Lib.hid (show Blk W (w.heap.size + 1) 26 #[.string (bs []), .string (bs []), .slice none 0 0, .slice none 0 0, .slice none 0 0, .slice none 0 0, .slice none 0 0, .slice none 0 0, .bool false] by rw [← hW]; exact blk_new2 _ _ _ _)
    have HB := Lib.hid (show Below w.heap.size w W by rw [← hW]; exact below_alloc (below_alloc (Below.refl _ _) _) _)
    clear hW
    obtain ⟨x0, x1, x2, x3, x4, x5, x6, x7, x8⟩ := blk9 K1.out
    have xf := fun j => K1.out.frozen j
    go_region_with (first | (go_at_call_of 102 (Value.slice a1 p.pre.length c1); refine (clo_any _ _ p.pre _ (HP1.out.kept ((Kept.of_below HB.out).trans (Kept.drew W))) F1.out.1 F1.out.2).mono ?_; rintro e w1 ⟨A1, C1, rfl, hs1, hb1⟩; have HB1 := Lib.hid (below_next (below_drewN HB.out 1) hb1); have KA1 := Lib.hid (Blk.next (Blk.drewN K1.out 1) hb1); have KB1 := Lib.hid (Blk.next (Blk.drewN K2.out 1) hb1); have HS1 := Lib.hid hs1; obtain ⟨y0, y1, y2, y3, y4, y5, y6, y7, y8⟩ := blk9 KA1.out; clear hs1 hb1 y0 y1 y5 y6 y7 y8) | (go_at_call_of 102 (Value.slice a2 p.dep.length c2); refine (clo_any _ _ p.dep _ (HP2.out.kept (Kept.of_below HB1.out)) F2.out.1 F2.out.2).mono ?_; rintro e w2 ⟨A2, C2, rfl, hs2, hb2⟩; have HB2 := Lib.hid (below_next HB1.out hb2); have KA2 := Lib.hid (Blk.next KA1.out hb2); have KB2 := Lib.hid (Blk.next KB1.out hb2); have HS2 := Lib.hid hs2; have HK2 := Lib.hid (KeepB.of_below (T := fun t => TB t = true) hb2); obtain ⟨z0, z1, z2, z3, z4, z5, z6, z7, z8⟩ := blk9 KA2.out; clear hs2 hb2 z0 z1 z5 z6 z7 z8) | (go_at_call_of 102 (Value.slice a3 p.rcm.length c3); refine (clo_any _ _ p.rcm _ (HP3.out.kept (Kept.of_below HB2.out)) F3.out.1 F3.out.2).mono ?_; rintro e w3 ⟨A3, C3, rfl, hs3, hb3⟩; have HB3 := Lib.hid (below_next HB2.out hb3); have KA3 := Lib.hid (Blk.next KA2.out hb3); have KB3 := Lib.hid (Blk.next KB2.out hb3); have HS3 := Lib.hid hs3; have HK3 := Lib.hid (KeepB.of_below (T := fun t => TB t = true) hb3); obtain ⟨t0, t1, t2, t3, t4, t5, t6, t7, t8⟩ := blk9 KA3.out; have tf := fun j => KA3.out.frozen j; clear hs3 hb3 t0 t1 t5 t6 t7 t8))
    all_goals (go_wp2_with fail; go_meet)
    all_goals
      obtain ⟨k1, k2, k3, k4⟩ := own_set3a (a := .slice A1 p.pre.length C1) (b := .slice A2 p.dep.length C2) (c := .slice A3 p.rcm.length C3) KA3.out _ KB3.out HB3.out (Nat.le_refl _)
      exact ⟨A1, A2, A3, C1, C2, C3, k1, k2, k3, HS1.out.fkeep (HK2.out.trans (HK3.out.trans k4)), HS2.out.fkeep (HK3.out.trans k4), HS3.out.fkeep k4⟩
  case rest =>
    obtain ⟨A1, A2, A3, C1, C2, C3, hk1, hk2, hb, hs1, hs2, hs3⟩ := hcut
    have K1 := Lib.hid hk1
    have K2 := Lib.hid hk2
    have HB := Lib.hid hb
    have HS1 := Lib.hid hs1
    have HS2 := Lib.hid hs2
    have HS3 := Lib.hid hs3
    clear hk1 hk2 hb hs1 hs2 hs3
    go_wp2_with fail
    go_cut [21] (fun _ wy => ∃ (A4 A5 A6 : Option Addr) (C4 C5 C6 : Nat), Blk wy w.heap.size 26 #[.string (bs p.name), .string (bs p.ver), .slice A1 p.pre.length C1, .slice A2 p.dep.length C2, .slice A3 p.rcm.length C3, .slice A4 p.con.length C4, .slice A5 p.brk.length C5, .slice A6 p.prv.length C6, .bool p.ess] ∧ Blk wy (w.heap.size + 1) 26 #[.string (bs []), .string (bs []), .slice none 0 0, .slice none 0 0, .slice none 0 0, .slice none 0 0, .slice none 0 0, .slice none 0 0, .bool false] ∧ Below w.heap.size w wy ∧ RP (flt TB wy) ⟨A1, A2, A3, A4, A5, A6, C1, C2, C3, C4, C5, C6⟩ p)
    case first =>
      obtain ⟨x0, x1, x2, x3, x4, x5, x6, x7, x8⟩ := blk9 K1.out
      have xf := fun j => K1.out.frozen j
      clear x0 x1 x2 x3 x4 x8
      go_region_with (first | (go_at_call_of 104 (Value.slice a4 p.con.length c4); refine (cloneA_any _ _ p.con _ (HP4.out.kept ((Kept.of_below HB.out).trans (Kept.drew wc))) F4.out).mono ?_; rintro e w1 hh1; obtain ⟨A4, C4, rfl, hs4, hb1⟩ := retAtmF hq4.out rfl hh1; have HB1 := Lib.hid (below_next (below_drewN HB.out 1) hb1); have KA1 := Lib.hid (Blk.next (Blk.drewN K1.out 1) hb1); have KB1 := Lib.hid (Blk.next (Blk.drewN K2.out 1) hb1); have HS4 := Lib.hid hs4; have HK1 := Lib.hid ((KeepB.drewN 1).trans (KeepB.of_below (T := fun t => TB t = true) hb1) : KeepB (fun t => TB t = true) wc w1); obtain ⟨y0, y1, y2, y3, y4, y5, y6, y7, y8⟩ := blk9 KA1.out; clear hs4 hb1 hh1 y0 y1 y2 y3 y4 y8) | (go_at_call_of 104 (Value.slice a5 p.brk.length c5); refine (cloneA_any _ _ p.brk _ (HP5.out.kept (Kept.of_below HB1.out)) F5.out).mono ?_; rintro e w2 hh2; obtain ⟨A5, C5, rfl, hs5, hb2⟩ := retAtmF hq5.out rfl hh2; have HB2 := Lib.hid (below_next HB1.out hb2); have KA2 := Lib.hid (Blk.next KA1.out hb2); have KB2 := Lib.hid (Blk.next KB1.out hb2); have HS5 := Lib.hid hs5; have HK2 := Lib.hid (KeepB.of_below (T := fun t => TB t = true) hb2); obtain ⟨z0, z1, z2, z3, z4, z5, z6, z7, z8⟩ := blk9 KA2.out; clear hs5 hb2 hh2 z0 z1 z2 z3 z4 z8) | (go_at_call_of 105 (Value.slice a6 p.prv.length c6); refine (cloneP_any _ _ p.prv _ (HP6.out.kept (Kept.of_below HB2.out)) F6.out).mono ?_; rintro e w3 hh3; obtain ⟨A6, C6, rfl, hs6, hb3⟩ := retPrvF hq6.out rfl hh3; have HB3 := Lib.hid (below_next HB2.out hb3); have KA3 := Lib.hid (Blk.next KA2.out hb3); have KB3 := Lib.hid (Blk.next KB2.out hb3); have HS6 := Lib.hid hs6; have HK3 := Lib.hid (KeepB.of_below (T := fun t => TB t = true) hb3); obtain ⟨t0, t1, t2, t3, t4, t5, t6, t7, t8⟩ := blk9 KA3.out; have tf := fun j => KA3.out.frozen j; clear hs6 hb3 hh3 t0 t1 t2 t3 t4 t8))
      all_goals (go_wp2_with fail; go_meet)
      all_goals
        obtain ⟨k1, k2, k3, k4⟩ := own_set3b (a := .slice A4 p.con.length C4) (b := .slice A5 p.brk.length C5) (c := .slice A6 p.prv.length C6) KA3.out _ KB3.out HB3.out (Nat.le_refl _)
        exact ⟨A4, A5, A6, C4, C5, C6, k1, k2, k3, hsn, hsv, HS1.out.fkeep (HK1.out.trans (HK2.out.trans (HK3.out.trans k4))), HS2.out.fkeep (HK1.out.trans (HK2.out.trans (HK3.out.trans k4))), HS3.out.fkeep (HK1.out.trans (HK2.out.trans (HK3.out.trans k4))), HS4.out.fkeep (HK2.out.trans (HK3.out.trans k4)), HS5.out.fkeep (HK3.out.trans k4), HS6.out.fkeep k4⟩
    case rest =>
      obtain ⟨A4, A5, A6, C4, C5, C6, hk1, hk2, hb, hrp⟩ := hcut
      obtain ⟨x0, x1, x2, x3, x4, x5, x6, x7, x8⟩ := blk9 hk1
      obtain ⟨kz, kb, kk⟩ := own_set9 (b0 := .string (bs p.name)) (b1 := .string (bs p.ver)) (b2 := .slice A1 p.pre.length C1) (b3 := .slice A2 p.dep.length C2) (b4 := .slice A3 p.rcm.length C3) (b5 := .slice A4 p.con.length C4) (b6 := .slice A5 p.brk.length C5) (b7 := .slice A6 p.prv.length C6) (b8 := .bool p.ess) hk2 hb (by omega : w.heap.size ≤ w.heap.size + 1)
      have KZ := Lib.hid kz
      have KB := Lib.hid kb
      have HRP := Lib.hid (RP.fkeep hrp kk)
      obtain ⟨z0, z1, z2, z3, z4, z5, z6, z7, z8⟩ := blk9 hk2
      have zf := fun j => hk2.frozen j
      clear hk1 hk2 hb hrp kz kb kk
      go_wp2_with fail
      generalize World.setCell _ _ _ = Wf at KZ KB HRP ⊢
      have hsz := KZ.out.lt
      obtain ⟨y0, y1, y2, y3, y4, y5, y6, y7, y8⟩ := blk9 KZ.out
      exact bodyPost_ret (v := .agg #[.string (bs p.name), .string (bs p.ver), .slice A1 p.pre.length C1, .slice A2 p.dep.length C2, .slice A3 p.rcm.length C3, .slice A4 p.con.length C4, .slice A5 p.brk.length C5, .slice A6 p.prv.length C6, .bool p.ess]) (by simp [results, Tryz.results61, go_sem, y0, y1, y2, y3, y4, y5, y6, y7, y8, hsz]) rfl ⟨⟨A1, A2, A3, A4, A5, A6, C1, C2, C3, C4, C5, C6⟩, rfl, HRP.out, KB.out⟩
end Go.Proofs.YtflmocamfedbdaaGreatDoor
