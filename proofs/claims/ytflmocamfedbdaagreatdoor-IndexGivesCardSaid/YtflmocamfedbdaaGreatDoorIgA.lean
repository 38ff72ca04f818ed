/- The law IndexGives. -/
import Derived.Test.YtflmocamfedbdaaGreatDoorIsA
import Derived.Deep.RegionHeld3
import Derived.Deep.DrawnRows
namespace Go.Proofs.YtflmocamfedbdaaGreatDoor
set_option linter.unusedSimpArgs false
set_option linter.unusedVariables false
open Go.RowKit
attribute [local go_sem ↓] Go.wp_at_zero Go.wp_at_succ
attribute [local irreducible] wpQuiet
def gP (p : Pkg) (n v : List UInt8) : Pkg := { p with prv := [⟨n, v⟩] }
def gR (r : Raw) (g : Nat) : Raw := { r with a6 := some ⟨g, 0, none⟩, c6 := 1 }
def gQ (n v : List UInt8) : Pkg := ⟨n, v, [], [], [], [], [], [], false⟩
def gZ : Raw := ⟨none, none, none, none, none, none, 0, 0, 0, 0, 0, 0⟩
theorem gP_rp {w : World} {r : Raw} {p : Pkg} {n v : List UInt8} {g : Nat} (h : RP w r p) (hB : Blk w g 38 #[.string (bs n), .string (bs v)]) (hn : short n) (hv : short v) : RP w (gR r g) (gP p n v) := by
  obtain ⟨h1, h2, h3, h4, h5, h6, h7, h8⟩ := h
  refine ⟨h1, h2, h3, h4, h5, h6, h7, ?_⟩
  exact slcB [[.string (bs n), .string (bs v)]] hB rfl rfl (fun i cs x e1 e2 => by
    rcases i with _ | i
    · simp [gP] at e1 e2
      subst e1 e2
      exact ⟨⟨rfl, hn, hv⟩, rfl⟩
    · simp at e1) rfl (by show 1 * 32 ≤ _; decide) (by show 1 ≤ _; decide) (by decide)
theorem gQ_rp {w : World} {n v : List UInt8} (hn : short n) (hv : short v) : RP w gZ (gQ n v) :=
  ⟨hn, hv, Slc.nil_ (Nat.zero_le _), Slc.nil_ (Nat.zero_le _), Slc.nil_ (Nat.zero_le _), Slc.nil_ (Nat.zero_le _), Slc.nil_ (Nat.zero_le _), Slc.nil_ (Nat.zero_le _)⟩
theorem rel_in (x : Int) : ∃ R : Int, 1 ≤ R ∧ R ≤ 5 ∧ wrap64 (wrap64 ((IntKind.u64.wrap x).tmod 5) + 1) = R := by
  refine ⟨_, ?_, ?_, rfl⟩
  all_goals
    have h0 : 0 ≤ IntKind.u64.wrap x := by unfold IntKind.wrap; simp [IntKind.signed, IntKind.bits]; omega
    have h1 : (IntKind.u64.wrap x).tmod 5 = IntKind.u64.wrap x % 5 := Int.tmod_eq_emod_of_nonneg h0
    rw [h1]
    unfold wrap64
    omega
set_option maxRecDepth 100000 in
set_option maxHeartbeats 2000000 in
theorem gives_emp (r : Raw) (p : Pkg) (n v u : List UInt8) (rel : Int) (w : World) (hp : RP w r p) (hsn : short n) (hsv : short v) (hsu : short u) (hL : lightM 40 60 30 30 [p] = true) (hm : mayE (gP p n v) = 0) (hne : p.name ≠ n) (hmq : mayE (gQ n u) = 0) (hve : v.isEmpty = true) :
    Calls Tryz.prog 4 #[(.agg #[.string (bs (p).name), .string (bs (p).ver), .slice (r).a1 (p).pre.length (r).c1, .slice (r).a2 (p).dep.length (r).c2, .slice (r).a3 (p).rcm.length (r).c3, .slice (r).a4 (p).con.length (r).c4, .slice (r).a5 (p).brk.length (r).c5, .slice (r).a6 (p).prv.length (r).c6, .bool (p).ess]), .string (bs n), .string (bs v), .string (bs u), .int .i64 rel] w fun e w' => e = .returned (.bool true) ∧ Below w.heap.size w w' := by
  have HM := Lib.hid hm
  have HMQ := Lib.hid hmq
  have hne2 : (p.name == n) = false := by simpa using hne
  obtain ⟨R, hR1, hR5, hR⟩ := rel_in rel
  have G1 := Lib.hid (give_any (p := gP p n v) hm rfl)
  have G2 := Lib.hid (give_not (p := gP p n v) (n := n) (w := u) (rel := R) (by show [(⟨n, v⟩ : Prv)] = _; rw [show v = [] by simpa using hve]) hne hR1)
  clear hm hne hmq hR1 hR5
  have HP := Lib.hid hp
  have HL := Lib.hid hL
  clear hp hL
  go_enter Tryz.func4, Tryz.ntmps4
  go_wp2_with fail
  have K3 := (Kept.alloc w (.cells #[.string (bs (p).name), .string (bs (p).ver), .slice (r).a1 (p).pre.length (r).c1, .slice (r).a2 (p).dep.length (r).c2, .slice (r).a3 (p).rcm.length (r).c3, .slice (r).a4 (p).con.length (r).c4, .slice (r).a5 (p).brk.length (r).c5, .slice (r).a6 (p).prv.length (r).c6, .bool (p).ess] 26)).trans (Kept.alloc _ (.cells #[.string (bs (p).name), .string (bs (p).ver), .slice (r).a1 (p).pre.length (r).c1, .slice (r).a2 (p).dep.length (r).c2, .slice (r).a3 (p).rcm.length (r).c3, .slice (r).a4 (p).con.length (r).c4, .slice (r).a5 (p).brk.length (r).c5, .slice (r).a6 (p).prv.length (r).c6, .bool (p).ess] 26))
  refine (light10_any _ 1 [p] _ (one_pkgs (blk_new2 _ _ _ _) (HP.out.kept K3))).mono ?_
  rintro e w1 ⟨rfl, hb1⟩
  rw [HL.out]
  have HB := Lib.hid (below_next (below_alloc (below_alloc (Below.refl w.heap.size w) (.cells #[.string (bs (p).name), .string (bs (p).ver), .slice (r).a1 (p).pre.length (r).c1, .slice (r).a2 (p).dep.length (r).c2, .slice (r).a3 (p).rcm.length (r).c3, .slice (r).a4 (p).con.length (r).c4, .slice (r).a5 (p).brk.length (r).c5, .slice (r).a6 (p).prv.length (r).c6, .bool (p).ess] 26)) (.cells #[.string (bs (p).name), .string (bs (p).ver), .slice (r).a1 (p).pre.length (r).c1, .slice (r).a2 (p).dep.length (r).c2, .slice (r).a3 (p).rcm.length (r).c3, .slice (r).a4 (p).con.length (r).c4, .slice (r).a5 (p).brk.length (r).c5, .slice (r).a6 (p).prv.length (r).c6, .bool (p).ess] 26)) hb1)
  have KP := Lib.hid ((Blk.alloc (blk_new1 w 26 #[.string (bs (p).name), .string (bs (p).ver), .slice (r).a1 (p).pre.length (r).c1, .slice (r).a2 (p).dep.length (r).c2, .slice (r).a3 (p).rcm.length (r).c3, .slice (r).a4 (p).con.length (r).c4, .slice (r).a5 (p).brk.length (r).c5, .slice (r).a6 (p).prv.length (r).c6, .bool (p).ess]) (.cells #[.string (bs (p).name), .string (bs (p).ver), .slice (r).a1 (p).pre.length (r).c1, .slice (r).a2 (p).dep.length (r).c2, .slice (r).a3 (p).rcm.length (r).c3, .slice (r).a4 (p).con.length (r).c4, .slice (r).a5 (p).brk.length (r).c5, .slice (r).a6 (p).prv.length (r).c6, .bool (p).ess] 26)).next hb1)
  clear hb1 K3
  obtain ⟨c0, c1, c2, c3, c4, c5, c6, c7, c8⟩ := blk9 KP.out
  have cf := fun j => KP.out.frozen j
  have hsz := KP.out.lt
  have KP := Lib.hid (show Blk ((w1.setCell ⟨w.heap.size, 7, none⟩ (.slice (some ⟨w1.heap.size, 0, none⟩) 1 1)).alloc (.cells #[.string (bs n), .string (bs v)] 38)) w.heap.size 26 #[.string (bs p.name), .string (bs p.ver), .slice r.a1 p.pre.length r.c1, .slice r.a2 p.dep.length r.c2, .slice r.a3 p.rcm.length r.c3, .slice r.a4 p.con.length r.c4, .slice r.a5 p.brk.length r.c5, .slice (some ⟨w1.heap.size, 0, none⟩) 1 1, .bool p.ess] from (KP.out.set_ 7 (.slice (some ⟨w1.heap.size, 0, none⟩) 1 1)).alloc (.cells #[.string (bs n), .string (bs v)] 38))
  have KV := Lib.hid (show Blk ((w1.setCell ⟨w.heap.size, 7, none⟩ (.slice (some ⟨w1.heap.size, 0, none⟩) 1 1)).alloc (.cells #[.string (bs n), .string (bs v)] 38)) w1.heap.size 38 #[.string (bs n), .string (bs v)] from (by have h := blk_new1 (w1.setCell ⟨w.heap.size, 7, none⟩ (.slice (some ⟨w1.heap.size, 0, none⟩) 1 1)) 38 #[.string (bs n), .string (bs v)]; rwa [show (w1.setCell ⟨w.heap.size, 7, none⟩ (.slice (some ⟨w1.heap.size, 0, none⟩) 1 1)).heap.size = w1.heap.size from by simp [World.setCell]] at h))
  have HB := Lib.hid (show Below w.heap.size w ((w1.setCell ⟨w.heap.size, 7, none⟩ (.slice (some ⟨w1.heap.size, 0, none⟩) 1 1)).alloc (.cells #[.string (bs n), .string (bs v)] 38)) from below_alloc (HB.out.setCell (p := ⟨w.heap.size, 7, none⟩) (Nat.le_refl _) (.slice (some ⟨w1.heap.size, 0, none⟩) 1 1)) (.cells #[.string (bs n), .string (bs v)] 38))
  go_wp2_with fail
  refine (rmay_any (gP p n v) (gR r w1.heap.size) _ (gP_rp (HP.out.kept (Kept.of_below HB.out)) KV.out hsn hsv)).mono ?_
  rintro e w2 ⟨rfl, hb2⟩
  rw [HM.out]
  have HB := Lib.hid (below_next HB.out hb2)
  have KP := Lib.hid (KP.out.next hb2)
  have KV := Lib.hid (KV.out.next hb2)
  clear hb2 c0 c1 c2 c3 c4 c5 c6 c7 c8 cf hsz
  obtain ⟨c0, c1, c2, c3, c4, c5, c6, c7, c8⟩ := blk9 KP.out
  have KP0 := KP
  have KV0 := KV
  go_wp2_with fail
  refine (rmay_any (gQ n u) gZ _ (gQ_rp hsn hsu)).mono ?_
  rintro e w3 ⟨rfl, hb3⟩
  rw [HMQ.out]
  have HB := Lib.hid (below_next (below_alloc HB.out (.cells #[.string (bs n), .string (bs u), .slice none 0 0, .slice none 0 0, .slice none 0 0, .slice none 0 0, .slice none 0 0, .slice none 0 0, .bool false] 26)) hb3)
  have KQ := Lib.hid ((blk_new1 w2 26 #[.string (bs n), .string (bs u), .slice none 0 0, .slice none 0 0, .slice none 0 0, .slice none 0 0, .slice none 0 0, .slice none 0 0, .bool false]).next hb3)
  have KP := Lib.hid ((KP.out.alloc (.cells #[.string (bs n), .string (bs u), .slice none 0 0, .slice none 0 0, .slice none 0 0, .slice none 0 0, .slice none 0 0, .slice none 0 0, .bool false] 26)).next hb3)
  have KV := Lib.hid ((KV.out.alloc (.cells #[.string (bs n), .string (bs u), .slice none 0 0, .slice none 0 0, .slice none 0 0, .slice none 0 0, .slice none 0 0, .slice none 0 0, .bool false] 26)).next hb3)
  clear hb3 c0 c1 c2 c3 c4 c5 c6 c7 c8
  have hgap : w.heap.size < w2.heap.size := KP0.out.lt
  obtain ⟨q0, q1, q2, q3, q4, q5, q6, q7, q8⟩ := blk9 KQ.out
  have qf := fun j => KQ.out.frozen j
  have hqz := KQ.out.lt
  have K1 := Lib.hid (show Blk ((w3.setCell ⟨w2.heap.size, 1, none⟩ (.string (bs v))).alloc (.cells #[.string (bs n), .int .i64 R, .string (bs u)] 34)) w.heap.size 26 #[.string (bs p.name), .string (bs p.ver), .slice r.a1 p.pre.length r.c1, .slice r.a2 p.dep.length r.c2, .slice r.a3 p.rcm.length r.c3, .slice r.a4 p.con.length r.c4, .slice r.a5 p.brk.length r.c5, .slice (some ⟨w1.heap.size, 0, none⟩) 1 1, .bool p.ess] from (KP.out.far (p := ⟨w2.heap.size, 1, none⟩) (by show w.heap.size ≠ w2.heap.size; omega) _).alloc _)
  have K2 := Lib.hid (show Blk ((w3.setCell ⟨w2.heap.size, 1, none⟩ (.string (bs v))).alloc (.cells #[.string (bs n), .int .i64 R, .string (bs u)] 34)) w2.heap.size 26 #[.string (bs n), .string (bs v), .slice none 0 0, .slice none 0 0, .slice none 0 0, .slice none 0 0, .slice none 0 0, .slice none 0 0, .bool false] from (KQ.out.set_ 1 (.string (bs v))).alloc _)
  have K3 := Lib.hid (show Blk ((w3.setCell ⟨w2.heap.size, 1, none⟩ (.string (bs v))).alloc (.cells #[.string (bs n), .int .i64 R, .string (bs u)] 34)) w3.heap.size 34 #[.string (bs n), .int .i64 R, .string (bs u)] from (by have h := blk_new1 (w3.setCell ⟨w2.heap.size, 1, none⟩ (.string (bs v))) 34 #[.string (bs n), .int .i64 R, .string (bs u)]; rwa [show (w3.setCell ⟨w2.heap.size, 1, none⟩ (.string (bs v))).heap.size = w3.heap.size from by simp [World.setCell]] at h))
  have K4 := Lib.hid (show Blk ((w3.setCell ⟨w2.heap.size, 1, none⟩ (.string (bs v))).alloc (.cells #[.string (bs n), .int .i64 R, .string (bs u)] 34)) w1.heap.size 38 #[.string (bs n), .string (bs v)] from (KV.out.far (p := ⟨w2.heap.size, 1, none⟩) (by show w1.heap.size ≠ w2.heap.size; have := KV0.out.lt; omega) _).alloc _)
  have HBW := Lib.hid (show Below w.heap.size w ((w3.setCell ⟨w2.heap.size, 1, none⟩ (.string (bs v))).alloc (.cells #[.string (bs n), .int .i64 R, .string (bs u)] 34)) from below_alloc (HB.out.setCell (p := ⟨w2.heap.size, 1, none⟩) (by show w.heap.size ≤ w2.heap.size; omega) _) _)
  go_upto_region 13 with (fail)
  generalize hW : World.alloc (World.setCell _ _ _) _ = W at K1 K2 K3 K4 HBW ⊢
  clear hW
  generalize w2.heap.size = g2 at K2 ⊢
  generalize w3.heap.size = g3 at K3 ⊢
  obtain ⟨c0, c1, c2, c3, c4, c5, c6, c7, c8⟩ := blk9 K1.out
  go_wp2_with fail
  refine (sat_any (gP p n v) (gR r w1.heap.size) ⟨n, 0, []⟩ _ (gP_rp (HP.out.kept (Kept.of_below HBW.out)) K4.out hsn hsv) ⟨hsn, by unfold short; simp⟩).mono ?_
  rintro e w4 ⟨rfl, hb4⟩
  rw [G1.out]
  have K1 := Lib.hid (K1.out.next hb4)
  have K3 := Lib.hid (K3.out.next hb4)
  have K4 := Lib.hid (K4.out.next hb4)
  have HBW := Lib.hid (below_next HBW.out hb4)
  clear hb4 c0 c1 c2 c3 c4 c5 c6 c7 c8
  obtain ⟨c0, c1, c2, c3, c4, c5, c6, c7, c8⟩ := blk9 K1.out
  obtain ⟨d0, d1, d2⟩ := blk3 K3.out
  go_wp2_with fail
  refine (sat_any (gP p n v) (gR r w1.heap.size) ⟨n, R, u⟩ _ (gP_rp (HP.out.kept (Kept.of_below HBW.out)) K4.out hsn hsv) ⟨hsn, hsu⟩).mono ?_
  rintro e w5 ⟨rfl, hb5⟩
  rw [G2.out]
  have HBW := Lib.hid (below_next HBW.out hb5)
  clear hb5 c0 c1 c2 c3 c4 c5 c6 c7 c8 d0 d1 d2
  go_wp2_with fail
  refine (awake10_any _).mono ?_
  rintro e w9 ⟨rfl, hb9⟩
  go_wp2
  go_ret
  exact ⟨rfl, below_next HBW.out hb9⟩
set_option maxRecDepth 100000 in
set_option maxHeartbeats 2000000 in
theorem gives_ver (r : Raw) (p : Pkg) (n v u : List UInt8) (rel : Int) (w : World) (hp : RP w r p) (hsn : short n) (hsv : short v) (hsu : short u) (hL : lightM 40 60 30 30 [p] = true) (hm : mayE (gP p n v) = 0) (hne : p.name ≠ n) (hmq : mayE (gQ n u) = 0) (hve : v.isEmpty = false) :
    Calls Tryz.prog 4 #[(.agg #[.string (bs (p).name), .string (bs (p).ver), .slice (r).a1 (p).pre.length (r).c1, .slice (r).a2 (p).dep.length (r).c2, .slice (r).a3 (p).rcm.length (r).c3, .slice (r).a4 (p).con.length (r).c4, .slice (r).a5 (p).brk.length (r).c5, .slice (r).a6 (p).prv.length (r).c6, .bool (p).ess]), .string (bs n), .string (bs v), .string (bs u), .int .i64 rel] w fun e w' => e = .returned (.bool true) ∧ Below w.heap.size w w' := by
  have HM := Lib.hid hm
  have HMQ := Lib.hid hmq
  have hne2 : (p.name == n) = false := by simpa using hne
  obtain ⟨R, hR1, hR5, hR⟩ := rel_in rel
  have G1 := Lib.hid (give_any (p := gP p n v) hm rfl)
  have G2 := Lib.hid (give_by (p := gP p n v) (q := gQ n v) (n := n) (v := v) (w := u) (rel := R) rfl hne rfl rfl rfl hR1)
  clear hm hne hmq hR1 hR5
  have HP := Lib.hid hp
  have HL := Lib.hid hL
  clear hp hL
  go_enter Tryz.func4, Tryz.ntmps4
  go_wp2_with fail
  have K3 := (Kept.alloc w (.cells #[.string (bs (p).name), .string (bs (p).ver), .slice (r).a1 (p).pre.length (r).c1, .slice (r).a2 (p).dep.length (r).c2, .slice (r).a3 (p).rcm.length (r).c3, .slice (r).a4 (p).con.length (r).c4, .slice (r).a5 (p).brk.length (r).c5, .slice (r).a6 (p).prv.length (r).c6, .bool (p).ess] 26)).trans (Kept.alloc _ (.cells #[.string (bs (p).name), .string (bs (p).ver), .slice (r).a1 (p).pre.length (r).c1, .slice (r).a2 (p).dep.length (r).c2, .slice (r).a3 (p).rcm.length (r).c3, .slice (r).a4 (p).con.length (r).c4, .slice (r).a5 (p).brk.length (r).c5, .slice (r).a6 (p).prv.length (r).c6, .bool (p).ess] 26))
  refine (light10_any _ 1 [p] _ (one_pkgs (blk_new2 _ _ _ _) (HP.out.kept K3))).mono ?_
  rintro e w1 ⟨rfl, hb1⟩
  rw [HL.out]
  have HB := Lib.hid (below_next (below_alloc (below_alloc (Below.refl w.heap.size w) (.cells #[.string (bs (p).name), .string (bs (p).ver), .slice (r).a1 (p).pre.length (r).c1, .slice (r).a2 (p).dep.length (r).c2, .slice (r).a3 (p).rcm.length (r).c3, .slice (r).a4 (p).con.length (r).c4, .slice (r).a5 (p).brk.length (r).c5, .slice (r).a6 (p).prv.length (r).c6, .bool (p).ess] 26)) (.cells #[.string (bs (p).name), .string (bs (p).ver), .slice (r).a1 (p).pre.length (r).c1, .slice (r).a2 (p).dep.length (r).c2, .slice (r).a3 (p).rcm.length (r).c3, .slice (r).a4 (p).con.length (r).c4, .slice (r).a5 (p).brk.length (r).c5, .slice (r).a6 (p).prv.length (r).c6, .bool (p).ess] 26)) hb1)
  have KP := Lib.hid ((Blk.alloc (blk_new1 w 26 #[.string (bs (p).name), .string (bs (p).ver), .slice (r).a1 (p).pre.length (r).c1, .slice (r).a2 (p).dep.length (r).c2, .slice (r).a3 (p).rcm.length (r).c3, .slice (r).a4 (p).con.length (r).c4, .slice (r).a5 (p).brk.length (r).c5, .slice (r).a6 (p).prv.length (r).c6, .bool (p).ess]) (.cells #[.string (bs (p).name), .string (bs (p).ver), .slice (r).a1 (p).pre.length (r).c1, .slice (r).a2 (p).dep.length (r).c2, .slice (r).a3 (p).rcm.length (r).c3, .slice (r).a4 (p).con.length (r).c4, .slice (r).a5 (p).brk.length (r).c5, .slice (r).a6 (p).prv.length (r).c6, .bool (p).ess] 26)).next hb1)
  clear hb1 K3
  obtain ⟨c0, c1, c2, c3, c4, c5, c6, c7, c8⟩ := blk9 KP.out
  have cf := fun j => KP.out.frozen j
  have hsz := KP.out.lt
  have KP := Lib.hid (show Blk ((w1.setCell ⟨w.heap.size, 7, none⟩ (.slice (some ⟨w1.heap.size, 0, none⟩) 1 1)).alloc (.cells #[.string (bs n), .string (bs v)] 38)) w.heap.size 26 #[.string (bs p.name), .string (bs p.ver), .slice r.a1 p.pre.length r.c1, .slice r.a2 p.dep.length r.c2, .slice r.a3 p.rcm.length r.c3, .slice r.a4 p.con.length r.c4, .slice r.a5 p.brk.length r.c5, .slice (some ⟨w1.heap.size, 0, none⟩) 1 1, .bool p.ess] from (KP.out.set_ 7 (.slice (some ⟨w1.heap.size, 0, none⟩) 1 1)).alloc (.cells #[.string (bs n), .string (bs v)] 38))
  have KV := Lib.hid (show Blk ((w1.setCell ⟨w.heap.size, 7, none⟩ (.slice (some ⟨w1.heap.size, 0, none⟩) 1 1)).alloc (.cells #[.string (bs n), .string (bs v)] 38)) w1.heap.size 38 #[.string (bs n), .string (bs v)] from (by have h := blk_new1 (w1.setCell ⟨w.heap.size, 7, none⟩ (.slice (some ⟨w1.heap.size, 0, none⟩) 1 1)) 38 #[.string (bs n), .string (bs v)]; rwa [show (w1.setCell ⟨w.heap.size, 7, none⟩ (.slice (some ⟨w1.heap.size, 0, none⟩) 1 1)).heap.size = w1.heap.size from by simp [World.setCell]] at h))
  have HB := Lib.hid (show Below w.heap.size w ((w1.setCell ⟨w.heap.size, 7, none⟩ (.slice (some ⟨w1.heap.size, 0, none⟩) 1 1)).alloc (.cells #[.string (bs n), .string (bs v)] 38)) from below_alloc (HB.out.setCell (p := ⟨w.heap.size, 7, none⟩) (Nat.le_refl _) (.slice (some ⟨w1.heap.size, 0, none⟩) 1 1)) (.cells #[.string (bs n), .string (bs v)] 38))
  go_wp2_with fail
  refine (rmay_any (gP p n v) (gR r w1.heap.size) _ (gP_rp (HP.out.kept (Kept.of_below HB.out)) KV.out hsn hsv)).mono ?_
  rintro e w2 ⟨rfl, hb2⟩
  rw [HM.out]
  have HB := Lib.hid (below_next HB.out hb2)
  have KP := Lib.hid (KP.out.next hb2)
  have KV := Lib.hid (KV.out.next hb2)
  clear hb2 c0 c1 c2 c3 c4 c5 c6 c7 c8 cf hsz
  obtain ⟨c0, c1, c2, c3, c4, c5, c6, c7, c8⟩ := blk9 KP.out
  have KP0 := KP
  have KV0 := KV
  go_wp2_with fail
  refine (rmay_any (gQ n u) gZ _ (gQ_rp hsn hsu)).mono ?_
  rintro e w3 ⟨rfl, hb3⟩
  rw [HMQ.out]
  have HB := Lib.hid (below_next (below_alloc HB.out (.cells #[.string (bs n), .string (bs u), .slice none 0 0, .slice none 0 0, .slice none 0 0, .slice none 0 0, .slice none 0 0, .slice none 0 0, .bool false] 26)) hb3)
  have KQ := Lib.hid ((blk_new1 w2 26 #[.string (bs n), .string (bs u), .slice none 0 0, .slice none 0 0, .slice none 0 0, .slice none 0 0, .slice none 0 0, .slice none 0 0, .bool false]).next hb3)
  have KP := Lib.hid ((KP.out.alloc (.cells #[.string (bs n), .string (bs u), .slice none 0 0, .slice none 0 0, .slice none 0 0, .slice none 0 0, .slice none 0 0, .slice none 0 0, .bool false] 26)).next hb3)
  have KV := Lib.hid ((KV.out.alloc (.cells #[.string (bs n), .string (bs u), .slice none 0 0, .slice none 0 0, .slice none 0 0, .slice none 0 0, .slice none 0 0, .slice none 0 0, .bool false] 26)).next hb3)
  clear hb3 c0 c1 c2 c3 c4 c5 c6 c7 c8
  have hgap : w.heap.size < w2.heap.size := KP0.out.lt
  obtain ⟨q0, q1, q2, q3, q4, q5, q6, q7, q8⟩ := blk9 KQ.out
  have qf := fun j => KQ.out.frozen j
  have hqz := KQ.out.lt
  have K1 := Lib.hid (show Blk ((w3.setCell ⟨w2.heap.size, 1, none⟩ (.string (bs v))).alloc (.cells #[.string (bs n), .int .i64 R, .string (bs u)] 34)) w.heap.size 26 #[.string (bs p.name), .string (bs p.ver), .slice r.a1 p.pre.length r.c1, .slice r.a2 p.dep.length r.c2, .slice r.a3 p.rcm.length r.c3, .slice r.a4 p.con.length r.c4, .slice r.a5 p.brk.length r.c5, .slice (some ⟨w1.heap.size, 0, none⟩) 1 1, .bool p.ess] from (KP.out.far (p := ⟨w2.heap.size, 1, none⟩) (by show w.heap.size ≠ w2.heap.size; omega) _).alloc _)
  have K2 := Lib.hid (show Blk ((w3.setCell ⟨w2.heap.size, 1, none⟩ (.string (bs v))).alloc (.cells #[.string (bs n), .int .i64 R, .string (bs u)] 34)) w2.heap.size 26 #[.string (bs n), .string (bs v), .slice none 0 0, .slice none 0 0, .slice none 0 0, .slice none 0 0, .slice none 0 0, .slice none 0 0, .bool false] from (KQ.out.set_ 1 (.string (bs v))).alloc _)
  have K3 := Lib.hid (show Blk ((w3.setCell ⟨w2.heap.size, 1, none⟩ (.string (bs v))).alloc (.cells #[.string (bs n), .int .i64 R, .string (bs u)] 34)) w3.heap.size 34 #[.string (bs n), .int .i64 R, .string (bs u)] from (by have h := blk_new1 (w3.setCell ⟨w2.heap.size, 1, none⟩ (.string (bs v))) 34 #[.string (bs n), .int .i64 R, .string (bs u)]; rwa [show (w3.setCell ⟨w2.heap.size, 1, none⟩ (.string (bs v))).heap.size = w3.heap.size from by simp [World.setCell]] at h))
  have K4 := Lib.hid (show Blk ((w3.setCell ⟨w2.heap.size, 1, none⟩ (.string (bs v))).alloc (.cells #[.string (bs n), .int .i64 R, .string (bs u)] 34)) w1.heap.size 38 #[.string (bs n), .string (bs v)] from (KV.out.far (p := ⟨w2.heap.size, 1, none⟩) (by show w1.heap.size ≠ w2.heap.size; have := KV0.out.lt; omega) _).alloc _)
  have HBW := Lib.hid (show Below w.heap.size w ((w3.setCell ⟨w2.heap.size, 1, none⟩ (.string (bs v))).alloc (.cells #[.string (bs n), .int .i64 R, .string (bs u)] 34)) from below_alloc (HB.out.setCell (p := ⟨w2.heap.size, 1, none⟩) (by show w.heap.size ≤ w2.heap.size; omega) _) _)
  go_upto_region 14 with (fail)
  generalize hW : World.alloc (World.setCell _ _ _) _ = W at K1 K2 K3 K4 HBW ⊢
  clear hW
  generalize w2.heap.size = g2 at K2 ⊢
  generalize w3.heap.size = g3 at K3 ⊢
  have a0 := fun (w2 : World) (h : Hid (Below W.heap.size W w2)) => (blk9 (K1.out.next h.out)).1
  have a1 := fun (w2 : World) (h : Hid (Below W.heap.size W w2)) => (blk9 (K1.out.next h.out)).2.1
  have a2 := fun (w2 : World) (h : Hid (Below W.heap.size W w2)) => (blk9 (K1.out.next h.out)).2.2.1
  have a3 := fun (w2 : World) (h : Hid (Below W.heap.size W w2)) => (blk9 (K1.out.next h.out)).2.2.2.1
  have a4 := fun (w2 : World) (h : Hid (Below W.heap.size W w2)) => (blk9 (K1.out.next h.out)).2.2.2.2.1
  have a5 := fun (w2 : World) (h : Hid (Below W.heap.size W w2)) => (blk9 (K1.out.next h.out)).2.2.2.2.2.1
  have a6 := fun (w2 : World) (h : Hid (Below W.heap.size W w2)) => (blk9 (K1.out.next h.out)).2.2.2.2.2.2.1
  have a7 := fun (w2 : World) (h : Hid (Below W.heap.size W w2)) => (blk9 (K1.out.next h.out)).2.2.2.2.2.2.2.1
  have a8 := fun (w2 : World) (h : Hid (Below W.heap.size W w2)) => (blk9 (K1.out.next h.out)).2.2.2.2.2.2.2.2
  have b0 := fun (w2 : World) (h : Hid (Below W.heap.size W w2)) => (blk9 (K2.out.next h.out)).1
  have b1 := fun (w2 : World) (h : Hid (Below W.heap.size W w2)) => (blk9 (K2.out.next h.out)).2.1
  have b2 := fun (w2 : World) (h : Hid (Below W.heap.size W w2)) => (blk9 (K2.out.next h.out)).2.2.1
  have b3 := fun (w2 : World) (h : Hid (Below W.heap.size W w2)) => (blk9 (K2.out.next h.out)).2.2.2.1
  have b4 := fun (w2 : World) (h : Hid (Below W.heap.size W w2)) => (blk9 (K2.out.next h.out)).2.2.2.2.1
  have b5 := fun (w2 : World) (h : Hid (Below W.heap.size W w2)) => (blk9 (K2.out.next h.out)).2.2.2.2.2.1
  have b6 := fun (w2 : World) (h : Hid (Below W.heap.size W w2)) => (blk9 (K2.out.next h.out)).2.2.2.2.2.2.1
  have b7 := fun (w2 : World) (h : Hid (Below W.heap.size W w2)) => (blk9 (K2.out.next h.out)).2.2.2.2.2.2.2.1
  have b8 := fun (w2 : World) (h : Hid (Below W.heap.size W w2)) => (blk9 (K2.out.next h.out)).2.2.2.2.2.2.2.2
  have c0 := fun (w2 : World) (h : Hid (Below W.heap.size W w2)) => (blk3 (K3.out.next h.out)).1
  have c1 := fun (w2 : World) (h : Hid (Below W.heap.size W w2)) => (blk3 (K3.out.next h.out)).2.1
  have c2 := fun (w2 : World) (h : Hid (Below W.heap.size W w2)) => (blk3 (K3.out.next h.out)).2.2
  generalize hsb : satS (gQ n v) ⟨n, R, u⟩ = sb at G2
  have HSB := Lib.hid hsb
  clear hsb
  have S1 := Lib.hid (fun (W' : World) (hh : Hid (Below W.heap.size W W')) => (show Calls Tryz.prog 16 #[(.agg #[.string (bs p.name), .string (bs p.ver), .slice r.a1 p.pre.length r.c1, .slice r.a2 p.dep.length r.c2, .slice r.a3 p.rcm.length r.c3, .slice r.a4 p.con.length r.c4, .slice r.a5 p.brk.length r.c5, .slice (some ⟨w1.heap.size, 0, none⟩) 1 1, .bool p.ess]), (.agg #[.string (bs n), .int .i64 0, .string { data := #[] }])] W' (fun e w' => e = .returned (.bool true) ∧ Below W'.heap.size W' w') from (by have h := sat_any (gP p n v) (gR r w1.heap.size) ⟨n, 0, []⟩ W' (gP_rp (HP.out.kept (Kept.of_below (below_next HBW.out (hh).out))) (K4.out.next (hh).out) hsn hsv) ⟨hsn, by unfold short; simp⟩; rw [G1.out] at h; exact h)))
  have S2 := Lib.hid (fun (W' : World) (hh : Hid (Below W.heap.size W W')) => (show Calls Tryz.prog 16 #[(.agg #[.string (bs p.name), .string (bs p.ver), .slice r.a1 p.pre.length r.c1, .slice r.a2 p.dep.length r.c2, .slice r.a3 p.rcm.length r.c3, .slice r.a4 p.con.length r.c4, .slice r.a5 p.brk.length r.c5, .slice (some ⟨w1.heap.size, 0, none⟩) 1 1, .bool p.ess]), (.agg #[.string (bs n), .int .i64 R, .string (bs u)])] W' (fun e w' => e = .returned (.bool sb) ∧ Below W'.heap.size W' w') from (by have h := sat_any (gP p n v) (gR r w1.heap.size) ⟨n, R, u⟩ W' (gP_rp (HP.out.kept (Kept.of_below (below_next HBW.out (hh).out))) (K4.out.next (hh).out) hsn hsv) ⟨hsn, hsu⟩; rw [G2.out] at h; exact h)))
  have S3 := Lib.hid (fun (W' : World) (hh : Hid (Below W.heap.size W W')) => (show Calls Tryz.prog 16 #[(.agg #[.string (bs n), .string (bs v), .slice none 0 0, .slice none 0 0, .slice none 0 0, .slice none 0 0, .slice none 0 0, .slice none 0 0, .bool false]), (.agg #[.string (bs n), .int .i64 R, .string (bs u)])] W' (fun e w' => e = .returned (.bool sb) ∧ Below W'.heap.size W' w') from (by have h := sat_any (gQ n v) gZ ⟨n, R, u⟩ W' (gQ_rp hsn hsv) ⟨hsn, hsu⟩; rw [HSB.out] at h; exact h)))
  clear HP HL G1 G2 HSB
  go_region_held3 (fun w' => Hid (Below W.heap.size W w')) (first | with_reducible assumption | exact HB4 | exact HB3 | exact HB2 | exact HB1 | exact Lib.hid (below_drewN (Below.refl _ _) 1) | (have hh := (by assumption : Hid (Below W.heap.size W _)); exact Lib.hid (below_alloc hh.out _)))
    (first | (go_at_call 16; have hh := (by assumption : Hid (Below W.heap.size W _)); with_reducible refine (S1.out _ hh).mono ?_; rintro e w5 ⟨rfl, hb1⟩; have HB1 := Lib.hid (below_next hh.out hb1); clear hb1) | (go_at_call 16; have hh := (by assumption : Hid (Below W.heap.size W _)); with_reducible refine (S2.out _ hh).mono ?_; rintro e w5 ⟨rfl, hb1⟩; have HB2 := Lib.hid (below_next hh.out hb1); clear hb1) | (go_at_call 16; have hh := (by assumption : Hid (Below W.heap.size W _)); with_reducible refine (S3.out _ hh).mono ?_; rintro e w5 ⟨rfl, hb1⟩; have HB3 := Lib.hid (below_next hh.out hb1); clear hb1) | (go_at_call 14; have hh := (by assumption : Hid (Below W.heap.size W _)); refine (awake10_any _).mono ?_; rintro e w8 ⟨rfl, hb4⟩; have HB4 := Lib.hid (below_next hh.out hb4); clear hb4))
  all_goals
    go_wp2
    go_ret
    exact ⟨rfl, below_next HBW.out HB4.out⟩
set_option maxRecDepth 100000 in
set_option maxHeartbeats 2000000 in
theorem law_indexGives (r : Raw) (p : Pkg) (n v u : List UInt8) (rel : Int) (w : World) (hp : RP w r p) (hsn : short n) (hsv : short v) (hsu : short u) :
    Calls Tryz.prog 4 #[(.agg #[.string (bs (p).name), .string (bs (p).ver), .slice (r).a1 (p).pre.length (r).c1, .slice (r).a2 (p).dep.length (r).c2, .slice (r).a3 (p).rcm.length (r).c3, .slice (r).a4 (p).con.length (r).c4, .slice (r).a5 (p).brk.length (r).c5, .slice (r).a6 (p).prv.length (r).c6, .bool (p).ess]), .string (bs n), .string (bs v), .string (bs u), .int .i64 rel] w fun e w' => e = .returned (.bool true) ∧ Below w.heap.size w w' := by
  rcases hL : lightM 40 60 30 30 [p]
  · have HP := Lib.hid hp
    have HL := Lib.hid hL
    clear hp hL
    go_enter Tryz.func4, Tryz.ntmps4
    go_wp2_with fail
    have K3 := (Kept.alloc w (.cells #[.string (bs (p).name), .string (bs (p).ver), .slice (r).a1 (p).pre.length (r).c1, .slice (r).a2 (p).dep.length (r).c2, .slice (r).a3 (p).rcm.length (r).c3, .slice (r).a4 (p).con.length (r).c4, .slice (r).a5 (p).brk.length (r).c5, .slice (r).a6 (p).prv.length (r).c6, .bool (p).ess] 26)).trans (Kept.alloc _ (.cells #[.string (bs (p).name), .string (bs (p).ver), .slice (r).a1 (p).pre.length (r).c1, .slice (r).a2 (p).dep.length (r).c2, .slice (r).a3 (p).rcm.length (r).c3, .slice (r).a4 (p).con.length (r).c4, .slice (r).a5 (p).brk.length (r).c5, .slice (r).a6 (p).prv.length (r).c6, .bool (p).ess] 26))
    refine (light10_any _ 1 [p] _ (one_pkgs (blk_new2 _ _ _ _) (HP.out.kept K3))).mono ?_
    rintro e w1 ⟨rfl, hb1⟩
    rw [HL.out]
    have HB := Lib.hid (below_next (below_alloc (below_alloc (Below.refl w.heap.size w) (.cells #[.string (bs (p).name), .string (bs (p).ver), .slice (r).a1 (p).pre.length (r).c1, .slice (r).a2 (p).dep.length (r).c2, .slice (r).a3 (p).rcm.length (r).c3, .slice (r).a4 (p).con.length (r).c4, .slice (r).a5 (p).brk.length (r).c5, .slice (r).a6 (p).prv.length (r).c6, .bool (p).ess] 26)) (.cells #[.string (bs (p).name), .string (bs (p).ver), .slice (r).a1 (p).pre.length (r).c1, .slice (r).a2 (p).dep.length (r).c2, .slice (r).a3 (p).rcm.length (r).c3, .slice (r).a4 (p).con.length (r).c4, .slice (r).a5 (p).brk.length (r).c5, .slice (r).a6 (p).prv.length (r).c6, .bool (p).ess] 26)) hb1)
    have KP := Lib.hid ((Blk.alloc (blk_new1 w 26 #[.string (bs (p).name), .string (bs (p).ver), .slice (r).a1 (p).pre.length (r).c1, .slice (r).a2 (p).dep.length (r).c2, .slice (r).a3 (p).rcm.length (r).c3, .slice (r).a4 (p).con.length (r).c4, .slice (r).a5 (p).brk.length (r).c5, .slice (r).a6 (p).prv.length (r).c6, .bool (p).ess]) (.cells #[.string (bs (p).name), .string (bs (p).ver), .slice (r).a1 (p).pre.length (r).c1, .slice (r).a2 (p).dep.length (r).c2, .slice (r).a3 (p).rcm.length (r).c3, .slice (r).a4 (p).con.length (r).c4, .slice (r).a5 (p).brk.length (r).c5, .slice (r).a6 (p).prv.length (r).c6, .bool (p).ess] 26)).next hb1)
    clear hb1 K3
    go_wp2_with fail
    refine (awake10_any _).mono ?_
    rintro e w9 ⟨rfl, hb9⟩
    go_wp2
    go_ret
    exact ⟨rfl, below_next HB.out hb9⟩
  · by_cases hm : mayE (gP p n v) = 0
    · by_cases hne : p.name = n
      · have HM := Lib.hid hm
        have hne2 : (p.name == n) = true := by simpa using hne
        clear hm hne
        have HP := Lib.hid hp
        have HL := Lib.hid hL
        clear hp hL
        go_enter Tryz.func4, Tryz.ntmps4
        go_wp2_with fail
        have K3 := (Kept.alloc w (.cells #[.string (bs (p).name), .string (bs (p).ver), .slice (r).a1 (p).pre.length (r).c1, .slice (r).a2 (p).dep.length (r).c2, .slice (r).a3 (p).rcm.length (r).c3, .slice (r).a4 (p).con.length (r).c4, .slice (r).a5 (p).brk.length (r).c5, .slice (r).a6 (p).prv.length (r).c6, .bool (p).ess] 26)).trans (Kept.alloc _ (.cells #[.string (bs (p).name), .string (bs (p).ver), .slice (r).a1 (p).pre.length (r).c1, .slice (r).a2 (p).dep.length (r).c2, .slice (r).a3 (p).rcm.length (r).c3, .slice (r).a4 (p).con.length (r).c4, .slice (r).a5 (p).brk.length (r).c5, .slice (r).a6 (p).prv.length (r).c6, .bool (p).ess] 26))
        refine (light10_any _ 1 [p] _ (one_pkgs (blk_new2 _ _ _ _) (HP.out.kept K3))).mono ?_
        rintro e w1 ⟨rfl, hb1⟩
        rw [HL.out]
        have HB := Lib.hid (below_next (below_alloc (below_alloc (Below.refl w.heap.size w) (.cells #[.string (bs (p).name), .string (bs (p).ver), .slice (r).a1 (p).pre.length (r).c1, .slice (r).a2 (p).dep.length (r).c2, .slice (r).a3 (p).rcm.length (r).c3, .slice (r).a4 (p).con.length (r).c4, .slice (r).a5 (p).brk.length (r).c5, .slice (r).a6 (p).prv.length (r).c6, .bool (p).ess] 26)) (.cells #[.string (bs (p).name), .string (bs (p).ver), .slice (r).a1 (p).pre.length (r).c1, .slice (r).a2 (p).dep.length (r).c2, .slice (r).a3 (p).rcm.length (r).c3, .slice (r).a4 (p).con.length (r).c4, .slice (r).a5 (p).brk.length (r).c5, .slice (r).a6 (p).prv.length (r).c6, .bool (p).ess] 26)) hb1)
        have KP := Lib.hid ((Blk.alloc (blk_new1 w 26 #[.string (bs (p).name), .string (bs (p).ver), .slice (r).a1 (p).pre.length (r).c1, .slice (r).a2 (p).dep.length (r).c2, .slice (r).a3 (p).rcm.length (r).c3, .slice (r).a4 (p).con.length (r).c4, .slice (r).a5 (p).brk.length (r).c5, .slice (r).a6 (p).prv.length (r).c6, .bool (p).ess]) (.cells #[.string (bs (p).name), .string (bs (p).ver), .slice (r).a1 (p).pre.length (r).c1, .slice (r).a2 (p).dep.length (r).c2, .slice (r).a3 (p).rcm.length (r).c3, .slice (r).a4 (p).con.length (r).c4, .slice (r).a5 (p).brk.length (r).c5, .slice (r).a6 (p).prv.length (r).c6, .bool (p).ess] 26)).next hb1)
        clear hb1 K3
        obtain ⟨c0, c1, c2, c3, c4, c5, c6, c7, c8⟩ := blk9 KP.out
        have cf := fun j => KP.out.frozen j
        have hsz := KP.out.lt
        have KP := Lib.hid (show Blk ((w1.setCell ⟨w.heap.size, 7, none⟩ (.slice (some ⟨w1.heap.size, 0, none⟩) 1 1)).alloc (.cells #[.string (bs n), .string (bs v)] 38)) w.heap.size 26 #[.string (bs p.name), .string (bs p.ver), .slice r.a1 p.pre.length r.c1, .slice r.a2 p.dep.length r.c2, .slice r.a3 p.rcm.length r.c3, .slice r.a4 p.con.length r.c4, .slice r.a5 p.brk.length r.c5, .slice (some ⟨w1.heap.size, 0, none⟩) 1 1, .bool p.ess] from (KP.out.set_ 7 (.slice (some ⟨w1.heap.size, 0, none⟩) 1 1)).alloc (.cells #[.string (bs n), .string (bs v)] 38))
        have KV := Lib.hid (show Blk ((w1.setCell ⟨w.heap.size, 7, none⟩ (.slice (some ⟨w1.heap.size, 0, none⟩) 1 1)).alloc (.cells #[.string (bs n), .string (bs v)] 38)) w1.heap.size 38 #[.string (bs n), .string (bs v)] from (by have h := blk_new1 (w1.setCell ⟨w.heap.size, 7, none⟩ (.slice (some ⟨w1.heap.size, 0, none⟩) 1 1)) 38 #[.string (bs n), .string (bs v)]; rwa [show (w1.setCell ⟨w.heap.size, 7, none⟩ (.slice (some ⟨w1.heap.size, 0, none⟩) 1 1)).heap.size = w1.heap.size from by simp [World.setCell]] at h))
        have HB := Lib.hid (show Below w.heap.size w ((w1.setCell ⟨w.heap.size, 7, none⟩ (.slice (some ⟨w1.heap.size, 0, none⟩) 1 1)).alloc (.cells #[.string (bs n), .string (bs v)] 38)) from below_alloc (HB.out.setCell (p := ⟨w.heap.size, 7, none⟩) (Nat.le_refl _) (.slice (some ⟨w1.heap.size, 0, none⟩) 1 1)) (.cells #[.string (bs n), .string (bs v)] 38))
        go_wp2_with fail
        refine (rmay_any (gP p n v) (gR r w1.heap.size) _ (gP_rp (HP.out.kept (Kept.of_below HB.out)) KV.out hsn hsv)).mono ?_
        rintro e w2 ⟨rfl, hb2⟩
        rw [HM.out]
        have HB := Lib.hid (below_next HB.out hb2)
        have KP := Lib.hid (KP.out.next hb2)
        have KV := Lib.hid (KV.out.next hb2)
        clear hb2 c0 c1 c2 c3 c4 c5 c6 c7 c8 cf hsz
        obtain ⟨c0, c1, c2, c3, c4, c5, c6, c7, c8⟩ := blk9 KP.out
        go_wp2_with fail
        refine (awake10_any _).mono ?_
        rintro e w9 ⟨rfl, hb9⟩
        go_wp2
        go_ret
        exact ⟨rfl, below_next HB.out hb9⟩
      · by_cases hmq : mayE (gQ n u) = 0
        · rcases hve : v.isEmpty
          · exact gives_ver r p n v u rel w hp hsn hsv hsu hL hm hne hmq hve
          · exact gives_emp r p n v u rel w hp hsn hsv hsu hL hm hne hmq hve
        · have HM := Lib.hid hm
          have hne2 : (p.name == n) = false := by simpa using hne
          generalize hE : mayE (gQ n u) = E at hmq
          have HMQ := Lib.hid hE
          have hEb : (E != 0) = true := by rw [bne_iff_ne]; exact hmq
          clear hE hmq hm hne
          have HP := Lib.hid hp
          have HL := Lib.hid hL
          clear hp hL
          go_enter Tryz.func4, Tryz.ntmps4
          go_wp2_with fail
          have K3 := (Kept.alloc w (.cells #[.string (bs (p).name), .string (bs (p).ver), .slice (r).a1 (p).pre.length (r).c1, .slice (r).a2 (p).dep.length (r).c2, .slice (r).a3 (p).rcm.length (r).c3, .slice (r).a4 (p).con.length (r).c4, .slice (r).a5 (p).brk.length (r).c5, .slice (r).a6 (p).prv.length (r).c6, .bool (p).ess] 26)).trans (Kept.alloc _ (.cells #[.string (bs (p).name), .string (bs (p).ver), .slice (r).a1 (p).pre.length (r).c1, .slice (r).a2 (p).dep.length (r).c2, .slice (r).a3 (p).rcm.length (r).c3, .slice (r).a4 (p).con.length (r).c4, .slice (r).a5 (p).brk.length (r).c5, .slice (r).a6 (p).prv.length (r).c6, .bool (p).ess] 26))
          refine (light10_any _ 1 [p] _ (one_pkgs (blk_new2 _ _ _ _) (HP.out.kept K3))).mono ?_
          rintro e w1 ⟨rfl, hb1⟩
          rw [HL.out]
          have HB := Lib.hid (below_next (below_alloc (below_alloc (Below.refl w.heap.size w) (.cells #[.string (bs (p).name), .string (bs (p).ver), .slice (r).a1 (p).pre.length (r).c1, .slice (r).a2 (p).dep.length (r).c2, .slice (r).a3 (p).rcm.length (r).c3, .slice (r).a4 (p).con.length (r).c4, .slice (r).a5 (p).brk.length (r).c5, .slice (r).a6 (p).prv.length (r).c6, .bool (p).ess] 26)) (.cells #[.string (bs (p).name), .string (bs (p).ver), .slice (r).a1 (p).pre.length (r).c1, .slice (r).a2 (p).dep.length (r).c2, .slice (r).a3 (p).rcm.length (r).c3, .slice (r).a4 (p).con.length (r).c4, .slice (r).a5 (p).brk.length (r).c5, .slice (r).a6 (p).prv.length (r).c6, .bool (p).ess] 26)) hb1)
          have KP := Lib.hid ((Blk.alloc (blk_new1 w 26 #[.string (bs (p).name), .string (bs (p).ver), .slice (r).a1 (p).pre.length (r).c1, .slice (r).a2 (p).dep.length (r).c2, .slice (r).a3 (p).rcm.length (r).c3, .slice (r).a4 (p).con.length (r).c4, .slice (r).a5 (p).brk.length (r).c5, .slice (r).a6 (p).prv.length (r).c6, .bool (p).ess]) (.cells #[.string (bs (p).name), .string (bs (p).ver), .slice (r).a1 (p).pre.length (r).c1, .slice (r).a2 (p).dep.length (r).c2, .slice (r).a3 (p).rcm.length (r).c3, .slice (r).a4 (p).con.length (r).c4, .slice (r).a5 (p).brk.length (r).c5, .slice (r).a6 (p).prv.length (r).c6, .bool (p).ess] 26)).next hb1)
          clear hb1 K3
          obtain ⟨c0, c1, c2, c3, c4, c5, c6, c7, c8⟩ := blk9 KP.out
          have cf := fun j => KP.out.frozen j
          have hsz := KP.out.lt
          have KP := Lib.hid (show Blk ((w1.setCell ⟨w.heap.size, 7, none⟩ (.slice (some ⟨w1.heap.size, 0, none⟩) 1 1)).alloc (.cells #[.string (bs n), .string (bs v)] 38)) w.heap.size 26 #[.string (bs p.name), .string (bs p.ver), .slice r.a1 p.pre.length r.c1, .slice r.a2 p.dep.length r.c2, .slice r.a3 p.rcm.length r.c3, .slice r.a4 p.con.length r.c4, .slice r.a5 p.brk.length r.c5, .slice (some ⟨w1.heap.size, 0, none⟩) 1 1, .bool p.ess] from (KP.out.set_ 7 (.slice (some ⟨w1.heap.size, 0, none⟩) 1 1)).alloc (.cells #[.string (bs n), .string (bs v)] 38))
          have KV := Lib.hid (show Blk ((w1.setCell ⟨w.heap.size, 7, none⟩ (.slice (some ⟨w1.heap.size, 0, none⟩) 1 1)).alloc (.cells #[.string (bs n), .string (bs v)] 38)) w1.heap.size 38 #[.string (bs n), .string (bs v)] from (by have h := blk_new1 (w1.setCell ⟨w.heap.size, 7, none⟩ (.slice (some ⟨w1.heap.size, 0, none⟩) 1 1)) 38 #[.string (bs n), .string (bs v)]; rwa [show (w1.setCell ⟨w.heap.size, 7, none⟩ (.slice (some ⟨w1.heap.size, 0, none⟩) 1 1)).heap.size = w1.heap.size from by simp [World.setCell]] at h))
          have HB := Lib.hid (show Below w.heap.size w ((w1.setCell ⟨w.heap.size, 7, none⟩ (.slice (some ⟨w1.heap.size, 0, none⟩) 1 1)).alloc (.cells #[.string (bs n), .string (bs v)] 38)) from below_alloc (HB.out.setCell (p := ⟨w.heap.size, 7, none⟩) (Nat.le_refl _) (.slice (some ⟨w1.heap.size, 0, none⟩) 1 1)) (.cells #[.string (bs n), .string (bs v)] 38))
          go_wp2_with fail
          refine (rmay_any (gP p n v) (gR r w1.heap.size) _ (gP_rp (HP.out.kept (Kept.of_below HB.out)) KV.out hsn hsv)).mono ?_
          rintro e w2 ⟨rfl, hb2⟩
          rw [HM.out]
          have HB := Lib.hid (below_next HB.out hb2)
          have KP := Lib.hid (KP.out.next hb2)
          have KV := Lib.hid (KV.out.next hb2)
          clear hb2 c0 c1 c2 c3 c4 c5 c6 c7 c8 cf hsz
          obtain ⟨c0, c1, c2, c3, c4, c5, c6, c7, c8⟩ := blk9 KP.out
          have KP0 := KP
          have KV0 := KV
          go_wp2_with fail
          refine (rmay_any (gQ n u) gZ _ (gQ_rp hsn hsu)).mono ?_
          rintro e w3 ⟨rfl, hb3⟩
          rw [HMQ.out]
          have HB := Lib.hid (below_next (below_alloc HB.out (.cells #[.string (bs n), .string (bs u), .slice none 0 0, .slice none 0 0, .slice none 0 0, .slice none 0 0, .slice none 0 0, .slice none 0 0, .bool false] 26)) hb3)
          have KQ := Lib.hid ((blk_new1 w2 26 #[.string (bs n), .string (bs u), .slice none 0 0, .slice none 0 0, .slice none 0 0, .slice none 0 0, .slice none 0 0, .slice none 0 0, .bool false]).next hb3)
          have KP := Lib.hid ((KP.out.alloc (.cells #[.string (bs n), .string (bs u), .slice none 0 0, .slice none 0 0, .slice none 0 0, .slice none 0 0, .slice none 0 0, .slice none 0 0, .bool false] 26)).next hb3)
          have KV := Lib.hid ((KV.out.alloc (.cells #[.string (bs n), .string (bs u), .slice none 0 0, .slice none 0 0, .slice none 0 0, .slice none 0 0, .slice none 0 0, .slice none 0 0, .bool false] 26)).next hb3)
          clear hb3 c0 c1 c2 c3 c4 c5 c6 c7 c8
          go_wp2_with fail
          refine (awake10_any _).mono ?_
          rintro e w9 ⟨rfl, hb9⟩
          go_wp2
          go_ret
          exact ⟨rfl, below_next HB.out hb9⟩
    · generalize hE : mayE (gP p n v) = E at hm
      have HM := Lib.hid hE
      have hEb : (E != 0) = true := by rw [bne_iff_ne]; exact hm
      clear hE hm
      have HP := Lib.hid hp
      have HL := Lib.hid hL
      clear hp hL
      go_enter Tryz.func4, Tryz.ntmps4
      go_wp2_with fail
      have K3 := (Kept.alloc w (.cells #[.string (bs (p).name), .string (bs (p).ver), .slice (r).a1 (p).pre.length (r).c1, .slice (r).a2 (p).dep.length (r).c2, .slice (r).a3 (p).rcm.length (r).c3, .slice (r).a4 (p).con.length (r).c4, .slice (r).a5 (p).brk.length (r).c5, .slice (r).a6 (p).prv.length (r).c6, .bool (p).ess] 26)).trans (Kept.alloc _ (.cells #[.string (bs (p).name), .string (bs (p).ver), .slice (r).a1 (p).pre.length (r).c1, .slice (r).a2 (p).dep.length (r).c2, .slice (r).a3 (p).rcm.length (r).c3, .slice (r).a4 (p).con.length (r).c4, .slice (r).a5 (p).brk.length (r).c5, .slice (r).a6 (p).prv.length (r).c6, .bool (p).ess] 26))
      refine (light10_any _ 1 [p] _ (one_pkgs (blk_new2 _ _ _ _) (HP.out.kept K3))).mono ?_
      rintro e w1 ⟨rfl, hb1⟩
      rw [HL.out]
      have HB := Lib.hid (below_next (below_alloc (below_alloc (Below.refl w.heap.size w) (.cells #[.string (bs (p).name), .string (bs (p).ver), .slice (r).a1 (p).pre.length (r).c1, .slice (r).a2 (p).dep.length (r).c2, .slice (r).a3 (p).rcm.length (r).c3, .slice (r).a4 (p).con.length (r).c4, .slice (r).a5 (p).brk.length (r).c5, .slice (r).a6 (p).prv.length (r).c6, .bool (p).ess] 26)) (.cells #[.string (bs (p).name), .string (bs (p).ver), .slice (r).a1 (p).pre.length (r).c1, .slice (r).a2 (p).dep.length (r).c2, .slice (r).a3 (p).rcm.length (r).c3, .slice (r).a4 (p).con.length (r).c4, .slice (r).a5 (p).brk.length (r).c5, .slice (r).a6 (p).prv.length (r).c6, .bool (p).ess] 26)) hb1)
      have KP := Lib.hid ((Blk.alloc (blk_new1 w 26 #[.string (bs (p).name), .string (bs (p).ver), .slice (r).a1 (p).pre.length (r).c1, .slice (r).a2 (p).dep.length (r).c2, .slice (r).a3 (p).rcm.length (r).c3, .slice (r).a4 (p).con.length (r).c4, .slice (r).a5 (p).brk.length (r).c5, .slice (r).a6 (p).prv.length (r).c6, .bool (p).ess]) (.cells #[.string (bs (p).name), .string (bs (p).ver), .slice (r).a1 (p).pre.length (r).c1, .slice (r).a2 (p).dep.length (r).c2, .slice (r).a3 (p).rcm.length (r).c3, .slice (r).a4 (p).con.length (r).c4, .slice (r).a5 (p).brk.length (r).c5, .slice (r).a6 (p).prv.length (r).c6, .bool (p).ess] 26)).next hb1)
      clear hb1 K3
      obtain ⟨c0, c1, c2, c3, c4, c5, c6, c7, c8⟩ := blk9 KP.out
      have cf := fun j => KP.out.frozen j
      have hsz := KP.out.lt
      have KP := Lib.hid (show Blk ((w1.setCell ⟨w.heap.size, 7, none⟩ (.slice (some ⟨w1.heap.size, 0, none⟩) 1 1)).alloc (.cells #[.string (bs n), .string (bs v)] 38)) w.heap.size 26 #[.string (bs p.name), .string (bs p.ver), .slice r.a1 p.pre.length r.c1, .slice r.a2 p.dep.length r.c2, .slice r.a3 p.rcm.length r.c3, .slice r.a4 p.con.length r.c4, .slice r.a5 p.brk.length r.c5, .slice (some ⟨w1.heap.size, 0, none⟩) 1 1, .bool p.ess] from (KP.out.set_ 7 (.slice (some ⟨w1.heap.size, 0, none⟩) 1 1)).alloc (.cells #[.string (bs n), .string (bs v)] 38))
      have KV := Lib.hid (show Blk ((w1.setCell ⟨w.heap.size, 7, none⟩ (.slice (some ⟨w1.heap.size, 0, none⟩) 1 1)).alloc (.cells #[.string (bs n), .string (bs v)] 38)) w1.heap.size 38 #[.string (bs n), .string (bs v)] from (by have h := blk_new1 (w1.setCell ⟨w.heap.size, 7, none⟩ (.slice (some ⟨w1.heap.size, 0, none⟩) 1 1)) 38 #[.string (bs n), .string (bs v)]; rwa [show (w1.setCell ⟨w.heap.size, 7, none⟩ (.slice (some ⟨w1.heap.size, 0, none⟩) 1 1)).heap.size = w1.heap.size from by simp [World.setCell]] at h))
      have HB := Lib.hid (show Below w.heap.size w ((w1.setCell ⟨w.heap.size, 7, none⟩ (.slice (some ⟨w1.heap.size, 0, none⟩) 1 1)).alloc (.cells #[.string (bs n), .string (bs v)] 38)) from below_alloc (HB.out.setCell (p := ⟨w.heap.size, 7, none⟩) (Nat.le_refl _) (.slice (some ⟨w1.heap.size, 0, none⟩) 1 1)) (.cells #[.string (bs n), .string (bs v)] 38))
      go_wp2_with fail
      refine (rmay_any (gP p n v) (gR r w1.heap.size) _ (gP_rp (HP.out.kept (Kept.of_below HB.out)) KV.out hsn hsv)).mono ?_
      rintro e w2 ⟨rfl, hb2⟩
      rw [HM.out]
      have HB := Lib.hid (below_next HB.out hb2)
      have KP := Lib.hid (KP.out.next hb2)
      have KV := Lib.hid (KV.out.next hb2)
      clear hb2 c0 c1 c2 c3 c4 c5 c6 c7 c8 cf hsz
      go_wp2_with fail
      refine (awake10_any _).mono ?_
      rintro e w9 ⟨rfl, hb9⟩
      go_wp2
      go_ret
      exact ⟨rfl, below_next HB.out hb9⟩
end Go.Proofs.YtflmocamfedbdaaGreatDoor
