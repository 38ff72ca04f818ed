/- The law IndexSplits. -/
import Derived.Test.YtflmocamfedbdaaGreatDoorAwA
import Derived.Test.YtflmocamfedbdaaGreatDoorLg
import Derived.Test.YtflmocamfedbdaaGreatDoorMaE
import Derived.Test.YtflmocamfedbdaaGreatDoorStB
import Derived.Test.YtflmocamfedbdaaGreatDoorInP
namespace Go.Proofs.YtflmocamfedbdaaGreatDoor
set_option linter.unusedSimpArgs false
set_option linter.unusedVariables false
open Go.RowKit
theorem one_pkgs {W : World} {g : Nat} {p : Pkg} {r : Raw} (hB : Blk W g 26 #[.string (bs (p).name), .string (bs (p).ver), .slice (r).a1 (p).pre.length (r).c1, .slice (r).a2 (p).dep.length (r).c2, .slice (r).a3 (p).rcm.length (r).c3, .slice (r).a4 (p).con.length (r).c4, .slice (r).a5 (p).brk.length (r).c5, .slice (r).a6 (p).prv.length (r).c6, .bool (p).ess]) (hp : RP W r p) : Pkgs W (some ⟨g, 0, none⟩) 1 [p] :=
  slcB [encK r p] hB rfl rfl (fun i cs x e1 e2 => by
    rcases i with _ | i
    · simp at e1 e2
      subst e1 e2
      exact ⟨⟨r, rfl, hp⟩, rfl⟩
    · simp at e1) rfl (by show 1 * 184 ≤ _; decide) (by show 1 ≤ _; decide) (by decide)
def nR (r : Raw) : Raw := { r with a6 := none, c6 := 0 }
theorem noP_rp {w : World} {r : Raw} {p : Pkg} (h : RP w r p) : RP w (nR r) (noP p) := by
  obtain ⟨h1, h2, h3, h4, h5, h6, h7, h8⟩ := h
  exact ⟨h1, h2, h3, h4, h5, h6, h7, Slc.nil_ (Nat.zero_le _)⟩
set_option maxRecDepth 100000 in
theorem splc_any (p : Pkg) (r : Raw) (v : List UInt8) (rel : Int) (b : Bool) (g0 g1 : Nat) (w : World) (hB0 : Blk w g0 26 #[.string (bs p.name), .string (bs p.ver), .slice r.a1 p.pre.length r.c1, .slice r.a2 p.dep.length r.c2, .slice r.a3 p.rcm.length r.c3, .slice r.a4 p.con.length r.c4, .slice r.a5 p.brk.length r.c5, .slice none 0 0, .bool p.ess]) (hB1 : Blk w g1 9 #[.string (bs v)]) (hp : RP w r p) (hv : short v) (hb : satS (noP p) ⟨p.name, rel, v⟩ = b) :
    Calls Tryz.prog 15 #[.int .i64 rel, .pointer (some ⟨g0, 0, none⟩), .pointer (some ⟨g1, 0, none⟩)] w fun e w' => e = .returned (.bool b) ∧ Below w.heap.size w w' := by
  obtain ⟨c0, c1, c2, c3, c4, c5, c6, c7, c8⟩ := blk9 hB0
  have d0 := hB1.cell 0
  have hn := hp.1
  have HP := Lib.hid (noP_rp hp)
  have HB := Lib.hid hb
  clear hB0 hB1 hp hb
  go_enter Tryz.func15, Tryz.ntmps15
  go_wp2_with fail
  refine (sat_any (noP p) (nR r) ⟨p.name, rel, v⟩ _ HP.out ⟨hn, hv⟩).mono ?_
  rintro e w1 ⟨rfl, hb1⟩
  rw [HB.out]
  go_wp2
  go_ret
  exact ⟨rfl, hb1⟩
set_option maxRecDepth 100000 in
set_option maxHeartbeats 1000000 in
theorem split_lt (p : Pkg) (r : Raw) (v : List UInt8) (w : World) (hp : RP w r p) (hs : short v) (hL : lightM 40 60 30 30 [p] = true) (hm : mayE p = 0) (hv : isV v = true)
    (h0 : satS (noP p) ⟨p.name, 0, []⟩ = true) (h1 : satS (noP p) ⟨p.name, 1, v⟩ = true) (h2 : satS (noP p) ⟨p.name, 2, v⟩ = true) (h3 : satS (noP p) ⟨p.name, 3, v⟩ = false) (h4 : satS (noP p) ⟨p.name, 4, v⟩ = false) (h5 : satS (noP p) ⟨p.name, 5, v⟩ = false) :
    Calls Tryz.prog 3 #[(.agg #[.string (bs (p).name), .string (bs (p).ver), .slice (r).a1 (p).pre.length (r).c1, .slice (r).a2 (p).dep.length (r).c2, .slice (r).a3 (p).rcm.length (r).c3, .slice (r).a4 (p).con.length (r).c4, .slice (r).a5 (p).brk.length (r).c5, .slice (r).a6 (p).prv.length (r).c6, .bool (p).ess]), .string (bs v)] w fun e w' => e = .returned (.bool true) ∧ Below w.heap.size w w' := by
  have hmf : ∀ (fn : Fn) (first cap : Array Value) (w : World), (Instr.makeFunc fn first cap).run Tryz.prog w = .ok (.func fn first cap) w := fun _ _ _ _ => rfl
  have hn := hp.1
  have HP := Lib.hid hp
  have HL := Lib.hid hL
  have HM := Lib.hid hm
  have HV := Lib.hid hv
  have H0 := Lib.hid h0
  have H1 := Lib.hid h1
  have H2 := Lib.hid h2
  have H3 := Lib.hid h3
  have H4 := Lib.hid h4
  have H5 := Lib.hid h5
  clear hp hL hm hv h0 h1 h2 h3 h4 h5
  go_enter Tryz.func3, Tryz.ntmps3
  go_wp2_with fail
  have K3 := ((Kept.alloc w (.cells #[.string (bs (p).name), .string (bs (p).ver), .slice (r).a1 (p).pre.length (r).c1, .slice (r).a2 (p).dep.length (r).c2, .slice (r).a3 (p).rcm.length (r).c3, .slice (r).a4 (p).con.length (r).c4, .slice (r).a5 (p).brk.length (r).c5, .slice (r).a6 (p).prv.length (r).c6, .bool (p).ess] 26)).trans (Kept.alloc _ (.cells #[.string (bs v)] 9))).trans (Kept.alloc _ (.cells #[.string (bs (p).name), .string (bs (p).ver), .slice (r).a1 (p).pre.length (r).c1, .slice (r).a2 (p).dep.length (r).c2, .slice (r).a3 (p).rcm.length (r).c3, .slice (r).a4 (p).con.length (r).c4, .slice (r).a5 (p).brk.length (r).c5, .slice (r).a6 (p).prv.length (r).c6, .bool (p).ess] 26))
  refine (light10_any _ 1 [p] _ (one_pkgs (blk_new3 _ _ _ _ _) (HP.out.kept K3))).mono ?_
  rintro e w1 ⟨rfl, hb1⟩
  rw [HL.out]
  have HB := Lib.hid (below_next (below_alloc (below_alloc (below_alloc (Below.refl w.heap.size w) (.cells #[.string (bs (p).name), .string (bs (p).ver), .slice (r).a1 (p).pre.length (r).c1, .slice (r).a2 (p).dep.length (r).c2, .slice (r).a3 (p).rcm.length (r).c3, .slice (r).a4 (p).con.length (r).c4, .slice (r).a5 (p).brk.length (r).c5, .slice (r).a6 (p).prv.length (r).c6, .bool (p).ess] 26)) (.cells #[.string (bs v)] 9)) (.cells #[.string (bs (p).name), .string (bs (p).ver), .slice (r).a1 (p).pre.length (r).c1, .slice (r).a2 (p).dep.length (r).c2, .slice (r).a3 (p).rcm.length (r).c3, .slice (r).a4 (p).con.length (r).c4, .slice (r).a5 (p).brk.length (r).c5, .slice (r).a6 (p).prv.length (r).c6, .bool (p).ess] 26)) hb1)
  have KP := Lib.hid ((Blk.alloc (Blk.alloc (blk_new1 w 26 #[.string (bs (p).name), .string (bs (p).ver), .slice (r).a1 (p).pre.length (r).c1, .slice (r).a2 (p).dep.length (r).c2, .slice (r).a3 (p).rcm.length (r).c3, .slice (r).a4 (p).con.length (r).c4, .slice (r).a5 (p).brk.length (r).c5, .slice (r).a6 (p).prv.length (r).c6, .bool (p).ess]) (.cells #[.string (bs v)] 9)) (.cells #[.string (bs (p).name), .string (bs (p).ver), .slice (r).a1 (p).pre.length (r).c1, .slice (r).a2 (p).dep.length (r).c2, .slice (r).a3 (p).rcm.length (r).c3, .slice (r).a4 (p).con.length (r).c4, .slice (r).a5 (p).brk.length (r).c5, .slice (r).a6 (p).prv.length (r).c6, .bool (p).ess] 26)).next hb1)
  have KV := Lib.hid ((Blk.alloc (blk_new2 w (.cells #[.string (bs (p).name), .string (bs (p).ver), .slice (r).a1 (p).pre.length (r).c1, .slice (r).a2 (p).dep.length (r).c2, .slice (r).a3 (p).rcm.length (r).c3, .slice (r).a4 (p).con.length (r).c4, .slice (r).a5 (p).brk.length (r).c5, .slice (r).a6 (p).prv.length (r).c6, .bool (p).ess] 26) 9 #[.string (bs v)]) (.cells #[.string (bs (p).name), .string (bs (p).ver), .slice (r).a1 (p).pre.length (r).c1, .slice (r).a2 (p).dep.length (r).c2, .slice (r).a3 (p).rcm.length (r).c3, .slice (r).a4 (p).con.length (r).c4, .slice (r).a5 (p).brk.length (r).c5, .slice (r).a6 (p).prv.length (r).c6, .bool (p).ess] 26)).next hb1)
  clear hb1 K3
  obtain ⟨c0, c1, c2, c3, c4, c5, c6, c7, c8⟩ := blk9 KP.out
  go_wp2_with fail
  refine (rmay_any p r _ (HP.out.kept (Kept.of_below HB.out))).mono ?_
  rintro e w2 ⟨rfl, hb2⟩
  rw [HM.out]
  have HB := Lib.hid (below_next HB.out hb2)
  have KP := Lib.hid (KP.out.next hb2)
  have KV := Lib.hid (KV.out.next hb2)
  clear hb2 c0 c1 c2 c3 c4 c5 c6 c7 c8
  have d0 := KV.out.cell 0
  go_wp2_with fail
  refine (rIs_any v _).mono ?_
  rintro e w3 ⟨rfl, hb3⟩
  rw [HV.out]
  have HB := Lib.hid (below_next HB.out hb3)
  have KP := Lib.hid (KP.out.next hb3)
  have KV := Lib.hid (KV.out.next hb3)
  clear hb3 d0
  obtain ⟨c0, c1, c2, c3, c4, c5, c6, c7, c8⟩ := blk9 KP.out
  have cf := fun j => KP.out.frozen j
  have hsz := KP.out.lt
  have KP := Lib.hid (show Blk (w3.setCell ⟨w.heap.size, 7, none⟩ (.slice none 0 0)) w.heap.size 26 #[.string (bs p.name), .string (bs p.ver), .slice r.a1 p.pre.length r.c1, .slice r.a2 p.dep.length r.c2, .slice r.a3 p.rcm.length r.c3, .slice r.a4 p.con.length r.c4, .slice r.a5 p.brk.length r.c5, .slice none 0 0, .bool p.ess] from KP.out.set_ 7 (.slice none 0 0))
  have KV := Lib.hid (KV.out.far (p := ⟨w.heap.size, 7, none⟩) (by show w.heap.size + 1 ≠ w.heap.size; omega) (.slice none 0 0))
  have HB := Lib.hid (HB.out.setCell (p := ⟨w.heap.size, 7, none⟩) (Nat.le_refl _) (.slice none 0 0))
  go_wp2_with fail
  refine (sat_any (noP p) (nR r) ⟨p.name, 0, []⟩ _ (noP_rp (HP.out.kept (Kept.of_below HB.out))) ⟨hn, by unfold short; simp⟩).mono ?_
  rintro e w4 ⟨rfl, hb4⟩
  rw [H0.out]
  have KP := Lib.hid (KP.out.next hb4)
  have KV := Lib.hid (KV.out.next hb4)
  have HB := Lib.hid (below_next HB.out hb4)
  clear hb4 c0 c1 c2 c3 c4 c5 c6 c7 c8 cf hsz
  go_wp2_with (first | (go_at_call_of 15 (Value.int .i64 1); refine (splc_any p r v 1 _ _ _ _ KP.out KV.out (HP.out.kept (Kept.of_below HB.out)) hs (H1).out).mono ?_; rintro e w1 ⟨rfl, hb⟩; have KP := Lib.hid (KP.out.next hb); have KV := Lib.hid (KV.out.next hb); have HB := Lib.hid (below_next HB.out hb); clear hb) | (go_at_call_of 15 (Value.int .i64 2); refine (splc_any p r v 2 _ _ _ _ KP.out KV.out (HP.out.kept (Kept.of_below HB.out)) hs (H2).out).mono ?_; rintro e w1 ⟨rfl, hb⟩; have KP := Lib.hid (KP.out.next hb); have KV := Lib.hid (KV.out.next hb); have HB := Lib.hid (below_next HB.out hb); clear hb) | (go_at_call_of 15 (Value.int .i64 3); refine (splc_any p r v 3 _ _ _ _ KP.out KV.out (HP.out.kept (Kept.of_below HB.out)) hs (H3).out).mono ?_; rintro e w1 ⟨rfl, hb⟩; have KP := Lib.hid (KP.out.next hb); have KV := Lib.hid (KV.out.next hb); have HB := Lib.hid (below_next HB.out hb); clear hb) | (go_at_call_of 15 (Value.int .i64 4); refine (splc_any p r v 4 _ _ _ _ KP.out KV.out (HP.out.kept (Kept.of_below HB.out)) hs (H4).out).mono ?_; rintro e w1 ⟨rfl, hb⟩; have KP := Lib.hid (KP.out.next hb); have KV := Lib.hid (KV.out.next hb); have HB := Lib.hid (below_next HB.out hb); clear hb) | (go_at_call_of 15 (Value.int .i64 5); refine (splc_any p r v 5 _ _ _ _ KP.out KV.out (HP.out.kept (Kept.of_below HB.out)) hs (H5).out).mono ?_; rintro e w1 ⟨rfl, hb⟩; have KP := Lib.hid (KP.out.next hb); have KV := Lib.hid (KV.out.next hb); have HB := Lib.hid (below_next HB.out hb); clear hb) | (go_at_call 14; refine (awake10_any _).mono ?_; rintro e w1 ⟨rfl, hb⟩; have HB := Lib.hid (below_next HB.out hb)))
  go_ret
  exact ⟨rfl, HB.out⟩
set_option maxRecDepth 100000 in
set_option maxHeartbeats 1000000 in
theorem split_eq (p : Pkg) (r : Raw) (v : List UInt8) (w : World) (hp : RP w r p) (hs : short v) (hL : lightM 40 60 30 30 [p] = true) (hm : mayE p = 0) (hv : isV v = true)
    (h0 : satS (noP p) ⟨p.name, 0, []⟩ = true) (h1 : satS (noP p) ⟨p.name, 1, v⟩ = false) (h2 : satS (noP p) ⟨p.name, 2, v⟩ = true) (h3 : satS (noP p) ⟨p.name, 3, v⟩ = true) (h4 : satS (noP p) ⟨p.name, 4, v⟩ = true) (h5 : satS (noP p) ⟨p.name, 5, v⟩ = false) :
    Calls Tryz.prog 3 #[(.agg #[.string (bs (p).name), .string (bs (p).ver), .slice (r).a1 (p).pre.length (r).c1, .slice (r).a2 (p).dep.length (r).c2, .slice (r).a3 (p).rcm.length (r).c3, .slice (r).a4 (p).con.length (r).c4, .slice (r).a5 (p).brk.length (r).c5, .slice (r).a6 (p).prv.length (r).c6, .bool (p).ess]), .string (bs v)] w fun e w' => e = .returned (.bool true) ∧ Below w.heap.size w w' := by
  have hmf : ∀ (fn : Fn) (first cap : Array Value) (w : World), (Instr.makeFunc fn first cap).run Tryz.prog w = .ok (.func fn first cap) w := fun _ _ _ _ => rfl
  have hn := hp.1
  have HP := Lib.hid hp
  have HL := Lib.hid hL
  have HM := Lib.hid hm
  have HV := Lib.hid hv
  have H0 := Lib.hid h0
  have H1 := Lib.hid h1
  have H2 := Lib.hid h2
  have H3 := Lib.hid h3
  have H4 := Lib.hid h4
  have H5 := Lib.hid h5
  clear hp hL hm hv h0 h1 h2 h3 h4 h5
  go_enter Tryz.func3, Tryz.ntmps3
  go_wp2_with fail
  have K3 := ((Kept.alloc w (.cells #[.string (bs (p).name), .string (bs (p).ver), .slice (r).a1 (p).pre.length (r).c1, .slice (r).a2 (p).dep.length (r).c2, .slice (r).a3 (p).rcm.length (r).c3, .slice (r).a4 (p).con.length (r).c4, .slice (r).a5 (p).brk.length (r).c5, .slice (r).a6 (p).prv.length (r).c6, .bool (p).ess] 26)).trans (Kept.alloc _ (.cells #[.string (bs v)] 9))).trans (Kept.alloc _ (.cells #[.string (bs (p).name), .string (bs (p).ver), .slice (r).a1 (p).pre.length (r).c1, .slice (r).a2 (p).dep.length (r).c2, .slice (r).a3 (p).rcm.length (r).c3, .slice (r).a4 (p).con.length (r).c4, .slice (r).a5 (p).brk.length (r).c5, .slice (r).a6 (p).prv.length (r).c6, .bool (p).ess] 26))
  refine (light10_any _ 1 [p] _ (one_pkgs (blk_new3 _ _ _ _ _) (HP.out.kept K3))).mono ?_
  rintro e w1 ⟨rfl, hb1⟩
  rw [HL.out]
  have HB := Lib.hid (below_next (below_alloc (below_alloc (below_alloc (Below.refl w.heap.size w) (.cells #[.string (bs (p).name), .string (bs (p).ver), .slice (r).a1 (p).pre.length (r).c1, .slice (r).a2 (p).dep.length (r).c2, .slice (r).a3 (p).rcm.length (r).c3, .slice (r).a4 (p).con.length (r).c4, .slice (r).a5 (p).brk.length (r).c5, .slice (r).a6 (p).prv.length (r).c6, .bool (p).ess] 26)) (.cells #[.string (bs v)] 9)) (.cells #[.string (bs (p).name), .string (bs (p).ver), .slice (r).a1 (p).pre.length (r).c1, .slice (r).a2 (p).dep.length (r).c2, .slice (r).a3 (p).rcm.length (r).c3, .slice (r).a4 (p).con.length (r).c4, .slice (r).a5 (p).brk.length (r).c5, .slice (r).a6 (p).prv.length (r).c6, .bool (p).ess] 26)) hb1)
  have KP := Lib.hid ((Blk.alloc (Blk.alloc (blk_new1 w 26 #[.string (bs (p).name), .string (bs (p).ver), .slice (r).a1 (p).pre.length (r).c1, .slice (r).a2 (p).dep.length (r).c2, .slice (r).a3 (p).rcm.length (r).c3, .slice (r).a4 (p).con.length (r).c4, .slice (r).a5 (p).brk.length (r).c5, .slice (r).a6 (p).prv.length (r).c6, .bool (p).ess]) (.cells #[.string (bs v)] 9)) (.cells #[.string (bs (p).name), .string (bs (p).ver), .slice (r).a1 (p).pre.length (r).c1, .slice (r).a2 (p).dep.length (r).c2, .slice (r).a3 (p).rcm.length (r).c3, .slice (r).a4 (p).con.length (r).c4, .slice (r).a5 (p).brk.length (r).c5, .slice (r).a6 (p).prv.length (r).c6, .bool (p).ess] 26)).next hb1)
  have KV := Lib.hid ((Blk.alloc (blk_new2 w (.cells #[.string (bs (p).name), .string (bs (p).ver), .slice (r).a1 (p).pre.length (r).c1, .slice (r).a2 (p).dep.length (r).c2, .slice (r).a3 (p).rcm.length (r).c3, .slice (r).a4 (p).con.length (r).c4, .slice (r).a5 (p).brk.length (r).c5, .slice (r).a6 (p).prv.length (r).c6, .bool (p).ess] 26) 9 #[.string (bs v)]) (.cells #[.string (bs (p).name), .string (bs (p).ver), .slice (r).a1 (p).pre.length (r).c1, .slice (r).a2 (p).dep.length (r).c2, .slice (r).a3 (p).rcm.length (r).c3, .slice (r).a4 (p).con.length (r).c4, .slice (r).a5 (p).brk.length (r).c5, .slice (r).a6 (p).prv.length (r).c6, .bool (p).ess] 26)).next hb1)
  clear hb1 K3
  obtain ⟨c0, c1, c2, c3, c4, c5, c6, c7, c8⟩ := blk9 KP.out
  go_wp2_with fail
  refine (rmay_any p r _ (HP.out.kept (Kept.of_below HB.out))).mono ?_
  rintro e w2 ⟨rfl, hb2⟩
  rw [HM.out]
  have HB := Lib.hid (below_next HB.out hb2)
  have KP := Lib.hid (KP.out.next hb2)
  have KV := Lib.hid (KV.out.next hb2)
  clear hb2 c0 c1 c2 c3 c4 c5 c6 c7 c8
  have d0 := KV.out.cell 0
  go_wp2_with fail
  refine (rIs_any v _).mono ?_
  rintro e w3 ⟨rfl, hb3⟩
  rw [HV.out]
  have HB := Lib.hid (below_next HB.out hb3)
  have KP := Lib.hid (KP.out.next hb3)
  have KV := Lib.hid (KV.out.next hb3)
  clear hb3 d0
  obtain ⟨c0, c1, c2, c3, c4, c5, c6, c7, c8⟩ := blk9 KP.out
  have cf := fun j => KP.out.frozen j
  have hsz := KP.out.lt
  have KP := Lib.hid (show Blk (w3.setCell ⟨w.heap.size, 7, none⟩ (.slice none 0 0)) w.heap.size 26 #[.string (bs p.name), .string (bs p.ver), .slice r.a1 p.pre.length r.c1, .slice r.a2 p.dep.length r.c2, .slice r.a3 p.rcm.length r.c3, .slice r.a4 p.con.length r.c4, .slice r.a5 p.brk.length r.c5, .slice none 0 0, .bool p.ess] from KP.out.set_ 7 (.slice none 0 0))
  have KV := Lib.hid (KV.out.far (p := ⟨w.heap.size, 7, none⟩) (by show w.heap.size + 1 ≠ w.heap.size; omega) (.slice none 0 0))
  have HB := Lib.hid (HB.out.setCell (p := ⟨w.heap.size, 7, none⟩) (Nat.le_refl _) (.slice none 0 0))
  go_wp2_with fail
  refine (sat_any (noP p) (nR r) ⟨p.name, 0, []⟩ _ (noP_rp (HP.out.kept (Kept.of_below HB.out))) ⟨hn, by unfold short; simp⟩).mono ?_
  rintro e w4 ⟨rfl, hb4⟩
  rw [H0.out]
  have KP := Lib.hid (KP.out.next hb4)
  have KV := Lib.hid (KV.out.next hb4)
  have HB := Lib.hid (below_next HB.out hb4)
  clear hb4 c0 c1 c2 c3 c4 c5 c6 c7 c8 cf hsz
  go_wp2_with (first | (go_at_call_of 15 (Value.int .i64 1); refine (splc_any p r v 1 _ _ _ _ KP.out KV.out (HP.out.kept (Kept.of_below HB.out)) hs (H1).out).mono ?_; rintro e w1 ⟨rfl, hb⟩; have KP := Lib.hid (KP.out.next hb); have KV := Lib.hid (KV.out.next hb); have HB := Lib.hid (below_next HB.out hb); clear hb) | (go_at_call_of 15 (Value.int .i64 2); refine (splc_any p r v 2 _ _ _ _ KP.out KV.out (HP.out.kept (Kept.of_below HB.out)) hs (H2).out).mono ?_; rintro e w1 ⟨rfl, hb⟩; have KP := Lib.hid (KP.out.next hb); have KV := Lib.hid (KV.out.next hb); have HB := Lib.hid (below_next HB.out hb); clear hb) | (go_at_call_of 15 (Value.int .i64 3); refine (splc_any p r v 3 _ _ _ _ KP.out KV.out (HP.out.kept (Kept.of_below HB.out)) hs (H3).out).mono ?_; rintro e w1 ⟨rfl, hb⟩; have KP := Lib.hid (KP.out.next hb); have KV := Lib.hid (KV.out.next hb); have HB := Lib.hid (below_next HB.out hb); clear hb) | (go_at_call_of 15 (Value.int .i64 4); refine (splc_any p r v 4 _ _ _ _ KP.out KV.out (HP.out.kept (Kept.of_below HB.out)) hs (H4).out).mono ?_; rintro e w1 ⟨rfl, hb⟩; have KP := Lib.hid (KP.out.next hb); have KV := Lib.hid (KV.out.next hb); have HB := Lib.hid (below_next HB.out hb); clear hb) | (go_at_call_of 15 (Value.int .i64 5); refine (splc_any p r v 5 _ _ _ _ KP.out KV.out (HP.out.kept (Kept.of_below HB.out)) hs (H5).out).mono ?_; rintro e w1 ⟨rfl, hb⟩; have KP := Lib.hid (KP.out.next hb); have KV := Lib.hid (KV.out.next hb); have HB := Lib.hid (below_next HB.out hb); clear hb) | (go_at_call 14; refine (awake10_any _).mono ?_; rintro e w1 ⟨rfl, hb⟩; have HB := Lib.hid (below_next HB.out hb)))
  go_ret
  exact ⟨rfl, HB.out⟩
set_option maxRecDepth 100000 in
set_option maxHeartbeats 1000000 in
theorem split_gt (p : Pkg) (r : Raw) (v : List UInt8) (w : World) (hp : RP w r p) (hs : short v) (hL : lightM 40 60 30 30 [p] = true) (hm : mayE p = 0) (hv : isV v = true)
    (h0 : satS (noP p) ⟨p.name, 0, []⟩ = true) (h1 : satS (noP p) ⟨p.name, 1, v⟩ = false) (h2 : satS (noP p) ⟨p.name, 2, v⟩ = false) (h3 : satS (noP p) ⟨p.name, 3, v⟩ = false) (h4 : satS (noP p) ⟨p.name, 4, v⟩ = true) (h5 : satS (noP p) ⟨p.name, 5, v⟩ = true) :
    Calls Tryz.prog 3 #[(.agg #[.string (bs (p).name), .string (bs (p).ver), .slice (r).a1 (p).pre.length (r).c1, .slice (r).a2 (p).dep.length (r).c2, .slice (r).a3 (p).rcm.length (r).c3, .slice (r).a4 (p).con.length (r).c4, .slice (r).a5 (p).brk.length (r).c5, .slice (r).a6 (p).prv.length (r).c6, .bool (p).ess]), .string (bs v)] w fun e w' => e = .returned (.bool true) ∧ Below w.heap.size w w' := by
  have hmf : ∀ (fn : Fn) (first cap : Array Value) (w : World), (Instr.makeFunc fn first cap).run Tryz.prog w = .ok (.func fn first cap) w := fun _ _ _ _ => rfl
  have hn := hp.1
  have HP := Lib.hid hp
  have HL := Lib.hid hL
  have HM := Lib.hid hm
  have HV := Lib.hid hv
  have H0 := Lib.hid h0
  have H1 := Lib.hid h1
  have H2 := Lib.hid h2
  have H3 := Lib.hid h3
  have H4 := Lib.hid h4
  have H5 := Lib.hid h5
  clear hp hL hm hv h0 h1 h2 h3 h4 h5
  go_enter Tryz.func3, Tryz.ntmps3
  go_wp2_with fail
  have K3 := ((Kept.alloc w (.cells #[.string (bs (p).name), .string (bs (p).ver), .slice (r).a1 (p).pre.length (r).c1, .slice (r).a2 (p).dep.length (r).c2, .slice (r).a3 (p).rcm.length (r).c3, .slice (r).a4 (p).con.length (r).c4, .slice (r).a5 (p).brk.length (r).c5, .slice (r).a6 (p).prv.length (r).c6, .bool (p).ess] 26)).trans (Kept.alloc _ (.cells #[.string (bs v)] 9))).trans (Kept.alloc _ (.cells #[.string (bs (p).name), .string (bs (p).ver), .slice (r).a1 (p).pre.length (r).c1, .slice (r).a2 (p).dep.length (r).c2, .slice (r).a3 (p).rcm.length (r).c3, .slice (r).a4 (p).con.length (r).c4, .slice (r).a5 (p).brk.length (r).c5, .slice (r).a6 (p).prv.length (r).c6, .bool (p).ess] 26))
  refine (light10_any _ 1 [p] _ (one_pkgs (blk_new3 _ _ _ _ _) (HP.out.kept K3))).mono ?_
  rintro e w1 ⟨rfl, hb1⟩
  rw [HL.out]
  have HB := Lib.hid (below_next (below_alloc (below_alloc (below_alloc (Below.refl w.heap.size w) (.cells #[.string (bs (p).name), .string (bs (p).ver), .slice (r).a1 (p).pre.length (r).c1, .slice (r).a2 (p).dep.length (r).c2, .slice (r).a3 (p).rcm.length (r).c3, .slice (r).a4 (p).con.length (r).c4, .slice (r).a5 (p).brk.length (r).c5, .slice (r).a6 (p).prv.length (r).c6, .bool (p).ess] 26)) (.cells #[.string (bs v)] 9)) (.cells #[.string (bs (p).name), .string (bs (p).ver), .slice (r).a1 (p).pre.length (r).c1, .slice (r).a2 (p).dep.length (r).c2, .slice (r).a3 (p).rcm.length (r).c3, .slice (r).a4 (p).con.length (r).c4, .slice (r).a5 (p).brk.length (r).c5, .slice (r).a6 (p).prv.length (r).c6, .bool (p).ess] 26)) hb1)
  have KP := Lib.hid ((Blk.alloc (Blk.alloc (blk_new1 w 26 #[.string (bs (p).name), .string (bs (p).ver), .slice (r).a1 (p).pre.length (r).c1, .slice (r).a2 (p).dep.length (r).c2, .slice (r).a3 (p).rcm.length (r).c3, .slice (r).a4 (p).con.length (r).c4, .slice (r).a5 (p).brk.length (r).c5, .slice (r).a6 (p).prv.length (r).c6, .bool (p).ess]) (.cells #[.string (bs v)] 9)) (.cells #[.string (bs (p).name), .string (bs (p).ver), .slice (r).a1 (p).pre.length (r).c1, .slice (r).a2 (p).dep.length (r).c2, .slice (r).a3 (p).rcm.length (r).c3, .slice (r).a4 (p).con.length (r).c4, .slice (r).a5 (p).brk.length (r).c5, .slice (r).a6 (p).prv.length (r).c6, .bool (p).ess] 26)).next hb1)
  have KV := Lib.hid ((Blk.alloc (blk_new2 w (.cells #[.string (bs (p).name), .string (bs (p).ver), .slice (r).a1 (p).pre.length (r).c1, .slice (r).a2 (p).dep.length (r).c2, .slice (r).a3 (p).rcm.length (r).c3, .slice (r).a4 (p).con.length (r).c4, .slice (r).a5 (p).brk.length (r).c5, .slice (r).a6 (p).prv.length (r).c6, .bool (p).ess] 26) 9 #[.string (bs v)]) (.cells #[.string (bs (p).name), .string (bs (p).ver), .slice (r).a1 (p).pre.length (r).c1, .slice (r).a2 (p).dep.length (r).c2, .slice (r).a3 (p).rcm.length (r).c3, .slice (r).a4 (p).con.length (r).c4, .slice (r).a5 (p).brk.length (r).c5, .slice (r).a6 (p).prv.length (r).c6, .bool (p).ess] 26)).next hb1)
  clear hb1 K3
  obtain ⟨c0, c1, c2, c3, c4, c5, c6, c7, c8⟩ := blk9 KP.out
  go_wp2_with fail
  refine (rmay_any p r _ (HP.out.kept (Kept.of_below HB.out))).mono ?_
  rintro e w2 ⟨rfl, hb2⟩
  rw [HM.out]
  have HB := Lib.hid (below_next HB.out hb2)
  have KP := Lib.hid (KP.out.next hb2)
  have KV := Lib.hid (KV.out.next hb2)
  clear hb2 c0 c1 c2 c3 c4 c5 c6 c7 c8
  have d0 := KV.out.cell 0
  go_wp2_with fail
  refine (rIs_any v _).mono ?_
  rintro e w3 ⟨rfl, hb3⟩
  rw [HV.out]
  have HB := Lib.hid (below_next HB.out hb3)
  have KP := Lib.hid (KP.out.next hb3)
  have KV := Lib.hid (KV.out.next hb3)
  clear hb3 d0
  obtain ⟨c0, c1, c2, c3, c4, c5, c6, c7, c8⟩ := blk9 KP.out
  have cf := fun j => KP.out.frozen j
  have hsz := KP.out.lt
  have KP := Lib.hid (show Blk (w3.setCell ⟨w.heap.size, 7, none⟩ (.slice none 0 0)) w.heap.size 26 #[.string (bs p.name), .string (bs p.ver), .slice r.a1 p.pre.length r.c1, .slice r.a2 p.dep.length r.c2, .slice r.a3 p.rcm.length r.c3, .slice r.a4 p.con.length r.c4, .slice r.a5 p.brk.length r.c5, .slice none 0 0, .bool p.ess] from KP.out.set_ 7 (.slice none 0 0))
  have KV := Lib.hid (KV.out.far (p := ⟨w.heap.size, 7, none⟩) (by show w.heap.size + 1 ≠ w.heap.size; omega) (.slice none 0 0))
  have HB := Lib.hid (HB.out.setCell (p := ⟨w.heap.size, 7, none⟩) (Nat.le_refl _) (.slice none 0 0))
  go_wp2_with fail
  refine (sat_any (noP p) (nR r) ⟨p.name, 0, []⟩ _ (noP_rp (HP.out.kept (Kept.of_below HB.out))) ⟨hn, by unfold short; simp⟩).mono ?_
  rintro e w4 ⟨rfl, hb4⟩
  rw [H0.out]
  have KP := Lib.hid (KP.out.next hb4)
  have KV := Lib.hid (KV.out.next hb4)
  have HB := Lib.hid (below_next HB.out hb4)
  clear hb4 c0 c1 c2 c3 c4 c5 c6 c7 c8 cf hsz
  go_wp2_with (first | (go_at_call_of 15 (Value.int .i64 1); refine (splc_any p r v 1 _ _ _ _ KP.out KV.out (HP.out.kept (Kept.of_below HB.out)) hs (H1).out).mono ?_; rintro e w1 ⟨rfl, hb⟩; have KP := Lib.hid (KP.out.next hb); have KV := Lib.hid (KV.out.next hb); have HB := Lib.hid (below_next HB.out hb); clear hb) | (go_at_call_of 15 (Value.int .i64 2); refine (splc_any p r v 2 _ _ _ _ KP.out KV.out (HP.out.kept (Kept.of_below HB.out)) hs (H2).out).mono ?_; rintro e w1 ⟨rfl, hb⟩; have KP := Lib.hid (KP.out.next hb); have KV := Lib.hid (KV.out.next hb); have HB := Lib.hid (below_next HB.out hb); clear hb) | (go_at_call_of 15 (Value.int .i64 3); refine (splc_any p r v 3 _ _ _ _ KP.out KV.out (HP.out.kept (Kept.of_below HB.out)) hs (H3).out).mono ?_; rintro e w1 ⟨rfl, hb⟩; have KP := Lib.hid (KP.out.next hb); have KV := Lib.hid (KV.out.next hb); have HB := Lib.hid (below_next HB.out hb); clear hb) | (go_at_call_of 15 (Value.int .i64 4); refine (splc_any p r v 4 _ _ _ _ KP.out KV.out (HP.out.kept (Kept.of_below HB.out)) hs (H4).out).mono ?_; rintro e w1 ⟨rfl, hb⟩; have KP := Lib.hid (KP.out.next hb); have KV := Lib.hid (KV.out.next hb); have HB := Lib.hid (below_next HB.out hb); clear hb) | (go_at_call_of 15 (Value.int .i64 5); refine (splc_any p r v 5 _ _ _ _ KP.out KV.out (HP.out.kept (Kept.of_below HB.out)) hs (H5).out).mono ?_; rintro e w1 ⟨rfl, hb⟩; have KP := Lib.hid (KP.out.next hb); have KV := Lib.hid (KV.out.next hb); have HB := Lib.hid (below_next HB.out hb); clear hb) | (go_at_call 14; refine (awake10_any _).mono ?_; rintro e w1 ⟨rfl, hb⟩; have HB := Lib.hid (below_next HB.out hb)))
  go_ret
  exact ⟨rfl, HB.out⟩
set_option maxRecDepth 100000 in
set_option maxHeartbeats 400000 in
theorem law_indexSplits (r : Raw) (p : Pkg) (v : List UInt8) (w : World) (hp : RP w r p) (hs : short v) :
    Calls Tryz.prog 3 #[(.agg #[.string (bs (p).name), .string (bs (p).ver), .slice (r).a1 (p).pre.length (r).c1, .slice (r).a2 (p).dep.length (r).c2, .slice (r).a3 (p).rcm.length (r).c3, .slice (r).a4 (p).con.length (r).c4, .slice (r).a5 (p).brk.length (r).c5, .slice (r).a6 (p).prv.length (r).c6, .bool (p).ess]), .string (bs v)] w fun e w' => e = .returned (.bool true) ∧ Below w.heap.size w w' := by
  rcases hL : lightM 40 60 30 30 [p]
  · have HP := Lib.hid hp
    have HL := Lib.hid hL
    clear hp hL
    go_enter Tryz.func3, Tryz.ntmps3
    go_wp2_with fail
    have K3 := ((Kept.alloc w (.cells #[.string (bs (p).name), .string (bs (p).ver), .slice (r).a1 (p).pre.length (r).c1, .slice (r).a2 (p).dep.length (r).c2, .slice (r).a3 (p).rcm.length (r).c3, .slice (r).a4 (p).con.length (r).c4, .slice (r).a5 (p).brk.length (r).c5, .slice (r).a6 (p).prv.length (r).c6, .bool (p).ess] 26)).trans (Kept.alloc _ (.cells #[.string (bs v)] 9))).trans (Kept.alloc _ (.cells #[.string (bs (p).name), .string (bs (p).ver), .slice (r).a1 (p).pre.length (r).c1, .slice (r).a2 (p).dep.length (r).c2, .slice (r).a3 (p).rcm.length (r).c3, .slice (r).a4 (p).con.length (r).c4, .slice (r).a5 (p).brk.length (r).c5, .slice (r).a6 (p).prv.length (r).c6, .bool (p).ess] 26))
    refine (light10_any _ 1 [p] _ (one_pkgs (blk_new3 _ _ _ _ _) (HP.out.kept K3))).mono ?_
    rintro e w1 ⟨rfl, hb1⟩
    rw [HL.out]
    have HB := Lib.hid (below_next (below_alloc (below_alloc (below_alloc (Below.refl w.heap.size w) (.cells #[.string (bs (p).name), .string (bs (p).ver), .slice (r).a1 (p).pre.length (r).c1, .slice (r).a2 (p).dep.length (r).c2, .slice (r).a3 (p).rcm.length (r).c3, .slice (r).a4 (p).con.length (r).c4, .slice (r).a5 (p).brk.length (r).c5, .slice (r).a6 (p).prv.length (r).c6, .bool (p).ess] 26)) (.cells #[.string (bs v)] 9)) (.cells #[.string (bs (p).name), .string (bs (p).ver), .slice (r).a1 (p).pre.length (r).c1, .slice (r).a2 (p).dep.length (r).c2, .slice (r).a3 (p).rcm.length (r).c3, .slice (r).a4 (p).con.length (r).c4, .slice (r).a5 (p).brk.length (r).c5, .slice (r).a6 (p).prv.length (r).c6, .bool (p).ess] 26)) hb1)
    have KP := Lib.hid ((Blk.alloc (Blk.alloc (blk_new1 w 26 #[.string (bs (p).name), .string (bs (p).ver), .slice (r).a1 (p).pre.length (r).c1, .slice (r).a2 (p).dep.length (r).c2, .slice (r).a3 (p).rcm.length (r).c3, .slice (r).a4 (p).con.length (r).c4, .slice (r).a5 (p).brk.length (r).c5, .slice (r).a6 (p).prv.length (r).c6, .bool (p).ess]) (.cells #[.string (bs v)] 9)) (.cells #[.string (bs (p).name), .string (bs (p).ver), .slice (r).a1 (p).pre.length (r).c1, .slice (r).a2 (p).dep.length (r).c2, .slice (r).a3 (p).rcm.length (r).c3, .slice (r).a4 (p).con.length (r).c4, .slice (r).a5 (p).brk.length (r).c5, .slice (r).a6 (p).prv.length (r).c6, .bool (p).ess] 26)).next hb1)
    have KV := Lib.hid ((Blk.alloc (blk_new2 w (.cells #[.string (bs (p).name), .string (bs (p).ver), .slice (r).a1 (p).pre.length (r).c1, .slice (r).a2 (p).dep.length (r).c2, .slice (r).a3 (p).rcm.length (r).c3, .slice (r).a4 (p).con.length (r).c4, .slice (r).a5 (p).brk.length (r).c5, .slice (r).a6 (p).prv.length (r).c6, .bool (p).ess] 26) 9 #[.string (bs v)]) (.cells #[.string (bs (p).name), .string (bs (p).ver), .slice (r).a1 (p).pre.length (r).c1, .slice (r).a2 (p).dep.length (r).c2, .slice (r).a3 (p).rcm.length (r).c3, .slice (r).a4 (p).con.length (r).c4, .slice (r).a5 (p).brk.length (r).c5, .slice (r).a6 (p).prv.length (r).c6, .bool (p).ess] 26)).next hb1)
    clear hb1 K3
    go_wp2_with fail
    refine (awake10_any _).mono ?_
    rintro e w9 ⟨rfl, hb9⟩
    go_wp2
    go_ret
    exact ⟨rfl, below_next HB.out hb9⟩
  · by_cases hm : mayE p = 0
    · rcases hv : isV v
      · have HM := Lib.hid hm
        have HV := Lib.hid hv
        clear hm hv
        have HP := Lib.hid hp
        have HL := Lib.hid hL
        clear hp hL
        go_enter Tryz.func3, Tryz.ntmps3
        go_wp2_with fail
        have K3 := ((Kept.alloc w (.cells #[.string (bs (p).name), .string (bs (p).ver), .slice (r).a1 (p).pre.length (r).c1, .slice (r).a2 (p).dep.length (r).c2, .slice (r).a3 (p).rcm.length (r).c3, .slice (r).a4 (p).con.length (r).c4, .slice (r).a5 (p).brk.length (r).c5, .slice (r).a6 (p).prv.length (r).c6, .bool (p).ess] 26)).trans (Kept.alloc _ (.cells #[.string (bs v)] 9))).trans (Kept.alloc _ (.cells #[.string (bs (p).name), .string (bs (p).ver), .slice (r).a1 (p).pre.length (r).c1, .slice (r).a2 (p).dep.length (r).c2, .slice (r).a3 (p).rcm.length (r).c3, .slice (r).a4 (p).con.length (r).c4, .slice (r).a5 (p).brk.length (r).c5, .slice (r).a6 (p).prv.length (r).c6, .bool (p).ess] 26))
        refine (light10_any _ 1 [p] _ (one_pkgs (blk_new3 _ _ _ _ _) (HP.out.kept K3))).mono ?_
        rintro e w1 ⟨rfl, hb1⟩
        rw [HL.out]
        have HB := Lib.hid (below_next (below_alloc (below_alloc (below_alloc (Below.refl w.heap.size w) (.cells #[.string (bs (p).name), .string (bs (p).ver), .slice (r).a1 (p).pre.length (r).c1, .slice (r).a2 (p).dep.length (r).c2, .slice (r).a3 (p).rcm.length (r).c3, .slice (r).a4 (p).con.length (r).c4, .slice (r).a5 (p).brk.length (r).c5, .slice (r).a6 (p).prv.length (r).c6, .bool (p).ess] 26)) (.cells #[.string (bs v)] 9)) (.cells #[.string (bs (p).name), .string (bs (p).ver), .slice (r).a1 (p).pre.length (r).c1, .slice (r).a2 (p).dep.length (r).c2, .slice (r).a3 (p).rcm.length (r).c3, .slice (r).a4 (p).con.length (r).c4, .slice (r).a5 (p).brk.length (r).c5, .slice (r).a6 (p).prv.length (r).c6, .bool (p).ess] 26)) hb1)
        have KP := Lib.hid ((Blk.alloc (Blk.alloc (blk_new1 w 26 #[.string (bs (p).name), .string (bs (p).ver), .slice (r).a1 (p).pre.length (r).c1, .slice (r).a2 (p).dep.length (r).c2, .slice (r).a3 (p).rcm.length (r).c3, .slice (r).a4 (p).con.length (r).c4, .slice (r).a5 (p).brk.length (r).c5, .slice (r).a6 (p).prv.length (r).c6, .bool (p).ess]) (.cells #[.string (bs v)] 9)) (.cells #[.string (bs (p).name), .string (bs (p).ver), .slice (r).a1 (p).pre.length (r).c1, .slice (r).a2 (p).dep.length (r).c2, .slice (r).a3 (p).rcm.length (r).c3, .slice (r).a4 (p).con.length (r).c4, .slice (r).a5 (p).brk.length (r).c5, .slice (r).a6 (p).prv.length (r).c6, .bool (p).ess] 26)).next hb1)
        have KV := Lib.hid ((Blk.alloc (blk_new2 w (.cells #[.string (bs (p).name), .string (bs (p).ver), .slice (r).a1 (p).pre.length (r).c1, .slice (r).a2 (p).dep.length (r).c2, .slice (r).a3 (p).rcm.length (r).c3, .slice (r).a4 (p).con.length (r).c4, .slice (r).a5 (p).brk.length (r).c5, .slice (r).a6 (p).prv.length (r).c6, .bool (p).ess] 26) 9 #[.string (bs v)]) (.cells #[.string (bs (p).name), .string (bs (p).ver), .slice (r).a1 (p).pre.length (r).c1, .slice (r).a2 (p).dep.length (r).c2, .slice (r).a3 (p).rcm.length (r).c3, .slice (r).a4 (p).con.length (r).c4, .slice (r).a5 (p).brk.length (r).c5, .slice (r).a6 (p).prv.length (r).c6, .bool (p).ess] 26)).next hb1)
        clear hb1 K3
        obtain ⟨c0, c1, c2, c3, c4, c5, c6, c7, c8⟩ := blk9 KP.out
        go_wp2_with fail
        refine (rmay_any p r _ (HP.out.kept (Kept.of_below HB.out))).mono ?_
        rintro e w2 ⟨rfl, hb2⟩
        rw [HM.out]
        have HB := Lib.hid (below_next HB.out hb2)
        have KP := Lib.hid (KP.out.next hb2)
        have KV := Lib.hid (KV.out.next hb2)
        clear hb2 c0 c1 c2 c3 c4 c5 c6 c7 c8
        have d0 := KV.out.cell 0
        go_wp2_with fail
        refine (rIs_any v _).mono ?_
        rintro e w3 ⟨rfl, hb3⟩
        rw [HV.out]
        have HB := Lib.hid (below_next HB.out hb3)
        have KP := Lib.hid (KP.out.next hb3)
        have KV := Lib.hid (KV.out.next hb3)
        clear hb3 d0
        go_wp2_with fail
        refine (awake10_any _).mono ?_
        rintro e w9 ⟨rfl, hb9⟩
        go_wp2
        go_ret
        exact ⟨rfl, below_next HB.out hb9⟩
      · have hpv := (may_nv hm).2
        have hc := cmp_both hpv hv
        have e0 := sat_noP0 hm
        have es := fun rel (h1 : 1 ≤ rel) (h5 : rel ≤ 5) => sat_noP (rel := rel) hm hv h1 h5
        have s1 := es 1 (by omega) (by omega)
        have s2 := es 2 (by omega) (by omega)
        have s3 := es 3 (by omega) (by omega)
        have s4 := es 4 (by omega) (by omega)
        have s5 := es 5 (by omega) (by omega)
        rcases Int.lt_trichotomy (cmpV p.ver v).1 0 with hx | hx | hx
        · exact split_lt p r v w hp hs hL hm hv e0 (by rw [s1]; simp [holdsS, hc]; omega) (by rw [s2]; simp [holdsS, hc]; omega) (by rw [s3]; simp [holdsS, hc]; omega) (by rw [s4]; simp [holdsS, hc]; omega) (by rw [s5]; simp [holdsS, hc]; omega)
        · exact split_eq p r v w hp hs hL hm hv e0 (by rw [s1]; simp [holdsS, hc]; omega) (by rw [s2]; simp [holdsS, hc]; omega) (by rw [s3]; simp [holdsS, hc]; omega) (by rw [s4]; simp [holdsS, hc]; omega) (by rw [s5]; simp [holdsS, hc]; omega)
        · exact split_gt p r v w hp hs hL hm hv e0 (by rw [s1]; simp [holdsS, hc]; omega) (by rw [s2]; simp [holdsS, hc]; omega) (by rw [s3]; simp [holdsS, hc]; omega) (by rw [s4]; simp [holdsS, hc]; omega) (by rw [s5]; simp [holdsS, hc]; omega)
    · generalize hE : mayE p = E at hm
      have HM := Lib.hid hE
      have hEb : (E != 0) = true := by rw [bne_iff_ne]; exact hm
      clear hE hm
      have HP := Lib.hid hp
      have HL := Lib.hid hL
      clear hp hL
      go_enter Tryz.func3, Tryz.ntmps3
      go_wp2_with fail
      have K3 := ((Kept.alloc w (.cells #[.string (bs (p).name), .string (bs (p).ver), .slice (r).a1 (p).pre.length (r).c1, .slice (r).a2 (p).dep.length (r).c2, .slice (r).a3 (p).rcm.length (r).c3, .slice (r).a4 (p).con.length (r).c4, .slice (r).a5 (p).brk.length (r).c5, .slice (r).a6 (p).prv.length (r).c6, .bool (p).ess] 26)).trans (Kept.alloc _ (.cells #[.string (bs v)] 9))).trans (Kept.alloc _ (.cells #[.string (bs (p).name), .string (bs (p).ver), .slice (r).a1 (p).pre.length (r).c1, .slice (r).a2 (p).dep.length (r).c2, .slice (r).a3 (p).rcm.length (r).c3, .slice (r).a4 (p).con.length (r).c4, .slice (r).a5 (p).brk.length (r).c5, .slice (r).a6 (p).prv.length (r).c6, .bool (p).ess] 26))
      refine (light10_any _ 1 [p] _ (one_pkgs (blk_new3 _ _ _ _ _) (HP.out.kept K3))).mono ?_
      rintro e w1 ⟨rfl, hb1⟩
      rw [HL.out]
      have HB := Lib.hid (below_next (below_alloc (below_alloc (below_alloc (Below.refl w.heap.size w) (.cells #[.string (bs (p).name), .string (bs (p).ver), .slice (r).a1 (p).pre.length (r).c1, .slice (r).a2 (p).dep.length (r).c2, .slice (r).a3 (p).rcm.length (r).c3, .slice (r).a4 (p).con.length (r).c4, .slice (r).a5 (p).brk.length (r).c5, .slice (r).a6 (p).prv.length (r).c6, .bool (p).ess] 26)) (.cells #[.string (bs v)] 9)) (.cells #[.string (bs (p).name), .string (bs (p).ver), .slice (r).a1 (p).pre.length (r).c1, .slice (r).a2 (p).dep.length (r).c2, .slice (r).a3 (p).rcm.length (r).c3, .slice (r).a4 (p).con.length (r).c4, .slice (r).a5 (p).brk.length (r).c5, .slice (r).a6 (p).prv.length (r).c6, .bool (p).ess] 26)) hb1)
      have KP := Lib.hid ((Blk.alloc (Blk.alloc (blk_new1 w 26 #[.string (bs (p).name), .string (bs (p).ver), .slice (r).a1 (p).pre.length (r).c1, .slice (r).a2 (p).dep.length (r).c2, .slice (r).a3 (p).rcm.length (r).c3, .slice (r).a4 (p).con.length (r).c4, .slice (r).a5 (p).brk.length (r).c5, .slice (r).a6 (p).prv.length (r).c6, .bool (p).ess]) (.cells #[.string (bs v)] 9)) (.cells #[.string (bs (p).name), .string (bs (p).ver), .slice (r).a1 (p).pre.length (r).c1, .slice (r).a2 (p).dep.length (r).c2, .slice (r).a3 (p).rcm.length (r).c3, .slice (r).a4 (p).con.length (r).c4, .slice (r).a5 (p).brk.length (r).c5, .slice (r).a6 (p).prv.length (r).c6, .bool (p).ess] 26)).next hb1)
      have KV := Lib.hid ((Blk.alloc (blk_new2 w (.cells #[.string (bs (p).name), .string (bs (p).ver), .slice (r).a1 (p).pre.length (r).c1, .slice (r).a2 (p).dep.length (r).c2, .slice (r).a3 (p).rcm.length (r).c3, .slice (r).a4 (p).con.length (r).c4, .slice (r).a5 (p).brk.length (r).c5, .slice (r).a6 (p).prv.length (r).c6, .bool (p).ess] 26) 9 #[.string (bs v)]) (.cells #[.string (bs (p).name), .string (bs (p).ver), .slice (r).a1 (p).pre.length (r).c1, .slice (r).a2 (p).dep.length (r).c2, .slice (r).a3 (p).rcm.length (r).c3, .slice (r).a4 (p).con.length (r).c4, .slice (r).a5 (p).brk.length (r).c5, .slice (r).a6 (p).prv.length (r).c6, .bool (p).ess] 26)).next hb1)
      clear hb1 K3
      obtain ⟨c0, c1, c2, c3, c4, c5, c6, c7, c8⟩ := blk9 KP.out
      go_wp2_with fail
      refine (rmay_any p r _ (HP.out.kept (Kept.of_below HB.out))).mono ?_
      rintro e w2 ⟨rfl, hb2⟩
      rw [HM.out]
      have HB := Lib.hid (below_next HB.out hb2)
      have KP := Lib.hid (KP.out.next hb2)
      have KV := Lib.hid (KV.out.next hb2)
      clear hb2 c0 c1 c2 c3 c4 c5 c6 c7 c8
      go_wp2_with fail
      refine (awake10_any _).mono ?_
      rintro e w9 ⟨rfl, hb9⟩
      go_wp2
      go_ret
      exact ⟨rfl, below_next HB.out hb9⟩
end Go.Proofs.YtflmocamfedbdaaGreatDoor
