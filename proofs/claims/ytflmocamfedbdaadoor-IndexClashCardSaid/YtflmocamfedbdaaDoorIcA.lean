/- The law IndexClash. -/
import Derived.Test.YtflmocamfedbdaaDoorAwA
import Derived.Test.YtflmocamfedbdaaDoorLg
import Derived.Test.YtflmocamfedbdaaDoorHeA
import Derived.Test.YtflmocamfedbdaaDoorInP
import Derived.Test.YtflmocamfedbdaaDoorMk
namespace Go.Proofs.YtflmocamfedbdaaDoor
set_option linter.unusedSimpArgs false
set_option linter.unusedVariables false
open Go.RowKit
attribute [local go_sem ↓] Go.wp_at_zero Go.wp_at_succ
attribute [local irreducible] wpQuiet
theorem two_pkgs {W : World} {g : Nat} {p q : Pkg} {r s : Raw} (hB : Blk W g 26 #[.string (bs (p).name), .string (bs (p).ver), .slice (r).a1 (p).pre.length (r).c1, .slice (r).a2 (p).dep.length (r).c2, .slice (r).a3 (p).rcm.length (r).c3, .slice (r).a4 (p).con.length (r).c4, .slice (r).a5 (p).brk.length (r).c5, .slice (r).a6 (p).prv.length (r).c6, .bool (p).ess, .string (bs (q).name), .string (bs (q).ver), .slice (s).a1 (q).pre.length (s).c1, .slice (s).a2 (q).dep.length (s).c2, .slice (s).a3 (q).rcm.length (s).c3, .slice (s).a4 (q).con.length (s).c4, .slice (s).a5 (q).brk.length (s).c5, .slice (s).a6 (q).prv.length (s).c6, .bool (q).ess]) (hp : RP W r p) (hq : RP W s q) : Pkgs W (some ⟨g, 0, none⟩) 2 [p, q] :=
  slcB [encK r p, encK s q] hB rfl rfl (fun i cs x e1 e2 => by
    rcases i with _ | _ | i
    · simp at e1 e2
      subst e1 e2
      exact ⟨⟨r, rfl, hp⟩, rfl⟩
    · simp at e1 e2
      subst e1 e2
      exact ⟨⟨s, rfl, hq⟩, rfl⟩
    · simp at e1) rfl (by show 2 * 184 ≤ _; decide) (by show 2 ≤ _; decide) (by decide)
theorem cells18 {W w' : World} {g : Nat} {p q : Pkg} {r s : Raw} (h1 : Blk W g 26 #[.string (bs (p).name), .string (bs (p).ver), .slice (r).a1 (p).pre.length (r).c1, .slice (r).a2 (p).dep.length (r).c2, .slice (r).a3 (p).rcm.length (r).c3, .slice (r).a4 (p).con.length (r).c4, .slice (r).a5 (p).brk.length (r).c5, .slice (r).a6 (p).prv.length (r).c6, .bool (p).ess]) (h2 : Blk W (g + 1) 26 #[.string (bs (q).name), .string (bs (q).ver), .slice (s).a1 (q).pre.length (s).c1, .slice (s).a2 (q).dep.length (s).c2, .slice (s).a3 (q).rcm.length (s).c3, .slice (s).a4 (q).con.length (s).c4, .slice (s).a5 (q).brk.length (s).c5, .slice (s).a6 (q).prv.length (s).c6, .bool (q).ess]) (hb : Below W.heap.size W w') :
    w'.cell? ⟨g, 0, none⟩ = some (.string (bs p.name)) ∧ w'.cell? ⟨g, 1, none⟩ = some (.string (bs p.ver)) ∧ w'.cell? ⟨g, 2, none⟩ = some (.slice r.a1 p.pre.length r.c1) ∧ w'.cell? ⟨g, 3, none⟩ = some (.slice r.a2 p.dep.length r.c2) ∧ w'.cell? ⟨g, 4, none⟩ = some (.slice r.a3 p.rcm.length r.c3) ∧ w'.cell? ⟨g, 5, none⟩ = some (.slice r.a4 p.con.length r.c4) ∧ w'.cell? ⟨g, 6, none⟩ = some (.slice r.a5 p.brk.length r.c5) ∧ w'.cell? ⟨g, 7, none⟩ = some (.slice r.a6 p.prv.length r.c6) ∧ w'.cell? ⟨g, 8, none⟩ = some (.bool p.ess) ∧ w'.cell? ⟨g + 1, 0, none⟩ = some (.string (bs q.name)) ∧ w'.cell? ⟨g + 1, 1, none⟩ = some (.string (bs q.ver)) ∧ w'.cell? ⟨g + 1, 2, none⟩ = some (.slice s.a1 q.pre.length s.c1) ∧ w'.cell? ⟨g + 1, 3, none⟩ = some (.slice s.a2 q.dep.length s.c2) ∧ w'.cell? ⟨g + 1, 4, none⟩ = some (.slice s.a3 q.rcm.length s.c3) ∧ w'.cell? ⟨g + 1, 5, none⟩ = some (.slice s.a4 q.con.length s.c4) ∧ w'.cell? ⟨g + 1, 6, none⟩ = some (.slice s.a5 q.brk.length s.c5) ∧ w'.cell? ⟨g + 1, 7, none⟩ = some (.slice s.a6 q.prv.length s.c6) ∧ w'.cell? ⟨g + 1, 8, none⟩ = some (.bool q.ess) ∧ Hid (Below W.heap.size W w') := by
  obtain ⟨x0, x1, x2, x3, x4, x5, x6, x7, x8⟩ := blk9 (h1.next hb)
  obtain ⟨y0, y1, y2, y3, y4, y5, y6, y7, y8⟩ := blk9 (h2.next hb)
  exact ⟨x0, x1, x2, x3, x4, x5, x6, x7, x8, y0, y1, y2, y3, y4, y5, y6, y7, y8, hb⟩
set_option maxRecDepth 100000 in
set_option maxHeartbeats 1000000 in
theorem clash_no (p q : Pkg) (r s : Raw) (w : World) (hp : RP w r p) (hq : RP w s q) (hL : lightM 40 60 30 30 [p, q] = false) :
    Calls Tryd.prog 3 #[(.agg #[.string (bs (p).name), .string (bs (p).ver), .slice (r).a1 (p).pre.length (r).c1, .slice (r).a2 (p).dep.length (r).c2, .slice (r).a3 (p).rcm.length (r).c3, .slice (r).a4 (p).con.length (r).c4, .slice (r).a5 (p).brk.length (r).c5, .slice (r).a6 (p).prv.length (r).c6, .bool (p).ess]), (.agg #[.string (bs (q).name), .string (bs (q).ver), .slice (s).a1 (q).pre.length (s).c1, .slice (s).a2 (q).dep.length (s).c2, .slice (s).a3 (q).rcm.length (s).c3, .slice (s).a4 (q).con.length (s).c4, .slice (s).a5 (q).brk.length (s).c5, .slice (s).a6 (q).prv.length (s).c6, .bool (q).ess])] w fun e w' => e = .returned (.bool true) ∧ Below w.heap.size w w' := by
  have HP := Lib.hid hp
  have HQ := Lib.hid hq
  have HL := Lib.hid hL
  clear hp hq hL
  go_enter Tryd.func3, Tryd.ntmps3
  go_wp2_with fail
  have K3 := (Kept.alloc w (.cells #[.string (bs (p).name), .string (bs (p).ver), .slice (r).a1 (p).pre.length (r).c1, .slice (r).a2 (p).dep.length (r).c2, .slice (r).a3 (p).rcm.length (r).c3, .slice (r).a4 (p).con.length (r).c4, .slice (r).a5 (p).brk.length (r).c5, .slice (r).a6 (p).prv.length (r).c6, .bool (p).ess] 26)).trans ((Kept.alloc _ (.cells #[.string (bs (q).name), .string (bs (q).ver), .slice (s).a1 (q).pre.length (s).c1, .slice (s).a2 (q).dep.length (s).c2, .slice (s).a3 (q).rcm.length (s).c3, .slice (s).a4 (q).con.length (s).c4, .slice (s).a5 (q).brk.length (s).c5, .slice (s).a6 (q).prv.length (s).c6, .bool (q).ess] 26)).trans (Kept.alloc _ (.cells #[.string (bs (p).name), .string (bs (p).ver), .slice (r).a1 (p).pre.length (r).c1, .slice (r).a2 (p).dep.length (r).c2, .slice (r).a3 (p).rcm.length (r).c3, .slice (r).a4 (p).con.length (r).c4, .slice (r).a5 (p).brk.length (r).c5, .slice (r).a6 (p).prv.length (r).c6, .bool (p).ess, .string (bs (q).name), .string (bs (q).ver), .slice (s).a1 (q).pre.length (s).c1, .slice (s).a2 (q).dep.length (s).c2, .slice (s).a3 (q).rcm.length (s).c3, .slice (s).a4 (q).con.length (s).c4, .slice (s).a5 (q).brk.length (s).c5, .slice (s).a6 (q).prv.length (s).c6, .bool (q).ess] 26)))
  refine (light10_any _ 2 [p, q] _ (two_pkgs (blk_new3 _ _ _ _ _) (HP.out.kept K3) (HQ.out.kept K3))).mono ?_
  rintro e w1 ⟨rfl, hb1⟩
  rw [HL.out]
  have HB := Lib.hid (below_next (below_alloc (below_alloc (below_alloc (Below.refl w.heap.size w) (.cells #[.string (bs (p).name), .string (bs (p).ver), .slice (r).a1 (p).pre.length (r).c1, .slice (r).a2 (p).dep.length (r).c2, .slice (r).a3 (p).rcm.length (r).c3, .slice (r).a4 (p).con.length (r).c4, .slice (r).a5 (p).brk.length (r).c5, .slice (r).a6 (p).prv.length (r).c6, .bool (p).ess] 26)) (.cells #[.string (bs (q).name), .string (bs (q).ver), .slice (s).a1 (q).pre.length (s).c1, .slice (s).a2 (q).dep.length (s).c2, .slice (s).a3 (q).rcm.length (s).c3, .slice (s).a4 (q).con.length (s).c4, .slice (s).a5 (q).brk.length (s).c5, .slice (s).a6 (q).prv.length (s).c6, .bool (q).ess] 26)) (.cells #[.string (bs (p).name), .string (bs (p).ver), .slice (r).a1 (p).pre.length (r).c1, .slice (r).a2 (p).dep.length (r).c2, .slice (r).a3 (p).rcm.length (r).c3, .slice (r).a4 (p).con.length (r).c4, .slice (r).a5 (p).brk.length (r).c5, .slice (r).a6 (p).prv.length (r).c6, .bool (p).ess, .string (bs (q).name), .string (bs (q).ver), .slice (s).a1 (q).pre.length (s).c1, .slice (s).a2 (q).dep.length (s).c2, .slice (s).a3 (q).rcm.length (s).c3, .slice (s).a4 (q).con.length (s).c4, .slice (s).a5 (q).brk.length (s).c5, .slice (s).a6 (q).prv.length (s).c6, .bool (q).ess] 26)) hb1)
  have K1 := Lib.hid ((((blk_new1 w 26 #[.string (bs (p).name), .string (bs (p).ver), .slice (r).a1 (p).pre.length (r).c1, .slice (r).a2 (p).dep.length (r).c2, .slice (r).a3 (p).rcm.length (r).c3, .slice (r).a4 (p).con.length (r).c4, .slice (r).a5 (p).brk.length (r).c5, .slice (r).a6 (p).prv.length (r).c6, .bool (p).ess]).alloc (.cells #[.string (bs (q).name), .string (bs (q).ver), .slice (s).a1 (q).pre.length (s).c1, .slice (s).a2 (q).dep.length (s).c2, .slice (s).a3 (q).rcm.length (s).c3, .slice (s).a4 (q).con.length (s).c4, .slice (s).a5 (q).brk.length (s).c5, .slice (s).a6 (q).prv.length (s).c6, .bool (q).ess] 26)).alloc (.cells #[.string (bs (p).name), .string (bs (p).ver), .slice (r).a1 (p).pre.length (r).c1, .slice (r).a2 (p).dep.length (r).c2, .slice (r).a3 (p).rcm.length (r).c3, .slice (r).a4 (p).con.length (r).c4, .slice (r).a5 (p).brk.length (r).c5, .slice (r).a6 (p).prv.length (r).c6, .bool (p).ess, .string (bs (q).name), .string (bs (q).ver), .slice (s).a1 (q).pre.length (s).c1, .slice (s).a2 (q).dep.length (s).c2, .slice (s).a3 (q).rcm.length (s).c3, .slice (s).a4 (q).con.length (s).c4, .slice (s).a5 (q).brk.length (s).c5, .slice (s).a6 (q).prv.length (s).c6, .bool (q).ess] 26)).next hb1)
  have K2 := Lib.hid (((blk_new2 w (.cells #[.string (bs (p).name), .string (bs (p).ver), .slice (r).a1 (p).pre.length (r).c1, .slice (r).a2 (p).dep.length (r).c2, .slice (r).a3 (p).rcm.length (r).c3, .slice (r).a4 (p).con.length (r).c4, .slice (r).a5 (p).brk.length (r).c5, .slice (r).a6 (p).prv.length (r).c6, .bool (p).ess] 26) 26 #[.string (bs (q).name), .string (bs (q).ver), .slice (s).a1 (q).pre.length (s).c1, .slice (s).a2 (q).dep.length (s).c2, .slice (s).a3 (q).rcm.length (s).c3, .slice (s).a4 (q).con.length (s).c4, .slice (s).a5 (q).brk.length (s).c5, .slice (s).a6 (q).prv.length (s).c6, .bool (q).ess]).alloc (.cells #[.string (bs (p).name), .string (bs (p).ver), .slice (r).a1 (p).pre.length (r).c1, .slice (r).a2 (p).dep.length (r).c2, .slice (r).a3 (p).rcm.length (r).c3, .slice (r).a4 (p).con.length (r).c4, .slice (r).a5 (p).brk.length (r).c5, .slice (r).a6 (p).prv.length (r).c6, .bool (p).ess, .string (bs (q).name), .string (bs (q).ver), .slice (s).a1 (q).pre.length (s).c1, .slice (s).a2 (q).dep.length (s).c2, .slice (s).a3 (q).rcm.length (s).c3, .slice (s).a4 (q).con.length (s).c4, .slice (s).a5 (q).brk.length (s).c5, .slice (s).a6 (q).prv.length (s).c6, .bool (q).ess] 26)).next hb1)
  clear hb1 K3
  go_wp2_with fail
  refine (awake10_any _).mono ?_
  rintro e w2 ⟨rfl, hb2⟩
  go_wp2
  go_ret
  exact ⟨rfl, below_next HB.out hb2⟩
set_option maxRecDepth 100000 in
set_option maxHeartbeats 4000000 in
theorem clash_same (p q : Pkg) (r s : Raw) (w : World) (hp : RP w r p) (hq : RP w s q) (hL : lightM 40 60 30 30 [p, q] = true) (hb : clhS p q = false) (hn : (p.name == q.name) = true) :
    Calls Tryd.prog 3 #[(.agg #[.string (bs (p).name), .string (bs (p).ver), .slice (r).a1 (p).pre.length (r).c1, .slice (r).a2 (p).dep.length (r).c2, .slice (r).a3 (p).rcm.length (r).c3, .slice (r).a4 (p).con.length (r).c4, .slice (r).a5 (p).brk.length (r).c5, .slice (r).a6 (p).prv.length (r).c6, .bool (p).ess]), (.agg #[.string (bs (q).name), .string (bs (q).ver), .slice (s).a1 (q).pre.length (s).c1, .slice (s).a2 (q).dep.length (s).c2, .slice (s).a3 (q).rcm.length (s).c3, .slice (s).a4 (q).con.length (s).c4, .slice (s).a5 (q).brk.length (s).c5, .slice (s).a6 (q).prv.length (s).c6, .bool (q).ess])] w fun e w' => e = .returned (.bool true) ∧ Below w.heap.size w w' := by
  have HS := Lib.hid hb
  clear hb
  have HP := Lib.hid hp
  have HQ := Lib.hid hq
  have HL := Lib.hid hL
  clear hp hq hL
  go_enter Tryd.func3, Tryd.ntmps3
  go_wp2_with fail
  have K3 := (Kept.alloc w (.cells #[.string (bs (p).name), .string (bs (p).ver), .slice (r).a1 (p).pre.length (r).c1, .slice (r).a2 (p).dep.length (r).c2, .slice (r).a3 (p).rcm.length (r).c3, .slice (r).a4 (p).con.length (r).c4, .slice (r).a5 (p).brk.length (r).c5, .slice (r).a6 (p).prv.length (r).c6, .bool (p).ess] 26)).trans ((Kept.alloc _ (.cells #[.string (bs (q).name), .string (bs (q).ver), .slice (s).a1 (q).pre.length (s).c1, .slice (s).a2 (q).dep.length (s).c2, .slice (s).a3 (q).rcm.length (s).c3, .slice (s).a4 (q).con.length (s).c4, .slice (s).a5 (q).brk.length (s).c5, .slice (s).a6 (q).prv.length (s).c6, .bool (q).ess] 26)).trans (Kept.alloc _ (.cells #[.string (bs (p).name), .string (bs (p).ver), .slice (r).a1 (p).pre.length (r).c1, .slice (r).a2 (p).dep.length (r).c2, .slice (r).a3 (p).rcm.length (r).c3, .slice (r).a4 (p).con.length (r).c4, .slice (r).a5 (p).brk.length (r).c5, .slice (r).a6 (p).prv.length (r).c6, .bool (p).ess, .string (bs (q).name), .string (bs (q).ver), .slice (s).a1 (q).pre.length (s).c1, .slice (s).a2 (q).dep.length (s).c2, .slice (s).a3 (q).rcm.length (s).c3, .slice (s).a4 (q).con.length (s).c4, .slice (s).a5 (q).brk.length (s).c5, .slice (s).a6 (q).prv.length (s).c6, .bool (q).ess] 26)))
  refine (light10_any _ 2 [p, q] _ (two_pkgs (blk_new3 _ _ _ _ _) (HP.out.kept K3) (HQ.out.kept K3))).mono ?_
  rintro e w1 ⟨rfl, hb1⟩
  rw [HL.out]
  have HB := Lib.hid (below_next (below_alloc (below_alloc (below_alloc (Below.refl w.heap.size w) (.cells #[.string (bs (p).name), .string (bs (p).ver), .slice (r).a1 (p).pre.length (r).c1, .slice (r).a2 (p).dep.length (r).c2, .slice (r).a3 (p).rcm.length (r).c3, .slice (r).a4 (p).con.length (r).c4, .slice (r).a5 (p).brk.length (r).c5, .slice (r).a6 (p).prv.length (r).c6, .bool (p).ess] 26)) (.cells #[.string (bs (q).name), .string (bs (q).ver), .slice (s).a1 (q).pre.length (s).c1, .slice (s).a2 (q).dep.length (s).c2, .slice (s).a3 (q).rcm.length (s).c3, .slice (s).a4 (q).con.length (s).c4, .slice (s).a5 (q).brk.length (s).c5, .slice (s).a6 (q).prv.length (s).c6, .bool (q).ess] 26)) (.cells #[.string (bs (p).name), .string (bs (p).ver), .slice (r).a1 (p).pre.length (r).c1, .slice (r).a2 (p).dep.length (r).c2, .slice (r).a3 (p).rcm.length (r).c3, .slice (r).a4 (p).con.length (r).c4, .slice (r).a5 (p).brk.length (r).c5, .slice (r).a6 (p).prv.length (r).c6, .bool (p).ess, .string (bs (q).name), .string (bs (q).ver), .slice (s).a1 (q).pre.length (s).c1, .slice (s).a2 (q).dep.length (s).c2, .slice (s).a3 (q).rcm.length (s).c3, .slice (s).a4 (q).con.length (s).c4, .slice (s).a5 (q).brk.length (s).c5, .slice (s).a6 (q).prv.length (s).c6, .bool (q).ess] 26)) hb1)
  have K1 := Lib.hid ((((blk_new1 w 26 #[.string (bs (p).name), .string (bs (p).ver), .slice (r).a1 (p).pre.length (r).c1, .slice (r).a2 (p).dep.length (r).c2, .slice (r).a3 (p).rcm.length (r).c3, .slice (r).a4 (p).con.length (r).c4, .slice (r).a5 (p).brk.length (r).c5, .slice (r).a6 (p).prv.length (r).c6, .bool (p).ess]).alloc (.cells #[.string (bs (q).name), .string (bs (q).ver), .slice (s).a1 (q).pre.length (s).c1, .slice (s).a2 (q).dep.length (s).c2, .slice (s).a3 (q).rcm.length (s).c3, .slice (s).a4 (q).con.length (s).c4, .slice (s).a5 (q).brk.length (s).c5, .slice (s).a6 (q).prv.length (s).c6, .bool (q).ess] 26)).alloc (.cells #[.string (bs (p).name), .string (bs (p).ver), .slice (r).a1 (p).pre.length (r).c1, .slice (r).a2 (p).dep.length (r).c2, .slice (r).a3 (p).rcm.length (r).c3, .slice (r).a4 (p).con.length (r).c4, .slice (r).a5 (p).brk.length (r).c5, .slice (r).a6 (p).prv.length (r).c6, .bool (p).ess, .string (bs (q).name), .string (bs (q).ver), .slice (s).a1 (q).pre.length (s).c1, .slice (s).a2 (q).dep.length (s).c2, .slice (s).a3 (q).rcm.length (s).c3, .slice (s).a4 (q).con.length (s).c4, .slice (s).a5 (q).brk.length (s).c5, .slice (s).a6 (q).prv.length (s).c6, .bool (q).ess] 26)).next hb1)
  have K2 := Lib.hid (((blk_new2 w (.cells #[.string (bs (p).name), .string (bs (p).ver), .slice (r).a1 (p).pre.length (r).c1, .slice (r).a2 (p).dep.length (r).c2, .slice (r).a3 (p).rcm.length (r).c3, .slice (r).a4 (p).con.length (r).c4, .slice (r).a5 (p).brk.length (r).c5, .slice (r).a6 (p).prv.length (r).c6, .bool (p).ess] 26) 26 #[.string (bs (q).name), .string (bs (q).ver), .slice (s).a1 (q).pre.length (s).c1, .slice (s).a2 (q).dep.length (s).c2, .slice (s).a3 (q).rcm.length (s).c3, .slice (s).a4 (q).con.length (s).c4, .slice (s).a5 (q).brk.length (s).c5, .slice (s).a6 (q).prv.length (s).c6, .bool (q).ess]).alloc (.cells #[.string (bs (p).name), .string (bs (p).ver), .slice (r).a1 (p).pre.length (r).c1, .slice (r).a2 (p).dep.length (r).c2, .slice (r).a3 (p).rcm.length (r).c3, .slice (r).a4 (p).con.length (r).c4, .slice (r).a5 (p).brk.length (r).c5, .slice (r).a6 (p).prv.length (r).c6, .bool (p).ess, .string (bs (q).name), .string (bs (q).ver), .slice (s).a1 (q).pre.length (s).c1, .slice (s).a2 (q).dep.length (s).c2, .slice (s).a3 (q).rcm.length (s).c3, .slice (s).a4 (q).con.length (s).c4, .slice (s).a5 (q).brk.length (s).c5, .slice (s).a6 (q).prv.length (s).c6, .bool (q).ess] 26)).next hb1)
  clear hb1 K3
  go_upto_region 3 with (fail)
  obtain ⟨x0, x1, x2, x3, x4, x5, x6, x7, x8⟩ := blk9 K1.out
  obtain ⟨y0, y1, y2, y3, y4, y5, y6, y7, y8⟩ := blk9 K2.out
  have qx0 := fun p : Be w1 => Be.cell x0 p
  have qx1 := fun p : Be w1 => Be.cell x1 p
  have qx2 := fun p : Be w1 => Be.cell x2 p
  have qx3 := fun p : Be w1 => Be.cell x3 p
  have qx4 := fun p : Be w1 => Be.cell x4 p
  have qx5 := fun p : Be w1 => Be.cell x5 p
  have qx6 := fun p : Be w1 => Be.cell x6 p
  have qx7 := fun p : Be w1 => Be.cell x7 p
  have qx8 := fun p : Be w1 => Be.cell x8 p
  have qy0 := fun p : Be w1 => Be.cell y0 p
  have qy1 := fun p : Be w1 => Be.cell y1 p
  have qy2 := fun p : Be w1 => Be.cell y2 p
  have qy3 := fun p : Be w1 => Be.cell y3 p
  have qy4 := fun p : Be w1 => Be.cell y4 p
  have qy5 := fun p : Be w1 => Be.cell y5 p
  have qy6 := fun p : Be w1 => Be.cell y6 p
  have qy7 := fun p : Be w1 => Be.cell y7 p
  have qy8 := fun p : Be w1 => Be.cell y8 p
  clear x0 x1 x2 x3 x4 x5 x6 x7 x8 y0 y1 y2 y3 y4 y5 y6 y7 y8
  have S1 := Lib.hid (fun z : Be w1 => (show Calls Tryd.prog 8 #[(.agg #[.string (bs (p).name), .string (bs (p).ver), .slice (r).a1 (p).pre.length (r).c1, .slice (r).a2 (p).dep.length (r).c2, .slice (r).a3 (p).rcm.length (r).c3, .slice (r).a4 (p).con.length (r).c4, .slice (r).a5 (p).brk.length (r).c5, .slice (r).a6 (p).prv.length (r).c6, .bool (p).ess]), (.agg #[.string (bs (q).name), .string (bs (q).ver), .slice (s).a1 (q).pre.length (s).c1, .slice (s).a2 (q).dep.length (s).c2, .slice (s).a3 (q).rcm.length (s).c3, .slice (s).a4 (q).con.length (s).c4, .slice (s).a5 (q).brk.length (s).c5, .slice (s).a6 (q).prv.length (s).c6, .bool (q).ess])] z.w' (fun e w' => e = .returned (.bool false) ∧ Below z.w'.heap.size z.w' w') from (by have h := clash_any p q r s z.w' (HP.out.kept (Kept.of_below (below_next HB.out z.h))) (HQ.out.kept (Kept.of_below (below_next HB.out z.h))); rw [HS.out] at h; exact h)))
  have S2 := Lib.hid (fun z : Be w1 => (show Calls Tryd.prog 8 #[(.agg #[.string (bs (q).name), .string (bs (q).ver), .slice (s).a1 (q).pre.length (s).c1, .slice (s).a2 (q).dep.length (s).c2, .slice (s).a3 (q).rcm.length (s).c3, .slice (s).a4 (q).con.length (s).c4, .slice (s).a5 (q).brk.length (s).c5, .slice (s).a6 (q).prv.length (s).c6, .bool (q).ess]), (.agg #[.string (bs (p).name), .string (bs (p).ver), .slice (r).a1 (p).pre.length (r).c1, .slice (r).a2 (p).dep.length (r).c2, .slice (r).a3 (p).rcm.length (r).c3, .slice (r).a4 (p).con.length (r).c4, .slice (r).a5 (p).brk.length (r).c5, .slice (r).a6 (p).prv.length (r).c6, .bool (p).ess])] z.w' (fun e w' => e = .returned (.bool false) ∧ Below z.w'.heap.size z.w' w') from (by have h := clash_any q p s r z.w' (HQ.out.kept (Kept.of_below (below_next HB.out z.h))) (HP.out.kept (Kept.of_below (below_next HB.out z.h))); rw [← clh_turn, HS.out] at h; exact h)))
  have S3 := Lib.hid (fun z : Be w1 => (show Calls Tryd.prog 8 #[(.agg #[.string (bs (p).name), .string (bs (p).ver), .slice (r).a1 (p).pre.length (r).c1, .slice (r).a2 (p).dep.length (r).c2, .slice (r).a3 (p).rcm.length (r).c3, .slice (r).a4 (p).con.length (r).c4, .slice (r).a5 (p).brk.length (r).c5, .slice (r).a6 (p).prv.length (r).c6, .bool (p).ess]), (.agg #[.string (bs (p).name), .string (bs (p).ver), .slice (r).a1 (p).pre.length (r).c1, .slice (r).a2 (p).dep.length (r).c2, .slice (r).a3 (p).rcm.length (r).c3, .slice (r).a4 (p).con.length (r).c4, .slice (r).a5 (p).brk.length (r).c5, .slice (r).a6 (p).prv.length (r).c6, .bool (p).ess])] z.w' (fun e w' => e = .returned (.bool false) ∧ Below z.w'.heap.size z.w' w') from (by have h := clash_any p p r r z.w' (HP.out.kept (Kept.of_below (below_next HB.out z.h))) (HP.out.kept (Kept.of_below (below_next HB.out z.h))); rw [clh_self] at h; exact h)))
  refine region_be (by kernel_rfl) (by kernel_rfl) ?_
  repeat (quiet_step (first | (go_at_call 8; with_reducible exact Calls.be_of (S1.out _)) | (go_at_call 8; with_reducible exact Calls.be_of (S2.out _)) | (go_at_call 8; with_reducible exact Calls.be_of (S3.out _)) | (go_at_call 7; with_reducible exact Calls.be_of (awake10_any _))))
  refine wpQuiet_nil ?_
  intro _ hw'
  obtain ⟨pb, hw''⟩ := hw'
  subst hw''
  obtain ⟨W2, hbw⟩ := pb
  dsimp only
  go_wp2
  go_ret
  exact ⟨rfl, below_next HB.out hbw⟩
set_option maxRecDepth 100000 in
set_option maxHeartbeats 4000000 in
theorem clash_y (p q : Pkg) (r s : Raw) (w : World) (hp : RP w r p) (hq : RP w s q) (hL : lightM 40 60 30 30 [p, q] = true) (hb : clhS p q = true) (hn : (p.name == q.name) = false) :
    Calls Tryd.prog 3 #[(.agg #[.string (bs (p).name), .string (bs (p).ver), .slice (r).a1 (p).pre.length (r).c1, .slice (r).a2 (p).dep.length (r).c2, .slice (r).a3 (p).rcm.length (r).c3, .slice (r).a4 (p).con.length (r).c4, .slice (r).a5 (p).brk.length (r).c5, .slice (r).a6 (p).prv.length (r).c6, .bool (p).ess]), (.agg #[.string (bs (q).name), .string (bs (q).ver), .slice (s).a1 (q).pre.length (s).c1, .slice (s).a2 (q).dep.length (s).c2, .slice (s).a3 (q).rcm.length (s).c3, .slice (s).a4 (q).con.length (s).c4, .slice (s).a5 (q).brk.length (s).c5, .slice (s).a6 (q).prv.length (s).c6, .bool (q).ess])] w fun e w' => e = .returned (.bool true) ∧ Below w.heap.size w w' := by
  have HS := Lib.hid hb
  clear hb
  have HP := Lib.hid hp
  have HQ := Lib.hid hq
  have HL := Lib.hid hL
  clear hp hq hL
  go_enter Tryd.func3, Tryd.ntmps3
  go_wp2_with fail
  have K3 := (Kept.alloc w (.cells #[.string (bs (p).name), .string (bs (p).ver), .slice (r).a1 (p).pre.length (r).c1, .slice (r).a2 (p).dep.length (r).c2, .slice (r).a3 (p).rcm.length (r).c3, .slice (r).a4 (p).con.length (r).c4, .slice (r).a5 (p).brk.length (r).c5, .slice (r).a6 (p).prv.length (r).c6, .bool (p).ess] 26)).trans ((Kept.alloc _ (.cells #[.string (bs (q).name), .string (bs (q).ver), .slice (s).a1 (q).pre.length (s).c1, .slice (s).a2 (q).dep.length (s).c2, .slice (s).a3 (q).rcm.length (s).c3, .slice (s).a4 (q).con.length (s).c4, .slice (s).a5 (q).brk.length (s).c5, .slice (s).a6 (q).prv.length (s).c6, .bool (q).ess] 26)).trans (Kept.alloc _ (.cells #[.string (bs (p).name), .string (bs (p).ver), .slice (r).a1 (p).pre.length (r).c1, .slice (r).a2 (p).dep.length (r).c2, .slice (r).a3 (p).rcm.length (r).c3, .slice (r).a4 (p).con.length (r).c4, .slice (r).a5 (p).brk.length (r).c5, .slice (r).a6 (p).prv.length (r).c6, .bool (p).ess, .string (bs (q).name), .string (bs (q).ver), .slice (s).a1 (q).pre.length (s).c1, .slice (s).a2 (q).dep.length (s).c2, .slice (s).a3 (q).rcm.length (s).c3, .slice (s).a4 (q).con.length (s).c4, .slice (s).a5 (q).brk.length (s).c5, .slice (s).a6 (q).prv.length (s).c6, .bool (q).ess] 26)))
  refine (light10_any _ 2 [p, q] _ (two_pkgs (blk_new3 _ _ _ _ _) (HP.out.kept K3) (HQ.out.kept K3))).mono ?_
  rintro e w1 ⟨rfl, hb1⟩
  rw [HL.out]
  have HB := Lib.hid (below_next (below_alloc (below_alloc (below_alloc (Below.refl w.heap.size w) (.cells #[.string (bs (p).name), .string (bs (p).ver), .slice (r).a1 (p).pre.length (r).c1, .slice (r).a2 (p).dep.length (r).c2, .slice (r).a3 (p).rcm.length (r).c3, .slice (r).a4 (p).con.length (r).c4, .slice (r).a5 (p).brk.length (r).c5, .slice (r).a6 (p).prv.length (r).c6, .bool (p).ess] 26)) (.cells #[.string (bs (q).name), .string (bs (q).ver), .slice (s).a1 (q).pre.length (s).c1, .slice (s).a2 (q).dep.length (s).c2, .slice (s).a3 (q).rcm.length (s).c3, .slice (s).a4 (q).con.length (s).c4, .slice (s).a5 (q).brk.length (s).c5, .slice (s).a6 (q).prv.length (s).c6, .bool (q).ess] 26)) (.cells #[.string (bs (p).name), .string (bs (p).ver), .slice (r).a1 (p).pre.length (r).c1, .slice (r).a2 (p).dep.length (r).c2, .slice (r).a3 (p).rcm.length (r).c3, .slice (r).a4 (p).con.length (r).c4, .slice (r).a5 (p).brk.length (r).c5, .slice (r).a6 (p).prv.length (r).c6, .bool (p).ess, .string (bs (q).name), .string (bs (q).ver), .slice (s).a1 (q).pre.length (s).c1, .slice (s).a2 (q).dep.length (s).c2, .slice (s).a3 (q).rcm.length (s).c3, .slice (s).a4 (q).con.length (s).c4, .slice (s).a5 (q).brk.length (s).c5, .slice (s).a6 (q).prv.length (s).c6, .bool (q).ess] 26)) hb1)
  have K1 := Lib.hid ((((blk_new1 w 26 #[.string (bs (p).name), .string (bs (p).ver), .slice (r).a1 (p).pre.length (r).c1, .slice (r).a2 (p).dep.length (r).c2, .slice (r).a3 (p).rcm.length (r).c3, .slice (r).a4 (p).con.length (r).c4, .slice (r).a5 (p).brk.length (r).c5, .slice (r).a6 (p).prv.length (r).c6, .bool (p).ess]).alloc (.cells #[.string (bs (q).name), .string (bs (q).ver), .slice (s).a1 (q).pre.length (s).c1, .slice (s).a2 (q).dep.length (s).c2, .slice (s).a3 (q).rcm.length (s).c3, .slice (s).a4 (q).con.length (s).c4, .slice (s).a5 (q).brk.length (s).c5, .slice (s).a6 (q).prv.length (s).c6, .bool (q).ess] 26)).alloc (.cells #[.string (bs (p).name), .string (bs (p).ver), .slice (r).a1 (p).pre.length (r).c1, .slice (r).a2 (p).dep.length (r).c2, .slice (r).a3 (p).rcm.length (r).c3, .slice (r).a4 (p).con.length (r).c4, .slice (r).a5 (p).brk.length (r).c5, .slice (r).a6 (p).prv.length (r).c6, .bool (p).ess, .string (bs (q).name), .string (bs (q).ver), .slice (s).a1 (q).pre.length (s).c1, .slice (s).a2 (q).dep.length (s).c2, .slice (s).a3 (q).rcm.length (s).c3, .slice (s).a4 (q).con.length (s).c4, .slice (s).a5 (q).brk.length (s).c5, .slice (s).a6 (q).prv.length (s).c6, .bool (q).ess] 26)).next hb1)
  have K2 := Lib.hid (((blk_new2 w (.cells #[.string (bs (p).name), .string (bs (p).ver), .slice (r).a1 (p).pre.length (r).c1, .slice (r).a2 (p).dep.length (r).c2, .slice (r).a3 (p).rcm.length (r).c3, .slice (r).a4 (p).con.length (r).c4, .slice (r).a5 (p).brk.length (r).c5, .slice (r).a6 (p).prv.length (r).c6, .bool (p).ess] 26) 26 #[.string (bs (q).name), .string (bs (q).ver), .slice (s).a1 (q).pre.length (s).c1, .slice (s).a2 (q).dep.length (s).c2, .slice (s).a3 (q).rcm.length (s).c3, .slice (s).a4 (q).con.length (s).c4, .slice (s).a5 (q).brk.length (s).c5, .slice (s).a6 (q).prv.length (s).c6, .bool (q).ess]).alloc (.cells #[.string (bs (p).name), .string (bs (p).ver), .slice (r).a1 (p).pre.length (r).c1, .slice (r).a2 (p).dep.length (r).c2, .slice (r).a3 (p).rcm.length (r).c3, .slice (r).a4 (p).con.length (r).c4, .slice (r).a5 (p).brk.length (r).c5, .slice (r).a6 (p).prv.length (r).c6, .bool (p).ess, .string (bs (q).name), .string (bs (q).ver), .slice (s).a1 (q).pre.length (s).c1, .slice (s).a2 (q).dep.length (s).c2, .slice (s).a3 (q).rcm.length (s).c3, .slice (s).a4 (q).con.length (s).c4, .slice (s).a5 (q).brk.length (s).c5, .slice (s).a6 (q).prv.length (s).c6, .bool (q).ess] 26)).next hb1)
  clear hb1 K3
  go_upto_region 3 with (fail)
  obtain ⟨x0, x1, x2, x3, x4, x5, x6, x7, x8⟩ := blk9 K1.out
  obtain ⟨y0, y1, y2, y3, y4, y5, y6, y7, y8⟩ := blk9 K2.out
  have qx0 := fun p : Be w1 => Be.cell x0 p
  have qx1 := fun p : Be w1 => Be.cell x1 p
  have qx2 := fun p : Be w1 => Be.cell x2 p
  have qx3 := fun p : Be w1 => Be.cell x3 p
  have qx4 := fun p : Be w1 => Be.cell x4 p
  have qx5 := fun p : Be w1 => Be.cell x5 p
  have qx6 := fun p : Be w1 => Be.cell x6 p
  have qx7 := fun p : Be w1 => Be.cell x7 p
  have qx8 := fun p : Be w1 => Be.cell x8 p
  have qy0 := fun p : Be w1 => Be.cell y0 p
  have qy1 := fun p : Be w1 => Be.cell y1 p
  have qy2 := fun p : Be w1 => Be.cell y2 p
  have qy3 := fun p : Be w1 => Be.cell y3 p
  have qy4 := fun p : Be w1 => Be.cell y4 p
  have qy5 := fun p : Be w1 => Be.cell y5 p
  have qy6 := fun p : Be w1 => Be.cell y6 p
  have qy7 := fun p : Be w1 => Be.cell y7 p
  have qy8 := fun p : Be w1 => Be.cell y8 p
  clear x0 x1 x2 x3 x4 x5 x6 x7 x8 y0 y1 y2 y3 y4 y5 y6 y7 y8
  have S1 := Lib.hid (fun z : Be w1 => (show Calls Tryd.prog 8 #[(.agg #[.string (bs (p).name), .string (bs (p).ver), .slice (r).a1 (p).pre.length (r).c1, .slice (r).a2 (p).dep.length (r).c2, .slice (r).a3 (p).rcm.length (r).c3, .slice (r).a4 (p).con.length (r).c4, .slice (r).a5 (p).brk.length (r).c5, .slice (r).a6 (p).prv.length (r).c6, .bool (p).ess]), (.agg #[.string (bs (q).name), .string (bs (q).ver), .slice (s).a1 (q).pre.length (s).c1, .slice (s).a2 (q).dep.length (s).c2, .slice (s).a3 (q).rcm.length (s).c3, .slice (s).a4 (q).con.length (s).c4, .slice (s).a5 (q).brk.length (s).c5, .slice (s).a6 (q).prv.length (s).c6, .bool (q).ess])] z.w' (fun e w' => e = .returned (.bool true) ∧ Below z.w'.heap.size z.w' w') from (by have h := clash_any p q r s z.w' (HP.out.kept (Kept.of_below (below_next HB.out z.h))) (HQ.out.kept (Kept.of_below (below_next HB.out z.h))); rw [HS.out] at h; exact h)))
  have S2 := Lib.hid (fun z : Be w1 => (show Calls Tryd.prog 8 #[(.agg #[.string (bs (q).name), .string (bs (q).ver), .slice (s).a1 (q).pre.length (s).c1, .slice (s).a2 (q).dep.length (s).c2, .slice (s).a3 (q).rcm.length (s).c3, .slice (s).a4 (q).con.length (s).c4, .slice (s).a5 (q).brk.length (s).c5, .slice (s).a6 (q).prv.length (s).c6, .bool (q).ess]), (.agg #[.string (bs (p).name), .string (bs (p).ver), .slice (r).a1 (p).pre.length (r).c1, .slice (r).a2 (p).dep.length (r).c2, .slice (r).a3 (p).rcm.length (r).c3, .slice (r).a4 (p).con.length (r).c4, .slice (r).a5 (p).brk.length (r).c5, .slice (r).a6 (p).prv.length (r).c6, .bool (p).ess])] z.w' (fun e w' => e = .returned (.bool true) ∧ Below z.w'.heap.size z.w' w') from (by have h := clash_any q p s r z.w' (HQ.out.kept (Kept.of_below (below_next HB.out z.h))) (HP.out.kept (Kept.of_below (below_next HB.out z.h))); rw [← clh_turn, HS.out] at h; exact h)))
  have S3 := Lib.hid (fun z : Be w1 => (show Calls Tryd.prog 8 #[(.agg #[.string (bs (p).name), .string (bs (p).ver), .slice (r).a1 (p).pre.length (r).c1, .slice (r).a2 (p).dep.length (r).c2, .slice (r).a3 (p).rcm.length (r).c3, .slice (r).a4 (p).con.length (r).c4, .slice (r).a5 (p).brk.length (r).c5, .slice (r).a6 (p).prv.length (r).c6, .bool (p).ess]), (.agg #[.string (bs (p).name), .string (bs (p).ver), .slice (r).a1 (p).pre.length (r).c1, .slice (r).a2 (p).dep.length (r).c2, .slice (r).a3 (p).rcm.length (r).c3, .slice (r).a4 (p).con.length (r).c4, .slice (r).a5 (p).brk.length (r).c5, .slice (r).a6 (p).prv.length (r).c6, .bool (p).ess])] z.w' (fun e w' => e = .returned (.bool false) ∧ Below z.w'.heap.size z.w' w') from (by have h := clash_any p p r r z.w' (HP.out.kept (Kept.of_below (below_next HB.out z.h))) (HP.out.kept (Kept.of_below (below_next HB.out z.h))); rw [clh_self] at h; exact h)))
  refine region_be (by kernel_rfl) (by kernel_rfl) ?_
  repeat (quiet_step (first | (go_at_call 8; with_reducible exact Calls.be_of (S1.out _)) | (go_at_call 8; with_reducible exact Calls.be_of (S2.out _)) | (go_at_call 8; with_reducible exact Calls.be_of (S3.out _)) | (go_at_call 7; with_reducible exact Calls.be_of (awake10_any _))))
  refine wpQuiet_nil ?_
  intro _ hw'
  obtain ⟨pb, hw''⟩ := hw'
  subst hw''
  obtain ⟨W2, hbw⟩ := pb
  dsimp only
  go_wp2
  go_ret
  exact ⟨rfl, below_next HB.out hbw⟩
set_option maxRecDepth 100000 in
set_option maxHeartbeats 4000000 in
theorem clash_n (p q : Pkg) (r s : Raw) (w : World) (hp : RP w r p) (hq : RP w s q) (hL : lightM 40 60 30 30 [p, q] = true) (hb : clhS p q = false) (hn : (p.name == q.name) = false) :
    Calls Tryd.prog 3 #[(.agg #[.string (bs (p).name), .string (bs (p).ver), .slice (r).a1 (p).pre.length (r).c1, .slice (r).a2 (p).dep.length (r).c2, .slice (r).a3 (p).rcm.length (r).c3, .slice (r).a4 (p).con.length (r).c4, .slice (r).a5 (p).brk.length (r).c5, .slice (r).a6 (p).prv.length (r).c6, .bool (p).ess]), (.agg #[.string (bs (q).name), .string (bs (q).ver), .slice (s).a1 (q).pre.length (s).c1, .slice (s).a2 (q).dep.length (s).c2, .slice (s).a3 (q).rcm.length (s).c3, .slice (s).a4 (q).con.length (s).c4, .slice (s).a5 (q).brk.length (s).c5, .slice (s).a6 (q).prv.length (s).c6, .bool (q).ess])] w fun e w' => e = .returned (.bool true) ∧ Below w.heap.size w w' := by
  have HS := Lib.hid hb
  clear hb
  have HP := Lib.hid hp
  have HQ := Lib.hid hq
  have HL := Lib.hid hL
  clear hp hq hL
  go_enter Tryd.func3, Tryd.ntmps3
  go_wp2_with fail
  have K3 := (Kept.alloc w (.cells #[.string (bs (p).name), .string (bs (p).ver), .slice (r).a1 (p).pre.length (r).c1, .slice (r).a2 (p).dep.length (r).c2, .slice (r).a3 (p).rcm.length (r).c3, .slice (r).a4 (p).con.length (r).c4, .slice (r).a5 (p).brk.length (r).c5, .slice (r).a6 (p).prv.length (r).c6, .bool (p).ess] 26)).trans ((Kept.alloc _ (.cells #[.string (bs (q).name), .string (bs (q).ver), .slice (s).a1 (q).pre.length (s).c1, .slice (s).a2 (q).dep.length (s).c2, .slice (s).a3 (q).rcm.length (s).c3, .slice (s).a4 (q).con.length (s).c4, .slice (s).a5 (q).brk.length (s).c5, .slice (s).a6 (q).prv.length (s).c6, .bool (q).ess] 26)).trans (Kept.alloc _ (.cells #[.string (bs (p).name), .string (bs (p).ver), .slice (r).a1 (p).pre.length (r).c1, .slice (r).a2 (p).dep.length (r).c2, .slice (r).a3 (p).rcm.length (r).c3, .slice (r).a4 (p).con.length (r).c4, .slice (r).a5 (p).brk.length (r).c5, .slice (r).a6 (p).prv.length (r).c6, .bool (p).ess, .string (bs (q).name), .string (bs (q).ver), .slice (s).a1 (q).pre.length (s).c1, .slice (s).a2 (q).dep.length (s).c2, .slice (s).a3 (q).rcm.length (s).c3, .slice (s).a4 (q).con.length (s).c4, .slice (s).a5 (q).brk.length (s).c5, .slice (s).a6 (q).prv.length (s).c6, .bool (q).ess] 26)))
  refine (light10_any _ 2 [p, q] _ (two_pkgs (blk_new3 _ _ _ _ _) (HP.out.kept K3) (HQ.out.kept K3))).mono ?_
  rintro e w1 ⟨rfl, hb1⟩
  rw [HL.out]
  have HB := Lib.hid (below_next (below_alloc (below_alloc (below_alloc (Below.refl w.heap.size w) (.cells #[.string (bs (p).name), .string (bs (p).ver), .slice (r).a1 (p).pre.length (r).c1, .slice (r).a2 (p).dep.length (r).c2, .slice (r).a3 (p).rcm.length (r).c3, .slice (r).a4 (p).con.length (r).c4, .slice (r).a5 (p).brk.length (r).c5, .slice (r).a6 (p).prv.length (r).c6, .bool (p).ess] 26)) (.cells #[.string (bs (q).name), .string (bs (q).ver), .slice (s).a1 (q).pre.length (s).c1, .slice (s).a2 (q).dep.length (s).c2, .slice (s).a3 (q).rcm.length (s).c3, .slice (s).a4 (q).con.length (s).c4, .slice (s).a5 (q).brk.length (s).c5, .slice (s).a6 (q).prv.length (s).c6, .bool (q).ess] 26)) (.cells #[.string (bs (p).name), .string (bs (p).ver), .slice (r).a1 (p).pre.length (r).c1, .slice (r).a2 (p).dep.length (r).c2, .slice (r).a3 (p).rcm.length (r).c3, .slice (r).a4 (p).con.length (r).c4, .slice (r).a5 (p).brk.length (r).c5, .slice (r).a6 (p).prv.length (r).c6, .bool (p).ess, .string (bs (q).name), .string (bs (q).ver), .slice (s).a1 (q).pre.length (s).c1, .slice (s).a2 (q).dep.length (s).c2, .slice (s).a3 (q).rcm.length (s).c3, .slice (s).a4 (q).con.length (s).c4, .slice (s).a5 (q).brk.length (s).c5, .slice (s).a6 (q).prv.length (s).c6, .bool (q).ess] 26)) hb1)
  have K1 := Lib.hid ((((blk_new1 w 26 #[.string (bs (p).name), .string (bs (p).ver), .slice (r).a1 (p).pre.length (r).c1, .slice (r).a2 (p).dep.length (r).c2, .slice (r).a3 (p).rcm.length (r).c3, .slice (r).a4 (p).con.length (r).c4, .slice (r).a5 (p).brk.length (r).c5, .slice (r).a6 (p).prv.length (r).c6, .bool (p).ess]).alloc (.cells #[.string (bs (q).name), .string (bs (q).ver), .slice (s).a1 (q).pre.length (s).c1, .slice (s).a2 (q).dep.length (s).c2, .slice (s).a3 (q).rcm.length (s).c3, .slice (s).a4 (q).con.length (s).c4, .slice (s).a5 (q).brk.length (s).c5, .slice (s).a6 (q).prv.length (s).c6, .bool (q).ess] 26)).alloc (.cells #[.string (bs (p).name), .string (bs (p).ver), .slice (r).a1 (p).pre.length (r).c1, .slice (r).a2 (p).dep.length (r).c2, .slice (r).a3 (p).rcm.length (r).c3, .slice (r).a4 (p).con.length (r).c4, .slice (r).a5 (p).brk.length (r).c5, .slice (r).a6 (p).prv.length (r).c6, .bool (p).ess, .string (bs (q).name), .string (bs (q).ver), .slice (s).a1 (q).pre.length (s).c1, .slice (s).a2 (q).dep.length (s).c2, .slice (s).a3 (q).rcm.length (s).c3, .slice (s).a4 (q).con.length (s).c4, .slice (s).a5 (q).brk.length (s).c5, .slice (s).a6 (q).prv.length (s).c6, .bool (q).ess] 26)).next hb1)
  have K2 := Lib.hid (((blk_new2 w (.cells #[.string (bs (p).name), .string (bs (p).ver), .slice (r).a1 (p).pre.length (r).c1, .slice (r).a2 (p).dep.length (r).c2, .slice (r).a3 (p).rcm.length (r).c3, .slice (r).a4 (p).con.length (r).c4, .slice (r).a5 (p).brk.length (r).c5, .slice (r).a6 (p).prv.length (r).c6, .bool (p).ess] 26) 26 #[.string (bs (q).name), .string (bs (q).ver), .slice (s).a1 (q).pre.length (s).c1, .slice (s).a2 (q).dep.length (s).c2, .slice (s).a3 (q).rcm.length (s).c3, .slice (s).a4 (q).con.length (s).c4, .slice (s).a5 (q).brk.length (s).c5, .slice (s).a6 (q).prv.length (s).c6, .bool (q).ess]).alloc (.cells #[.string (bs (p).name), .string (bs (p).ver), .slice (r).a1 (p).pre.length (r).c1, .slice (r).a2 (p).dep.length (r).c2, .slice (r).a3 (p).rcm.length (r).c3, .slice (r).a4 (p).con.length (r).c4, .slice (r).a5 (p).brk.length (r).c5, .slice (r).a6 (p).prv.length (r).c6, .bool (p).ess, .string (bs (q).name), .string (bs (q).ver), .slice (s).a1 (q).pre.length (s).c1, .slice (s).a2 (q).dep.length (s).c2, .slice (s).a3 (q).rcm.length (s).c3, .slice (s).a4 (q).con.length (s).c4, .slice (s).a5 (q).brk.length (s).c5, .slice (s).a6 (q).prv.length (s).c6, .bool (q).ess] 26)).next hb1)
  clear hb1 K3
  go_upto_region 3 with (fail)
  obtain ⟨x0, x1, x2, x3, x4, x5, x6, x7, x8⟩ := blk9 K1.out
  obtain ⟨y0, y1, y2, y3, y4, y5, y6, y7, y8⟩ := blk9 K2.out
  have qx0 := fun p : Be w1 => Be.cell x0 p
  have qx1 := fun p : Be w1 => Be.cell x1 p
  have qx2 := fun p : Be w1 => Be.cell x2 p
  have qx3 := fun p : Be w1 => Be.cell x3 p
  have qx4 := fun p : Be w1 => Be.cell x4 p
  have qx5 := fun p : Be w1 => Be.cell x5 p
  have qx6 := fun p : Be w1 => Be.cell x6 p
  have qx7 := fun p : Be w1 => Be.cell x7 p
  have qx8 := fun p : Be w1 => Be.cell x8 p
  have qy0 := fun p : Be w1 => Be.cell y0 p
  have qy1 := fun p : Be w1 => Be.cell y1 p
  have qy2 := fun p : Be w1 => Be.cell y2 p
  have qy3 := fun p : Be w1 => Be.cell y3 p
  have qy4 := fun p : Be w1 => Be.cell y4 p
  have qy5 := fun p : Be w1 => Be.cell y5 p
  have qy6 := fun p : Be w1 => Be.cell y6 p
  have qy7 := fun p : Be w1 => Be.cell y7 p
  have qy8 := fun p : Be w1 => Be.cell y8 p
  clear x0 x1 x2 x3 x4 x5 x6 x7 x8 y0 y1 y2 y3 y4 y5 y6 y7 y8
  have S1 := Lib.hid (fun z : Be w1 => (show Calls Tryd.prog 8 #[(.agg #[.string (bs (p).name), .string (bs (p).ver), .slice (r).a1 (p).pre.length (r).c1, .slice (r).a2 (p).dep.length (r).c2, .slice (r).a3 (p).rcm.length (r).c3, .slice (r).a4 (p).con.length (r).c4, .slice (r).a5 (p).brk.length (r).c5, .slice (r).a6 (p).prv.length (r).c6, .bool (p).ess]), (.agg #[.string (bs (q).name), .string (bs (q).ver), .slice (s).a1 (q).pre.length (s).c1, .slice (s).a2 (q).dep.length (s).c2, .slice (s).a3 (q).rcm.length (s).c3, .slice (s).a4 (q).con.length (s).c4, .slice (s).a5 (q).brk.length (s).c5, .slice (s).a6 (q).prv.length (s).c6, .bool (q).ess])] z.w' (fun e w' => e = .returned (.bool false) ∧ Below z.w'.heap.size z.w' w') from (by have h := clash_any p q r s z.w' (HP.out.kept (Kept.of_below (below_next HB.out z.h))) (HQ.out.kept (Kept.of_below (below_next HB.out z.h))); rw [HS.out] at h; exact h)))
  have S2 := Lib.hid (fun z : Be w1 => (show Calls Tryd.prog 8 #[(.agg #[.string (bs (q).name), .string (bs (q).ver), .slice (s).a1 (q).pre.length (s).c1, .slice (s).a2 (q).dep.length (s).c2, .slice (s).a3 (q).rcm.length (s).c3, .slice (s).a4 (q).con.length (s).c4, .slice (s).a5 (q).brk.length (s).c5, .slice (s).a6 (q).prv.length (s).c6, .bool (q).ess]), (.agg #[.string (bs (p).name), .string (bs (p).ver), .slice (r).a1 (p).pre.length (r).c1, .slice (r).a2 (p).dep.length (r).c2, .slice (r).a3 (p).rcm.length (r).c3, .slice (r).a4 (p).con.length (r).c4, .slice (r).a5 (p).brk.length (r).c5, .slice (r).a6 (p).prv.length (r).c6, .bool (p).ess])] z.w' (fun e w' => e = .returned (.bool false) ∧ Below z.w'.heap.size z.w' w') from (by have h := clash_any q p s r z.w' (HQ.out.kept (Kept.of_below (below_next HB.out z.h))) (HP.out.kept (Kept.of_below (below_next HB.out z.h))); rw [← clh_turn, HS.out] at h; exact h)))
  have S3 := Lib.hid (fun z : Be w1 => (show Calls Tryd.prog 8 #[(.agg #[.string (bs (p).name), .string (bs (p).ver), .slice (r).a1 (p).pre.length (r).c1, .slice (r).a2 (p).dep.length (r).c2, .slice (r).a3 (p).rcm.length (r).c3, .slice (r).a4 (p).con.length (r).c4, .slice (r).a5 (p).brk.length (r).c5, .slice (r).a6 (p).prv.length (r).c6, .bool (p).ess]), (.agg #[.string (bs (p).name), .string (bs (p).ver), .slice (r).a1 (p).pre.length (r).c1, .slice (r).a2 (p).dep.length (r).c2, .slice (r).a3 (p).rcm.length (r).c3, .slice (r).a4 (p).con.length (r).c4, .slice (r).a5 (p).brk.length (r).c5, .slice (r).a6 (p).prv.length (r).c6, .bool (p).ess])] z.w' (fun e w' => e = .returned (.bool false) ∧ Below z.w'.heap.size z.w' w') from (by have h := clash_any p p r r z.w' (HP.out.kept (Kept.of_below (below_next HB.out z.h))) (HP.out.kept (Kept.of_below (below_next HB.out z.h))); rw [clh_self] at h; exact h)))
  refine region_be (by kernel_rfl) (by kernel_rfl) ?_
  repeat (quiet_step (first | (go_at_call 8; with_reducible exact Calls.be_of (S1.out _)) | (go_at_call 8; with_reducible exact Calls.be_of (S2.out _)) | (go_at_call 8; with_reducible exact Calls.be_of (S3.out _)) | (go_at_call 7; with_reducible exact Calls.be_of (awake10_any _))))
  refine wpQuiet_nil ?_
  intro _ hw'
  obtain ⟨pb, hw''⟩ := hw'
  subst hw''
  obtain ⟨W2, hbw⟩ := pb
  dsimp only
  go_wp2
  go_ret
  exact ⟨rfl, below_next HB.out hbw⟩
theorem law_indexClash (r : Raw) (p : Pkg) (s : Raw) (q : Pkg) (w : World) (hp : RP w r p) (hq : RP w s q) :
    Calls Tryd.prog 3 #[(.agg #[.string (bs (p).name), .string (bs (p).ver), .slice (r).a1 (p).pre.length (r).c1, .slice (r).a2 (p).dep.length (r).c2, .slice (r).a3 (p).rcm.length (r).c3, .slice (r).a4 (p).con.length (r).c4, .slice (r).a5 (p).brk.length (r).c5, .slice (r).a6 (p).prv.length (r).c6, .bool (p).ess]), (.agg #[.string (bs (q).name), .string (bs (q).ver), .slice (s).a1 (q).pre.length (s).c1, .slice (s).a2 (q).dep.length (s).c2, .slice (s).a3 (q).rcm.length (s).c3, .slice (s).a4 (q).con.length (s).c4, .slice (s).a5 (q).brk.length (s).c5, .slice (s).a6 (q).prv.length (s).c6, .bool (q).ess])] w fun e w' => e = .returned (.bool true) ∧ Below w.heap.size w w' := by
  rcases hL : lightM 40 60 30 30 [p, q]
  · exact clash_no p q r s w hp hq hL
  · by_cases hn : p.name = q.name
    · exact clash_same p q r s w hp hq hL (clh_name hn) (by simpa using hn)
    · rcases hb : clhS p q
      · exact clash_n p q r s w hp hq hL hb (by simpa using hn)
      · exact clash_y p q r s w hp hq hL hb (by simpa using hn)
end Go.Proofs.YtflmocamfedbdaaDoor
