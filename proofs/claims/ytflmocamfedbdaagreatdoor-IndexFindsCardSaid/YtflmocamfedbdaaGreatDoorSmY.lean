/- The contract of the reference's Same (packages). -/
import Derived.Test.YtflmocamfedbdaaGreatDoorSmX
import Derived.Test.YtflmocamfedbdaaGreatDoorVerA
namespace Go.Proofs.YtflmocamfedbdaaGreatDoor
set_option linter.unusedSimpArgs false
set_option linter.unusedVariables false
open Go.RowKit

theorem pkg_eq_iff (p q : Pkg) : p = q ↔ p.name = q.name ∧ p.ver = q.ver ∧ p.ess = q.ess ∧ p.pre = q.pre ∧ p.dep = q.dep ∧ p.rcm = q.rcm ∧ p.con = q.con ∧ p.brk = q.brk ∧ p.prv = q.prv := by
  obtain ⟨a, b, c, d, e, f, g, h, i⟩ := p
  obtain ⟨a', b', c', d', e', f', g', h', i'⟩ := q
  simp only [Pkg.mk.injEq]
  constructor
  · rintro ⟨h1, h2, h3, h4, h5, h6, h7, h8, h9⟩; exact ⟨h1, h2, h9, h3, h4, h5, h6, h7, h8⟩
  · rintro ⟨h1, h2, h9, h3, h4, h5, h6, h7, h8⟩; exact ⟨h1, h2, h3, h4, h5, h6, h7, h8, h9⟩
set_option maxRecDepth 100000 in
set_option maxHeartbeats 4000000 in
theorem same_any (p q : Pkg) (r s : Raw) (w : World) (hp : RP w r p) (hq : RP w s q) :
    Calls Tryz.prog 28 #[(.agg #[.string (bs (p).name), .string (bs (p).ver), .slice (r).a1 (p).pre.length (r).c1, .slice (r).a2 (p).dep.length (r).c2, .slice (r).a3 (p).rcm.length (r).c3, .slice (r).a4 (p).con.length (r).c4, .slice (r).a5 (p).brk.length (r).c5, .slice (r).a6 (p).prv.length (r).c6, .bool (p).ess]), (.agg #[.string (bs (q).name), .string (bs (q).ver), .slice (s).a1 (q).pre.length (s).c1, .slice (s).a2 (q).dep.length (s).c2, .slice (s).a3 (q).rcm.length (s).c3, .slice (s).a4 (q).con.length (s).c4, .slice (s).a5 (q).brk.length (s).c5, .slice (s).a6 (q).prv.length (s).c6, .bool (q).ess])] w fun e w' => e = .returned (.bool (decide (p = q))) ∧ Below w.heap.size w w' := by
  have HE := Lib.hid (pkg_eq_iff p q)
  obtain ⟨p1, p2, p3, p4, p5, p6, p7, p8⟩ := hp
  obtain ⟨q1, q2, q3, q4, q5, q6, q7, q8⟩ := hq
  have P3 := Lib.hid p3
  have P4 := Lib.hid p4
  have P5 := Lib.hid p5
  have P6 := Lib.hid p6
  have P7 := Lib.hid p7
  have P8 := Lib.hid p8
  have Q3 := Lib.hid q3
  have Q4 := Lib.hid q4
  have Q5 := Lib.hid q5
  have Q6 := Lib.hid q6
  have Q7 := Lib.hid q7
  have Q8 := Lib.hid q8
  clear p1 p2 p3 p4 p5 p6 p7 p8 q1 q2 q3 q4 q5 q6 q7 q8
  have K1 := Lib.hid (show Blk ((w.alloc (.cells #[.string (bs (p).name), .string (bs (p).ver), .slice (r).a1 (p).pre.length (r).c1, .slice (r).a2 (p).dep.length (r).c2, .slice (r).a3 (p).rcm.length (r).c3, .slice (r).a4 (p).con.length (r).c4, .slice (r).a5 (p).brk.length (r).c5, .slice (r).a6 (p).prv.length (r).c6, .bool (p).ess] 26)).alloc (.cells #[.string (bs (q).name), .string (bs (q).ver), .slice (s).a1 (q).pre.length (s).c1, .slice (s).a2 (q).dep.length (s).c2, .slice (s).a3 (q).rcm.length (s).c3, .slice (s).a4 (q).con.length (s).c4, .slice (s).a5 (q).brk.length (s).c5, .slice (s).a6 (q).prv.length (s).c6, .bool (q).ess] 26)) w.heap.size 26 #[.string (bs (p).name), .string (bs (p).ver), .slice (r).a1 (p).pre.length (r).c1, .slice (r).a2 (p).dep.length (r).c2, .slice (r).a3 (p).rcm.length (r).c3, .slice (r).a4 (p).con.length (r).c4, .slice (r).a5 (p).brk.length (r).c5, .slice (r).a6 (p).prv.length (r).c6, .bool (p).ess] from Blk.alloc (blk_new1 _ _ _) _)
  have K2 := Lib.hid (show Blk ((w.alloc (.cells #[.string (bs (p).name), .string (bs (p).ver), .slice (r).a1 (p).pre.length (r).c1, .slice (r).a2 (p).dep.length (r).c2, .slice (r).a3 (p).rcm.length (r).c3, .slice (r).a4 (p).con.length (r).c4, .slice (r).a5 (p).brk.length (r).c5, .slice (r).a6 (p).prv.length (r).c6, .bool (p).ess] 26)).alloc (.cells #[.string (bs (q).name), .string (bs (q).ver), .slice (s).a1 (q).pre.length (s).c1, .slice (s).a2 (q).dep.length (s).c2, .slice (s).a3 (q).rcm.length (s).c3, .slice (s).a4 (q).con.length (s).c4, .slice (s).a5 (q).brk.length (s).c5, .slice (s).a6 (q).prv.length (s).c6, .bool (q).ess] 26)) (w.heap.size + 1) 26 #[.string (bs (q).name), .string (bs (q).ver), .slice (s).a1 (q).pre.length (s).c1, .slice (s).a2 (q).dep.length (s).c2, .slice (s).a3 (q).rcm.length (s).c3, .slice (s).a4 (q).con.length (s).c4, .slice (s).a5 (q).brk.length (s).c5, .slice (s).a6 (q).prv.length (s).c6, .bool (q).ess] from blk_new2 _ _ _ _)
  have HB := Lib.hid (show Below w.heap.size w ((w.alloc (.cells #[.string (bs (p).name), .string (bs (p).ver), .slice (r).a1 (p).pre.length (r).c1, .slice (r).a2 (p).dep.length (r).c2, .slice (r).a3 (p).rcm.length (r).c3, .slice (r).a4 (p).con.length (r).c4, .slice (r).a5 (p).brk.length (r).c5, .slice (r).a6 (p).prv.length (r).c6, .bool (p).ess] 26)).alloc (.cells #[.string (bs (q).name), .string (bs (q).ver), .slice (s).a1 (q).pre.length (s).c1, .slice (s).a2 (q).dep.length (s).c2, .slice (s).a3 (q).rcm.length (s).c3, .slice (s).a4 (q).con.length (s).c4, .slice (s).a5 (q).brk.length (s).c5, .slice (s).a6 (q).prv.length (s).c6, .bool (q).ess] 26)) from below_alloc (below_alloc (Below.refl _ _) _) _)
  by_cases h1 : p.name = q.name
  case neg =>
    have b1 : (p.name == q.name) = false := by simpa using h1
    go_enter Tryz.func28, Tryz.ntmps28
    go_wp2
    go_ret
    exact ⟨by rw [decide_eq_false (fun h => h1 (by rw [h]))]; rfl, HB.out⟩
  case pos =>
  have b1 : (p.name == q.name) = true := by simpa using h1
  have H1 := Lib.hid h1
  clear h1
  by_cases h2 : p.ver = q.ver
  case neg =>
    have b2 : (p.ver == q.ver) = false := by simpa using h2
    go_enter Tryz.func28, Tryz.ntmps28
    go_wp2
    go_ret
    exact ⟨by rw [decide_eq_false (fun h => h2 (by rw [h]))]; rfl, HB.out⟩
  case pos =>
  have b2 : (p.ver == q.ver) = true := by simpa using h2
  have H2 := Lib.hid h2
  clear h2
  by_cases h3 : p.ess = q.ess
  case neg =>
    have b3 : (p.ess == q.ess) = false := by simpa using h3
    go_enter Tryz.func28, Tryz.ntmps28
    go_wp2
    go_ret
    exact ⟨by rw [decide_eq_false (fun h => h3 (by rw [h]))]; rfl, HB.out⟩
  case pos =>
  have b3 : (p.ess == q.ess) = true := by simpa using h3
  have H3 := Lib.hid h3
  clear h3
  go_enter Tryz.func28, Tryz.ntmps28
  go_wp2_with fail
  refine (sameCls_any _ _ _ _ _ _ _ ((P3).out.kept (Kept.of_below HB.out)) ((Q3).out.kept (Kept.of_below HB.out))).mono ?_
  rintro e w1 ⟨rfl, hb1⟩
  have K1 := Lib.hid (K1.out.next hb1)
  have K2 := Lib.hid (K2.out.next hb1)
  have HB := Lib.hid (below_next HB.out hb1)
  clear hb1
  obtain ⟨c0, c1, c2, c3, c4, c5, c6, c7, c8⟩ := blk9 K1.out
  obtain ⟨d0, d1, d2, d3, d4, d5, d6, d7, d8⟩ := blk9 K2.out
  by_cases hx : p.pre = q.pre
  case neg =>
    have HF := Lib.hid (show decide (p = q) = false from decide_eq_false (fun h => hx (by rw [h])))
    rw [decide_eq_false hx]
    clear hx
    go_wp2
    go_ret
    exact ⟨by rw [HF.out]; rfl, HB.out⟩
  case pos =>
  have X3 := Lib.hid hx
  rw [decide_eq_true hx]
  clear hx
  go_wp2_with fail
  clear c0 c1 c2 c3 c4 c5 c6 c7 c8 d0 d1 d2 d3 d4 d5 d6 d7 d8
  refine (sameCls_any _ _ _ _ _ _ _ ((P4).out.kept (Kept.of_below HB.out)) ((Q4).out.kept (Kept.of_below HB.out))).mono ?_
  rintro e w1 ⟨rfl, hb1⟩
  have K1 := Lib.hid (K1.out.next hb1)
  have K2 := Lib.hid (K2.out.next hb1)
  have HB := Lib.hid (below_next HB.out hb1)
  clear hb1
  obtain ⟨c0, c1, c2, c3, c4, c5, c6, c7, c8⟩ := blk9 K1.out
  obtain ⟨d0, d1, d2, d3, d4, d5, d6, d7, d8⟩ := blk9 K2.out
  by_cases hx : p.dep = q.dep
  case neg =>
    have HF := Lib.hid (show decide (p = q) = false from decide_eq_false (fun h => hx (by rw [h])))
    rw [decide_eq_false hx]
    clear hx
    go_wp2
    go_ret
    exact ⟨by rw [HF.out]; rfl, HB.out⟩
  case pos =>
  have X4 := Lib.hid hx
  rw [decide_eq_true hx]
  clear hx
  go_wp2_with fail
  clear c0 c1 c2 c3 c4 c5 c6 c7 c8 d0 d1 d2 d3 d4 d5 d6 d7 d8
  refine (sameCls_any _ _ _ _ _ _ _ ((P5).out.kept (Kept.of_below HB.out)) ((Q5).out.kept (Kept.of_below HB.out))).mono ?_
  rintro e w1 ⟨rfl, hb1⟩
  have K1 := Lib.hid (K1.out.next hb1)
  have K2 := Lib.hid (K2.out.next hb1)
  have HB := Lib.hid (below_next HB.out hb1)
  clear hb1
  obtain ⟨c0, c1, c2, c3, c4, c5, c6, c7, c8⟩ := blk9 K1.out
  obtain ⟨d0, d1, d2, d3, d4, d5, d6, d7, d8⟩ := blk9 K2.out
  by_cases hx : p.rcm = q.rcm
  case neg =>
    have HF := Lib.hid (show decide (p = q) = false from decide_eq_false (fun h => hx (by rw [h])))
    rw [decide_eq_false hx]
    clear hx
    go_wp2
    go_ret
    exact ⟨by rw [HF.out]; rfl, HB.out⟩
  case pos =>
  have X5 := Lib.hid hx
  rw [decide_eq_true hx]
  clear hx
  go_wp2_with fail
  clear c0 c1 c2 c3 c4 c5 c6 c7 c8 d0 d1 d2 d3 d4 d5 d6 d7 d8
  refine (sameAtoms_any _ _ _ _ _ _ _ ((P6).out.kept (Kept.of_below HB.out)) ((Q6).out.kept (Kept.of_below HB.out))).mono ?_
  rintro e w1 ⟨rfl, hb1⟩
  have K1 := Lib.hid (K1.out.next hb1)
  have K2 := Lib.hid (K2.out.next hb1)
  have HB := Lib.hid (below_next HB.out hb1)
  clear hb1
  obtain ⟨c0, c1, c2, c3, c4, c5, c6, c7, c8⟩ := blk9 K1.out
  obtain ⟨d0, d1, d2, d3, d4, d5, d6, d7, d8⟩ := blk9 K2.out
  by_cases hx : p.con = q.con
  case neg =>
    have HF := Lib.hid (show decide (p = q) = false from decide_eq_false (fun h => hx (by rw [h])))
    rw [decide_eq_false hx]
    clear hx
    go_wp2
    go_ret
    exact ⟨by rw [HF.out]; rfl, HB.out⟩
  case pos =>
  have X6 := Lib.hid hx
  rw [decide_eq_true hx]
  clear hx
  go_wp2_with fail
  clear c0 c1 c2 c3 c4 c5 c6 c7 c8 d0 d1 d2 d3 d4 d5 d6 d7 d8
  refine (sameAtoms_any _ _ _ _ _ _ _ ((P7).out.kept (Kept.of_below HB.out)) ((Q7).out.kept (Kept.of_below HB.out))).mono ?_
  rintro e w1 ⟨rfl, hb1⟩
  have K1 := Lib.hid (K1.out.next hb1)
  have K2 := Lib.hid (K2.out.next hb1)
  have HB := Lib.hid (below_next HB.out hb1)
  clear hb1
  obtain ⟨c0, c1, c2, c3, c4, c5, c6, c7, c8⟩ := blk9 K1.out
  obtain ⟨d0, d1, d2, d3, d4, d5, d6, d7, d8⟩ := blk9 K2.out
  by_cases hx : p.brk = q.brk
  case neg =>
    have HF := Lib.hid (show decide (p = q) = false from decide_eq_false (fun h => hx (by rw [h])))
    rw [decide_eq_false hx]
    clear hx
    go_wp2
    go_ret
    exact ⟨by rw [HF.out]; rfl, HB.out⟩
  case pos =>
  have X7 := Lib.hid hx
  rw [decide_eq_true hx]
  clear hx
  go_wp2_with fail
  clear c0 c1 c2 c3 c4 c5 c6 c7 c8 d0 d1 d2 d3 d4 d5 d6 d7 d8
  refine (samePrvs_any _ _ _ _ _ _ _ (P8.out.kept (Kept.of_below HB.out)) (Q8.out.kept (Kept.of_below HB.out))).mono ?_
  rintro e w1 ⟨rfl, hb1⟩
  have HF := Lib.hid (show decide (p.prv = q.prv) = decide (p = q) by
    rw [decide_eq_decide, HE.out]
    exact ⟨fun h => ⟨H1.out, H2.out, H3.out, X3.out, X4.out, X5.out, X6.out, X7.out, h⟩, fun h => h.2.2.2.2.2.2.2.2⟩)
  rw [HF.out]
  go_wp2
  go_ret
  exact ⟨rfl, below_next HB.out hb1⟩
end Go.Proofs.YtflmocamfedbdaaGreatDoor
