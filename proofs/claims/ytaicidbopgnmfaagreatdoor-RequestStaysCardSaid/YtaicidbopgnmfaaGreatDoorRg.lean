/- The contracts of request.meets, stays. The contracts of request.copied, request.Held. The contract of the reference's Held. -/
import Derived.Test.YtaicidbopgnmfaaGreatDoorRr
import Derived.Test.YtaicidbopgnmfaaGreatDoorEz
import Derived.Test.YtaicidbopgnmfaaGreatDoorMx
import Derived.Test.YtaicidbopgnmfaaGreatDoorDa
namespace Go.Proofs.YtaicidbopgnmfaaGreatDoor
set_option linter.unusedSimpArgs false
set_option linter.unusedVariables false
open Go.RowKit
attribute [local go_sem ↓] Go.wp_at_zero Go.wp_at_succ
def meet1 (a : Stp) (t : List Pkg) (s : List Ent) : Bool :=
  if a.kind = 1 then (match t.find? (pnB a.name) with | some p => a.ver == [] || sameV p.ver a.ver | none => false)
  else if a.kind = 2 then (t.find? (pnB a.name)).isNone
  else if a.kind = 5 then s.any (nameE a.name) else true
def hasP (o : Option Pkg) : Bool := o.isSome
set_option maxRecDepth 100000 in
set_option maxHeartbeats 1000000 in
theorem meet1_any (k : Int) (n v : List UInt8) (t : List Pkg) (A : Option Addr) (c : Nat) (s : List Ent) (A2 : Option Addr) (c2 : Nat) (w : World) (ht : Pkgs w A c t) (hs : Ents w A2 c2 s) :
    Calls Tryz.prog 80 #[(.agg #[.int .i64 k, .string (bs n), .string (bs v)]), .slice A t.length c, .slice A2 s.length c2] w fun e w' => e = .returned (.bool (meet1 ⟨k, n, v⟩ t s)) ∧ Below w.heap.size w w' := by
  have HT := Lib.hid ht
  have HS := Lib.hid hs
  clear ht hs
  obtain ⟨G, hG⟩ : ∃ G, G = meet1 ⟨k, n, v⟩ t s := ⟨_, rfl⟩
  rw [← hG]
  unfold meet1 at hG
  dsimp only at hG
  rcases hf : t.find? (pnB n) with _ | p
  · have HF := Lib.hid hf
    rw [hf] at hG
    clear hf
    by_cases h1 : k = 1
    · have k1 : (k == 1) = true := by simpa using h1
      have HG := Lib.hid (show G = false by rw [hG, if_pos h1])
      clear hG h1
      go_enter Tryz.func80, Tryz.ntmps80
      have KA := Lib.hid (blk_new1 w 68 #[.int .i64 k, .string (bs n), .string (bs v)])
      have HB := Lib.hid (below_alloc (Below.refl w.heap.size w) (.cells #[.int .i64 k, .string (bs n), .string (bs v)] 68))
      have a0 := KA.out.cell 0
      have a1 := KA.out.cell 1
      have a2 := KA.out.cell 2
      simp only [List.getElem?_toArray, List.getElem?_cons_zero, List.getElem?_cons_succ] at a0 a1 a2
      go_wp2_with fail
      clear a0 a1 a2
      have HQ := Lib.hid (qfind_no A c t.length t n rfl HF.out (w.alloc (.cells #[.int .i64 k, .string (bs n), .string (bs v)] 68)) (HT.out.kept (Kept.of_below HB.out)))
      refine HQ.out.mono ?_
      rintro e w1 ⟨rfl, hb1⟩
      clear HQ
      have KA := Lib.hid (KA.out.next hb1)
      have HB := Lib.hid (below_next HB.out hb1)
      clear hb1
      have a0 := fun (o : Obj) => (KA.out.alloc o).cell 0
      have a1 := fun (o : Obj) => (KA.out.alloc o).cell 1
      have a2 := fun (o : Obj) => (KA.out.alloc o).cell 2
      simp only [List.getElem?_toArray, List.getElem?_cons_zero, List.getElem?_cons_succ] at a0 a1 a2
      go_wp2
      go_ret
      exact ⟨by rw [HG.out]; (try rfl), below_alloc HB.out _⟩
    · have k1 : (k == 1) = false := by simpa using h1
      rw [if_neg h1] at hG
      by_cases h2 : k = 2
      · have k2 : (k == 2) = true := by simpa using h2
        have HG := Lib.hid (show G = true by rw [hG, if_pos h2]; rfl)
        clear hG h1 h2
        go_enter Tryz.func80, Tryz.ntmps80
        have KA := Lib.hid (blk_new1 w 68 #[.int .i64 k, .string (bs n), .string (bs v)])
        have HB := Lib.hid (below_alloc (Below.refl w.heap.size w) (.cells #[.int .i64 k, .string (bs n), .string (bs v)] 68))
        have a0 := KA.out.cell 0
        have a1 := KA.out.cell 1
        have a2 := KA.out.cell 2
        simp only [List.getElem?_toArray, List.getElem?_cons_zero, List.getElem?_cons_succ] at a0 a1 a2
        go_wp2_with fail
        clear a0 a1 a2
        have HQ := Lib.hid (qfind_no A c t.length t n rfl HF.out (w.alloc (.cells #[.int .i64 k, .string (bs n), .string (bs v)] 68)) (HT.out.kept (Kept.of_below HB.out)))
        refine HQ.out.mono ?_
        rintro e w1 ⟨rfl, hb1⟩
        clear HQ
        have KA := Lib.hid (KA.out.next hb1)
        have HB := Lib.hid (below_next HB.out hb1)
        clear hb1
        have a0 := fun (o : Obj) => (KA.out.alloc o).cell 0
        have a1 := fun (o : Obj) => (KA.out.alloc o).cell 1
        have a2 := fun (o : Obj) => (KA.out.alloc o).cell 2
        simp only [List.getElem?_toArray, List.getElem?_cons_zero, List.getElem?_cons_succ] at a0 a1 a2
        go_wp2
        go_ret
        exact ⟨by rw [HG.out]; (try rfl), below_alloc HB.out _⟩
      · have k2 : (k == 2) = false := by simpa using h2
        rw [if_neg h2] at hG
        by_cases h5 : k = 5
        · have k5 : (k == 5) = true := by simpa using h5
          have HG := Lib.hid (show G = s.any (nameE n) by rw [hG, if_pos h5])
          clear hG h1 h2 h5
          go_enter Tryz.func80, Tryz.ntmps80
          have KA := Lib.hid (blk_new1 w 68 #[.int .i64 k, .string (bs n), .string (bs v)])
          have HB := Lib.hid (below_alloc (Below.refl w.heap.size w) (.cells #[.int .i64 k, .string (bs n), .string (bs v)] 68))
          have a0 := KA.out.cell 0
          have a1 := KA.out.cell 1
          have a2 := KA.out.cell 2
          simp only [List.getElem?_toArray, List.getElem?_cons_zero, List.getElem?_cons_succ] at a0 a1 a2
          go_wp2_with fail
          clear a0 a1 a2
          have HQ := Lib.hid (qfind_no A c t.length t n rfl HF.out (w.alloc (.cells #[.int .i64 k, .string (bs n), .string (bs v)] 68)) (HT.out.kept (Kept.of_below HB.out)))
          refine HQ.out.mono ?_
          rintro e w1 ⟨rfl, hb1⟩
          clear HQ
          have KA := Lib.hid (KA.out.next hb1)
          have HB := Lib.hid (below_next HB.out hb1)
          clear hb1
          have a0 := fun (o : Obj) => (KA.out.alloc o).cell 0
          have a1 := fun (o : Obj) => (KA.out.alloc o).cell 1
          have a2 := fun (o : Obj) => (KA.out.alloc o).cell 2
          simp only [List.getElem?_toArray, List.getElem?_cons_zero, List.getElem?_cons_succ] at a0 a1 a2
          go_wp2_with fail
          have HBB := Lib.hid (below_alloc HB.out (.cells #[.string (bs []), .string (bs []), .slice none 0 0, .slice none 0 0, .slice none 0 0, .slice none 0 0, .slice none 0 0, .slice none 0 0, .bool false] 43))
          have HQ := Lib.hid (sfind_any A2 c2 s n (w1.alloc (.cells #[.string (bs []), .string (bs []), .slice none 0 0, .slice none 0 0, .slice none 0 0, .slice none 0 0, .slice none 0 0, .slice none 0 0, .bool false] 43)) (HS.out.kept (Kept.of_below HBB.out)))
          refine HQ.out.mono ?_
          rintro e w2 ⟨rfl, hb2⟩
          rw [← HG.out]
          have HB := Lib.hid (below_next HBB.out hb2)
          clear hb2 HQ
          go_wp2
          go_ret
          exact ⟨rfl, HB.out⟩
        · have k5 : (k == 5) = false := by simpa using h5
          have HG := Lib.hid (show G = true by rw [hG, if_neg h5])
          clear hG h1 h2 h5
          go_enter Tryz.func80, Tryz.ntmps80
          have KA := Lib.hid (blk_new1 w 68 #[.int .i64 k, .string (bs n), .string (bs v)])
          have HB := Lib.hid (below_alloc (Below.refl w.heap.size w) (.cells #[.int .i64 k, .string (bs n), .string (bs v)] 68))
          have a0 := KA.out.cell 0
          have a1 := KA.out.cell 1
          have a2 := KA.out.cell 2
          simp only [List.getElem?_toArray, List.getElem?_cons_zero, List.getElem?_cons_succ] at a0 a1 a2
          go_wp2_with fail
          clear a0 a1 a2
          have HQ := Lib.hid (qfind_no A c t.length t n rfl HF.out (w.alloc (.cells #[.int .i64 k, .string (bs n), .string (bs v)] 68)) (HT.out.kept (Kept.of_below HB.out)))
          refine HQ.out.mono ?_
          rintro e w1 ⟨rfl, hb1⟩
          clear HQ
          have KA := Lib.hid (KA.out.next hb1)
          have HB := Lib.hid (below_next HB.out hb1)
          clear hb1
          have a0 := fun (o : Obj) => (KA.out.alloc o).cell 0
          have a1 := fun (o : Obj) => (KA.out.alloc o).cell 1
          have a2 := fun (o : Obj) => (KA.out.alloc o).cell 2
          simp only [List.getElem?_toArray, List.getElem?_cons_zero, List.getElem?_cons_succ] at a0 a1 a2
          go_wp2
          go_ret
          exact ⟨by rw [HG.out]; (try rfl), below_alloc HB.out _⟩
  · have HF := Lib.hid hf
    rw [hf] at hG
    clear hf
    by_cases h1 : k = 1
    · have k1 : (k == 1) = true := by simpa using h1
      rw [if_pos h1] at hG
      by_cases hv : v = []
      · have hvb : v.isEmpty = true := by simpa using hv
        have HG := Lib.hid (show G = true by rw [hG]; simp [hv])
        clear hG h1 hv
        go_enter Tryz.func80, Tryz.ntmps80
        have KA := Lib.hid (blk_new1 w 68 #[.int .i64 k, .string (bs n), .string (bs v)])
        have HB := Lib.hid (below_alloc (Below.refl w.heap.size w) (.cells #[.int .i64 k, .string (bs n), .string (bs v)] 68))
        have a0 := KA.out.cell 0
        have a1 := KA.out.cell 1
        have a2 := KA.out.cell 2
        simp only [List.getElem?_toArray, List.getElem?_cons_zero, List.getElem?_cons_succ] at a0 a1 a2
        go_wp2_with fail
        clear a0 a1 a2
        have HQ := Lib.hid (qfind_yes A c t.length t n p rfl HF.out (w.alloc (.cells #[.int .i64 k, .string (bs n), .string (bs v)] 68)) (HT.out.kept (Kept.of_below HB.out)))
        refine HQ.out.mono ?_
        rintro e w1 ⟨⟨r, hr, rfl⟩, hb1⟩
        clear HQ hr
        have KA := Lib.hid (KA.out.next hb1)
        have HB := Lib.hid (below_next HB.out hb1)
        clear hb1
        have a0 := fun (o : Obj) => (KA.out.alloc o).cell 0
        have a1 := fun (o : Obj) => (KA.out.alloc o).cell 1
        have a2 := fun (o : Obj) => (KA.out.alloc o).cell 2
        simp only [List.getElem?_toArray, List.getElem?_cons_zero, List.getElem?_cons_succ] at a0 a1 a2
        go_wp2
        go_ret
        exact ⟨by rw [HG.out]; (try rfl), below_alloc HB.out _⟩
      · have hvb : v.isEmpty = false := by simpa using hv
        have HG := Lib.hid (show G = sameV p.ver v by rw [hG]; simp [hvb])
        clear hG h1 hv
        go_enter Tryz.func80, Tryz.ntmps80
        have KA := Lib.hid (blk_new1 w 68 #[.int .i64 k, .string (bs n), .string (bs v)])
        have HB := Lib.hid (below_alloc (Below.refl w.heap.size w) (.cells #[.int .i64 k, .string (bs n), .string (bs v)] 68))
        have a0 := KA.out.cell 0
        have a1 := KA.out.cell 1
        have a2 := KA.out.cell 2
        simp only [List.getElem?_toArray, List.getElem?_cons_zero, List.getElem?_cons_succ] at a0 a1 a2
        go_wp2_with fail
        clear a0 a1 a2
        have HQ := Lib.hid (qfind_yes A c t.length t n p rfl HF.out (w.alloc (.cells #[.int .i64 k, .string (bs n), .string (bs v)] 68)) (HT.out.kept (Kept.of_below HB.out)))
        refine HQ.out.mono ?_
        rintro e w1 ⟨⟨r, hr, rfl⟩, hb1⟩
        clear HQ hr
        have KA := Lib.hid (KA.out.next hb1)
        have HB := Lib.hid (below_next HB.out hb1)
        clear hb1
        have a0 := fun (o : Obj) => (KA.out.alloc o).cell 0
        have a1 := fun (o : Obj) => (KA.out.alloc o).cell 1
        have a2 := fun (o : Obj) => (KA.out.alloc o).cell 2
        simp only [List.getElem?_toArray, List.getElem?_cons_zero, List.getElem?_cons_succ] at a0 a1 a2
        go_wp2_with fail
        have HBB := Lib.hid (below_alloc HB.out (.cells #[.string (bs (p).name), .string (bs (p).ver), .slice (r).a1 (p).pre.length (r).c1, .slice (r).a2 (p).dep.length (r).c2, .slice (r).a3 (p).rcm.length (r).c3, .slice (r).a4 (p).con.length (r).c4, .slice (r).a5 (p).brk.length (r).c5, .slice (r).a6 (p).prv.length (r).c6, .bool (p).ess] 43))
        refine (Same_any p.ver v _).mono ?_
        rintro e w2 ⟨rfl, hb2⟩
        rw [← HG.out]
        have HB := Lib.hid (below_next HBB.out hb2)
        clear hb2
        go_wp2
        go_ret
        exact ⟨rfl, HB.out⟩
    · have k1 : (k == 1) = false := by simpa using h1
      rw [if_neg h1] at hG
      by_cases h2 : k = 2
      · have k2 : (k == 2) = true := by simpa using h2
        have HG := Lib.hid (show G = false by rw [hG, if_pos h2]; rfl)
        clear hG h1 h2
        go_enter Tryz.func80, Tryz.ntmps80
        have KA := Lib.hid (blk_new1 w 68 #[.int .i64 k, .string (bs n), .string (bs v)])
        have HB := Lib.hid (below_alloc (Below.refl w.heap.size w) (.cells #[.int .i64 k, .string (bs n), .string (bs v)] 68))
        have a0 := KA.out.cell 0
        have a1 := KA.out.cell 1
        have a2 := KA.out.cell 2
        simp only [List.getElem?_toArray, List.getElem?_cons_zero, List.getElem?_cons_succ] at a0 a1 a2
        go_wp2_with fail
        clear a0 a1 a2
        have HQ := Lib.hid (qfind_yes A c t.length t n p rfl HF.out (w.alloc (.cells #[.int .i64 k, .string (bs n), .string (bs v)] 68)) (HT.out.kept (Kept.of_below HB.out)))
        refine HQ.out.mono ?_
        rintro e w1 ⟨⟨r, hr, rfl⟩, hb1⟩
        clear HQ hr
        have KA := Lib.hid (KA.out.next hb1)
        have HB := Lib.hid (below_next HB.out hb1)
        clear hb1
        have a0 := fun (o : Obj) => (KA.out.alloc o).cell 0
        have a1 := fun (o : Obj) => (KA.out.alloc o).cell 1
        have a2 := fun (o : Obj) => (KA.out.alloc o).cell 2
        simp only [List.getElem?_toArray, List.getElem?_cons_zero, List.getElem?_cons_succ] at a0 a1 a2
        go_wp2
        go_ret
        exact ⟨by rw [HG.out]; (try rfl), below_alloc HB.out _⟩
      · have k2 : (k == 2) = false := by simpa using h2
        rw [if_neg h2] at hG
        by_cases h5 : k = 5
        · have k5 : (k == 5) = true := by simpa using h5
          have HG := Lib.hid (show G = s.any (nameE n) by rw [hG, if_pos h5])
          clear hG h1 h2 h5
          go_enter Tryz.func80, Tryz.ntmps80
          have KA := Lib.hid (blk_new1 w 68 #[.int .i64 k, .string (bs n), .string (bs v)])
          have HB := Lib.hid (below_alloc (Below.refl w.heap.size w) (.cells #[.int .i64 k, .string (bs n), .string (bs v)] 68))
          have a0 := KA.out.cell 0
          have a1 := KA.out.cell 1
          have a2 := KA.out.cell 2
          simp only [List.getElem?_toArray, List.getElem?_cons_zero, List.getElem?_cons_succ] at a0 a1 a2
          go_wp2_with fail
          clear a0 a1 a2
          have HQ := Lib.hid (qfind_yes A c t.length t n p rfl HF.out (w.alloc (.cells #[.int .i64 k, .string (bs n), .string (bs v)] 68)) (HT.out.kept (Kept.of_below HB.out)))
          refine HQ.out.mono ?_
          rintro e w1 ⟨⟨r, hr, rfl⟩, hb1⟩
          clear HQ hr
          have KA := Lib.hid (KA.out.next hb1)
          have HB := Lib.hid (below_next HB.out hb1)
          clear hb1
          have a0 := fun (o : Obj) => (KA.out.alloc o).cell 0
          have a1 := fun (o : Obj) => (KA.out.alloc o).cell 1
          have a2 := fun (o : Obj) => (KA.out.alloc o).cell 2
          simp only [List.getElem?_toArray, List.getElem?_cons_zero, List.getElem?_cons_succ] at a0 a1 a2
          go_wp2_with fail
          have HBB := Lib.hid (below_alloc HB.out (.cells #[.string (bs (p).name), .string (bs (p).ver), .slice (r).a1 (p).pre.length (r).c1, .slice (r).a2 (p).dep.length (r).c2, .slice (r).a3 (p).rcm.length (r).c3, .slice (r).a4 (p).con.length (r).c4, .slice (r).a5 (p).brk.length (r).c5, .slice (r).a6 (p).prv.length (r).c6, .bool (p).ess] 43))
          have HQ := Lib.hid (sfind_any A2 c2 s n (w1.alloc (.cells #[.string (bs (p).name), .string (bs (p).ver), .slice (r).a1 (p).pre.length (r).c1, .slice (r).a2 (p).dep.length (r).c2, .slice (r).a3 (p).rcm.length (r).c3, .slice (r).a4 (p).con.length (r).c4, .slice (r).a5 (p).brk.length (r).c5, .slice (r).a6 (p).prv.length (r).c6, .bool (p).ess] 43)) (HS.out.kept (Kept.of_below HBB.out)))
          refine HQ.out.mono ?_
          rintro e w2 ⟨rfl, hb2⟩
          rw [← HG.out]
          have HB := Lib.hid (below_next HBB.out hb2)
          clear hb2 HQ
          go_wp2
          go_ret
          exact ⟨rfl, HB.out⟩
        · have k5 : (k == 5) = false := by simpa using h5
          have HG := Lib.hid (show G = true by rw [hG, if_neg h5])
          clear hG h1 h2 h5
          go_enter Tryz.func80, Tryz.ntmps80
          have KA := Lib.hid (blk_new1 w 68 #[.int .i64 k, .string (bs n), .string (bs v)])
          have HB := Lib.hid (below_alloc (Below.refl w.heap.size w) (.cells #[.int .i64 k, .string (bs n), .string (bs v)] 68))
          have a0 := KA.out.cell 0
          have a1 := KA.out.cell 1
          have a2 := KA.out.cell 2
          simp only [List.getElem?_toArray, List.getElem?_cons_zero, List.getElem?_cons_succ] at a0 a1 a2
          go_wp2_with fail
          clear a0 a1 a2
          have HQ := Lib.hid (qfind_yes A c t.length t n p rfl HF.out (w.alloc (.cells #[.int .i64 k, .string (bs n), .string (bs v)] 68)) (HT.out.kept (Kept.of_below HB.out)))
          refine HQ.out.mono ?_
          rintro e w1 ⟨⟨r, hr, rfl⟩, hb1⟩
          clear HQ hr
          have KA := Lib.hid (KA.out.next hb1)
          have HB := Lib.hid (below_next HB.out hb1)
          clear hb1
          have a0 := fun (o : Obj) => (KA.out.alloc o).cell 0
          have a1 := fun (o : Obj) => (KA.out.alloc o).cell 1
          have a2 := fun (o : Obj) => (KA.out.alloc o).cell 2
          simp only [List.getElem?_toArray, List.getElem?_cons_zero, List.getElem?_cons_succ] at a0 a1 a2
          go_wp2
          go_ret
          exact ⟨by rw [HG.out]; (try rfl), below_alloc HB.out _⟩
def stayQ (l : List Stp) (t : List Pkg) (x : Ent) (held : Bool) : Bool :=
  match t.find? (pnB x.pkg.name) with
  | none => !held && !x.pkg.ess
  | some p => if held && !sameV p.ver x.pkg.ver then false else decide (0 ≤ (cmpV p.ver x.pkg.ver).1) || l.any (namB exactQ p.name)
set_option maxRecDepth 100000 in
set_option maxHeartbeats 1000000 in
theorem stays_any (l : List Stp) (A : Option Addr) (c : Nat) (t : List Pkg) (A2 : Option Addr) (c2 : Nat) (x : Ent) (rx : Raw) (held : Bool) (w : World) (hl : Stps w A c l) (ht : Pkgs w A2 c2 t) :
    Calls Tryz.prog 81 #[.slice A l.length c, .slice A2 t.length c2, (.agg #[.string (bs (x).pkg.name), .string (bs (x).pkg.ver), .slice (rx).a1 (x).pkg.pre.length (rx).c1, .slice (rx).a2 (x).pkg.dep.length (rx).c2, .slice (rx).a3 (x).pkg.rcm.length (rx).c3, .slice (rx).a4 (x).pkg.con.length (rx).c4, .slice (rx).a5 (x).pkg.brk.length (rx).c5, .slice (rx).a6 (x).pkg.prv.length (rx).c6, .bool (x).pkg.ess, .bool (x).conf, .bool (x).hold]), .bool held] w fun e w' => e = .returned (.bool (stayQ l t x held)) ∧ Below w.heap.size w w' := by
  have HL := Lib.hid hl
  have HT := Lib.hid ht
  clear hl ht
  obtain ⟨G, hG⟩ : ∃ G, G = stayQ l t x held := ⟨_, rfl⟩
  rw [← hG]
  unfold stayQ at hG
  rcases hf : t.find? (pnB x.pkg.name) with _ | p
  · have HF := Lib.hid hf
    rw [hf] at hG
    have HG := Lib.hid hG
    clear hf hG
    go_enter Tryz.func81, Tryz.ntmps81
    have KX := Lib.hid (blk_new1 w 45 #[.string (bs (x).pkg.name), .string (bs (x).pkg.ver), .slice (rx).a1 (x).pkg.pre.length (rx).c1, .slice (rx).a2 (x).pkg.dep.length (rx).c2, .slice (rx).a3 (x).pkg.rcm.length (rx).c3, .slice (rx).a4 (x).pkg.con.length (rx).c4, .slice (rx).a5 (x).pkg.brk.length (rx).c5, .slice (rx).a6 (x).pkg.prv.length (rx).c6, .bool (x).pkg.ess, .bool (x).conf, .bool (x).hold])
    have HB := Lib.hid (below_alloc (Below.refl w.heap.size w) (.cells #[.string (bs (x).pkg.name), .string (bs (x).pkg.ver), .slice (rx).a1 (x).pkg.pre.length (rx).c1, .slice (rx).a2 (x).pkg.dep.length (rx).c2, .slice (rx).a3 (x).pkg.rcm.length (rx).c3, .slice (rx).a4 (x).pkg.con.length (rx).c4, .slice (rx).a5 (x).pkg.brk.length (rx).c5, .slice (rx).a6 (x).pkg.prv.length (rx).c6, .bool (x).pkg.ess, .bool (x).conf, .bool (x).hold] 45))
    obtain ⟨e0, e1, e2, e3, e4, e5, e6, e7, e8, e9, e10⟩ := blk11 KX.out
    clear e1 e2 e3 e4 e5 e6 e7 e8 e9 e10
    go_wp2_with fail
    clear e0
    have HQ := Lib.hid (qfind_no A2 c2 t.length t x.pkg.name rfl HF.out (w.alloc (.cells #[.string (bs (x).pkg.name), .string (bs (x).pkg.ver), .slice (rx).a1 (x).pkg.pre.length (rx).c1, .slice (rx).a2 (x).pkg.dep.length (rx).c2, .slice (rx).a3 (x).pkg.rcm.length (rx).c3, .slice (rx).a4 (x).pkg.con.length (rx).c4, .slice (rx).a5 (x).pkg.brk.length (rx).c5, .slice (rx).a6 (x).pkg.prv.length (rx).c6, .bool (x).pkg.ess, .bool (x).conf, .bool (x).hold] 45)) (HT.out.kept (Kept.of_below HB.out)))
    refine HQ.out.mono ?_
    rintro e w1 ⟨rfl, hb1⟩
    clear HQ
    have KX := Lib.hid (KX.out.next hb1)
    have HB := Lib.hid (below_next HB.out hb1)
    clear hb1
    have x1 := fun (o : Obj) => (KX.out.alloc o).cell 1
    have x8 := fun (o : Obj) => (KX.out.alloc o).cell 8
    simp only [List.getElem?_toArray, List.getElem?_cons_zero, List.getElem?_cons_succ] at x1 x8
    rcases held with _ | _
    · go_wp2
      go_ret
      exact ⟨by rw [HG.out]; simp, below_alloc HB.out _⟩
    · go_wp2
      go_ret
      exact ⟨by rw [HG.out]; simp, below_alloc HB.out _⟩
  · have HF := Lib.hid hf
    rw [hf] at hG
    have HG := Lib.hid hG
    clear hf hG
    go_enter Tryz.func81, Tryz.ntmps81
    have KX := Lib.hid (blk_new1 w 45 #[.string (bs (x).pkg.name), .string (bs (x).pkg.ver), .slice (rx).a1 (x).pkg.pre.length (rx).c1, .slice (rx).a2 (x).pkg.dep.length (rx).c2, .slice (rx).a3 (x).pkg.rcm.length (rx).c3, .slice (rx).a4 (x).pkg.con.length (rx).c4, .slice (rx).a5 (x).pkg.brk.length (rx).c5, .slice (rx).a6 (x).pkg.prv.length (rx).c6, .bool (x).pkg.ess, .bool (x).conf, .bool (x).hold])
    have HB := Lib.hid (below_alloc (Below.refl w.heap.size w) (.cells #[.string (bs (x).pkg.name), .string (bs (x).pkg.ver), .slice (rx).a1 (x).pkg.pre.length (rx).c1, .slice (rx).a2 (x).pkg.dep.length (rx).c2, .slice (rx).a3 (x).pkg.rcm.length (rx).c3, .slice (rx).a4 (x).pkg.con.length (rx).c4, .slice (rx).a5 (x).pkg.brk.length (rx).c5, .slice (rx).a6 (x).pkg.prv.length (rx).c6, .bool (x).pkg.ess, .bool (x).conf, .bool (x).hold] 45))
    obtain ⟨e0, e1, e2, e3, e4, e5, e6, e7, e8, e9, e10⟩ := blk11 KX.out
    clear e1 e2 e3 e4 e5 e6 e7 e8 e9 e10
    go_wp2_with fail
    clear e0
    have HQ := Lib.hid (qfind_yes A2 c2 t.length t x.pkg.name p rfl HF.out (w.alloc (.cells #[.string (bs (x).pkg.name), .string (bs (x).pkg.ver), .slice (rx).a1 (x).pkg.pre.length (rx).c1, .slice (rx).a2 (x).pkg.dep.length (rx).c2, .slice (rx).a3 (x).pkg.rcm.length (rx).c3, .slice (rx).a4 (x).pkg.con.length (rx).c4, .slice (rx).a5 (x).pkg.brk.length (rx).c5, .slice (rx).a6 (x).pkg.prv.length (rx).c6, .bool (x).pkg.ess, .bool (x).conf, .bool (x).hold] 45)) (HT.out.kept (Kept.of_below HB.out)))
    refine HQ.out.mono ?_
    rintro e w1 ⟨⟨r, hr, rfl⟩, hb1⟩
    clear HQ hr
    have KX := Lib.hid (KX.out.next hb1)
    have HB := Lib.hid (below_next HB.out hb1)
    clear hb1
    have x1 := fun (o : Obj) => (KX.out.alloc o).cell 1
    have x8 := fun (o : Obj) => (KX.out.alloc o).cell 8
    simp only [List.getElem?_toArray, List.getElem?_cons_zero, List.getElem?_cons_succ] at x1 x8
    have KP := Lib.hid (blk_new1 w1 43 #[.string (bs (p).name), .string (bs (p).ver), .slice (r).a1 (p).pre.length (r).c1, .slice (r).a2 (p).dep.length (r).c2, .slice (r).a3 (p).rcm.length (r).c3, .slice (r).a4 (p).con.length (r).c4, .slice (r).a5 (p).brk.length (r).c5, .slice (r).a6 (p).prv.length (r).c6, .bool (p).ess])
    have HB := Lib.hid (below_alloc HB.out (.cells #[.string (bs (p).name), .string (bs (p).ver), .slice (r).a1 (p).pre.length (r).c1, .slice (r).a2 (p).dep.length (r).c2, .slice (r).a3 (p).rcm.length (r).c3, .slice (r).a4 (p).con.length (r).c4, .slice (r).a5 (p).brk.length (r).c5, .slice (r).a6 (p).prv.length (r).c6, .bool (p).ess] 43))
    have KX := Lib.hid (KX.out.alloc (.cells #[.string (bs (p).name), .string (bs (p).ver), .slice (r).a1 (p).pre.length (r).c1, .slice (r).a2 (p).dep.length (r).c2, .slice (r).a3 (p).rcm.length (r).c3, .slice (r).a4 (p).con.length (r).c4, .slice (r).a5 (p).brk.length (r).c5, .slice (r).a6 (p).prv.length (r).c6, .bool (p).ess] 43))
    rcases held with _ | _
    · have HG := Lib.hid (show G = (decide (0 ≤ (cmpV p.ver x.pkg.ver).1) || l.any (namB exactQ p.name)) from HG.out)
      go_wp2_with fail
      have HQ := Lib.hid (Compare_any p.ver x.pkg.ver (w1.alloc (.cells #[.string (bs (p).name), .string (bs (p).ver), .slice (r).a1 (p).pre.length (r).c1, .slice (r).a2 (p).dep.length (r).c2, .slice (r).a3 (p).rcm.length (r).c3, .slice (r).a4 (p).con.length (r).c4, .slice (r).a5 (p).brk.length (r).c5, .slice (r).a6 (p).prv.length (r).c6, .bool (p).ess] 43)))
      refine HQ.out.mono ?_
      rintro e w4 ⟨rfl, hb4⟩
      have HB := Lib.hid (below_next HB.out hb4)
      have KP := Lib.hid (KP.out.next hb4)
      clear hb4 HQ
      obtain ⟨p0, p1, p2, p3, p4, p5, p6, p7, p8⟩ := blk9 KP.out
      clear p1 p2 p3 p4 p5 p6 p7 p8
      by_cases hc : 0 ≤ (cmpV p.ver x.pkg.ver).1
      · have hcb : decide (0 ≤ (cmpV p.ver x.pkg.ver).1) = true := decide_eq_true hc
        have HG := Lib.hid (show G = true by rw [HG.out, hcb]; rfl)
        clear hc
        go_wp2
        go_ret
        exact ⟨by rw [HG.out]; (try rfl), HB.out⟩
      · have hcb : decide (0 ≤ (cmpV p.ver x.pkg.ver).1) = false := decide_eq_false hc
        have HG := Lib.hid (show G = l.any (namB exactQ p.name) by rw [HG.out, hcb]; rfl)
        clear hc
        go_wp2_with fail
        have HQ := Lib.hid (named_exact l A c p.name w4 (HL.out.kept (Kept.of_below HB.out)))
        refine HQ.out.mono ?_
        rintro e w5 ⟨rfl, hb5⟩
        rw [← HG.out]
        have HB := Lib.hid (below_next HB.out hb5)
        clear hb5 HQ
        go_wp2
        go_ret
        exact ⟨rfl, HB.out⟩
    · go_wp2_with fail
      refine (Same_any p.ver x.pkg.ver _).mono ?_
      rintro e w3 ⟨rfl, hb3⟩
      have HB := Lib.hid (below_next HB.out hb3)
      have KP := Lib.hid (KP.out.next hb3)
      have KX := Lib.hid (KX.out.next hb3)
      clear hb3 x1 x8
      rcases hsv : sameV p.ver x.pkg.ver
      · have HG := Lib.hid (show G = false by rw [HG.out, hsv]; rfl)
        clear hsv
        go_wp2
        go_ret
        exact ⟨by rw [HG.out]; (try rfl), HB.out⟩
      · have HG := Lib.hid (show G = (decide (0 ≤ (cmpV p.ver x.pkg.ver).1) || l.any (namB exactQ p.name)) by rw [HG.out, hsv]; rfl)
        clear hsv
        obtain ⟨p0, p1, p2, p3, p4, p5, p6, p7, p8⟩ := blk9 KP.out
        obtain ⟨e0, e1, e2, e3, e4, e5, e6, e7, e8, e9, e10⟩ := blk11 KX.out
        clear p0 p2 p3 p4 p5 p6 p7 p8 e0 e2 e3 e4 e5 e6 e7 e8 e9 e10
        go_wp2_with fail
        have HQ := Lib.hid (Compare_any p.ver x.pkg.ver w3)
        refine HQ.out.mono ?_
        rintro e w4 ⟨rfl, hb4⟩
        have HB := Lib.hid (below_next HB.out hb4)
        have KP := Lib.hid (KP.out.next hb4)
        clear hb4 HQ
        obtain ⟨p0, p1, p2, p3, p4, p5, p6, p7, p8⟩ := blk9 KP.out
        clear p1 p2 p3 p4 p5 p6 p7 p8
        by_cases hc : 0 ≤ (cmpV p.ver x.pkg.ver).1
        · have hcb : decide (0 ≤ (cmpV p.ver x.pkg.ver).1) = true := decide_eq_true hc
          have HG := Lib.hid (show G = true by rw [HG.out, hcb]; rfl)
          clear hc
          go_wp2
          go_ret
          exact ⟨by rw [HG.out]; (try rfl), HB.out⟩
        · have hcb : decide (0 ≤ (cmpV p.ver x.pkg.ver).1) = false := decide_eq_false hc
          have HG := Lib.hid (show G = l.any (namB exactQ p.name) by rw [HG.out, hcb]; rfl)
          clear hc
          go_wp2_with fail
          have HQ := Lib.hid (named_exact l A c p.name w4 (HL.out.kept (Kept.of_below HB.out)))
          refine HQ.out.mono ?_
          rintro e w5 ⟨rfl, hb5⟩
          rw [← HG.out]
          have HB := Lib.hid (below_next HB.out hb5)
          clear hb5 HQ
          go_wp2
          go_ret
          exact ⟨rfl, HB.out⟩
end Go.Proofs.YtaicidbopgnmfaaGreatDoor
namespace Go.Proofs.YtaicidbopgnmfaaGreatDoor
set_option linter.unusedSimpArgs false
set_option linter.unusedVariables false
open Go.RowKit
attribute [local go_sem ↓] Go.wp_at_zero Go.wp_at_succ
theorem rke_oneQ {w : World} : ∀ cs y, RKE (RZE w) cs y → ∀ u ∈ cs, u.oneCell' = true := fun cs y ⟨r, h, _⟩ u hu => by
  subst h
  exact encE_one r y u hu
def RetOE (w : World) (l : List Ent) (e : Ending) (w' : World) : Prop := ∃ v, e = .returned v ∧ Own w' w.heap.size 45 11 (RKE (RZE w')) v l ∧ Below w.heap.size w w'
set_option maxRecDepth 100000 in
set_option maxHeartbeats 1000000 in
theorem copied_any (s : List Ent) (A : Option Addr) (c : Nat) (w : World) (hs : Ents w A c s) (hx : ∀ x ∈ s, fewD x.pkg) (hsl : s.length ≤ 1000) :
    Calls Tryz.prog 86 #[.slice A s.length c] w (RetOE w s) := by
  have HS := Lib.hid hs
  have HX := Lib.hid hx
  have hbs := hs.bd
  clear hs hx
  go_enter Tryz.func86, Tryz.ntmps86
  go_wp2
  go_loopw [3, 8] (fun ov i wr => ∃ k : Nat, k ≤ s.length ∧ i = .int .i64 k ∧ Own wr w.heap.size 45 11 (RKE (RZE wr)) ov (s.take k) ∧ Below w.heap.size w wr) (fun _ i _ => s.length - (intOf i).toNat)
  case atStart => exact ⟨0, Nat.zero_le _, rfl, Own.nil_ _ _ _ _ _, Below.refl _ _⟩
  case round =>
    obtain ⟨k, hk, rfl, ho, hb⟩ := hrel
    have HO := Lib.hid ho
    have HB := Lib.hid hb
    clear ho hb
    by_cases hlt : k < s.length
    · obtain ⟨q, b, o, r, hq, rfl, hr, e0, e1, e2, e3, e4, e5, e6, e7, e8, e9, e10⟩ := HS.out.at_ hlt (Kept.of_below HB.out)
      have HQ := Lib.hid hq
      have HR1 := Lib.hid hr
      have HFq := Lib.hid (HX.out q (List.mem_of_getElem? hq)).1
      have HSk := Lib.hid (show (s.take k).length = k by simp; omega)
      clear hq hr
      go_wp2_with fail
      clear e0 e1 e2 e3 e4 e5 e6 e7 e8 e9 e10
      have HO2 := Lib.hid (ne_alloc (ne_alloc HO.out (.cells #[.string (bs (q).pkg.name), .string (bs (q).pkg.ver), .slice (r).a1 (q).pkg.pre.length (r).c1, .slice (r).a2 (q).pkg.dep.length (r).c2, .slice (r).a3 (q).pkg.rcm.length (r).c3, .slice (r).a4 (q).pkg.con.length (r).c4, .slice (r).a5 (q).pkg.brk.length (r).c5, .slice (r).a6 (q).pkg.prv.length (r).c6, .bool (q).pkg.ess, .bool (q).conf, .bool (q).hold] 45)) (.cells #[.string (bs (q).pkg.name), .string (bs (q).pkg.ver), .slice (r).a1 (q).pkg.pre.length (r).c1, .slice (r).a2 (q).pkg.dep.length (r).c2, .slice (r).a3 (q).pkg.rcm.length (r).c3, .slice (r).a4 (q).pkg.con.length (r).c4, .slice (r).a5 (q).pkg.brk.length (r).c5, .slice (r).a6 (q).pkg.prv.length (r).c6, .bool (q).pkg.ess, .bool (q).conf, .bool (q).hold] 45))
      have HB2 := Lib.hid (below_alloc (below_alloc HB.out (.cells #[.string (bs (q).pkg.name), .string (bs (q).pkg.ver), .slice (r).a1 (q).pkg.pre.length (r).c1, .slice (r).a2 (q).pkg.dep.length (r).c2, .slice (r).a3 (q).pkg.rcm.length (r).c3, .slice (r).a4 (q).pkg.con.length (r).c4, .slice (r).a5 (q).pkg.brk.length (r).c5, .slice (r).a6 (q).pkg.prv.length (r).c6, .bool (q).pkg.ess, .bool (q).conf, .bool (q).hold] 45)) (.cells #[.string (bs (q).pkg.name), .string (bs (q).pkg.ver), .slice (r).a1 (q).pkg.pre.length (r).c1, .slice (r).a2 (q).pkg.dep.length (r).c2, .slice (r).a3 (q).pkg.rcm.length (r).c3, .slice (r).a4 (q).pkg.con.length (r).c4, .slice (r).a5 (q).pkg.brk.length (r).c5, .slice (r).a6 (q).pkg.prv.length (r).c6, .bool (q).pkg.ess, .bool (q).conf, .bool (q).hold] 45))
      have hE1 : Ents ((wr.alloc (.cells #[.string (bs (q).pkg.name), .string (bs (q).pkg.ver), .slice (r).a1 (q).pkg.pre.length (r).c1, .slice (r).a2 (q).pkg.dep.length (r).c2, .slice (r).a3 (q).pkg.rcm.length (r).c3, .slice (r).a4 (q).pkg.con.length (r).c4, .slice (r).a5 (q).pkg.brk.length (r).c5, .slice (r).a6 (q).pkg.prv.length (r).c6, .bool (q).pkg.ess, .bool (q).conf, .bool (q).hold] 45)).alloc (.cells #[.string (bs (q).pkg.name), .string (bs (q).pkg.ver), .slice (r).a1 (q).pkg.pre.length (r).c1, .slice (r).a2 (q).pkg.dep.length (r).c2, .slice (r).a3 (q).pkg.rcm.length (r).c3, .slice (r).a4 (q).pkg.con.length (r).c4, .slice (r).a5 (q).pkg.brk.length (r).c5, .slice (r).a6 (q).pkg.prv.length (r).c6, .bool (q).pkg.ess, .bool (q).conf, .bool (q).hold] 45)) (some ⟨wr.heap.size + 1, 0, none⟩) 1 [q] := ents_one (by simpa using blk_new1 (wr.alloc (.cells #[.string (bs (q).pkg.name), .string (bs (q).pkg.ver), .slice (r).a1 (q).pkg.pre.length (r).c1, .slice (r).a2 (q).pkg.dep.length (r).c2, .slice (r).a3 (q).pkg.rcm.length (r).c3, .slice (r).a4 (q).pkg.con.length (r).c4, .slice (r).a5 (q).pkg.brk.length (r).c5, .slice (r).a6 (q).pkg.prv.length (r).c6, .bool (q).pkg.ess, .bool (q).conf, .bool (q).hold] 45)) 45 #[.string (bs (q).pkg.name), .string (bs (q).pkg.ver), .slice (r).a1 (q).pkg.pre.length (r).c1, .slice (r).a2 (q).pkg.dep.length (r).c2, .slice (r).a3 (q).pkg.rcm.length (r).c3, .slice (r).a4 (q).pkg.con.length (r).c4, .slice (r).a5 (q).pkg.brk.length (r).c5, .slice (r).a6 (q).pkg.prv.length (r).c6, .bool (q).pkg.ess, .bool (q).conf, .bool (q).hold]) (HR1.out.kept (Kept.of_below HB2.out))
      have HSO := Lib.hid (sortedE_any (some ⟨wr.heap.size + 1, 0, none⟩) 1 [q] _ hE1 (fun x hx => by rw [List.mem_singleton.1 hx]; exact HFq.out) (by simp))
      clear hE1
      refine HSO.out.mono ?_
      rintro e w2 ⟨v, rfl, ho2, hb2⟩
      have HO3 := Lib.hid ((HO2.out.next hb2).mono (RKE.mono fun _ _ h => h.keep (KeepB.of_below hb2)))
      have HB3 := Lib.hid (below_next HB2.out hb2)
      obtain ⟨A4, c4, rfl, h4⟩ := ho2.slc (z := 192) (by show 1 * 192 ≤ _; decide)
      have HS4 := Lib.hid (show Slc w2 11 192 (RKE (RZE w2)) A4 c4 [q] from h4)
      clear h4 ho2 hb2 HSO HO2 HB2
      go_wp2_with (at_builtin; refine wpList_append_all (by rfl) _ _ 22 (by rfl) w.heap.size 45 _ 11 192 192 Tryz.underlying22 infEnS rfl (by omega) (RKE (RZE w2)) _ (s.take k) (by rfl) HO3.out A4 c4 [q] (by rfl) HS4.out rke_oneQ (by rw [HSk.out]; simp; omega) (by omega) HB3.out.size ?_; intro v3 w3 ho3 hg3)
      have hb4 := HO3.out.below HB3.out HB3.out.size hg3
      have hk4 := HO3.out.keep (T := fun t => TB t = true) hg3 (by decide)
      go_roundw
      case rel => exact ⟨k + 1, by omega, by simp, by rw [take_step HQ.out]; exact ho3.mono (RKE.mono fun _ _ h => RZE.keep h hk4), hb4⟩
      case measure => (try simp only [intOf]); omega
    · have ho := HO.out
      rw [take_end hk hlt] at ho
      have HO := Lib.hid ho
      clear ho
      go_wp2
      go_ret
      exact ⟨_, rfl, HO.out, HB.out⟩
def heldS (l : List Stp) (x : Ent) : Bool := if l.any (namB freeQ x.pkg.name) then false else if l.any (namB (kindQ 5) x.pkg.name) then true else x.hold
def heldX (l : List Stp) (x : Ent) : Ent := { x with hold := heldS l x }
def heldL (l : List Stp) (s : List Ent) : List Ent := s.map (heldX l)
theorem hold_rke {Z : Raw → Ent → Prop} (hZ : ∀ r x y, x.pkg = y.pkg → Z r x → Z r y) {x : Ent} {b : Bool} : ∀ cs, RKE Z cs x → RKE Z (cs.set 10 (.bool b)) { x with hold := b } := fun cs ⟨r, h, hz⟩ => by
  subst h
  exact ⟨r, rfl, hZ r x _ rfl hz⟩
def mixL (l : List Stp) (s : List Ent) (k : Nat) : List Ent := (s.take k).map (heldX l) ++ s.drop k
theorem mixL_len (l : List Stp) (s : List Ent) (k : Nat) : (mixL l s k).length = s.length := len_map s k
theorem mixL_at {l : List Stp} {s : List Ent} {k : Nat} {x : Ent} (h : s[k]? = some x) : (mixL l s k)[k]? = some x := get_map h
theorem mixL_set {l : List Stp} {s : List Ent} {k : Nat} {x : Ent} (h : s[k]? = some x) : (mixL l s k).set k (heldX l x) = mixL l s (k + 1) := set_map h
theorem mixL_same {l : List Stp} {s : List Ent} {k : Nat} {x : Ent} (h : s[k]? = some x) (hx : heldX l x = x) : mixL l s k = mixL l s (k + 1) := by
  rw [← mixL_set h, hx]
  apply List.ext_getElem?
  intro m
  rw [List.getElem?_set]
  split
  · rename_i hm
    subst hm
    have hk := (List.getElem?_eq_some_iff.1 (mixL_at (l := l) h)).1
    rw [if_pos hk, mixL_at h]
  · rfl
theorem heldX_f {l : List Stp} {x : Ent} (h : l.any (namB freeQ x.pkg.name) = true) : heldX l x = { x with hold := false } := by unfold heldX heldS; rw [h]; rfl
theorem heldX_t {l : List Stp} {x : Ent} (h : l.any (namB freeQ x.pkg.name) = false) (h2 : l.any (namB (kindQ 5) x.pkg.name) = true) : heldX l x = { x with hold := true } := by unfold heldX heldS; rw [h, h2]; rfl
theorem heldX_n {l : List Stp} {x : Ent} (h : l.any (namB freeQ x.pkg.name) = false) (h2 : l.any (namB (kindQ 5) x.pkg.name) = false) : heldX l x = x := by unfold heldX heldS; rw [h, h2]; rfl
def RetEs (w : World) (l : List Ent) (e : Ending) (w' : World) : Prop := ∃ B d, e = .returned (.slice B l.length d) ∧ Ents w' B d l ∧ Below w.heap.size w w'
set_option maxRecDepth 100000 in
set_option maxHeartbeats 2000000 in
theorem qheld_any (l : List Stp) (A : Option Addr) (c : Nat) (s : List Ent) (A2 : Option Addr) (c2 : Nat) (w : World) (hl : Stps w A c l) (hs : Ents w A2 c2 s) (hx : ∀ x ∈ s, fewD x.pkg) (hsl : s.length ≤ 1000) :
    Calls Tryz.prog 46 #[.slice A l.length c, .slice A2 s.length c2] w (RetEs w (heldL l s)) := by
  have HL := Lib.hid hl
  have HQ := Lib.hid (copied_any s A2 c2 w hs hx hsl)
  have hbl := Slc.bd hl
  clear hl hs hx
  obtain ⟨H, hH⟩ : ∃ H, H = heldL l s := ⟨_, rfl⟩
  rw [← hH]
  have HH := Lib.hid hH
  have hHl : H.length = s.length := by rw [hH]; exact List.length_map ..
  have HHL := Lib.hid hHl
  clear hH hHl
  go_enter Tryz.func46, Tryz.ntmps46
  go_wp2_with fail
  refine HQ.out.mono ?_
  rintro e w1 ⟨v, rfl, ho1, hb1⟩
  have HB1 := Lib.hid hb1
  clear hb1 HQ
  rcases own_form ho1 with ⟨rfl, hs0⟩ | ⟨g, cap, rfl⟩
  · have HN := Lib.hid (show H = [] by rw [HH.out, hs0]; rfl)
    clear ho1 hs0
    go_wp2
    refine wp_loop_rounds 1 ?_
    rw [rounds_succ]
    go_wp2
    go_ret
    exact ⟨none, 0, by rw [HN.out]; rfl, by rw [HN.out]; exact Slc.nil_ (Nat.zero_le _), HB1.out⟩
  · have HO1 := Lib.hid ho1
    have hbc := (ho1.slc (z := 1) (by omega))
    obtain ⟨n, hn⟩ : ∃ n, n = s.length := ⟨_, rfl⟩
    rw [← hn] at HO1 ⊢
    have HNN := Lib.hid hn
    have hn1 : n ≤ 1000 := by omega
    clear ho1 hbc
    go_wp2
    go_loopw [13] (fun i wr => ∃ k : Nat, k ≤ n ∧ i = .int .i64 k ∧ Own wr w.heap.size 45 11 (RKE (RZE wr)) (.slice (some ⟨g, 0, none⟩) n cap) (mixL l s k) ∧ Below w.heap.size w wr) (fun i _ => n - (intOf i).toNat)
    case atStart => exact ⟨0, Nat.zero_le _, rfl, HO1.out, HB1.out⟩
    case round =>
      clear HO1 HB1
      obtain ⟨k, hk, rfl, ho, hb⟩ := hrel
      have HO := Lib.hid ho
      have HB := Lib.hid hb
      have HML := Lib.hid ((mixL_len l s k).trans HNN.out.symm)
      clear hb
      by_cases hlt : k < n
      · obtain ⟨x, r, hxm, hz, e0, e1, e2, e3, e4, e5, e6, e7, e8, e9, e10⟩ := ho.atKE (i := k) (by rw [HML.out]; exact hlt) (by rw [HML.out]; omega)
        obtain ⟨y, hy⟩ : ∃ y, s[k]? = some y := ⟨_, List.getElem?_eq_getElem (by omega)⟩
        obtain rfl : y = x := Option.some.inj ((mixL_at hy).symm.trans hxm)
        have HXK := Lib.hid hy
        have HMA := Lib.hid hxm
        clear ho hxm hz hy
        go_wp2_with fail
        clear e0 e1 e2 e3 e4 e5 e6 e7 e8 e9 e10
        have HBA := Lib.hid (below_alloc HB.out (.cells #[.string (bs (y).pkg.name), .string (bs (y).pkg.ver), .slice (r).a1 (y).pkg.pre.length (r).c1, .slice (r).a2 (y).pkg.dep.length (r).c2, .slice (r).a3 (y).pkg.rcm.length (r).c3, .slice (r).a4 (y).pkg.con.length (r).c4, .slice (r).a5 (y).pkg.brk.length (r).c5, .slice (r).a6 (y).pkg.prv.length (r).c6, .bool (y).pkg.ess, .bool (y).conf, .bool (y).hold] 45))
        have HOA := Lib.hid (ne_alloc HO.out (.cells #[.string (bs (y).pkg.name), .string (bs (y).pkg.ver), .slice (r).a1 (y).pkg.pre.length (r).c1, .slice (r).a2 (y).pkg.dep.length (r).c2, .slice (r).a3 (y).pkg.rcm.length (r).c3, .slice (r).a4 (y).pkg.con.length (r).c4, .slice (r).a5 (y).pkg.brk.length (r).c5, .slice (r).a6 (y).pkg.prv.length (r).c6, .bool (y).pkg.ess, .bool (y).conf, .bool (y).hold] 45))
        have HQ := Lib.hid (named_frees l A c y.pkg.name (wr.alloc (.cells #[.string (bs (y).pkg.name), .string (bs (y).pkg.ver), .slice (r).a1 (y).pkg.pre.length (r).c1, .slice (r).a2 (y).pkg.dep.length (r).c2, .slice (r).a3 (y).pkg.rcm.length (r).c3, .slice (r).a4 (y).pkg.con.length (r).c4, .slice (r).a5 (y).pkg.brk.length (r).c5, .slice (r).a6 (y).pkg.prv.length (r).c6, .bool (y).pkg.ess, .bool (y).conf, .bool (y).hold] 45)) (HL.out.kept (Kept.of_below HBA.out)))
        refine HQ.out.mono ?_
        rintro e w3 ⟨rfl, hb3⟩
        have HB3 := Lib.hid (below_next HBA.out hb3)
        have HO3 := Lib.hid ((HOA.out.next hb3).mono (RKE.mono fun _ _ h => h.keep (KeepB.of_below hb3)))
        clear hb3 HQ HO HB HBA HOA
        rcases hfr : l.any (namB freeQ y.pkg.name)
        · have HFR := Lib.hid hfr
          clear hfr
          go_wp2_with fail
          have HK := Lib.hid (kindF_any 5 w3)
          refine HK.out.mono ?_
          rintro e w4 ⟨rfl, rfl⟩
          have HB4 := Lib.hid (below_alloc HB3.out (.cells #[.int .i64 5] 3))
          have HO4 := Lib.hid (ne_alloc HO3.out (.cells #[.int .i64 5] 3))
          go_wp2_with fail
          have HNM := Lib.hid (named_kind l A c y.pkg.name (w3.alloc (.cells #[.int .i64 5] 3)) (HL.out.kept (Kept.of_below HB4.out)) (blk_new1 w3 3 #[.int .i64 5]))
          refine HNM.out.mono ?_
          rintro e w5 ⟨rfl, hb5⟩
          have HB3 := Lib.hid (below_next HB4.out hb5)
          have HO3 := Lib.hid ((HO4.out.next hb5).mono (RKE.mono fun _ _ h => h.keep (KeepB.of_below hb5)))
          clear hb5 HNM HK HB4 HO4
          obtain ⟨w3, hw3⟩ : ∃ w3 : World, w3 = w5 := ⟨_, rfl⟩
          subst hw3
          rcases hk5 : l.any (namB (kindQ 5) y.pkg.name)
          · have HHX := Lib.hid (heldX_n HFR.out hk5)
            clear hk5
            go_wp2
            go_roundw
            case rel => exact ⟨k + 1, by omega, by simp, by rw [← mixL_same HXK.out HHX.out]; exact HO3.out, HB3.out⟩
            case measure => (try simp only [intOf]); omega
          · have HHX := Lib.hid (heldX_t HFR.out hk5)
            clear hk5
            obtain ⟨q2, r2, hq2, _, g0, g1, g2, g3, g4, g5, g6, g7, g8, g9, g10⟩ := HO3.out.atKE (i := k) (by rw [HML.out]; exact hlt) (by rw [HML.out]; omega)
            have fz := HO3.out.frz (k * 11 + 10)
            have gl := HO3.out.sizeLt
            obtain ⟨cs4, hcs4⟩ := HO3.out.rowBlk
            obtain ⟨W4, hW4⟩ : ∃ W4 : World, W4 = w3.setCell ⟨g, k * 11 + 10, none⟩ (.bool true) := ⟨_, rfl⟩
            have hg4 : w3.grownBy (w3.setCell ⟨g, k * 11 + 10, none⟩ (.bool true)) (some g) := only_set (grown_refl w3 _) _ _
            have HO4 := Lib.hid ((HO3.out.set (i := k) (j := 10) (u := .bool true) HMA.out (by omega) (hold_rke rze_same)).mono (RKE.mono fun _ _ hz => hz.keep (keepB_only hcs4 (by decide) hg4)))
            have HB4 := Lib.hid (below_by HB3.out (HO3.out.base (g := g) rfl).1 HB3.out.size hg4)
            clear hcs4 hg4 hq2 g0 g1 g2 g3 g4 g5 g6 g7 g8 g9 hW4
            go_wp2_with fail
            go_roundw
            case rel => exact ⟨k + 1, by omega, by simp, by rw [← mixL_set HXK.out, HHX.out]; exact HO4.out, HB4.out⟩
            case measure => (try simp only [intOf]); omega
        · have HHX := Lib.hid (heldX_f hfr)
          clear hfr
          obtain ⟨q2, r2, hq2, _, g0, g1, g2, g3, g4, g5, g6, g7, g8, g9, g10⟩ := HO3.out.atKE (i := k) (by rw [HML.out]; exact hlt) (by rw [HML.out]; omega)
          have fz := HO3.out.frz (k * 11 + 10)
          have gl := HO3.out.sizeLt
          obtain ⟨cs4, hcs4⟩ := HO3.out.rowBlk
          obtain ⟨W4, hW4⟩ : ∃ W4 : World, W4 = w3.setCell ⟨g, k * 11 + 10, none⟩ (.bool false) := ⟨_, rfl⟩
          have hg4 : w3.grownBy (w3.setCell ⟨g, k * 11 + 10, none⟩ (.bool false)) (some g) := only_set (grown_refl w3 _) _ _
          have HO4 := Lib.hid ((HO3.out.set (i := k) (j := 10) (u := .bool false) HMA.out (by omega) (hold_rke rze_same)).mono (RKE.mono fun _ _ hz => hz.keep (keepB_only hcs4 (by decide) hg4)))
          have HB4 := Lib.hid (below_by HB3.out (HO3.out.base (g := g) rfl).1 HB3.out.size hg4)
          clear hcs4 hg4 hq2 g0 g1 g2 g3 g4 g5 g6 g7 g8 g9 hW4
          go_wp2_with fail
          go_roundw
          case rel => exact ⟨k + 1, by omega, by simp, by rw [← mixL_set HXK.out, HHX.out]; exact HO4.out, HB4.out⟩
          case measure => (try simp only [intOf]); omega
      · have hkn : k = n := by omega
        have ho2 := HO.out
        rw [hkn, HNN.out, show mixL l s s.length = H by rw [HH.out]; unfold mixL heldL; simp] at ho2
        obtain ⟨A5, c5, hv5, h5⟩ := ho2.slc (z := 192) (by rw [HHL.out]; omega)
        have HV5 := Lib.hid hv5
        have HE5 := Lib.hid (show Ents wr A5 c5 H from Slc.mono h5 (Kept.refl _) fun cs x ⟨r, e1, e2⟩ => ⟨r, e1, e2.kept (Kept.flt TB _)⟩)
        clear ho ho2 hv5 h5 HO
        go_wp2
        go_ret
        exact ⟨A5, c5, by rw [← HV5.out, ← HNN.out]; rfl, HE5.out, HB.out⟩
end Go.Proofs.YtaicidbopgnmfaaGreatDoor
namespace Go.Proofs.YtaicidbopgnmfaaGreatDoor
set_option linter.unusedSimpArgs false
set_option linter.unusedVariables false
open Go.RowKit
attribute [local go_sem ↓] Go.wp_at_zero Go.wp_at_succ
def stepH (x : Ent) (h : Bool) (q : Stp) : Bool := if q.name = x.pkg.name then (if q.kind = 5 then true else if freeQ q then false else h) else h
def foldH (l : List Stp) (x : Ent) : Bool := l.foldl (stepH x) x.hold
theorem foldH_step {l : List Stp} {k : Nat} {q : Stp} {x : Ent} (h : l[k]? = some q) : foldH (l.take (k + 1)) x = stepH x (foldH (l.take k) x) q := by
  unfold foldH
  rw [take_step h, List.foldl_append]
  rfl
def rheldX (l : List Stp) (x : Ent) : Ent := { x with hold := foldH l x }
def rheldL (l : List Stp) (s : List Ent) : List Ent := s.map (rheldX l)
set_option maxRecDepth 100000 in
set_option maxHeartbeats 2000000 in
theorem rHeld_any (l : List Stp) (A : Option Addr) (c : Nat) (s : List Ent) (A2 : Option Addr) (c2 : Nat) (w : World) (hl : Stps w A c l) (hs : Ents w A2 c2 s) (hsl : s.length ≤ 1000) :
    Calls Tryz.prog 47 #[.slice A l.length c, .slice A2 s.length c2] w (RetEs w (rheldL l s)) := by
  have HL := Lib.hid hl
  have HS := Lib.hid hs
  have hbl := Slc.bd hl
  have hbs := hs.bd
  clear hl hs
  obtain ⟨H, hH⟩ : ∃ H, H = rheldL l s := ⟨_, rfl⟩
  rw [← hH]
  have HH := Lib.hid hH
  clear hH
  go_enter Tryz.func47, Tryz.ntmps47
  go_wp2
  go_loopw [5, 12] (fun v i wr => ∃ (k : Nat) (M : List Ent), k ≤ s.length ∧ i = .int .i64 k ∧ M = (s.take k).map (rheldX l) ∧ Own wr w.heap.size 45 11 (REnt w) v M ∧ Below w.heap.size w wr) (fun _ i _ => s.length - (intOf i).toNat)
  case atStart => exact ⟨0, [], Nat.zero_le _, rfl, rfl, Own.nil_ _ _ _ _ _, Below.refl _ _⟩
  case round =>
    obtain ⟨k, M, hk, rfl, hM, ho, hb⟩ := hrel
    have HO := Lib.hid ho
    have HB := Lib.hid hb
    have HM := Lib.hid hM
    have hMl : M.length = k := by rw [hM, List.length_map, List.length_take]; omega
    have HML := Lib.hid hMl
    clear ho hb hM hMl
    by_cases hlt : k < s.length
    · obtain ⟨x, b, o, r, hx, rfl, hr, e0, e1, e2, e3, e4, e5, e6, e7, e8, e9, e10⟩ := HS.out.at_ hlt (Kept.of_below HB.out)
      have HX := Lib.hid hx
      have HR := Lib.hid hr
      clear hx hr
      go_wp2_with fail
      clear e0 e1 e2 e3 e4 e5 e6 e7 e8 e9 e10
      go_loopw [18] (fun i w2 => ∃ (j : Nat) (h : Bool), j ≤ l.length ∧ i = .int .i64 j ∧ h = foldH (l.take j) x ∧ Blk w2 wr.heap.size 45 #[.string (bs (x).pkg.name), .string (bs (x).pkg.ver), .slice (r).a1 (x).pkg.pre.length (r).c1, .slice (r).a2 (x).pkg.dep.length (r).c2, .slice (r).a3 (x).pkg.rcm.length (r).c3, .slice (r).a4 (x).pkg.con.length (r).c4, .slice (r).a5 (x).pkg.brk.length (r).c5, .slice (r).a6 (x).pkg.prv.length (r).c6, .bool (x).pkg.ess, .bool (x).conf, .bool h] ∧ Below wr.heap.size wr w2) (fun i _ => l.length - (intOf i).toNat)
      case atStart => exact ⟨0, x.hold, Nat.zero_le _, rfl, rfl, blk_new1 _ _ _, below_alloc (Below.refl _ _) _⟩
      case round =>
        obtain ⟨j, h, hj, rfl, hh, hB, hbi⟩ := hrel
        have HHJ := Lib.hid hh
        have KX := Lib.hid hB
        have HBi := Lib.hid hbi
        have HBw := Lib.hid (below_next HB.out hbi)
        clear hh hB hbi
        by_cases hjl : j < l.length
        · obtain ⟨⟨ka, nm, vr⟩, b2, o2, hst, rfl, d0, d1, d2⟩ := HL.out.at_ hjl (Kept.of_below HBw.out)
          have HF := Lib.hid (show foldH (l.take (j + 1)) x = stepH x h ⟨ka, nm, vr⟩ by rw [foldH_step hst, HHJ.out])
          dsimp only at d0 d1 d2
          have p0 := fun (o : Obj) => (KX.out.alloc o).cell 0
          have p10 := fun (o : Obj) => (KX.out.alloc o).cell 10
          simp only [List.getElem?_toArray, List.getElem?_cons_zero, List.getElem?_cons_succ] at p0 p10
          have f10 := fun (o : Obj) => (KX.out.alloc o).frozen 10
          have c10 := KX.out.cell 10
          simp only [List.getElem?_toArray, List.getElem?_cons_zero, List.getElem?_cons_succ] at c10
          have f10' := KX.out.frozen 10
          have hsz := KX.out.lt
          clear hst
          by_cases hq : nm = x.pkg.name
          · have hqb : (nm == x.pkg.name) = true := by simpa using hq
            by_cases h5 : ka = 5
            · have k5 : (ka == 5) = true := by simpa using h5
              have HST2 := Lib.hid (show stepH x h ⟨ka, nm, vr⟩ = true by simp [stepH, hq, h5])
              clear hq h5
              go_wp2_with fail
              go_roundw
              case rel => exact ⟨j + 1, true, by omega, by simp, by rw [HF.out, HST2.out], by first | exact (KX.out.set_ 10 _).alloc _ | exact (KX.out.alloc _).set_ 10 _, by first | exact below_alloc (HBi.out.setCell (Nat.le_refl _) _) _ | exact (below_alloc HBi.out _).setCell (Nat.le_refl _) _⟩
              case measure => (try simp only [intOf]); omega
            · have k5 : (ka == 5) = false := by simpa using h5
              by_cases h6 : ka = 6
              · have k6 : (ka == 6) = true := by simpa using h6
                have HST2 := Lib.hid (show stepH x h ⟨ka, nm, vr⟩ = false by simp [stepH, hq, h6, freeQ])
                clear hq h5 h6
                go_wp2_with fail
                go_roundw
                case rel => exact ⟨j + 1, false, by omega, by simp, by rw [HF.out, HST2.out], by first | exact (KX.out.set_ 10 _).alloc _ | exact (KX.out.alloc _).set_ 10 _, by first | exact below_alloc (HBi.out.setCell (Nat.le_refl _) _) _ | exact (below_alloc HBi.out _).setCell (Nat.le_refl _) _⟩
                case measure => (try simp only [intOf]); omega
              · have k6 : (ka == 6) = false := by simpa using h6
                by_cases h2 : ka = 2
                · have k2 : (ka == 2) = true := by simpa using h2
                  have HST2 := Lib.hid (show stepH x h ⟨ka, nm, vr⟩ = false by simp [stepH, hq, h2, freeQ])
                  clear hq h5 h6 h2
                  go_wp2_with fail
                  go_roundw
                  case rel => exact ⟨j + 1, false, by omega, by simp, by rw [HF.out, HST2.out], by first | exact (KX.out.set_ 10 _).alloc _ | exact (KX.out.alloc _).set_ 10 _, by first | exact below_alloc (HBi.out.setCell (Nat.le_refl _) _) _ | exact (below_alloc HBi.out _).setCell (Nat.le_refl _) _⟩
                  case measure => (try simp only [intOf]); omega
                · have k2 : (ka == 2) = false := by simpa using h2
                  by_cases h1 : ka = 1
                  · have k1 : (ka == 1) = true := by simpa using h1
                    by_cases hv : vr = []
                    · have hvb : vr.isEmpty = true := by simpa using hv
                      have HST2 := Lib.hid (show stepH x h ⟨ka, nm, vr⟩ = h by simp [stepH, hq, h1, freeQ, exactQ, hv])
                      clear hq h5 h6 h2 h1 hv
                      go_wp2_with fail
                      go_roundw
                      case rel => exact ⟨j + 1, h, by omega, by simp, by rw [HF.out, HST2.out], KX.out.alloc _, below_alloc HBi.out _⟩
                      case measure => (try simp only [intOf]); omega
                    · have hvb : vr.isEmpty = false := by simpa using hv
                      have HST2 := Lib.hid (show stepH x h ⟨ka, nm, vr⟩ = false by simp [stepH, hq, h1, freeQ, exactQ, hv])
                      clear hq h5 h6 h2 h1 hv
                      go_wp2_with fail
                      go_roundw
                      case rel => exact ⟨j + 1, false, by omega, by simp, by rw [HF.out, HST2.out], by first | exact (KX.out.set_ 10 _).alloc _ | exact (KX.out.alloc _).set_ 10 _, by first | exact below_alloc (HBi.out.setCell (Nat.le_refl _) _) _ | exact (below_alloc HBi.out _).setCell (Nat.le_refl _) _⟩
                      case measure => (try simp only [intOf]); omega
                  · have k1 : (ka == 1) = false := by simpa using h1
                    have HST2 := Lib.hid (show stepH x h ⟨ka, nm, vr⟩ = h by simp [stepH, hq, h1, h2, h5, h6, freeQ, exactQ])
                    clear hq h5 h6 h2 h1
                    go_wp2_with fail
                    go_roundw
                    case rel => exact ⟨j + 1, h, by omega, by simp, by rw [HF.out, HST2.out], KX.out.alloc _, below_alloc HBi.out _⟩
                    case measure => (try simp only [intOf]); omega
          · have hqb : (nm == x.pkg.name) = false := by simpa using hq
            have HST2 := Lib.hid (show stepH x h ⟨ka, nm, vr⟩ = h by simp [stepH, hq])
            clear hq
            go_wp2_with fail
            go_roundw
            case rel => exact ⟨j + 1, h, by omega, by simp, by rw [HF.out, HST2.out], KX.out.alloc _, below_alloc HBi.out _⟩
            case measure => (try simp only [intOf]); omega
        · have HHX := Lib.hid (show rheldX l x = { x with hold := h } by unfold rheldX; rw [HHJ.out, take_end hj hjl])
          obtain ⟨p0, p1, p2, p3, p4, p5, p6, p7, p8, p9, p10⟩ := blk11 KX.out
          have HO2 := Lib.hid (HO.out.next HBi.out)
          go_wp2_with (at_builtin; refine wpList_append_el (by rfl) _ _ 22 (by rfl) w.heap.size 45 _ 11 192 Tryz.underlying22 infEnS rfl (by omega) (REnt w) _ M (by rfl) (HO2.out.alloc _) ({ x with hold := h } : Ent) (encE r ({ x with hold := h } : Ent)) _ 1 (by rfl) (blk_new1 _ _ _) ⟨r, rfl, HR.out⟩ rfl (encE_one _ _) (by have := HML.out; omega) (by omega) (by have := HBw.out.size; simp; omega) ?_; intro g cap w4 ho4 hg4; have HO4 := Lib.hid ho4; have HB4 := Lib.hid ((HO2.out.alloc _).below (below_alloc HBw.out _) (by have := HBw.out.size; simp; omega) hg4); clear ho4 hg4)
          go_roundw
          case rel => exact ⟨k + 1, _, by omega, by simp, by rw [take_step HX.out, List.map_append, ← HM.out, List.map_cons, HHX.out]; rfl, HO4.out, HB4.out⟩
          case measure => (try simp only [intOf]); omega
    · have hm := HM.out
      rw [take_end hk hlt] at hm
      have HMH := Lib.hid (show M = H by rw [hm, HH.out]; rfl)
      obtain ⟨A5, c5, rfl, h5⟩ := HO.out.slc (z := 192) (by have := HML.out; omega)
      have HE5 := Lib.hid (show Ents wr A5 c5 M from Slc.mono h5 (Kept.refl _) fun cs x ⟨r, e1, e2⟩ => ⟨r, e1, e2.kept (Kept.of_below HB.out)⟩)
      clear h5 hm
      go_wp2
      go_ret
      exact ⟨A5, c5, by rw [← HMH.out]; rfl, by rw [← HMH.out]; exact HE5.out, HB.out⟩
end Go.Proofs.YtaicidbopgnmfaaGreatDoor
