/- The law StepTexts. -/
import Derived.Test.YtaicidbopgnmfaaGreatDoorDrE
import Derived.Test.YtaicidbopgnmfaaGreatDoorDqC
import Derived.Test.YtaicidbopgnmfaaGreatDoorDoK
namespace Go.Proofs.YtaicidbopgnmfaaGreatDoor
set_option linter.unusedSimpArgs false
set_option linter.unusedVariables false
open Go.RowKit
attribute [local irreducible] wpQuiet
theorem textT_len {st : Stp} : (textT st).length ≤ 100 := by
  rcases h : mayT st
  · rw [textT_no h]; simp
  · rw [textT_yes h]
    unfold mayT at h
    simp only [Bool.and_eq_true] at h
    obtain ⟨⟨_, h2⟩, h3⟩ := h
    have hw := wordS_len st.kind
    have hn : st.name.length ≤ 24 := by
      unfold nameS at h2
      simp only [Bool.and_eq_true, decide_eq_true_eq] at h2
      exact h2.1.2
    by_cases hk : st.kind = 3
    · rw [if_pos hk] at h3 ⊢
      have hv : st.ver.length ≤ 48 := by
        unfold isV verS at h3
        by_cases h1 : st.ver.length = 0 ∨ 48 < st.ver.length
        · rw [if_pos h1] at h3; cases h3
        · omega
      simp
      omega
    · rw [if_neg hk]
      simp
      omega
set_option maxRecDepth 100000 in
set_option maxHeartbeats 2000000 in
theorem law_texts (k : Int) (nm vr : List UInt8) (k2 : Int) (nm2 vr2 l : List UInt8) (w : World) (hn : short nm) (hv : short vr) (hn2 : short nm2) (hv2 : short vr2) (hl : l.length ≤ 4294967296) :
    Calls Tryz.prog 10 #[.agg #[.int .i64 k, .string (bs nm), .string (bs vr)], .agg #[.int .i64 k2, .string (bs nm2), .string (bs vr2)], .string (bs l)] w fun e w' => e = .returned (.bool true) ∧ Below w.heap.size w w' := by
  have KA := Lib.hid (show Blk ((w.alloc (.cells #[.int .i64 k, .string (bs nm), .string (bs vr)] 24)).alloc (.cells #[.int .i64 k2, .string (bs nm2), .string (bs vr2)] 24)) w.heap.size 24 #[.int .i64 k, .string (bs nm), .string (bs vr)] from Blk.alloc (blk_new1 _ _ _) _)
  have KB := Lib.hid (show Blk ((w.alloc (.cells #[.int .i64 k, .string (bs nm), .string (bs vr)] 24)).alloc (.cells #[.int .i64 k2, .string (bs nm2), .string (bs vr2)] 24)) (w.heap.size + 1) 24 #[.int .i64 k2, .string (bs nm2), .string (bs vr2)] from blk_new2 _ _ _ _)
  have HB := Lib.hid (below_alloc (below_alloc (Below.refl w.heap.size w) (.cells #[.int .i64 k, .string (bs nm), .string (bs vr)] 24)) (.cells #[.int .i64 k2, .string (bs nm2), .string (bs vr2)] 24))
  go_enter Tryz.func10, Tryz.ntmps10
  go_wp2_with fail
  generalize (w.alloc (.cells #[.int .i64 k, .string (bs nm), .string (bs vr)] 24)).alloc (.cells #[.int .i64 k2, .string (bs nm2), .string (bs vr2)] 24) = w0 at KA KB HB ⊢
  have HQ := Lib.hid (parseS_any l hl w0)
  have HQ2 := Lib.hid (fun W => rparseS_any l hl W)
  generalize parseT l = r at HQ HQ2
  obtain ⟨⟨pk, pn, pv⟩, pe⟩ := r
  refine HQ.out.mono ?_
  rintro e w1 ⟨rfl, hb1⟩
  dsimp only
  have KA := Lib.hid (KA.out.next hb1)
  have KB := Lib.hid (KB.out.next hb1)
  have HB := Lib.hid (below_next HB.out hb1)
  clear hb1 HQ
  go_wp2_with fail
  have KA := Lib.hid (KA.out.alloc (.cells #[.int .i64 pk, .string (bs pn), .string (bs pv)] 24))
  have KB := Lib.hid (KB.out.alloc (.cells #[.int .i64 pk, .string (bs pn), .string (bs pv)] 24))
  have KX := Lib.hid (blk_new1 w1 24 #[.int .i64 pk, .string (bs pn), .string (bs pv)])
  have HB := Lib.hid (below_alloc HB.out (.cells #[.int .i64 pk, .string (bs pn), .string (bs pv)] 24))
  refine (HQ2.out _).mono ?_
  rintro e w2 ⟨rfl, hb2⟩
  dsimp only
  have KA := Lib.hid (KA.out.next hb2)
  have KB := Lib.hid (KB.out.next hb2)
  have KX := Lib.hid (KX.out.next hb2)
  have HB := Lib.hid (below_next HB.out hb2)
  clear hb2 HQ2
  generalize w1.heap.size = gx at KX ⊢
  generalize hgy : w2.heap.size = gy
  have KA := Lib.hid (KA.out.alloc (.cells #[.int .i64 pk, .string (bs pn), .string (bs pv)] 24))
  have KB := Lib.hid (KB.out.alloc (.cells #[.int .i64 pk, .string (bs pn), .string (bs pv)] 24))
  have KX := Lib.hid (KX.out.alloc (.cells #[.int .i64 pk, .string (bs pn), .string (bs pv)] 24))
  have KY := Lib.hid (show Blk (w2.alloc (.cells #[.int .i64 pk, .string (bs pn), .string (bs pv)] 24)) gy 24 #[.int .i64 pk, .string (bs pn), .string (bs pv)] from hgy ▸ blk_new1 w2 24 #[.int .i64 pk, .string (bs pn), .string (bs pv)])
  have HB := Lib.hid (below_alloc HB.out (.cells #[.int .i64 pk, .string (bs pn), .string (bs pv)] 24))
  go_wp2_with fail
  (try rw [hgy])
  generalize w2.alloc (.cells #[.int .i64 pk, .string (bs pn), .string (bs pv)] 24) = W at KA KB KX KY HB ⊢
  clear hgy
  obtain ⟨T, hT⟩ : ∃ T, textT ⟨k, nm, vr⟩ = T := ⟨_, rfl⟩
  have HT := Lib.hid hT
  obtain ⟨S, hS⟩ : ∃ S, decide (stK ⟨k, nm, vr⟩ ⟨k2, nm2, vr2⟩ < 0) = S := ⟨_, rfl⟩
  have HS := Lib.hid hS
  clear hT hS
  have t0 := KA.out.cell 0
  have t1 := KA.out.cell 1
  have t2 := KA.out.cell 2
  simp only [List.getElem?_toArray, List.getElem?_cons_zero, List.getElem?_cons_succ] at t0 t1 t2
  have a0 := fun p : Be W => Be.cell t0 p
  have a1 := fun p : Be W => Be.cell t1 p
  have a2 := fun p : Be W => Be.cell t2 p
  clear t0 t1 t2
  have t0 := KB.out.cell 0
  have t1 := KB.out.cell 1
  have t2 := KB.out.cell 2
  simp only [List.getElem?_toArray, List.getElem?_cons_zero, List.getElem?_cons_succ] at t0 t1 t2
  have b0 := fun p : Be W => Be.cell t0 p
  have b1 := fun p : Be W => Be.cell t1 p
  have b2 := fun p : Be W => Be.cell t2 p
  clear t0 t1 t2
  have t0 := KX.out.cell 0
  have t1 := KX.out.cell 1
  have t2 := KX.out.cell 2
  simp only [List.getElem?_toArray, List.getElem?_cons_zero, List.getElem?_cons_succ] at t0 t1 t2
  have x0 := fun p : Be W => Be.cell t0 p
  have x1 := fun p : Be W => Be.cell t1 p
  have x2 := fun p : Be W => Be.cell t2 p
  clear t0 t1 t2
  have t0 := KY.out.cell 0
  have t1 := KY.out.cell 1
  have t2 := KY.out.cell 2
  simp only [List.getElem?_toArray, List.getElem?_cons_zero, List.getElem?_cons_succ] at t0 t1 t2
  have y0 := fun p : Be W => Be.cell t0 p
  have y1 := fun p : Be W => Be.cell t1 p
  have y2 := fun p : Be W => Be.cell t2 p
  clear t0 t1 t2
  refine region_be (by kernel_rfl) (by kernel_rfl) ?_
  repeat (quiet_step (first | (go_at_call 36; with_reducible exact Calls.be_of ((text_any _ _ _ _ hn hv).mono fun _ _ h => ⟨h.1.trans (congrArg (fun b => Ending.returned (Value.string (bs b))) HT.out), h.2⟩)) | (go_at_call 37; with_reducible exact Calls.be_of ((rtext_any _ _ _ _ hn hv).mono fun _ _ h => ⟨h.1.trans (congrArg (fun b => Ending.returned (Value.string (bs b))) HT.out), h.2⟩)) | (go_at_call 32; with_reducible exact Calls.be_of ((less_any _ _ _ _ _ _ _).mono fun _ _ h => ⟨h.1.trans (congrArg (fun b => Ending.returned (Value.bool b)) HS.out), h.2⟩)) | (go_at_call 38; with_reducible exact Calls.be_of ((rless_any _ _ _ _ _ _ _).mono fun _ _ h => ⟨h.1.trans (congrArg (fun b => Ending.returned (Value.bool b)) HS.out), h.2⟩))))
  refine wpQuiet_nil ?_
  intro _ hw'
  obtain ⟨pb, hw''⟩ := hw'
  subst hw''
  obtain ⟨W2, hbw⟩ := pb
  dsimp only
  have KA := Lib.hid (KA.out.next hbw)
  have HB := Lib.hid (below_next HB.out hbw)
  clear a0 a1 a2 b0 b1 b2 x0 x1 x2 y0 y1 y2 hbw KB KX KY
  have c0 := KA.out.cell 0
  have c1 := KA.out.cell 1
  have c2 := KA.out.cell 2
  simp only [List.getElem?_toArray, List.getElem?_cons_zero, List.getElem?_cons_succ] at c0 c1 c2
  go_wp2_with fail
  have HQ := Lib.hid (text_any k nm vr W2 hn hv)
  rw [HT.out] at HQ
  refine HQ.out.mono ?_
  rintro e w3 ⟨rfl, hb3⟩
  have KA := Lib.hid (KA.out.next hb3)
  have HB := Lib.hid (below_next HB.out hb3)
  clear hb3 HQ c0 c1 c2
  have HTL := Lib.hid (show T.length ≤ 4294967296 by rw [← HT.out]; exact Nat.le_trans textT_len (by decide))
  by_cases ht : T = []
  · have htb : T.isEmpty = true := by simpa using ht
    clear ht
    go_wp2_with fail
    refine (awake22_any _).mono ?_
    rintro e w9 ⟨rfl, hb9⟩
    go_wp2
    go_ret
    exact ⟨rfl, below_next HB.out hb9⟩
  · have htb : T.isEmpty = false := by simpa using ht
    have HP := Lib.hid (show parseT T = (⟨k, nm, vr⟩, 0) from by
      rw [← HT.out]
      refine text_parse ?_
      rcases hm : mayT ⟨k, nm, vr⟩
      · exact absurd (by rw [← HT.out]; exact textT_no hm) ht
      · rfl)
    clear ht
    go_wp2_with fail
    have HQ := Lib.hid (parseS_any T HTL.out w3)
    rw [HP.out] at HQ
    refine HQ.out.mono ?_
    rintro e w4 ⟨rfl, hb4⟩
    dsimp only
    have KA := Lib.hid (KA.out.next hb4)
    have HB := Lib.hid (below_next HB.out hb4)
    clear hb4 HQ
    have HB := Lib.hid (below_alloc HB.out (.cells #[.int .i64 k, .string (bs nm), .string (bs vr)] 24))
    have c0 := fun (o : Obj) => (KA.out.alloc o).cell 0
    have c1 := fun (o : Obj) => (KA.out.alloc o).cell 1
    have c2 := fun (o : Obj) => (KA.out.alloc o).cell 2
    simp only [List.getElem?_toArray, List.getElem?_cons_zero, List.getElem?_cons_succ] at c0 c1 c2
    go_wp2_with fail
    refine (awake22_any _).mono ?_
    rintro e w9 ⟨rfl, hb9⟩
    go_wp2
    go_ret
    exact ⟨rfl, below_next HB.out hb9⟩
end Go.Proofs.YtaicidbopgnmfaaGreatDoor
