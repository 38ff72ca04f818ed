/- The contract of step.may: may a step be written? -/
import Derived.Test.YtaicidbopgnmfaaGreatDoorDa
import Derived.Test.YtaicidbopgnmfaaGreatDoorMx
import Derived.Test.YtaicidbopgnmfaaGreatDoorWa
namespace Go.Proofs.YtaicidbopgnmfaaGreatDoor
set_option linter.unusedSimpArgs false
set_option linter.unusedVariables false
open Go.RowKit
def mayT (st : Stp) : Bool := !(wordS st.kind == []) && nameS st.name && (if st.kind = 3 then isV st.ver else st.ver == [])
set_option maxRecDepth 100000 in
set_option maxHeartbeats 2000000 in
theorem mayT_any (k : Int) (nm vr : List UInt8) (w : World) (hn : short nm) :
    Calls Tryz.prog 73 #[.agg #[.int .i64 k, .string (bs nm), .string (bs vr)]] w fun e w' => e = .returned (.bool (mayT ⟨k, nm, vr⟩)) ∧ Below w.heap.size w w' := by
  obtain ⟨G, hG⟩ : ∃ G, G = mayT ⟨k, nm, vr⟩ := ⟨_, rfl⟩
  rw [← hG]
  obtain ⟨W0, hW⟩ : ∃ W0, wordS k = W0 := ⟨_, rfl⟩
  have HW := Lib.hid hW
  by_cases hw0 : W0 = []
  · have HG := Lib.hid (show G = false by rw [hG, mayT]; simp [hW, hw0])
    have hwb : (W0 == []) = true := by simpa using hw0
    clear hG hW hw0
    go_enter Tryz.func73, Tryz.ntmps73
    have K1 := Lib.hid (blk_new1 w 24 #[.int .i64 k, .string (bs nm), .string (bs vr)])
    have HB := Lib.hid (below_alloc (Below.refl w.heap.size w) (.cells #[.int .i64 k, .string (bs nm), .string (bs vr)] 24))
    have a0 := K1.out.cell 0
    have a1 := K1.out.cell 1
    have a2 := K1.out.cell 2
    simp only [List.getElem?_toArray, List.getElem?_cons_zero, List.getElem?_cons_succ] at a0 a1 a2
    go_wp2_with fail
    refine (word_any k _).mono ?_
    rintro e w1 ⟨rfl, hw1⟩
    subst hw1
    rw [HW.out]
    go_wp2
    go_ret
    exact ⟨by rw [HG.out]; rfl, HB.out⟩
  · have hwb : (W0 == []) = false := by simpa using hw0
    rcases hnm : nameS nm
    · have HN := Lib.hid hnm
      have HG := Lib.hid (show G = false by rw [hG, mayT]; simp [hnm])
      clear hG hW hw0 hnm
      go_enter Tryz.func73, Tryz.ntmps73
      have K1 := Lib.hid (blk_new1 w 24 #[.int .i64 k, .string (bs nm), .string (bs vr)])
      have HB := Lib.hid (below_alloc (Below.refl w.heap.size w) (.cells #[.int .i64 k, .string (bs nm), .string (bs vr)] 24))
      have a0 := K1.out.cell 0
      have a1 := K1.out.cell 1
      have a2 := K1.out.cell 2
      simp only [List.getElem?_toArray, List.getElem?_cons_zero, List.getElem?_cons_succ] at a0 a1 a2
      go_wp2_with fail
      refine (word_any k _).mono ?_
      rintro e w1 ⟨rfl, hw1⟩
      subst hw1
      rw [HW.out]
      go_wp2_with fail
      refine (name_any nm (by unfold short at hn; omega) _).mono ?_
      rintro e w2 ⟨rfl, hb2⟩
      have HB2 := Lib.hid (below_next HB.out hb2)
      have a0 := Kept.of_below hb2 _ _ a0
      have a2 := Kept.of_below hb2 _ _ a2
      clear hb2 a1 HB
      rw [HN.out]
      go_wp2
      go_ret
      exact ⟨by rw [HG.out]; rfl, HB2.out⟩
    · have HN := Lib.hid hnm
      by_cases hk : k = 3
      · have HG := Lib.hid (show G = isV vr by rw [hG, mayT]; dsimp only; rw [hW, hnm, if_pos hk]; simp [hw0])
        have hkb : (k != 3) = false := by simpa using hk
        clear hG hW hw0 hnm hk
        rcases hv : verS vr with _ | ⟨a, b, c⟩
        · have HV := Lib.hid (verV_none hv)
          have HI := Lib.hid (show isV vr = false by simp [isV, hv])
          clear hv
          go_enter Tryz.func73, Tryz.ntmps73
          have K1 := Lib.hid (blk_new1 w 24 #[.int .i64 k, .string (bs nm), .string (bs vr)])
          have HB := Lib.hid (below_alloc (Below.refl w.heap.size w) (.cells #[.int .i64 k, .string (bs nm), .string (bs vr)] 24))
          have a0 := K1.out.cell 0
          have a1 := K1.out.cell 1
          have a2 := K1.out.cell 2
          simp only [List.getElem?_toArray, List.getElem?_cons_zero, List.getElem?_cons_succ] at a0 a1 a2
          go_wp2_with fail
          refine (word_any k _).mono ?_
          rintro e w1 ⟨rfl, hw1⟩
          subst hw1
          rw [HW.out]
          go_wp2_with fail
          refine (name_any nm (by unfold short at hn; omega) _).mono ?_
          rintro e w2 ⟨rfl, hb2⟩
          have HB2 := Lib.hid (below_next HB.out hb2)
          have a0 := Kept.of_below hb2 _ _ a0
          have a2 := Kept.of_below hb2 _ _ a2
          clear hb2 a1 HB
          rw [HN.out]
          go_wp2_with fail
          refine (parse_any vr _).mono ?_
          rintro e w3 ⟨rfl, hb3⟩
          rw [HV.out]
          go_wp2
          go_ret
          exact ⟨by rw [HG.out, HI.out]; rfl, below_next HB2.out hb3⟩
        · have HV := Lib.hid (verV_some hv)
          have HI := Lib.hid (show isV vr = true by simp [isV, hv])
          clear hv
          go_enter Tryz.func73, Tryz.ntmps73
          have K1 := Lib.hid (blk_new1 w 24 #[.int .i64 k, .string (bs nm), .string (bs vr)])
          have HB := Lib.hid (below_alloc (Below.refl w.heap.size w) (.cells #[.int .i64 k, .string (bs nm), .string (bs vr)] 24))
          have a0 := K1.out.cell 0
          have a1 := K1.out.cell 1
          have a2 := K1.out.cell 2
          simp only [List.getElem?_toArray, List.getElem?_cons_zero, List.getElem?_cons_succ] at a0 a1 a2
          go_wp2_with fail
          refine (word_any k _).mono ?_
          rintro e w1 ⟨rfl, hw1⟩
          subst hw1
          rw [HW.out]
          go_wp2_with fail
          refine (name_any nm (by unfold short at hn; omega) _).mono ?_
          rintro e w2 ⟨rfl, hb2⟩
          have HB2 := Lib.hid (below_next HB.out hb2)
          have a0 := Kept.of_below hb2 _ _ a0
          have a2 := Kept.of_below hb2 _ _ a2
          clear hb2 a1 HB
          rw [HN.out]
          go_wp2_with fail
          refine (parse_any vr _).mono ?_
          rintro e w3 ⟨rfl, hb3⟩
          rw [HV.out]
          go_wp2
          go_ret
          exact ⟨by rw [HG.out, HI.out]; rfl, below_next HB2.out hb3⟩
      · have HG := Lib.hid (show G = vr.isEmpty by rw [hG, mayT]; dsimp only; rw [hW, hnm, if_neg hk]; simp [hw0])
        have hkb : (k != 3) = true := by simpa using hk
        clear hG hW hw0 hnm hk
        go_enter Tryz.func73, Tryz.ntmps73
        have K1 := Lib.hid (blk_new1 w 24 #[.int .i64 k, .string (bs nm), .string (bs vr)])
        have HB := Lib.hid (below_alloc (Below.refl w.heap.size w) (.cells #[.int .i64 k, .string (bs nm), .string (bs vr)] 24))
        have a0 := K1.out.cell 0
        have a1 := K1.out.cell 1
        have a2 := K1.out.cell 2
        simp only [List.getElem?_toArray, List.getElem?_cons_zero, List.getElem?_cons_succ] at a0 a1 a2
        go_wp2_with fail
        refine (word_any k _).mono ?_
        rintro e w1 ⟨rfl, hw1⟩
        subst hw1
        rw [HW.out]
        go_wp2_with fail
        refine (name_any nm (by unfold short at hn; omega) _).mono ?_
        rintro e w2 ⟨rfl, hb2⟩
        have HB2 := Lib.hid (below_next HB.out hb2)
        have a0 := Kept.of_below hb2 _ _ a0
        have a2 := Kept.of_below hb2 _ _ a2
        clear hb2 a1 HB
        rw [HN.out]
        go_wp2
        go_ret
        exact ⟨by rw [HG.out]; rfl, HB2.out⟩
end Go.Proofs.YtaicidbopgnmfaaGreatDoor
