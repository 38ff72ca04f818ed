/- The contract of the reference's Text of a step. -/
import Derived.Test.YtaicidbopgnmfaaGreatDoorDrC
import Derived.Laws.Concat
namespace Go.Proofs.YtaicidbopgnmfaaGreatDoor
set_option linter.unusedSimpArgs false
set_option linter.unusedVariables false
open Go.RowKit
attribute [local go_sem ↓] Go.wp_at_zero Go.wp_at_succ
theorem ix5_0 (W : World) (a b c d e : Value) : (Instr.index 96 (.agg #[a, b, c, d, e]) (.int .i64 0)).run Tryz.prog W = .ok a W := by kernel_rfl
theorem ix5_1 (W : World) (a b c d e : Value) : (Instr.index 96 (.agg #[a, b, c, d, e]) (.int .i64 1)).run Tryz.prog W = .ok b W := by kernel_rfl
theorem ix5_2 (W : World) (a b c d e : Value) : (Instr.index 96 (.agg #[a, b, c, d, e]) (.int .i64 2)).run Tryz.prog W = .ok c W := by kernel_rfl
theorem ix5_3 (W : World) (a b c d e : Value) : (Instr.index 96 (.agg #[a, b, c, d, e]) (.int .i64 3)).run Tryz.prog W = .ok d W := by kernel_rfl
theorem ix5_4 (W : World) (a b c d e : Value) : (Instr.index 96 (.agg #[a, b, c, d, e]) (.int .i64 4)).run Tryz.prog W = .ok e W := by kernel_rfl
theorem textT_no {st : Stp} (h : mayT st = false) : textT st = [] := by unfold textT; rw [h]; rfl
theorem textT_yes {st : Stp} (h : mayT st = true) : textT st = wordS st.kind ++ [32] ++ st.name ++ (if st.kind = 3 then [32] ++ st.ver else []) := by unfold textT; rw [h]; rfl
set_option maxRecDepth 100000 in
set_option maxHeartbeats 2000000 in
theorem rtext_any (k : Int) (nm vr : List UInt8) (w : World) (hn : short nm) (hv : short vr) :
    Calls Tryz.prog 37 #[.agg #[.int .i64 k, .string (bs nm), .string (bs vr)]] w fun e w' => e = .returned (.string (bs (textT ⟨k, nm, vr⟩))) ∧ Below w.heap.size w w' := by
  obtain ⟨G, hG⟩ : ∃ G, G = textT ⟨k, nm, vr⟩ := ⟨_, rfl⟩
  rw [← hG]
  by_cases hk : 1 ≤ k ∧ k ≤ 4
  · rcases hnm : nameS nm
    · have HN := Lib.hid hnm
      have HG := Lib.hid (show G = [] by rw [hG, textT_no (by simp [mayT, hnm])])
      have k1 : decide (k < 1) = false := decide_eq_false (by omega)
      have k2 : decide (4 < k) = false := decide_eq_false (by omega)
      clear hG hnm hk hv
      go_enter Tryz.func37, Tryz.ntmps37
      have K1 := Lib.hid (blk_new1 w 24 #[.int .i64 k, .string (bs nm), .string (bs vr)])
      have HB := Lib.hid (below_alloc (Below.refl w.heap.size w) (.cells #[.int .i64 k, .string (bs nm), .string (bs vr)] 24))
      have a0 := K1.out.cell 0
      have a1 := K1.out.cell 1
      have a2 := K1.out.cell 2
      simp only [List.getElem?_toArray, List.getElem?_cons_zero, List.getElem?_cons_succ] at a0 a1 a2
      go_wp2_with fail
      refine (rname_any nm hn _).mono ?_
      rintro e w1 ⟨rfl, hw1⟩
      subst hw1
      rw [HN.out]
      go_wp2
      go_ret
      exact ⟨by rw [HG.out]; rfl, HB.out⟩
    · have HN := Lib.hid hnm
      obtain rfl | rfl | rfl | rfl : k = 1 ∨ k = 2 ∨ k = 3 ∨ k = 4 := by omega
      · have z1 : (⟨#[100, 101, 99, 111, 110, 102, 105, 103, 117, 114, 101, 32]⟩ : ByteArray).size + (bs nm).size ≤ 9223372036854775807 := by unfold short at hn; simp [bs, ByteArray.size]; omega
        by_cases hv0 : vr = []
        · have hvb : vr.isEmpty = true := by simpa using hv0
          have HG := Lib.hid (show G = [100, 101, 99, 111, 110, 102, 105, 103, 117, 114, 101, 32] ++ nm by rw [hG, textT_yes (by simp [mayT, wordS, hnm, hv0])]; simp [wordS])
          clear hG hnm hv hk hv0
          go_enter Tryz.func37, Tryz.ntmps37
          have K1 := Lib.hid (blk_new1 w 24 #[.int .i64 1, .string (bs nm), .string (bs vr)])
          have HB := Lib.hid (below_alloc (Below.refl w.heap.size w) (.cells #[.int .i64 1, .string (bs nm), .string (bs vr)] 24))
          have a0 := K1.out.cell 0
          have a1 := K1.out.cell 1
          have a2 := K1.out.cell 2
          simp only [List.getElem?_toArray, List.getElem?_cons_zero, List.getElem?_cons_succ] at a0 a1 a2
          go_wp2_with fail
          refine (rname_any nm hn _).mono ?_
          rintro e w1 ⟨rfl, hw1⟩
          subst hw1
          rw [HN.out]
          have hix := ix5_1
          go_wp2_with fail
          go_region
          go_wp2
          go_ret
          exact ⟨by rw [HG.out]; simp only [bs_appT]; rfl, by first | exact HB.out | exact below_drewN HB.out _⟩
        · have hvb : vr.isEmpty = false := by simpa using hv0
          have HG := Lib.hid (show G = [] by rw [hG, textT_no (by simp [mayT, hv0])])
          clear hG hnm hv hk hv0
          go_enter Tryz.func37, Tryz.ntmps37
          have K1 := Lib.hid (blk_new1 w 24 #[.int .i64 1, .string (bs nm), .string (bs vr)])
          have HB := Lib.hid (below_alloc (Below.refl w.heap.size w) (.cells #[.int .i64 1, .string (bs nm), .string (bs vr)] 24))
          have a0 := K1.out.cell 0
          have a1 := K1.out.cell 1
          have a2 := K1.out.cell 2
          simp only [List.getElem?_toArray, List.getElem?_cons_zero, List.getElem?_cons_succ] at a0 a1 a2
          go_wp2_with fail
          refine (rname_any nm hn _).mono ?_
          rintro e w1 ⟨rfl, hw1⟩
          subst hw1
          rw [HN.out]
          go_wp2
          go_ret
          exact ⟨by rw [HG.out]; rfl, HB.out⟩
      · have z1 : (⟨#[114, 101, 109, 111, 118, 101, 32]⟩ : ByteArray).size + (bs nm).size ≤ 9223372036854775807 := by unfold short at hn; simp [bs, ByteArray.size]; omega
        by_cases hv0 : vr = []
        · have hvb : vr.isEmpty = true := by simpa using hv0
          have HG := Lib.hid (show G = [114, 101, 109, 111, 118, 101, 32] ++ nm by rw [hG, textT_yes (by simp [mayT, wordS, hnm, hv0])]; simp [wordS])
          clear hG hnm hv hk hv0
          go_enter Tryz.func37, Tryz.ntmps37
          have K1 := Lib.hid (blk_new1 w 24 #[.int .i64 2, .string (bs nm), .string (bs vr)])
          have HB := Lib.hid (below_alloc (Below.refl w.heap.size w) (.cells #[.int .i64 2, .string (bs nm), .string (bs vr)] 24))
          have a0 := K1.out.cell 0
          have a1 := K1.out.cell 1
          have a2 := K1.out.cell 2
          simp only [List.getElem?_toArray, List.getElem?_cons_zero, List.getElem?_cons_succ] at a0 a1 a2
          go_wp2_with fail
          refine (rname_any nm hn _).mono ?_
          rintro e w1 ⟨rfl, hw1⟩
          subst hw1
          rw [HN.out]
          have hix := ix5_2
          go_wp2_with fail
          go_region
          go_wp2
          go_ret
          exact ⟨by rw [HG.out]; simp only [bs_appT]; rfl, by first | exact HB.out | exact below_drewN HB.out _⟩
        · have hvb : vr.isEmpty = false := by simpa using hv0
          have HG := Lib.hid (show G = [] by rw [hG, textT_no (by simp [mayT, hv0])])
          clear hG hnm hv hk hv0
          go_enter Tryz.func37, Tryz.ntmps37
          have K1 := Lib.hid (blk_new1 w 24 #[.int .i64 2, .string (bs nm), .string (bs vr)])
          have HB := Lib.hid (below_alloc (Below.refl w.heap.size w) (.cells #[.int .i64 2, .string (bs nm), .string (bs vr)] 24))
          have a0 := K1.out.cell 0
          have a1 := K1.out.cell 1
          have a2 := K1.out.cell 2
          simp only [List.getElem?_toArray, List.getElem?_cons_zero, List.getElem?_cons_succ] at a0 a1 a2
          go_wp2_with fail
          refine (rname_any nm hn _).mono ?_
          rintro e w1 ⟨rfl, hw1⟩
          subst hw1
          rw [HN.out]
          go_wp2
          go_ret
          exact ⟨by rw [HG.out]; rfl, HB.out⟩
      · have z1 : (⟨#[117, 110, 112, 97, 99, 107, 32]⟩ : ByteArray).size + (bs nm).size ≤ 9223372036854775807 := by unfold short at hn; simp [bs, ByteArray.size]; omega
        have z3 : (⟨#[32]⟩ : ByteArray).size + (bs vr).size ≤ 9223372036854775807 := by unfold short at hv; simp [bs, ByteArray.size]; omega
        have z4 : ((⟨#[117, 110, 112, 97, 99, 107, 32]⟩ : ByteArray) ++ bs nm).size + ((⟨#[32]⟩ : ByteArray) ++ bs vr).size ≤ 9223372036854775807 := by unfold short at hn hv; simp [bs, ByteArray.size_append, ByteArray.size]; omega
        rcases hiv : isV vr
        · have HV := Lib.hid hiv
          have HG := Lib.hid (show G = [] by rw [hG, textT_no (by simp [mayT, hiv])])
          clear hG hnm hk hiv z1 z3 z4
          go_enter Tryz.func37, Tryz.ntmps37
          have K1 := Lib.hid (blk_new1 w 24 #[.int .i64 3, .string (bs nm), .string (bs vr)])
          have HB := Lib.hid (below_alloc (Below.refl w.heap.size w) (.cells #[.int .i64 3, .string (bs nm), .string (bs vr)] 24))
          have a0 := K1.out.cell 0
          have a1 := K1.out.cell 1
          have a2 := K1.out.cell 2
          simp only [List.getElem?_toArray, List.getElem?_cons_zero, List.getElem?_cons_succ] at a0 a1 a2
          go_wp2_with fail
          refine (rname_any nm hn _).mono ?_
          rintro e w1 ⟨rfl, hw1⟩
          subst hw1
          rw [HN.out]
          go_wp2_with fail
          refine (rIs_any vr _).mono ?_
          rintro e w2 ⟨rfl, hb2⟩
          rw [HV.out]
          have HB2 := Lib.hid (below_next HB.out hb2)
          clear hb2
          go_wp2
          go_ret
          exact ⟨by rw [HG.out]; rfl, HB2.out⟩
        · have HV := Lib.hid hiv
          have HG := Lib.hid (show G = [117, 110, 112, 97, 99, 107, 32] ++ nm ++ ([32] ++ vr) by rw [hG, textT_yes (by simp [mayT, wordS, hnm, hiv])]; simp [wordS])
          clear hG hnm hk hiv
          go_enter Tryz.func37, Tryz.ntmps37
          have K1 := Lib.hid (blk_new1 w 24 #[.int .i64 3, .string (bs nm), .string (bs vr)])
          have HB := Lib.hid (below_alloc (Below.refl w.heap.size w) (.cells #[.int .i64 3, .string (bs nm), .string (bs vr)] 24))
          have a0 := K1.out.cell 0
          have a1 := K1.out.cell 1
          have a2 := K1.out.cell 2
          simp only [List.getElem?_toArray, List.getElem?_cons_zero, List.getElem?_cons_succ] at a0 a1 a2
          go_wp2_with fail
          refine (rname_any nm hn _).mono ?_
          rintro e w1 ⟨rfl, hw1⟩
          subst hw1
          rw [HN.out]
          go_wp2_with fail
          refine (rIs_any vr _).mono ?_
          rintro e w2 ⟨rfl, hb2⟩
          rw [HV.out]
          have HB2 := Lib.hid (below_next HB.out hb2)
          have a0 := Kept.of_below hb2 _ _ a0
          have a1 := Kept.of_below hb2 _ _ a1
          have a2 := Kept.of_below hb2 _ _ a2
          clear hb2
          have hix := ix5_3
          go_wp2_with fail
          go_region
          go_wp2
          go_ret
          exact ⟨by rw [HG.out]; simp only [bs_appT]; rfl, by first | exact HB2.out | exact below_drewN HB2.out _⟩
      · have z1 : (⟨#[99, 111, 110, 102, 105, 103, 117, 114, 101, 32]⟩ : ByteArray).size + (bs nm).size ≤ 9223372036854775807 := by unfold short at hn; simp [bs, ByteArray.size]; omega
        by_cases hv0 : vr = []
        · have hvb : vr.isEmpty = true := by simpa using hv0
          have HG := Lib.hid (show G = [99, 111, 110, 102, 105, 103, 117, 114, 101, 32] ++ nm by rw [hG, textT_yes (by simp [mayT, wordS, hnm, hv0])]; simp [wordS])
          clear hG hnm hv hk hv0
          go_enter Tryz.func37, Tryz.ntmps37
          have K1 := Lib.hid (blk_new1 w 24 #[.int .i64 4, .string (bs nm), .string (bs vr)])
          have HB := Lib.hid (below_alloc (Below.refl w.heap.size w) (.cells #[.int .i64 4, .string (bs nm), .string (bs vr)] 24))
          have a0 := K1.out.cell 0
          have a1 := K1.out.cell 1
          have a2 := K1.out.cell 2
          simp only [List.getElem?_toArray, List.getElem?_cons_zero, List.getElem?_cons_succ] at a0 a1 a2
          go_wp2_with fail
          refine (rname_any nm hn _).mono ?_
          rintro e w1 ⟨rfl, hw1⟩
          subst hw1
          rw [HN.out]
          have hix := ix5_4
          go_wp2_with fail
          go_region
          go_wp2
          go_ret
          exact ⟨by rw [HG.out]; simp only [bs_appT]; rfl, by first | exact HB.out | exact below_drewN HB.out _⟩
        · have hvb : vr.isEmpty = false := by simpa using hv0
          have HG := Lib.hid (show G = [] by rw [hG, textT_no (by simp [mayT, hv0])])
          clear hG hnm hv hk hv0
          go_enter Tryz.func37, Tryz.ntmps37
          have K1 := Lib.hid (blk_new1 w 24 #[.int .i64 4, .string (bs nm), .string (bs vr)])
          have HB := Lib.hid (below_alloc (Below.refl w.heap.size w) (.cells #[.int .i64 4, .string (bs nm), .string (bs vr)] 24))
          have a0 := K1.out.cell 0
          have a1 := K1.out.cell 1
          have a2 := K1.out.cell 2
          simp only [List.getElem?_toArray, List.getElem?_cons_zero, List.getElem?_cons_succ] at a0 a1 a2
          go_wp2_with fail
          refine (rname_any nm hn _).mono ?_
          rintro e w1 ⟨rfl, hw1⟩
          subst hw1
          rw [HN.out]
          go_wp2
          go_ret
          exact ⟨by rw [HG.out]; rfl, HB.out⟩
  · have HG := Lib.hid (show G = [] by rw [hG, textT_no (by unfold mayT; rw [(word_nil k).2 hk]; rfl)])
    by_cases k1 : k < 1
    · have k1 : decide (k < 1) = true := decide_eq_true k1
      clear hG hk
      go_enter Tryz.func37, Tryz.ntmps37
      have K1 := Lib.hid (blk_new1 w 24 #[.int .i64 k, .string (bs nm), .string (bs vr)])
      have HB := Lib.hid (below_alloc (Below.refl w.heap.size w) (.cells #[.int .i64 k, .string (bs nm), .string (bs vr)] 24))
      have a0 := K1.out.cell 0
      have a1 := K1.out.cell 1
      have a2 := K1.out.cell 2
      simp only [List.getElem?_toArray, List.getElem?_cons_zero, List.getElem?_cons_succ] at a0 a1 a2
      go_wp2
      go_ret
      exact ⟨by rw [HG.out]; rfl, HB.out⟩
    · have k2 : decide (4 < k) = true := decide_eq_true (by omega)
      have k1 : decide (k < 1) = false := decide_eq_false k1
      clear hG hk
      go_enter Tryz.func37, Tryz.ntmps37
      have K1 := Lib.hid (blk_new1 w 24 #[.int .i64 k, .string (bs nm), .string (bs vr)])
      have HB := Lib.hid (below_alloc (Below.refl w.heap.size w) (.cells #[.int .i64 k, .string (bs nm), .string (bs vr)] 24))
      have a0 := K1.out.cell 0
      have a1 := K1.out.cell 1
      have a2 := K1.out.cell 2
      simp only [List.getElem?_toArray, List.getElem?_cons_zero, List.getElem?_cons_succ] at a0 a1 a2
      go_wp2
      go_ret
      exact ⟨by rw [HG.out]; rfl, HB.out⟩
end Go.Proofs.YtaicidbopgnmfaaGreatDoor
