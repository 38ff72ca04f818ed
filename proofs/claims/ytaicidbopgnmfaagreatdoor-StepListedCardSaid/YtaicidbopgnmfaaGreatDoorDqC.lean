/- The contract of the reference's Less; the comparator of step.All. -/
import Derived.Test.YtaicidbopgnmfaaGreatDoorDqB
namespace Go.Proofs.YtaicidbopgnmfaaGreatDoor
set_option linter.unusedSimpArgs false
set_option linter.unusedVariables false
open Go.RowKit
theorem stK_k {a b : Stp} (h : a.kind ≠ b.kind) : decide (stK a b < 0) = decide (a.kind < b.kind) := by
  have h1 : Lib.compareInt a.kind b.kind ≠ 0 := fun e => h (cI_zero.1 e)
  unfold stK orS
  rw [if_pos h1]
  simp only [cI_val]
  grind
theorem stK_n {a b : Stp} (h : a.kind = b.kind) (h2 : a.name ≠ b.name) : decide (stK a b < 0) = Op.bytesLess a.name b.name := by
  have h1 : Lib.compareInt a.kind b.kind = 0 := cI_zero.2 h
  have h3 : cmpB a.name b.name ≠ 0 := fun e => h2 (cmpB_zero.1 e)
  unfold stK
  rw [h1]
  unfold orS
  rw [if_neg (by simp), if_pos h3]
  rw [Bool.eq_iff_iff, decide_eq_true_eq]
  exact cmpB_neg
theorem stK_v {a b : Stp} (h : a.kind = b.kind) (h2 : a.name = b.name) (h3 : (cmpV a.ver b.ver).1 ≠ 0) : decide (stK a b < 0) = decide ((cmpV a.ver b.ver).1 < 0) := by
  unfold stK
  rw [cI_zero.2 h, cmpB_zero.2 h2]
  unfold orS
  rw [if_neg (by simp), if_neg (by simp), if_pos h3]
theorem stK_b {a b : Stp} (h : a.kind = b.kind) (h2 : a.name = b.name) (h3 : (cmpV a.ver b.ver).1 = 0) : decide (stK a b < 0) = Op.bytesLess a.ver b.ver := by
  unfold stK
  rw [cI_zero.2 h, cmpB_zero.2 h2, h3]
  have h4 : orS 0 (cmpB a.ver b.ver) 0 = cmpB a.ver b.ver := by unfold orS; grind
  rw [h4]
  have h5 : orS 0 0 (cmpB a.ver b.ver) = cmpB a.ver b.ver := by unfold orS; grind
  rw [h5, Bool.eq_iff_iff, decide_eq_true_eq]
  exact cmpB_neg
set_option maxRecDepth 100000 in
set_option maxHeartbeats 2000000 in
theorem rless_any (k : Int) (nm vr : List UInt8) (k2 : Int) (nm2 vr2 : List UInt8) (w : World) :
    Calls Tryz.prog 38 #[.agg #[.int .i64 k, .string (bs nm), .string (bs vr)], .agg #[.int .i64 k2, .string (bs nm2), .string (bs vr2)]] w fun e w' => e = .returned (.bool (decide (stK ⟨k, nm, vr⟩ ⟨k2, nm2, vr2⟩ < 0))) ∧ Below w.heap.size w w' := by
  obtain ⟨G, hG⟩ : ∃ G, G = decide (stK ⟨k, nm, vr⟩ ⟨k2, nm2, vr2⟩ < 0) := ⟨_, rfl⟩
  rw [← hG]
  by_cases h1 : k = k2
  · by_cases h2 : nm = nm2
    · obtain ⟨V, hV⟩ : ∃ V, (cmpV vr vr2).1 = V := ⟨_, rfl⟩
      have HV := Lib.hid hV
      have hkb : (k != k2) = false := by simpa using h1
      have hnb : (nm == nm2) = true := by simpa using h2
      by_cases h3 : V = 0
      · have hg : G = Op.bytesLess vr vr2 := hG.trans (stK_b h1 h2 (hV.trans h3))
        have HG := Lib.hid hg
        have hvb : (V != 0) = false := by simpa using h3
        clear hG hg h1 h2 h3 hV
        go_enter Tryz.func38, Tryz.ntmps38
        have K1 := Lib.hid (show Blk ((w.alloc (.cells #[.int .i64 k, .string (bs nm), .string (bs vr)] 24)).alloc (.cells #[.int .i64 k2, .string (bs nm2), .string (bs vr2)] 24)) w.heap.size 24 #[.int .i64 k, .string (bs nm), .string (bs vr)] from Blk.alloc (blk_new1 _ _ _) _)
        have K2 := Lib.hid (show Blk ((w.alloc (.cells #[.int .i64 k, .string (bs nm), .string (bs vr)] 24)).alloc (.cells #[.int .i64 k2, .string (bs nm2), .string (bs vr2)] 24)) (w.heap.size + 1) 24 #[.int .i64 k2, .string (bs nm2), .string (bs vr2)] from blk_new2 _ _ _ _)
        have HB := Lib.hid (show Below w.heap.size w ((w.alloc (.cells #[.int .i64 k, .string (bs nm), .string (bs vr)] 24)).alloc (.cells #[.int .i64 k2, .string (bs nm2), .string (bs vr2)] 24)) from below_alloc (below_alloc (Below.refl _ _) _) _)
        have a0 := K1.out.cell 0
        have a1 := K1.out.cell 1
        have a2 := K1.out.cell 2
        have b0 := K2.out.cell 0
        have b1 := K2.out.cell 1
        have b2 := K2.out.cell 2
        simp only [List.getElem?_toArray, List.getElem?_cons_zero, List.getElem?_cons_succ] at a0 a1 a2 b0 b1 b2
        go_wp2_with fail
        refine (rCompare_any vr vr2 _).mono ?_
        rintro e w3 ⟨rfl, hb3⟩
        have HB3 := Lib.hid (below_next HB.out hb3)
        have a2 := Kept.of_below hb3 _ _ a2
        have b2 := Kept.of_below hb3 _ _ b2
        clear hb3 a0 a1 b0 b1
        rw [HV.out]
        go_wp2
        go_ret
        exact ⟨by rw [HG.out] <;> rfl, HB3.out⟩
      · have hg : G = decide (V < 0) := hG.trans ((stK_v h1 h2 (by dsimp only; rw [hV]; exact h3)).trans (by dsimp only; rw [hV]))
        have HG := Lib.hid hg
        have hvb : (V != 0) = true := by simpa using h3
        clear hG hg h1 h2 h3 hV
        go_enter Tryz.func38, Tryz.ntmps38
        have K1 := Lib.hid (show Blk ((w.alloc (.cells #[.int .i64 k, .string (bs nm), .string (bs vr)] 24)).alloc (.cells #[.int .i64 k2, .string (bs nm2), .string (bs vr2)] 24)) w.heap.size 24 #[.int .i64 k, .string (bs nm), .string (bs vr)] from Blk.alloc (blk_new1 _ _ _) _)
        have K2 := Lib.hid (show Blk ((w.alloc (.cells #[.int .i64 k, .string (bs nm), .string (bs vr)] 24)).alloc (.cells #[.int .i64 k2, .string (bs nm2), .string (bs vr2)] 24)) (w.heap.size + 1) 24 #[.int .i64 k2, .string (bs nm2), .string (bs vr2)] from blk_new2 _ _ _ _)
        have HB := Lib.hid (show Below w.heap.size w ((w.alloc (.cells #[.int .i64 k, .string (bs nm), .string (bs vr)] 24)).alloc (.cells #[.int .i64 k2, .string (bs nm2), .string (bs vr2)] 24)) from below_alloc (below_alloc (Below.refl _ _) _) _)
        have a0 := K1.out.cell 0
        have a1 := K1.out.cell 1
        have a2 := K1.out.cell 2
        have b0 := K2.out.cell 0
        have b1 := K2.out.cell 1
        have b2 := K2.out.cell 2
        simp only [List.getElem?_toArray, List.getElem?_cons_zero, List.getElem?_cons_succ] at a0 a1 a2 b0 b1 b2
        go_wp2_with fail
        refine (rCompare_any vr vr2 _).mono ?_
        rintro e w3 ⟨rfl, hb3⟩
        have HB3 := Lib.hid (below_next HB.out hb3)
        have a2 := Kept.of_below hb3 _ _ a2
        have b2 := Kept.of_below hb3 _ _ b2
        clear hb3 a0 a1 b0 b1
        rw [HV.out]
        go_wp2
        go_ret
        exact ⟨by rw [HG.out] <;> rfl, HB3.out⟩
    · have hg : G = Op.bytesLess nm nm2 := hG.trans (stK_n h1 h2)
      have HG := Lib.hid hg
      have hkb : (k != k2) = false := by simpa using h1
      have hnb : (nm == nm2) = false := by simpa using h2
      clear hG hg h1 h2
      go_enter Tryz.func38, Tryz.ntmps38
      have K1 := Lib.hid (show Blk ((w.alloc (.cells #[.int .i64 k, .string (bs nm), .string (bs vr)] 24)).alloc (.cells #[.int .i64 k2, .string (bs nm2), .string (bs vr2)] 24)) w.heap.size 24 #[.int .i64 k, .string (bs nm), .string (bs vr)] from Blk.alloc (blk_new1 _ _ _) _)
      have K2 := Lib.hid (show Blk ((w.alloc (.cells #[.int .i64 k, .string (bs nm), .string (bs vr)] 24)).alloc (.cells #[.int .i64 k2, .string (bs nm2), .string (bs vr2)] 24)) (w.heap.size + 1) 24 #[.int .i64 k2, .string (bs nm2), .string (bs vr2)] from blk_new2 _ _ _ _)
      have HB := Lib.hid (show Below w.heap.size w ((w.alloc (.cells #[.int .i64 k, .string (bs nm), .string (bs vr)] 24)).alloc (.cells #[.int .i64 k2, .string (bs nm2), .string (bs vr2)] 24)) from below_alloc (below_alloc (Below.refl _ _) _) _)
      have a0 := K1.out.cell 0
      have a1 := K1.out.cell 1
      have a2 := K1.out.cell 2
      have b0 := K2.out.cell 0
      have b1 := K2.out.cell 1
      have b2 := K2.out.cell 2
      simp only [List.getElem?_toArray, List.getElem?_cons_zero, List.getElem?_cons_succ] at a0 a1 a2 b0 b1 b2
      go_wp2
      go_ret
      exact ⟨by rw [HG.out] <;> rfl, HB.out⟩
  · have hg : G = decide (k < k2) := hG.trans (stK_k h1)
    have HG := Lib.hid hg
    have hkb : (k != k2) = true := by simpa using h1
    clear hG hg h1
    go_enter Tryz.func38, Tryz.ntmps38
    have K1 := Lib.hid (show Blk ((w.alloc (.cells #[.int .i64 k, .string (bs nm), .string (bs vr)] 24)).alloc (.cells #[.int .i64 k2, .string (bs nm2), .string (bs vr2)] 24)) w.heap.size 24 #[.int .i64 k, .string (bs nm), .string (bs vr)] from Blk.alloc (blk_new1 _ _ _) _)
    have K2 := Lib.hid (show Blk ((w.alloc (.cells #[.int .i64 k, .string (bs nm), .string (bs vr)] 24)).alloc (.cells #[.int .i64 k2, .string (bs nm2), .string (bs vr2)] 24)) (w.heap.size + 1) 24 #[.int .i64 k2, .string (bs nm2), .string (bs vr2)] from blk_new2 _ _ _ _)
    have HB := Lib.hid (show Below w.heap.size w ((w.alloc (.cells #[.int .i64 k, .string (bs nm), .string (bs vr)] 24)).alloc (.cells #[.int .i64 k2, .string (bs nm2), .string (bs vr2)] 24)) from below_alloc (below_alloc (Below.refl _ _) _) _)
    have a0 := K1.out.cell 0
    have a1 := K1.out.cell 1
    have a2 := K1.out.cell 2
    have b0 := K2.out.cell 0
    have b1 := K2.out.cell 1
    have b2 := K2.out.cell 2
    simp only [List.getElem?_toArray, List.getElem?_cons_zero, List.getElem?_cons_succ] at a0 a1 a2 b0 b1 b2
    go_wp2
    go_ret
    exact ⟨by rw [HG.out] <;> rfl, HB.out⟩
end Go.Proofs.YtaicidbopgnmfaaGreatDoor
