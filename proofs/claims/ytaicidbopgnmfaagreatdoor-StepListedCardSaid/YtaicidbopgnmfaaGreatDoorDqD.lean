/- The comparator of step.All; the reference's SameSteps at equal rows. -/
import Derived.Test.YtaicidbopgnmfaaGreatDoorDqC
namespace Go.Proofs.YtaicidbopgnmfaaGreatDoor
set_option linter.unusedSimpArgs false
set_option linter.unusedVariables false
open Go.RowKit
attribute [local go_sem ↓] Go.wp_at_zero Go.wp_at_succ
/-- what the comparator says -/
def sgK (a b : Stp) : Int := if stK a b < 0 then -1 else if stK b a < 0 then 1 else 0
set_option maxRecDepth 100000 in
set_option maxHeartbeats 2000000 in
theorem stcmp_any (k : Int) (nm vr : List UInt8) (k2 : Int) (nm2 vr2 : List UInt8) (w : World) :
    Calls Tryz.prog 65 #[.agg #[.int .i64 k, .string (bs nm), .string (bs vr)], .agg #[.int .i64 k2, .string (bs nm2), .string (bs vr2)]] w fun e w' => e = .returned (.int .i64 (sgK ⟨k, nm, vr⟩ ⟨k2, nm2, vr2⟩)) ∧ Below w.heap.size w w' := by
  obtain ⟨G, hG⟩ : ∃ G, G = sgK ⟨k, nm, vr⟩ ⟨k2, nm2, vr2⟩ := ⟨_, rfl⟩
  rw [← hG]
  by_cases h1 : stK ⟨k, nm, vr⟩ ⟨k2, nm2, vr2⟩ < 0
  · have HG := Lib.hid (show G = -1 by rw [hG, sgK, if_pos h1])
    have H1 := Lib.hid (show decide (stK ⟨k, nm, vr⟩ ⟨k2, nm2, vr2⟩ < 0) = true from decide_eq_true h1)
    clear hG h1
    go_enter Tryz.func65, Tryz.ntmps65
    have K1 := Lib.hid (show Blk ((w.alloc (.cells #[.int .i64 k, .string (bs nm), .string (bs vr)] 24)).alloc (.cells #[.int .i64 k2, .string (bs nm2), .string (bs vr2)] 24)) w.heap.size 24 #[.int .i64 k, .string (bs nm), .string (bs vr)] from Blk.alloc (blk_new1 _ _ _) _)
    have K2 := Lib.hid (show Blk ((w.alloc (.cells #[.int .i64 k, .string (bs nm), .string (bs vr)] 24)).alloc (.cells #[.int .i64 k2, .string (bs nm2), .string (bs vr2)] 24)) (w.heap.size + 1) 24 #[.int .i64 k2, .string (bs nm2), .string (bs vr2)] from blk_new2 _ _ _ _)
    have HB := Lib.hid (show Below w.heap.size w ((w.alloc (.cells #[.int .i64 k, .string (bs nm), .string (bs vr)] 24)).alloc (.cells #[.int .i64 k2, .string (bs nm2), .string (bs vr2)] 24)) from below_alloc (below_alloc (Below.refl _ _) _) _)
    have a0 := K1.out.cell 0
    have a1 := K1.out.cell 1
    have a2 := K1.out.cell 2
    have b0 := K2.out.cell 0
    have b1 := K2.out.cell 1
    have b2 := K2.out.cell 2
    simp only [List.getElem?_toArray, List.getElem?_cons_zero, List.getElem?_cons_succ] at a0 a1 a2 b0 b1 b2
    go_wp2_with fail
    have HQ := Lib.hid (less_any k nm vr k2 nm2 vr2 ((w.alloc (.cells #[.int .i64 k, .string (bs nm), .string (bs vr)] 24)).alloc (.cells #[.int .i64 k2, .string (bs nm2), .string (bs vr2)] 24)))
    refine HQ.out.mono ?_
    rintro e w3 ⟨rfl, hb3⟩
    have HB3 := Lib.hid (below_next HB.out hb3)
    have a0 := Kept.of_below hb3 _ _ a0
    have a1 := Kept.of_below hb3 _ _ a1
    have a2 := Kept.of_below hb3 _ _ a2
    have b0 := Kept.of_below hb3 _ _ b0
    have b1 := Kept.of_below hb3 _ _ b1
    have b2 := Kept.of_below hb3 _ _ b2
    clear hb3 HQ
    rw [H1.out]
    go_wp2
    go_ret
    exact ⟨by rw [HG.out]; rfl, HB3.out⟩
  · have H1 := Lib.hid (show decide (stK ⟨k, nm, vr⟩ ⟨k2, nm2, vr2⟩ < 0) = false from decide_eq_false h1)
    by_cases h2 : stK ⟨k2, nm2, vr2⟩ ⟨k, nm, vr⟩ < 0
    · have HG := Lib.hid (show G = 1 by rw [hG, sgK, if_neg h1, if_pos h2])
      have H2 := Lib.hid (show decide (stK ⟨k2, nm2, vr2⟩ ⟨k, nm, vr⟩ < 0) = true from decide_eq_true h2)
      clear hG h1 h2
      go_enter Tryz.func65, Tryz.ntmps65
      have K1 := Lib.hid (show Blk ((w.alloc (.cells #[.int .i64 k, .string (bs nm), .string (bs vr)] 24)).alloc (.cells #[.int .i64 k2, .string (bs nm2), .string (bs vr2)] 24)) w.heap.size 24 #[.int .i64 k, .string (bs nm), .string (bs vr)] from Blk.alloc (blk_new1 _ _ _) _)
      have K2 := Lib.hid (show Blk ((w.alloc (.cells #[.int .i64 k, .string (bs nm), .string (bs vr)] 24)).alloc (.cells #[.int .i64 k2, .string (bs nm2), .string (bs vr2)] 24)) (w.heap.size + 1) 24 #[.int .i64 k2, .string (bs nm2), .string (bs vr2)] from blk_new2 _ _ _ _)
      have HB := Lib.hid (show Below w.heap.size w ((w.alloc (.cells #[.int .i64 k, .string (bs nm), .string (bs vr)] 24)).alloc (.cells #[.int .i64 k2, .string (bs nm2), .string (bs vr2)] 24)) from below_alloc (below_alloc (Below.refl _ _) _) _)
      have a0 := K1.out.cell 0
      have a1 := K1.out.cell 1
      have a2 := K1.out.cell 2
      have b0 := K2.out.cell 0
      have b1 := K2.out.cell 1
      have b2 := K2.out.cell 2
      simp only [List.getElem?_toArray, List.getElem?_cons_zero, List.getElem?_cons_succ] at a0 a1 a2 b0 b1 b2
      go_wp2_with fail
      have HQ := Lib.hid (less_any k nm vr k2 nm2 vr2 ((w.alloc (.cells #[.int .i64 k, .string (bs nm), .string (bs vr)] 24)).alloc (.cells #[.int .i64 k2, .string (bs nm2), .string (bs vr2)] 24)))
      refine HQ.out.mono ?_
      rintro e w3 ⟨rfl, hb3⟩
      have HB3 := Lib.hid (below_next HB.out hb3)
      have a0 := Kept.of_below hb3 _ _ a0
      have a1 := Kept.of_below hb3 _ _ a1
      have a2 := Kept.of_below hb3 _ _ a2
      have b0 := Kept.of_below hb3 _ _ b0
      have b1 := Kept.of_below hb3 _ _ b1
      have b2 := Kept.of_below hb3 _ _ b2
      clear hb3 HQ
      rw [H1.out]
      go_wp2_with fail
      have HQ := Lib.hid (less_any k2 nm2 vr2 k nm vr w3)
      refine HQ.out.mono ?_
      rintro e w4 ⟨rfl, hb4⟩
      rw [H2.out]
      go_wp2
      go_ret
      exact ⟨by rw [HG.out]; rfl, below_next HB3.out hb4⟩
    · have HG := Lib.hid (show G = 0 by rw [hG, sgK, if_neg h1, if_neg h2])
      have H2 := Lib.hid (show decide (stK ⟨k2, nm2, vr2⟩ ⟨k, nm, vr⟩ < 0) = false from decide_eq_false h2)
      clear hG h1 h2
      go_enter Tryz.func65, Tryz.ntmps65
      have K1 := Lib.hid (show Blk ((w.alloc (.cells #[.int .i64 k, .string (bs nm), .string (bs vr)] 24)).alloc (.cells #[.int .i64 k2, .string (bs nm2), .string (bs vr2)] 24)) w.heap.size 24 #[.int .i64 k, .string (bs nm), .string (bs vr)] from Blk.alloc (blk_new1 _ _ _) _)
      have K2 := Lib.hid (show Blk ((w.alloc (.cells #[.int .i64 k, .string (bs nm), .string (bs vr)] 24)).alloc (.cells #[.int .i64 k2, .string (bs nm2), .string (bs vr2)] 24)) (w.heap.size + 1) 24 #[.int .i64 k2, .string (bs nm2), .string (bs vr2)] from blk_new2 _ _ _ _)
      have HB := Lib.hid (show Below w.heap.size w ((w.alloc (.cells #[.int .i64 k, .string (bs nm), .string (bs vr)] 24)).alloc (.cells #[.int .i64 k2, .string (bs nm2), .string (bs vr2)] 24)) from below_alloc (below_alloc (Below.refl _ _) _) _)
      have a0 := K1.out.cell 0
      have a1 := K1.out.cell 1
      have a2 := K1.out.cell 2
      have b0 := K2.out.cell 0
      have b1 := K2.out.cell 1
      have b2 := K2.out.cell 2
      simp only [List.getElem?_toArray, List.getElem?_cons_zero, List.getElem?_cons_succ] at a0 a1 a2 b0 b1 b2
      go_wp2_with fail
      have HQ := Lib.hid (less_any k nm vr k2 nm2 vr2 ((w.alloc (.cells #[.int .i64 k, .string (bs nm), .string (bs vr)] 24)).alloc (.cells #[.int .i64 k2, .string (bs nm2), .string (bs vr2)] 24)))
      refine HQ.out.mono ?_
      rintro e w3 ⟨rfl, hb3⟩
      have HB3 := Lib.hid (below_next HB.out hb3)
      have a0 := Kept.of_below hb3 _ _ a0
      have a1 := Kept.of_below hb3 _ _ a1
      have a2 := Kept.of_below hb3 _ _ a2
      have b0 := Kept.of_below hb3 _ _ b0
      have b1 := Kept.of_below hb3 _ _ b1
      have b2 := Kept.of_below hb3 _ _ b2
      clear hb3 HQ
      rw [H1.out]
      go_wp2_with fail
      have HQ := Lib.hid (less_any k2 nm2 vr2 k nm vr w3)
      refine HQ.out.mono ?_
      rintro e w4 ⟨rfl, hb4⟩
      rw [H2.out]
      go_wp2
      go_ret
      exact ⟨by rw [HG.out]; rfl, below_next HB3.out hb4⟩
set_option maxRecDepth 100000 in
set_option maxHeartbeats 2000000 in
theorem sameSteps_any (l : List Stp) (A : Option Addr) (c : Nat) (A' : Option Addr) (c' : Nat) (w : World) (h1 : Stps w A c l) (h2 : Stps w A' c' l) :
    Calls Tryz.prog 28 #[.slice A l.length c, .slice A' l.length c'] w fun e w' => e = .returned (.bool true) ∧ Below w.heap.size w w' := by
  have H1 := Lib.hid h1
  have H2 := Lib.hid h2
  have hbd := Slc.bd h1
  clear h1 h2
  go_enter Tryz.func28, Tryz.ntmps28
  go_wp2
  go_loopw [13] (fun i wr => ∃ k : Nat, k ≤ l.length ∧ i = .int .i64 k ∧ Below w.heap.size w wr) (fun i _ => l.length - (intOf i).toNat)
  case atStart => exact ⟨0, Nat.zero_le _, rfl, Below.refl _ _⟩
  case round =>
    obtain ⟨k, hk, rfl, hb⟩ := hrel
    have HB := Lib.hid hb
    clear hb
    by_cases hlt : k < l.length
    · obtain ⟨⟨kd, nm, vr⟩, b, o, hst, rfl, e0, e1, e2⟩ := H1.out.at_ hlt (Kept.of_below HB.out)
      obtain ⟨st2, b2, o2, hst2, rfl, d0, d1, d2⟩ := H2.out.at_ hlt (Kept.of_below HB.out)
      obtain rfl : (⟨kd, nm, vr⟩ : Stp) = st2 := Option.some.inj (hst.symm.trans hst2)
      dsimp only at e0 e1 e2 d0 d1 d2
      clear hst hst2
      go_wp2
      go_quiet (fail)
      go_wp2
      go_roundw
      case rel => exact ⟨k + 1, by omega, by simp, by first | exact HB.out | exact below_drewN HB.out _⟩
      case measure => (try simp only [intOf]); omega
    · go_wp2
      go_ret
      exact ⟨rfl, HB.out⟩
end Go.Proofs.YtaicidbopgnmfaaGreatDoor
