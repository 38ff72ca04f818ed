/- The contract of step.Text. -/
import Derived.Test.YtaicidbopgnmfaaGreatDoorDrA
import Derived.Laws.Concat
namespace Go.Proofs.YtaicidbopgnmfaaGreatDoor
set_option linter.unusedSimpArgs false
set_option linter.unusedVariables false
open Go.RowKit
def textT (st : Stp) : List UInt8 := if mayT st then wordS st.kind ++ [32] ++ st.name ++ (if st.kind = 3 then [32] ++ st.ver else []) else []
theorem bs_appT (a b : List UInt8) : bs (a ++ b) = bs a ++ bs b := ByteArray.ext (by simp [bs])
theorem wordS_len (k : Int) : (wordS k).length ≤ 11 := by
  unfold wordS
  repeat' split
  all_goals simp
set_option maxRecDepth 100000 in
set_option maxHeartbeats 2000000 in
theorem text_any (k : Int) (nm vr : List UInt8) (w : World) (hn : short nm) (hv : short vr) :
    Calls Tryz.prog 36 #[.agg #[.int .i64 k, .string (bs nm), .string (bs vr)]] w fun e w' => e = .returned (.string (bs (textT ⟨k, nm, vr⟩))) ∧ Below w.heap.size w w' := by
  obtain ⟨G, hG⟩ : ∃ G, G = textT ⟨k, nm, vr⟩ := ⟨_, rfl⟩
  rw [← hG]
  have hwl := wordS_len k
  have z1 : (bs (wordS k)).size + (⟨#[32]⟩ : ByteArray).size ≤ 9223372036854775807 := by simp [bs, ByteArray.size]; omega
  have z2 : (bs (wordS k) ++ (⟨#[32]⟩ : ByteArray)).size + (bs nm).size ≤ 9223372036854775807 := by unfold short at hn; simp [bs, ByteArray.size_append, ByteArray.size]; omega
  have z3 : (⟨#[32]⟩ : ByteArray).size + (bs vr).size ≤ 9223372036854775807 := by unfold short at hv; simp [bs, ByteArray.size]; omega
  have z4 : (bs (wordS k) ++ (⟨#[32]⟩ : ByteArray) ++ bs nm).size + ((⟨#[32]⟩ : ByteArray) ++ bs vr).size ≤ 9223372036854775807 := by unfold short at hn hv; simp [bs, ByteArray.size_append, ByteArray.size]; omega
  clear hwl
  rcases hm : mayT ⟨k, nm, vr⟩
  · have HM := Lib.hid hm
    have HG := Lib.hid (show G = [] by rw [hG, textT, hm]; rfl)
    clear hG hm
    go_enter Tryz.func36, Tryz.ntmps36
    have K1 := Lib.hid (blk_new1 w 24 #[.int .i64 k, .string (bs nm), .string (bs vr)])
    have HB := Lib.hid (below_alloc (Below.refl w.heap.size w) (.cells #[.int .i64 k, .string (bs nm), .string (bs vr)] 24))
    have a0 := K1.out.cell 0
    have a1 := K1.out.cell 1
    have a2 := K1.out.cell 2
    simp only [List.getElem?_toArray, List.getElem?_cons_zero, List.getElem?_cons_succ] at a0 a1 a2
    go_wp2_with fail
    have HQ := Lib.hid (mayT_any k nm vr (w.alloc (.cells #[.int .i64 k, .string (bs nm), .string (bs vr)] 24)) hn)
    refine HQ.out.mono ?_
    rintro e w1 ⟨rfl, hb1⟩
    rw [HM.out]
    have HB1 := Lib.hid (below_next HB.out hb1)
    have a0 := Kept.of_below hb1 _ _ a0
    have a1 := Kept.of_below hb1 _ _ a1
    have a2 := Kept.of_below hb1 _ _ a2
    clear hb1 HQ HB
    go_wp2
    go_ret
    exact ⟨by rw [HG.out]; rfl, HB1.out⟩
  · have HM := Lib.hid hm
    by_cases hk : k = 3
    · have HG := Lib.hid (show G = wordS k ++ [32] ++ nm ++ ([32] ++ vr) by rw [hG, textT, hm]; dsimp only; rw [if_pos rfl, if_pos hk])
      have hkb : (k == 3) = true := by simpa using hk
      clear hG hm hk
      go_enter Tryz.func36, Tryz.ntmps36
      have K1 := Lib.hid (blk_new1 w 24 #[.int .i64 k, .string (bs nm), .string (bs vr)])
      have HB := Lib.hid (below_alloc (Below.refl w.heap.size w) (.cells #[.int .i64 k, .string (bs nm), .string (bs vr)] 24))
      have a0 := K1.out.cell 0
      have a1 := K1.out.cell 1
      have a2 := K1.out.cell 2
      simp only [List.getElem?_toArray, List.getElem?_cons_zero, List.getElem?_cons_succ] at a0 a1 a2
      go_wp2_with fail
      have HQ := Lib.hid (mayT_any k nm vr (w.alloc (.cells #[.int .i64 k, .string (bs nm), .string (bs vr)] 24)) hn)
      refine HQ.out.mono ?_
      rintro e w1 ⟨rfl, hb1⟩
      rw [HM.out]
      have HB1 := Lib.hid (below_next HB.out hb1)
      have a0 := Kept.of_below hb1 _ _ a0
      have a1 := Kept.of_below hb1 _ _ a1
      have a2 := Kept.of_below hb1 _ _ a2
      clear hb1 HQ HB
      go_wp2_with fail
      go_quiet ((go_at_call 56; exact Calls.quiet_of_same ((word_any k _).mono fun _ _ h => ⟨h.1, h.2.symm⟩)))
      go_wp2
      go_ret
      exact ⟨by rw [HG.out]; simp only [bs_appT]; rfl, below_drewN HB1.out _⟩
    · have HG := Lib.hid (show G = wordS k ++ [32] ++ nm by rw [hG, textT, hm]; dsimp only; rw [if_pos rfl, if_neg hk]; simp)
      have hkb : (k == 3) = false := by simpa using hk
      clear hG hm hk
      go_enter Tryz.func36, Tryz.ntmps36
      have K1 := Lib.hid (blk_new1 w 24 #[.int .i64 k, .string (bs nm), .string (bs vr)])
      have HB := Lib.hid (below_alloc (Below.refl w.heap.size w) (.cells #[.int .i64 k, .string (bs nm), .string (bs vr)] 24))
      have a0 := K1.out.cell 0
      have a1 := K1.out.cell 1
      have a2 := K1.out.cell 2
      simp only [List.getElem?_toArray, List.getElem?_cons_zero, List.getElem?_cons_succ] at a0 a1 a2
      go_wp2_with fail
      have HQ := Lib.hid (mayT_any k nm vr (w.alloc (.cells #[.int .i64 k, .string (bs nm), .string (bs vr)] 24)) hn)
      refine HQ.out.mono ?_
      rintro e w1 ⟨rfl, hb1⟩
      rw [HM.out]
      have HB1 := Lib.hid (below_next HB.out hb1)
      have a0 := Kept.of_below hb1 _ _ a0
      have a1 := Kept.of_below hb1 _ _ a1
      have a2 := Kept.of_below hb1 _ _ a2
      clear hb1 HQ HB
      go_wp2_with fail
      go_quiet ((go_at_call 56; exact Calls.quiet_of_same ((word_any k _).mono fun _ _ h => ⟨h.1, h.2.symm⟩)))
      go_wp2
      go_ret
      exact ⟨by rw [HG.out]; simp only [bs_appT]; rfl, below_drewN HB1.out _⟩
end Go.Proofs.YtaicidbopgnmfaaGreatDoor
