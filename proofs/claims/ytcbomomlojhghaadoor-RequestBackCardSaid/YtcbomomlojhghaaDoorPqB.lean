/- The contract of request.Parse, for any bytes. -/
import Derived.Test.YtcbomomlojhghaaDoorAwR
import Derived.Test.YtcbomomlojhghaaDoorSb
namespace Go.Proofs.YtcbomomlojhghaaDoor
set_option linter.unusedSimpArgs false
set_option linter.unusedVariables false
open Go.RowKit
attribute [local go_sem ↓] Go.wp_at_zero Go.wp_at_succ
set_option maxRecDepth 100000 in
set_option maxHeartbeats 1000000 in
theorem qParse_err (x : Value) (w : World) (r : List (List UInt8) × Int × Int) (he : r.2.1 ≠ 0)
    (hL : Calls Tryd.prog 38 #[x] (w.alloc (.cells #[.int .i64 0, .int .i64 0] 44)) (RetLn (w.alloc (.cells #[.int .i64 0, .int .i64 0] 44)) r)) :
    Calls Tryd.prog 15 #[x] w (RetPr w ([], r.2.1, r.2.2)) := by
  have HQ := Lib.hid hL
  have K0 := Lib.hid (blk_new1 w 44 #[.int .i64 0, .int .i64 0])
  have HB0 := Lib.hid (below_alloc (Below.refl w.heap.size w) (.cells #[.int .i64 0, .int .i64 0] 44))
  obtain ⟨L, E, i⟩ := r
  dsimp only at he HQ ⊢
  have hne : (E != 0) = true := by rw [bne_iff_ne]; exact he
  clear hL he
  go_enter Tryd.func15, Tryd.ntmps15
  go_wp2_with fail
  refine HQ.out.mono ?_
  rintro e w2 ⟨A, c, rfl, _, hb⟩
  have K02 := Lib.hid ((K0.out.next hb).alloc (.cells #[.int .i64 E, .int .i64 i] 44))
  have HB2 := Lib.hid (below_alloc (below_next HB0.out hb) (.cells #[.int .i64 E, .int .i64 i] 44))
  have KA := Lib.hid (blk_new1 w2 44 #[.int .i64 E, .int .i64 i])
  clear hb HQ K0 HB0
  dsimp only
  go_wp2_with fail
  generalize w2.alloc (.cells #[.int .i64 E, .int .i64 i] 44) = W at K02 HB2 KA ⊢
  have KD := Lib.hid (show Blk W.drew _ _ _ from K02.out.drewN 1)
  have AD := Lib.hid (show Blk W.drew _ _ _ from KA.out.drewN 1)
  have g0 := K02.out.frozen 0
  have g1 := K02.out.frozen 1
  have d0 := K02.out.cell 0
  have d1 := K02.out.cell 1
  have f0 := KD.out.frozen 0
  have f1 := KD.out.frozen 1
  have c0 := KD.out.cell 0
  have c1 := KD.out.cell 1
  have a0 := AD.out.cell 0
  have a1 := AD.out.cell 1
  simp only [List.getElem?_toArray, List.getElem?_cons_zero, List.getElem?_cons_succ] at c0 c1 a0 a1 d0 d1
  have hsz0 := K02.out.lt
  go_region
  all_goals go_wp2
  all_goals
    refine bodyPost_ret (v := .tuple #[.slice none 0 0, .agg #[.int .i64 E, .int .i64 i]]) (by simp [results, Tryd.results15, go_sem, d0, d1, c0, c1, hsz0]; (try rfl)) rfl ?_
    have hb0 := HB2.out
    exact RetPr.none_ rfl (by first | exact below_drewN ((hb0.setCell (Nat.le_refl _) _).setCell (Nat.le_refl _) _) 1 | exact ((below_drewN hb0 1).setCell (Nat.le_refl _) _).setCell (Nat.le_refl _) _)
/-- the request of a text -/
def parseR (l : List UInt8) : List Stp × Int × Int := if (linesR l).2.1 = 0 then parL 0 (linesR l).1 [] else ([], (linesR l).2.1, (linesR l).2.2)
theorem linesR_ok {l : List UInt8} (h : (linesR l).2.1 = 0) : ∃ L, linesR l = (L, 0, 0) ∧ L.length ≤ 1000000 ∧ ∀ s ∈ L, s.length ≤ 1048576 := by
  unfold linesR at h ⊢
  split at h
  · simp at h
  · rename_i h64
    rw [if_neg h64]
    by_cases h1 : (lineF 0 (linS l)).1 = 0
    · rw [if_pos h1]
      refine ⟨_, rfl, ?_, fun s hs => ?_⟩
      · have h2 := splB_len l
        have h3 : Lib.countByte l 10 ≤ l.length := by unfold Lib.countByte; exact List.count_le_length
        unfold linS
        split
        · rw [List.length_dropLast]; omega
        · omega
      · have h2 : s ∈ splB l := by
          unfold linS at hs
          split at hs
          · exact List.dropLast_subset _ hs
          · exact hs
        have := splB_short l s h2
        omega
    · rw [if_neg h1] at h
      exact absurd h h1
set_option maxRecDepth 100000 in
theorem qParseB_any (l : List UInt8) (A : Option Addr) (c : Nat) (w : World) (hs : Bts w A c l) (hT : Lib.Utf8Tabs 0 1 w) :
    Calls Tryd.prog 15 #[.slice A l.length c] w (RetPr w (parseR l)) := by
  have hL := lines_any l A c _ (hs.kept (Kept.alloc w (.cells #[.int .i64 0, .int .i64 0] 44))) (tabs_kept hT (Kept.alloc w (.cells #[.int .i64 0, .int .i64 0] 44)))
  unfold parseR
  by_cases h0 : (linesR l).2.1 = 0
  · obtain ⟨L, he, h1, h2⟩ := linesR_ok h0
    rw [if_pos h0, he]
    rw [he] at hL
    exact qParse_any L _ w h1 h2 hL
  · rw [if_neg h0]
    exact qParse_err _ w _ h0 hL
end Go.Proofs.YtcbomomlojhghaaDoor
