/- The contract of request.parse: the ask of a line's words. -/
import Derived.Test.YtcbomomlojhghaaDoorRq
import Derived.Test.YtcbomomlojhghaaDoorWd
import Derived.Deep.RegionWith
namespace Go.Proofs.YtcbomomlojhghaaDoor
set_option linter.unusedSimpArgs false
set_option linter.unusedVariables false
open Go.RowKit
attribute [local go_sem ↓] Go.wp_at_zero Go.wp_at_succ
/-- an ask, and whether it may be, are returned -/
def RetA (w : World) (r : Stp × Bool) (e : Ending) (w' : World) : Prop := e = .returned (.tuple #[.agg #[.int .i64 r.1.kind, .string (bs r.1.name), .string (bs r.1.ver)], .bool r.2]) ∧ Below w.heap.size w w'
theorem cutS_le {l a b : List UInt8} {c : UInt8} {is : Bool} (h : cutS l c = (a, b, is)) : a.length ≤ l.length ∧ b.length ≤ l.length := by
  unfold cutS at h
  split at h <;> simp only [Prod.mk.injEq] at h <;> obtain ⟨rfl, rfl, rfl⟩ := h <;> simp <;> omega
def ltW (a : List UInt8) (k : Int) : Prop := ∀ j : Int, 1 ≤ j → j < k → wordQ j ≠ a
theorem ltW_step {a : List UInt8} {k : Int} (h : ltW a k) (hk : wordQ k ≠ a) : ltW a (k + 1) := fun j h1 h2 => by
  by_cases e : j = k
  · rw [e]; exact hk
  · exact h j h1 (by omega)
set_option maxRecDepth 100000 in
set_option maxHeartbeats 2000000 in
theorem qparse_any (ws : List (List UInt8)) (A : Option Addr) (c : Nat) (w : World) (hs : Strs w A c ws) (hn : ws ≠ []) (hb : ∀ x ∈ ws, x.length ≤ 1048576) :
    Calls Tryd.prog 41 #[.slice A ws.length c] w (RetA w (parseQ ws)) := by
  rcases ws with _ | ⟨a, rest⟩
  · exact absurd rfl hn
  obtain ⟨G, hG⟩ : ∃ G, G = parseQ (a :: rest) := ⟨_, rfl⟩
  rw [← hG]
  have HG := Lib.hid hG
  have HS := Lib.hid hs
  have HLB := Lib.hid hb
  obtain ⟨n, hnl⟩ : ∃ n, n = (a :: rest).length := ⟨_, rfl⟩
  rw [← hnl]
  have hnp : 0 < n := by rw [hnl]; simp
  have HNL := Lib.hid hnl
  clear hG hs hb hn hnl
  have K0 := Lib.hid (blk_new1 w 78 #[.int .i64 0, .string (bs []), .string (bs [])])
  have HB0 := Lib.hid (below_alloc (Below.refl w.heap.size w) (.cells #[.int .i64 0, .string (bs []), .string (bs [])] 78))
  go_enter Tryd.func41, Tryd.ntmps41
  go_wp2
  go_loopw [4] (fun i wr => ∃ k : Nat, 1 ≤ k ∧ k ≤ 8 ∧ i = .int .i64 k ∧ ltW a k ∧ Blk wr w.heap.size 78 #[.int .i64 0, .string (bs []), .string (bs [])] ∧ Below w.heap.size w wr) (fun i _ => 8 - (intOf i).toNat)
  case atStart => exact ⟨1, by omega, by omega, rfl, fun j h1 h2 => by omega, K0.out, HB0.out⟩
  case round =>
    clear K0 HB0
    obtain ⟨k, h1, h8, rfl, hlw, hk0, hb⟩ := hrel
    have HLW := Lib.hid hlw
    have K0 := Lib.hid hk0
    have HB := Lib.hid hb
    clear hlw hk0 hb
    by_cases h7 : k < 8
    · have hkd : decide ((k : Int) ≤ 7) = true := decide_eq_true (by omega)
      obtain ⟨W0, hW⟩ : ∃ W0, wordQ (k : Int) = W0 := ⟨_, rfl⟩
      obtain ⟨N0, hN⟩ : ∃ N0, namQ (k : Int) = N0 := ⟨_, rfl⟩
      obtain ⟨V0, hV⟩ : ∃ V0, verQ (k : Int) = V0 := ⟨_, rfl⟩
      have HQ := Lib.hid (qof_any k wr)
      rw [hW, hN, hV] at HQ
      have HW := Lib.hid hW
      have HN := Lib.hid hN
      have HV := Lib.hid hV
      clear hW hN hV
      go_wp2_with fail
      refine HQ.out.mono ?_
      rintro e w1 ⟨rfl, hb1⟩
      have K0 := Lib.hid ((K0.out.next hb1).alloc (.cells #[.string (bs W0), .bool N0, .bool V0] 90))
      have HB := Lib.hid (below_alloc (below_next HB.out hb1) (.cells #[.string (bs W0), .bool N0, .bool V0] 90))
      have KH := Lib.hid (blk_new1 w1 90 #[.string (bs W0), .bool N0, .bool V0])
      clear hb1 HQ
      obtain ⟨_, g, o, h0, rfl, e0⟩ := HS.out.at_ (i := 0) (by simp) (Kept.of_below HB.out)
      obtain rfl := Option.some.inj h0
      rw [Nat.add_zero] at e0
      clear h0
      by_cases hw0 : W0 = a
      · subst hw0
        have hwb : (W0 == W0) = true := by simp
        have KHn := Lib.hid (fun n => KH.out.drewN n)
        go_wp2_with fail
        go_quiet (fail)
        have K0a := K0
        have KHa := KH
        have HBa := HB
        clear K0 KH HB
        generalize hWW : World.drewN _ _ = W
        have K0 := Lib.hid (show Blk W w.heap.size 78 #[.int .i64 0, .string (bs []), .string (bs [])] by rw [← hWW]; exact K0a.out.drewN _)
        have KH := Lib.hid (show Blk W w1.heap.size 90 #[.string (bs W0), .bool N0, .bool V0] by rw [← hWW]; exact KHa.out.drewN _)
        have HB := Lib.hid (show Below w.heap.size w W by rw [← hWW]; exact below_drewN HBa.out _)
        clear hWW e0 KHn hwb HLW K0a KHa HBa
        rcases N0 with _ | _
        · have hg := HG.out
          rw [← HW.out, pq_all (by omega) (by omega) HN.out, HW.out, ← HNL.out] at hg
          by_cases hn1 : n = 1
          · have hnb : ((n : Int) == 1) = true := by rw [beq_iff_eq]; omega
            have HG := Lib.hid (show G = (⟨k, [], []⟩, true) by rw [hg, hn1]; rfl)
            clear hg hn1
            have KO := K0.out.alloc (.cells #[.int .i64 k, .string { data := #[] }, .string { data := #[] }] 78)
            have f0 := KO.frozen 0
            have f1 := KO.frozen 1
            have f2 := KO.frozen 2
            have c0 := KO.cell 0
            have c1 := KO.cell 1
            have c2 := KO.cell 2
            have hc1 := (KH.out.alloc (.cells #[.int .i64 k, .string { data := #[] }, .string { data := #[] }] 78)).cell 1
            simp only [List.getElem?_toArray, List.getElem?_cons_zero, List.getElem?_cons_succ] at c0 c1 c2 hc1
            have hsz := KO.lt
            clear KO
            go_wp2
            refine bodyPost_ret (v := .tuple #[.agg #[.int .i64 k, .string (bs []), .string (bs [])], .bool true]) (by simp [results, Tryd.results41, go_sem, c0, c1, c2, hsz]; (try rfl)) rfl ?_
            have hb0 := HB.out
            exact ⟨by rw [HG.out], by first | exact (((below_alloc hb0 _).setCell (Nat.le_refl _) _).setCell (Nat.le_refl _) _).setCell (Nat.le_refl _) _ | exact ((hb0.setCell (Nat.le_refl _) _).setCell (Nat.le_refl _) _).setCell (Nat.le_refl _) _⟩
          · have hnb : ((n : Int) == 1) = false := by rw [beq_eq_false_iff_ne]; omega
            have HG := Lib.hid (show G = (⟨k, [], []⟩, false) by rw [hg]; simp [hn1])
            clear hg hn1
            have KO := K0.out.alloc (.cells #[.int .i64 k, .string { data := #[] }, .string { data := #[] }] 78)
            have f0 := KO.frozen 0
            have f1 := KO.frozen 1
            have f2 := KO.frozen 2
            have c0 := KO.cell 0
            have c1 := KO.cell 1
            have c2 := KO.cell 2
            have hc1 := (KH.out.alloc (.cells #[.int .i64 k, .string { data := #[] }, .string { data := #[] }] 78)).cell 1
            simp only [List.getElem?_toArray, List.getElem?_cons_zero, List.getElem?_cons_succ] at c0 c1 c2 hc1
            have hsz := KO.lt
            clear KO
            go_wp2
            refine bodyPost_ret (v := .tuple #[.agg #[.int .i64 k, .string (bs []), .string (bs [])], .bool false]) (by simp [results, Tryd.results41, go_sem, c0, c1, c2, hsz]; (try rfl)) rfl ?_
            have hb0 := HB.out
            exact ⟨by rw [HG.out], by first | exact (((below_alloc hb0 _).setCell (Nat.le_refl _) _).setCell (Nat.le_refl _) _).setCell (Nat.le_refl _) _ | exact ((hb0.setCell (Nat.le_refl _) _).setCell (Nat.le_refl _) _).setCell (Nat.le_refl _) _⟩
        · by_cases hn2 : n = 2
          · have hnb : ((n : Int) != 2) = false := by rw [hn2]; rfl
            rcases rest with _ | ⟨x, _ | ⟨y, t⟩⟩
            · have := HNL.out; simp at this; omega
            · have HG := Lib.hid (show G = parse2 k x by rw [HG.out, ← HW.out, pq_two (by omega) (by omega) HN.out])
              have HXL := Lib.hid (HLB.out x (by simp))
              have KO := Lib.hid (K0.out.alloc (.cells #[.int .i64 k, .string { data := #[] }, .string { data := #[] }] 78))
              have HBO := Lib.hid (below_alloc HB.out (.cells #[.int .i64 k, .string { data := #[] }, .string { data := #[] }] 78))
              have hc1 := (KH.out.alloc (.cells #[.int .i64 k, .string { data := #[] }, .string { data := #[] }] 78)).cell 1
              simp only [List.getElem?_toArray, List.getElem?_cons_zero, List.getElem?_cons_succ] at hc1
              obtain ⟨_, g', o', hw1, hA1, e1⟩ := HS.out.at_ (i := 1) (by simp) (Kept.of_below HBO.out)
              obtain rfl := Option.some.inj hw1
              obtain ⟨rfl, rfl⟩ : g = g' ∧ o = o' := by injection hA1 with hA; injection hA with h1 h2; exact ⟨h1, h2⟩
              have HBO2 := Lib.hid (below_alloc HB.out (.cells #[.int .i64 k, .string (bs x), .string { data := #[] }] 78))
              obtain ⟨_, g', o', hw2, hA2, e2⟩ := HS.out.at_ (i := 1) (by simp) (Kept.of_below HBO2.out)
              obtain rfl := Option.some.inj hw2
              obtain ⟨rfl, rfl⟩ : g = g' ∧ o = o' := by injection hA2 with hA; injection hA with h1 h2; exact ⟨h1, h2⟩
              clear hw1 hA1 hw2 hA2
              rcases hcu : cutS x 61 with ⟨cn, cv, is⟩
              have HQ := Lib.hid (cut_any x 61 HXL.out (W.alloc (.cells #[.int .i64 k, .string (bs x), .string { data := #[] }] 78)))
              rw [hcu] at HQ
              have HCN := Lib.hid (show cn.length ≤ 1048576 by have h := cutS_le hcu; have := HXL.out; omega)
              have hg := HG.out
              unfold parse2 at hg
              rw [hcu, HV.out] at hg
              dsimp only at hg
              clear hcu
              go_wp2_with fail
              refine HQ.out.mono ?_
              rintro e w4 ⟨rfl, hb4⟩
              have hgW : w.heap.size < W.heap.size := K0.out.lt
              have hgH : w1.heap.size < W.heap.size := KH.out.lt
              have K04 := Lib.hid ((K0.out.alloc _).next hb4)
              have KH4 := Lib.hid ((KH.out.alloc _).next hb4)
              have KA4 := Lib.hid ((blk_new1 W 78 #[.int .i64 k, .string (bs x), .string { data := #[] }]).next hb4)
              have HB4 := Lib.hid (below_next HBO2.out hb4)
              clear hb4 HQ e1 e2 hc1 KO HBO HBO2
              dsimp only
              rcases is
              · have HG4 := Lib.hid (show G = (⟨k, x, []⟩, mayQ ⟨k, x, []⟩) by rw [hg]; rfl)
                clear hg
                have HSX := Lib.hid (show short x by have := HXL.out; unfold short; omega)
                go_wp2_with fail
                have KAd := Lib.hid (show Blk (w4).drew _ _ _ from KA4.out.drewN 1)
                have K0d := Lib.hid (show Blk (w4).drew _ _ _ from K04.out.drewN 1)
                have HBd := Lib.hid (show Below w.heap.size w (w4).drew from below_drewN HB4.out 1)
                have a0 := KAd.out.cell 0
                have a1 := KAd.out.cell 1
                have a2 := KAd.out.cell 2
                simp only [List.getElem?_toArray, List.getElem?_cons_zero, List.getElem?_cons_succ] at a0 a1 a2
                go_region_with (go_at_call 48; refine (mayAsk_any k x [] _ HSX.out).mono ?_; rintro e w6 ⟨rfl, hb6⟩; have KA6 := KAd.out.next hb6; have K06 := K0d.out.next hb6; have b0 := KA6.cell 0; have b1 := KA6.cell 1; have b2 := KA6.cell 2; have c0 := K06.cell 0; have c1 := K06.cell 1; have c2 := K06.cell 2; have f0 := K06.frozen 0; have f1 := K06.frozen 1; have f2 := K06.frozen 2; (simp only [List.getElem?_toArray, List.getElem?_cons_zero, List.getElem?_cons_succ] at b0 b1 b2 c0 c1 c2); have hsz := K06.lt; have HB6 := Lib.hid (below_next HBd.out hb6))
                all_goals go_wp2
                all_goals
                  refine bodyPost_ret (v := .tuple #[.agg #[.int .i64 k, .string (bs x), .string (bs [])], .bool (mayQ ⟨k, x, []⟩)]) (by simp [results, Tryd.results41, go_sem, c0, c1, c2, hsz]; (try rfl)) rfl ?_
                  have hb0 := HB6.out
                  exact ⟨by rw [HG4.out], ((hb0.setCell (Nat.le_refl _) _).setCell (Nat.le_refl _) _).setCell (Nat.le_refl _) _⟩
              · have hc2 := KH4.out.cell 2
                simp only [List.getElem?_toArray, List.getElem?_cons_zero, List.getElem?_cons_succ] at hc2
                rcases V0 with _ | _
                · have HG4 := Lib.hid (show G = (⟨k, x, []⟩, mayQ ⟨k, x, []⟩) by rw [hg]; rfl)
                  clear hg
                  have HSX := Lib.hid (show short x by have := HXL.out; unfold short; omega)
                  go_wp2_with fail
                  have KAd := Lib.hid (show Blk (w4).drew _ _ _ from KA4.out.drewN 1)
                  have K0d := Lib.hid (show Blk (w4).drew _ _ _ from K04.out.drewN 1)
                  have HBd := Lib.hid (show Below w.heap.size w (w4).drew from below_drewN HB4.out 1)
                  have a0 := KAd.out.cell 0
                  have a1 := KAd.out.cell 1
                  have a2 := KAd.out.cell 2
                  simp only [List.getElem?_toArray, List.getElem?_cons_zero, List.getElem?_cons_succ] at a0 a1 a2
                  go_region_with (go_at_call 48; refine (mayAsk_any k x [] _ HSX.out).mono ?_; rintro e w6 ⟨rfl, hb6⟩; have KA6 := KAd.out.next hb6; have K06 := K0d.out.next hb6; have b0 := KA6.cell 0; have b1 := KA6.cell 1; have b2 := KA6.cell 2; have c0 := K06.cell 0; have c1 := K06.cell 1; have c2 := K06.cell 2; have f0 := K06.frozen 0; have f1 := K06.frozen 1; have f2 := K06.frozen 2; (simp only [List.getElem?_toArray, List.getElem?_cons_zero, List.getElem?_cons_succ] at b0 b1 b2 c0 c1 c2); have hsz := K06.lt; have HB6 := Lib.hid (below_next HBd.out hb6))
                  all_goals go_wp2
                  all_goals
                    refine bodyPost_ret (v := .tuple #[.agg #[.int .i64 k, .string (bs x), .string (bs [])], .bool (mayQ ⟨k, x, []⟩)]) (by simp [results, Tryd.results41, go_sem, c0, c1, c2, hsz]; (try rfl)) rfl ?_
                    have hb0 := HB6.out
                    exact ⟨by rw [HG4.out], ((hb0.setCell (Nat.le_refl _) _).setCell (Nat.le_refl _) _).setCell (Nat.le_refl _) _⟩
                · have KZ := Lib.hid (show Blk ((w4.setCell ⟨W.heap.size, 1, none⟩ (.string (bs cn))).setCell ⟨W.heap.size, 2, none⟩ (.string (bs cv))) w.heap.size 78 #[.int .i64 0, .string (bs []), .string (bs [])] from (K04.out.far (Nat.ne_of_lt hgW) _).far (Nat.ne_of_lt hgW) _)
                  have KY := Lib.hid (show Blk ((w4.setCell ⟨W.heap.size, 1, none⟩ (.string (bs cn))).setCell ⟨W.heap.size, 2, none⟩ (.string (bs cv))) W.heap.size 78 #[.int .i64 k, .string (bs cn), .string (bs cv)] from (KA4.out.set_ 1 _).set_ 2 _)
                  have HBZ := Lib.hid (show Below w.heap.size w ((w4.setCell ⟨W.heap.size, 1, none⟩ (.string (bs cn))).setCell ⟨W.heap.size, 2, none⟩ (.string (bs cv))) from (HB4.out.setCell (Nat.le_of_lt hgW) _).setCell (Nat.le_of_lt hgW) _)
                  have y1 := KA4.out.cell 1
                  have y2 := KA4.out.cell 2
                  have yf1 := KA4.out.frozen 1
                  have yf2 := KA4.out.frozen 2
                  simp only [List.getElem?_toArray, List.getElem?_cons_zero, List.getElem?_cons_succ] at y1 y2
                  by_cases hcv : cv = []
                  · have HG4 := Lib.hid (show G = (⟨0, [], []⟩, false) by rw [hg, hcv]; rfl)
                    have hvb : cv.isEmpty = true := by rw [hcv]; rfl
                    have f0 := KZ.out.frozen 0
                    have f1 := KZ.out.frozen 1
                    have f2 := KZ.out.frozen 2
                    have c0 := KZ.out.cell 0
                    have c1 := KZ.out.cell 1
                    have c2 := KZ.out.cell 2
                    simp only [List.getElem?_toArray, List.getElem?_cons_zero, List.getElem?_cons_succ] at c0 c1 c2
                    have hsz := KZ.out.lt
                    clear hg hcv
                    go_wp2
                    refine bodyPost_ret (v := .tuple #[.agg #[.int .i64 0, .string (bs []), .string (bs [])], .bool false]) (by simp [results, Tryd.results41, go_sem, c0, c1, c2, hsz]; (try rfl)) rfl ?_
                    have hb0 := HBZ.out
                    exact ⟨by rw [HG4.out], ((hb0.setCell (Nat.le_refl _) _).setCell (Nat.le_refl _) _).setCell (Nat.le_refl _) _⟩
                  · have hvb : cv.isEmpty = false := by simpa using hcv
                    have HG4 := Lib.hid (show G = (⟨k, cn, cv⟩, mayQ ⟨k, cn, cv⟩) by rw [hg]; simp [hcv])
                    have HSX := Lib.hid (show short cn by have := HCN.out; unfold short; omega)
                    clear hg hcv
                    obtain ⟨w5, hw5⟩ : ∃ w5, w5 = ((w4.setCell ⟨W.heap.size, 1, none⟩ (.string (bs cn))).setCell ⟨W.heap.size, 2, none⟩ (.string (bs cv))) := ⟨_, rfl⟩
                    rw [← hw5] at KZ KY HBZ
                    have K04 := KZ
                    have KA4 := KY
                    have HB4 := HBZ
                    go_wp2_with fail
                    rw [← hw5]
                    clear hw5 y1 y2 yf1 yf2 hc2
                    have KAd := Lib.hid (show Blk (w5).drew _ _ _ from KA4.out.drewN 1)
                    have K0d := Lib.hid (show Blk (w5).drew _ _ _ from K04.out.drewN 1)
                    have HBd := Lib.hid (show Below w.heap.size w (w5).drew from below_drewN HB4.out 1)
                    have a0 := KAd.out.cell 0
                    have a1 := KAd.out.cell 1
                    have a2 := KAd.out.cell 2
                    simp only [List.getElem?_toArray, List.getElem?_cons_zero, List.getElem?_cons_succ] at a0 a1 a2
                    go_region_with (go_at_call 48; refine (mayAsk_any k cn cv _ HSX.out).mono ?_; rintro e w6 ⟨rfl, hb6⟩; have KA6 := KAd.out.next hb6; have K06 := K0d.out.next hb6; have b0 := KA6.cell 0; have b1 := KA6.cell 1; have b2 := KA6.cell 2; have c0 := K06.cell 0; have c1 := K06.cell 1; have c2 := K06.cell 2; have f0 := K06.frozen 0; have f1 := K06.frozen 1; have f2 := K06.frozen 2; (simp only [List.getElem?_toArray, List.getElem?_cons_zero, List.getElem?_cons_succ] at b0 b1 b2 c0 c1 c2); have hsz := K06.lt; have HB6 := Lib.hid (below_next HBd.out hb6))
                    all_goals go_wp2
                    all_goals
                      refine bodyPost_ret (v := .tuple #[.agg #[.int .i64 k, .string (bs cn), .string (bs cv)], .bool (mayQ ⟨k, cn, cv⟩)]) (by simp [results, Tryd.results41, go_sem, c0, c1, c2, hsz]; (try rfl)) rfl ?_
                      have hb0 := HB6.out
                      exact ⟨by rw [HG4.out], ((hb0.setCell (Nat.le_refl _) _).setCell (Nat.le_refl _) _).setCell (Nat.le_refl _) _⟩
            · have := HNL.out; simp at this; omega
          · have hnb : ((n : Int) != 2) = true := by rw [bne_iff_ne]; omega
            have HG := Lib.hid (show G = (⟨0, [], []⟩, false) by rw [HG.out, ← HW.out, pq_bad (by omega) (by omega) HN.out (by rw [HW.out, ← HNL.out]; exact hn2)])
            clear hn2
            have KO := K0.out.alloc (.cells #[.int .i64 k, .string { data := #[] }, .string { data := #[] }] 78)
            have f0 := KO.frozen 0
            have f1 := KO.frozen 1
            have f2 := KO.frozen 2
            have c0 := KO.cell 0
            have c1 := KO.cell 1
            have c2 := KO.cell 2
            have hc1 := (KH.out.alloc (.cells #[.int .i64 k, .string { data := #[] }, .string { data := #[] }] 78)).cell 1
            simp only [List.getElem?_toArray, List.getElem?_cons_zero, List.getElem?_cons_succ] at c0 c1 c2 hc1
            have hsz := KO.lt
            clear KO
            go_wp2
            refine bodyPost_ret (v := .tuple #[.agg #[.int .i64 0, .string (bs []), .string (bs [])], .bool false]) (by simp [results, Tryd.results41, go_sem, c0, c1, c2, hsz]; (try rfl)) rfl ?_
            have hb0 := HB.out
            exact ⟨by rw [HG.out], by first | exact (((below_alloc hb0 _).setCell (Nat.le_refl _) _).setCell (Nat.le_refl _) _).setCell (Nat.le_refl _) _ | exact ((hb0.setCell (Nat.le_refl _) _).setCell (Nat.le_refl _) _).setCell (Nat.le_refl _) _⟩
      · have hwb : (W0 == a) = false := by simpa using hw0
        have HNE := Lib.hid (show wordQ (k : Int) ≠ a by rw [HW.out]; exact hw0)
        clear hw0
        go_wp2_with fail
        go_quiet (fail)
        go_wp2
        go_roundw
        case rel => exact ⟨k + 1, by omega, by omega, by simp, by have h := ltW_step HLW.out HNE.out; simpa using h, K0.out.drewN _, below_drewN HB.out _⟩
        case measure => (try simp only [intOf]); omega
    · obtain rfl : k = 8 := by omega
      have HG := Lib.hid (HG.out.trans (pq_none (ws := rest) fun j h1 h2 => HLW.out j h1 (by omega)))
      clear HLW
      have f0 := K0.out.frozen 0
      have f1 := K0.out.frozen 1
      have f2 := K0.out.frozen 2
      have c0 := K0.out.cell 0
      have c1 := K0.out.cell 1
      have c2 := K0.out.cell 2
      simp only [List.getElem?_toArray, List.getElem?_cons_zero, List.getElem?_cons_succ] at c0 c1 c2
      have hsz := K0.out.lt
      go_wp2
      refine bodyPost_ret (v := .tuple #[.agg #[.int .i64 0, .string (bs []), .string (bs [])], .bool false]) (by simp [results, Tryd.results41, go_sem, c0, c1, c2, hsz]; (try rfl)) rfl ?_
      have hb0 := HB.out
      exact ⟨by rw [HG.out], by first | exact (((below_alloc hb0 _).setCell (Nat.le_refl _) _).setCell (Nat.le_refl _) _).setCell (Nat.le_refl _) _ | exact ((hb0.setCell (Nat.le_refl _) _).setCell (Nat.le_refl _) _).setCell (Nat.le_refl _) _⟩
end Go.Proofs.YtcbomomlojhghaaDoor
