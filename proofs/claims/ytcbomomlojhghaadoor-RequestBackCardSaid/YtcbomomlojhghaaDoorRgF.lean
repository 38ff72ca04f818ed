/- The contract of the reference's Asks, for any bytes: the program's request. -/
import Derived.Test.YtcbomomlojhghaaDoorRgE
import Derived.Test.YtcbomomlojhghaaDoorRgD
import Derived.Test.YtcbomomlojhghaaDoorRq
import Derived.Test.YtcbomomlojhghaaDoorPqB
namespace Go.Proofs.YtcbomomlojhghaaDoor
set_option linter.unusedSimpArgs false
set_option linter.unusedVariables false
open Go.RowKit
attribute [local go_sem ↓] Go.wp_at_zero Go.wp_at_succ
set_option maxRecDepth 100000 in
set_option maxHeartbeats 2000000 in
theorem rAsks_lines (L : List (List UInt8)) (x : Value) (w : World) (hll : L.length ≤ 1000000) (hsl : ∀ s ∈ L, s.length ≤ 1048576)
    (hL : Calls Tryd.prog 42 #[x] (w.alloc (.cells #[.int .i64 0, .int .i64 0] 44)) fun e w' => ∃ A c, e = .returned (.tuple #[.slice A L.length c, .agg #[.int .i64 0, .int .i64 0]]) ∧ Strs w' A c L ∧ Below (w.alloc (.cells #[.int .i64 0, .int .i64 0] 44)).heap.size (w.alloc (.cells #[.int .i64 0, .int .i64 0] 44)) w') :
    Calls Tryd.prog 16 #[x] w (RetPr w (parL 0 L [])) := by
  obtain ⟨G, hG⟩ : ∃ G, G = parL 0 L [] := ⟨_, rfl⟩
  rw [← hG]
  have HG := Lib.hid hG
  have HQ := Lib.hid hL
  have HSL := Lib.hid hsl
  have K0 := Lib.hid (blk_new1 w 44 #[.int .i64 0, .int .i64 0])
  have HB0 := Lib.hid (below_alloc (Below.refl w.heap.size w) (.cells #[.int .i64 0, .int .i64 0] 44))
  clear hG hL hsl
  go_enter Tryd.func16, Tryd.ntmps16
  go_wp2_with fail
  refine HQ.out.mono ?_
  rintro e w2 ⟨A, c, rfl, hs, hb⟩
  have HS0 := Lib.hid hs
  have K02 := Lib.hid (K0.out.next hb)
  have HB2 := Lib.hid (below_next HB0.out hb)
  clear hs hb HQ K0 HB0
  obtain ⟨n, hn⟩ : ∃ n, n = L.length := ⟨_, rfl⟩
  have HN := Lib.hid hn
  have hbl := Slc.bd HS0.out
  rw [← hn] at hll hbl ⊢
  clear hn
  dsimp only
  go_wp2
  have HB3 := Lib.hid (below_alloc HB2.out (.cells #[.int .i64 0, .int .i64 0] 44))
  have K03 := Lib.hid (K02.out.alloc (.cells #[.int .i64 0, .int .i64 0] 44))
  have HS3 := Lib.hid (Strs.kept HS0.out (Kept.alloc w2 (.cells #[.int .i64 0, .int .i64 0] 44)))
  generalize w2.alloc (.cells #[.int .i64 0, .int .i64 0] 44) = W at HB3 K03 HS3 ⊢
  clear HS0 K02 HB2
  go_loopw [6, 23] (fun v i wr => ∃ (k : Nat) (acc : List Stp), k ≤ n ∧ i = .int .i64 k ∧ G = parL k (L.drop k) acc ∧ acc.length ≤ k ∧ (∀ a ∈ acc, short a.name) ∧ Own wr W.heap.size 78 3 RStp v acc ∧ Below W.heap.size W wr) (fun _ i _ => n - (intOf i).toNat)
  case atStart => exact ⟨0, [], Nat.zero_le _, rfl, HG.out, by simp, by simp, Own.nil_ _ _ _ _ _, Below.refl _ _⟩
  case round =>
    obtain ⟨k, acc, hk, rfl, hg, hal, hash, ho, hb⟩ := hrel
    have HO := Lib.hid ho
    have HB := Lib.hid hb
    have HG := Lib.hid hg
    have HAS := Lib.hid hash
    have K0 := Lib.hid (K03.out.next hb)
    clear ho hb hg hash
    by_cases hlt : k < n
    · obtain ⟨s, b, o, hs, rfl, e0⟩ := HS3.out.at_ (show k < L.length by have := HN.out; omega) (Kept.of_below HB.out)
      have HSS := Lib.hid (HSL.out s (List.mem_of_getElem? hs))
      have HLK := Lib.hid hs
      clear hs
      go_wp2_with fail
      clear e0
      have HQ := Lib.hid (rwords_any s (by have := HSS.out; omega) wr)
      have HWS := Lib.hid (show ∀ y ∈ wordsS s, y.length ≤ 1048576 from fun y hy => by have h1 := words_short s [] y hy; have h2 := HSS.out; simp at h1; omega)
      obtain ⟨ws, hws⟩ : ∃ ws, ws = wordsS s := ⟨_, rfl⟩
      rw [← hws] at HQ HWS
      have HWE := Lib.hid hws
      clear hws
      refine HQ.out.mono ?_
      rintro e w4 ⟨A4, c4, rfl, hs4, hb4⟩
      have HS4 := Lib.hid hs4
      have HO4 := Lib.hid (HO.out.next hb4)
      have HB4 := Lib.hid (below_next HB.out hb4)
      have K04 := Lib.hid (K0.out.next hb4)
      clear hs4 hb4 HQ
      by_cases hw0 : ws = []
      · subst hw0
        have HRS := Lib.hid (show restL s = true by unfold restL; rw [← HWE.out]; rfl)
        have HG5 := Lib.hid (HG.out.trans (par_rest HLK.out HRS.out))
        go_wp2
        go_roundw
        case rel => exact ⟨k + 1, acc, by omega, by simp, HG5.out, by omega, HAS.out, HO4.out, HB4.out⟩
        case measure => (try simp only [intOf]); omega
      · have hz : ((ws.length : Int) == 0) = false := by
          rw [beq_eq_false_iff_ne]
          intro h
          exact hw0 (List.length_eq_zero_iff.1 (by omega))
        have HW0 := Lib.hid hw0
        clear hw0
        have hs0 : 0 < s.length := by
          rcases s with _ | ⟨x, t⟩
          · exact absurd (HWE.out.trans rfl) HW0.out
          · simp
        have ix : ∀ W : World, (Instr.index 9 (.string (bs s)) (.int .i64 0)).run Tryd.prog W = .ok (.int .u8 s[0].toNat) W := fun W => ix_strA s 0 hs0 W
        have hhd : (s.head? == some 35) = decide (s[0].toNat = 35) := by
          rw [List.head?_eq_getElem?, List.getElem?_eq_getElem hs0, Bool.eq_iff_iff]
          simp [← UInt8.toNat_inj]
        have HHD := Lib.hid hhd
        generalize s[0] = ch at ix hhd HHD
        clear hhd
        rcases hh : (s.head? == some 35)
        · have hc : ((ch.toNat : Int) == 35) = false := by
            have h := HHD.out.symm.trans hh
            rw [decide_eq_false_iff_not] at h
            rw [beq_eq_false_iff_ne]
            omega
          have HRS := Lib.hid (show restL s = false by unfold restL; rw [← HWE.out, hh, decide_eq_false HW0.out]; rfl)
          have HQ := Lib.hid (rask_any s (by have := HSS.out; omega) w4)
          rw [← HWE.out] at HQ
          have HNM := Lib.hid (pq_short HWS.out)
          obtain ⟨⟨⟨kd, nm, vr⟩, ok⟩, hpq⟩ : ∃ r, r = parseQ ws := ⟨_, rfl⟩
          rw [← hpq] at HQ HNM
          have HPQ := Lib.hid (hpq.trans (by rw [HWE.out]))
          clear hh hpq
          unfold RetRa at HQ
          dsimp only at HQ HNM
          go_wp2_with fail
          refine HQ.out.mono ?_
          rintro e w6 ⟨k6, n6, v6, rfl, hq6, hb6⟩
          have HO6 := Lib.hid (HO4.out.next hb6)
          have HB6 := Lib.hid (below_next HB4.out hb6)
          have K06 := Lib.hid ((K04.out.next hb6).alloc (.cells #[.int .i64 k6, .string (bs n6), .string (bs v6)] 78))
          clear hb6 HQ HS4
          rcases ok
          · clear hq6
            have HG6 := Lib.hid (HG.out.trans (par_bad HLK.out HRS.out (by rw [← HPQ.out])))
            have f0 := K06.out.frozen 0
            have f1 := K06.out.frozen 1
            have c0 := K06.out.cell 0
            have c1 := K06.out.cell 1
            simp only [List.getElem?_toArray, List.getElem?_cons_zero, List.getElem?_cons_succ] at c0 c1
            have hsz := K06.out.lt
            go_wp2
            refine bodyPost_ret (v := .tuple #[.slice none 0 0, .agg #[.int .i64 3, .int .i64 ((k : Int) + 1)]]) (by simp [results, Tryd.results16, go_sem, c0, c1, hsz]; (try rfl)) rfl ?_
            have hb0 := below_next HB3.out HB6.out
            exact RetPr.none_ HG6.out (((below_alloc hb0 _).setCell (Nat.le_refl _) _).setCell (Nat.le_refl _) _)
          · obtain ⟨rfl, rfl, rfl⟩ : kd = k6 ∧ nm = n6 ∧ vr = v6 := by
              have h := hq6 rfl
              injection h with h1 h2 h3
              exact ⟨h1, h2, h3⟩
            clear hq6
            have HG6 := Lib.hid (HG.out.trans (par_step HLK.out HRS.out (by rw [← HPQ.out])))
            rw [← HPQ.out] at HG6
            go_wp2_with (at_builtin; refine wpList_append_el (by rfl) _ _ 42 (by rfl) W.heap.size 78 _ 3 40 Tryd.underlying42 infAskQ rfl (by omega) RStp _ acc (by rfl) ((HO6.out.alloc _).alloc _) (⟨kd, nm, vr⟩ : Stp) [.int .i64 kd, .string (bs nm), .string (bs vr)] _ 1 (by rfl) (by first | exact blk_new2 _ _ _ _ | exact blk_new1 _ _ _) rfl rfl (stp_one _ _ _) (by omega) (by omega) (by have := HB6.out.size; simp; omega) ?_; intro g cap w7 ho7 hg7; have HO7 := Lib.hid ho7; have HB7 := Lib.hid (((HO6.out.alloc _).alloc _).below (below_alloc (below_alloc HB6.out _) _) (by have := HB6.out.size; simp; omega) hg7); clear ho7 hg7)
            go_roundw
            case rel => exact ⟨k + 1, acc ++ [⟨kd, nm, vr⟩], by omega, by simp, HG6.out, by simp; omega, fun a ha => (by
              rcases List.mem_append.1 ha with ha | ha
              · exact HAS.out a ha
              · rw [List.mem_singleton.1 ha]; exact HNM.out), HO7.out, HB7.out⟩
            case measure => (try simp only [intOf]); omega
        · have hc : ((ch.toNat : Int) == 35) = true := by
            have h := HHD.out.symm.trans hh
            rw [decide_eq_true_eq] at h
            rw [beq_iff_eq]
            omega
          have HRS := Lib.hid (show restL s = true by unfold restL; rw [hh]; simp)
          have HG5 := Lib.hid (HG.out.trans (par_rest HLK.out HRS.out))
          clear hh
          go_wp2
          go_roundw
          case rel => exact ⟨k + 1, acc, by omega, by simp, HG5.out, by omega, HAS.out, HO4.out, HB4.out⟩
          case measure => (try simp only [intOf]); omega
    · have HG5 := Lib.hid (HG.out.trans (par_end (L := L) (i := k) (by have := HN.out; omega)))
      have hz9 : acc.length * 40 ≤ 140737488351232 := by omega
      have HZ9 := Lib.hid hz9
      obtain ⟨A9, c9, rfl, hs9⟩ := HO.out.slc (z := 40) hz9
      clear hz9
      have HS9 := Lib.hid hs9
      have HQ := Lib.hid (rmayAsks_any acc A9 c9 wr hs9 HAS.out)
      clear hs9
      obtain ⟨M, hM⟩ : ∃ M, M = mayQs acc := ⟨_, rfl⟩
      rw [← hM] at HQ HG5
      clear hM
      go_wp2_with fail
      refine HQ.out.mono ?_
      rintro e w6 ⟨rfl, hb6⟩
      have HS6 := Lib.hid (Stps.kept HS9.out (Kept.of_below hb6))
      have HB6 := Lib.hid (below_next HB.out hb6)
      have K06 := Lib.hid (K0.out.next hb6)
      have hbq := hb6
      clear hb6 HQ HS9
      have f0 := K06.out.frozen 0
      have f1 := K06.out.frozen 1
      have c0 := K06.out.cell 0
      have c1 := K06.out.cell 1
      simp only [List.getElem?_toArray, List.getElem?_cons_zero, List.getElem?_cons_succ] at c0 c1
      have hsz := K06.out.lt
      by_cases hm0 : M = 0
      · subst hm0
        have HG6 := Lib.hid (show G = (acc, 0, 0) from HG5.out.trans (if_pos rfl))
        go_wp2
        refine bodyPost_ret (v := .tuple #[.slice A9 acc.length c9, .agg #[.int .i64 0, .int .i64 0]]) (by simp [results, Tryd.results16, go_sem, c0, c1, hsz]; (try rfl)) rfl ?_
        have hb0 := below_next HB3.out HB6.out
        have ho6 := (HO.out.next hbq).setCell (p := ⟨w.heap.size, 0, none⟩) (blk_ne K06.out (by decide)) (.int .i64 0)
        have ho7 := ho6.setCell (p := ⟨w.heap.size, 1, none⟩) (blk_ne (K06.out.set_ 0 _) (by decide)) (.int .i64 0)
        rw [HG6.out]
        exact ⟨A9, c9, rfl, Own.slcOf_ (z := 40) ho7 HZ9.out, (hb0.setCell (Nat.le_refl _) _).setCell (Nat.le_refl _) _⟩
      · have hmb : (M != 0) = true := by rw [bne_iff_ne]; exact hm0
        have HG6 := Lib.hid (show G = ([], M, 0) from HG5.out.trans (if_neg hm0))
        clear hm0
        go_wp2
        refine bodyPost_ret (v := .tuple #[.slice none 0 0, .agg #[.int .i64 M, .int .i64 0]]) (by simp [results, Tryd.results16, go_sem, c0, c1, hsz]; (try rfl)) rfl ?_
        have hb0 := below_next HB3.out HB6.out
        exact RetPr.none_ HG6.out ((hb0.setCell (Nat.le_refl _) _).setCell (Nat.le_refl _) _)
set_option maxRecDepth 100000 in
set_option maxHeartbeats 1000000 in
theorem rAsks_err (x : Value) (w : World) (r : List (List UInt8) × Int × Int) (he : r.2.1 ≠ 0)
    (hL : Calls Tryd.prog 42 #[x] (w.alloc (.cells #[.int .i64 0, .int .i64 0] 44)) (RetLn (w.alloc (.cells #[.int .i64 0, .int .i64 0] 44)) r)) :
    Calls Tryd.prog 16 #[x] w (RetPr w ([], r.2.1, r.2.2)) := by
  have HQ := Lib.hid hL
  have K0 := Lib.hid (blk_new1 w 44 #[.int .i64 0, .int .i64 0])
  have HB0 := Lib.hid (below_alloc (Below.refl w.heap.size w) (.cells #[.int .i64 0, .int .i64 0] 44))
  obtain ⟨L, E, i⟩ := r
  dsimp only at he HQ ⊢
  have hne : (E != 0) = true := by rw [bne_iff_ne]; exact he
  clear hL he
  go_enter Tryd.func16, Tryd.ntmps16
  go_wp2_with fail
  refine HQ.out.mono ?_
  rintro e w2 ⟨A, c, rfl, _, hb⟩
  have K02 := Lib.hid ((K0.out.next hb).alloc (.cells #[.int .i64 E, .int .i64 i] 44))
  have HB2 := Lib.hid (below_alloc (below_next HB0.out hb) (.cells #[.int .i64 E, .int .i64 i] 44))
  have KA := Lib.hid (blk_new1 w2 44 #[.int .i64 E, .int .i64 i])
  clear hb HQ K0 HB0
  dsimp only
  go_wp2_with fail
  generalize w2.alloc (.cells #[.int .i64 E, .int .i64 i] 44) = W at K02 HB2 KA ⊢
  have KD := Lib.hid (show Blk W.drew _ _ _ from K02.out.drewN 1)
  have AD := Lib.hid (show Blk W.drew _ _ _ from KA.out.drewN 1)
  have g0 := K02.out.frozen 0
  have g1 := K02.out.frozen 1
  have d0 := K02.out.cell 0
  have d1 := K02.out.cell 1
  have f0 := KD.out.frozen 0
  have f1 := KD.out.frozen 1
  have c0 := KD.out.cell 0
  have c1 := KD.out.cell 1
  have a0 := AD.out.cell 0
  have a1 := AD.out.cell 1
  simp only [List.getElem?_toArray, List.getElem?_cons_zero, List.getElem?_cons_succ] at c0 c1 a0 a1 d0 d1
  have hsz0 := K02.out.lt
  go_region
  all_goals go_wp2
  all_goals
    refine bodyPost_ret (v := .tuple #[.slice none 0 0, .agg #[.int .i64 E, .int .i64 i]]) (by simp [results, Tryd.results16, go_sem, d0, d1, c0, c1, hsz0]; (try rfl)) rfl ?_
    have hb0 := HB2.out
    exact RetPr.none_ rfl (by first | exact below_drewN ((hb0.setCell (Nat.le_refl _) _).setCell (Nat.le_refl _) _) 1 | exact ((below_drewN hb0 1).setCell (Nat.le_refl _) _).setCell (Nat.le_refl _) _)
set_option maxRecDepth 100000 in
theorem rAsks_any (l : List UInt8) (A : Option Addr) (c : Nat) (w : World) (hs : Bts w A c l) :
    Calls Tryd.prog 16 #[.slice A l.length c] w (RetPr w (parseR l)) := by
  have hL := rlines_any l A c _ (hs.kept (Kept.alloc w (.cells #[.int .i64 0, .int .i64 0] 44)))
  unfold parseR
  by_cases h0 : (linesR l).2.1 = 0
  · obtain ⟨L, he, h1, h2⟩ := linesR_ok h0
    rw [if_pos h0, he]
    rw [he] at hL
    exact rAsks_lines L _ w h1 h2 hL
  · rw [if_neg h0]
    exact rAsks_err _ w _ h0 hL
end Go.Proofs.YtcbomomlojhghaaDoor
