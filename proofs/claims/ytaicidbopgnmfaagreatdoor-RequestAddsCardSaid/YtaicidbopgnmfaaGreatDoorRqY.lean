/- The law RequestAdds. -/
import Derived.Test.YtaicidbopgnmfaaGreatDoorRqW
import Derived.Deep.RegionHeld3
namespace Go.Proofs.YtaicidbopgnmfaaGreatDoor
set_option linter.unusedSimpArgs false
set_option linter.unusedVariables false
open Go.RowKit
attribute [local go_sem ↓] Go.wp_at_zero Go.wp_at_succ
theorem infAsk : (Tryz.prog.info? 68).map (fun i => (i.zero, i.size, i.bytes)) = some (some (.agg #[.int .i64 0, .string (bs []), .string (bs [])]), 3, 40) := by kernel_rfl
set_option maxRecDepth 100000 in
set_option maxHeartbeats 2000000 in
theorem qad_main (A : Option Addr) (c : Nat) (l : List Stp) (kd : Int) (nm vr : List UInt8) (A2 : Option Addr) (c2 : Nat) (t : List Pkg) (A3 : Option Addr) (c3 : Nat) (s : List Ent) (w : World) (hl : Stps w A c l) (hsh : ∀ a ∈ l, short a.name) (hq1 : short nm) (hq2 : short vr) (ht : Pkgs w A2 c2 t) (hs : Ents w A3 c3 s) (h20 : l.length ≤ 8) (h1 : lightM 26 40 14 10 t = true) (h2 : lightM 26 40 14 10 (s.map Ent.pkg) = true) (h3 : mayAllE t = 0) (h4 : mayEntsE s = 0) : Calls Tryz.prog 14 #[.slice A l.length c, .agg #[.int .i64 kd, .string (bs nm), .string (bs vr)], .slice A2 t.length c2, .slice A3 s.length c3] w fun e w' => e = .returned (.bool true) ∧ Below w.heap.size w w' := by
  obtain ⟨W0, hW0⟩ : ∃ W0, W0 = w.alloc (.cells #[.int .i64 kd, .string (bs nm), .string (bs vr)] 68) := ⟨_, rfl⟩
  have HB := Lib.hid (Below.refl W0.heap.size W0)
  have HBX := Lib.hid (show Below w.heap.size w W0 by rw [hW0]; exact below_alloc (Below.refl _ _) _)
  have hbl := Slc.bd hl
  have hbt := ht.bd
  have hbs := hs.bd
  have HL := Lib.hid (hl.kept (Kept.of_below HBX.out))
  have HSH := Lib.hid hsh
  have HT := Lib.hid (ht.kept (Kept.of_below HBX.out))
  have HS := Lib.hid (hs.kept (Kept.of_below HBX.out))
  have KQ := Lib.hid (show Blk W0 w.heap.size 68 #[.int .i64 kd, .string (bs nm), .string (bs vr)] by rw [hW0]; exact blk_new1 _ _ _)
  clear hl hsh ht hs
  have HFT := Lib.hid (light_fd h1)
  have HFS := Lib.hid (light_fd h2)
  have HSL := Lib.hid (show s.length ≤ 1000 by have := HFS.out.1; rw [List.length_map] at this; omega)
  have HXD := Lib.hid (show ∀ x ∈ s, fewD x.pkg from fun x hx => HFS.out.2 _ (List.mem_map_of_mem hx))
  have HTN := Lib.hid (show ∀ p ∈ t, p.name ≠ [] from fun p hp => may_nm ((mayAll_zero h3).2.1 p hp))
  have HSN := Lib.hid (show ∀ x ∈ s, x.pkg.name ≠ [] from fun x hx => may_nm ((ents_zero h4).2.1 x hx))
  have H1 := Lib.hid h1
  have H2 := Lib.hid h2
  have H3 := Lib.hid h3
  have H4 := Lib.hid h4
  clear h1 h2 h3 h4 HFT HFS
  have hl8 : l.length ≤ 8 := h20
  have k20 : decide ((8 : Int) < (l.length : Int)) = false := decide_eq_false (by omega)
  clear h20
  go_enter Tryz.func14, Tryz.ntmps14
  go_wp2_with fail
  rw [← hW0]
  clear hW0
  (try go_wp2_with fail)
  refine (light17_any _ _ t _ (HT.out.kept (Kept.of_below HB.out))).mono ?_
  rintro e w2 ⟨rfl, hb2⟩
  rw [H1.out]
  have HB := Lib.hid (below_next HB.out hb2)
  clear hb2
  go_wp2_with fail
  refine (bare17_any _ _ s _ (HS.out.kept (Kept.of_below HB.out))).mono ?_
  rintro e w1 ⟨A9, c9, rfl, hp, hb1⟩
  generalize hm : (s).map Ent.pkg = lp at hp ⊢
  have HP := Lib.hid hp
  have HT1 := Lib.hid (show lightM 26 40 14 10 lp = _ from hm ▸ H2.out)
  have HB := Lib.hid (below_next HB.out hb1)
  clear hp hm hb1
  go_wp2_with fail
  refine (light17_any _ _ _ _ HP.out).mono ?_
  rintro e w2 ⟨rfl, hb2⟩
  rw [HT1.out]
  have HB := Lib.hid (below_next HB.out hb2)
  clear hb2 HP HT1
  go_wp2_with fail
  refine (rmayAll_any _ _ t _ (HT.out.kept (Kept.of_below HB.out))).mono ?_
  rintro e w2 ⟨rfl, hb2⟩
  rw [H3.out]
  have HB := Lib.hid (below_next HB.out hb2)
  clear hb2
  go_wp2_with fail
  refine (rents_any _ _ s _ (HS.out.kept (Kept.of_below HB.out)) (fun x h => (HXD.out x h).r)).mono ?_
  rintro e w2 ⟨rfl, hb2⟩
  rw [H4.out]
  have HB := Lib.hid (below_next HB.out hb2)
  clear hb2
  go_wp2
  go_loopw [39] (fun i wr => ∃ k : Nat, k ≤ t.length ∧ i = .int .i64 k ∧ (∀ (j : Nat) p, j < k → t[j]? = some p → idxS (pnB p.name) t = (j : Int)) ∧ Below W0.heap.size W0 wr) (fun i _ => t.length - (intOf i).toNat)
  case atStart => exact ⟨0, Nat.zero_le _, rfl, fun j p hj => absurd hj (by omega), HB.out⟩
  case round =>
    clear HB
    obtain ⟨k, hk, rfl, hn, hb⟩ := hrel
    have HN := Lib.hid hn
    have HB := Lib.hid hb
    clear hn hb
    by_cases hlt : k < t.length
    · obtain ⟨q, b, o, r, hq, hA, hr, e0, e1, e2, e3, e4, e5, e6, e7, e8⟩ := HT.out.at_ hlt (Kept.of_below HB.out)
      subst hA
      have HQ := Lib.hid hq
      clear hq hr
      go_wp2_with fail
      clear e0 e1 e2 e3 e4 e5 e6 e7 e8
      have HB := Lib.hid (below_alloc HB.out (.cells #[.string (bs (q).name), .string (bs (q).ver), .slice (r).a1 (q).pre.length (r).c1, .slice (r).a2 (q).dep.length (r).c2, .slice (r).a3 (q).rcm.length (r).c3, .slice (r).a4 (q).con.length (r).c4, .slice (r).a5 (q).brk.length (r).c5, .slice (r).a6 (q).prv.length (r).c6, .bool (q).ess] 43))
      have HF := Lib.hid (rfindPk_any _ c2 t q.name _ (HT.out.kept (Kept.of_below HB.out)))
      obtain ⟨I, hI⟩ : ∃ I, I = idxS (pnB q.name) t := ⟨_, rfl⟩
      rw [← hI] at HF
      refine HF.out.mono ?_
      rintro e w4 ⟨rfl, hb4⟩
      have HB := Lib.hid (below_next HB.out hb4)
      clear hb4 HF
      by_cases hi : I = (k : Int)
      · have HI := Lib.hid (hI.symm.trans hi)
        have hib : (I != (k : Int)) = false := by rw [hi]; simp
        clear hI
        subst hi
        go_wp2
        go_roundw
        case rel => exact ⟨k + 1, by omega, by simp, fun j p hj hp => (by
          by_cases hjk : j = k
          · subst hjk
            rw [← show q = p from Option.some.inj (HQ.out.symm.trans hp)]
            exact HI.out
          · exact HN.out j p (by omega) hp), HB.out⟩
        case measure => (try simp only [intOf]); omega
      · have hib : (I != (k : Int)) = true := by rw [bne_iff_ne]; exact hi
        clear hI hi
        go_wp2_with fail
        refine (awake17_any _).mono ?_
        rintro e w9 ⟨rfl, hb9⟩
        go_wp2
        go_ret
        first | exact ⟨rfl, below_next HB.out hb9⟩ | exact ⟨rfl, below_next HBX.out (below_next HB.out hb9)⟩
    · have HTW := Lib.hid (twP_idx (t := t) fun j p hp => HN.out j p (by have := (List.getElem?_eq_some_iff.1 hp).1; omega) hp)
      clear HN hk
      obtain ⟨W2, hW2⟩ : ∃ W2 : World, W2 = wr := ⟨_, rfl⟩
      subst hW2
      have HL2 := Lib.hid (HL.out.kept (Kept.of_below HB.out))
      have K2 := Lib.hid (KQ.out.next HB.out)
      have HBy1 := Lib.hid (show (([] : List Stp).length + l.length) * 40 ≤ 140737488355328 by simp; omega)
      have HBy2 := Lib.hid (show (l.length + 1) * 40 ≤ 140737488355328 by omega)
      go_wp2_with fail
      have a0 := fun (w2 : World) (h : Hid (Below W2.heap.size W2 w2)) => show w2.cell? ⟨w.heap.size, 0, none⟩ = some (.int .i64 kd) from (K2.out.next h.out).cell 0
      have a1 := fun (w2 : World) (h : Hid (Below W2.heap.size W2 w2)) => show w2.cell? ⟨w.heap.size, 1, none⟩ = some (.string (bs nm)) from (K2.out.next h.out).cell 1
      have a2 := fun (w2 : World) (h : Hid (Below W2.heap.size W2 w2)) => show w2.cell? ⟨w.heap.size, 2, none⟩ = some (.string (bs vr)) from (K2.out.next h.out).cell 2
      go_region_held3 (fun w' => Hid (Below W2.heap.size W2 w')) (first | with_reducible assumption | exact hbB | exact hbA | exact Lib.hid (below_drewN (Below.refl _ _) 1) | (have hh := (by assumption : Hid (Below W2.heap.size W2 _)); exact Lib.hid (below_alloc hh.out _)))
        (first | (have hh := (by assumption : Hid (Below W2.heap.size W2 _)); refine step_append_all (by rfl) _ _ 63 (by rfl) W2.heap.size 68 _ 3 40 40 Tryz.underlying63 infAsk rfl (by omega) RStp _ [] (by rfl) (Own.nil_ _ _ _ _ _) _ c l (by rfl) (Slc.mono HL2.out (Kept.of_below hh.out) fun _ _ h => h) stp_oneR HBy1.out (by omega) hh.out.size ?_; intro v1 y1 ho1 hg1; have hbA := Lib.hid ((Own.nil_ _ W2.heap.size 68 3 RStp).below hh.out hh.out.size hg1); rw [List.nil_append] at ho1) | (have hh := (by assumption : Hid (Below W2.heap.size W2 _)); refine step_append_el (by rfl) _ _ 63 (by rfl) W2.heap.size 68 _ 3 40 Tryz.underlying63 infAsk rfl (by omega) RStp v1 l (by rfl) (by first | exact ho1 | exact ho1.alloc _ | exact ho1.drew | exact (ho1.alloc _).drew | exact (ho1.drew).alloc _) (⟨kd, nm, vr⟩ : Stp) [.int .i64 kd, .string (bs nm), .string (bs vr)] _ 1 (by rfl) (by first | exact Blk.new _ _ _ | exact blk_grown0 (blk_new1 W2 68 #[.int .i64 kd, .string (bs nm), .string (bs vr)]) hg1) rfl rfl (stp_one _ _ _) HBy2.out (by omega) hh.out.size ?_; intro g2 cap2 y2 ho2 hg2; have hbB := Lib.hid (show Below W2.heap.size W2 y2 from by first | exact (ho1.alloc _).below hh.out hh.out.size hg2 | exact ho1.below hh.out hh.out.size hg2)))
      clear a0 a1 a2
      all_goals
        have HB := Lib.hid (below_next HB.out hbB.out)
        have HM := Lib.hid (show Stps y2 (some ⟨g2, 0, none⟩) cap2 (l ++ [(⟨kd, nm, vr⟩ : Stp)]) from Own.slcOf (z := 40) ho2 (by simp; omega))
        have HML := Lib.hid (show (l ++ [(⟨kd, nm, vr⟩ : Stp)]).length = l.length + 1 by simp)
        have HSM := Lib.hid (show ∀ a ∈ l ++ [(⟨kd, nm, vr⟩ : Stp)], short a.name from fun a ha => by
          rcases List.mem_append.1 ha with ha | ha
          · exact HSH.out a ha
          · rw [List.mem_singleton.1 ha]; exact hq1)
        obtain ⟨lq, hlq⟩ : ∃ lq, lq = l ++ [(⟨kd, nm, vr⟩ : Stp)] := ⟨_, rfl⟩
        rw [← hlq] at HM HML HSM
        have HLQ := Lib.hid hlq
        clear hlq ho2 hbB hg2 ho1 hbA hg1
        have hml := HM.out.1
        rw [HML.out] at hml
        go_wp2_with fail
        have HQ := Lib.hid (rmayAsks_any l _ c _ (HL.out.kept (Kept.of_below HB.out)) HSH.out)
        obtain ⟨M1, hM1⟩ : ∃ M, M = mayQs l := ⟨_, rfl⟩
        rw [← hM1] at HQ
        refine HQ.out.mono ?_
        rintro e w5 ⟨rfl, hb5⟩
        have HM := Lib.hid (HM.out.kept (Kept.of_below hb5))
        have HB := Lib.hid (below_next HB.out hb5)
        clear hb5 HQ
        by_cases hm1 : M1 = 0
        · subst hm1
          have HM1 := Lib.hid hM1.symm
          clear hM1
          go_wp2_with fail
          have HQ := Lib.hid (rmayAsks_any lq _ cap2 _ HM.out HSM.out)
          rw [HML.out] at HQ
          obtain ⟨M2, hM2⟩ : ∃ M, M = mayQs lq := ⟨_, rfl⟩
          rw [← hM2] at HQ
          clear hM2
          refine HQ.out.mono ?_
          rintro e w6 ⟨rfl, hb6⟩
          have HM := Lib.hid (HM.out.kept (Kept.of_below hb6))
          have HB := Lib.hid (below_next HB.out hb6)
          clear hb6 HQ
          have a0 := (KQ.out.next HB.out).cell 0
          simp only [List.getElem?_toArray, List.getElem?_cons_zero, List.getElem?_cons_succ] at a0
          by_cases hm2 : M2 = 0
          · subst hm2
            rcases hk6 : (kd == 6)
            · rcases hk2 : (kd == 2)
              · rcases hk1 : (kd == 1)
                · go_wp2_with fail
                  clear a0
                  have HQ := Lib.hid (rhas_any l _ c 3 _ (HL.out.kept (Kept.of_below HB.out)))
                  obtain ⟨H3, hH3⟩ : ∃ b, b = l.any (fun a => a.kind == 3) := ⟨_, rfl⟩
                  rw [← hH3] at HQ
                  refine HQ.out.mono ?_
                  rintro e w7 ⟨rfl, hb7⟩
                  have HM := Lib.hid (HM.out.kept (Kept.of_below hb7))
                  have HB := Lib.hid (below_next HB.out hb7)
                  clear hb7 HQ
                  rcases H3 with _ | _
                  · have HMO := Lib.hid (fun h => meets_more (l := l) (q := ⟨kd, nm, vr⟩) (t := t) (s := s) HM1.out (by simpa using hk6) (by simpa using hk2) (by simpa using hk1) hH3.symm (by rw [← HLQ.out]; exact h))
                    clear hH3 hk6 hk2 hk1
                    go_wp2_with fail
                    have HQ := Lib.hid (qmeets_any lq _ cap2 t _ c2 s _ c3 _ HM.out HSM.out (HT.out.kept (Kept.of_below HB.out)) (HS.out.kept (Kept.of_below HB.out)) HXD.out HSL.out)
                    rw [HML.out] at HQ
                    obtain ⟨G, hG⟩ : ∃ G, G = meetsQ lq t s := ⟨_, rfl⟩
                    rw [← hG] at HQ
                    refine HQ.out.mono ?_
                    rintro e w8 ⟨rfl, hb8⟩
                    have HB := Lib.hid (below_next HB.out hb8)
                    clear hb8 HQ
                    rcases G with _ | _
                    · clear hG
                      go_wp2_with fail
                      refine (awake17_any _).mono ?_
                      rintro e w9 ⟨rfl, hb9⟩
                      go_wp2
                      go_ret
                      first | exact ⟨rfl, below_next HB.out hb9⟩ | exact ⟨rfl, below_next HBX.out (below_next HB.out hb9)⟩
                    · have HG := Lib.hid (HMO.out hG.symm)
                      clear hG
                      go_wp2_with fail
                      have HQ := Lib.hid (qmeets_any l _ c t _ c2 s _ c3 _ (HL.out.kept (Kept.of_below HB.out)) HSH.out (HT.out.kept (Kept.of_below HB.out)) (HS.out.kept (Kept.of_below HB.out)) HXD.out HSL.out)
                      rw [HG.out] at HQ
                      refine HQ.out.mono ?_
                      rintro e w10 ⟨rfl, hb10⟩
                      have HB := Lib.hid (below_next HB.out hb10)
                      clear hb10 HQ
                      go_wp2_with fail
                      refine (awake17_any _).mono ?_
                      rintro e w9 ⟨rfl, hb9⟩
                      go_wp2
                      go_ret
                      first | exact ⟨rfl, below_next HB.out hb9⟩ | exact ⟨rfl, below_next HBX.out (below_next HB.out hb9)⟩
                  · clear hH3
                    go_wp2_with fail
                    refine (awake17_any _).mono ?_
                    rintro e w9 ⟨rfl, hb9⟩
                    go_wp2
                    go_ret
                    first | exact ⟨rfl, below_next HB.out hb9⟩ | exact ⟨rfl, below_next HBX.out (below_next HB.out hb9)⟩
                · go_wp2_with fail
                  refine (awake17_any _).mono ?_
                  rintro e w9 ⟨rfl, hb9⟩
                  go_wp2
                  go_ret
                  first | exact ⟨rfl, below_next HB.out hb9⟩ | exact ⟨rfl, below_next HBX.out (below_next HB.out hb9)⟩
              · go_wp2_with fail
                refine (awake17_any _).mono ?_
                rintro e w9 ⟨rfl, hb9⟩
                go_wp2
                go_ret
                first | exact ⟨rfl, below_next HB.out hb9⟩ | exact ⟨rfl, below_next HBX.out (below_next HB.out hb9)⟩
            · go_wp2_with fail
              refine (awake17_any _).mono ?_
              rintro e w9 ⟨rfl, hb9⟩
              go_wp2
              go_ret
              first | exact ⟨rfl, below_next HB.out hb9⟩ | exact ⟨rfl, below_next HBX.out (below_next HB.out hb9)⟩
          · have hmb : (M2 != 0) = true := by rw [bne_iff_ne]; exact hm2
            clear hm2
            go_wp2_with fail
            refine (awake17_any _).mono ?_
            rintro e w9 ⟨rfl, hb9⟩
            go_wp2
            go_ret
            first | exact ⟨rfl, below_next HB.out hb9⟩ | exact ⟨rfl, below_next HBX.out (below_next HB.out hb9)⟩
        · have hmb : (M1 != 0) = true := by rw [bne_iff_ne]; exact hm1
          clear hM1 hm1
          go_wp2_with fail
          refine (awake17_any _).mono ?_
          rintro e w9 ⟨rfl, hb9⟩
          go_wp2
          go_ret
          first | exact ⟨rfl, below_next HB.out hb9⟩ | exact ⟨rfl, below_next HBX.out (below_next HB.out hb9)⟩
set_option maxRecDepth 100000 in
set_option maxHeartbeats 2000000 in
theorem law_qadds (A : Option Addr) (c : Nat) (l : List Stp) (kd : Int) (nm vr : List UInt8) (A2 : Option Addr) (c2 : Nat) (t : List Pkg) (A3 : Option Addr) (c3 : Nat) (s : List Ent) (w : World) (hl : Stps w A c l) (hsh : ∀ a ∈ l, short a.name) (hq1 : short nm) (hq2 : short vr) (ht : Pkgs w A2 c2 t) (hs : Ents w A3 c3 s) : Calls Tryz.prog 14 #[.slice A l.length c, .agg #[.int .i64 kd, .string (bs nm), .string (bs vr)], .slice A2 t.length c2, .slice A3 s.length c3] w fun e w' => e = .returned (.bool true) ∧ Below w.heap.size w w' := by
  by_cases h20 : l.length ≤ 8
  · rcases h1 : lightM 26 40 14 10 t
    · obtain ⟨W0, hW0⟩ : ∃ W0, W0 = w.alloc (.cells #[.int .i64 kd, .string (bs nm), .string (bs vr)] 68) := ⟨_, rfl⟩
      have HB := Lib.hid (Below.refl W0.heap.size W0)
      have HBX := Lib.hid (show Below w.heap.size w W0 by rw [hW0]; exact below_alloc (Below.refl _ _) _)
      have hbl := Slc.bd hl
      have hbt := ht.bd
      have hbs := hs.bd
      have HL := Lib.hid (hl.kept (Kept.of_below HBX.out))
      have HSH := Lib.hid hsh
      have HT := Lib.hid (ht.kept (Kept.of_below HBX.out))
      have HS := Lib.hid (hs.kept (Kept.of_below HBX.out))
      have KQ := Lib.hid (show Blk W0 w.heap.size 68 #[.int .i64 kd, .string (bs nm), .string (bs vr)] by rw [hW0]; exact blk_new1 _ _ _)
      clear hl hsh ht hs
      have k20 : decide ((8 : Int) < (l.length : Int)) = false := decide_eq_false (by omega)
      clear h20
      have H1 := Lib.hid h1
      clear h1
      go_enter Tryz.func14, Tryz.ntmps14
      go_wp2_with fail
      rw [← hW0]
      clear hW0
      (try go_wp2_with fail)
      refine (light17_any _ _ t _ (HT.out.kept (Kept.of_below HB.out))).mono ?_
      rintro e w2 ⟨rfl, hb2⟩
      rw [H1.out]
      have HB := Lib.hid (below_next HB.out hb2)
      clear hb2
      go_wp2_with fail
      refine (awake17_any _).mono ?_
      rintro e w9 ⟨rfl, hb9⟩
      go_wp2
      go_ret
      first | exact ⟨rfl, below_next HB.out hb9⟩ | exact ⟨rfl, below_next HBX.out (below_next HB.out hb9)⟩
    · rcases h2 : lightM 26 40 14 10 (s.map Ent.pkg)
      · obtain ⟨W0, hW0⟩ : ∃ W0, W0 = w.alloc (.cells #[.int .i64 kd, .string (bs nm), .string (bs vr)] 68) := ⟨_, rfl⟩
        have HB := Lib.hid (Below.refl W0.heap.size W0)
        have HBX := Lib.hid (show Below w.heap.size w W0 by rw [hW0]; exact below_alloc (Below.refl _ _) _)
        have hbl := Slc.bd hl
        have hbt := ht.bd
        have hbs := hs.bd
        have HL := Lib.hid (hl.kept (Kept.of_below HBX.out))
        have HSH := Lib.hid hsh
        have HT := Lib.hid (ht.kept (Kept.of_below HBX.out))
        have HS := Lib.hid (hs.kept (Kept.of_below HBX.out))
        have KQ := Lib.hid (show Blk W0 w.heap.size 68 #[.int .i64 kd, .string (bs nm), .string (bs vr)] by rw [hW0]; exact blk_new1 _ _ _)
        clear hl hsh ht hs
        have k20 : decide ((8 : Int) < (l.length : Int)) = false := decide_eq_false (by omega)
        clear h20
        have H1 := Lib.hid h1
        have H2 := Lib.hid h2
        clear h1 h2
        go_enter Tryz.func14, Tryz.ntmps14
        go_wp2_with fail
        rw [← hW0]
        clear hW0
        (try go_wp2_with fail)
        refine (light17_any _ _ t _ (HT.out.kept (Kept.of_below HB.out))).mono ?_
        rintro e w2 ⟨rfl, hb2⟩
        rw [H1.out]
        have HB := Lib.hid (below_next HB.out hb2)
        clear hb2
        go_wp2_with fail
        refine (bare17_any _ _ s _ (HS.out.kept (Kept.of_below HB.out))).mono ?_
        rintro e w1 ⟨A9, c9, rfl, hp, hb1⟩
        generalize hm : (s).map Ent.pkg = lp at hp ⊢
        have HP := Lib.hid hp
        have HT1 := Lib.hid (show lightM 26 40 14 10 lp = _ from hm ▸ H2.out)
        have HB := Lib.hid (below_next HB.out hb1)
        clear hp hm hb1
        go_wp2_with fail
        refine (light17_any _ _ _ _ HP.out).mono ?_
        rintro e w2 ⟨rfl, hb2⟩
        rw [HT1.out]
        have HB := Lib.hid (below_next HB.out hb2)
        clear hb2 HP HT1
        go_wp2_with fail
        refine (awake17_any _).mono ?_
        rintro e w9 ⟨rfl, hb9⟩
        go_wp2
        go_ret
        first | exact ⟨rfl, below_next HB.out hb9⟩ | exact ⟨rfl, below_next HBX.out (below_next HB.out hb9)⟩
      · by_cases h3 : mayAllE t = 0
        · by_cases h4 : mayEntsE s = 0
          · exact qad_main A c l kd nm vr A2 c2 t A3 c3 s w hl hsh hq1 hq2 ht hs h20 h1 h2 h3 h4
          · obtain ⟨W0, hW0⟩ : ∃ W0, W0 = w.alloc (.cells #[.int .i64 kd, .string (bs nm), .string (bs vr)] 68) := ⟨_, rfl⟩
            have HB := Lib.hid (Below.refl W0.heap.size W0)
            have HBX := Lib.hid (show Below w.heap.size w W0 by rw [hW0]; exact below_alloc (Below.refl _ _) _)
            have hbl := Slc.bd hl
            have hbt := ht.bd
            have hbs := hs.bd
            have HL := Lib.hid (hl.kept (Kept.of_below HBX.out))
            have HSH := Lib.hid hsh
            have HT := Lib.hid (ht.kept (Kept.of_below HBX.out))
            have HS := Lib.hid (hs.kept (Kept.of_below HBX.out))
            have KQ := Lib.hid (show Blk W0 w.heap.size 68 #[.int .i64 kd, .string (bs nm), .string (bs vr)] by rw [hW0]; exact blk_new1 _ _ _)
            clear hl hsh ht hs
            have k20 : decide ((8 : Int) < (l.length : Int)) = false := decide_eq_false (by omega)
            clear h20
            have HXD := Lib.hid (show ∀ x ∈ s, fewD x.pkg from fun x hx => (light_fd h2).2 _ (List.mem_map_of_mem hx))
            have H1 := Lib.hid h1
            have H2 := Lib.hid h2
            have H3 := Lib.hid h3
            obtain ⟨E4, he4⟩ : ∃ E, E = mayEntsE s := ⟨_, rfl⟩
            have hne4 : (E4 != 0) = true := by rw [bne_iff_ne, he4]; exact h4
            have H4 := Lib.hid he4.symm
            clear h1 h2 h3 h4 he4
            go_enter Tryz.func14, Tryz.ntmps14
            go_wp2_with fail
            rw [← hW0]
            clear hW0
            (try go_wp2_with fail)
            refine (light17_any _ _ t _ (HT.out.kept (Kept.of_below HB.out))).mono ?_
            rintro e w2 ⟨rfl, hb2⟩
            rw [H1.out]
            have HB := Lib.hid (below_next HB.out hb2)
            clear hb2
            go_wp2_with fail
            refine (bare17_any _ _ s _ (HS.out.kept (Kept.of_below HB.out))).mono ?_
            rintro e w1 ⟨A9, c9, rfl, hp, hb1⟩
            generalize hm : (s).map Ent.pkg = lp at hp ⊢
            have HP := Lib.hid hp
            have HT1 := Lib.hid (show lightM 26 40 14 10 lp = _ from hm ▸ H2.out)
            have HB := Lib.hid (below_next HB.out hb1)
            clear hp hm hb1
            go_wp2_with fail
            refine (light17_any _ _ _ _ HP.out).mono ?_
            rintro e w2 ⟨rfl, hb2⟩
            rw [HT1.out]
            have HB := Lib.hid (below_next HB.out hb2)
            clear hb2 HP HT1
            go_wp2_with fail
            refine (rmayAll_any _ _ t _ (HT.out.kept (Kept.of_below HB.out))).mono ?_
            rintro e w2 ⟨rfl, hb2⟩
            rw [H3.out]
            have HB := Lib.hid (below_next HB.out hb2)
            clear hb2
            go_wp2_with fail
            refine (rents_any _ _ s _ (HS.out.kept (Kept.of_below HB.out)) (fun x h => (HXD.out x h).r)).mono ?_
            rintro e w2 ⟨rfl, hb2⟩
            rw [H4.out]
            have HB := Lib.hid (below_next HB.out hb2)
            clear hb2
            go_wp2_with fail
            refine (awake17_any _).mono ?_
            rintro e w9 ⟨rfl, hb9⟩
            go_wp2
            go_ret
            first | exact ⟨rfl, below_next HB.out hb9⟩ | exact ⟨rfl, below_next HBX.out (below_next HB.out hb9)⟩
        · obtain ⟨W0, hW0⟩ : ∃ W0, W0 = w.alloc (.cells #[.int .i64 kd, .string (bs nm), .string (bs vr)] 68) := ⟨_, rfl⟩
          have HB := Lib.hid (Below.refl W0.heap.size W0)
          have HBX := Lib.hid (show Below w.heap.size w W0 by rw [hW0]; exact below_alloc (Below.refl _ _) _)
          have hbl := Slc.bd hl
          have hbt := ht.bd
          have hbs := hs.bd
          have HL := Lib.hid (hl.kept (Kept.of_below HBX.out))
          have HSH := Lib.hid hsh
          have HT := Lib.hid (ht.kept (Kept.of_below HBX.out))
          have HS := Lib.hid (hs.kept (Kept.of_below HBX.out))
          have KQ := Lib.hid (show Blk W0 w.heap.size 68 #[.int .i64 kd, .string (bs nm), .string (bs vr)] by rw [hW0]; exact blk_new1 _ _ _)
          clear hl hsh ht hs
          have k20 : decide ((8 : Int) < (l.length : Int)) = false := decide_eq_false (by omega)
          clear h20
          have H1 := Lib.hid h1
          have H2 := Lib.hid h2
          obtain ⟨E3, he3⟩ : ∃ E, E = mayAllE t := ⟨_, rfl⟩
          have hne3 : (E3 != 0) = true := by rw [bne_iff_ne, he3]; exact h3
          have H3 := Lib.hid he3.symm
          clear h1 h2 h3 he3
          go_enter Tryz.func14, Tryz.ntmps14
          go_wp2_with fail
          rw [← hW0]
          clear hW0
          (try go_wp2_with fail)
          refine (light17_any _ _ t _ (HT.out.kept (Kept.of_below HB.out))).mono ?_
          rintro e w2 ⟨rfl, hb2⟩
          rw [H1.out]
          have HB := Lib.hid (below_next HB.out hb2)
          clear hb2
          go_wp2_with fail
          refine (bare17_any _ _ s _ (HS.out.kept (Kept.of_below HB.out))).mono ?_
          rintro e w1 ⟨A9, c9, rfl, hp, hb1⟩
          generalize hm : (s).map Ent.pkg = lp at hp ⊢
          have HP := Lib.hid hp
          have HT1 := Lib.hid (show lightM 26 40 14 10 lp = _ from hm ▸ H2.out)
          have HB := Lib.hid (below_next HB.out hb1)
          clear hp hm hb1
          go_wp2_with fail
          refine (light17_any _ _ _ _ HP.out).mono ?_
          rintro e w2 ⟨rfl, hb2⟩
          rw [HT1.out]
          have HB := Lib.hid (below_next HB.out hb2)
          clear hb2 HP HT1
          go_wp2_with fail
          refine (rmayAll_any _ _ t _ (HT.out.kept (Kept.of_below HB.out))).mono ?_
          rintro e w2 ⟨rfl, hb2⟩
          rw [H3.out]
          have HB := Lib.hid (below_next HB.out hb2)
          clear hb2
          go_wp2_with fail
          refine (awake17_any _).mono ?_
          rintro e w9 ⟨rfl, hb9⟩
          go_wp2
          go_ret
          first | exact ⟨rfl, below_next HB.out hb9⟩ | exact ⟨rfl, below_next HBX.out (below_next HB.out hb9)⟩
  · obtain ⟨W0, hW0⟩ : ∃ W0, W0 = w.alloc (.cells #[.int .i64 kd, .string (bs nm), .string (bs vr)] 68) := ⟨_, rfl⟩
    have HB := Lib.hid (Below.refl W0.heap.size W0)
    have HBX := Lib.hid (show Below w.heap.size w W0 by rw [hW0]; exact below_alloc (Below.refl _ _) _)
    have hbl := Slc.bd hl
    have hbt := ht.bd
    have hbs := hs.bd
    have HL := Lib.hid (hl.kept (Kept.of_below HBX.out))
    have HSH := Lib.hid hsh
    have HT := Lib.hid (ht.kept (Kept.of_below HBX.out))
    have HS := Lib.hid (hs.kept (Kept.of_below HBX.out))
    have KQ := Lib.hid (show Blk W0 w.heap.size 68 #[.int .i64 kd, .string (bs nm), .string (bs vr)] by rw [hW0]; exact blk_new1 _ _ _)
    clear hl hsh ht hs
    have k20 : decide ((8 : Int) < (l.length : Int)) = true := decide_eq_true (by omega)
    clear h20
    go_enter Tryz.func14, Tryz.ntmps14
    go_wp2_with fail
    rw [← hW0]
    clear hW0
    go_wp2_with fail
    refine (awake17_any _).mono ?_
    rintro e w9 ⟨rfl, hb9⟩
    go_wp2
    go_ret
    first | exact ⟨rfl, below_next HB.out hb9⟩ | exact ⟨rfl, below_next HBX.out (below_next HB.out hb9)⟩
end Go.Proofs.YtaicidbopgnmfaaGreatDoor
