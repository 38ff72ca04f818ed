/- The law RequestGuards. -/
import Derived.Test.YtaicidbopgnmfaaGreatDoorRqW
import Derived.Test.YtaicidbopgnmfaaGreatDoorLb
import Derived.Deep.RegionWith
namespace Go.Proofs.YtaicidbopgnmfaaGreatDoor
set_option linter.unusedSimpArgs false
set_option linter.unusedVariables false
open Go.RowKit
attribute [local go_sem ↓] Go.wp_at_zero Go.wp_at_succ
theorem pkgs_one {w : World} {q : Pkg} {r : Raw} {g : Nat} (hB : Blk w g 43 #[.string (bs (q).name), .string (bs (q).ver), .slice (r).a1 (q).pre.length (r).c1, .slice (r).a2 (q).dep.length (r).c2, .slice (r).a3 (q).rcm.length (r).c3, .slice (r).a4 (q).con.length (r).c4, .slice (r).a5 (q).brk.length (r).c5, .slice (r).a6 (q).prv.length (r).c6, .bool (q).ess]) (hr : RP w r q) : Pkgs w (some ⟨g, 0, none⟩) 1 [q] :=
  slc_blk [encK r q] hB rfl rfl (fun i cs x h1 h2 => by
    rcases i with _ | i
    · simp at h1 h2
      subst h1 h2
      exact ⟨⟨r, rfl, hr⟩, rfl⟩
    · simp at h1) (by simp [encK]) (by show 1 * 184 ≤ _; decide) (by simp) (by decide)
theorem pkgs_oneB {w : World} {q : Pkg} {r : Raw} {g : Nat} {b : Bool} (hB : Blk w g 43 #[.string (bs q.name), .string (bs q.ver), .slice r.a1 q.pre.length r.c1, .slice r.a2 q.dep.length r.c2, .slice r.a3 q.rcm.length r.c3, .slice r.a4 q.con.length r.c4, .slice r.a5 q.brk.length r.c5, .slice r.a6 q.prv.length r.c6, .bool b]) (hr : RP w r q) (he : b = q.ess) : Pkgs w (some ⟨g, 0, none⟩) 1 [q] := by
  subst he
  exact pkgs_one hB hr
theorem newer_one (p q : Pkg) : newerS p [q] = if laterB p q then 1 else 0 := by simp [newerS, List.countP_cons]
theorem exact_split {a : Stp} (h : exactQ a = true) : a.kind = 1 ∧ a.ver ≠ [] := by
  simp only [exactQ, Bool.and_eq_true, beq_iff_eq, Bool.not_eq_true', beq_eq_false_iff_ne] at h
  exact h
set_option maxRecDepth 100000 in
set_option maxHeartbeats 4000000 in
theorem qgu_main (A : Option Addr) (c : Nat) (l : List Stp) (A2 : Option Addr) (c2 : Nat) (t : List Pkg) (A3 : Option Addr) (c3 : Nat) (s : List Ent) (w : World) (hl : Stps w A c l) (hsh : ∀ a ∈ l, short a.name) (ht : Pkgs w A2 c2 t) (hs : Ents w A3 c3 s) (h20 : l.length ≤ 20) (h1 : lightM 26 40 14 10 t = true) (h2 : lightM 26 40 14 10 (s.map Ent.pkg) = true) (h3 : mayAllE t = 0) (h4 : mayEntsE s = 0) : Calls Tryz.prog 13 #[.slice A l.length c, .slice A2 t.length c2, .slice A3 s.length c3] w fun e w' => e = .returned (.bool true) ∧ Below w.heap.size w w' := by
  have HB := Lib.hid (Below.refl w.heap.size w)
  have hbl := Slc.bd hl
  have hbt := ht.bd
  have hbs := hs.bd
  have HL := Lib.hid hl
  have HSH := Lib.hid hsh
  have HT := Lib.hid ht
  have HS := Lib.hid hs
  clear hl hsh ht hs
  have HFT := Lib.hid (light_fd h1)
  have HFS := Lib.hid (light_fd h2)
  have HSL := Lib.hid (show s.length ≤ 1000 by have := HFS.out.1; rw [List.length_map] at this; omega)
  have HXD := Lib.hid (show ∀ x ∈ s, fewD x.pkg from fun x hx => HFS.out.2 _ (List.mem_map_of_mem hx))
  have HTN := Lib.hid (show ∀ p ∈ t, p.name ≠ [] from fun p hp => may_nm ((mayAll_zero h3).2.1 p hp))
  have HSN := Lib.hid (show ∀ x ∈ s, x.pkg.name ≠ [] from fun x hx => may_nm ((ents_zero h4).2.1 x hx))
  have H1 := Lib.hid h1
  have H2 := Lib.hid h2
  have H3 := Lib.hid h3
  have H4 := Lib.hid h4
  clear h1 h2 h3 h4 HFT HFS
  have k20 : decide ((20 : Int) < (l.length : Int)) = false := decide_eq_false (by omega)
  clear h20
  rcases hme : meetsQ l t s
  · have HME := Lib.hid hme
    clear hme
    go_enter Tryz.func13, Tryz.ntmps13
    (try go_wp2_with fail)
    refine (light17_any _ _ t _ (HT.out.kept (Kept.of_below HB.out))).mono ?_
    rintro e w2 ⟨rfl, hb2⟩
    rw [H1.out]
    have HB := Lib.hid (below_next HB.out hb2)
    clear hb2
    go_wp2_with fail
    refine (bare17_any _ _ s _ (HS.out.kept (Kept.of_below HB.out))).mono ?_
    rintro e w1 ⟨A9, c9, rfl, hp, hb1⟩
    generalize hm : (s).map Ent.pkg = lp at hp ⊢
    have HP := Lib.hid hp
    have HT1 := Lib.hid (show lightM 26 40 14 10 lp = _ from hm ▸ H2.out)
    have HB := Lib.hid (below_next HB.out hb1)
    clear hp hm hb1
    go_wp2_with fail
    refine (light17_any _ _ _ _ HP.out).mono ?_
    rintro e w2 ⟨rfl, hb2⟩
    rw [HT1.out]
    have HB := Lib.hid (below_next HB.out hb2)
    clear hb2 HP HT1
    go_wp2_with fail
    refine (rmayAll_any _ _ t _ (HT.out.kept (Kept.of_below HB.out))).mono ?_
    rintro e w2 ⟨rfl, hb2⟩
    rw [H3.out]
    have HB := Lib.hid (below_next HB.out hb2)
    clear hb2
    go_wp2_with fail
    refine (rents_any _ _ s _ (HS.out.kept (Kept.of_below HB.out)) (fun x h => (HXD.out x h).r)).mono ?_
    rintro e w2 ⟨rfl, hb2⟩
    rw [H4.out]
    have HB := Lib.hid (below_next HB.out hb2)
    clear hb2
    go_wp2
    go_loopw [44] (fun i wr => ∃ k : Nat, k ≤ t.length ∧ i = .int .i64 k ∧ (∀ (j : Nat) p, j < k → t[j]? = some p → idxS (pnB p.name) t = (j : Int)) ∧ Below w.heap.size w wr) (fun i _ => t.length - (intOf i).toNat)
    case atStart => exact ⟨0, Nat.zero_le _, rfl, fun j p hj => absurd hj (by omega), HB.out⟩
    case round =>
      clear HB
      obtain ⟨k, hk, rfl, hn, hb⟩ := hrel
      have HN := Lib.hid hn
      have HB := Lib.hid hb
      clear hn hb
      by_cases hlt : k < t.length
      · obtain ⟨q, b, o, r, hq, hA, hr, e0, e1, e2, e3, e4, e5, e6, e7, e8⟩ := HT.out.at_ hlt (Kept.of_below HB.out)
        subst hA
        have HQ := Lib.hid hq
        clear hq hr
        go_wp2_with fail
        clear e0 e1 e2 e3 e4 e5 e6 e7 e8
        have HB := Lib.hid (below_alloc HB.out (.cells #[.string (bs (q).name), .string (bs (q).ver), .slice (r).a1 (q).pre.length (r).c1, .slice (r).a2 (q).dep.length (r).c2, .slice (r).a3 (q).rcm.length (r).c3, .slice (r).a4 (q).con.length (r).c4, .slice (r).a5 (q).brk.length (r).c5, .slice (r).a6 (q).prv.length (r).c6, .bool (q).ess] 43))
        have HF := Lib.hid (rfindPk_any _ c2 t q.name _ (HT.out.kept (Kept.of_below HB.out)))
        obtain ⟨I, hI⟩ : ∃ I, I = idxS (pnB q.name) t := ⟨_, rfl⟩
        rw [← hI] at HF
        refine HF.out.mono ?_
        rintro e w4 ⟨rfl, hb4⟩
        have HB := Lib.hid (below_next HB.out hb4)
        clear hb4 HF
        by_cases hi : I = (k : Int)
        · have HI := Lib.hid (hI.symm.trans hi)
          have hib : (I != (k : Int)) = false := by rw [hi]; simp
          clear hI
          subst hi
          go_wp2
          go_roundw
          case rel => exact ⟨k + 1, by omega, by simp, fun j p hj hp => (by
            by_cases hjk : j = k
            · subst hjk
              rw [← show q = p from Option.some.inj (HQ.out.symm.trans hp)]
              exact HI.out
            · exact HN.out j p (by omega) hp), HB.out⟩
          case measure => (try simp only [intOf]); omega
        · have hib : (I != (k : Int)) = true := by rw [bne_iff_ne]; exact hi
          clear hI hi
          go_wp2_with fail
          refine (awake17_any _).mono ?_
          rintro e w9 ⟨rfl, hb9⟩
          go_wp2
          go_ret
          first | exact ⟨rfl, below_next HB.out hb9⟩ | exact ⟨rfl, below_next HBX.out (below_next HB.out hb9)⟩
      · have HTW := Lib.hid (twP_idx (t := t) fun j p hp => HN.out j p (by have := (List.getElem?_eq_some_iff.1 hp).1; omega) hp)
        clear HN hk
        go_wp2_with fail
        have HQ := Lib.hid (qmeets_any l _ c t _ c2 s _ c3 _ (HL.out.kept (Kept.of_below HB.out)) HSH.out (HT.out.kept (Kept.of_below HB.out)) (HS.out.kept (Kept.of_below HB.out)) HXD.out HSL.out)
        rw [HME.out] at HQ
        refine HQ.out.mono ?_
        rintro e w5 ⟨rfl, hb5⟩
        have HB := Lib.hid (below_next HB.out hb5)
        clear hb5 HQ
        go_wp2_with fail
        refine (awake17_any _).mono ?_
        rintro e w9 ⟨rfl, hb9⟩
        go_wp2
        go_ret
        first | exact ⟨rfl, below_next HB.out hb9⟩ | exact ⟨rfl, below_next HBX.out (below_next HB.out hb9)⟩
  · have HME := Lib.hid hme
    clear hme
    go_enter Tryz.func13, Tryz.ntmps13
    (try go_wp2_with fail)
    refine (light17_any _ _ t _ (HT.out.kept (Kept.of_below HB.out))).mono ?_
    rintro e w2 ⟨rfl, hb2⟩
    rw [H1.out]
    have HB := Lib.hid (below_next HB.out hb2)
    clear hb2
    go_wp2_with fail
    refine (bare17_any _ _ s _ (HS.out.kept (Kept.of_below HB.out))).mono ?_
    rintro e w1 ⟨A9, c9, rfl, hp, hb1⟩
    generalize hm : (s).map Ent.pkg = lp at hp ⊢
    have HP := Lib.hid hp
    have HT1 := Lib.hid (show lightM 26 40 14 10 lp = _ from hm ▸ H2.out)
    have HB := Lib.hid (below_next HB.out hb1)
    clear hp hm hb1
    go_wp2_with fail
    refine (light17_any _ _ _ _ HP.out).mono ?_
    rintro e w2 ⟨rfl, hb2⟩
    rw [HT1.out]
    have HB := Lib.hid (below_next HB.out hb2)
    clear hb2 HP HT1
    go_wp2_with fail
    refine (rmayAll_any _ _ t _ (HT.out.kept (Kept.of_below HB.out))).mono ?_
    rintro e w2 ⟨rfl, hb2⟩
    rw [H3.out]
    have HB := Lib.hid (below_next HB.out hb2)
    clear hb2
    go_wp2_with fail
    refine (rents_any _ _ s _ (HS.out.kept (Kept.of_below HB.out)) (fun x h => (HXD.out x h).r)).mono ?_
    rintro e w2 ⟨rfl, hb2⟩
    rw [H4.out]
    have HB := Lib.hid (below_next HB.out hb2)
    clear hb2
    go_wp2
    go_loopw [44] (fun i wr => ∃ k : Nat, k ≤ t.length ∧ i = .int .i64 k ∧ (∀ (j : Nat) p, j < k → t[j]? = some p → idxS (pnB p.name) t = (j : Int)) ∧ Below w.heap.size w wr) (fun i _ => t.length - (intOf i).toNat)
    case atStart => exact ⟨0, Nat.zero_le _, rfl, fun j p hj => absurd hj (by omega), HB.out⟩
    case round =>
      clear HB
      obtain ⟨k, hk, rfl, hn, hb⟩ := hrel
      have HN := Lib.hid hn
      have HB := Lib.hid hb
      clear hn hb
      by_cases hlt : k < t.length
      · obtain ⟨q, b, o, r, hq, hA, hr, e0, e1, e2, e3, e4, e5, e6, e7, e8⟩ := HT.out.at_ hlt (Kept.of_below HB.out)
        subst hA
        have HQ := Lib.hid hq
        clear hq hr
        go_wp2_with fail
        clear e0 e1 e2 e3 e4 e5 e6 e7 e8
        have HB := Lib.hid (below_alloc HB.out (.cells #[.string (bs (q).name), .string (bs (q).ver), .slice (r).a1 (q).pre.length (r).c1, .slice (r).a2 (q).dep.length (r).c2, .slice (r).a3 (q).rcm.length (r).c3, .slice (r).a4 (q).con.length (r).c4, .slice (r).a5 (q).brk.length (r).c5, .slice (r).a6 (q).prv.length (r).c6, .bool (q).ess] 43))
        have HF := Lib.hid (rfindPk_any _ c2 t q.name _ (HT.out.kept (Kept.of_below HB.out)))
        obtain ⟨I, hI⟩ : ∃ I, I = idxS (pnB q.name) t := ⟨_, rfl⟩
        rw [← hI] at HF
        refine HF.out.mono ?_
        rintro e w4 ⟨rfl, hb4⟩
        have HB := Lib.hid (below_next HB.out hb4)
        clear hb4 HF
        by_cases hi : I = (k : Int)
        · have HI := Lib.hid (hI.symm.trans hi)
          have hib : (I != (k : Int)) = false := by rw [hi]; simp
          clear hI
          subst hi
          go_wp2
          go_roundw
          case rel => exact ⟨k + 1, by omega, by simp, fun j p hj hp => (by
            by_cases hjk : j = k
            · subst hjk
              rw [← show q = p from Option.some.inj (HQ.out.symm.trans hp)]
              exact HI.out
            · exact HN.out j p (by omega) hp), HB.out⟩
          case measure => (try simp only [intOf]); omega
        · have hib : (I != (k : Int)) = true := by rw [bne_iff_ne]; exact hi
          clear hI hi
          go_wp2_with fail
          refine (awake17_any _).mono ?_
          rintro e w9 ⟨rfl, hb9⟩
          go_wp2
          go_ret
          first | exact ⟨rfl, below_next HB.out hb9⟩ | exact ⟨rfl, below_next HBX.out (below_next HB.out hb9)⟩
      · have HTW := Lib.hid (twP_idx (t := t) fun j p hp => HN.out j p (by have := (List.getElem?_eq_some_iff.1 hp).1; omega) hp)
        clear HN hk
        go_wp2_with fail
        have HQ := Lib.hid (qmeets_any l _ c t _ c2 s _ c3 _ (HL.out.kept (Kept.of_below HB.out)) HSH.out (HT.out.kept (Kept.of_below HB.out)) (HS.out.kept (Kept.of_below HB.out)) HXD.out HSL.out)
        rw [HME.out] at HQ
        refine HQ.out.mono ?_
        rintro e w5 ⟨rfl, hb5⟩
        have HB := Lib.hid (below_next HB.out hb5)
        clear hb5 HQ hlt
        go_wp2
        go_loopw [65] (fun i wr => ∃ k : Nat, k ≤ s.length ∧ i = .int .i64 k ∧ Below w.heap.size w wr) (fun i _ => s.length - (intOf i).toNat)
        case atStart => exact ⟨0, Nat.zero_le _, rfl, HB.out⟩
        case round =>
          clear HB
          obtain ⟨k, hk, rfl, hb⟩ := hrel
          have HB := Lib.hid hb
          clear hb
          by_cases hlt : k < s.length
          · obtain ⟨x, b, o, r, hx, hA, hr, e0, e1, e2, e3, e4, e5, e6, e7, e8, e9, e10⟩ := HS.out.at_ hlt (Kept.of_below HB.out)
            subst hA
            have HX := Lib.hid (List.mem_of_getElem? hx)
            have HR := Lib.hid hr
            clear hx hr
            obtain ⟨ES, hES⟩ : ∃ b, b = x.pkg.ess := ⟨_, rfl⟩
            rw [← hES] at e8
            have HES := Lib.hid hES
            clear hES
            rcases ES with _ | _
            · go_wp2_with fail
              clear e0 e1 e2 e3 e4 e5 e6 e7 e8 e9 e10
              have KX := Lib.hid (blk_new1 wr 45 #[.string (bs (x).pkg.name), .string (bs (x).pkg.ver), .slice (r).a1 (x).pkg.pre.length (r).c1, .slice (r).a2 (x).pkg.dep.length (r).c2, .slice (r).a3 (x).pkg.rcm.length (r).c3, .slice (r).a4 (x).pkg.con.length (r).c4, .slice (r).a5 (x).pkg.brk.length (r).c5, .slice (r).a6 (x).pkg.prv.length (r).c6, .bool false, .bool (x).conf, .bool (x).hold])
              have HB := Lib.hid (below_alloc HB.out (.cells #[.string (bs (x).pkg.name), .string (bs (x).pkg.ver), .slice (r).a1 (x).pkg.pre.length (r).c1, .slice (r).a2 (x).pkg.dep.length (r).c2, .slice (r).a3 (x).pkg.rcm.length (r).c3, .slice (r).a4 (x).pkg.con.length (r).c4, .slice (r).a5 (x).pkg.brk.length (r).c5, .slice (r).a6 (x).pkg.prv.length (r).c6, .bool false, .bool (x).conf, .bool (x).hold] 45))
              have HQ := Lib.hid (rfindPk_any _ c2 t x.pkg.name _ (HT.out.kept (Kept.of_below HB.out)))
              obtain ⟨I, hI⟩ : ∃ I, I = idxS (pnB x.pkg.name) t := ⟨_, rfl⟩
              rw [← hI] at HQ
              refine HQ.out.mono ?_
              rintro e w4 ⟨rfl, hb4⟩
              have KX := Lib.hid (KX.out.next hb4)
              have HB := Lib.hid (below_next HB.out hb4)
              clear hb4 HQ
              have x8 := KX.out.cell 8
              have x0 := KX.out.cell 0
              simp only [List.getElem?_toArray, List.getElem?_cons_zero, List.getElem?_cons_succ] at x8 x0
              rcases idx_fnd (pnB x.pkg.name) t with ⟨hx, hf⟩ | ⟨j, p, hx, hj, hf⟩
              · obtain rfl : I = -1 := hI.trans hx
                clear hI hx hf
                go_wp2_with fail
                have HQ := Lib.hid (rabout_any l _ c x.pkg.name _ (HL.out.kept (Kept.of_below HB.out)))
                obtain ⟨Q, hQ⟩ : ∃ Q, Q = aboutQ l x.pkg.name := ⟨_, rfl⟩
                rw [← hQ] at HQ
                have HQE := Lib.hid hQ
                obtain ⟨qk, qn, qv⟩ := Q
                dsimp only at HQ
                refine HQ.out.mono ?_
                rintro e w5 ⟨rfl, hb5⟩
                have HB := Lib.hid (below_alloc (below_next HB.out hb5) (.cells #[.int .i64 qk, .string (bs qn), .string (bs qv)] 68))
                have KX := Lib.hid ((KX.out.next hb5).alloc (.cells #[.int .i64 qk, .string (bs qn), .string (bs qv)] 68))
                have KQ := Lib.hid (blk_new1 w5 68 #[.int .i64 qk, .string (bs qn), .string (bs qv)])
                clear hb5 HQ hQ
                go_wp2_with fail
                go_quiet (fail)
                go_wp2
                go_roundw
                case rel => exact ⟨k + 1, by omega, by simp, below_drewN HB.out _⟩
                case measure => (try simp only [intOf]); omega
              · obtain rfl : I = (j : Int) := hI.trans hx
                have hj0 : decide ((j : Int) < 0) = false := decide_eq_false (by omega)
                have hj1 : decide ((0 : Int) ≤ (j : Int)) = true := decide_eq_true (by omega)
                have HJ := Lib.hid hj
                have hjl : j < t.length := (List.getElem?_eq_some_iff.1 hj).1
                have HGO := Lib.hid (fun h => exact_split (guard_old HME.out HX.out (HSN.out x HX.out) hf h))
                clear hI hx hf hj
                go_wp2_with fail
                have HQ := Lib.hid (rabout_any l _ c x.pkg.name _ (HL.out.kept (Kept.of_below HB.out)))
                obtain ⟨Q, hQ⟩ : ∃ Q, Q = aboutQ l x.pkg.name := ⟨_, rfl⟩
                rw [← hQ] at HQ
                have HQE := Lib.hid hQ
                obtain ⟨qk, qn, qv⟩ := Q
                dsimp only at HQ
                refine HQ.out.mono ?_
                rintro e w5 ⟨rfl, hb5⟩
                have HB := Lib.hid (below_alloc (below_next HB.out hb5) (.cells #[.int .i64 qk, .string (bs qn), .string (bs qv)] 68))
                have KX := Lib.hid ((KX.out.next hb5).alloc (.cells #[.int .i64 qk, .string (bs qn), .string (bs qv)] 68))
                have KQ := Lib.hid (blk_new1 w5 68 #[.int .i64 qk, .string (bs qn), .string (bs qv)])
                clear hb5 HQ hQ
                go_wp2_with fail
                generalize w5.alloc (.cells #[.int .i64 qk, .string (bs qn), .string (bs qv)] 68) = W at HB KX KQ ⊢
                obtain ⟨p2, b2, o2, rp, hp2, hA2, hrp, d0, d1, d2, d3, d4, d5, d6, d7, d8⟩ := HT.out.at_ hjl (Kept.of_below HB.out)
                obtain rfl : p2 = p := Option.some.inj (hp2.symm.trans HJ.out)
                subst hA2
                have HNW := Lib.hid (fun (W' : World) (B : Option Addr) (hp : Pkgs W' B 1 [x.pkg]) => rnewer_any p2 rp B 1 [x.pkg] W' hp)
                have HRX := Lib.hid (HR.out.kept (Kept.of_below HB.out))
                clear hp2 hrp
                obtain ⟨y0, y1, y2, y3, y4, y5, y6, y7, y8, y9, y10⟩ := blk11 KX.out
                have D0 := fun (w2 : World) (h : Hid (Below W.heap.size W w2)) => Kept.of_below h.out _ _ d0
                have E0 := fun (w2 : World) (h : Hid (Below W.heap.size W w2)) => Kept.of_below h.out _ _ y0
                have D1 := fun (w2 : World) (h : Hid (Below W.heap.size W w2)) => Kept.of_below h.out _ _ d1
                have E1 := fun (w2 : World) (h : Hid (Below W.heap.size W w2)) => Kept.of_below h.out _ _ y1
                have D2 := fun (w2 : World) (h : Hid (Below W.heap.size W w2)) => Kept.of_below h.out _ _ d2
                have E2 := fun (w2 : World) (h : Hid (Below W.heap.size W w2)) => Kept.of_below h.out _ _ y2
                have D3 := fun (w2 : World) (h : Hid (Below W.heap.size W w2)) => Kept.of_below h.out _ _ d3
                have E3 := fun (w2 : World) (h : Hid (Below W.heap.size W w2)) => Kept.of_below h.out _ _ y3
                have D4 := fun (w2 : World) (h : Hid (Below W.heap.size W w2)) => Kept.of_below h.out _ _ d4
                have E4 := fun (w2 : World) (h : Hid (Below W.heap.size W w2)) => Kept.of_below h.out _ _ y4
                have D5 := fun (w2 : World) (h : Hid (Below W.heap.size W w2)) => Kept.of_below h.out _ _ d5
                have E5 := fun (w2 : World) (h : Hid (Below W.heap.size W w2)) => Kept.of_below h.out _ _ y5
                have D6 := fun (w2 : World) (h : Hid (Below W.heap.size W w2)) => Kept.of_below h.out _ _ d6
                have E6 := fun (w2 : World) (h : Hid (Below W.heap.size W w2)) => Kept.of_below h.out _ _ y6
                have D7 := fun (w2 : World) (h : Hid (Below W.heap.size W w2)) => Kept.of_below h.out _ _ d7
                have E7 := fun (w2 : World) (h : Hid (Below W.heap.size W w2)) => Kept.of_below h.out _ _ y7
                have D8 := fun (w2 : World) (h : Hid (Below W.heap.size W w2)) => Kept.of_below h.out _ _ d8
                have E8 := fun (w2 : World) (h : Hid (Below W.heap.size W w2)) => Kept.of_below h.out _ _ y8
                clear d0 d1 d2 d3 d4 d5 d6 d7 d8 y0 y1 y2 y3 y4 y5 y6 y7 y8 y9 y10
                obtain ⟨N, hN⟩ : ∃ N : Nat, N = newerS p2 [x.pkg] := ⟨_, rfl⟩
                rw [← hN] at HNW
                have HN := Lib.hid hN
                clear hN
                go_region_held3 (fun w' => Hid (Below W.heap.size W w')) (first | with_reducible assumption | exact HB6 | exact Lib.hid (below_drewN (Below.refl _ _) 1) | (have hh := (by assumption : Hid (Below W.heap.size W _)); exact Lib.hid (below_alloc hh.out _)))
                  ((have hh := (by assumption : Hid (Below W.heap.size W _)); go_at_call 51; refine (HNW.out _ _ (pkgs_oneB (by first | exact blk_new1 W _ _ | exact Blk.drewQ (blk_new1 W _ _) | exact blk_new1 W.drew _ _) (HRX.out.kept (Kept.of_below hh.out)) HES.out)).mono ?_; rintro e w6 ⟨rfl, hb6⟩; have HB6 := Lib.hid (below_next hh.out hb6)))
                have HBW := Lib.hid (below_next HB.out HB6.out)
                have KQ6 := Lib.hid (KQ.out.next HB6.out)
                have q0 := KQ6.out.cell 0
                have q2 := KQ6.out.cell 2
                simp only [List.getElem?_toArray, List.getElem?_cons_zero, List.getElem?_cons_succ] at q0 q2
                clear D0 D1 D2 D3 D4 D5 D6 D7 D8 E0 E1 E2 E3 E4 E5 E6 E7 E8
                rcases hlat : laterB p2 x.pkg
                · have hN0 : decide (0 < N) = false := by rw [HN.out, newer_one, hlat]; rfl
                  clear hlat
                  go_wp2
                  go_roundw
                  case rel => exact ⟨k + 1, by omega, by simp, HBW.out⟩
                  case measure => (try simp only [intOf]); omega
                · have hN0 : decide (0 < N) = true := by rw [HN.out, newer_one, hlat]; rfl
                  have hl2 := hlat
                  unfold laterB at hl2
                  simp only [Bool.and_eq_true, decide_eq_true_eq] at hl2
                  have hq := HGO.out hl2.2
                  rw [← HQE.out] at hq
                  obtain ⟨hq1, hq2⟩ := hq
                  dsimp only at hq1 hq2
                  have hk1 : (qk != 1) = false := by rw [hq1]; rfl
                  have hvb : qv.isEmpty = false := by simpa using hq2
                  clear hlat hl2 hq1 hq2
                  go_wp2
                  go_roundw
                  case rel => exact ⟨k + 1, by omega, by simp, HBW.out⟩
                  case measure => (try simp only [intOf]); omega
            · go_wp2_with fail
              clear e0 e1 e2 e3 e4 e5 e6 e7 e8 e9 e10
              have KX := Lib.hid (blk_new1 wr 45 #[.string (bs (x).pkg.name), .string (bs (x).pkg.ver), .slice (r).a1 (x).pkg.pre.length (r).c1, .slice (r).a2 (x).pkg.dep.length (r).c2, .slice (r).a3 (x).pkg.rcm.length (r).c3, .slice (r).a4 (x).pkg.con.length (r).c4, .slice (r).a5 (x).pkg.brk.length (r).c5, .slice (r).a6 (x).pkg.prv.length (r).c6, .bool true, .bool (x).conf, .bool (x).hold])
              have HB := Lib.hid (below_alloc HB.out (.cells #[.string (bs (x).pkg.name), .string (bs (x).pkg.ver), .slice (r).a1 (x).pkg.pre.length (r).c1, .slice (r).a2 (x).pkg.dep.length (r).c2, .slice (r).a3 (x).pkg.rcm.length (r).c3, .slice (r).a4 (x).pkg.con.length (r).c4, .slice (r).a5 (x).pkg.brk.length (r).c5, .slice (r).a6 (x).pkg.prv.length (r).c6, .bool true, .bool (x).conf, .bool (x).hold] 45))
              have HQ := Lib.hid (rfindPk_any _ c2 t x.pkg.name _ (HT.out.kept (Kept.of_below HB.out)))
              obtain ⟨I, hI⟩ : ∃ I, I = idxS (pnB x.pkg.name) t := ⟨_, rfl⟩
              rw [← hI] at HQ
              refine HQ.out.mono ?_
              rintro e w4 ⟨rfl, hb4⟩
              have KX := Lib.hid (KX.out.next hb4)
              have HB := Lib.hid (below_next HB.out hb4)
              clear hb4 HQ
              have x8 := KX.out.cell 8
              have x0 := KX.out.cell 0
              simp only [List.getElem?_toArray, List.getElem?_cons_zero, List.getElem?_cons_succ] at x8 x0
              rcases idx_fnd (pnB x.pkg.name) t with ⟨hx, hf⟩ | ⟨j, p, hx, hj, hf⟩
              · exact absurd (HES.out.trans (guard_ess HME.out HX.out hf)) (by decide)
              · obtain rfl : I = (j : Int) := hI.trans hx
                have hj0 : decide ((j : Int) < 0) = false := decide_eq_false (by omega)
                have hj1 : decide ((0 : Int) ≤ (j : Int)) = true := decide_eq_true (by omega)
                have HJ := Lib.hid hj
                have hjl : j < t.length := (List.getElem?_eq_some_iff.1 hj).1
                have HGO := Lib.hid (fun h => exact_split (guard_old HME.out HX.out (HSN.out x HX.out) hf h))
                clear hI hx hf hj
                go_wp2_with fail
                have HQ := Lib.hid (rabout_any l _ c x.pkg.name _ (HL.out.kept (Kept.of_below HB.out)))
                obtain ⟨Q, hQ⟩ : ∃ Q, Q = aboutQ l x.pkg.name := ⟨_, rfl⟩
                rw [← hQ] at HQ
                have HQE := Lib.hid hQ
                obtain ⟨qk, qn, qv⟩ := Q
                dsimp only at HQ
                refine HQ.out.mono ?_
                rintro e w5 ⟨rfl, hb5⟩
                have HB := Lib.hid (below_alloc (below_next HB.out hb5) (.cells #[.int .i64 qk, .string (bs qn), .string (bs qv)] 68))
                have KX := Lib.hid ((KX.out.next hb5).alloc (.cells #[.int .i64 qk, .string (bs qn), .string (bs qv)] 68))
                have KQ := Lib.hid (blk_new1 w5 68 #[.int .i64 qk, .string (bs qn), .string (bs qv)])
                clear hb5 HQ hQ
                go_wp2_with fail
                generalize w5.alloc (.cells #[.int .i64 qk, .string (bs qn), .string (bs qv)] 68) = W at HB KX KQ ⊢
                obtain ⟨p2, b2, o2, rp, hp2, hA2, hrp, d0, d1, d2, d3, d4, d5, d6, d7, d8⟩ := HT.out.at_ hjl (Kept.of_below HB.out)
                obtain rfl : p2 = p := Option.some.inj (hp2.symm.trans HJ.out)
                subst hA2
                have HNW := Lib.hid (fun (W' : World) (B : Option Addr) (hp : Pkgs W' B 1 [x.pkg]) => rnewer_any p2 rp B 1 [x.pkg] W' hp)
                have HRX := Lib.hid (HR.out.kept (Kept.of_below HB.out))
                clear hp2 hrp
                obtain ⟨y0, y1, y2, y3, y4, y5, y6, y7, y8, y9, y10⟩ := blk11 KX.out
                have D0 := fun (w2 : World) (h : Hid (Below W.heap.size W w2)) => Kept.of_below h.out _ _ d0
                have E0 := fun (w2 : World) (h : Hid (Below W.heap.size W w2)) => Kept.of_below h.out _ _ y0
                have D1 := fun (w2 : World) (h : Hid (Below W.heap.size W w2)) => Kept.of_below h.out _ _ d1
                have E1 := fun (w2 : World) (h : Hid (Below W.heap.size W w2)) => Kept.of_below h.out _ _ y1
                have D2 := fun (w2 : World) (h : Hid (Below W.heap.size W w2)) => Kept.of_below h.out _ _ d2
                have E2 := fun (w2 : World) (h : Hid (Below W.heap.size W w2)) => Kept.of_below h.out _ _ y2
                have D3 := fun (w2 : World) (h : Hid (Below W.heap.size W w2)) => Kept.of_below h.out _ _ d3
                have E3 := fun (w2 : World) (h : Hid (Below W.heap.size W w2)) => Kept.of_below h.out _ _ y3
                have D4 := fun (w2 : World) (h : Hid (Below W.heap.size W w2)) => Kept.of_below h.out _ _ d4
                have E4 := fun (w2 : World) (h : Hid (Below W.heap.size W w2)) => Kept.of_below h.out _ _ y4
                have D5 := fun (w2 : World) (h : Hid (Below W.heap.size W w2)) => Kept.of_below h.out _ _ d5
                have E5 := fun (w2 : World) (h : Hid (Below W.heap.size W w2)) => Kept.of_below h.out _ _ y5
                have D6 := fun (w2 : World) (h : Hid (Below W.heap.size W w2)) => Kept.of_below h.out _ _ d6
                have E6 := fun (w2 : World) (h : Hid (Below W.heap.size W w2)) => Kept.of_below h.out _ _ y6
                have D7 := fun (w2 : World) (h : Hid (Below W.heap.size W w2)) => Kept.of_below h.out _ _ d7
                have E7 := fun (w2 : World) (h : Hid (Below W.heap.size W w2)) => Kept.of_below h.out _ _ y7
                have D8 := fun (w2 : World) (h : Hid (Below W.heap.size W w2)) => Kept.of_below h.out _ _ d8
                have E8 := fun (w2 : World) (h : Hid (Below W.heap.size W w2)) => Kept.of_below h.out _ _ y8
                clear d0 d1 d2 d3 d4 d5 d6 d7 d8 y0 y1 y2 y3 y4 y5 y6 y7 y8 y9 y10
                obtain ⟨N, hN⟩ : ∃ N : Nat, N = newerS p2 [x.pkg] := ⟨_, rfl⟩
                rw [← hN] at HNW
                have HN := Lib.hid hN
                clear hN
                go_region_held3 (fun w' => Hid (Below W.heap.size W w')) (first | with_reducible assumption | exact HB6 | exact Lib.hid (below_drewN (Below.refl _ _) 1) | (have hh := (by assumption : Hid (Below W.heap.size W _)); exact Lib.hid (below_alloc hh.out _)))
                  ((have hh := (by assumption : Hid (Below W.heap.size W _)); go_at_call 51; refine (HNW.out _ _ (pkgs_oneB (by first | exact blk_new1 W _ _ | exact Blk.drewQ (blk_new1 W _ _) | exact blk_new1 W.drew _ _) (HRX.out.kept (Kept.of_below hh.out)) HES.out)).mono ?_; rintro e w6 ⟨rfl, hb6⟩; have HB6 := Lib.hid (below_next hh.out hb6)))
                have HBW := Lib.hid (below_next HB.out HB6.out)
                have KQ6 := Lib.hid (KQ.out.next HB6.out)
                have q0 := KQ6.out.cell 0
                have q2 := KQ6.out.cell 2
                simp only [List.getElem?_toArray, List.getElem?_cons_zero, List.getElem?_cons_succ] at q0 q2
                clear D0 D1 D2 D3 D4 D5 D6 D7 D8 E0 E1 E2 E3 E4 E5 E6 E7 E8
                rcases hlat : laterB p2 x.pkg
                · have hN0 : decide (0 < N) = false := by rw [HN.out, newer_one, hlat]; rfl
                  clear hlat
                  go_wp2
                  go_roundw
                  case rel => exact ⟨k + 1, by omega, by simp, HBW.out⟩
                  case measure => (try simp only [intOf]); omega
                · have hN0 : decide (0 < N) = true := by rw [HN.out, newer_one, hlat]; rfl
                  have hl2 := hlat
                  unfold laterB at hl2
                  simp only [Bool.and_eq_true, decide_eq_true_eq] at hl2
                  have hq := HGO.out hl2.2
                  rw [← HQE.out] at hq
                  obtain ⟨hq1, hq2⟩ := hq
                  dsimp only at hq1 hq2
                  have hk1 : (qk != 1) = false := by rw [hq1]; rfl
                  have hvb : qv.isEmpty = false := by simpa using hq2
                  clear hlat hl2 hq1 hq2
                  go_wp2
                  go_roundw
                  case rel => exact ⟨k + 1, by omega, by simp, HBW.out⟩
                  case measure => (try simp only [intOf]); omega
          · go_wp2
            clear hk hlt
            go_loopw [113] (fun i wr => ∃ k : Nat, k ≤ l.length ∧ i = .int .i64 k ∧ Below w.heap.size w wr) (fun i _ => l.length - (intOf i).toNat)
            case atStart => exact ⟨0, Nat.zero_le _, rfl, HB.out⟩
            case round =>
              clear HB
              obtain ⟨k, hk, rfl, hb⟩ := hrel
              have HB := Lib.hid hb
              clear hb
              by_cases hlt : k < l.length
              · obtain ⟨⟨ka, nm, vr⟩, b, o, hst, hA, e0, e1, e2⟩ := HL.out.at_ hlt (Kept.of_below HB.out)
                subst hA
                have HGO := Lib.hid (guard_one HME.out (List.mem_of_getElem? hst))
                dsimp only at e0 e1 e2 HGO
                clear hst
                go_wp2_with fail
                clear e0 e1 e2
                have KA := Lib.hid (blk_new1 wr 68 #[.int .i64 ka, .string (bs nm), .string (bs vr)])
                have HB := Lib.hid (below_alloc HB.out (.cells #[.int .i64 ka, .string (bs nm), .string (bs vr)] 68))
                have HQ := Lib.hid (rfindPk_any _ c2 t nm _ (HT.out.kept (Kept.of_below HB.out)))
                obtain ⟨I, hI⟩ : ∃ I, I = idxS (pnB nm) t := ⟨_, rfl⟩
                rw [← hI] at HQ
                refine HQ.out.mono ?_
                rintro e w4 ⟨rfl, hb4⟩
                have KA := Lib.hid (KA.out.next hb4)
                have HB := Lib.hid (below_next HB.out hb4)
                clear hb4 HQ
                have a0 := KA.out.cell 0
                simp only [List.getElem?_toArray, List.getElem?_cons_zero, List.getElem?_cons_succ] at a0
                rcases idx_fnd (pnB nm) t with ⟨hx, hf⟩ | ⟨j, p, hx, hj, hf⟩
                · obtain rfl : I = -1 := hI.trans hx
                  have hk1 : (ka == 1) = false := by
                    rw [beq_eq_false_iff_ne]
                    intro hk
                    exact HGO.out.1 hk hf
                  clear hI hx hf HGO
                  rcases hk2 : (ka == 2)
                  · go_wp2
                    go_roundw
                    case rel => exact ⟨k + 1, by omega, by simp, HB.out⟩
                    case measure => (try simp only [intOf]); omega
                  · go_wp2
                    go_roundw
                    case rel => exact ⟨k + 1, by omega, by simp, HB.out⟩
                    case measure => (try simp only [intOf]); omega
                · obtain rfl : I = (j : Int) := hI.trans hx
                  have hk2 : (ka == 2) = false := by
                    rw [beq_eq_false_iff_ne]
                    intro hk
                    rw [HGO.out.2 hk] at hf
                    cases hf
                  have hj0 : decide ((j : Int) < 0) = false := decide_eq_false (by omega)
                  clear hI hx hf HGO hj
                  rcases hk1 : (ka == 1)
                  · go_wp2
                    go_roundw
                    case rel => exact ⟨k + 1, by omega, by simp, HB.out⟩
                    case measure => (try simp only [intOf]); omega
                  · go_wp2
                    go_roundw
                    case rel => exact ⟨k + 1, by omega, by simp, HB.out⟩
                    case measure => (try simp only [intOf]); omega
              · go_wp2_with fail
                refine (awake17_any _).mono ?_
                rintro e w9 ⟨rfl, hb9⟩
                go_wp2
                go_ret
                first | exact ⟨rfl, below_next HB.out hb9⟩ | exact ⟨rfl, below_next HBX.out (below_next HB.out hb9)⟩
set_option maxRecDepth 100000 in
set_option maxHeartbeats 2000000 in
theorem law_qguards (A : Option Addr) (c : Nat) (l : List Stp) (A2 : Option Addr) (c2 : Nat) (t : List Pkg) (A3 : Option Addr) (c3 : Nat) (s : List Ent) (w : World) (hl : Stps w A c l) (hsh : ∀ a ∈ l, short a.name) (ht : Pkgs w A2 c2 t) (hs : Ents w A3 c3 s) : Calls Tryz.prog 13 #[.slice A l.length c, .slice A2 t.length c2, .slice A3 s.length c3] w fun e w' => e = .returned (.bool true) ∧ Below w.heap.size w w' := by
  by_cases h20 : l.length ≤ 20
  · rcases h1 : lightM 26 40 14 10 t
    · have HB := Lib.hid (Below.refl w.heap.size w)
      have hbl := Slc.bd hl
      have hbt := ht.bd
      have hbs := hs.bd
      have HL := Lib.hid hl
      have HSH := Lib.hid hsh
      have HT := Lib.hid ht
      have HS := Lib.hid hs
      clear hl hsh ht hs
      have k20 : decide ((20 : Int) < (l.length : Int)) = false := decide_eq_false (by omega)
      clear h20
      have H1 := Lib.hid h1
      clear h1
      go_enter Tryz.func13, Tryz.ntmps13
      (try go_wp2_with fail)
      refine (light17_any _ _ t _ (HT.out.kept (Kept.of_below HB.out))).mono ?_
      rintro e w2 ⟨rfl, hb2⟩
      rw [H1.out]
      have HB := Lib.hid (below_next HB.out hb2)
      clear hb2
      go_wp2_with fail
      refine (awake17_any _).mono ?_
      rintro e w9 ⟨rfl, hb9⟩
      go_wp2
      go_ret
      first | exact ⟨rfl, below_next HB.out hb9⟩ | exact ⟨rfl, below_next HBX.out (below_next HB.out hb9)⟩
    · rcases h2 : lightM 26 40 14 10 (s.map Ent.pkg)
      · have HB := Lib.hid (Below.refl w.heap.size w)
        have hbl := Slc.bd hl
        have hbt := ht.bd
        have hbs := hs.bd
        have HL := Lib.hid hl
        have HSH := Lib.hid hsh
        have HT := Lib.hid ht
        have HS := Lib.hid hs
        clear hl hsh ht hs
        have k20 : decide ((20 : Int) < (l.length : Int)) = false := decide_eq_false (by omega)
        clear h20
        have H1 := Lib.hid h1
        have H2 := Lib.hid h2
        clear h1 h2
        go_enter Tryz.func13, Tryz.ntmps13
        (try go_wp2_with fail)
        refine (light17_any _ _ t _ (HT.out.kept (Kept.of_below HB.out))).mono ?_
        rintro e w2 ⟨rfl, hb2⟩
        rw [H1.out]
        have HB := Lib.hid (below_next HB.out hb2)
        clear hb2
        go_wp2_with fail
        refine (bare17_any _ _ s _ (HS.out.kept (Kept.of_below HB.out))).mono ?_
        rintro e w1 ⟨A9, c9, rfl, hp, hb1⟩
        generalize hm : (s).map Ent.pkg = lp at hp ⊢
        have HP := Lib.hid hp
        have HT1 := Lib.hid (show lightM 26 40 14 10 lp = _ from hm ▸ H2.out)
        have HB := Lib.hid (below_next HB.out hb1)
        clear hp hm hb1
        go_wp2_with fail
        refine (light17_any _ _ _ _ HP.out).mono ?_
        rintro e w2 ⟨rfl, hb2⟩
        rw [HT1.out]
        have HB := Lib.hid (below_next HB.out hb2)
        clear hb2 HP HT1
        go_wp2_with fail
        refine (awake17_any _).mono ?_
        rintro e w9 ⟨rfl, hb9⟩
        go_wp2
        go_ret
        first | exact ⟨rfl, below_next HB.out hb9⟩ | exact ⟨rfl, below_next HBX.out (below_next HB.out hb9)⟩
      · by_cases h3 : mayAllE t = 0
        · by_cases h4 : mayEntsE s = 0
          · exact qgu_main A c l A2 c2 t A3 c3 s w hl hsh ht hs h20 h1 h2 h3 h4
          · have HB := Lib.hid (Below.refl w.heap.size w)
            have hbl := Slc.bd hl
            have hbt := ht.bd
            have hbs := hs.bd
            have HL := Lib.hid hl
            have HSH := Lib.hid hsh
            have HT := Lib.hid ht
            have HS := Lib.hid hs
            clear hl hsh ht hs
            have k20 : decide ((20 : Int) < (l.length : Int)) = false := decide_eq_false (by omega)
            clear h20
            have HXD := Lib.hid (show ∀ x ∈ s, fewD x.pkg from fun x hx => (light_fd h2).2 _ (List.mem_map_of_mem hx))
            have H1 := Lib.hid h1
            have H2 := Lib.hid h2
            have H3 := Lib.hid h3
            obtain ⟨E4, he4⟩ : ∃ E, E = mayEntsE s := ⟨_, rfl⟩
            have hne4 : (E4 != 0) = true := by rw [bne_iff_ne, he4]; exact h4
            have H4 := Lib.hid he4.symm
            clear h1 h2 h3 h4 he4
            go_enter Tryz.func13, Tryz.ntmps13
            (try go_wp2_with fail)
            refine (light17_any _ _ t _ (HT.out.kept (Kept.of_below HB.out))).mono ?_
            rintro e w2 ⟨rfl, hb2⟩
            rw [H1.out]
            have HB := Lib.hid (below_next HB.out hb2)
            clear hb2
            go_wp2_with fail
            refine (bare17_any _ _ s _ (HS.out.kept (Kept.of_below HB.out))).mono ?_
            rintro e w1 ⟨A9, c9, rfl, hp, hb1⟩
            generalize hm : (s).map Ent.pkg = lp at hp ⊢
            have HP := Lib.hid hp
            have HT1 := Lib.hid (show lightM 26 40 14 10 lp = _ from hm ▸ H2.out)
            have HB := Lib.hid (below_next HB.out hb1)
            clear hp hm hb1
            go_wp2_with fail
            refine (light17_any _ _ _ _ HP.out).mono ?_
            rintro e w2 ⟨rfl, hb2⟩
            rw [HT1.out]
            have HB := Lib.hid (below_next HB.out hb2)
            clear hb2 HP HT1
            go_wp2_with fail
            refine (rmayAll_any _ _ t _ (HT.out.kept (Kept.of_below HB.out))).mono ?_
            rintro e w2 ⟨rfl, hb2⟩
            rw [H3.out]
            have HB := Lib.hid (below_next HB.out hb2)
            clear hb2
            go_wp2_with fail
            refine (rents_any _ _ s _ (HS.out.kept (Kept.of_below HB.out)) (fun x h => (HXD.out x h).r)).mono ?_
            rintro e w2 ⟨rfl, hb2⟩
            rw [H4.out]
            have HB := Lib.hid (below_next HB.out hb2)
            clear hb2
            go_wp2_with fail
            refine (awake17_any _).mono ?_
            rintro e w9 ⟨rfl, hb9⟩
            go_wp2
            go_ret
            first | exact ⟨rfl, below_next HB.out hb9⟩ | exact ⟨rfl, below_next HBX.out (below_next HB.out hb9)⟩
        · have HB := Lib.hid (Below.refl w.heap.size w)
          have hbl := Slc.bd hl
          have hbt := ht.bd
          have hbs := hs.bd
          have HL := Lib.hid hl
          have HSH := Lib.hid hsh
          have HT := Lib.hid ht
          have HS := Lib.hid hs
          clear hl hsh ht hs
          have k20 : decide ((20 : Int) < (l.length : Int)) = false := decide_eq_false (by omega)
          clear h20
          have H1 := Lib.hid h1
          have H2 := Lib.hid h2
          obtain ⟨E3, he3⟩ : ∃ E, E = mayAllE t := ⟨_, rfl⟩
          have hne3 : (E3 != 0) = true := by rw [bne_iff_ne, he3]; exact h3
          have H3 := Lib.hid he3.symm
          clear h1 h2 h3 he3
          go_enter Tryz.func13, Tryz.ntmps13
          (try go_wp2_with fail)
          refine (light17_any _ _ t _ (HT.out.kept (Kept.of_below HB.out))).mono ?_
          rintro e w2 ⟨rfl, hb2⟩
          rw [H1.out]
          have HB := Lib.hid (below_next HB.out hb2)
          clear hb2
          go_wp2_with fail
          refine (bare17_any _ _ s _ (HS.out.kept (Kept.of_below HB.out))).mono ?_
          rintro e w1 ⟨A9, c9, rfl, hp, hb1⟩
          generalize hm : (s).map Ent.pkg = lp at hp ⊢
          have HP := Lib.hid hp
          have HT1 := Lib.hid (show lightM 26 40 14 10 lp = _ from hm ▸ H2.out)
          have HB := Lib.hid (below_next HB.out hb1)
          clear hp hm hb1
          go_wp2_with fail
          refine (light17_any _ _ _ _ HP.out).mono ?_
          rintro e w2 ⟨rfl, hb2⟩
          rw [HT1.out]
          have HB := Lib.hid (below_next HB.out hb2)
          clear hb2 HP HT1
          go_wp2_with fail
          refine (rmayAll_any _ _ t _ (HT.out.kept (Kept.of_below HB.out))).mono ?_
          rintro e w2 ⟨rfl, hb2⟩
          rw [H3.out]
          have HB := Lib.hid (below_next HB.out hb2)
          clear hb2
          go_wp2_with fail
          refine (awake17_any _).mono ?_
          rintro e w9 ⟨rfl, hb9⟩
          go_wp2
          go_ret
          first | exact ⟨rfl, below_next HB.out hb9⟩ | exact ⟨rfl, below_next HBX.out (below_next HB.out hb9)⟩
  · have HB := Lib.hid (Below.refl w.heap.size w)
    have hbl := Slc.bd hl
    have hbt := ht.bd
    have hbs := hs.bd
    have HL := Lib.hid hl
    have HSH := Lib.hid hsh
    have HT := Lib.hid ht
    have HS := Lib.hid hs
    clear hl hsh ht hs
    have k20 : decide ((20 : Int) < (l.length : Int)) = true := decide_eq_true (by omega)
    clear h20
    go_enter Tryz.func13, Tryz.ntmps13
    go_wp2_with fail
    refine (awake17_any _).mono ?_
    rintro e w9 ⟨rfl, hb9⟩
    go_wp2
    go_ret
    first | exact ⟨rfl, below_next HB.out hb9⟩ | exact ⟨rfl, below_next HBX.out (below_next HB.out hb9)⟩
end Go.Proofs.YtaicidbopgnmfaaGreatDoor
