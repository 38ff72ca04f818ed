/- The law RequestMeets. -/
import Derived.Test.YtaicidbopgnmfaaGreatDoorRu
import Derived.Test.YtaicidbopgnmfaaGreatDoorAwR
import Derived.Test.YtaicidbopgnmfaaGreatDoorLb
import Derived.Test.YtaicidbopgnmfaaGreatDoorMl
import Derived.Test.YtaicidbopgnmfaaGreatDoorMx
import Derived.Test.YtaicidbopgnmfaaGreatDoorEz
namespace Go.Proofs.YtaicidbopgnmfaaGreatDoor
set_option linter.unusedSimpArgs false
set_option linter.unusedVariables false
open Go.RowKit
theorem light_fd {l : List Pkg} (h : lightM 26 40 14 10 l = true) : l.length ≤ 26 ∧ ∀ p ∈ l, fewD p := by
  obtain ⟨h1, h2⟩ := lm_of h
  refine ⟨h1, fun p hp => ?_⟩
  obtain ⟨h3, ⟨h4, h5⟩, ⟨h6, h7⟩, ⟨h8, h9⟩⟩ := h2 p hp
  exact ⟨⟨⟨by omega, fun x hx => by have := h5 x hx; omega⟩, ⟨by omega, fun x hx => by have := h7 x hx; omega⟩, ⟨by omega, fun x hx => by have := h9 x hx; omega⟩, by omega, by omega, by omega⟩, by omega, by omega⟩
set_option maxRecDepth 100000 in
set_option maxHeartbeats 2000000 in
theorem qme_main (A : Option Addr) (c : Nat) (l : List Stp) (A2 : Option Addr) (c2 : Nat) (t : List Pkg) (A3 : Option Addr) (c3 : Nat) (s : List Ent) (w : World) (hl : Stps w A c l) (hsh : ∀ a ∈ l, short a.name) (ht : Pkgs w A2 c2 t) (hs : Ents w A3 c3 s) (h20 : l.length ≤ 20) (h1 : lightM 26 40 14 10 t = true) (h2 : lightM 26 40 14 10 (s.map Ent.pkg) = true) (h3 : mayAllE t = 0) (h4 : mayEntsE s = 0) : Calls Tryz.prog 11 #[.slice A l.length c, .slice A2 t.length c2, .slice A3 s.length c3] w fun e w' => e = .returned (.bool true) ∧ Below w.heap.size w w' := by
  have HB := Lib.hid (Below.refl w.heap.size w)
  have hbl := Slc.bd hl
  have hbt := ht.bd
  have hbs := hs.bd
  have HL := Lib.hid hl
  have HSH := Lib.hid hsh
  have HT := Lib.hid ht
  have HS := Lib.hid hs
  clear hl hsh ht hs
  have HFT := Lib.hid (light_fd h1)
  have HFS := Lib.hid (light_fd h2)
  have HSL := Lib.hid (show s.length ≤ 1000 by have := HFS.out.1; rw [List.length_map] at this; omega)
  have HXD := Lib.hid (show ∀ x ∈ s, fewD x.pkg from fun x hx => HFS.out.2 _ (List.mem_map_of_mem hx))
  have HTN := Lib.hid (show ∀ p ∈ t, p.name ≠ [] from fun p hp => may_nm ((mayAll_zero h3).2.1 p hp))
  have HSN := Lib.hid (show ∀ x ∈ s, x.pkg.name ≠ [] from fun x hx => may_nm ((ents_zero h4).2.1 x hx))
  have H1 := Lib.hid h1
  have H2 := Lib.hid h2
  have H3 := Lib.hid h3
  have H4 := Lib.hid h4
  clear h1 h2 h3 h4 HFT HFS
  have k20 : decide ((20 : Int) < (l.length : Int)) = false := decide_eq_false (by omega)
  clear h20
  go_enter Tryz.func11, Tryz.ntmps11
  (try go_wp2_with fail)
  refine (light17_any _ _ t _ (HT.out.kept (Kept.of_below HB.out))).mono ?_
  rintro e w2 ⟨rfl, hb2⟩
  rw [H1.out]
  have HB := Lib.hid (below_next HB.out hb2)
  clear hb2
  go_wp2_with fail
  refine (bare17_any _ _ s _ (HS.out.kept (Kept.of_below HB.out))).mono ?_
  rintro e w1 ⟨A9, c9, rfl, hp, hb1⟩
  generalize hm : (s).map Ent.pkg = lp at hp ⊢
  have HP := Lib.hid hp
  have HT1 := Lib.hid (show lightM 26 40 14 10 lp = _ from hm ▸ H2.out)
  have HB := Lib.hid (below_next HB.out hb1)
  clear hp hm hb1
  go_wp2_with fail
  refine (light17_any _ _ _ _ HP.out).mono ?_
  rintro e w2 ⟨rfl, hb2⟩
  rw [HT1.out]
  have HB := Lib.hid (below_next HB.out hb2)
  clear hb2 HP HT1
  go_wp2_with fail
  refine (rmayAll_any _ _ t _ (HT.out.kept (Kept.of_below HB.out))).mono ?_
  rintro e w2 ⟨rfl, hb2⟩
  rw [H3.out]
  have HB := Lib.hid (below_next HB.out hb2)
  clear hb2
  go_wp2_with fail
  refine (rents_any _ _ s _ (HS.out.kept (Kept.of_below HB.out)) (fun x h => (HXD.out x h).r)).mono ?_
  rintro e w2 ⟨rfl, hb2⟩
  rw [H4.out]
  have HB := Lib.hid (below_next HB.out hb2)
  clear hb2
  go_wp2
  go_loopw [36] (fun i wr => ∃ k : Nat, k ≤ t.length ∧ i = .int .i64 k ∧ (∀ (j : Nat) p, j < k → t[j]? = some p → idxS (pnB p.name) t = (j : Int)) ∧ Below w.heap.size w wr) (fun i _ => t.length - (intOf i).toNat)
  case atStart => exact ⟨0, Nat.zero_le _, rfl, fun j p hj => absurd hj (by omega), HB.out⟩
  case round =>
    clear HB
    obtain ⟨k, hk, rfl, hn, hb⟩ := hrel
    have HN := Lib.hid hn
    have HB := Lib.hid hb
    clear hn hb
    by_cases hlt : k < t.length
    · obtain ⟨q, b, o, r, hq, hA, hr, e0, e1, e2, e3, e4, e5, e6, e7, e8⟩ := HT.out.at_ hlt (Kept.of_below HB.out)
      subst hA
      have HQ := Lib.hid hq
      clear hq hr
      go_wp2_with fail
      clear e0 e1 e2 e3 e4 e5 e6 e7 e8
      have HB := Lib.hid (below_alloc HB.out (.cells #[.string (bs (q).name), .string (bs (q).ver), .slice (r).a1 (q).pre.length (r).c1, .slice (r).a2 (q).dep.length (r).c2, .slice (r).a3 (q).rcm.length (r).c3, .slice (r).a4 (q).con.length (r).c4, .slice (r).a5 (q).brk.length (r).c5, .slice (r).a6 (q).prv.length (r).c6, .bool (q).ess] 43))
      have HF := Lib.hid (rfindPk_any _ c2 t q.name _ (HT.out.kept (Kept.of_below HB.out)))
      obtain ⟨I, hI⟩ : ∃ I, I = idxS (pnB q.name) t := ⟨_, rfl⟩
      rw [← hI] at HF
      refine HF.out.mono ?_
      rintro e w4 ⟨rfl, hb4⟩
      have HB := Lib.hid (below_next HB.out hb4)
      clear hb4 HF
      by_cases hi : I = (k : Int)
      · have HI := Lib.hid (hI.symm.trans hi)
        have hib : (I != (k : Int)) = false := by rw [hi]; simp
        clear hI
        subst hi
        go_wp2
        go_roundw
        case rel => exact ⟨k + 1, by omega, by simp, fun j p hj hp => (by
          by_cases hjk : j = k
          · subst hjk
            rw [← show q = p from Option.some.inj (HQ.out.symm.trans hp)]
            exact HI.out
          · exact HN.out j p (by omega) hp), HB.out⟩
        case measure => (try simp only [intOf]); omega
      · have hib : (I != (k : Int)) = true := by rw [bne_iff_ne]; exact hi
        clear hI hi
        go_wp2_with fail
        refine (awake17_any _).mono ?_
        rintro e w9 ⟨rfl, hb9⟩
        go_wp2
        go_ret
        first | exact ⟨rfl, below_next HB.out hb9⟩ | exact ⟨rfl, below_next HBX.out (below_next HB.out hb9)⟩
    · have HTW := Lib.hid (twP_idx (t := t) fun j p hp => HN.out j p (by have := (List.getElem?_eq_some_iff.1 hp).1; omega) hp)
      clear HN hk
      have HRE := Lib.hid (rmeets_eq l t s HTN.out HSN.out HTW.out)
      obtain ⟨G, hG⟩ : ∃ G, G = meetsQ l t s := ⟨_, rfl⟩
      rw [← hG] at HRE
      have HG := Lib.hid hG
      obtain ⟨M, hM⟩ : ∃ M, M = mayQs l := ⟨_, rfl⟩
      have HM := Lib.hid hM
      clear hG hM
      go_wp2_with fail
      have HQ := Lib.hid (qmeets_any l _ c t _ c2 s _ c3 _ (HL.out.kept (Kept.of_below HB.out)) HSH.out (HT.out.kept (Kept.of_below HB.out)) (HS.out.kept (Kept.of_below HB.out)) HXD.out HSL.out)
      rw [← HG.out] at HQ
      refine HQ.out.mono ?_
      rintro e w5 ⟨rfl, hb5⟩
      have HB := Lib.hid (below_next HB.out hb5)
      clear hb5 HQ
      go_wp2_with fail
      have HQ := Lib.hid (rmeets_any l _ c t _ c2 s _ c3 _ (HL.out.kept (Kept.of_below HB.out)) HSH.out (HT.out.kept (Kept.of_below HB.out)) (HS.out.kept (Kept.of_below HB.out)) HSL.out)
      rw [HRE.out] at HQ
      refine HQ.out.mono ?_
      rintro e w6 ⟨rfl, hb6⟩
      have HB := Lib.hid (below_next HB.out hb6)
      clear hb6 HQ
      have hgg : (G != G) = false := by simp
      go_wp2_with fail
      have HQ := Lib.hid (qmay_any l _ c _ (HL.out.kept (Kept.of_below HB.out)) HSH.out)
      rw [← HM.out] at HQ
      refine HQ.out.mono ?_
      rintro e w7 ⟨rfl, hb7⟩
      have HB := Lib.hid (below_next HB.out hb7)
      clear hb7 HQ
      by_cases hm0 : M = 0
      · subst hm0
        have HRH := Lib.hid (rheld_eq (mayQs_uni HM.out.symm) HSN.out)
        obtain ⟨D, hD⟩ : ∃ D, D = heldL l s := ⟨_, rfl⟩
        rw [← hD] at HRH
        have HD := Lib.hid hD
        clear hD
        go_wp2_with fail
        have HQ := Lib.hid (qheld_any l _ c s _ c3 _ (HL.out.kept (Kept.of_below HB.out)) (HS.out.kept (Kept.of_below HB.out)) HXD.out HSL.out)
        rw [← HD.out] at HQ
        refine HQ.out.mono ?_
        rintro e w8 ⟨A8, c8, rfl, he8, hb8⟩
        have HE8 := Lib.hid he8
        have HB := Lib.hid (below_next HB.out hb8)
        clear hb8 HQ he8
        go_wp2_with fail
        have HQ := Lib.hid (rHeld_any l _ c s _ c3 _ (HL.out.kept (Kept.of_below HB.out)) (HS.out.kept (Kept.of_below HB.out)) HSL.out)
        rw [HRH.out] at HQ
        refine HQ.out.mono ?_
        rintro e w10 ⟨A10, c10, rfl, he10, hb10⟩
        have HE10 := Lib.hid he10
        have HE8 := Lib.hid (HE8.out.kept (Kept.of_below hb10))
        have HB := Lib.hid (below_next HB.out hb10)
        clear hb10 HQ he10
        go_wp2_with fail
        have HQ := Lib.hid (sameEnts_any _ _ _ _ D D _ HE8.out HE10.out)
        refine HQ.out.mono ?_
        rintro e w11 ⟨rfl, hb11⟩
        rw [show decide (D = D) = true from decide_eq_true rfl]
        have HB := Lib.hid (below_next HB.out hb11)
        clear hb11 HQ
        go_wp2_with fail
        refine (awake17_any _).mono ?_
        rintro e w9 ⟨rfl, hb9⟩
        go_wp2
        go_ret
        first | exact ⟨rfl, below_next HB.out hb9⟩ | exact ⟨rfl, below_next HBX.out (below_next HB.out hb9)⟩
      · have hmb : (M != 0) = true := by rw [bne_iff_ne]; exact hm0
        clear hm0
        go_wp2_with fail
        refine (awake17_any _).mono ?_
        rintro e w9 ⟨rfl, hb9⟩
        go_wp2
        go_ret
        first | exact ⟨rfl, below_next HB.out hb9⟩ | exact ⟨rfl, below_next HBX.out (below_next HB.out hb9)⟩
set_option maxRecDepth 100000 in
set_option maxHeartbeats 2000000 in
theorem law_qmeets (A : Option Addr) (c : Nat) (l : List Stp) (A2 : Option Addr) (c2 : Nat) (t : List Pkg) (A3 : Option Addr) (c3 : Nat) (s : List Ent) (w : World) (hl : Stps w A c l) (hsh : ∀ a ∈ l, short a.name) (ht : Pkgs w A2 c2 t) (hs : Ents w A3 c3 s) : Calls Tryz.prog 11 #[.slice A l.length c, .slice A2 t.length c2, .slice A3 s.length c3] w fun e w' => e = .returned (.bool true) ∧ Below w.heap.size w w' := by
  by_cases h20 : l.length ≤ 20
  · rcases h1 : lightM 26 40 14 10 t
    · have HB := Lib.hid (Below.refl w.heap.size w)
      have hbl := Slc.bd hl
      have hbt := ht.bd
      have hbs := hs.bd
      have HL := Lib.hid hl
      have HSH := Lib.hid hsh
      have HT := Lib.hid ht
      have HS := Lib.hid hs
      clear hl hsh ht hs
      have k20 : decide ((20 : Int) < (l.length : Int)) = false := decide_eq_false (by omega)
      clear h20
      have H1 := Lib.hid h1
      clear h1
      go_enter Tryz.func11, Tryz.ntmps11
      (try go_wp2_with fail)
      refine (light17_any _ _ t _ (HT.out.kept (Kept.of_below HB.out))).mono ?_
      rintro e w2 ⟨rfl, hb2⟩
      rw [H1.out]
      have HB := Lib.hid (below_next HB.out hb2)
      clear hb2
      go_wp2_with fail
      refine (awake17_any _).mono ?_
      rintro e w9 ⟨rfl, hb9⟩
      go_wp2
      go_ret
      first | exact ⟨rfl, below_next HB.out hb9⟩ | exact ⟨rfl, below_next HBX.out (below_next HB.out hb9)⟩
    · rcases h2 : lightM 26 40 14 10 (s.map Ent.pkg)
      · have HB := Lib.hid (Below.refl w.heap.size w)
        have hbl := Slc.bd hl
        have hbt := ht.bd
        have hbs := hs.bd
        have HL := Lib.hid hl
        have HSH := Lib.hid hsh
        have HT := Lib.hid ht
        have HS := Lib.hid hs
        clear hl hsh ht hs
        have k20 : decide ((20 : Int) < (l.length : Int)) = false := decide_eq_false (by omega)
        clear h20
        have H1 := Lib.hid h1
        have H2 := Lib.hid h2
        clear h1 h2
        go_enter Tryz.func11, Tryz.ntmps11
        (try go_wp2_with fail)
        refine (light17_any _ _ t _ (HT.out.kept (Kept.of_below HB.out))).mono ?_
        rintro e w2 ⟨rfl, hb2⟩
        rw [H1.out]
        have HB := Lib.hid (below_next HB.out hb2)
        clear hb2
        go_wp2_with fail
        refine (bare17_any _ _ s _ (HS.out.kept (Kept.of_below HB.out))).mono ?_
        rintro e w1 ⟨A9, c9, rfl, hp, hb1⟩
        generalize hm : (s).map Ent.pkg = lp at hp ⊢
        have HP := Lib.hid hp
        have HT1 := Lib.hid (show lightM 26 40 14 10 lp = _ from hm ▸ H2.out)
        have HB := Lib.hid (below_next HB.out hb1)
        clear hp hm hb1
        go_wp2_with fail
        refine (light17_any _ _ _ _ HP.out).mono ?_
        rintro e w2 ⟨rfl, hb2⟩
        rw [HT1.out]
        have HB := Lib.hid (below_next HB.out hb2)
        clear hb2 HP HT1
        go_wp2_with fail
        refine (awake17_any _).mono ?_
        rintro e w9 ⟨rfl, hb9⟩
        go_wp2
        go_ret
        first | exact ⟨rfl, below_next HB.out hb9⟩ | exact ⟨rfl, below_next HBX.out (below_next HB.out hb9)⟩
      · by_cases h3 : mayAllE t = 0
        · by_cases h4 : mayEntsE s = 0
          · exact qme_main A c l A2 c2 t A3 c3 s w hl hsh ht hs h20 h1 h2 h3 h4
          · have HB := Lib.hid (Below.refl w.heap.size w)
            have hbl := Slc.bd hl
            have hbt := ht.bd
            have hbs := hs.bd
            have HL := Lib.hid hl
            have HSH := Lib.hid hsh
            have HT := Lib.hid ht
            have HS := Lib.hid hs
            clear hl hsh ht hs
            have k20 : decide ((20 : Int) < (l.length : Int)) = false := decide_eq_false (by omega)
            clear h20
            have HXD := Lib.hid (show ∀ x ∈ s, fewD x.pkg from fun x hx => (light_fd h2).2 _ (List.mem_map_of_mem hx))
            have H1 := Lib.hid h1
            have H2 := Lib.hid h2
            have H3 := Lib.hid h3
            obtain ⟨E4, he4⟩ : ∃ E, E = mayEntsE s := ⟨_, rfl⟩
            have hne4 : (E4 != 0) = true := by rw [bne_iff_ne, he4]; exact h4
            have H4 := Lib.hid he4.symm
            clear h1 h2 h3 h4 he4
            go_enter Tryz.func11, Tryz.ntmps11
            (try go_wp2_with fail)
            refine (light17_any _ _ t _ (HT.out.kept (Kept.of_below HB.out))).mono ?_
            rintro e w2 ⟨rfl, hb2⟩
            rw [H1.out]
            have HB := Lib.hid (below_next HB.out hb2)
            clear hb2
            go_wp2_with fail
            refine (bare17_any _ _ s _ (HS.out.kept (Kept.of_below HB.out))).mono ?_
            rintro e w1 ⟨A9, c9, rfl, hp, hb1⟩
            generalize hm : (s).map Ent.pkg = lp at hp ⊢
            have HP := Lib.hid hp
            have HT1 := Lib.hid (show lightM 26 40 14 10 lp = _ from hm ▸ H2.out)
            have HB := Lib.hid (below_next HB.out hb1)
            clear hp hm hb1
            go_wp2_with fail
            refine (light17_any _ _ _ _ HP.out).mono ?_
            rintro e w2 ⟨rfl, hb2⟩
            rw [HT1.out]
            have HB := Lib.hid (below_next HB.out hb2)
            clear hb2 HP HT1
            go_wp2_with fail
            refine (rmayAll_any _ _ t _ (HT.out.kept (Kept.of_below HB.out))).mono ?_
            rintro e w2 ⟨rfl, hb2⟩
            rw [H3.out]
            have HB := Lib.hid (below_next HB.out hb2)
            clear hb2
            go_wp2_with fail
            refine (rents_any _ _ s _ (HS.out.kept (Kept.of_below HB.out)) (fun x h => (HXD.out x h).r)).mono ?_
            rintro e w2 ⟨rfl, hb2⟩
            rw [H4.out]
            have HB := Lib.hid (below_next HB.out hb2)
            clear hb2
            go_wp2_with fail
            refine (awake17_any _).mono ?_
            rintro e w9 ⟨rfl, hb9⟩
            go_wp2
            go_ret
            first | exact ⟨rfl, below_next HB.out hb9⟩ | exact ⟨rfl, below_next HBX.out (below_next HB.out hb9)⟩
        · have HB := Lib.hid (Below.refl w.heap.size w)
          have hbl := Slc.bd hl
          have hbt := ht.bd
          have hbs := hs.bd
          have HL := Lib.hid hl
          have HSH := Lib.hid hsh
          have HT := Lib.hid ht
          have HS := Lib.hid hs
          clear hl hsh ht hs
          have k20 : decide ((20 : Int) < (l.length : Int)) = false := decide_eq_false (by omega)
          clear h20
          have H1 := Lib.hid h1
          have H2 := Lib.hid h2
          obtain ⟨E3, he3⟩ : ∃ E, E = mayAllE t := ⟨_, rfl⟩
          have hne3 : (E3 != 0) = true := by rw [bne_iff_ne, he3]; exact h3
          have H3 := Lib.hid he3.symm
          clear h1 h2 h3 he3
          go_enter Tryz.func11, Tryz.ntmps11
          (try go_wp2_with fail)
          refine (light17_any _ _ t _ (HT.out.kept (Kept.of_below HB.out))).mono ?_
          rintro e w2 ⟨rfl, hb2⟩
          rw [H1.out]
          have HB := Lib.hid (below_next HB.out hb2)
          clear hb2
          go_wp2_with fail
          refine (bare17_any _ _ s _ (HS.out.kept (Kept.of_below HB.out))).mono ?_
          rintro e w1 ⟨A9, c9, rfl, hp, hb1⟩
          generalize hm : (s).map Ent.pkg = lp at hp ⊢
          have HP := Lib.hid hp
          have HT1 := Lib.hid (show lightM 26 40 14 10 lp = _ from hm ▸ H2.out)
          have HB := Lib.hid (below_next HB.out hb1)
          clear hp hm hb1
          go_wp2_with fail
          refine (light17_any _ _ _ _ HP.out).mono ?_
          rintro e w2 ⟨rfl, hb2⟩
          rw [HT1.out]
          have HB := Lib.hid (below_next HB.out hb2)
          clear hb2 HP HT1
          go_wp2_with fail
          refine (rmayAll_any _ _ t _ (HT.out.kept (Kept.of_below HB.out))).mono ?_
          rintro e w2 ⟨rfl, hb2⟩
          rw [H3.out]
          have HB := Lib.hid (below_next HB.out hb2)
          clear hb2
          go_wp2_with fail
          refine (awake17_any _).mono ?_
          rintro e w9 ⟨rfl, hb9⟩
          go_wp2
          go_ret
          first | exact ⟨rfl, below_next HB.out hb9⟩ | exact ⟨rfl, below_next HBX.out (below_next HB.out hb9)⟩
  · have HB := Lib.hid (Below.refl w.heap.size w)
    have hbl := Slc.bd hl
    have hbt := ht.bd
    have hbs := hs.bd
    have HL := Lib.hid hl
    have HSH := Lib.hid hsh
    have HT := Lib.hid ht
    have HS := Lib.hid hs
    clear hl hsh ht hs
    have k20 : decide ((20 : Int) < (l.length : Int)) = true := decide_eq_true (by omega)
    clear h20
    go_enter Tryz.func11, Tryz.ntmps11
    go_wp2_with fail
    refine (awake17_any _).mono ?_
    rintro e w9 ⟨rfl, hb9⟩
    go_wp2
    go_ret
    first | exact ⟨rfl, below_next HB.out hb9⟩ | exact ⟨rfl, below_next HBX.out (below_next HB.out hb9)⟩
end Go.Proofs.YtaicidbopgnmfaaGreatDoor
