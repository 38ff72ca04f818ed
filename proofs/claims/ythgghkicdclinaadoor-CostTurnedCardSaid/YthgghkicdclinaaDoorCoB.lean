/- The law CostTurned. -/
import Derived.Test.YthgghkicdclinaaDoorStW
import Derived.Test.YthgghkicdclinaaDoorCoA
import Derived.Test.YthgghkicdclinaaDoorStF
namespace Go.Proofs.YthgghkicdclinaaDoor
set_option linter.unusedSimpArgs false
set_option linter.unusedVariables false
open Go.RowKit
theorem oneN_idx {t : List Pkg} (h : ∀ (j : Nat) x, t[j]? = some x → idxS (nameK x.name) t = (j : Int)) : oneN t := by
  unfold oneN
  rw [List.pairwise_iff_getElem]
  intro i j hi hj hij he
  have h1 := h i t[i] (List.getElem?_eq_getElem hi)
  have h2 := h j t[j] (List.getElem?_eq_getElem hj)
  rw [he, h2] at h1
  omega
theorem fewP_rev {t : List Pkg} (h : fewP t) : fewP t.reverse := ⟨by rw [List.length_reverse]; exact h.1, fun p hp => h.2 p (List.mem_reverse.1 hp)⟩
theorem blk5' {w : World} {g t : Nat} {v0 v1 v2 v3 v4 : Value} (h : Blk w g t #[v0, v1, v2, v3, v4]) : w.cell? ⟨g, 0, none⟩ = some v0 ∧ w.cell? ⟨g, 1, none⟩ = some v1 ∧ w.cell? ⟨g, 2, none⟩ = some v2 ∧ w.cell? ⟨g, 3, none⟩ = some v3 ∧ w.cell? ⟨g, 4, none⟩ = some v4 := ⟨h.cell 0, h.cell 1, h.cell 2, h.cell 3, h.cell 4⟩
set_option maxRecDepth 100000 in
set_option maxHeartbeats 2000000 in
theorem law_costTurned (A : Option Addr) (c : Nat) (t : List Pkg) (A' : Option Addr) (c' : Nat) (s : List Ent) (A2 : Option Addr) (c2 : Nat) (all : List Pkg) (up : Bool) (w : World) (ht : Pkgs w A c t) (hs : Ents w A' c' s) (hal : Pkgs w A2 c2 all) :
    Calls Tryd.prog 8 #[.slice A t.length c, .slice A' s.length c', .slice A2 all.length c2, .bool up] w fun e w' => e = .returned (.bool true) ∧ Below w.heap.size w w' := by
  have hbd := ht.bd
  have hbd2 := hal.bd
  have HT := Lib.hid ht
  have HS := Lib.hid hs
  have HA := Lib.hid hal
  clear ht hs hal
  rcases h1 : lightS 40 14 10 t
  · have H1 := Lib.hid h1
    clear h1
    go_enter Tryd.func8, Tryd.ntmps8
    go_wp2_with fail
    refine (light2_any _ _ t _ HT.out).mono ?_
    rintro e w1 ⟨rfl, hb1⟩
    rw [H1.out]
    go_wp2_with fail
    refine (cawake_any _).mono ?_
    rintro e w9 ⟨rfl, hb9⟩
    go_wp2
    go_ret
    exact ⟨rfl, below_next hb1 hb9⟩
  · have HF := Lib.hid (light_fewP (by decide) h1)
    have H1 := Lib.hid h1
    clear h1
    rcases h2 : lightS 40 14 10 (s.map Ent.pkg)
    · have H2 := Lib.hid h2
      clear h2
      go_enter Tryd.func8, Tryd.ntmps8
      go_wp2_with fail
      refine (light2_any _ _ t _ HT.out).mono ?_
      rintro e w1 ⟨rfl, hb1⟩
      rw [H1.out]
      go_wp2_with fail
      refine (bare2_any _ _ s _ (HS.out.kept (Kept.of_below hb1))).mono ?_
      rintro e w2 ⟨Ab, cb, rfl, hp, hb2⟩
      generalize hm : s.map Ent.pkg = lp at hp ⊢
      have HP := Lib.hid hp
      have H2 := Lib.hid (show lightS 40 14 10 lp = _ from hm ▸ H2.out)
      clear hp hm
      go_wp2_with fail
      refine (light2_any _ _ lp _ HP.out).mono ?_
      rintro e w3 ⟨rfl, hb3⟩
      rw [H2.out]
      have HB3 := Lib.hid (below_next (below_next hb1 hb2) hb3)
      clear hb1 hb2 hb3 HP
      go_wp2_with fail
      refine (cawake_any _).mono ?_
      rintro e w9 ⟨rfl, hb9⟩
      go_wp2
      go_ret
      exact ⟨rfl, below_next HB3.out hb9⟩
    · have H2 := Lib.hid h2
      clear h2
      rcases h3 : lightS 40 14 10 all
      · have H3 := Lib.hid h3
        clear h3
        go_enter Tryd.func8, Tryd.ntmps8
        go_wp2_with fail
        refine (light2_any _ _ t _ HT.out).mono ?_
        rintro e w1 ⟨rfl, hb1⟩
        rw [H1.out]
        go_wp2_with fail
        refine (bare2_any _ _ s _ (HS.out.kept (Kept.of_below hb1))).mono ?_
        rintro e w2 ⟨Ab, cb, rfl, hp, hb2⟩
        generalize hm : s.map Ent.pkg = lp at hp ⊢
        have HP := Lib.hid hp
        have H2 := Lib.hid (show lightS 40 14 10 lp = _ from hm ▸ H2.out)
        clear hp hm
        go_wp2_with fail
        refine (light2_any _ _ lp _ HP.out).mono ?_
        rintro e w3 ⟨rfl, hb3⟩
        rw [H2.out]
        have HB3 := Lib.hid (below_next (below_next hb1 hb2) hb3)
        clear hb1 hb2 hb3 HP
        go_wp2_with fail
        refine (light2_any _ _ all _ (HA.out.kept (Kept.of_below HB3.out))).mono ?_
        rintro e w4 ⟨rfl, hb4⟩
        rw [H3.out]
        have HB4 := Lib.hid (below_next HB3.out hb4)
        clear hb4 HB3
        go_wp2_with fail
        refine (cawake_any _).mono ?_
        rintro e w9 ⟨rfl, hb9⟩
        go_wp2
        go_ret
        exact ⟨rfl, below_next HB4.out hb9⟩
      · have hfa := (light_fewP (K := 14) (by decide) h3).1
        have hft := HF.out.1
        have H3 := Lib.hid h3
        clear h3
        go_enter Tryd.func8, Tryd.ntmps8
        go_wp2_with fail
        refine (light2_any _ _ t _ HT.out).mono ?_
        rintro e w1 ⟨rfl, hb1⟩
        rw [H1.out]
        go_wp2_with fail
        refine (bare2_any _ _ s _ (HS.out.kept (Kept.of_below hb1))).mono ?_
        rintro e w2 ⟨Ab, cb, rfl, hp, hb2⟩
        generalize hm : s.map Ent.pkg = lp at hp ⊢
        have HP := Lib.hid hp
        have H2 := Lib.hid (show lightS 40 14 10 lp = _ from hm ▸ H2.out)
        clear hp hm
        go_wp2_with fail
        refine (light2_any _ _ lp _ HP.out).mono ?_
        rintro e w3 ⟨rfl, hb3⟩
        rw [H2.out]
        have HB3 := Lib.hid (below_next (below_next hb1 hb2) hb3)
        clear hb1 hb2 hb3 HP
        go_wp2_with fail
        refine (light2_any _ _ all _ (HA.out.kept (Kept.of_below HB3.out))).mono ?_
        rintro e w4 ⟨rfl, hb4⟩
        rw [H3.out]
        have HB4 := Lib.hid (below_next HB3.out hb4)
        clear hb4 HB3
        go_wp2_with fail
        refine (rmayEnts_any _ _ s _ (HS.out.kept (Kept.of_below HB4.out))).mono ?_
        rintro e w5 ⟨n, rfl, -, hb5⟩
        have HB5 := Lib.hid (below_next HB4.out hb5)
        clear hb5 HB4
        by_cases hn : n = 0
        · subst hn
          go_wp2
          go_loopw [41] (fun i wr => ∃ k : Nat, k ≤ t.length ∧ i = .int .i64 k ∧ Below w.heap.size w wr ∧ ∀ (j : Nat) x, j < k → t[j]? = some x → idxS (nameK x.name) t = (j : Int)) (fun i _ => t.length - (intOf i).toNat)
          case atStart => exact ⟨0, Nat.zero_le _, rfl, HB5.out, fun j x h => by omega⟩
          case round =>
            clear HB5
            obtain ⟨k, hk, rfl, hb, hn⟩ := hrel
            have HB := Lib.hid hb
            have HN := Lib.hid hn
            clear hb hn
            by_cases hlt : k < t.length
            · obtain ⟨q, b, o, r, hq, rfl, hr, e0, e1, e2, e3, e4, e5, e6, e7, e8⟩ := HT.out.at_ hlt (Kept.of_below HB.out)
              have HQ := Lib.hid hq
              clear hq hr
              generalize hI : idxS (nameK q.name) t = I
              have HI := Lib.hid hI
              clear hI
              go_wp2_with fail
              refine (rfindP_any _ _ t q.name _ (HT.out.kept ((Kept.of_below HB.out).trans (Kept.alloc _ _)))).mono ?_
              rintro e w6 ⟨rfl, hb6⟩
              rw [HI.out]
              have hb7 := below_next (below_alloc HB.out _) hb6
              clear e0 e1 e2 e3 e4 e5 e6 e7 e8
              by_cases hIk : I = (k : Int)
              · subst hIk
                go_wp2
                go_roundw
                case rel => exact ⟨k + 1, by omega, by simp, hb7, fun j x h hx => by
                  rcases Nat.lt_or_ge j k with h3 | h3
                  · exact HN.out j x h3 hx
                  · obtain rfl : j = k := by omega
                    obtain rfl : q = x := Option.some.inj (HQ.out.symm.trans hx)
                    exact HI.out⟩
                case measure => (try simp only [intOf]); omega
              · have hIb : (I != (k : Int)) = true := by rw [bne_iff_ne]; exact hIk
                go_wp2_with fail
                refine (cawake_any _).mono ?_
                rintro e w9 ⟨rfl, hb9⟩
                go_wp2
                go_ret
                exact ⟨rfl, below_next hb7 hb9⟩
            · have HO := Lib.hid (show oneN t from oneN_idx fun j x hx => HN.out j x (by have := (List.getElem?_eq_some_iff.1 hx).1; omega) hx)
              clear HN
              go_wp2
              clear hlt
              go_loopw [11, 56] (fun v i wr => ∃ k : Nat, k ≤ t.length ∧ i = .int .i64 k ∧ Below w.heap.size w wr ∧ Own wr w.heap.size 36 9 (RPkg w) v (t.reverse.take k)) (fun _ i _ => t.length - (intOf i).toNat)
              case atStart => exact ⟨0, Nat.zero_le _, rfl, HB.out, Own.nil_ _ _ _ _ _⟩
              case round =>
                clear HB hk
                obtain ⟨k, hk, rfl, hb, ho⟩ := hrel
                have HB := Lib.hid hb
                have HOw := Lib.hid ho
                clear hb ho
                by_cases hlt : k < t.length
                · obtain ⟨m, hm⟩ : ∃ m : Nat, m = t.length - 1 - k := ⟨_, rfl⟩
                  obtain ⟨q, b, o, r, hq, rfl, hr, e0, e1, e2, e3, e4, e5, e6, e7, e8⟩ := HT.out.at_ (i := m) (by omega) (Kept.of_below HB.out)
                  have HQ := Lib.hid (show t.reverse[k]? = some q by rw [List.getElem?_reverse hlt, ← hm]; exact hq)
                  have HRk := Lib.hid (show RP w r q from hr)
                  have HS1 := Lib.hid (show (t.reverse.take k).length = k by simp; omega)
                  have w1 : IntKind.i64.wrap ((t.length : Int) - 1) = (t.length : Int) - 1 := by rw [IntKind.wrap_i64]; omega
                  have w2 : IntKind.i64.wrap ((t.length : Int) - 1 - (k : Int)) = (m : Int) := by rw [IntKind.wrap_i64]; omega
                  have i0 : (0 : Int) ≤ (m : Int) := Int.natCast_nonneg _
                  have i1 : (m : Int) < (t.length : Int) := by omega
                  have tn : ((m : Int)).toNat = m := Int.toNat_natCast _
                  have HM := Lib.hid hm
                  clear hq hr hm
                  go_wp2_with (at_builtin; refine wpList_append_el (by rfl) _ _ 24 (by rfl) w.heap.size 36 _ 9 184 Tryd.underlying24 infPkg rfl (by omega) (RPkg w) _ _ (by rfl) (HOw.out.alloc _) q (encK r q) wr.heap.size 1 (by rfl) (blk_new1 _ _ _) ⟨r, rfl, HRk.out⟩ rfl (encK_one _ _) (by rw [HS1.out]; omega) (by omega) (by simp; have := HB.out.size; omega) ?_; intro g cap w6 ho1 hg1)
                  have HB1 : Below w.heap.size w w6 := (HOw.out.alloc _).below (below_alloc HB.out _) (by simp; have := HB.out.size; omega) hg1
                  go_roundw
                  case rel => exact ⟨k + 1, by omega, by simp, HB1, by rw [take_step HQ.out]; (try rw [HS1.out]); rw [HS1.out] at ho1; exact ho1⟩
                  case measure => (try simp only [intOf]); omega
                · have ho := HOw.out
                  rw [List.take_of_length_le (by rw [List.length_reverse]; omega)] at ho
                  generalize hTU : t.reverse = tu at ho
                  have HTU := Lib.hid hTU
                  have hul : tu.length = t.length := by rw [← hTU, List.length_reverse]
                  obtain ⟨Au, cu, rfl, hus⟩ := ho.slc (z := 184) (by rw [hul]; omega)
                  have HPU := Lib.hid (show Pkgs wr Au cu tu from Slc.mono hus (Kept.refl _) fun _ _ h => h.kept (Kept.of_below HB.out))
                  clear ho HOw hus hTU hul
                  obtain ⟨wo, rfl⟩ : ∃ wo : World, wo = wr := ⟨_, rfl⟩
                  go_wp2
                  clear hlt hk
                  go_loopw [12, 73] (fun v i wr => ∃ k : Nat, k ≤ all.length ∧ i = .int .i64 k ∧ Below wo.heap.size wo wr ∧ Own wr wo.heap.size 36 9 (RPkg w) v (all.reverse.take k)) (fun _ i _ => all.length - (intOf i).toNat)
                  case atStart => exact ⟨0, Nat.zero_le _, rfl, Below.refl _ _, Own.nil_ _ _ _ _ _⟩
                  case round =>
                    obtain ⟨k, hk, rfl, hb, ho⟩ := hrel
                    have HB2 := Lib.hid hb
                    have HOw := Lib.hid ho
                    clear hb ho
                    by_cases hlt : k < all.length
                    · obtain ⟨m, hm⟩ : ∃ m : Nat, m = all.length - 1 - k := ⟨_, rfl⟩
                      obtain ⟨q, b, o, r, hq, rfl, hr, e0, e1, e2, e3, e4, e5, e6, e7, e8⟩ := HA.out.at_ (i := m) (by omega) ((Kept.of_below HB.out).trans (Kept.of_below HB2.out))
                      have HQ := Lib.hid (show all.reverse[k]? = some q by rw [List.getElem?_reverse hlt, ← hm]; exact hq)
                      have HRk := Lib.hid (show RP w r q from hr)
                      have HS1 := Lib.hid (show (all.reverse.take k).length = k by simp; omega)
                      have w1 : IntKind.i64.wrap ((all.length : Int) - 1) = (all.length : Int) - 1 := by rw [IntKind.wrap_i64]; omega
                      have w2 : IntKind.i64.wrap ((all.length : Int) - 1 - (k : Int)) = (m : Int) := by rw [IntKind.wrap_i64]; omega
                      have i0 : (0 : Int) ≤ (m : Int) := Int.natCast_nonneg _
                      have i1 : (m : Int) < (all.length : Int) := by omega
                      have tn : ((m : Int)).toNat = m := Int.toNat_natCast _
                      have HM := Lib.hid hm
                      clear hq hr hm
                      go_wp2_with (at_builtin; refine wpList_append_el (by rfl) _ _ 24 (by rfl) wo.heap.size 36 _ 9 184 Tryd.underlying24 infPkg rfl (by omega) (RPkg w) _ _ (by rfl) (HOw.out.alloc _) q (encK r q) wr.heap.size 1 (by rfl) (blk_new1 _ _ _) ⟨r, rfl, HRk.out⟩ rfl (encK_one _ _) (by rw [HS1.out]; omega) (by omega) (by simp; have := HB2.out.size; omega) ?_; intro g cap w6 ho1 hg1)
                      have HB1 : Below wo.heap.size wo w6 := (HOw.out.alloc _).below (below_alloc HB2.out _) (by simp; have := HB2.out.size; omega) hg1
                      go_roundw
                      case rel => exact ⟨k + 1, by omega, by simp, HB1, by rw [take_step HQ.out]; (try rw [HS1.out]); rw [HS1.out] at ho1; exact ho1⟩
                      case measure => (try simp only [intOf]); omega
                    · have ho := HOw.out
                      rw [List.take_of_length_le (by rw [List.length_reverse]; omega)] at ho
                      generalize hAU : all.reverse = au at ho
                      have hal : au.length = all.length := by rw [← hAU, List.length_reverse]
                      have HCT := Lib.hid (show costS tu s au up = costS t s all up by rw [← hAU, ← HTU.out]; exact cost_turned s all up HO.out)
                      have HCU := Lib.hid (cost_up t s all)
                      have HFU := Lib.hid (show fewP tu by rw [← HTU.out]; exact fewP_rev HF.out)
                      obtain ⟨Av, cv, rfl, hvs⟩ := ho.slc (z := 184) (by rw [hal]; omega)
                      have HBw := Lib.hid (show Below w.heap.size w wr from below_next HB.out HB2.out)
                      have HPV := Lib.hid (show Pkgs wr Av cv au from Slc.mono hvs (Kept.refl _) fun _ _ h => h.kept (Kept.of_below HBw.out))
                      have HPU2 := Lib.hid (HPU.out.kept (Kept.of_below HB2.out))
                      have hfa2 : au.length ≤ 1000000 := by omega
                      clear ho HOw hvs hAU HB HB2 HPU HO HTU
                      generalize hC1 : costS t s all up = C at HCT
                      have HC1 := Lib.hid hC1
                      clear hC1
                      generalize hD : costS t s all false = D at HCU
                      generalize hE : costS t s all true = E at HCU
                      have HD := Lib.hid hD
                      have HE := Lib.hid (hE.trans HCU.out)
                      have HC := Lib.hid HCT
                      clear hD hE HCU HCT hal
                      go_wp2_with fail
                      refine (costOf_any _ _ t _ _ s _ _ all up _ (HT.out.kept (Kept.of_below HBw.out)) (HS.out.kept (Kept.of_below HBw.out)) (HA.out.kept (Kept.of_below HBw.out)) HF.out hfa).mono ?_
                      rintro e x1 ⟨rfl, hx1⟩
                      rw [HC1.out]
                      have HX1 := Lib.hid (below_next HBw.out hx1)
                      go_wp2_with fail
                      refine (costOf_any _ _ tu _ _ s _ _ au up _ (HPU2.out.kept (Kept.of_below hx1)) (HS.out.kept (Kept.of_below HX1.out)) (HPV.out.kept (Kept.of_below hx1)) HFU.out hfa2).mono ?_
                      rintro e x2 ⟨rfl, hx2⟩
                      rw [HC.out]
                      have HX2 := Lib.hid (below_next HX1.out hx2)
                      go_wp2_with fail
                      have HXa := Lib.hid (show Below w.heap.size w ((x2.alloc (.cells #[.int .i64 (C).a, .int .i64 (C).b, .int .i64 (C).c, .int .i64 (C).d, .int .i64 (C).e] 43)).alloc (.cells #[.int .i64 (C).a, .int .i64 (C).b, .int .i64 (C).c, .int .i64 (C).d, .int .i64 (C).e] 43)) from below_alloc (below_alloc HX2.out _) _)
                      refine (costOf_any _ _ t _ _ s _ _ all false _ (HT.out.kept (Kept.of_below HXa.out)) (HS.out.kept (Kept.of_below HXa.out)) (HA.out.kept (Kept.of_below HXa.out)) HF.out hfa).mono ?_
                      rintro e x3 ⟨rfl, hx3⟩
                      rw [HD.out]
                      have HX3 := Lib.hid (below_next HXa.out hx3)
                      have kC1 := Blk.nextOf hx3 (Blk.alloc (blk_new1 x2 43 #[.int .i64 (C).a, .int .i64 (C).b, .int .i64 (C).c, .int .i64 (C).d, .int .i64 (C).e]) (.cells #[.int .i64 (C).a, .int .i64 (C).b, .int .i64 (C).c, .int .i64 (C).d, .int .i64 (C).e] 43))
                      have kC2 := Blk.nextOf hx3 (blk_new2 x2 (.cells #[.int .i64 (C).a, .int .i64 (C).b, .int .i64 (C).c, .int .i64 (C).d, .int .i64 (C).e] 43) 43 #[.int .i64 (C).a, .int .i64 (C).b, .int .i64 (C).c, .int .i64 (C).d, .int .i64 (C).e])
                      go_wp2_with fail
                      refine (costOf_any _ _ t _ _ s _ _ all true _ (HT.out.kept (Kept.of_below HX3.out)) (HS.out.kept (Kept.of_below HX3.out)) (HA.out.kept (Kept.of_below HX3.out)) HF.out hfa).mono ?_
                      rintro e x4 ⟨rfl, hx4⟩
                      rw [HE.out]
                      dsimp only
                      have HX4 := Lib.hid (below_next HX3.out hx4)
                      have kD1 := Blk.nextOf hx4 kC1
                      have kD2 := Blk.nextOf hx4 kC2
                      obtain ⟨f0, f1, f2, f3, f4⟩ := blk5' kD1
                      obtain ⟨g0, g1, g2, g3, g4⟩ := blk5' kD2
                      have hz1 := kD1.lt
                      have hz2 := kD2.lt
                      clear hx1 hx2 hx3 hx4 kC1 kC2 kD1 kD2
                      have hq1 : ∀ W, (binOp .eql 43 (.agg #[.int .i64 (C).a, .int .i64 (C).b, .int .i64 (C).c, .int .i64 (C).d, .int .i64 (C).e]) (.agg #[.int .i64 (C).a, .int .i64 (C).b, .int .i64 (C).c, .int .i64 (C).d, .int .i64 (C).e])).run Tryd.prog W = .ok (.bool true) W := fun W => by rw [cst_eql, decide_eq_true rfl]
                      have hq2 : ∀ W, (binOp .eql 43 (.agg #[.int .i64 D.e, .int .i64 D.a, .int .i64 D.c, .int .i64 D.d, .int .i64 D.b]) (.agg #[.int .i64 D.e, .int .i64 D.a, .int .i64 D.c, .int .i64 D.d, .int .i64 D.b])).run Tryd.prog W = .ok (.bool true) W := fun W => by
                        have := cst_eql ⟨D.e, D.a, D.c, D.d, D.b⟩ ⟨D.e, D.a, D.c, D.d, D.b⟩ W
                        rw [decide_eq_true rfl] at this
                        exact this
                      go_wp2_with fail
                      refine (cawake_any _).mono ?_
                      rintro e w9 ⟨rfl, hb9⟩
                      go_wp2
                      go_ret
                      exact ⟨rfl, below_next (below_alloc (below_alloc HX4.out _) _) hb9⟩
        · have hnb : (n != 0) = true := by rw [bne_iff_ne]; exact hn
          go_wp2_with fail
          refine (cawake_any _).mono ?_
          rintro e w9 ⟨rfl, hb9⟩
          go_wp2
          go_ret
          exact ⟨rfl, below_next HB5.out hb9⟩
end Go.Proofs.YthgghkicdclinaaDoor
