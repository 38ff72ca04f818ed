/- The law CostOf. -/
import Derived.Test.YthgghkicdclinaaDoorStU
import Derived.Test.YthgghkicdclinaaDoorStV
import Derived.Test.YthgghkicdclinaaDoorStG
namespace Go.Proofs.YthgghkicdclinaaDoor
set_option linter.unusedSimpArgs false
set_option linter.unusedVariables false
open Go.RowKit
theorem light_fewP {N K C : Nat} (hK : K ≤ 1000000) {l : List Pkg} (h : lightS N K C l = true) : fewP l := by
  simp only [lightS, Bool.and_eq_true, decide_eq_true_eq, List.all_eq_true] at h
  refine ⟨by omega, fun x hx => ?_⟩
  have := h.2 x hx
  simp only [lgtP, lgtC, Bool.and_eq_true, decide_eq_true_eq] at this
  omega
set_option maxRecDepth 100000 in
set_option maxHeartbeats 2000000 in
theorem law_costOf (A : Option Addr) (c : Nat) (t : List Pkg) (A' : Option Addr) (c' : Nat) (s : List Ent) (A2 : Option Addr) (c2 : Nat) (all : List Pkg) (up : Bool) (w : World) (ht : Pkgs w A c t) (hs : Ents w A' c' s) (hal : Pkgs w A2 c2 all) :
    Calls Tryd.prog 6 #[.slice A t.length c, .slice A' s.length c', .slice A2 all.length c2, .bool up] w fun e w' => e = .returned (.bool true) ∧ Below w.heap.size w w' := by
  have hbd := ht.bd
  have HT := Lib.hid ht
  have HS := Lib.hid hs
  have HA := Lib.hid hal
  clear ht hs hal
  rcases h1 : lightS 40 14 10 t
  · have H1 := Lib.hid h1
    clear h1
    go_enter Tryd.func6, Tryd.ntmps6
    go_wp2_with fail
    refine (light2_any _ _ t _ HT.out).mono ?_
    rintro e w1 ⟨rfl, hb1⟩
    rw [H1.out]
    go_wp2_with fail
    refine (cawake_any _).mono ?_
    rintro e w9 ⟨rfl, hb9⟩
    go_wp2
    go_ret
    exact ⟨rfl, by (repeat (first | assumption | exact Below.refl _ _ | refine below_next ?_ (by assumption) | refine below_drewN ?_ _ | refine below_alloc ?_ _))⟩
  · have HF := Lib.hid (light_fewP (by decide) h1)
    have H1 := Lib.hid h1
    clear h1
    rcases h2 : lightS 40 14 10 (s.map Ent.pkg)
    · have H2 := Lib.hid h2
      clear h2
      go_enter Tryd.func6, Tryd.ntmps6
      go_wp2_with fail
      refine (light2_any _ _ t _ HT.out).mono ?_
      rintro e w1 ⟨rfl, hb1⟩
      rw [H1.out]
      go_wp2_with fail
      refine (bare2_any _ _ s _ (HS.out.kept (by (repeat (first | assumption | exact Kept.refl _ | exact Kept.of_below (by assumption) | refine Kept.trans ?_ (Kept.alloc _ _) | refine Kept.trans ?_ (Kept.drewN _ _) | refine Kept.trans ?_ (Kept.of_below (by assumption))))))).mono ?_
      rintro e w2 ⟨Ab, cb, rfl, hp, hb2⟩
      generalize hm : s.map Ent.pkg = lp at hp ⊢
      have HP := Lib.hid hp
      have H2 := Lib.hid (show lightS 40 14 10 lp = _ from hm ▸ H2.out)
      clear hp hm
      go_wp2_with fail
      refine (light2_any _ _ lp _ HP.out).mono ?_
      rintro e w3 ⟨rfl, hb3⟩
      rw [H2.out]
      go_wp2_with fail
      refine (cawake_any _).mono ?_
      rintro e w9 ⟨rfl, hb9⟩
      go_wp2
      go_ret
      exact ⟨rfl, by (repeat (first | assumption | exact Below.refl _ _ | refine below_next ?_ (by assumption) | refine below_drewN ?_ _ | refine below_alloc ?_ _))⟩
    · have H2 := Lib.hid h2
      clear h2
      rcases h3 : lightS 40 14 10 all
      · have H3 := Lib.hid h3
        clear h3
        go_enter Tryd.func6, Tryd.ntmps6
        go_wp2_with fail
        refine (light2_any _ _ t _ HT.out).mono ?_
        rintro e w1 ⟨rfl, hb1⟩
        rw [H1.out]
        go_wp2_with fail
        refine (bare2_any _ _ s _ (HS.out.kept (by (repeat (first | assumption | exact Kept.refl _ | exact Kept.of_below (by assumption) | refine Kept.trans ?_ (Kept.alloc _ _) | refine Kept.trans ?_ (Kept.drewN _ _) | refine Kept.trans ?_ (Kept.of_below (by assumption))))))).mono ?_
        rintro e w2 ⟨Ab, cb, rfl, hp, hb2⟩
        generalize hm : s.map Ent.pkg = lp at hp ⊢
        have HP := Lib.hid hp
        have H2 := Lib.hid (show lightS 40 14 10 lp = _ from hm ▸ H2.out)
        clear hp hm
        go_wp2_with fail
        refine (light2_any _ _ lp _ HP.out).mono ?_
        rintro e w3 ⟨rfl, hb3⟩
        rw [H2.out]
        go_wp2_with fail
        refine (light2_any _ _ all _ (HA.out.kept (by (repeat (first | assumption | exact Kept.refl _ | exact Kept.of_below (by assumption) | refine Kept.trans ?_ (Kept.alloc _ _) | refine Kept.trans ?_ (Kept.drewN _ _) | refine Kept.trans ?_ (Kept.of_below (by assumption))))))).mono ?_
        rintro e w4 ⟨rfl, hb4⟩
        rw [H3.out]
        go_wp2_with fail
        refine (cawake_any _).mono ?_
        rintro e w9 ⟨rfl, hb9⟩
        go_wp2
        go_ret
        exact ⟨rfl, by (repeat (first | assumption | exact Below.refl _ _ | refine below_next ?_ (by assumption) | refine below_drewN ?_ _ | refine below_alloc ?_ _))⟩
      · have hfa := (light_fewP (K := 14) (by decide) h3).1
        have H3 := Lib.hid h3
        clear h3
        go_enter Tryd.func6, Tryd.ntmps6
        go_wp2_with fail
        refine (light2_any _ _ t _ HT.out).mono ?_
        rintro e w1 ⟨rfl, hb1⟩
        rw [H1.out]
        go_wp2_with fail
        refine (bare2_any _ _ s _ (HS.out.kept (by (repeat (first | assumption | exact Kept.refl _ | exact Kept.of_below (by assumption) | refine Kept.trans ?_ (Kept.alloc _ _) | refine Kept.trans ?_ (Kept.drewN _ _) | refine Kept.trans ?_ (Kept.of_below (by assumption))))))).mono ?_
        rintro e w2 ⟨Ab, cb, rfl, hp, hb2⟩
        generalize hm : s.map Ent.pkg = lp at hp ⊢
        have HP := Lib.hid hp
        have H2 := Lib.hid (show lightS 40 14 10 lp = _ from hm ▸ H2.out)
        clear hp hm
        go_wp2_with fail
        refine (light2_any _ _ lp _ HP.out).mono ?_
        rintro e w3 ⟨rfl, hb3⟩
        rw [H2.out]
        go_wp2_with fail
        refine (light2_any _ _ all _ (HA.out.kept (by (repeat (first | assumption | exact Kept.refl _ | exact Kept.of_below (by assumption) | refine Kept.trans ?_ (Kept.alloc _ _) | refine Kept.trans ?_ (Kept.drewN _ _) | refine Kept.trans ?_ (Kept.of_below (by assumption))))))).mono ?_
        rintro e w4 ⟨rfl, hb4⟩
        rw [H3.out]
        have HB4 := Lib.hid (show Below w.heap.size w w4 from by (repeat (first | assumption | exact Below.refl _ _ | refine below_next ?_ (by assumption) | refine below_drewN ?_ _ | refine below_alloc ?_ _)))
        clear hb1 hb2 hb3 hb4 HP
        go_wp2
        go_loopw [28] (fun i wr => ∃ k : Nat, k ≤ t.length ∧ i = .int .i64 k ∧ Below w.heap.size w wr) (fun i _ => t.length - (intOf i).toNat)
        case atStart => exact ⟨0, Nat.zero_le _, rfl, HB4.out⟩
        case round =>
          clear HB4
          obtain ⟨k, hk, rfl, hb⟩ := hrel
          have HB := Lib.hid hb
          clear hb
          by_cases hlt : k < t.length
          · obtain ⟨q, b, o, r, hq, hA0, hr, e0, e1, e2, e3, e4, e5, e6, e7, e8⟩ := HT.out.at_ hlt (Kept.of_below HB.out)
            subst hA0
            have hnn : (((newerS q all : Nat) : Int) != ((newerS q all : Nat) : Int)) = false := by simp
            clear hq hr
            go_wp2_with fail
            clear e0 e1 e2 e3 e4 e5 e6 e7 e8
            go_region_with (first | (go_at_call 24; refine (newer_any q r _ _ all _ (HA.out.kept (((Kept.of_below HB.out).trans (Kept.alloc _ _)).trans (Kept.drew _)))).mono ?_; rintro e w1 ⟨rfl, hb1⟩; have kP1 := Blk.nextOf hb1 (Blk.drew (blk_new1 wr _ _)); obtain ⟨c0, c1, c2, c3, c4, c5, c6, c7, c8⟩ := blk9 kP1; have hsz1 : wr.heap.size < w1.heap.size := kP1.lt; have HB1 := Lib.hid (below_next (below_drew (below_alloc HB.out _)) hb1)) | (go_at_call 24; refine (newer_any q r _ _ all _ (HA.out.kept (Kept.of_below HB1.out))).mono ?_; rintro e w2 ⟨rfl, hb2⟩; have kP2 := Blk.nextOf hb2 kP1; obtain ⟨c0, c1, c2, c3, c4, c5, c6, c7, c8⟩ := blk9 kP2; have hsz2 : wr.heap.size < w2.heap.size := kP2.lt; have HB2 := Lib.hid (below_next HB1.out hb2)) | (go_at_call 25; refine (rnewer_any q r _ _ all _ (HA.out.kept (((Kept.of_below HB.out).trans (Kept.alloc _ _)).trans (Kept.drew _)))).mono ?_; rintro e w1 ⟨rfl, hb1⟩; have kP1 := Blk.nextOf hb1 (Blk.drew (blk_new1 wr _ _)); obtain ⟨c0, c1, c2, c3, c4, c5, c6, c7, c8⟩ := blk9 kP1; have hsz1 : wr.heap.size < w1.heap.size := kP1.lt; have HB1 := Lib.hid (below_next (below_drew (below_alloc HB.out _)) hb1)) | (go_at_call 25; refine (rnewer_any q r _ _ all _ (HA.out.kept (Kept.of_below HB1.out))).mono ?_; rintro e w2 ⟨rfl, hb2⟩; have kP2 := Blk.nextOf hb2 kP1; obtain ⟨c0, c1, c2, c3, c4, c5, c6, c7, c8⟩ := blk9 kP2; have hsz2 : wr.heap.size < w2.heap.size := kP2.lt; have HB2 := Lib.hid (below_next HB1.out hb2)))
            all_goals
              go_wp2
              go_roundw
              case rel => exact ⟨k + 1, by omega, by simp, HB2.out⟩
              case measure => (try simp only [intOf]); omega
          · generalize hX : costS t s all up = X
            have HX := Lib.hid hX
            clear hX
            have heq : (((unmetS t : Nat) : Int) == ((unmetS t : Nat) : Int)) = true := by simp
            have hceq : ∀ W, (binOp .eql 43 (.agg #[.int .i64 (X).a, .int .i64 (X).b, .int .i64 (X).c, .int .i64 (X).d, .int .i64 (X).e]) (.agg #[.int .i64 (X).a, .int .i64 (X).b, .int .i64 (X).c, .int .i64 (X).d, .int .i64 (X).e])).run Tryd.prog W = .ok (.bool true) W := fun W => by rw [cst_eql, decide_eq_true rfl]
            go_wp2_with fail
            refine (unmet_any _ _ t _ (HT.out.kept (Kept.of_below HB.out)) HF.out).mono ?_
            rintro e w1 ⟨rfl, hb1⟩
            have HB1 := Lib.hid (below_next HB.out hb1)
            go_wp2_with fail
            refine (runmet_any _ _ t _ (HT.out.kept (Kept.of_below HB1.out)) HF.out).mono ?_
            rintro e w2 ⟨rfl, hb2⟩
            have HB2 := Lib.hid (below_next HB1.out hb2)
            go_wp2_with fail
            refine (costOf_any _ _ t _ _ s _ _ all up _ (HT.out.kept (Kept.of_below HB2.out)) (HS.out.kept (Kept.of_below HB2.out)) (HA.out.kept (Kept.of_below HB2.out)) HF.out hfa).mono ?_
            rintro e w3 ⟨rfl, hb3⟩
            have HB3 := Lib.hid (below_next HB2.out hb3)
            rw [HX.out]
            go_wp2_with fail
            refine (rcost_any _ _ t _ _ s _ _ all up _ (HT.out.kept (Kept.of_below HB3.out)) (HS.out.kept (Kept.of_below HB3.out)) (HA.out.kept (Kept.of_below HB3.out)) HF.out hfa).mono ?_
            rintro e w4 ⟨rfl, hb4⟩
            have HB4 := Lib.hid (below_next HB3.out hb4)
            rw [HX.out]
            clear hb1 hb2 hb3 hb4
            go_wp2_with fail
            refine (cawake_any _).mono ?_
            rintro e w9 ⟨rfl, hb9⟩
            go_wp2
            go_ret
            exact ⟨rfl, below_next HB4.out hb9⟩
end Go.Proofs.YthgghkicdclinaaDoor
