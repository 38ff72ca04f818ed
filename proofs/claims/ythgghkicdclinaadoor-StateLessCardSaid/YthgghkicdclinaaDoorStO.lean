/- For any entries: the walk of StateWrong ends in true. -/
import Derived.Test.YthgghkicdclinaaDoorStN
namespace Go.Proofs.YthgghkicdclinaaDoor
set_option linter.unusedSimpArgs false
set_option linter.unusedVariables false
open Go.RowKit

theorem light_few {N K C : Nat} (hN : N ≤ 1000000) (hK : K ≤ 500000) {l : List Ent} (h : lightS N K C (l.map Ent.pkg) = true) : fewE l := by
  simp only [lightS, Bool.and_eq_true, decide_eq_true_eq, List.length_map, List.all_eq_true] at h
  refine ⟨by omega, fun x hx => ?_⟩
  have := h.2 x.pkg (List.mem_map_of_mem hx)
  simp only [lgtP, lgtC, Bool.and_eq_true, decide_eq_true_eq] at this
  omega
set_option maxRecDepth 100000 in
set_option maxHeartbeats 400000 in
theorem law_wrong (A : Option Addr) (c : Nat) (l : List Ent) (w : World) (hl : Ents w A c l) :
    Calls Tryd.prog 3 #[.slice A l.length c] w fun e w' => e = .returned (.bool true) ∧ Below w.heap.size w w' := by
  have HL := Lib.hid hl
  clear hl
  rcases hlt : lightS 50 20 20 (l.map Ent.pkg)
  · have HT := Lib.hid hlt
    clear hlt
    go_enter Tryd.func3, Tryd.ntmps3
    go_wp2_with fail
    refine (bare_any _ _ l _ HL.out).mono ?_
    rintro e w1 ⟨A1, c1, rfl, hp, hb1⟩
    generalize hm : l.map Ent.pkg = lp at hp ⊢
    have HP := Lib.hid hp
    have HT := Lib.hid (show lightS 50 20 20 lp = _ from hm ▸ HT.out)
    clear hp hm
    go_wp2_with fail
    refine (light_any _ _ _ _ HP.out).mono ?_
    rintro e w2 ⟨rfl, hb2⟩
    rw [HT.out]
    go_wp2
    go_ret
    exact ⟨rfl, by (repeat (first | assumption | exact Below.refl _ _ | refine below_next ?_ (by assumption) | refine below_drewN ?_ _ | refine below_alloc ?_ _))⟩
  · have HF := Lib.hid (light_few (by decide) (by decide) hlt)
    have HT := Lib.hid hlt
    clear hlt
    go_enter Tryd.func3, Tryd.ntmps3
    go_wp2_with fail
    refine (bare_any _ _ l _ HL.out).mono ?_
    rintro e w1 ⟨A1, c1, rfl, hp, hb1⟩
    generalize hm : l.map Ent.pkg = lp at hp ⊢
    have HP := Lib.hid hp
    have HT := Lib.hid (show lightS 50 20 20 lp = _ from hm ▸ HT.out)
    clear hp hm
    go_wp2_with fail
    refine (light_any _ _ _ _ HP.out).mono ?_
    rintro e w2 ⟨rfl, hb2⟩
    rw [HT.out]
    go_wp2_with fail
    refine (wrong_any _ _ l _ (HL.out.kept (by (repeat (first | assumption | exact Kept.refl _ | exact Kept.of_below (by assumption) | refine Kept.trans ?_ (Kept.alloc _ _) | refine Kept.trans ?_ (Kept.drewN _ _) | refine Kept.trans ?_ (Kept.of_below (by assumption)))))) HF.out).mono ?_
    rintro e w3 ⟨A2, c2, rfl, hv1, hb3⟩
    have HV1 := Lib.hid hv1
    clear hv1
    go_wp2_with fail
    refine (rwrong_any _ _ l _ (HL.out.kept (by (repeat (first | assumption | exact Kept.refl _ | exact Kept.of_below (by assumption) | refine Kept.trans ?_ (Kept.alloc _ _) | refine Kept.trans ?_ (Kept.drewN _ _) | refine Kept.trans ?_ (Kept.of_below (by assumption)))))) HF.out).mono ?_
    rintro e w4 ⟨A3, c3, rfl, hv2, hb4⟩
    have HV2 := Lib.hid hv2
    clear hv2
    go_wp2_with fail
    refine (sameWrong_any _ _ _ _ _ _ _ (HV1.out.kept (by (repeat (first | assumption | exact Kept.refl _ | exact Kept.of_below (by assumption) | refine Kept.trans ?_ (Kept.alloc _ _) | refine Kept.trans ?_ (Kept.drewN _ _) | refine Kept.trans ?_ (Kept.of_below (by assumption)))))) HV2.out).mono ?_
    rintro e w5 ⟨rfl, hb5⟩
    rw [decide_eq_true rfl]
    go_wp2_with fail
    refine (awake_any _).mono ?_
    rintro e w6 ⟨rfl, hb6⟩
    go_wp2
    go_ret
    exact ⟨rfl, by (repeat (first | assumption | exact Below.refl _ _ | refine below_next ?_ (by assumption) | refine below_drewN ?_ _ | refine below_alloc ?_ _))⟩
end Go.Proofs.YthgghkicdclinaaDoor
