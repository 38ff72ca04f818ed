/- The law StateHealthy. -/
import Derived.Test.YthgghkicdclinaaGreatDoorReC
import Derived.Test.YthgghkicdclinaaGreatDoorStN
import Derived.Test.YthgghkicdclinaaGreatDoorStG
namespace Go.Proofs.YthgghkicdclinaaGreatDoor
set_option linter.unusedSimpArgs false
set_option linter.unusedVariables false
open Go.RowKit

theorem light_fewH {N K C : Nat} (hN : N ≤ 1000000) (hK : K ≤ 1000000) {l : List Pkg} (h : lightS N K C l = true) : fewH l := by
  simp only [lightS, Bool.and_eq_true, decide_eq_true_eq, List.all_eq_true] at h
  intro p hp
  have := h.2 p hp
  simp only [lgtP, lgtC, Bool.and_eq_true, decide_eq_true_eq] at this
  unfold fewR
  omega
set_option maxRecDepth 100000 in
set_option maxHeartbeats 400000 in
theorem law_healthy (A : Option Addr) (c : Nat) (l : List Pkg) (w : World) (hl : Pkgs w A c l) :
    Calls Tryz.prog 3 #[.slice A l.length c] w fun e w' => e = .returned (.bool true) ∧ Below w.heap.size w w' := by
  have HL := Lib.hid hl
  clear hl
  rcases hlt : lightS 50 20 20 l
  · have HT := Lib.hid hlt
    clear hlt
    go_enter Tryz.func3, Tryz.ntmps3
    go_wp2_with fail
    refine (light_any _ _ l _ HL.out).mono ?_
    rintro e w1 ⟨rfl, hb1⟩
    rw [HT.out]
    go_wp2
    go_ret
    exact ⟨rfl, hb1⟩
  · have HF := Lib.hid (light_fewH (by decide) (by decide) hlt)
    have HT := Lib.hid hlt
    clear hlt
    generalize hH : hlthS l = H
    have HH := Lib.hid hH
    clear hH
    have heq : (H == H) = true := by simp
    go_enter Tryz.func3, Tryz.ntmps3
    go_wp2_with fail
    refine (light_any _ _ l _ HL.out).mono ?_
    rintro e w1 ⟨rfl, hb1⟩
    rw [HT.out]
    go_wp2_with fail
    refine (healthy_any _ _ l _ (HL.out.kept (Kept.of_below hb1)) HF.out).mono ?_
    rintro e w2 ⟨rfl, hb2⟩
    rw [HH.out]
    have HB2 := Lib.hid (below_next hb1 hb2)
    clear hb1 hb2
    go_wp2_with fail
    refine (rhealthy_any _ _ l _ (HL.out.kept (Kept.of_below HB2.out))).mono ?_
    rintro e w3 ⟨rfl, hb3⟩
    rw [HH.out]
    have HB3 := Lib.hid (below_next HB2.out hb3)
    clear hb3
    go_wp2_with fail
    refine (awake_any _).mono ?_
    rintro e w9 ⟨rfl, hb9⟩
    go_wp2
    go_ret
    exact ⟨rfl, below_next HB3.out hb9⟩
end Go.Proofs.YthgghkicdclinaaGreatDoor
