/- The law RequestPrints. -/
import Derived.Test.YtcbomomlojhghaaDoorPrB
namespace Go.Proofs.YtcbomomlojhghaaDoor
set_option linter.unusedSimpArgs false
set_option linter.unusedVariables false
open Go.RowKit
attribute [local go_sem ↓] Go.wp_at_zero Go.wp_at_succ
theorem fix_any (l : List Stp) (A : Option Addr) (c : Nat) (w : World) (hl : Stps w A c l) :
    Calls Tryd.prog 23 #[.slice A l.length c] w fun e w' => e = .returned (.bool (l.any fun a => a.kind == 7)) ∧ Below w.heap.size w w' := by
  have HQ := Lib.hid (asks_any l A c 7 w hl)
  generalize (l.any fun a => a.kind == 7) = h7 at HQ ⊢
  go_enter Tryd.func23, Tryd.ntmps23
  go_wp2_with fail
  refine HQ.out.mono ?_
  rintro e w1 ⟨rfl, hb1⟩
  go_wp2
  go_ret
  exact ⟨rfl, hb1⟩
theorem upgrade_any (l : List Stp) (A : Option Addr) (c : Nat) (w : World) (hl : Stps w A c l) :
    Calls Tryd.prog 25 #[.slice A l.length c] w fun e w' => e = .returned (.bool ((l.any fun a => a.kind == 3) || (l.any fun a => a.kind == 4))) ∧ Below w.heap.size w w' := by
  have HQ3 := Lib.hid (asks_any l A c 3 w hl)
  have HQ4 := Lib.hid (fun (W : World) (h : Below w.heap.size w W) => asks_any l A c 4 W (hl.kept (Kept.of_below h)))
  generalize (l.any fun a => a.kind == 3) = h3 at HQ3 ⊢
  generalize (l.any fun a => a.kind == 4) = h4 at HQ4 ⊢
  rcases h3
  · go_enter Tryd.func25, Tryd.ntmps25
    go_wp2_with fail
    refine HQ3.out.mono ?_
    rintro e w1 ⟨rfl, hb1⟩
    go_wp2_with fail
    refine (HQ4.out _ hb1).mono ?_
    rintro e w2 ⟨rfl, hb2⟩
    go_wp2
    go_ret
    exact ⟨by first | rfl | simp, below_next hb1 hb2⟩
  · go_enter Tryd.func25, Tryd.ntmps25
    go_wp2_with fail
    refine HQ3.out.mono ?_
    rintro e w1 ⟨rfl, hb1⟩
    go_wp2
    go_ret
    exact ⟨by first | rfl | simp, hb1⟩
set_option maxRecDepth 100000 in
set_option maxHeartbeats 1000000 in
theorem law_prints17 (A : Option Addr) (c : Nat) (l : List Stp) (w : World) (hs : Stps w A c l) (hsh : ∀ a ∈ l, short a.name) :
    Calls Tryd.prog 6 #[.slice A l.length c] w fun e w' => e = .returned (.bool true) ∧ Below w.heap.size w w' := by
  have HB := Lib.hid (Below.refl w.heap.size w)
  by_cases h30 : 30 < l.length
  · have d30 : decide ((30 : Int) < (l.length : Int)) = true := decide_eq_true (by omega)
    clear h30
    go_enter Tryd.func6, Tryd.ntmps6
    go_wp2_with fail
    refine (awake17_any _).mono ?_
    rintro e w9 ⟨rfl, hb⟩
    have HB := Lib.hid (below_next HB.out hb)
    clear hb
    go_wp2
    go_ret
    exact ⟨rfl, HB.out⟩
  · have d30 : decide ((30 : Int) < (l.length : Int)) = false := decide_eq_false (by omega)
    have HS := Lib.hid (fun (W : World) (h : Below w.heap.size w W) => hs.kept (Kept.of_below h))
    have HP1 := Lib.hid (qprint_any l A c w hs hsh)
    have HP2 := Lib.hid (fun (W : World) (h : Below w.heap.size w W) => rprint_any l A c W (HS.out W h) hsh)
    have HM1 := Lib.hid (fun (W : World) (h : Below w.heap.size w W) => qmay_any l A c W (HS.out W h) hsh)
    have HM2 := Lib.hid (fun (W : World) (h : Below w.heap.size w W) => rmayAsks_any l A c W (HS.out W h) hsh)
    have HF := Lib.hid (fun (W : World) (h : Below w.heap.size w W) => fix_any l A c W (HS.out W h))
    have HU := Lib.hid (fun (W : World) (h : Below w.heap.size w W) => upgrade_any l A c W (HS.out W h))
    have HH := Lib.hid (fun (kd : Int) (W : World) (h : Below w.heap.size w W) => rhas_any l A c kd W (HS.out W h))
    obtain ⟨⟨X, E⟩, hr⟩ : ∃ r : List UInt8 × Int, r = if mayQs l = 0 then (printQ l, 0) else ([], mayQs l) := ⟨_, rfl⟩
    rw [← hr] at HP1 HP2
    generalize mayQs l = M at HM1 HM2
    clear h30 hr hs hsh HS
    go_enter Tryd.func6, Tryd.ntmps6
    go_wp2_with fail
    refine HP1.out.mono ?_
    rintro e w1 ⟨A1, c1, rfl, hs1, hb1⟩
    have HB := Lib.hid hb1
    have HS1 := Lib.hid (fun (W : World) (h : Below w1.heap.size w1 W) => conv_bts (hs1.kept (Kept.of_below h)))
    clear hs1 hb1 HP1
    dsimp only at HS1 ⊢
    go_wp2_with fail
    refine (HP2.out _ HB.out).mono ?_
    rintro e w2 ⟨A2, c2, rfl, hs2, hb2⟩
    have HB1 := Lib.hid hb2
    have HB := Lib.hid (below_next HB.out hb2)
    have HS2 := Lib.hid (fun (W : World) (h : Below w2.heap.size w2 W) => conv_bts (hs2.kept (Kept.of_below h)))
    clear hs2 hb2 HP2
    dsimp only at HS2 ⊢
    go_wp2_with fail
    refine (HM1.out _ HB.out).mono ?_
    rintro e w3 ⟨rfl, hb3⟩
    have HB2 := Lib.hid hb3
    have HB := Lib.hid (below_next HB.out hb3)
    clear hb3 HM1
    go_wp2_with fail
    refine (HM2.out _ HB.out).mono ?_
    rintro e w4 ⟨rfl, hb4⟩
    have HC2 := Lib.hid (HS2.out _ (below_next HB2.out hb4))
    have HC1 := Lib.hid (HS1.out _ (below_next (below_next HB1.out HB2.out) hb4))
    have HB := Lib.hid (below_next HB.out hb4)
    clear hb4 HM2 HB1 HB2 HS1 HS2
    go_wp2_with fail
    rw [HC1.out]
    go_wp2_with fail
    rw [HC2.out]
    clear HC1 HC2
    go_wp2_with fail
    refine (HF.out _ HB.out).mono ?_
    rintro e w5 ⟨rfl, hb⟩
    have HB := Lib.hid (below_next HB.out hb)
    clear hb
    go_wp2_with fail
    refine (HH.out 7 _ HB.out).mono ?_
    rintro e w6 ⟨rfl, hb⟩
    have HB := Lib.hid (below_next HB.out hb)
    clear hb
    clear HF
    generalize (l.any fun a => a.kind == 7) = h7
    go_wp2_with fail
    refine (HU.out _ HB.out).mono ?_
    rintro e w7 ⟨rfl, hb⟩
    have HB := Lib.hid (below_next HB.out hb)
    clear hb
    clear HU
    have HH3 := Lib.hid (fun W h => HH.out 3 W h)
    have HH4 := Lib.hid (fun W h => HH.out 4 W h)
    clear HH
    generalize (l.any fun a => a.kind == 3) = h3 at HH3 ⊢
    generalize (l.any fun a => a.kind == 4) = h4 at HH4 ⊢
    go_wp2_with fail
    refine (HH3.out _ HB.out).mono ?_
    rintro e w8 ⟨rfl, hb⟩
    have HB := Lib.hid (below_next HB.out hb)
    clear hb
    rcases h3
    · go_wp2_with fail
      refine (HH4.out _ HB.out).mono ?_
      rintro e w10 ⟨rfl, hb⟩
      have HB := Lib.hid (below_next HB.out hb)
      clear hb
      have hb4 : (h4 == h4) = true := by simp
      go_wp2_with fail
      refine (awake17_any _).mono ?_
      rintro e w9 ⟨rfl, hb⟩
      have HB := Lib.hid (below_next HB.out hb)
      clear hb
      go_wp2
      go_ret
      exact ⟨rfl, HB.out⟩
    · go_wp2_with fail
      refine (awake17_any _).mono ?_
      rintro e w9 ⟨rfl, hb⟩
      have HB := Lib.hid (below_next HB.out hb)
      clear hb
      go_wp2
      go_ret
      exact ⟨rfl, HB.out⟩
end Go.Proofs.YtcbomomlojhghaaDoor
