/- The law StepAll. -/
import Derived.Test.YtaicidbopgnmfaaGreatDoorDqG
import Derived.Test.YtaicidbopgnmfaaGreatDoorDoL
namespace Go.Proofs.YtaicidbopgnmfaaGreatDoor
set_option linter.unusedSimpArgs false
set_option linter.unusedVariables false
open Go.RowKit
set_option maxRecDepth 100000 in
set_option maxHeartbeats 4000000 in
theorem law_all (A : Option Addr) (c : Nat) (s : List Ent) (A' : Option Addr) (c' : Nat) (fr : List Pkg) (w : World) (hs : Ents w A c s) (hf : Pkgs w A' c' fr) :
    Calls Tryz.prog 8 #[.slice A s.length c, .slice A' fr.length c'] w fun e w' => e = .returned (.bool true) ∧ Below w.heap.size w w' := by
  have HS := Lib.hid hs
  have HF := Lib.hid hf
  have hbs := hs.bd
  have hbf := hf.bd
  have HB := Lib.hid (Below.refl w.heap.size w)
  clear hs hf
  rcases h1 : lightM 26 40 14 10 (s.map Ent.pkg)
  · have H1 := Lib.hid h1
    clear h1
    go_enter Tryz.func8, Tryz.ntmps8
    go_wp2_with fail
    refine (bare22_any _ _ s _ (HS.out.kept (Kept.of_below HB.out))).mono ?_
    rintro e w1 ⟨A1, c1, rfl, hp, hb1⟩
    generalize hm : s.map Ent.pkg = lp at hp ⊢
    have HP1 := Lib.hid hp
    have HT1 := Lib.hid (show lightM 26 40 14 10 lp = _ from hm ▸ H1.out)
    have HB := Lib.hid (below_next HB.out hb1)
    clear hp hm hb1
    go_wp2_with fail
    refine (light22_any _ _ _ _ HP1.out).mono ?_
    rintro e w2 ⟨rfl, hb2⟩
    rw [HT1.out]
    have HB := Lib.hid (below_next HB.out hb2)
    clear hb2 HP1 HT1
    go_wp2_with fail
    refine (awake22_any _).mono ?_
    rintro e w9 ⟨rfl, hb9⟩
    go_wp2
    go_ret
    exact ⟨rfl, below_next HB.out hb9⟩
  · have hfs := light_fewD h1
    have HFS := Lib.hid (show ∀ x ∈ s, fewD x.pkg from fun x hx => hfs.2 _ (List.mem_map_of_mem hx))
    have hsl : s.length ≤ 26 := by have := hfs.1; rwa [List.length_map] at this
    have H1 := Lib.hid h1
    clear h1 hfs
    rcases h2 : lightM 26 40 14 10 fr
    · have H2 := Lib.hid h2
      clear h2
      go_enter Tryz.func8, Tryz.ntmps8
      go_wp2_with fail
      refine (bare22_any _ _ s _ (HS.out.kept (Kept.of_below HB.out))).mono ?_
      rintro e w1 ⟨A1, c1, rfl, hp, hb1⟩
      generalize hm : s.map Ent.pkg = lp at hp ⊢
      have HP1 := Lib.hid hp
      have HT1 := Lib.hid (show lightM 26 40 14 10 lp = _ from hm ▸ H1.out)
      have HB := Lib.hid (below_next HB.out hb1)
      clear hp hm hb1
      go_wp2_with fail
      refine (light22_any _ _ _ _ HP1.out).mono ?_
      rintro e w2 ⟨rfl, hb2⟩
      rw [HT1.out]
      have HB := Lib.hid (below_next HB.out hb2)
      clear hb2 HP1 HT1
      go_wp2_with fail
      refine (light22_any _ _ fr _ (HF.out.kept (Kept.of_below HB.out))).mono ?_
      rintro e w2 ⟨rfl, hb2⟩
      rw [H2.out]
      have HB := Lib.hid (below_next HB.out hb2)
      clear hb2
      go_wp2_with fail
      refine (awake22_any _).mono ?_
      rintro e w9 ⟨rfl, hb9⟩
      go_wp2
      go_ret
      exact ⟨rfl, below_next HB.out hb9⟩
    · have hff := light_fewD h2
      have HFF := Lib.hid hff.2
      have hfl := hff.1
      have H2 := Lib.hid h2
      clear h2 hff
      go_enter Tryz.func8, Tryz.ntmps8
      go_wp2_with fail
      refine (bare22_any _ _ s _ (HS.out.kept (Kept.of_below HB.out))).mono ?_
      rintro e w1 ⟨A1, c1, rfl, hp, hb1⟩
      generalize hm : s.map Ent.pkg = lp at hp ⊢
      have HP1 := Lib.hid hp
      have HT1 := Lib.hid (show lightM 26 40 14 10 lp = _ from hm ▸ H1.out)
      have HB := Lib.hid (below_next HB.out hb1)
      clear hp hm hb1
      go_wp2_with fail
      refine (light22_any _ _ _ _ HP1.out).mono ?_
      rintro e w2 ⟨rfl, hb2⟩
      rw [HT1.out]
      have HB := Lib.hid (below_next HB.out hb2)
      clear hb2 HP1 HT1
      go_wp2_with fail
      refine (light22_any _ _ fr _ (HF.out.kept (Kept.of_below HB.out))).mono ?_
      rintro e w2 ⟨rfl, hb2⟩
      rw [H2.out]
      have HB := Lib.hid (below_next HB.out hb2)
      clear hb2
      go_wp2_with fail
      have HQ := Lib.hid (stepAll_any s _ _ fr _ _ w2 (HS.out.kept (Kept.of_below HB.out)) (HF.out.kept (Kept.of_below HB.out)) HFS.out HFF.out hsl hfl)
      refine HQ.out.mono ?_
      rintro e w3 ⟨A3, c3, rfl, he3, hb3⟩
      have HE3 := Lib.hid he3
      have HB := Lib.hid (below_next HB.out hb3)
      clear he3 hb3 HQ
      obtain ⟨r, hr⟩ : ∃ r, r = allS s fr := ⟨_, rfl⟩
      have HRR := Lib.hid hr
      rw [← hr] at HE3 ⊢
      clear hr
      go_wp2_with fail
      have HQ := Lib.hid (rAll_any s _ _ fr _ _ w3 (HS.out.kept (Kept.of_below HB.out)) (HF.out.kept (Kept.of_below HB.out)) HFS.out HFF.out hsl hfl)
      rw [← HRR.out] at HQ
      refine HQ.out.mono ?_
      rintro e w4 ⟨A4, c4, rfl, he4, hb4⟩
      have HE4 := Lib.hid he4
      have HE3 := Lib.hid (HE3.out.kept (Kept.of_below hb4))
      have HB := Lib.hid (below_next HB.out hb4)
      clear he4 hb4 HQ
      go_wp2_with fail
      have HQ := Lib.hid (sameSteps_any r _ _ _ _ w4 HE3.out HE4.out)
      refine HQ.out.mono ?_
      rintro e w5 ⟨rfl, hb5⟩
      have HB := Lib.hid (below_next HB.out hb5)
      clear hb5 HQ
      go_wp2_with fail
      refine (awake22_any _).mono ?_
      rintro e w9 ⟨rfl, hb9⟩
      go_wp2
      go_ret
      exact ⟨rfl, below_next HB.out hb9⟩
end Go.Proofs.YtaicidbopgnmfaaGreatDoor
