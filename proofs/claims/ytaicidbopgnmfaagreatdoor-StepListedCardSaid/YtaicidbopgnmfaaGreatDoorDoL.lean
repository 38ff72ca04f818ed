/- The law StepDoes. -/
import Derived.Test.YtaicidbopgnmfaaGreatDoorDoK
namespace Go.Proofs.YtaicidbopgnmfaaGreatDoor
set_option linter.unusedSimpArgs false
set_option linter.unusedVariables false
open Go.RowKit
theorem light_fewD {l : List Pkg} (h : lightM 26 40 14 10 l = true) : l.length ≤ 26 ∧ ∀ p ∈ l, fewD p := by
  obtain ⟨h1, h2⟩ := lm_of h
  refine ⟨h1, fun p hp => ?_⟩
  obtain ⟨h3, ⟨h4, h5⟩, ⟨h6, h7⟩, ⟨h8, h9⟩⟩ := h2 p hp
  exact ⟨⟨⟨by omega, fun x hx => by have := h5 x hx; omega⟩, ⟨by omega, fun x hx => by have := h7 x hx; omega⟩, ⟨by omega, fun x hx => by have := h9 x hx; omega⟩, by omega, by omega, by omega⟩, by omega, by omega⟩
set_option maxRecDepth 100000 in
set_option maxHeartbeats 4000000 in
theorem law_does (A : Option Addr) (c : Nat) (s : List Ent) (k : Int) (nm vr : List UInt8) (A' : Option Addr) (c' : Nat) (fr : List Pkg) (w : World) (hs : Ents w A c s) (hf : Pkgs w A' c' fr) :
    Calls Tryz.prog 3 #[.slice A s.length c, .agg #[.int .i64 k, .string (bs nm), .string (bs vr)], .slice A' fr.length c'] w fun e w' => e = .returned (.bool true) ∧ Below w.heap.size w w' := by
  have HS := Lib.hid hs
  have HF := Lib.hid hf
  have hbs := hs.bd
  have hbf := hf.bd
  have HST0 := Lib.hid (blk_new1 w 24 #[.int .i64 k, .string (bs nm), .string (bs vr)])
  have HB := Lib.hid (below_alloc (Below.refl w.heap.size w) (.cells #[.int .i64 k, .string (bs nm), .string (bs vr)] 24))
  clear hs hf
  rcases h1 : lightM 26 40 14 10 (s.map Ent.pkg)
  · have H1 := Lib.hid h1
    clear h1
    go_enter Tryz.func3, Tryz.ntmps3
    go_wp2_with fail
    refine (bare22_any _ _ s _ (HS.out.kept (Kept.of_below HB.out))).mono ?_
    rintro e w1 ⟨A1, c1, rfl, hp, hb1⟩
    generalize hm : (s).map Ent.pkg = lp at hp ⊢
    have HP := Lib.hid hp
    have HT1 := Lib.hid (show lightM 26 40 14 10 lp = _ from hm ▸ H1.out)
    have HB := Lib.hid (below_next HB.out hb1)
    have HST0 := Lib.hid (HST0.out.next hb1)
    clear hp hm hb1
    go_wp2_with fail
    refine (light22_any _ _ _ _ HP.out).mono ?_
    rintro e w2 ⟨rfl, hb2⟩
    rw [HT1.out]
    have HB := Lib.hid (below_next HB.out hb2)
    have HST0 := Lib.hid (HST0.out.next hb2)
    clear hb2 HP HT1
    go_wp2_with fail
    refine (awake22_any _).mono ?_
    rintro e w9 ⟨rfl, hb9⟩
    go_wp2
    go_ret
    exact ⟨rfl, below_next HB.out hb9⟩
  · have hfs := light_fewD h1
    have HFS := Lib.hid (show ∀ x ∈ s, fewD x.pkg from fun x hx => hfs.2 _ (List.mem_map_of_mem hx))
    have H1 := Lib.hid h1
    clear h1 hfs
    rcases h2 : lightM 26 40 14 10 fr
    · have H2 := Lib.hid h2
      clear h2
      go_enter Tryz.func3, Tryz.ntmps3
      go_wp2_with fail
      refine (bare22_any _ _ s _ (HS.out.kept (Kept.of_below HB.out))).mono ?_
      rintro e w1 ⟨A1, c1, rfl, hp, hb1⟩
      generalize hm : (s).map Ent.pkg = lp at hp ⊢
      have HP := Lib.hid hp
      have HT1 := Lib.hid (show lightM 26 40 14 10 lp = _ from hm ▸ H1.out)
      have HB := Lib.hid (below_next HB.out hb1)
      have HST0 := Lib.hid (HST0.out.next hb1)
      clear hp hm hb1
      go_wp2_with fail
      refine (light22_any _ _ _ _ HP.out).mono ?_
      rintro e w2 ⟨rfl, hb2⟩
      rw [HT1.out]
      have HB := Lib.hid (below_next HB.out hb2)
      have HST0 := Lib.hid (HST0.out.next hb2)
      clear hb2 HP HT1
      go_wp2_with fail
      refine (light22_any _ _ fr _ (HF.out.kept (Kept.of_below HB.out))).mono ?_
      rintro e w2 ⟨rfl, hb2⟩
      rw [H2.out]
      have HB := Lib.hid (below_next HB.out hb2)
      have HST0 := Lib.hid (HST0.out.next hb2)
      clear hb2
      go_wp2_with fail
      refine (awake22_any _).mono ?_
      rintro e w9 ⟨rfl, hb9⟩
      go_wp2
      go_ret
      exact ⟨rfl, below_next HB.out hb9⟩
    · have hff := light_fewD h2
      have HFF := Lib.hid hff.2
      have H2 := Lib.hid h2
      clear h2 hff
      go_enter Tryz.func3, Tryz.ntmps3
      go_wp2_with fail
      refine (bare22_any _ _ s _ (HS.out.kept (Kept.of_below HB.out))).mono ?_
      rintro e w1 ⟨A1, c1, rfl, hp, hb1⟩
      generalize hm : (s).map Ent.pkg = lp at hp ⊢
      have HP := Lib.hid hp
      have HT1 := Lib.hid (show lightM 26 40 14 10 lp = _ from hm ▸ H1.out)
      have HB := Lib.hid (below_next HB.out hb1)
      have HST0 := Lib.hid (HST0.out.next hb1)
      clear hp hm hb1
      go_wp2_with fail
      refine (light22_any _ _ _ _ HP.out).mono ?_
      rintro e w2 ⟨rfl, hb2⟩
      rw [HT1.out]
      have HB := Lib.hid (below_next HB.out hb2)
      have HST0 := Lib.hid (HST0.out.next hb2)
      clear hb2 HP HT1
      go_wp2_with fail
      refine (light22_any _ _ fr _ (HF.out.kept (Kept.of_below HB.out))).mono ?_
      rintro e w2 ⟨rfl, hb2⟩
      rw [H2.out]
      have HB := Lib.hid (below_next HB.out hb2)
      have HST0 := Lib.hid (HST0.out.next hb2)
      clear hb2
      have c0 := HST0.out.cell 0
      have c1 := HST0.out.cell 1
      have c2 := HST0.out.cell 2
      simp only [List.getElem?_toArray, List.getElem?_cons_zero, List.getElem?_cons_succ] at c0 c1 c2
      go_wp2_with fail
      have HQ := Lib.hid (do_any s _ _ k nm vr fr _ _ w2 (HS.out.kept (Kept.of_below HB.out)) (HF.out.kept (Kept.of_below HB.out)) HFS.out HFF.out)
      refine HQ.out.mono ?_
      rintro e w3 ⟨A3, c3, rfl, he3, hb3⟩
      have HE3 := Lib.hid he3
      have HST0 := Lib.hid (HST0.out.next hb3)
      have HB := Lib.hid (below_next HB.out hb3)
      clear he3 hb3 HQ c0 c1 c2
      have c0 := HST0.out.cell 0
      have c1 := HST0.out.cell 1
      have c2 := HST0.out.cell 2
      simp only [List.getElem?_toArray, List.getElem?_cons_zero, List.getElem?_cons_succ] at c0 c1 c2
      obtain ⟨r, hr⟩ : ∃ r, r = doS s ⟨k, nm, vr⟩ fr := ⟨_, rfl⟩
      have HRR := Lib.hid hr
      rw [← hr] at HE3 ⊢
      clear hr
      go_wp2_with fail
      have HQ := Lib.hid (rDo_any s _ _ k nm vr fr _ _ w3 (HS.out.kept (Kept.of_below HB.out)) (HF.out.kept (Kept.of_below HB.out)) HFS.out HFF.out)
      rw [← HRR.out] at HQ
      refine HQ.out.mono ?_
      rintro e w4 ⟨A4, c4, rfl, he4, hb4⟩
      have HE4 := Lib.hid he4
      have HE3 := Lib.hid (HE3.out.kept (Kept.of_below hb4))
      have HB := Lib.hid (below_next HB.out hb4)
      clear he4 hb4 HQ c0 c1 c2
      obtain ⟨t, er⟩ := r
      dsimp only at HE3 HE4 ⊢
      go_wp2_with fail
      have HQ := Lib.hid (sameEnts_any _ _ _ _ t t w4 HE3.out HE4.out)
      refine HQ.out.mono ?_
      rintro e w5 ⟨rfl, hb5⟩
      rw [show decide (t = t) = true from decide_eq_true rfl]
      have HB := Lib.hid (below_next HB.out hb5)
      clear hb5 HQ
      have hee : (er == er) = true := beq_self_eq_true er
      go_wp2_with fail
      refine (awake22_any _).mono ?_
      rintro e w9 ⟨rfl, hb9⟩
      go_wp2
      go_ret
      exact ⟨rfl, below_next HB.out hb9⟩
end Go.Proofs.YtaicidbopgnmfaaGreatDoor
