/- The law StateFinds. -/
import Derived.Test.YtefjoigngnnbjaaDoorEnX
import Derived.Test.YtefjoigngnnbjaaDoorStO
namespace Go.Proofs.YtefjoigngnnbjaaDoor
set_option linter.unusedSimpArgs false
set_option linter.unusedVariables false
open Go.RowKit
theorem light_fewOE {l : List Pkg} (h : lightS 50 20 20 l = true) : l.length ≤ 26 ∧ ∀ p ∈ l, fewOE p := by
  simp only [lightS, Bool.and_eq_true, decide_eq_true_eq, List.all_eq_true] at h
  refine ⟨h.1, fun p hp => ?_⟩
  have := h.2 p hp
  simp only [lgtP, lgtC, Bool.and_eq_true, decide_eq_true_eq, List.all_eq_true] at this
  unfold fewOE
  refine ⟨⟨by omega, fun x hx => ?_⟩, ⟨by omega, fun x hx => ?_⟩, ⟨by omega, fun x hx => ?_⟩, by omega, by omega, by omega⟩ <;> grind
set_option maxRecDepth 100000 in
set_option maxHeartbeats 4000000 in
theorem law_finds (A : Option Addr) (c : Nat) (s : List Ent) (A' : Option Addr) (c' : Nat) (t : List Ent) (A2 : Option Addr) (c2 : Nat) (l : List Pkg) (n : List UInt8) (w : World) (hs : Ents w A c s) (ht : Ents w A' c' t) (hl : Pkgs w A2 c2 l) (hn : short n) :
    Calls Tryd.prog 4 #[.slice A s.length c, .slice A' t.length c', .slice A2 l.length c2, .string (bs n)] w fun e w' => e = .returned (.bool true) ∧ Below w.heap.size w w' := by
  have HS := Lib.hid hs
  have HTt := Lib.hid ht
  have HL := Lib.hid hl
  have hbs := hs.bd
  have hbt := ht.bd
  have hbl := hl.bd
  have HB := Lib.hid (Below.refl w.heap.size w)
  clear hs ht hl
  rcases h1 : lightS 50 20 20 (s.map Ent.pkg)
  · have H1 := Lib.hid h1
    clear h1
    go_enter Tryd.func4, Tryd.ntmps4
    go_wp2_with fail
    refine (bare_any _ _ s _ (HS.out.kept (Kept.of_below HB.out))).mono ?_
    rintro e w1 ⟨A1, c1, rfl, hp, hb1⟩
    generalize hm : (s).map Ent.pkg = lp at hp ⊢
    have HP := Lib.hid hp
    have HT1 := Lib.hid (show lightS 50 20 20 lp = _ from hm ▸ H1.out)
    have HB := Lib.hid (below_next HB.out hb1)
    clear hp hm hb1
    go_wp2_with fail
    refine (light_any _ _ _ _ HP.out).mono ?_
    rintro e w2 ⟨rfl, hb2⟩
    rw [HT1.out]
    have HB := Lib.hid (below_next HB.out hb2)
    clear hb2 HP HT1
    go_wp2_with fail
    refine (awake_any _).mono ?_
    rintro e w9 ⟨rfl, hb9⟩
    go_wp2
    go_ret
    exact ⟨rfl, below_next HB.out hb9⟩
  · have hfs := light_fewOE h1
    have hsl : s.length ≤ 26 := by simpa using hfs.1
    have HFS := Lib.hid (show ∀ x ∈ s, fewOE x.pkg from fun x hx => hfs.2 _ (List.mem_map_of_mem hx))
    have H1 := Lib.hid h1
    clear h1 hfs
    rcases h2 : lightS 50 20 20 (t.map Ent.pkg)
    · have H2 := Lib.hid h2
      clear h2
      go_enter Tryd.func4, Tryd.ntmps4
      go_wp2_with fail
      refine (bare_any _ _ s _ (HS.out.kept (Kept.of_below HB.out))).mono ?_
      rintro e w1 ⟨A1, c1, rfl, hp, hb1⟩
      generalize hm : (s).map Ent.pkg = lp at hp ⊢
      have HP := Lib.hid hp
      have HT1 := Lib.hid (show lightS 50 20 20 lp = _ from hm ▸ H1.out)
      have HB := Lib.hid (below_next HB.out hb1)
      clear hp hm hb1
      go_wp2_with fail
      refine (light_any _ _ _ _ HP.out).mono ?_
      rintro e w2 ⟨rfl, hb2⟩
      rw [HT1.out]
      have HB := Lib.hid (below_next HB.out hb2)
      clear hb2 HP HT1
      go_wp2_with fail
      refine (bare_any _ _ t _ (HTt.out.kept (Kept.of_below HB.out))).mono ?_
      rintro e w1 ⟨A1, c1, rfl, hp, hb1⟩
      generalize hm : (t).map Ent.pkg = lp at hp ⊢
      have HP := Lib.hid hp
      have HT1 := Lib.hid (show lightS 50 20 20 lp = _ from hm ▸ H2.out)
      have HB := Lib.hid (below_next HB.out hb1)
      clear hp hm hb1
      go_wp2_with fail
      refine (light_any _ _ _ _ HP.out).mono ?_
      rintro e w2 ⟨rfl, hb2⟩
      rw [HT1.out]
      have HB := Lib.hid (below_next HB.out hb2)
      clear hb2 HP HT1
      go_wp2_with fail
      refine (awake_any _).mono ?_
      rintro e w9 ⟨rfl, hb9⟩
      go_wp2
      go_ret
      exact ⟨rfl, below_next HB.out hb9⟩
    · have H2 := Lib.hid h2
      clear h2
      rcases h3 : lightS 50 20 20 l
      · have H3 := Lib.hid h3
        clear h3
        go_enter Tryd.func4, Tryd.ntmps4
        go_wp2_with fail
        refine (bare_any _ _ s _ (HS.out.kept (Kept.of_below HB.out))).mono ?_
        rintro e w1 ⟨A1, c1, rfl, hp, hb1⟩
        generalize hm : (s).map Ent.pkg = lp at hp ⊢
        have HP := Lib.hid hp
        have HT1 := Lib.hid (show lightS 50 20 20 lp = _ from hm ▸ H1.out)
        have HB := Lib.hid (below_next HB.out hb1)
        clear hp hm hb1
        go_wp2_with fail
        refine (light_any _ _ _ _ HP.out).mono ?_
        rintro e w2 ⟨rfl, hb2⟩
        rw [HT1.out]
        have HB := Lib.hid (below_next HB.out hb2)
        clear hb2 HP HT1
        go_wp2_with fail
        refine (bare_any _ _ t _ (HTt.out.kept (Kept.of_below HB.out))).mono ?_
        rintro e w1 ⟨A1, c1, rfl, hp, hb1⟩
        generalize hm : (t).map Ent.pkg = lp at hp ⊢
        have HP := Lib.hid hp
        have HT1 := Lib.hid (show lightS 50 20 20 lp = _ from hm ▸ H2.out)
        have HB := Lib.hid (below_next HB.out hb1)
        clear hp hm hb1
        go_wp2_with fail
        refine (light_any _ _ _ _ HP.out).mono ?_
        rintro e w2 ⟨rfl, hb2⟩
        rw [HT1.out]
        have HB := Lib.hid (below_next HB.out hb2)
        clear hb2 HP HT1
        go_wp2_with fail
        refine (light_any _ _ l _ (HL.out.kept (Kept.of_below HB.out))).mono ?_
        rintro e w2 ⟨rfl, hb2⟩
        rw [H3.out]
        have HB := Lib.hid (below_next HB.out hb2)
        clear hb2
        go_wp2_with fail
        refine (awake_any _).mono ?_
        rintro e w9 ⟨rfl, hb9⟩
        go_wp2
        go_ret
        exact ⟨rfl, below_next HB.out hb9⟩
      · have hfl := light_fewOE h3
        have hll : l.length ≤ 26 := hfl.1
        have HFL := Lib.hid hfl.2
        have H3 := Lib.hid h3
        clear h3 hfl
        go_enter Tryd.func4, Tryd.ntmps4
        go_wp2_with fail
        refine (bare_any _ _ s _ (HS.out.kept (Kept.of_below HB.out))).mono ?_
        rintro e w1 ⟨A1, c1, rfl, hp, hb1⟩
        generalize hm : (s).map Ent.pkg = lp at hp ⊢
        have HP := Lib.hid hp
        have HT1 := Lib.hid (show lightS 50 20 20 lp = _ from hm ▸ H1.out)
        have HB := Lib.hid (below_next HB.out hb1)
        clear hp hm hb1
        go_wp2_with fail
        refine (light_any _ _ _ _ HP.out).mono ?_
        rintro e w2 ⟨rfl, hb2⟩
        rw [HT1.out]
        have HB := Lib.hid (below_next HB.out hb2)
        clear hb2 HP HT1
        go_wp2_with fail
        refine (bare_any _ _ t _ (HTt.out.kept (Kept.of_below HB.out))).mono ?_
        rintro e w1 ⟨A1, c1, rfl, hp, hb1⟩
        generalize hm : (t).map Ent.pkg = lp at hp ⊢
        have HP := Lib.hid hp
        have HT1 := Lib.hid (show lightS 50 20 20 lp = _ from hm ▸ H2.out)
        have HB := Lib.hid (below_next HB.out hb1)
        clear hp hm hb1
        go_wp2_with fail
        refine (light_any _ _ _ _ HP.out).mono ?_
        rintro e w2 ⟨rfl, hb2⟩
        rw [HT1.out]
        have HB := Lib.hid (below_next HB.out hb2)
        clear hb2 HP HT1
        go_wp2_with fail
        refine (light_any _ _ l _ (HL.out.kept (Kept.of_below HB.out))).mono ?_
        rintro e w2 ⟨rfl, hb2⟩
        rw [H3.out]
        have HB := Lib.hid (below_next HB.out hb2)
        clear hb2
        go_wp2_with fail
        refine (sfind_any _ _ s n _ (HS.out.kept (Kept.of_below HB.out))).mono ?_
        rintro e w1 ⟨rfl, hb1⟩
        have HB := Lib.hid (below_next HB.out hb1)
        clear hb1
        rcases hold_cases s n with ⟨h1, h2, -⟩ | ⟨j, x, h1, -, h2, -⟩
        · rw [h1, h2]
          have HI := Lib.hid h1
          clear h1 h2
          go_wp2_with fail
          refine (rfind_any _ _ s n _ (HS.out.kept (Kept.of_below HB.out))).mono ?_
          rintro e w2 ⟨rfl, hb2⟩
          rw [HI.out]
          have HB := Lib.hid (below_next HB.out hb2)
          clear hb2
          go_wp2_with fail
          refine (sortedE_any _ _ s _ (HS.out.kept (Kept.of_below HB.out)) HFS.out (by omega)).mono ?_
          rintro e w3 hh3
          obtain ⟨A3, c3, rfl, hs3, hb3⟩ := hh3.ents (by rw [srt_len]; omega)
          have HS3 := Lib.hid hs3
          have HB := Lib.hid (below_next HB.out hb3)
          clear hs3 hb3
          go_wp2_with fail
          refine (rSortedE_any _ _ s _ (HS.out.kept (Kept.of_below HB.out)) (by omega)).mono ?_
          rintro e w4 ⟨A4, c4, rfl, hs4, hb4⟩
          have HS4 := Lib.hid hs4
          have HS3 := Lib.hid (HS3.out.kept (Kept.of_below hb4))
          have HB := Lib.hid (below_next HB.out hb4)
          clear hs4 hb4
          generalize srt eLt s = z at HS3 HS4 ⊢
          go_wp2_with fail
          refine (sameEnts_any _ _ _ _ z z _ HS3.out HS4.out).mono ?_
          rintro e w5 ⟨rfl, hb5⟩
          rw [show decide (z = z) = true from decide_eq_true rfl]
          have HB := Lib.hid (below_next HB.out hb5)
          clear hb5 HS3 HS4
          go_wp2_with fail
          refine (stSame_any _ _ _ _ s t _ (HS.out.kept (Kept.of_below HB.out)) (HTt.out.kept (Kept.of_below HB.out))).mono ?_
          rintro e w6 ⟨rfl, hb6⟩
          have HB := Lib.hid (below_next HB.out hb6)
          clear hb6
          go_wp2_with fail
          refine (sameEnts_any _ _ _ _ s t _ (HS.out.kept (Kept.of_below HB.out)) (HTt.out.kept (Kept.of_below HB.out))).mono ?_
          rintro e w7 ⟨rfl, hb7⟩
          have HB := Lib.hid (below_next HB.out hb7)
          clear hb7
          generalize decide (s = t) = dd
          have hdd : (dd == dd) = true := beq_self_eq_true dd
          go_wp2_with fail
          refine (stSame_any _ _ _ _ s s _ (HS.out.kept (Kept.of_below HB.out)) (HS.out.kept (Kept.of_below HB.out))).mono ?_
          rintro e w8 ⟨rfl, hb8⟩
          rw [show decide (s = s) = true from decide_eq_true rfl]
          have HB := Lib.hid (below_next HB.out hb8)
          clear hb8
          go_wp2_with fail
          refine (whole_any _ _ _ _ l s _ (HL.out.kept (Kept.of_below HB.out)) (HS.out.kept (Kept.of_below HB.out)) HFL.out (by omega)).mono ?_
          rintro e w10 hh10
          obtain ⟨A10, c10, rfl, hs10, hb10⟩ := hh10.ents (by rw [srt_len, whole_len]; omega)
          have HS10 := Lib.hid hs10
          have HB := Lib.hid (below_next HB.out hb10)
          clear hs10 hb10
          go_wp2_with fail
          refine (rwhole_any _ _ _ _ l s _ (HL.out.kept (Kept.of_below HB.out)) (HS.out.kept (Kept.of_below HB.out)) (by omega)).mono ?_
          rintro e w11 ⟨A11, c11, rfl, hs11, hb11⟩
          have HS11 := Lib.hid hs11
          have HS10 := Lib.hid (HS10.out.kept (Kept.of_below hb11))
          have HB := Lib.hid (below_next HB.out hb11)
          clear hs11 hb11
          generalize srt eLt (wholeS l s) = y at HS10 HS11 ⊢
          go_wp2_with fail
          refine (sameEnts_any _ _ _ _ y y _ HS10.out HS11.out).mono ?_
          rintro e w12 ⟨rfl, hb12⟩
          rw [show decide (y = y) = true from decide_eq_true rfl]
          have HB := Lib.hid (below_next HB.out hb12)
          clear hb12 HS10 HS11
          go_wp2_with fail
          refine (awake_any _).mono ?_
          rintro e w9 ⟨rfl, hb9⟩
          go_wp2
          go_ret
          exact ⟨rfl, below_next HB.out hb9⟩
        · rw [h1, h2]
          have HI := Lib.hid h1
          clear h1 h2
          have hi0 : (0 : Int) ≤ (j : Int) := Int.natCast_nonneg _
          have hi1 : decide ((0 : Int) ≤ (j : Int)) = true := decide_eq_true hi0
          have hmx : max (0 : Int) (j : Int) = (j : Int) := Int.max_eq_right hi0
          rw [hmx]
          go_wp2_with fail
          refine (rfind_any _ _ s n _ (HS.out.kept (Kept.of_below HB.out))).mono ?_
          rintro e w2 ⟨rfl, hb2⟩
          rw [HI.out]
          have HB := Lib.hid (below_next HB.out hb2)
          clear hb2
          go_wp2_with fail
          refine (sortedE_any _ _ s _ (HS.out.kept (Kept.of_below HB.out)) HFS.out (by omega)).mono ?_
          rintro e w3 hh3
          obtain ⟨A3, c3, rfl, hs3, hb3⟩ := hh3.ents (by rw [srt_len]; omega)
          have HS3 := Lib.hid hs3
          have HB := Lib.hid (below_next HB.out hb3)
          clear hs3 hb3
          go_wp2_with fail
          refine (rSortedE_any _ _ s _ (HS.out.kept (Kept.of_below HB.out)) (by omega)).mono ?_
          rintro e w4 ⟨A4, c4, rfl, hs4, hb4⟩
          have HS4 := Lib.hid hs4
          have HS3 := Lib.hid (HS3.out.kept (Kept.of_below hb4))
          have HB := Lib.hid (below_next HB.out hb4)
          clear hs4 hb4
          generalize srt eLt s = z at HS3 HS4 ⊢
          go_wp2_with fail
          refine (sameEnts_any _ _ _ _ z z _ HS3.out HS4.out).mono ?_
          rintro e w5 ⟨rfl, hb5⟩
          rw [show decide (z = z) = true from decide_eq_true rfl]
          have HB := Lib.hid (below_next HB.out hb5)
          clear hb5 HS3 HS4
          go_wp2_with fail
          refine (stSame_any _ _ _ _ s t _ (HS.out.kept (Kept.of_below HB.out)) (HTt.out.kept (Kept.of_below HB.out))).mono ?_
          rintro e w6 ⟨rfl, hb6⟩
          have HB := Lib.hid (below_next HB.out hb6)
          clear hb6
          go_wp2_with fail
          refine (sameEnts_any _ _ _ _ s t _ (HS.out.kept (Kept.of_below HB.out)) (HTt.out.kept (Kept.of_below HB.out))).mono ?_
          rintro e w7 ⟨rfl, hb7⟩
          have HB := Lib.hid (below_next HB.out hb7)
          clear hb7
          generalize decide (s = t) = dd
          have hdd : (dd == dd) = true := beq_self_eq_true dd
          go_wp2_with fail
          refine (stSame_any _ _ _ _ s s _ (HS.out.kept (Kept.of_below HB.out)) (HS.out.kept (Kept.of_below HB.out))).mono ?_
          rintro e w8 ⟨rfl, hb8⟩
          rw [show decide (s = s) = true from decide_eq_true rfl]
          have HB := Lib.hid (below_next HB.out hb8)
          clear hb8
          go_wp2_with fail
          refine (whole_any _ _ _ _ l s _ (HL.out.kept (Kept.of_below HB.out)) (HS.out.kept (Kept.of_below HB.out)) HFL.out (by omega)).mono ?_
          rintro e w10 hh10
          obtain ⟨A10, c10, rfl, hs10, hb10⟩ := hh10.ents (by rw [srt_len, whole_len]; omega)
          have HS10 := Lib.hid hs10
          have HB := Lib.hid (below_next HB.out hb10)
          clear hs10 hb10
          go_wp2_with fail
          refine (rwhole_any _ _ _ _ l s _ (HL.out.kept (Kept.of_below HB.out)) (HS.out.kept (Kept.of_below HB.out)) (by omega)).mono ?_
          rintro e w11 ⟨A11, c11, rfl, hs11, hb11⟩
          have HS11 := Lib.hid hs11
          have HS10 := Lib.hid (HS10.out.kept (Kept.of_below hb11))
          have HB := Lib.hid (below_next HB.out hb11)
          clear hs11 hb11
          generalize srt eLt (wholeS l s) = y at HS10 HS11 ⊢
          go_wp2_with fail
          refine (sameEnts_any _ _ _ _ y y _ HS10.out HS11.out).mono ?_
          rintro e w12 ⟨rfl, hb12⟩
          rw [show decide (y = y) = true from decide_eq_true rfl]
          have HB := Lib.hid (below_next HB.out hb12)
          clear hb12 HS10 HS11
          go_wp2_with fail
          refine (awake_any _).mono ?_
          rintro e w9 ⟨rfl, hb9⟩
          go_wp2
          go_ret
          exact ⟨rfl, below_next HB.out hb9⟩
end Go.Proofs.YtefjoigngnnbjaaDoor
