/- The contract of step's turn. -/
import Derived.Test.YtaicidbopgnmfaaGreatDoorDb
import Derived.Test.YtaicidbopgnmfaaGreatDoorEz
import Derived.BigQuiet
import Derived.Test.YtaicidbopgnmfaaGreatDoorMk
namespace Go.Proofs.YtaicidbopgnmfaaGreatDoor
set_option linter.unusedSimpArgs false
set_option linter.unusedVariables false
open Go.RowKit
attribute [local irreducible] wpQuiet
/-- entries and an error are returned -/
def RetEE (w : World) (r : List Ent × Int) (e : Ending) (w' : World) : Prop := ∃ B d, e = .returned (.tuple #[.slice B r.1.length d, .int .i64 r.2]) ∧ Ents w' B d r.1 ∧ Below w.heap.size w w'
theorem RetEE.none_ {w w' : World} {r : List Ent × Int} {k : Int} (h : r = ([], k)) (hb : Below w.heap.size w w') : RetEE w r (.returned (.tuple #[.slice none 0 0, .int .i64 k])) w' := by
  rw [h]
  exact ⟨none, 0, rfl, Slc.nil_ (Nat.zero_le _), hb⟩
theorem RetEE.some_ {w w' : World} {r : List Ent × Int} {l : List Ent} {v : Value} (h : r = (l, 0)) (ho : Own w' w.heap.size 45 11 (RKE (RZE w')) v l) (hl : l.length ≤ 1000) (hb : Below w.heap.size w w') : RetEE w r (.returned (.tuple #[v, .int .i64 0])) w' := by
  rw [h]
  obtain ⟨A, c, rfl, h3⟩ := ho.slc (z := 192) (by omega)
  exact ⟨A, c, rfl, Slc.mono h3 (Kept.refl _) fun cs x ⟨r, e1, e2⟩ => ⟨r, e1, e2.kept (Kept.flt TB _)⟩, hb⟩
theorem conf_rke {Z : Raw → Ent → Prop} (hZ : ∀ r x y, x.pkg = y.pkg → Z r x → Z r y) {x : Ent} {b : Bool} : ∀ cs, RKE Z cs x → RKE Z (cs.set 9 (.bool b)) { x with conf := b } := fun cs ⟨r, h, hz⟩ => by
  subst h
  exact ⟨r, rfl, hZ r x _ rfl hz⟩
theorem rze_same {w : World} : ∀ r (x y : Ent), x.pkg = y.pkg → RZE w r x → RZE w r y := fun r x y h hz => by
  unfold RZE at hz ⊢
  rwa [← h]
set_option maxRecDepth 100000 in
set_option maxHeartbeats 4000000 in
theorem turn_rm (s : List Ent) (A : Option Addr) (c : Nat) (nm vr : List UInt8) (k : Int) (hk : k = 2) (fr : List Pkg) (A' : Option Addr) (c' : Nat) (w : World) (hs : Ents w A c s) (hfs : ∀ x ∈ s, fewOE x.pkg) (hl : s.length ≤ 100) (hup : UpE s) :
    Calls Tryz.prog 57 #[.slice A s.length c, .agg #[.int .i64 k, .string (bs nm), .string (bs vr)], .slice A' fr.length c'] w (RetEE w (turnS s ⟨k, nm, vr⟩ fr)) := by
  have HS := Lib.hid hs
  have HFS := Lib.hid hfs
  have HUP := Lib.hid hup
  have hbd := hs.bd
  clear hs hfs hup
  subst hk
  rcases idx_casesE (nameE nm) s with ⟨hi, ha⟩ | ⟨j, x, hi, hx, ha, hnx, hfd⟩
  · have HFD := Lib.hid (show s.find? (nameE nm) = none from find_at ha)
    have HI := Lib.hid (show max 0 (idxS (nameE nm) s) = 0 by rw [hi]; rfl)
    have HA := Lib.hid ha
    clear hi ha
    go_enter Tryz.func57, Tryz.ntmps57
    go_wp2_with fail
    have HST0 := Lib.hid (blk_new1 w 24 #[.int .i64 (2), .string (bs nm), .string (bs vr)])
    have HB0 := Lib.hid (below_alloc (Below.refl w.heap.size w) (.cells #[.int .i64 (2), .string (bs nm), .string (bs vr)] 24))
    refine (sfind_any _ _ s nm _ (HS.out.kept (Kept.of_below HB0.out))).mono ?_
    rintro e w1 ⟨rfl, hb1⟩
    have HST1 := Lib.hid (HST0.out.next hb1)
    have HB1 := Lib.hid (below_next HB0.out hb1)
    clear hb1 HST0 HB0
    rw [HI.out, HA.out]
    go_wp2_with fail
    refine (sortedE_any _ _ s _ (HS.out.kept (Kept.of_below HB1.out)) HFS.out (by omega)).mono ?_
    rintro e w2 hh2
    have HH2 := Lib.hid (hh2.base HB1.out)
    obtain ⟨v2, hv2, ho2, hb2⟩ := HH2.out
    rw [HUP.out.srt] at ho2
    subst hv2
    have HO2 := Lib.hid ho2
    have HST2 := Lib.hid (by obtain ⟨_, _, _, hbb⟩ := hh2; exact HST1.out.next hbb)
    have HB2 := Lib.hid hb2
    have c0 := HST2.out.cell 0
    have c1 := HST2.out.cell 1
    have c2 := HST2.out.cell 2
    simp only [List.getElem?_toArray, List.getElem?_cons_zero, List.getElem?_cons_succ] at c0 c1 c2
    clear hh2 ho2 hb2 HH2 HST1 HB1
    go_wp2_with fail
    go_ret2
    exact RetEE.none_ (by unfold turnS; simp only [HFD.out]; rfl) HB2.out
  · have HFD := Lib.hid hfd
    have HI := Lib.hid (show max 0 (idxS (nameE nm) s) = (j : Int) by rw [hi]; omega)
    have HA := Lib.hid ha
    have HX := Lib.hid hx
    have HNX := Lib.hid (name_eq hnx)
    have hjl : j < s.length := (List.getElem?_eq_some_iff.1 hx).1
    clear hi ha hx hnx hfd
    go_enter Tryz.func57, Tryz.ntmps57
    go_wp2_with fail
    have HST0 := Lib.hid (blk_new1 w 24 #[.int .i64 (2), .string (bs nm), .string (bs vr)])
    have HB0 := Lib.hid (below_alloc (Below.refl w.heap.size w) (.cells #[.int .i64 (2), .string (bs nm), .string (bs vr)] 24))
    refine (sfind_any _ _ s nm _ (HS.out.kept (Kept.of_below HB0.out))).mono ?_
    rintro e w1 ⟨rfl, hb1⟩
    have HST1 := Lib.hid (HST0.out.next hb1)
    have HB1 := Lib.hid (below_next HB0.out hb1)
    clear hb1 HST0 HB0
    rw [HI.out, HA.out]
    go_wp2_with fail
    refine (sortedE_any _ _ s _ (HS.out.kept (Kept.of_below HB1.out)) HFS.out (by omega)).mono ?_
    rintro e w2 hh2
    have HH2 := Lib.hid (hh2.base HB1.out)
    obtain ⟨v2, hv2, ho2, hb2⟩ := HH2.out
    rw [HUP.out.srt] at ho2
    subst hv2
    have HO2 := Lib.hid ho2
    have HST2 := Lib.hid (by obtain ⟨_, _, _, hbb⟩ := hh2; exact HST1.out.next hbb)
    have HB2 := Lib.hid hb2
    have c0 := HST2.out.cell 0
    have c1 := HST2.out.cell 1
    have c2 := HST2.out.cell 2
    simp only [List.getElem?_toArray, List.getElem?_cons_zero, List.getElem?_cons_succ] at c0 c1 c2
    clear hh2 ho2 hb2 HH2 HST1 HB1
    obtain ⟨x', b, o, r, hx', hA2, hr', e0, e1, e2, e3, e4, e5, e6, e7, e8, e9, e10⟩ := HS.out.at_ hjl (Kept.of_below HB2.out)
    obtain rfl : x' = x := Option.some.inj (hx'.symm.trans HX.out)
    have hj0 : (0 : Int) ≤ (j : Int) := Int.natCast_nonneg _
    have hj1 : (j : Int) < (s.length : Int) := by omega
    have hjt : ((j : Int)).toNat = j := Int.toNat_natCast _
    clear hx' hr'
    subst hA2
    rcases hes : x'.pkg.ess
    · rw [hes] at e8
      have HES := Lib.hid hes
      obtain ⟨m, hm⟩ : ∃ m, s.length = m + 1 := ⟨s.length - 1, by omega⟩
      have HM := Lib.hid hm
      rcases own_form HO2.out with ⟨hv, hl0⟩ | ⟨g, cap, hv⟩
      · rw [hl0] at hjl; exact absurd hjl (Nat.not_lt_zero _)
      · subst hv
        have ho3 := HO2.out
        rw [hm] at ho3
        have HD := Lib.hid (sdel_any w.heap.size g cap m j (RZE w2) s w2 ho3 hm (by omega) (by omega))
        rw [← hm] at HD
        have HTB := Lib.hid ho3.rowBlk
        have HTG := Lib.hid (ho3.base (g := g) rfl).1
        clear ho3 hm hes
        go_wp2_with fail
        refine HD.out.mono ?_
        rintro e w3 ⟨rfl, ho4, hg4⟩
        obtain ⟨cs4, hcs4⟩ := HTB.out
        have HO4 := Lib.hid (ho4.mono (RKE.mono fun _ _ hz => hz.keep (keepB_only hcs4 (by decide) hg4)))
        have HB4 := Lib.hid (below_by HB2.out HTG.out HB2.out.size hg4)
        clear ho4 hg4 hcs4 HD
        go_wp2_with fail
        go_ret2
        exact RetEE.some_ (by unfold turnS; simp only [HFD.out, HES.out]; rw [HUP.out.others_at HX.out HNX.out]; rfl) HO4.out (by simp; omega) HB4.out
    · rw [hes] at e8
      have HES := Lib.hid hes
      clear hes
      go_wp2_with fail
      go_ret2
      exact RetEE.none_ (by unfold turnS; simp only [HFD.out, HES.out]; rfl) HB2.out
set_option maxRecDepth 100000 in
set_option maxHeartbeats 4000000 in
theorem turn_off (s : List Ent) (A : Option Addr) (c : Nat) (nm vr : List UInt8) (fr : List Pkg) (A' : Option Addr) (c' : Nat) (w : World) (hs : Ents w A c s) (hfs : ∀ x ∈ s, fewOE x.pkg) (hl : s.length ≤ 100) (hup : UpE s) :
    Calls Tryz.prog 57 #[.slice A s.length c, .agg #[.int .i64 (1), .string (bs nm), .string (bs vr)], .slice A' fr.length c'] w (RetEE w (turnS s ⟨1, nm, vr⟩ fr)) := by
  have HS := Lib.hid hs
  have HFS := Lib.hid hfs
  have HUP := Lib.hid hup
  have hbd := hs.bd
  clear hs hfs hup
  rcases idx_casesE (nameE nm) s with ⟨hi, ha⟩ | ⟨j, x, hi, hx, ha, hnx, hfd⟩
  · have HFD := Lib.hid (show s.find? (nameE nm) = none from find_at ha)
    have HI := Lib.hid (show max 0 (idxS (nameE nm) s) = 0 by rw [hi]; rfl)
    have HA := Lib.hid ha
    clear hi ha
    go_enter Tryz.func57, Tryz.ntmps57
    go_wp2_with fail
    have HST0 := Lib.hid (blk_new1 w 24 #[.int .i64 (1), .string (bs nm), .string (bs vr)])
    have HB0 := Lib.hid (below_alloc (Below.refl w.heap.size w) (.cells #[.int .i64 (1), .string (bs nm), .string (bs vr)] 24))
    refine (sfind_any _ _ s nm _ (HS.out.kept (Kept.of_below HB0.out))).mono ?_
    rintro e w1 ⟨rfl, hb1⟩
    have HST1 := Lib.hid (HST0.out.next hb1)
    have HB1 := Lib.hid (below_next HB0.out hb1)
    clear hb1 HST0 HB0
    rw [HI.out, HA.out]
    go_wp2_with fail
    refine (sortedE_any _ _ s _ (HS.out.kept (Kept.of_below HB1.out)) HFS.out (by omega)).mono ?_
    rintro e w2 hh2
    have HH2 := Lib.hid (hh2.base HB1.out)
    obtain ⟨v2, hv2, ho2, hb2⟩ := HH2.out
    rw [HUP.out.srt] at ho2
    subst hv2
    have HO2 := Lib.hid ho2
    have HST2 := Lib.hid (by obtain ⟨_, _, _, hbb⟩ := hh2; exact HST1.out.next hbb)
    have HB2 := Lib.hid hb2
    have c0 := HST2.out.cell 0
    have c1 := HST2.out.cell 1
    have c2 := HST2.out.cell 2
    simp only [List.getElem?_toArray, List.getElem?_cons_zero, List.getElem?_cons_succ] at c0 c1 c2
    clear hh2 ho2 hb2 HH2 HST1 HB1
    go_wp2_with fail
    go_ret2
    exact RetEE.none_ (by unfold turnS; simp only [HFD.out]; rfl) HB2.out
  · have HFD := Lib.hid hfd
    have HI := Lib.hid (show max 0 (idxS (nameE nm) s) = (j : Int) by rw [hi]; omega)
    have HA := Lib.hid ha
    have HX := Lib.hid hx
    have HNX := Lib.hid (name_eq hnx)
    have hjl : j < s.length := (List.getElem?_eq_some_iff.1 hx).1
    clear hi ha hx hnx hfd
    go_enter Tryz.func57, Tryz.ntmps57
    go_wp2_with fail
    have HST0 := Lib.hid (blk_new1 w 24 #[.int .i64 (1), .string (bs nm), .string (bs vr)])
    have HB0 := Lib.hid (below_alloc (Below.refl w.heap.size w) (.cells #[.int .i64 (1), .string (bs nm), .string (bs vr)] 24))
    refine (sfind_any _ _ s nm _ (HS.out.kept (Kept.of_below HB0.out))).mono ?_
    rintro e w1 ⟨rfl, hb1⟩
    have HST1 := Lib.hid (HST0.out.next hb1)
    have HB1 := Lib.hid (below_next HB0.out hb1)
    clear hb1 HST0 HB0
    rw [HI.out, HA.out]
    go_wp2_with fail
    refine (sortedE_any _ _ s _ (HS.out.kept (Kept.of_below HB1.out)) HFS.out (by omega)).mono ?_
    rintro e w2 hh2
    have HH2 := Lib.hid (hh2.base HB1.out)
    obtain ⟨v2, hv2, ho2, hb2⟩ := HH2.out
    rw [HUP.out.srt] at ho2
    subst hv2
    have HO2 := Lib.hid ho2
    have HST2 := Lib.hid (by obtain ⟨_, _, _, hbb⟩ := hh2; exact HST1.out.next hbb)
    have HB2 := Lib.hid hb2
    have c0 := HST2.out.cell 0
    have c1 := HST2.out.cell 1
    have c2 := HST2.out.cell 2
    simp only [List.getElem?_toArray, List.getElem?_cons_zero, List.getElem?_cons_succ] at c0 c1 c2
    clear hh2 ho2 hb2 HH2 HST1 HB1
    obtain ⟨x', b, o, r, hx', hA2, hr', e0, e1, e2, e3, e4, e5, e6, e7, e8, e9, e10⟩ := HS.out.at_ hjl (Kept.of_below HB2.out)
    obtain rfl : x' = x := Option.some.inj (hx'.symm.trans HX.out)
    have hj0 : (0 : Int) ≤ (j : Int) := Int.natCast_nonneg _
    have hj1 : (j : Int) < (s.length : Int) := by omega
    have hjt : ((j : Int)).toNat = j := Int.toNat_natCast _
    clear hx' hr'
    subst hA2
    rcases hes : x'.conf
    · rw [hes] at e9
      have HES := Lib.hid hes
      clear hes
      go_wp2_with fail
      go_ret2
      exact RetEE.none_ (by unfold turnS; simp only [HFD.out, HES.out]; rfl) HB2.out
    · rw [hes] at e9
      have HES := Lib.hid hes
      clear hes
      rcases own_form HO2.out with ⟨hv, hl0⟩ | ⟨g, cap, hv⟩
      · rw [hl0] at hjl; exact absurd hjl (Nat.not_lt_zero _)
      · subst hv
        have ho3 := HO2.out
        have hcell := ho3.atKE (i := j) hjl (by omega)
        obtain ⟨q, rq, hq, _, g0, g1, g2, g3, g4, g5, g6, g7, g8, g9, g10⟩ := hcell
        have fz := ho3.frz (j * 11 + 9)
        have gl := ho3.sizeLt
        obtain ⟨cs4, hcs4⟩ := ho3.rowBlk
        have hg4 : w2.grownBy (w2.setCell ⟨g, j * 11 + 9, none⟩ (.bool false)) (some g) := only_set (grown_refl w2 _) _ _
        have HO4 := Lib.hid ((ho3.set (i := j) (j := 9) (u := .bool false) HX.out (by omega) (conf_rke rze_same)).mono (RKE.mono fun _ _ hz => hz.keep (keepB_only hcs4 (by decide) hg4)))
        have HB4 := Lib.hid (below_by HB2.out (ho3.base (g := g) rfl).1 HB2.out.size hg4)
        clear ho3 hcs4 hg4 hq g0 g1 g2 g3 g4 g5 g6 g7 g8 g10
        go_wp2_with fail
        go_ret2
        exact RetEE.some_ (by unfold turnS; simp only [HFD.out, HES.out]; rw [HUP.out.conf_at HX.out HNX.out]; rfl) HO4.out (by rw [List.length_set]; omega) HB4.out
set_option maxRecDepth 100000 in
set_option maxHeartbeats 4000000 in
theorem turn_on (s : List Ent) (A : Option Addr) (c : Nat) (nm vr : List UInt8) (fr : List Pkg) (A' : Option Addr) (c' : Nat) (w : World) (hs : Ents w A c s) (hfs : ∀ x ∈ s, fewOE x.pkg) (hl : s.length ≤ 100) (hup : UpE s) :
    Calls Tryz.prog 57 #[.slice A s.length c, .agg #[.int .i64 (4), .string (bs nm), .string (bs vr)], .slice A' fr.length c'] w (RetEE w (turnS s ⟨4, nm, vr⟩ fr)) := by
  have HS := Lib.hid hs
  have HFS := Lib.hid hfs
  have HUP := Lib.hid hup
  have hbd := hs.bd
  clear hs hfs hup
  rcases idx_casesE (nameE nm) s with ⟨hi, ha⟩ | ⟨j, x, hi, hx, ha, hnx, hfd⟩
  · have HFD := Lib.hid (show s.find? (nameE nm) = none from find_at ha)
    have HI := Lib.hid (show max 0 (idxS (nameE nm) s) = 0 by rw [hi]; rfl)
    have HA := Lib.hid ha
    clear hi ha
    go_enter Tryz.func57, Tryz.ntmps57
    go_wp2_with fail
    have HST0 := Lib.hid (blk_new1 w 24 #[.int .i64 (4), .string (bs nm), .string (bs vr)])
    have HB0 := Lib.hid (below_alloc (Below.refl w.heap.size w) (.cells #[.int .i64 (4), .string (bs nm), .string (bs vr)] 24))
    refine (sfind_any _ _ s nm _ (HS.out.kept (Kept.of_below HB0.out))).mono ?_
    rintro e w1 ⟨rfl, hb1⟩
    have HST1 := Lib.hid (HST0.out.next hb1)
    have HB1 := Lib.hid (below_next HB0.out hb1)
    clear hb1 HST0 HB0
    rw [HI.out, HA.out]
    go_wp2_with fail
    refine (sortedE_any _ _ s _ (HS.out.kept (Kept.of_below HB1.out)) HFS.out (by omega)).mono ?_
    rintro e w2 hh2
    have HH2 := Lib.hid (hh2.base HB1.out)
    obtain ⟨v2, hv2, ho2, hb2⟩ := HH2.out
    rw [HUP.out.srt] at ho2
    subst hv2
    have HO2 := Lib.hid ho2
    have HST2 := Lib.hid (by obtain ⟨_, _, _, hbb⟩ := hh2; exact HST1.out.next hbb)
    have HB2 := Lib.hid hb2
    have c0 := HST2.out.cell 0
    have c1 := HST2.out.cell 1
    have c2 := HST2.out.cell 2
    simp only [List.getElem?_toArray, List.getElem?_cons_zero, List.getElem?_cons_succ] at c0 c1 c2
    clear hh2 ho2 hb2 HH2 HST1 HB1
    go_wp2_with fail
    go_ret2
    exact RetEE.none_ (by unfold turnS; simp only [HFD.out]; rfl) HB2.out
  · have HFD := Lib.hid hfd
    have HI := Lib.hid (show max 0 (idxS (nameE nm) s) = (j : Int) by rw [hi]; omega)
    have HA := Lib.hid ha
    have HX := Lib.hid hx
    have HNX := Lib.hid (name_eq hnx)
    have hjl : j < s.length := (List.getElem?_eq_some_iff.1 hx).1
    clear hi ha hx hnx hfd
    go_enter Tryz.func57, Tryz.ntmps57
    go_wp2_with fail
    have HST0 := Lib.hid (blk_new1 w 24 #[.int .i64 (4), .string (bs nm), .string (bs vr)])
    have HB0 := Lib.hid (below_alloc (Below.refl w.heap.size w) (.cells #[.int .i64 (4), .string (bs nm), .string (bs vr)] 24))
    refine (sfind_any _ _ s nm _ (HS.out.kept (Kept.of_below HB0.out))).mono ?_
    rintro e w1 ⟨rfl, hb1⟩
    have HST1 := Lib.hid (HST0.out.next hb1)
    have HB1 := Lib.hid (below_next HB0.out hb1)
    clear hb1 HST0 HB0
    rw [HI.out, HA.out]
    go_wp2_with fail
    refine (sortedE_any _ _ s _ (HS.out.kept (Kept.of_below HB1.out)) HFS.out (by omega)).mono ?_
    rintro e w2 hh2
    have HH2 := Lib.hid (hh2.base HB1.out)
    obtain ⟨v2, hv2, ho2, hb2⟩ := HH2.out
    rw [HUP.out.srt] at ho2
    subst hv2
    have HO2 := Lib.hid ho2
    have HST2 := Lib.hid (by obtain ⟨_, _, _, hbb⟩ := hh2; exact HST1.out.next hbb)
    have HB2 := Lib.hid hb2
    have c0 := HST2.out.cell 0
    have c1 := HST2.out.cell 1
    have c2 := HST2.out.cell 2
    simp only [List.getElem?_toArray, List.getElem?_cons_zero, List.getElem?_cons_succ] at c0 c1 c2
    clear hh2 ho2 hb2 HH2 HST1 HB1
    obtain ⟨x', b, o, r, hx', hA2, hr', e0, e1, e2, e3, e4, e5, e6, e7, e8, e9, e10⟩ := HS.out.at_ hjl (Kept.of_below HB2.out)
    obtain rfl : x' = x := Option.some.inj (hx'.symm.trans HX.out)
    have hj0 : (0 : Int) ≤ (j : Int) := Int.natCast_nonneg _
    have hj1 : (j : Int) < (s.length : Int) := by omega
    have hjt : ((j : Int)).toNat = j := Int.toNat_natCast _
    clear hx' hr'
    subst hA2
    rcases hes : x'.conf
    · rw [hes] at e9
      have HES := Lib.hid hes
      clear hes
      rcases own_form HO2.out with ⟨hv, hl0⟩ | ⟨g, cap, hv⟩
      · rw [hl0] at hjl; exact absurd hjl (Nat.not_lt_zero _)
      · subst hv
        have ho3 := HO2.out
        have hcell := ho3.atKE (i := j) hjl (by omega)
        obtain ⟨q, rq, hq, _, g0, g1, g2, g3, g4, g5, g6, g7, g8, g9, g10⟩ := hcell
        have fz := ho3.frz (j * 11 + 9)
        have gl := ho3.sizeLt
        obtain ⟨cs4, hcs4⟩ := ho3.rowBlk
        have hg4 : w2.grownBy (w2.setCell ⟨g, j * 11 + 9, none⟩ (.bool true)) (some g) := only_set (grown_refl w2 _) _ _
        have HO4 := Lib.hid ((ho3.set (i := j) (j := 9) (u := .bool true) HX.out (by omega) (conf_rke rze_same)).mono (RKE.mono fun _ _ hz => hz.keep (keepB_only hcs4 (by decide) hg4)))
        have HB4 := Lib.hid (below_by HB2.out (ho3.base (g := g) rfl).1 HB2.out.size hg4)
        clear ho3 hcs4 hg4 hq g0 g1 g2 g3 g4 g5 g6 g7 g8 g10
        go_wp2_with fail
        go_ret2
        exact RetEE.some_ (by unfold turnS; simp only [HFD.out, HES.out]; rw [HUP.out.conf_at HX.out HNX.out]; rfl) HO4.out (by rw [List.length_set]; omega) HB4.out
    · rw [hes] at e9
      have HES := Lib.hid hes
      clear hes
      go_wp2_with fail
      go_ret2
      exact RetEE.none_ (by unfold turnS; simp only [HFD.out, HES.out]; rfl) HB2.out
set_option maxRecDepth 100000 in
set_option maxHeartbeats 4000000 in
theorem turn_unp (s : List Ent) (A : Option Addr) (c : Nat) (nm vr : List UInt8) (fr : List Pkg) (A' : Option Addr) (c' : Nat) (w : World) (hs : Ents w A c s) (hf : Pkgs w A' c' fr) (hfs : ∀ x ∈ s, fewOE x.pkg) (hff : ∀ p ∈ fr, fewOE p) (hl : s.length ≤ 100) (hup : UpE s) :
    Calls Tryz.prog 57 #[.slice A s.length c, .agg #[.int .i64 3, .string (bs nm), .string (bs vr)], .slice A' fr.length c'] w (RetEE w (turnS s ⟨3, nm, vr⟩ fr)) := by
  have HS := Lib.hid hs
  have HFR := Lib.hid hf
  have HFS := Lib.hid hfs
  have HFF := Lib.hid hff
  have HUP := Lib.hid hup
  have hbd := hs.bd
  clear hs hfs hup hf hff
  rcases hfn : fr.find? (fndP nm vr) with _ | p
  · have HFN := Lib.hid hfn
    obtain ⟨mi, hmi⟩ : ∃ mi, mi = max 0 (idxS (nameE nm) s) := ⟨_, rfl⟩
    obtain ⟨ba, hba⟩ : ∃ ba, ba = s.any (nameE nm) := ⟨_, rfl⟩
    have HI := Lib.hid hmi.symm
    have HA := Lib.hid hba.symm
    clear hfn hmi hba
    go_enter Tryz.func57, Tryz.ntmps57
    go_wp2_with fail
    have HST0 := Lib.hid (blk_new1 w 24 #[.int .i64 (3), .string (bs nm), .string (bs vr)])
    have HB0 := Lib.hid (below_alloc (Below.refl w.heap.size w) (.cells #[.int .i64 (3), .string (bs nm), .string (bs vr)] 24))
    refine (sfind_any _ _ s nm _ (HS.out.kept (Kept.of_below HB0.out))).mono ?_
    rintro e w1 ⟨rfl, hb1⟩
    have HST1 := Lib.hid (HST0.out.next hb1)
    have HB1 := Lib.hid (below_next HB0.out hb1)
    clear hb1 HST0 HB0
    rw [HI.out, HA.out]
    go_wp2_with fail
    refine (sortedE_any _ _ s _ (HS.out.kept (Kept.of_below HB1.out)) HFS.out (by omega)).mono ?_
    rintro e w2 hh2
    have HH2 := Lib.hid (hh2.base HB1.out)
    obtain ⟨v2, hv2, ho2, hb2⟩ := HH2.out
    rw [HUP.out.srt] at ho2
    subst hv2
    have HO2 := Lib.hid ho2
    have HST2 := Lib.hid (by obtain ⟨_, _, _, hbb⟩ := hh2; exact HST1.out.next hbb)
    have HB2 := Lib.hid hb2
    have c0 := HST2.out.cell 0
    have c1 := HST2.out.cell 1
    have c2 := HST2.out.cell 2
    simp only [List.getElem?_toArray, List.getElem?_cons_zero, List.getElem?_cons_succ] at c0 c1 c2
    clear hh2 ho2 hb2 HH2 HST1 HB1
    go_wp2_with fail
    have HQ := Lib.hid (pfind_any A' c' fr nm vr w2 (HFR.out.kept (Kept.of_below HB2.out)))
    rw [HFN.out] at HQ
    refine HQ.out.mono ?_
    rintro e w3 ⟨rfl, hb3⟩
    have HB3 := Lib.hid (below_next HB2.out hb3)
    clear hb3 HQ
    go_wp2_with fail
    go_ret2
    exact RetEE.none_ (by unfold turnS; simp only [HFN.out]; rfl) (below_alloc HB3.out _)
  · have HFN := Lib.hid hfn
    have HFP := Lib.hid (HFF.out p (List.mem_of_find?_eq_some hfn))
    have hpn : p.name = nm := by
      have := List.find?_some hfn
      simp [fndP] at this
      exact this.1
    have HPN := Lib.hid hpn
    clear hfn hpn
    rcases idx_casesE (nameE nm) s with ⟨hi, ha⟩ | ⟨j, x, hi, hx, ha, hnx, hfd⟩
    · have HTT := Lib.hid (show turnS s ⟨3, nm, vr⟩ fr = (unpS s p, 0) by unfold turnS; simp only [HFN.out, find_at ha]; rfl)
      have HI := Lib.hid (show max 0 (idxS (nameE nm) s) = 0 by rw [hi]; rfl)
      have HA := Lib.hid ha
      clear hi ha
      go_enter Tryz.func57, Tryz.ntmps57
      go_wp2_with fail
      have HST0 := Lib.hid (blk_new1 w 24 #[.int .i64 (3), .string (bs nm), .string (bs vr)])
      have HB0 := Lib.hid (below_alloc (Below.refl w.heap.size w) (.cells #[.int .i64 (3), .string (bs nm), .string (bs vr)] 24))
      refine (sfind_any _ _ s nm _ (HS.out.kept (Kept.of_below HB0.out))).mono ?_
      rintro e w1 ⟨rfl, hb1⟩
      have HST1 := Lib.hid (HST0.out.next hb1)
      have HB1 := Lib.hid (below_next HB0.out hb1)
      clear hb1 HST0 HB0
      rw [HI.out, HA.out]
      go_wp2_with fail
      refine (sortedE_any _ _ s _ (HS.out.kept (Kept.of_below HB1.out)) HFS.out (by omega)).mono ?_
      rintro e w2 hh2
      have HH2 := Lib.hid (hh2.base HB1.out)
      obtain ⟨v2, hv2, ho2, hb2⟩ := HH2.out
      rw [HUP.out.srt] at ho2
      subst hv2
      have HO2 := Lib.hid ho2
      have HST2 := Lib.hid (by obtain ⟨_, _, _, hbb⟩ := hh2; exact HST1.out.next hbb)
      have HB2 := Lib.hid hb2
      have c0 := HST2.out.cell 0
      have c1 := HST2.out.cell 1
      have c2 := HST2.out.cell 2
      simp only [List.getElem?_toArray, List.getElem?_cons_zero, List.getElem?_cons_succ] at c0 c1 c2
      clear hh2 ho2 hb2 HH2 HST1 HB1
      go_wp2_with fail
      have HQ := Lib.hid (pfind_any A' c' fr nm vr w2 (HFR.out.kept (Kept.of_below HB2.out)))
      rw [HFN.out] at HQ
      refine HQ.out.mono ?_
      rintro e w3 ⟨⟨rp, hrp, rfl⟩, hb3⟩
      have HRP := Lib.hid hrp
      have HBX := Lib.hid hb3
      have HB3 := Lib.hid (below_next HB2.out hb3)
      have HST3 := Lib.hid (HST2.out.next hb3)
      clear hb3 hrp HQ
      go_wp2_with fail
      have HPB3 := Lib.hid (blk_new1 w3 43 #[.string (bs (p).name), .string (bs (p).ver), .slice (rp).a1 (p).pre.length (rp).c1, .slice (rp).a2 (p).dep.length (rp).c2, .slice (rp).a3 (p).rcm.length (rp).c3, .slice (rp).a4 (p).con.length (rp).c4, .slice (rp).a5 (p).brk.length (rp).c5, .slice (rp).a6 (p).prv.length (rp).c6, .bool (p).ess])
      have HBP3 := Lib.hid (below_alloc HB3.out (.cells #[.string (bs (p).name), .string (bs (p).ver), .slice (rp).a1 (p).pre.length (rp).c1, .slice (rp).a2 (p).dep.length (rp).c2, .slice (rp).a3 (p).rcm.length (rp).c3, .slice (rp).a4 (p).con.length (rp).c4, .slice (rp).a5 (p).brk.length (rp).c5, .slice (rp).a6 (p).prv.length (rp).c6, .bool (p).ess] 43))
      have HKP3 := Lib.hid (Kept.trans (Kept.of_below HBX.out) (Kept.alloc w3 (.cells #[.string (bs (p).name), .string (bs (p).ver), .slice (rp).a1 (p).pre.length (rp).c1, .slice (rp).a2 (p).dep.length (rp).c2, .slice (rp).a3 (p).rcm.length (rp).c3, .slice (rp).a4 (p).con.length (rp).c4, .slice (rp).a5 (p).brk.length (rp).c5, .slice (rp).a6 (p).prv.length (rp).c6, .bool (p).ess] 43)))
      go_quiet (fail)
      generalize hW : World.drewN _ _ = W
      have HPB := Lib.hid (show Blk W w3.heap.size 43 #[.string (bs (p).name), .string (bs (p).ver), .slice (rp).a1 (p).pre.length (rp).c1, .slice (rp).a2 (p).dep.length (rp).c2, .slice (rp).a3 (p).rcm.length (rp).c3, .slice (rp).a4 (p).con.length (rp).c4, .slice (rp).a5 (p).brk.length (rp).c5, .slice (rp).a6 (p).prv.length (rp).c6, .bool (p).ess] from hW ▸ HPB3.out.drewN _)
      have HBP := Lib.hid (show Below w.heap.size w W from hW ▸ below_drewN HBP3.out _)
      have HKP := Lib.hid (show Kept w2 W from hW ▸ HKP3.out.trans (Kept.drewN _ _))
      clear hW HPB3 HBP3 HKP3
      obtain ⟨k0, k1, k2, k3, k4, k5, k6, k7, k8⟩ := blk9 HPB.out
      go_wp2_with fail
      have HUN := Lib.hid (unpacked_any s _ c p rp W (HS.out.kept (Kept.of_below HBP.out)) (HRP.out.kept HKP.out) HFS.out HFP.out hl HUP.out)
      refine HUN.out.mono ?_
      rintro e w7 hh7
      have HH7 := Lib.hid (hh7.base HBP.out)
      obtain ⟨v7, hv7, ho7, hb7⟩ := HH7.out
      subst hv7
      clear hh7
      go_wp2_with fail
      go_ret2
      exact RetEE.some_ HTT.out ho7 (by rw [unp_len]; have := others_len p.name s; omega) hb7
    · have HFD := Lib.hid hfd
      have HI := Lib.hid (show max 0 (idxS (nameE nm) s) = (j : Int) by rw [hi]; omega)
      have HA := Lib.hid ha
      have HX := Lib.hid hx
      have hjl : j < s.length := (List.getElem?_eq_some_iff.1 hx).1
      clear hi ha hx hnx hfd
      go_enter Tryz.func57, Tryz.ntmps57
      go_wp2_with fail
      have HST0 := Lib.hid (blk_new1 w 24 #[.int .i64 (3), .string (bs nm), .string (bs vr)])
      have HB0 := Lib.hid (below_alloc (Below.refl w.heap.size w) (.cells #[.int .i64 (3), .string (bs nm), .string (bs vr)] 24))
      refine (sfind_any _ _ s nm _ (HS.out.kept (Kept.of_below HB0.out))).mono ?_
      rintro e w1 ⟨rfl, hb1⟩
      have HST1 := Lib.hid (HST0.out.next hb1)
      have HB1 := Lib.hid (below_next HB0.out hb1)
      clear hb1 HST0 HB0
      rw [HI.out, HA.out]
      go_wp2_with fail
      refine (sortedE_any _ _ s _ (HS.out.kept (Kept.of_below HB1.out)) HFS.out (by omega)).mono ?_
      rintro e w2 hh2
      have HH2 := Lib.hid (hh2.base HB1.out)
      obtain ⟨v2, hv2, ho2, hb2⟩ := HH2.out
      rw [HUP.out.srt] at ho2
      subst hv2
      have HO2 := Lib.hid ho2
      have HST2 := Lib.hid (by obtain ⟨_, _, _, hbb⟩ := hh2; exact HST1.out.next hbb)
      have HB2 := Lib.hid hb2
      have c0 := HST2.out.cell 0
      have c1 := HST2.out.cell 1
      have c2 := HST2.out.cell 2
      simp only [List.getElem?_toArray, List.getElem?_cons_zero, List.getElem?_cons_succ] at c0 c1 c2
      clear hh2 ho2 hb2 HH2 HST1 HB1
      go_wp2_with fail
      have HQ := Lib.hid (pfind_any A' c' fr nm vr w2 (HFR.out.kept (Kept.of_below HB2.out)))
      rw [HFN.out] at HQ
      refine HQ.out.mono ?_
      rintro e w3 ⟨⟨rp, hrp, rfl⟩, hb3⟩
      have HRP := Lib.hid hrp
      have HBX := Lib.hid hb3
      have HB3 := Lib.hid (below_next HB2.out hb3)
      have HST3 := Lib.hid (HST2.out.next hb3)
      clear hb3 hrp HQ
      have HPB3 := Lib.hid (blk_new1 w3 43 #[.string (bs (p).name), .string (bs (p).ver), .slice (rp).a1 (p).pre.length (rp).c1, .slice (rp).a2 (p).dep.length (rp).c2, .slice (rp).a3 (p).rcm.length (rp).c3, .slice (rp).a4 (p).con.length (rp).c4, .slice (rp).a5 (p).brk.length (rp).c5, .slice (rp).a6 (p).prv.length (rp).c6, .bool (p).ess])
      have HBP3 := Lib.hid (below_alloc HB3.out (.cells #[.string (bs (p).name), .string (bs (p).ver), .slice (rp).a1 (p).pre.length (rp).c1, .slice (rp).a2 (p).dep.length (rp).c2, .slice (rp).a3 (p).rcm.length (rp).c3, .slice (rp).a4 (p).con.length (rp).c4, .slice (rp).a5 (p).brk.length (rp).c5, .slice (rp).a6 (p).prv.length (rp).c6, .bool (p).ess] 43))
      have HKP3 := Lib.hid (Kept.trans (Kept.of_below HBX.out) (Kept.alloc w3 (.cells #[.string (bs (p).name), .string (bs (p).ver), .slice (rp).a1 (p).pre.length (rp).c1, .slice (rp).a2 (p).dep.length (rp).c2, .slice (rp).a3 (p).rcm.length (rp).c3, .slice (rp).a4 (p).con.length (rp).c4, .slice (rp).a5 (p).brk.length (rp).c5, .slice (rp).a6 (p).prv.length (rp).c6, .bool (p).ess] 43)))
      obtain ⟨x', b, o, r, hx', hA2, hr', e0, e1, e2, e3, e4, e5, e6, e7, e8, e9, e10⟩ := HS.out.at_ hjl (Kept.of_below HBP3.out)
      obtain rfl : x' = x := Option.some.inj (hx'.symm.trans HX.out)
      have hj0 : (0 : Int) ≤ (j : Int) := Int.natCast_nonneg _
      have hj1 : (j : Int) < (s.length : Int) := by omega
      have hjt : ((j : Int)).toNat = j := Int.toNat_natCast _
      clear hx' hr' e0 e2 e3 e4 e5 e6 e7 e8 e9 e10
      subst hA2
      obtain ⟨d0, d1, d2, d3, d4, d5, d6, d7, d8⟩ := blk9 HPB3.out
      have E1 := fun q : Be (w3.alloc (.cells #[.string (bs (p).name), .string (bs (p).ver), .slice (rp).a1 (p).pre.length (rp).c1, .slice (rp).a2 (p).dep.length (rp).c2, .slice (rp).a3 (p).rcm.length (rp).c3, .slice (rp).a4 (p).con.length (rp).c4, .slice (rp).a5 (p).brk.length (rp).c5, .slice (rp).a6 (p).prv.length (rp).c6, .bool (p).ess] 43)) => Be.cell e1 q
      have D1 := fun q : Be (w3.alloc (.cells #[.string (bs (p).name), .string (bs (p).ver), .slice (rp).a1 (p).pre.length (rp).c1, .slice (rp).a2 (p).dep.length (rp).c2, .slice (rp).a3 (p).rcm.length (rp).c3, .slice (rp).a4 (p).con.length (rp).c4, .slice (rp).a5 (p).brk.length (rp).c5, .slice (rp).a6 (p).prv.length (rp).c6, .bool (p).ess] 43)) => Be.cell d1 q
      clear d0 d1 d2 d3 d4 d5 d6 d7 d8
      rcases hsv : sameV x'.pkg.ver p.ver
      · have HSV := Lib.hid hsv
        have HTT := Lib.hid (show turnS s ⟨3, nm, vr⟩ fr = (unpS s p, 0) by unfold turnS; simp only [HFN.out, HFD.out, hsv]; rfl)
        clear hsv
        go_wp2_with fail
        refine region_be (by kernel_rfl) (by kernel_rfl) ?_
        repeat (quiet_step (first | (go_at_call 100; with_reducible exact Calls.be_of ((Same_any _ _ _).mono fun _ _ h => ⟨h.1.trans (congrArg (fun b => Ending.returned (Value.bool b)) HSV.out), h.2⟩))))
        refine wpQuiet_nil ?_
        intro _ hw'
        obtain ⟨pb, hw''⟩ := hw'
        subst hw''
        obtain ⟨W2, hbw⟩ := pb
        dsimp only
        have HPB := Lib.hid (HPB3.out.next hbw)
        have HKP := Lib.hid (HKP3.out.trans (Kept.of_below hbw))
        have HBP := Lib.hid (below_next HBP3.out hbw)
        clear hbw
        obtain ⟨k0, k1, k2, k3, k4, k5, k6, k7, k8⟩ := blk9 HPB.out
        go_wp2_with fail
        have HUN := Lib.hid (unpacked_any s _ c p rp W2 (HS.out.kept (Kept.of_below HBP.out)) (HRP.out.kept HKP.out) HFS.out HFP.out hl HUP.out)
        refine HUN.out.mono ?_
        rintro e w7 hh7
        have HH7 := Lib.hid (hh7.base HBP.out)
        obtain ⟨v7, hv7, ho7, hb7⟩ := HH7.out
        subst hv7
        clear hh7
        go_wp2_with fail
        go_ret2
        exact RetEE.some_ HTT.out ho7 (by rw [unp_len]; have := others_len p.name s; omega) hb7
      · have HSV := Lib.hid hsv
        have HTT := Lib.hid (show turnS s ⟨3, nm, vr⟩ fr = ([], 13) by unfold turnS; simp only [HFN.out, HFD.out, hsv]; rfl)
        clear hsv
        go_wp2_with fail
        refine region_be (by kernel_rfl) (by kernel_rfl) ?_
        repeat (quiet_step (first | (go_at_call 100; with_reducible exact Calls.be_of ((Same_any _ _ _).mono fun _ _ h => ⟨h.1.trans (congrArg (fun b => Ending.returned (Value.bool b)) HSV.out), h.2⟩))))
        refine wpQuiet_nil ?_
        intro _ hw'
        obtain ⟨pb, hw''⟩ := hw'
        subst hw''
        obtain ⟨W2, hbw⟩ := pb
        dsimp only
        have HBP := Lib.hid (below_next HBP3.out hbw)
        clear hbw
        go_wp2_with fail
        go_ret2
        exact RetEE.none_ HTT.out HBP.out
end Go.Proofs.YtaicidbopgnmfaaGreatDoor
