/- The contract of the reference's do: deconfigure and configure. The contract of the reference's do: remove. The contract of the reference's do: unpack. The contracts of the reference's do and Do. -/
import Derived.Test.YtaicidbopgnmfaaGreatDoorDoF
import Derived.Test.YtaicidbopgnmfaaGreatDoorMl
import Derived.Test.YtaicidbopgnmfaaGreatDoorStL
import Derived.Test.YtaicidbopgnmfaaGreatDoorStm
import Derived.Test.YtaicidbopgnmfaaGreatDoorMk
import Derived.Deep.RegionHeld3
namespace Go.Proofs.YtaicidbopgnmfaaGreatDoor
set_option linter.unusedSimpArgs false
set_option linter.unusedVariables false
open Go.RowKit
attribute [local irreducible] wpQuiet
theorem ent_oneR {w : World} : ∀ cs y, REnt w cs y → ∀ u ∈ cs, u.oneCell' = true := fun cs y ⟨r, h, _⟩ u hu => by
  subst h
  exact encE_one r y u hu
theorem conf_ren {w : World} {x : Ent} {b : Bool} : ∀ cs, REnt w cs x → REnt w (cs.set 9 (.bool b)) { x with conf := b } := fun cs ⟨r, h, hz⟩ => by
  subst h
  exact ⟨r, rfl, hz⟩
set_option maxRecDepth 100000 in
set_option maxHeartbeats 4000000 in
theorem rdo_off (s : List Ent) (A : Option Addr) (c : Nat) (nm : List UInt8) (fr : List Pkg) (A' : Option Addr) (c' : Nat) (w : World) (hs : Ents w A c s) (hx : ∀ x ∈ s, fewD x.pkg) (hl : s.length ≤ 10) (hup : UpE s) :
    Calls Tryz.prog 60 #[.slice A s.length c, .agg #[.int .i64 (1), .string (bs nm), .string (bs [])], .slice A' fr.length c'] w (RetEE w (doneS s (turnS s ⟨1, nm, []⟩ fr))) := by
  have HS := Lib.hid hs
  have HX := Lib.hid hx
  have HUP := Lib.hid hup
  have hbd := hs.bd
  clear hs hx hup
  rcases idx_casesE (nameE nm) s with ⟨hi, ha⟩ | ⟨j, x, hi, hx, ha, hnx, hfd⟩
  · have HTT := Lib.hid (show turnS s ⟨1, nm, []⟩ fr = ([], 8) by unfold turnS; simp only [find_at ha]; rfl)
    have HI := Lib.hid hi
    clear hi ha
    go_enter Tryz.func60, Tryz.ntmps60
    have HST0 := Lib.hid (blk_new1 w 24 #[.int .i64 (1), .string (bs nm), .string (bs ([]))])
    have HB0 := Lib.hid (below_alloc (Below.refl w.heap.size w) (.cells #[.int .i64 (1), .string (bs nm), .string (bs ([]))] 24))
    go_wp2_with fail
    refine (rfind_any _ _ s nm _ (HS.out.kept (Kept.of_below HB0.out))).mono ?_
    rintro e w1 ⟨rfl, hb1⟩
    have HST1 := Lib.hid (HST0.out.next hb1)
    have HB1 := Lib.hid (below_next HB0.out hb1)
    clear hb1 HST0 HB0
    rw [HI.out]
    have c0 := HST1.out.cell 0
    have c1 := HST1.out.cell 1
    have c2 := HST1.out.cell 2
    simp only [List.getElem?_toArray, List.getElem?_cons_zero, List.getElem?_cons_succ] at c0 c1 c2
    go_wp2_with fail
    go_ret2
    exact RetEE.none_ (by rw [HTT.out]; rfl) HB1.out
  · have HFD := Lib.hid hfd
    have HI := Lib.hid hi
    have HXJ := Lib.hid hx
    have HNX := Lib.hid (name_eq hnx)
    have hjl : j < s.length := (List.getElem?_eq_some_iff.1 hx).1
    have hj0 : (0 : Int) ≤ (j : Int) := Int.natCast_nonneg _
    have hj1 : (j : Int) < (s.length : Int) := by omega
    have hjt : ((j : Int)).toNat = j := Int.toNat_natCast _
    have hjd : decide ((j : Int) < 0) = false := decide_eq_false (by omega)
    clear hi ha hx hnx hfd
    go_enter Tryz.func60, Tryz.ntmps60
    have HST0 := Lib.hid (blk_new1 w 24 #[.int .i64 (1), .string (bs nm), .string (bs ([]))])
    have HB0 := Lib.hid (below_alloc (Below.refl w.heap.size w) (.cells #[.int .i64 (1), .string (bs nm), .string (bs ([]))] 24))
    go_wp2_with fail
    refine (rfind_any _ _ s nm _ (HS.out.kept (Kept.of_below HB0.out))).mono ?_
    rintro e w1 ⟨rfl, hb1⟩
    have HST1 := Lib.hid (HST0.out.next hb1)
    have HB1 := Lib.hid (below_next HB0.out hb1)
    clear hb1 HST0 HB0
    rw [HI.out]
    have c0 := HST1.out.cell 0
    have c1 := HST1.out.cell 1
    have c2 := HST1.out.cell 2
    simp only [List.getElem?_toArray, List.getElem?_cons_zero, List.getElem?_cons_succ] at c0 c1 c2
    have HSTc := Lib.hid HST1.out
    go_wp2_with (at_builtin; refine wpList_append_all (by rfl) _ _ 22 (by rfl) w.heap.size 45 _ 11 192 192 Tryz.underlying22 infEnS rfl (by omega) (REnt w) (.slice none 0 0) [] (by rfl) (Own.nil_ _ _ _ _ _) _ c s (by rfl) (Slc.mono HS.out (Kept.of_below HB1.out) fun _ _ h => h) ent_oneR (by simp; omega) (by omega) HB1.out.size ?_; intro v3 w3 ho3 hg3; have hb3 := (Own.nil_ w1 w.heap.size 45 11 (REnt w)).below HB1.out HB1.out.size hg3; rw [List.nil_append] at ho3; have HO3 := Lib.hid ho3; have HB3 := Lib.hid hb3; have hst3 := HSTc.out.grown hg3 (by simp [Value.ownBlock]); have k0 := hst3.cell 0; have k1 := hst3.cell 1; have k2 := hst3.cell 2; simp only [List.getElem?_toArray, List.getElem?_cons_zero, List.getElem?_cons_succ] at k0 k1 k2; have HST3 := Lib.hid hst3; obtain ⟨x3, b3, o3, r3, hx3, hA3, hr3, e0, e1, e2, e3, e4, e5, e6, e7, e8, e9, e10⟩ := HS.out.at_ hjl (Kept.of_below HB3.out); have hx4 : x3 = x := Option.some.inj (hx3.symm.trans HXJ.out); subst hx4; obtain ⟨g3, cap3, hv3, hgB3⟩ := HO3.out.form (by omega); subst hv3; subst hA3; (skip); clear ho3 hb3 hg3 hst3 hx3 hr3)
    go_quiet (fail)
    have hfz := HO3.out.frz (j * 11 + 9)
    have hgl := HO3.out.sizeLt
    obtain ⟨csx, hcsx, hlx, hrx⟩ := HO3.out.elem HXJ.out (by omega)
    have hc9 := hrx 9 _ (List.getElem?_eq_getElem (by omega : 9 < csx.length))
    rcases hcf : x3.conf
    · rw [hcf] at e9
      have HTT := Lib.hid (show turnS s ⟨1, nm, []⟩ fr = ([], 13) by unfold turnS; simp only [HFD.out, hcf]; rfl)
      clear hcf
      go_wp2_with fail
      go_ret2
      exact RetEE.none_ (by rw [HTT.out]; rfl) (below_drewN HB3.out _)
    · rw [hcf] at e9
      have HTT := Lib.hid (show turnS s ⟨1, nm, []⟩ fr = (confS s nm false, 0) by unfold turnS; simp only [HFD.out, hcf]; rfl)
      clear hcf
      obtain ⟨t, ht⟩ : ∃ t, t = confS s nm false := ⟨_, rfl⟩
      have htl : t.length = s.length := by rw [ht, conf_len]
      have HTL := Lib.hid htl
      have HT10 := Lib.hid (show t.length ≤ 10 by omega)
      have hset : s.set j { x3 with conf := false } = t := by rw [ht, HUP.out.conf_at HXJ.out HNX.out]
      have HO4 := (HO3.out.drewN nq).set (j := 9) (u := .bool false) HXJ.out (by omega) conf_ren
      rw [hset] at HO4
      have HB4 := Lib.hid ((below_drewN HB3.out nq).setCell (p := ⟨g3, j * 11 + 9, none⟩) hgB3 (.bool false))
      have HFT := Lib.hid (fewD.e (l := t) (by omega) (fun y hy => by
        rw [← hset] at hy
        rcases List.mem_or_eq_of_mem_set hy with h | rfl
        · exact HX.out y h
        · exact HX.out x3 (List.mem_of_getElem? HXJ.out)))
      rw [← ht] at HTT
      obtain ⟨A4, c4, hv4, he4, _⟩ := Ents.of_own HO4 HB4.out (by omega)
      rw [htl] at hv4
      injection hv4 with hv5 _ hv6
      subst hv5 hv6
      have HE4 := Lib.hid he4
      clear he4 HO4 hset ht htl
      go_wp2_with fail
      generalize World.setCell (w3.drewN nq) _ _ = W4 at HB4 HE4 ⊢
      have HQ := Lib.hid (rwrong_any _ _ t W4 HE4.out HFT.out)
      (try rw [HTL.out] at HQ)
      refine HQ.out.mono ?_
      rintro e w5 ⟨A5, c5, rfl, hv5, hb5⟩
      have HV5 := Lib.hid hv5
      have HB5 := Lib.hid (below_next HB4.out hb5)
      have HE5 := Lib.hid (HE4.out.kept (Kept.of_below hb5))
      clear hv5 hb5 HQ
      go_wp2_with fail
      have HQ := Lib.hid (rwrong_any _ _ s w5 (HS.out.kept (Kept.of_below HB5.out)) (fewD.e (by omega) HX.out))
      refine HQ.out.mono ?_
      rintro e w6 ⟨A6, c6, rfl, hv6, hb6⟩
      have HV6 := Lib.hid hv6
      have HV5 := Lib.hid (HV5.out.kept (Kept.of_below hb6))
      have HB6 := Lib.hid (below_next HB5.out hb6)
      have HE6 := Lib.hid (HE5.out.kept (Kept.of_below hb6))
      clear hv6 hb6 HQ
      obtain ⟨V5, hV5⟩ : ∃ V, V = wrongS t := ⟨_, rfl⟩
      obtain ⟨V6, hV6⟩ : ∃ V, V = wrongS s := ⟨_, rfl⟩
      rw [← hV5] at HV5 ⊢
      rw [← hV6] at HV6 ⊢
      have HVE5 := Lib.hid hV5
      have HVE6 := Lib.hid hV6
      clear hV5 hV6
      go_wp2_with fail
      have HQ := Lib.hid (rwithin_any A5 A6 c5 c6 V5 V6 w6 HV5.out HV6.out)
      refine HQ.out.mono ?_
      rintro e w7 ⟨rfl, hb7⟩
      have HB7 := Lib.hid (below_next HB6.out hb7)
      have HE7 := Lib.hid (HE6.out.kept (Kept.of_below hb7))
      clear hb7 HQ
      rcases hwi : withinS V5 V6
      · have HDN := Lib.hid (done_out (s := s) (t := t) (by have h10 := HT10.out; omega) (by rw [← HVE5.out, ← HVE6.out]; exact hwi))
        clear hwi
        go_wp2_with fail
        go_ret2
        exact RetEE.none_ (by rw [HTT.out, HDN.out]) HB7.out
      · have HDN := Lib.hid (done_in (s := s) (t := t) (by have h10 := HT10.out; omega) (by rw [← HVE5.out, ← HVE6.out]; exact hwi))
        clear hwi
        go_wp2_with fail
        go_ret2
        unfold RetEE
        rw [HTT.out, HDN.out]
        exact ⟨_, _, by first | rfl | (rw [HTL.out]; rfl), HE7.out, HB7.out⟩
set_option maxRecDepth 100000 in
set_option maxHeartbeats 4000000 in
theorem rdo_on (s : List Ent) (A : Option Addr) (c : Nat) (nm : List UInt8) (fr : List Pkg) (A' : Option Addr) (c' : Nat) (w : World) (hs : Ents w A c s) (hx : ∀ x ∈ s, fewD x.pkg) (hl : s.length ≤ 10) (hup : UpE s) :
    Calls Tryz.prog 60 #[.slice A s.length c, .agg #[.int .i64 (4), .string (bs nm), .string (bs [])], .slice A' fr.length c'] w (RetEE w (doneS s (turnS s ⟨4, nm, []⟩ fr))) := by
  have HS := Lib.hid hs
  have HX := Lib.hid hx
  have HUP := Lib.hid hup
  have hbd := hs.bd
  clear hs hx hup
  rcases idx_casesE (nameE nm) s with ⟨hi, ha⟩ | ⟨j, x, hi, hx, ha, hnx, hfd⟩
  · have HTT := Lib.hid (show turnS s ⟨4, nm, []⟩ fr = ([], 8) by unfold turnS; simp only [find_at ha]; rfl)
    have HI := Lib.hid hi
    clear hi ha
    go_enter Tryz.func60, Tryz.ntmps60
    have HST0 := Lib.hid (blk_new1 w 24 #[.int .i64 (4), .string (bs nm), .string (bs ([]))])
    have HB0 := Lib.hid (below_alloc (Below.refl w.heap.size w) (.cells #[.int .i64 (4), .string (bs nm), .string (bs ([]))] 24))
    go_wp2_with fail
    refine (rfind_any _ _ s nm _ (HS.out.kept (Kept.of_below HB0.out))).mono ?_
    rintro e w1 ⟨rfl, hb1⟩
    have HST1 := Lib.hid (HST0.out.next hb1)
    have HB1 := Lib.hid (below_next HB0.out hb1)
    clear hb1 HST0 HB0
    rw [HI.out]
    have c0 := HST1.out.cell 0
    have c1 := HST1.out.cell 1
    have c2 := HST1.out.cell 2
    simp only [List.getElem?_toArray, List.getElem?_cons_zero, List.getElem?_cons_succ] at c0 c1 c2
    go_wp2_with fail
    go_ret2
    exact RetEE.none_ (by rw [HTT.out]; rfl) HB1.out
  · have HFD := Lib.hid hfd
    have HI := Lib.hid hi
    have HXJ := Lib.hid hx
    have HNX := Lib.hid (name_eq hnx)
    have hjl : j < s.length := (List.getElem?_eq_some_iff.1 hx).1
    have hj0 : (0 : Int) ≤ (j : Int) := Int.natCast_nonneg _
    have hj1 : (j : Int) < (s.length : Int) := by omega
    have hjt : ((j : Int)).toNat = j := Int.toNat_natCast _
    have hjd : decide ((j : Int) < 0) = false := decide_eq_false (by omega)
    clear hi ha hx hnx hfd
    go_enter Tryz.func60, Tryz.ntmps60
    have HST0 := Lib.hid (blk_new1 w 24 #[.int .i64 (4), .string (bs nm), .string (bs ([]))])
    have HB0 := Lib.hid (below_alloc (Below.refl w.heap.size w) (.cells #[.int .i64 (4), .string (bs nm), .string (bs ([]))] 24))
    go_wp2_with fail
    refine (rfind_any _ _ s nm _ (HS.out.kept (Kept.of_below HB0.out))).mono ?_
    rintro e w1 ⟨rfl, hb1⟩
    have HST1 := Lib.hid (HST0.out.next hb1)
    have HB1 := Lib.hid (below_next HB0.out hb1)
    clear hb1 HST0 HB0
    rw [HI.out]
    have c0 := HST1.out.cell 0
    have c1 := HST1.out.cell 1
    have c2 := HST1.out.cell 2
    simp only [List.getElem?_toArray, List.getElem?_cons_zero, List.getElem?_cons_succ] at c0 c1 c2
    have HSTc := Lib.hid HST1.out
    go_wp2_with (at_builtin; refine wpList_append_all (by rfl) _ _ 22 (by rfl) w.heap.size 45 _ 11 192 192 Tryz.underlying22 infEnS rfl (by omega) (REnt w) (.slice none 0 0) [] (by rfl) (Own.nil_ _ _ _ _ _) _ c s (by rfl) (Slc.mono HS.out (Kept.of_below HB1.out) fun _ _ h => h) ent_oneR (by simp; omega) (by omega) HB1.out.size ?_; intro v3 w3 ho3 hg3; have hb3 := (Own.nil_ w1 w.heap.size 45 11 (REnt w)).below HB1.out HB1.out.size hg3; rw [List.nil_append] at ho3; have HO3 := Lib.hid ho3; have HB3 := Lib.hid hb3; have hst3 := HSTc.out.grown hg3 (by simp [Value.ownBlock]); have k0 := hst3.cell 0; have k1 := hst3.cell 1; have k2 := hst3.cell 2; simp only [List.getElem?_toArray, List.getElem?_cons_zero, List.getElem?_cons_succ] at k0 k1 k2; have HST3 := Lib.hid hst3; obtain ⟨x3, b3, o3, r3, hx3, hA3, hr3, e0, e1, e2, e3, e4, e5, e6, e7, e8, e9, e10⟩ := HS.out.at_ hjl (Kept.of_below HB3.out); have hx4 : x3 = x := Option.some.inj (hx3.symm.trans HXJ.out); subst hx4; obtain ⟨g3, cap3, hv3, hgB3⟩ := HO3.out.form (by omega); subst hv3; subst hA3; (skip); clear ho3 hb3 hg3 hst3 hx3 hr3)
    go_quiet (fail)
    have hfz := HO3.out.frz (j * 11 + 9)
    have hgl := HO3.out.sizeLt
    obtain ⟨csx, hcsx, hlx, hrx⟩ := HO3.out.elem HXJ.out (by omega)
    have hc9 := hrx 9 _ (List.getElem?_eq_getElem (by omega : 9 < csx.length))
    rcases hcf : x3.conf
    · rw [hcf] at e9
      have HTT := Lib.hid (show turnS s ⟨4, nm, []⟩ fr = (confS s nm true, 0) by unfold turnS; simp only [HFD.out, hcf]; rfl)
      clear hcf
      obtain ⟨t, ht⟩ : ∃ t, t = confS s nm true := ⟨_, rfl⟩
      have htl : t.length = s.length := by rw [ht, conf_len]
      have HTL := Lib.hid htl
      have HT10 := Lib.hid (show t.length ≤ 10 by omega)
      have hset : s.set j { x3 with conf := true } = t := by rw [ht, HUP.out.conf_at HXJ.out HNX.out]
      have HO4 := (HO3.out.drewN nq).set (j := 9) (u := .bool true) HXJ.out (by omega) conf_ren
      rw [hset] at HO4
      have HB4 := Lib.hid ((below_drewN HB3.out nq).setCell (p := ⟨g3, j * 11 + 9, none⟩) hgB3 (.bool true))
      have HFT := Lib.hid (fewD.e (l := t) (by omega) (fun y hy => by
        rw [← hset] at hy
        rcases List.mem_or_eq_of_mem_set hy with h | rfl
        · exact HX.out y h
        · exact HX.out x3 (List.mem_of_getElem? HXJ.out)))
      rw [← ht] at HTT
      obtain ⟨A4, c4, hv4, he4, _⟩ := Ents.of_own HO4 HB4.out (by omega)
      rw [htl] at hv4
      injection hv4 with hv5 _ hv6
      subst hv5 hv6
      have HE4 := Lib.hid he4
      clear he4 HO4 hset ht htl
      go_wp2_with fail
      generalize World.setCell (w3.drewN nq) _ _ = W4 at HB4 HE4 ⊢
      have HQ := Lib.hid (rwrong_any _ _ t W4 HE4.out HFT.out)
      (try rw [HTL.out] at HQ)
      refine HQ.out.mono ?_
      rintro e w5 ⟨A5, c5, rfl, hv5, hb5⟩
      have HV5 := Lib.hid hv5
      have HB5 := Lib.hid (below_next HB4.out hb5)
      have HE5 := Lib.hid (HE4.out.kept (Kept.of_below hb5))
      clear hv5 hb5 HQ
      go_wp2_with fail
      have HQ := Lib.hid (rwrong_any _ _ s w5 (HS.out.kept (Kept.of_below HB5.out)) (fewD.e (by omega) HX.out))
      refine HQ.out.mono ?_
      rintro e w6 ⟨A6, c6, rfl, hv6, hb6⟩
      have HV6 := Lib.hid hv6
      have HV5 := Lib.hid (HV5.out.kept (Kept.of_below hb6))
      have HB6 := Lib.hid (below_next HB5.out hb6)
      have HE6 := Lib.hid (HE5.out.kept (Kept.of_below hb6))
      clear hv6 hb6 HQ
      obtain ⟨V5, hV5⟩ : ∃ V, V = wrongS t := ⟨_, rfl⟩
      obtain ⟨V6, hV6⟩ : ∃ V, V = wrongS s := ⟨_, rfl⟩
      rw [← hV5] at HV5 ⊢
      rw [← hV6] at HV6 ⊢
      have HVE5 := Lib.hid hV5
      have HVE6 := Lib.hid hV6
      clear hV5 hV6
      go_wp2_with fail
      have HQ := Lib.hid (rwithin_any A5 A6 c5 c6 V5 V6 w6 HV5.out HV6.out)
      refine HQ.out.mono ?_
      rintro e w7 ⟨rfl, hb7⟩
      have HB7 := Lib.hid (below_next HB6.out hb7)
      have HE7 := Lib.hid (HE6.out.kept (Kept.of_below hb7))
      clear hb7 HQ
      rcases hwi : withinS V5 V6
      · have HDN := Lib.hid (done_out (s := s) (t := t) (by have h10 := HT10.out; omega) (by rw [← HVE5.out, ← HVE6.out]; exact hwi))
        clear hwi
        go_wp2_with fail
        go_ret2
        exact RetEE.none_ (by rw [HTT.out, HDN.out]) HB7.out
      · have HDN := Lib.hid (done_in (s := s) (t := t) (by have h10 := HT10.out; omega) (by rw [← HVE5.out, ← HVE6.out]; exact hwi))
        clear hwi
        go_wp2_with fail
        go_ret2
        unfold RetEE
        rw [HTT.out, HDN.out]
        exact ⟨_, _, by first | rfl | (rw [HTL.out]; rfl), HE7.out, HB7.out⟩
    · rw [hcf] at e9
      have HTT := Lib.hid (show turnS s ⟨4, nm, []⟩ fr = ([], 13) by unfold turnS; simp only [HFD.out, hcf]; rfl)
      clear hcf
      go_wp2_with fail
      go_ret2
      exact RetEE.none_ (by rw [HTT.out]; rfl) (below_drewN HB3.out _)
end Go.Proofs.YtaicidbopgnmfaaGreatDoor
namespace Go.Proofs.YtaicidbopgnmfaaGreatDoor
set_option linter.unusedSimpArgs false
set_option linter.unusedVariables false
open Go.RowKit
set_option maxRecDepth 100000 in
set_option maxHeartbeats 4000000 in
theorem rdo_rm (s : List Ent) (A : Option Addr) (c : Nat) (nm : List UInt8) (fr : List Pkg) (A' : Option Addr) (c' : Nat) (w : World) (hs : Ents w A c s) (hx : ∀ x ∈ s, fewD x.pkg) (hl : s.length ≤ 10) (hup : UpE s) :
    Calls Tryz.prog 60 #[.slice A s.length c, .agg #[.int .i64 2, .string (bs nm), .string (bs [])], .slice A' fr.length c'] w (RetEE w (doneS s (turnS s ⟨2, nm, []⟩ fr))) := by
  have HS := Lib.hid hs
  have HX := Lib.hid hx
  have HUP := Lib.hid hup
  have hbd := hs.bd
  clear hs hx hup
  rcases idx_casesE (nameE nm) s with ⟨hi, ha⟩ | ⟨j, x, hi, hx, ha, hnx, hfd⟩
  · have HTT := Lib.hid (show turnS s ⟨2, nm, []⟩ fr = ([], 8) by unfold turnS; simp only [find_at ha]; rfl)
    have HI := Lib.hid hi
    clear hi ha
    go_enter Tryz.func60, Tryz.ntmps60
    have HST0 := Lib.hid (blk_new1 w 24 #[.int .i64 (2), .string (bs nm), .string (bs ([]))])
    have HB0 := Lib.hid (below_alloc (Below.refl w.heap.size w) (.cells #[.int .i64 (2), .string (bs nm), .string (bs ([]))] 24))
    go_wp2_with fail
    refine (rfind_any _ _ s nm _ (HS.out.kept (Kept.of_below HB0.out))).mono ?_
    rintro e w1 ⟨rfl, hb1⟩
    have HST1 := Lib.hid (HST0.out.next hb1)
    have HB1 := Lib.hid (below_next HB0.out hb1)
    clear hb1 HST0 HB0
    rw [HI.out]
    have c0 := HST1.out.cell 0
    have c1 := HST1.out.cell 1
    have c2 := HST1.out.cell 2
    simp only [List.getElem?_toArray, List.getElem?_cons_zero, List.getElem?_cons_succ] at c0 c1 c2
    go_wp2_with fail
    go_ret2
    exact RetEE.none_ (by rw [HTT.out]; rfl) HB1.out
  · have HFD := Lib.hid hfd
    have HI := Lib.hid hi
    have HXJ := Lib.hid hx
    have HNX := Lib.hid (name_eq hnx)
    have hjl : j < s.length := (List.getElem?_eq_some_iff.1 hx).1
    have hj0 : (0 : Int) ≤ (j : Int) := Int.natCast_nonneg _
    have hj1 : (j : Int) < (s.length : Int) := by omega
    have hjt : ((j : Int)).toNat = j := Int.toNat_natCast _
    have hjd : decide ((j : Int) < 0) = false := decide_eq_false (by omega)
    clear hi ha hx hnx hfd
    rcases hes : x.pkg.ess
    · have HES := Lib.hid hes
      have HTT := Lib.hid (show turnS s ⟨2, nm, []⟩ fr = (othersE nm s, 0) by unfold turnS; simp only [HFD.out, hes]; rfl)
      clear hes
      go_enter Tryz.func60, Tryz.ntmps60
      have HST0 := Lib.hid (blk_new1 w 24 #[.int .i64 (2), .string (bs nm), .string (bs ([]))])
      have HB0 := Lib.hid (below_alloc (Below.refl w.heap.size w) (.cells #[.int .i64 (2), .string (bs nm), .string (bs ([]))] 24))
      go_wp2_with fail
      refine (rfind_any _ _ s nm _ (HS.out.kept (Kept.of_below HB0.out))).mono ?_
      rintro e w1 ⟨rfl, hb1⟩
      have HST1 := Lib.hid (HST0.out.next hb1)
      have HB1 := Lib.hid (below_next HB0.out hb1)
      clear hb1 HST0 HB0
      rw [HI.out]
      have c0 := HST1.out.cell 0
      have c1 := HST1.out.cell 1
      have c2 := HST1.out.cell 2
      simp only [List.getElem?_toArray, List.getElem?_cons_zero, List.getElem?_cons_succ] at c0 c1 c2
      have HSTc := Lib.hid HST1.out
      have hj2 : (0 : Int) ≤ (j : Int) + 1 := by omega
      have hj3 : (j : Int) + 1 ≤ (s.length : Int) := by omega
      have hj4 : ((j : Int) + 1).toNat = j + 1 := by omega
      have hj5 : (j : Int) ≤ (s.length : Int) := by omega
      have hj6 : (j : Int) ≤ (c : Int) := by omega
      have hwr : IntKind.i64.wrap ((j : Int) + 1) = (j : Int) + 1 := by rw [IntKind.wrap_i64]; omega
      go_wp2_with (at_builtin; refine wpList_append_all (by rfl) _ _ 22 (by rfl) w.heap.size 45 _ 11 192 192 Tryz.underlying22 infEnS rfl (by omega) (REnt w) (.slice none 0 0) [] (by rfl) (Own.nil_ _ _ _ _ _) _ c s (by rfl) (Slc.mono HS.out (Kept.of_below HB1.out) fun _ _ h => h) ent_oneR (by simp; omega) (by omega) HB1.out.size ?_; intro v3 w3 ho3 hg3; have hb3 := (Own.nil_ w1 w.heap.size 45 11 (REnt w)).below HB1.out HB1.out.size hg3; rw [List.nil_append] at ho3; have HO3 := Lib.hid ho3; have HB3 := Lib.hid hb3; have hst3 := HSTc.out.grown hg3 (by simp [Value.ownBlock]); have k0 := hst3.cell 0; have k1 := hst3.cell 1; have k2 := hst3.cell 2; simp only [List.getElem?_toArray, List.getElem?_cons_zero, List.getElem?_cons_succ] at k0 k1 k2; have HST3 := Lib.hid hst3; obtain ⟨x3, b3, o3, r3, hx3, hA3, hr3, e0, e1, e2, e3, e4, e5, e6, e7, e8, e9, e10⟩ := HS.out.at_ hjl (Kept.of_below HB3.out); have hx4 : x3 = x := Option.some.inj (hx3.symm.trans HXJ.out); subst hx4; obtain ⟨g3, cap3, hv3, hgB3⟩ := HO3.out.form (by omega); subst hv3; subst hA3; (rw [HES.out] at e8); clear ho3 hb3 hg3 hst3 hx3 hr3)
      obtain ⟨W2, rfl⟩ : ∃ W2 : World, W2 = w3 := ⟨_, rfl⟩
      by_cases hcj : c = j + 1
      · have hjc1 : (j : Int) ≤ (j : Int) + 1 := by omega
        have hjc2 : (s.length : Int) ≤ (j : Int) + 1 := by omega
        subst hcj
        have htk : (s.take j).length = j := by rw [List.length_take]; omega
        have HTK := Lib.hid htk
        have HTD := Lib.hid (show (s.drop (j + 1)).length = 0 by have h := List.length_drop (i := j + 1) (l := s); omega)
        have HBy1 := Lib.hid (show (([] : List Ent).length + (s.take j).length) * 192 ≤ 140737488355328 by simp; omega)
        have HBy3 := Lib.hid (show ((s.take j).length + (s.drop (j + 1)).length) * 192 ≤ 140737488355328 by rw [List.length_drop, htk]; omega)
        clear htk
        have HSW := Lib.hid (Slc.mono HS.out (Kept.of_below HB3.out) fun _ _ h => h)
        have HS1 := Lib.hid (show Slc W2 11 192 (REnt w) (some ⟨b3, o3, none⟩) (j + 1) (s.take j) from Slc.take HSW.out j)
        have HS2 := Lib.hid (show Slc W2 11 192 (REnt w) (some ⟨b3, o3, none⟩) 0 (s.drop (j + 1)) from (Slc.dropEnd (by omega) (by omega)))
        go_wp2_with fail
        go_region_held3 (fun w' => Hid (Below W2.heap.size W2 w')) (first | with_reducible assumption | exact hbC | exact hbA | exact Lib.hid (below_drewN (Below.refl _ _) 1) | (have hh := (by assumption : Hid (Below W2.heap.size W2 _)); exact Lib.hid (below_alloc hh.out _)))
          (first | (have hh := (by assumption : Hid (Below W2.heap.size W2 _)); refine step_append_all (by rfl) _ _ 22 (by rfl) W2.heap.size 45 _ 11 192 192 Tryz.underlying22 infEnS rfl (by omega) (REnt w) _ [] (by rfl) (Own.nil_ _ _ _ _ _) (some ⟨b3, o3, none⟩) (j + 1) (s.take j) (by rw [HTK.out]; rfl) (Slc.mono HS1.out (Kept.of_below hh.out) fun _ _ h => h) ent_oneR HBy1.out (by omega) hh.out.size ?_; intro v1 y1 ho1 hg1; have hbA := Lib.hid ((Own.nil_ _ W2.heap.size 45 11 (REnt w)).below hh.out hh.out.size hg1); rw [List.nil_append] at ho1) | (have hh := (by assumption : Hid (Below W2.heap.size W2 _)); refine step_append_all (by rfl) _ _ 22 (by rfl) W2.heap.size 45 _ 11 192 192 Tryz.underlying22 infEnS rfl (by omega) (REnt w) _ (s.take j) (by rfl) ho1 (some ⟨b3, o3, none⟩) 0 (s.drop (j + 1)) (by first | (rw [HTD.out]; rfl) | (rw [show (s.drop (j + 1)).length = s.length - (j + 1) from List.length_drop ..]; rfl)) (Slc.mono HS2.out (Kept.of_below hh.out) fun _ _ h => h) ent_oneR HBy3.out (by omega) hh.out.size ?_; intro v3 y3 ho3 hg3; have hbC := Lib.hid (ho1.below hh.out hh.out.size hg3)))
        have HB8 := Lib.hid (below_next HB3.out hbC.out)
        have HO8 := ho3.low HB3.out.size
        obtain ⟨t, ht⟩ : ∃ t, t = s.take j ++ s.drop (j + 1) := ⟨_, rfl⟩
        have htt : t = othersE nm s := by rw [ht, HUP.out.others_at HXJ.out HNX.out]
        rw [← ht] at HO8
        have htl : t.length ≤ s.length := by rw [htt]; exact others_len _ _
        have HT10 := Lib.hid (show t.length ≤ 10 by omega)
        have HTL := Lib.hid (show t.length = t.length from rfl)
        have HFT := Lib.hid (fewD.e (l := t) (by omega) (fun y hy => by rw [htt] at hy; exact HX.out y (List.mem_filter.1 hy).1))
        obtain ⟨A8, c8, hv8, he8, _⟩ := Ents.of_own HO8 HB8.out (by omega)
        subst hv8
        have HE8 := Lib.hid he8
        rw [← htt] at HTT
        clear he8 HO8 ht htt htl hbC ho3 hg3 hbA ho1 hg1
        go_wp2_with fail
        have HQ := Lib.hid (rwrong_any _ _ t y3 HE8.out HFT.out)
        (try rw [HTL.out] at HQ)
        refine HQ.out.mono ?_
        rintro e w5 ⟨A5, c5, rfl, hv5, hb5⟩
        have HV5 := Lib.hid hv5
        have HB5 := Lib.hid (below_next HB8.out hb5)
        have HE5 := Lib.hid (HE8.out.kept (Kept.of_below hb5))
        clear hv5 hb5 HQ
        go_wp2_with fail
        have HQ := Lib.hid (rwrong_any _ _ s w5 (HS.out.kept (Kept.of_below HB5.out)) (fewD.e (by omega) HX.out))
        refine HQ.out.mono ?_
        rintro e w6 ⟨A6, c6, rfl, hv6, hb6⟩
        have HV6 := Lib.hid hv6
        have HV5 := Lib.hid (HV5.out.kept (Kept.of_below hb6))
        have HB6 := Lib.hid (below_next HB5.out hb6)
        have HE6 := Lib.hid (HE5.out.kept (Kept.of_below hb6))
        clear hv6 hb6 HQ
        obtain ⟨V5, hV5⟩ : ∃ V, V = wrongS t := ⟨_, rfl⟩
        obtain ⟨V6, hV6⟩ : ∃ V, V = wrongS s := ⟨_, rfl⟩
        rw [← hV5] at HV5 ⊢
        rw [← hV6] at HV6 ⊢
        have HVE5 := Lib.hid hV5
        have HVE6 := Lib.hid hV6
        clear hV5 hV6
        go_wp2_with fail
        have HQ := Lib.hid (rwithin_any A5 A6 c5 c6 V5 V6 w6 HV5.out HV6.out)
        refine HQ.out.mono ?_
        rintro e w7 ⟨rfl, hb7⟩
        have HB7 := Lib.hid (below_next HB6.out hb7)
        have HE7 := Lib.hid (HE6.out.kept (Kept.of_below hb7))
        clear hb7 HQ
        rcases hwi : withinS V5 V6
        · have HDN := Lib.hid (done_out (s := s) (t := t) (by have h10 := HT10.out; omega) (by rw [← HVE5.out, ← HVE6.out]; exact hwi))
          clear hwi
          go_wp2_with fail
          go_ret2
          exact RetEE.none_ (by rw [HTT.out, HDN.out]) HB7.out
        · have HDN := Lib.hid (done_in (s := s) (t := t) (by have h10 := HT10.out; omega) (by rw [← HVE5.out, ← HVE6.out]; exact hwi))
          clear hwi
          go_wp2_with fail
          go_ret2
          unfold RetEE
          rw [HTT.out, HDN.out]
          exact ⟨_, _, by first | rfl | (rw [HTL.out]; rfl), HE7.out, HB7.out⟩
      · have hjc2 : (s.length : Int) ≤ (c : Int) := by omega
        have hjc4 : ¬ c = j + 1 := hcj
        have htk : (s.take j).length = j := by rw [List.length_take]; omega
        have HTK := Lib.hid htk
        have HTD := Lib.hid (show (s.drop (j + 1)).length = (s.length - (j + 1)) by have h := List.length_drop (i := j + 1) (l := s); omega)
        have HBy1 := Lib.hid (show (([] : List Ent).length + (s.take j).length) * 192 ≤ 140737488355328 by simp; omega)
        have HBy3 := Lib.hid (show ((s.take j).length + (s.drop (j + 1)).length) * 192 ≤ 140737488355328 by rw [List.length_drop, htk]; omega)
        clear htk
        have HSW := Lib.hid (Slc.mono HS.out (Kept.of_below HB3.out) fun _ _ h => h)
        have HS1 := Lib.hid (show Slc W2 11 192 (REnt w) (some ⟨b3, o3, none⟩) c (s.take j) from Slc.take HSW.out j)
        have HS2 := Lib.hid (show Slc W2 11 192 (REnt w) (some ⟨b3, o3 + (j + 1) * 11, none⟩) (c - (j + 1)) (s.drop (j + 1)) from (Slc.drop HSW.out (j + 1) (by omega)))
        go_wp2_with fail
        go_region_held3 (fun w' => Hid (Below W2.heap.size W2 w')) (first | with_reducible assumption | exact hbC | exact hbA | exact Lib.hid (below_drewN (Below.refl _ _) 1) | (have hh := (by assumption : Hid (Below W2.heap.size W2 _)); exact Lib.hid (below_alloc hh.out _)))
          (first | (have hh := (by assumption : Hid (Below W2.heap.size W2 _)); refine step_append_all (by rfl) _ _ 22 (by rfl) W2.heap.size 45 _ 11 192 192 Tryz.underlying22 infEnS rfl (by omega) (REnt w) _ [] (by rfl) (Own.nil_ _ _ _ _ _) (some ⟨b3, o3, none⟩) c (s.take j) (by rw [HTK.out]; rfl) (Slc.mono HS1.out (Kept.of_below hh.out) fun _ _ h => h) ent_oneR HBy1.out (by omega) hh.out.size ?_; intro v1 y1 ho1 hg1; have hbA := Lib.hid ((Own.nil_ _ W2.heap.size 45 11 (REnt w)).below hh.out hh.out.size hg1); rw [List.nil_append] at ho1) | (have hh := (by assumption : Hid (Below W2.heap.size W2 _)); refine step_append_all (by rfl) _ _ 22 (by rfl) W2.heap.size 45 _ 11 192 192 Tryz.underlying22 infEnS rfl (by omega) (REnt w) _ (s.take j) (by rfl) ho1 (some ⟨b3, o3 + (j + 1) * 11, none⟩) (c - (j + 1)) (s.drop (j + 1)) (by first | (rw [HTD.out]; rfl) | (rw [show (s.drop (j + 1)).length = s.length - (j + 1) from List.length_drop ..]; rfl)) (Slc.mono HS2.out (Kept.of_below hh.out) fun _ _ h => h) ent_oneR HBy3.out (by omega) hh.out.size ?_; intro v3 y3 ho3 hg3; have hbC := Lib.hid (ho1.below hh.out hh.out.size hg3)))
        have HB8 := Lib.hid (below_next HB3.out hbC.out)
        have HO8 := ho3.low HB3.out.size
        obtain ⟨t, ht⟩ : ∃ t, t = s.take j ++ s.drop (j + 1) := ⟨_, rfl⟩
        have htt : t = othersE nm s := by rw [ht, HUP.out.others_at HXJ.out HNX.out]
        rw [← ht] at HO8
        have htl : t.length ≤ s.length := by rw [htt]; exact others_len _ _
        have HT10 := Lib.hid (show t.length ≤ 10 by omega)
        have HTL := Lib.hid (show t.length = t.length from rfl)
        have HFT := Lib.hid (fewD.e (l := t) (by omega) (fun y hy => by rw [htt] at hy; exact HX.out y (List.mem_filter.1 hy).1))
        obtain ⟨A8, c8, hv8, he8, _⟩ := Ents.of_own HO8 HB8.out (by omega)
        subst hv8
        have HE8 := Lib.hid he8
        rw [← htt] at HTT
        clear he8 HO8 ht htt htl hbC ho3 hg3 hbA ho1 hg1
        go_wp2_with fail
        have HQ := Lib.hid (rwrong_any _ _ t y3 HE8.out HFT.out)
        (try rw [HTL.out] at HQ)
        refine HQ.out.mono ?_
        rintro e w5 ⟨A5, c5, rfl, hv5, hb5⟩
        have HV5 := Lib.hid hv5
        have HB5 := Lib.hid (below_next HB8.out hb5)
        have HE5 := Lib.hid (HE8.out.kept (Kept.of_below hb5))
        clear hv5 hb5 HQ
        go_wp2_with fail
        have HQ := Lib.hid (rwrong_any _ _ s w5 (HS.out.kept (Kept.of_below HB5.out)) (fewD.e (by omega) HX.out))
        refine HQ.out.mono ?_
        rintro e w6 ⟨A6, c6, rfl, hv6, hb6⟩
        have HV6 := Lib.hid hv6
        have HV5 := Lib.hid (HV5.out.kept (Kept.of_below hb6))
        have HB6 := Lib.hid (below_next HB5.out hb6)
        have HE6 := Lib.hid (HE5.out.kept (Kept.of_below hb6))
        clear hv6 hb6 HQ
        obtain ⟨V5, hV5⟩ : ∃ V, V = wrongS t := ⟨_, rfl⟩
        obtain ⟨V6, hV6⟩ : ∃ V, V = wrongS s := ⟨_, rfl⟩
        rw [← hV5] at HV5 ⊢
        rw [← hV6] at HV6 ⊢
        have HVE5 := Lib.hid hV5
        have HVE6 := Lib.hid hV6
        clear hV5 hV6
        go_wp2_with fail
        have HQ := Lib.hid (rwithin_any A5 A6 c5 c6 V5 V6 w6 HV5.out HV6.out)
        refine HQ.out.mono ?_
        rintro e w7 ⟨rfl, hb7⟩
        have HB7 := Lib.hid (below_next HB6.out hb7)
        have HE7 := Lib.hid (HE6.out.kept (Kept.of_below hb7))
        clear hb7 HQ
        rcases hwi : withinS V5 V6
        · have HDN := Lib.hid (done_out (s := s) (t := t) (by have h10 := HT10.out; omega) (by rw [← HVE5.out, ← HVE6.out]; exact hwi))
          clear hwi
          go_wp2_with fail
          go_ret2
          exact RetEE.none_ (by rw [HTT.out, HDN.out]) HB7.out
        · have HDN := Lib.hid (done_in (s := s) (t := t) (by have h10 := HT10.out; omega) (by rw [← HVE5.out, ← HVE6.out]; exact hwi))
          clear hwi
          go_wp2_with fail
          go_ret2
          unfold RetEE
          rw [HTT.out, HDN.out]
          exact ⟨_, _, by first | rfl | (rw [HTL.out]; rfl), HE7.out, HB7.out⟩
    · have HES := Lib.hid hes
      have HTT := Lib.hid (show turnS s ⟨2, nm, []⟩ fr = ([], 9) by unfold turnS; simp only [HFD.out, hes]; rfl)
      clear hes
      go_enter Tryz.func60, Tryz.ntmps60
      have HST0 := Lib.hid (blk_new1 w 24 #[.int .i64 (2), .string (bs nm), .string (bs ([]))])
      have HB0 := Lib.hid (below_alloc (Below.refl w.heap.size w) (.cells #[.int .i64 (2), .string (bs nm), .string (bs ([]))] 24))
      go_wp2_with fail
      refine (rfind_any _ _ s nm _ (HS.out.kept (Kept.of_below HB0.out))).mono ?_
      rintro e w1 ⟨rfl, hb1⟩
      have HST1 := Lib.hid (HST0.out.next hb1)
      have HB1 := Lib.hid (below_next HB0.out hb1)
      clear hb1 HST0 HB0
      rw [HI.out]
      have c0 := HST1.out.cell 0
      have c1 := HST1.out.cell 1
      have c2 := HST1.out.cell 2
      simp only [List.getElem?_toArray, List.getElem?_cons_zero, List.getElem?_cons_succ] at c0 c1 c2
      have HSTc := Lib.hid HST1.out
      go_wp2_with (at_builtin; refine wpList_append_all (by rfl) _ _ 22 (by rfl) w.heap.size 45 _ 11 192 192 Tryz.underlying22 infEnS rfl (by omega) (REnt w) (.slice none 0 0) [] (by rfl) (Own.nil_ _ _ _ _ _) _ c s (by rfl) (Slc.mono HS.out (Kept.of_below HB1.out) fun _ _ h => h) ent_oneR (by simp; omega) (by omega) HB1.out.size ?_; intro v3 w3 ho3 hg3; have hb3 := (Own.nil_ w1 w.heap.size 45 11 (REnt w)).below HB1.out HB1.out.size hg3; rw [List.nil_append] at ho3; have HO3 := Lib.hid ho3; have HB3 := Lib.hid hb3; have hst3 := HSTc.out.grown hg3 (by simp [Value.ownBlock]); have k0 := hst3.cell 0; have k1 := hst3.cell 1; have k2 := hst3.cell 2; simp only [List.getElem?_toArray, List.getElem?_cons_zero, List.getElem?_cons_succ] at k0 k1 k2; have HST3 := Lib.hid hst3; obtain ⟨x3, b3, o3, r3, hx3, hA3, hr3, e0, e1, e2, e3, e4, e5, e6, e7, e8, e9, e10⟩ := HS.out.at_ hjl (Kept.of_below HB3.out); have hx4 : x3 = x := Option.some.inj (hx3.symm.trans HXJ.out); subst hx4; obtain ⟨g3, cap3, hv3, hgB3⟩ := HO3.out.form (by omega); subst hv3; subst hA3; (rw [HES.out] at e8); clear ho3 hb3 hg3 hst3 hx3 hr3)
      go_ret2
      exact RetEE.none_ (by rw [HTT.out]; rfl) HB3.out
end Go.Proofs.YtaicidbopgnmfaaGreatDoor
namespace Go.Proofs.YtaicidbopgnmfaaGreatDoor
set_option linter.unusedSimpArgs false
set_option linter.unusedVariables false
open Go.RowKit
attribute [local irreducible] wpQuiet
set_option maxRecDepth 100000 in
set_option maxHeartbeats 4000000 in
theorem rdo_unp (s : List Ent) (A : Option Addr) (c : Nat) (nm vr : List UInt8) (fr : List Pkg) (A' : Option Addr) (c' : Nat) (w : World) (hs : Ents w A c s) (hf : Pkgs w A' c' fr) (hx : ∀ x ∈ s, fewD x.pkg) (hp : ∀ p ∈ fr, fewD p) (hl : s.length ≤ 10) (hup : UpE s) :
    Calls Tryz.prog 60 #[.slice A s.length c, .agg #[.int .i64 3, .string (bs nm), .string (bs vr)], .slice A' fr.length c'] w (RetEE w (doneS s (turnS s ⟨3, nm, vr⟩ fr))) := by
  have HS := Lib.hid hs
  have HF := Lib.hid hf
  have HX := Lib.hid hx
  have HP := Lib.hid hp
  have HUP := Lib.hid hup
  have hbd := hs.bd
  have hbf := hf.bd
  clear hs hx hup hf hp
  rcases idx_casesE (fndP nm vr) fr with ⟨hk, hka⟩ | ⟨kk, p, hk, hpk, hka, hpn, hpf⟩
  · have HTT := Lib.hid (show turnS s ⟨3, nm, vr⟩ fr = ([], 8) by unfold turnS; simp only [find_at hka]; rfl)
    obtain ⟨I, hI⟩ : ∃ I, idxS (nameE nm) s = I := ⟨_, rfl⟩
    have HI := Lib.hid hI
    have HK := Lib.hid hk
    clear hk hka hI
    go_enter Tryz.func60, Tryz.ntmps60
    have HST0 := Lib.hid (blk_new1 w 24 #[.int .i64 (3), .string (bs nm), .string (bs (vr))])
    have HB0 := Lib.hid (below_alloc (Below.refl w.heap.size w) (.cells #[.int .i64 (3), .string (bs nm), .string (bs (vr))] 24))
    go_wp2_with fail
    refine (rfind_any _ _ s nm _ (HS.out.kept (Kept.of_below HB0.out))).mono ?_
    rintro e w1 ⟨rfl, hb1⟩
    have HST1 := Lib.hid (HST0.out.next hb1)
    have HB1 := Lib.hid (below_next HB0.out hb1)
    clear hb1 HST0 HB0
    rw [HI.out]
    have c0 := HST1.out.cell 0
    have c1 := HST1.out.cell 1
    have c2 := HST1.out.cell 2
    simp only [List.getElem?_toArray, List.getElem?_cons_zero, List.getElem?_cons_succ] at c0 c1 c2
    go_wp2_with fail
    refine (rVersion_any _ _ fr nm vr _ (HF.out.kept (Kept.of_below HB1.out))).mono ?_
    rintro e w2 ⟨rfl, hb2⟩
    have HST2 := Lib.hid (HST1.out.next hb2)
    have HB2 := Lib.hid (below_next HB1.out hb2)
    clear hb2 HST1 HB1 c0 c1 c2
    rw [HK.out]
    have c0 := HST2.out.cell 0
    have c1 := HST2.out.cell 1
    have c2 := HST2.out.cell 2
    simp only [List.getElem?_toArray, List.getElem?_cons_zero, List.getElem?_cons_succ] at c0 c1 c2
    go_wp2_with fail
    go_ret2
    exact RetEE.none_ (by rw [HTT.out]; rfl) HB2.out
  · have HK := Lib.hid hk
    have HPK := Lib.hid hpk
    have HPF := Lib.hid hpf
    have hpnm : p.name = nm := by simp [fndP] at hpn; exact hpn.1
    have HPN := Lib.hid hpnm
    have HFP := Lib.hid (HP.out p (List.mem_of_getElem? hpk))
    have hkl : kk < fr.length := (List.getElem?_eq_some_iff.1 hpk).1
    have hk0 : (0 : Int) ≤ (kk : Int) := Int.natCast_nonneg _
    have hk1 : (kk : Int) < (fr.length : Int) := by omega
    have hkt : ((kk : Int)).toNat = kk := Int.toNat_natCast _
    have hkd : decide ((kk : Int) < 0) = false := decide_eq_false (by omega)
    clear hk hpk hka hpn hpf hpnm
    rcases idx_casesE (nameE nm) s with ⟨hi, ha⟩ | ⟨j, x, hi, hxj, ha, hnx, hfd⟩
    · have HTT := Lib.hid (show turnS s ⟨3, nm, vr⟩ fr = (unpS s p, 0) by unfold turnS; simp only [HPF.out, find_at ha]; rfl)
      have HI := Lib.hid hi
      have HUN := Lib.hid (show unpS s p = srt eLt (s ++ [⟨p, false, false⟩]) from unp_no (by rw [HPN.out]; exact ha))
      have HUL := Lib.hid (show (unpS s p).length = s.length + 1 by rw [unp_len, HPN.out, others_no ha])
      clear hi ha
      by_cases h10 : 10 ≤ s.length
      · have hd10 : decide ((10 : Int) ≤ (s.length : Int)) = true := decide_eq_true (by omega)
        have HDN := Lib.hid (done_many (s := s) (t := unpS s p) (by rw [HUL.out]; omega))
        clear h10
        go_enter Tryz.func60, Tryz.ntmps60
        have HST0 := Lib.hid (blk_new1 w 24 #[.int .i64 (3), .string (bs nm), .string (bs (vr))])
        have HB0 := Lib.hid (below_alloc (Below.refl w.heap.size w) (.cells #[.int .i64 (3), .string (bs nm), .string (bs (vr))] 24))
        go_wp2_with fail
        refine (rfind_any _ _ s nm _ (HS.out.kept (Kept.of_below HB0.out))).mono ?_
        rintro e w1 ⟨rfl, hb1⟩
        have HST1 := Lib.hid (HST0.out.next hb1)
        have HB1 := Lib.hid (below_next HB0.out hb1)
        clear hb1 HST0 HB0
        rw [HI.out]
        have c0 := HST1.out.cell 0
        have c1 := HST1.out.cell 1
        have c2 := HST1.out.cell 2
        simp only [List.getElem?_toArray, List.getElem?_cons_zero, List.getElem?_cons_succ] at c0 c1 c2
        go_wp2_with fail
        refine (rVersion_any _ _ fr nm vr _ (HF.out.kept (Kept.of_below HB1.out))).mono ?_
        rintro e w2 ⟨rfl, hb2⟩
        have HST2 := Lib.hid (HST1.out.next hb2)
        have HB2 := Lib.hid (below_next HB1.out hb2)
        clear hb2 HST1 HB1 c0 c1 c2
        rw [HK.out]
        have c0 := HST2.out.cell 0
        have c1 := HST2.out.cell 1
        have c2 := HST2.out.cell 2
        simp only [List.getElem?_toArray, List.getElem?_cons_zero, List.getElem?_cons_succ] at c0 c1 c2
        go_wp2_with (at_builtin; refine wpList_append_all (by rfl) _ _ 22 (by rfl) w.heap.size 45 _ 11 192 192 Tryz.underlying22 infEnS rfl (by omega) (REnt w) (.slice none 0 0) [] (by rfl) (Own.nil_ _ _ _ _ _) _ c s (by rfl) (Slc.mono HS.out (Kept.of_below HB2.out) fun _ _ h => h) ent_oneR (by simp; omega) (by omega) HB2.out.size ?_; intro v3 w3 ho3 hg3; have hb3 := (Own.nil_ w2 w.heap.size 45 11 (REnt w)).below HB2.out HB2.out.size hg3; rw [List.nil_append] at ho3; have HO3 := Lib.hid ho3; have HB3 := Lib.hid hb3; have hst3 := HST2.out.grown hg3 (by simp [Value.ownBlock]); have k0 := hst3.cell 0; have k1 := hst3.cell 1; have k2 := hst3.cell 2; simp only [List.getElem?_toArray, List.getElem?_cons_zero, List.getElem?_cons_succ] at k0 k1 k2; have HST3 := Lib.hid hst3; obtain ⟨q3, b4, o4, rp, hq3, hA4, hrp, d0, d1, d2, d3, d4, d5, d6, d7, d8⟩ := HF.out.at_ hkl (Kept.of_below HB3.out); have hq4 : q3 = p := Option.some.inj (hq3.symm.trans HPK.out); subst hq4; subst hA4; have HRP := Lib.hid hrp; clear ho3 hb3 hg3 hst3 hq3 hrp)
        go_ret2
        exact RetEE.none_ (by rw [HTT.out, HDN.out]) HB3.out
      · have hd10 : decide ((10 : Int) ≤ (s.length : Int)) = false := decide_eq_false (by omega)
        go_enter Tryz.func60, Tryz.ntmps60
        have HST0 := Lib.hid (blk_new1 w 24 #[.int .i64 (3), .string (bs nm), .string (bs (vr))])
        have HB0 := Lib.hid (below_alloc (Below.refl w.heap.size w) (.cells #[.int .i64 (3), .string (bs nm), .string (bs (vr))] 24))
        go_wp2_with fail
        refine (rfind_any _ _ s nm _ (HS.out.kept (Kept.of_below HB0.out))).mono ?_
        rintro e w1 ⟨rfl, hb1⟩
        have HST1 := Lib.hid (HST0.out.next hb1)
        have HB1 := Lib.hid (below_next HB0.out hb1)
        clear hb1 HST0 HB0
        rw [HI.out]
        have c0 := HST1.out.cell 0
        have c1 := HST1.out.cell 1
        have c2 := HST1.out.cell 2
        simp only [List.getElem?_toArray, List.getElem?_cons_zero, List.getElem?_cons_succ] at c0 c1 c2
        go_wp2_with fail
        refine (rVersion_any _ _ fr nm vr _ (HF.out.kept (Kept.of_below HB1.out))).mono ?_
        rintro e w2 ⟨rfl, hb2⟩
        have HST2 := Lib.hid (HST1.out.next hb2)
        have HB2 := Lib.hid (below_next HB1.out hb2)
        clear hb2 HST1 HB1 c0 c1 c2
        rw [HK.out]
        have c0 := HST2.out.cell 0
        have c1 := HST2.out.cell 1
        have c2 := HST2.out.cell 2
        simp only [List.getElem?_toArray, List.getElem?_cons_zero, List.getElem?_cons_succ] at c0 c1 c2
        go_wp2_with (first | (at_builtin; refine wpList_append_all (by rfl) _ _ 22 (by rfl) w.heap.size 45 _ 11 192 192 Tryz.underlying22 infEnS rfl (by omega) (REnt w) (.slice none 0 0) [] (by rfl) (Own.nil_ _ _ _ _ _) _ c s (by rfl) (Slc.mono HS.out (Kept.of_below HB2.out) fun _ _ h => h) ent_oneR (by simp; omega) (by omega) HB2.out.size ?_; intro v3 w3 ho3 hg3; have hb3 := (Own.nil_ w2 w.heap.size 45 11 (REnt w)).below HB2.out HB2.out.size hg3; rw [List.nil_append] at ho3; have HO3 := Lib.hid ho3; have HB3 := Lib.hid hb3; have hst3 := HST2.out.grown hg3 (by simp [Value.ownBlock]); have k0 := hst3.cell 0; have k1 := hst3.cell 1; have k2 := hst3.cell 2; simp only [List.getElem?_toArray, List.getElem?_cons_zero, List.getElem?_cons_succ] at k0 k1 k2; have HST3 := Lib.hid hst3; obtain ⟨q3, b4, o4, rp, hq3, hA4, hrp, d0, d1, d2, d3, d4, d5, d6, d7, d8⟩ := HF.out.at_ hkl (Kept.of_below HB3.out); have hq4 : q3 = p := Option.some.inj (hq3.symm.trans HPK.out); subst hq4; subst hA4; have HRP := Lib.hid hrp; clear ho3 hb3 hg3 hst3 hq3 hrp) | (at_builtin; refine wpList_append_el (by rfl) _ _ 22 (by rfl) w.heap.size 45 _ 11 192 Tryz.underlying22 infEnS rfl (by omega) (REnt w) v3 s (by rfl) (HO3.out.alloc _) ⟨q3, false, false⟩ (encE rp ⟨q3, false, false⟩) w3.heap.size 1 (by rfl) (blk_new1 _ _ _) ⟨rp, rfl, HRP.out⟩ rfl (encE_one _ _) (by omega) (by omega) (by simp; have := HB3.out.size; omega) ?_; intro g4 cap4 w4 ho4 hg4; have HB4 := Lib.hid ((HO3.out.alloc _).below (below_alloc HB3.out _) (by simp; have := HB3.out.size; omega) hg4); have HO4 := Lib.hid ho4; clear ho4 hg4))
        obtain ⟨A4, c4, hv4, he4, _⟩ := Ents.of_own HO4.out HB4.out (by simp; omega)
        have HE4 := Lib.hid he4
        rw [hv4]
        have HQ := Lib.hid (rSortedE_any A4 c4 (s ++ [⟨q3, false, false⟩]) w4 HE4.out (by simp; omega))
        refine HQ.out.mono ?_
        rintro e w5 ⟨A5, c5, rfl, he5, hb5⟩
        rw [← HUN.out] at he5 ⊢
        obtain ⟨t, ht⟩ : ∃ t, t = unpS s q3 := ⟨_, rfl⟩
        have htl : t.length = s.length + 1 := by rw [ht]; exact HUL.out
        have HFT := Lib.hid (fewD.e (l := t) (by omega) (fun y hy => by
          rw [ht] at hy
          rcases mem_unp hy with h | h
          · exact HX.out y h
          · rw [h]; exact HFP.out))
        rw [← ht] at he5 HTT ⊢
        have HT10 := Lib.hid (show t.length ≤ 10 by omega)
        have HTL := Lib.hid (show t.length = t.length from rfl)
        have HE8 := Lib.hid he5
        have HB8 := Lib.hid (below_next HB4.out hb5)
        clear he5 hb5 hv4 he4 HQ ht htl HUN HUL
        go_wp2_with fail
        have HQ := Lib.hid (rwrong_any _ _ t w5 HE8.out HFT.out)
        (try rw [HTL.out] at HQ)
        refine HQ.out.mono ?_
        rintro e w5 ⟨A5, c5, rfl, hv5, hb5⟩
        have HV5 := Lib.hid hv5
        have HB5 := Lib.hid (below_next HB8.out hb5)
        have HE5 := Lib.hid (HE8.out.kept (Kept.of_below hb5))
        clear hv5 hb5 HQ
        go_wp2_with fail
        have HQ := Lib.hid (rwrong_any _ _ s w5 (HS.out.kept (Kept.of_below HB5.out)) (fewD.e (by omega) HX.out))
        refine HQ.out.mono ?_
        rintro e w6 ⟨A6, c6, rfl, hv6, hb6⟩
        have HV6 := Lib.hid hv6
        have HV5 := Lib.hid (HV5.out.kept (Kept.of_below hb6))
        have HB6 := Lib.hid (below_next HB5.out hb6)
        have HE6 := Lib.hid (HE5.out.kept (Kept.of_below hb6))
        clear hv6 hb6 HQ
        obtain ⟨V5, hV5⟩ : ∃ V, V = wrongS t := ⟨_, rfl⟩
        obtain ⟨V6, hV6⟩ : ∃ V, V = wrongS s := ⟨_, rfl⟩
        rw [← hV5] at HV5 ⊢
        rw [← hV6] at HV6 ⊢
        have HVE5 := Lib.hid hV5
        have HVE6 := Lib.hid hV6
        clear hV5 hV6
        go_wp2_with fail
        have HQ := Lib.hid (rwithin_any A5 A6 c5 c6 V5 V6 w6 HV5.out HV6.out)
        refine HQ.out.mono ?_
        rintro e w7 ⟨rfl, hb7⟩
        have HB7 := Lib.hid (below_next HB6.out hb7)
        have HE7 := Lib.hid (HE6.out.kept (Kept.of_below hb7))
        clear hb7 HQ
        rcases hwi : withinS V5 V6
        · have HDN := Lib.hid (done_out (s := s) (t := t) (by have h10 := HT10.out; omega) (by rw [← HVE5.out, ← HVE6.out]; exact hwi))
          clear hwi
          go_wp2_with fail
          go_ret2
          exact RetEE.none_ (by rw [HTT.out, HDN.out]) HB7.out
        · have HDN := Lib.hid (done_in (s := s) (t := t) (by have h10 := HT10.out; omega) (by rw [← HVE5.out, ← HVE6.out]; exact hwi))
          clear hwi
          go_wp2_with fail
          go_ret2
          unfold RetEE
          rw [HTT.out, HDN.out]
          exact ⟨_, _, by first | rfl | (rw [HTL.out]; rfl), HE7.out, HB7.out⟩
    · have HFD := Lib.hid hfd
      have HI := Lib.hid hi
      have HXJ := Lib.hid hxj
      have HNX := Lib.hid (name_eq hnx)
      have hjl : j < s.length := (List.getElem?_eq_some_iff.1 hxj).1
      have hj0 : (0 : Int) ≤ (j : Int) := Int.natCast_nonneg _
      have hj1 : (j : Int) < (s.length : Int) := by omega
      have hjt : ((j : Int)).toNat = j := Int.toNat_natCast _
      have hjd : decide ((j : Int) < 0) = false := decide_eq_false (by omega)
      have HSVX := Lib.hid (show ∀ b, sameV x.pkg.ver p.ver = b → turnS s ⟨3, nm, vr⟩ fr = (if b then ([], 13) else (unpS s p, 0)) from fun b hb => by unfold turnS; simp only [HPF.out, hfd, hb]; rfl)
      clear hi ha hxj hnx hfd
      obtain ⟨sv, hsv⟩ : ∃ sv, sameV x.pkg.ver p.ver = sv := ⟨_, rfl⟩
      have HSV := Lib.hid hsv
      have HTT := Lib.hid (HSVX.out sv hsv)
      clear hsv HSVX
      go_enter Tryz.func60, Tryz.ntmps60
      have HST0 := Lib.hid (blk_new1 w 24 #[.int .i64 (3), .string (bs nm), .string (bs (vr))])
      have HB0 := Lib.hid (below_alloc (Below.refl w.heap.size w) (.cells #[.int .i64 (3), .string (bs nm), .string (bs (vr))] 24))
      go_wp2_with fail
      refine (rfind_any _ _ s nm _ (HS.out.kept (Kept.of_below HB0.out))).mono ?_
      rintro e w1 ⟨rfl, hb1⟩
      have HST1 := Lib.hid (HST0.out.next hb1)
      have HB1 := Lib.hid (below_next HB0.out hb1)
      clear hb1 HST0 HB0
      rw [HI.out]
      have c0 := HST1.out.cell 0
      have c1 := HST1.out.cell 1
      have c2 := HST1.out.cell 2
      simp only [List.getElem?_toArray, List.getElem?_cons_zero, List.getElem?_cons_succ] at c0 c1 c2
      go_wp2_with fail
      refine (rVersion_any _ _ fr nm vr _ (HF.out.kept (Kept.of_below HB1.out))).mono ?_
      rintro e w2 ⟨rfl, hb2⟩
      have HST2 := Lib.hid (HST1.out.next hb2)
      have HB2 := Lib.hid (below_next HB1.out hb2)
      clear hb2 HST1 HB1 c0 c1 c2
      rw [HK.out]
      have c0 := HST2.out.cell 0
      have c1 := HST2.out.cell 1
      have c2 := HST2.out.cell 2
      simp only [List.getElem?_toArray, List.getElem?_cons_zero, List.getElem?_cons_succ] at c0 c1 c2
      have HSTc := Lib.hid HST2.out
      go_wp2_with (at_builtin; refine wpList_append_all (by rfl) _ _ 22 (by rfl) w.heap.size 45 _ 11 192 192 Tryz.underlying22 infEnS rfl (by omega) (REnt w) (.slice none 0 0) [] (by rfl) (Own.nil_ _ _ _ _ _) _ c s (by rfl) (Slc.mono HS.out (Kept.of_below HB2.out) fun _ _ h => h) ent_oneR (by simp; omega) (by omega) HB2.out.size ?_; intro v3 w3 ho3 hg3; have hb3 := (Own.nil_ w2 w.heap.size 45 11 (REnt w)).below HB2.out HB2.out.size hg3; rw [List.nil_append] at ho3; have HO3 := Lib.hid ho3; have HB3 := Lib.hid hb3; have hst3 := HSTc.out.grown hg3 (by simp [Value.ownBlock]); have k0 := hst3.cell 0; have k1 := hst3.cell 1; have k2 := hst3.cell 2; simp only [List.getElem?_toArray, List.getElem?_cons_zero, List.getElem?_cons_succ] at k0 k1 k2; have HST3 := Lib.hid hst3; obtain ⟨x3, b3, o3, r3, hx3, hA3, hr3, e0, e1, e2, e3, e4, e5, e6, e7, e8, e9, e10⟩ := HS.out.at_ hjl (Kept.of_below HB3.out); have hx4 : x3 = x := Option.some.inj (hx3.symm.trans HXJ.out); subst hx4; obtain ⟨g3, cap3, hv3, hgB3⟩ := HO3.out.form (by omega); subst hv3; subst hA3; obtain ⟨q3, b4, o4, rp, hq3, hA4, hrp, d0, d1, d2, d3, d4, d5, d6, d7, d8⟩ := HF.out.at_ hkl (Kept.of_below HB3.out); have hq4 : q3 = p := Option.some.inj (hq3.symm.trans HPK.out); subst hq4; subst hA4; have HRP := Lib.hid hrp; clear hq3 hrp; clear ho3 hb3 hg3 hst3 hx3 hr3)
      have E1 := fun q : Be w3 => Be.cell e1 q
      have D1 := fun q : Be w3 => Be.cell d1 q
      refine region_be (by kernel_rfl) (by kernel_rfl) ?_
      repeat (quiet_step (first | (go_at_call 67; with_reducible exact Calls.be_of ((rSameVersion_any _ _ _).mono fun _ _ h => ⟨h.1.trans (congrArg (fun b => Ending.returned (Value.bool b)) HSV.out), h.2⟩))))
      refine wpQuiet_nil ?_
      intro _ hw'
      obtain ⟨pb, hw''⟩ := hw'
      subst hw''
      obtain ⟨W2, hbw⟩ := pb
      dsimp only
      have HB5 := Lib.hid (below_next HB3.out hbw)
      have HO5 := Lib.hid (HO3.out.next hbw)
      cases sv with
      | true =>
        go_wp2_with fail
        go_ret2
        exact RetEE.none_ (by rw [HTT.out]; rfl) HB5.out
      | false =>
        have HKB := Lib.hid (Kept.of_below hbw)
        have d0 := HKB.out _ _ d0
        have d1 := HKB.out _ _ d1
        have d2 := HKB.out _ _ d2
        have d3 := HKB.out _ _ d3
        have d4 := HKB.out _ _ d4
        have d5 := HKB.out _ _ d5
        have d6 := HKB.out _ _ d6
        have d7 := HKB.out _ _ d7
        have d8 := HKB.out _ _ d8
        have e10 := HKB.out _ _ e10
        clear e0 e1 e2 e3 e4 e5 e6 e7 e8 e9 E1 D1 k0 k1 k2
        obtain ⟨_, ⟨ro, rfl, _⟩, _, hrx⟩ := HO5.out.elem HXJ.out (by omega)
        obtain ⟨u0, u1, u2, u3, u4, u5, u6, u7, u8, u9, u10⟩ := range11 hrx
        have f0 := HO5.out.frz (j * 11)
        have f1 := HO5.out.frz (j * 11 + 1)
        have f2 := HO5.out.frz (j * 11 + 2)
        have f3 := HO5.out.frz (j * 11 + 3)
        have f4 := HO5.out.frz (j * 11 + 4)
        have f5 := HO5.out.frz (j * 11 + 5)
        have f6 := HO5.out.frz (j * 11 + 6)
        have f7 := HO5.out.frz (j * 11 + 7)
        have f8 := HO5.out.frz (j * 11 + 8)
        have f9 := HO5.out.frz (j * 11 + 9)
        have f10 := HO5.out.frz (j * 11 + 10)
        have gl := HO5.out.sizeLt
        clear hrx hbw
        go_wp2_with fail
        go_region
        clear d0 d1 d2 d3 d4 d5 d6 d7 d8 e10 u0 u1 u2 u3 u4 u5 u6 u7 u8 u9 u10 f0 f1 f2 f3 f4 f5 f6 f7 f8 f9 f10 gl
        have ho6 := (putKE (Z := fun r x => RP w r x.pkg) (s := rp) (y := ⟨q3, false, x3.hold⟩) (show Own W2 w.heap.size 45 11 (RKE fun r x => RP w r x.pkg) (.slice (some ⟨g3, 0, none⟩) s.length cap3) s from HO5.out) HXJ.out HRP.out).drewN 1
        have hb6 := below_drewN (below_by HB5.out hgB3 HB5.out.size (grown_puts (w := W2) (g := g3) (vs := [(j * 11, .string (bs q3.name)), (j * 11 + 1, .string (bs q3.ver)), (j * 11 + 2, .slice rp.a1 q3.pre.length rp.c1), (j * 11 + 3, .slice rp.a2 q3.dep.length rp.c2), (j * 11 + 4, .slice rp.a3 q3.rcm.length rp.c3), (j * 11 + 5, .slice rp.a4 q3.con.length rp.c4), (j * 11 + 6, .slice rp.a5 q3.brk.length rp.c5), (j * 11 + 7, .slice rp.a6 q3.prv.length rp.c6), (j * 11 + 8, .bool q3.ess), (j * 11 + 9, .bool false), (j * 11 + 10, .bool x3.hold)]))) 1
        obtain ⟨W6, hW6⟩ : ∃ W6, W6 = World.drewN (((((((((((W2.setCell ⟨g3, j * 11, none⟩ (.string (bs q3.name))).setCell ⟨g3, j * 11 + 1, none⟩ (.string (bs q3.ver))).setCell ⟨g3, j * 11 + 2, none⟩ (.slice rp.a1 q3.pre.length rp.c1)).setCell ⟨g3, j * 11 + 3, none⟩ (.slice rp.a2 q3.dep.length rp.c2)).setCell ⟨g3, j * 11 + 4, none⟩ (.slice rp.a3 q3.rcm.length rp.c3)).setCell ⟨g3, j * 11 + 5, none⟩ (.slice rp.a4 q3.con.length rp.c4)).setCell ⟨g3, j * 11 + 6, none⟩ (.slice rp.a5 q3.brk.length rp.c5)).setCell ⟨g3, j * 11 + 7, none⟩ (.slice rp.a6 q3.prv.length rp.c6)).setCell ⟨g3, j * 11 + 8, none⟩ (.bool q3.ess)).setCell ⟨g3, j * 11 + 9, none⟩ (.bool false)).setCell ⟨g3, j * 11 + 10, none⟩ (.bool x3.hold)) 1 := ⟨_, rfl⟩
        have HO6 : Own W6 w.heap.size 45 11 (REnt w) (.slice (some ⟨g3, 0, none⟩) s.length cap3) (s.set j ⟨q3, false, x3.hold⟩) := hW6 ▸ ho6
        have HB6' : Below w.heap.size w W6 := hW6 ▸ hb6
        have HBW6 := Lib.hid HB6'
        obtain ⟨t, ht⟩ : ∃ t, t = unpS s q3 := ⟨_, rfl⟩
        have hset : s.set j ⟨q3, false, x3.hold⟩ = t := by rw [ht, HUP.out.unp_at HXJ.out (HNX.out.trans HPN.out.symm)]
        rw [hset] at HO6
        have htl : t.length = s.length := by rw [← hset, List.length_set]
        have HTL := Lib.hid htl
        have HT10 := Lib.hid (show t.length ≤ 10 by omega)
        have HFT := Lib.hid (fewD.e (l := t) (by omega) (fun y hy => by
          rw [ht] at hy
          rcases mem_unp hy with h | h
          · exact HX.out y h
          · rw [h]; exact HFP.out))
        have htt := HTT.out
        rw [if_neg (by simp), ← ht] at htt
        have HTT := Lib.hid htt
        obtain ⟨A4, c4, hv4, he4, _⟩ := Ents.of_own HO6 HB6' (by omega)
        rw [htl] at hv4
        injection hv4 with hv5 _ hv6
        subst hv5 hv6
        have HE4 := Lib.hid he4
        clear he4 HO6 hset ht htl htt ho6 hb6 HB6'
        have hW7 : World.drew _ = W6 := hW6.symm
        rw [hW7]
        clear hW7 hW6
        go_wp2_with fail
        have HQ := Lib.hid (rwrong_any _ _ t W6 HE4.out HFT.out)
        (try rw [HTL.out] at HQ)
        refine HQ.out.mono ?_
        rintro e w5 ⟨A5, c5, rfl, hv5, hb5⟩
        have HV5 := Lib.hid hv5
        have HB5 := Lib.hid (below_next HBW6.out hb5)
        have HE5 := Lib.hid (HE4.out.kept (Kept.of_below hb5))
        clear hv5 hb5 HQ
        go_wp2_with fail
        have HQ := Lib.hid (rwrong_any _ _ s w5 (HS.out.kept (Kept.of_below HB5.out)) (fewD.e (by omega) HX.out))
        refine HQ.out.mono ?_
        rintro e w6 ⟨A6, c6, rfl, hv6, hb6⟩
        have HV6 := Lib.hid hv6
        have HV5 := Lib.hid (HV5.out.kept (Kept.of_below hb6))
        have HB6 := Lib.hid (below_next HB5.out hb6)
        have HE6 := Lib.hid (HE5.out.kept (Kept.of_below hb6))
        clear hv6 hb6 HQ
        obtain ⟨V5, hV5⟩ : ∃ V, V = wrongS t := ⟨_, rfl⟩
        obtain ⟨V6, hV6⟩ : ∃ V, V = wrongS s := ⟨_, rfl⟩
        rw [← hV5] at HV5 ⊢
        rw [← hV6] at HV6 ⊢
        have HVE5 := Lib.hid hV5
        have HVE6 := Lib.hid hV6
        clear hV5 hV6
        go_wp2_with fail
        have HQ := Lib.hid (rwithin_any A5 A6 c5 c6 V5 V6 w6 HV5.out HV6.out)
        refine HQ.out.mono ?_
        rintro e w7 ⟨rfl, hb7⟩
        have HB7 := Lib.hid (below_next HB6.out hb7)
        have HE7 := Lib.hid (HE6.out.kept (Kept.of_below hb7))
        clear hb7 HQ
        rcases hwi : withinS V5 V6
        · have HDN := Lib.hid (done_out (s := s) (t := t) (by have h10 := HT10.out; omega) (by rw [← HVE5.out, ← HVE6.out]; exact hwi))
          clear hwi
          go_wp2_with fail
          go_ret2
          exact RetEE.none_ (by rw [HTT.out, HDN.out]) HB7.out
        · have HDN := Lib.hid (done_in (s := s) (t := t) (by have h10 := HT10.out; omega) (by rw [← HVE5.out, ← HVE6.out]; exact hwi))
          clear hwi
          go_wp2_with fail
          go_ret2
          unfold RetEE
          rw [HTT.out, HDN.out]
          exact ⟨_, _, by first | rfl | (rw [HTL.out]; rfl), HE7.out, HB7.out⟩
end Go.Proofs.YtaicidbopgnmfaaGreatDoor
namespace Go.Proofs.YtaicidbopgnmfaaGreatDoor
set_option linter.unusedSimpArgs false
set_option linter.unusedVariables false
open Go.RowKit
def do0S (s : List Ent) (st : Stp) (fr : List Pkg) : List Ent × Int := if badK st then ([], 1) else doneS s (turnS s st fr)
theorem do_do0 {s : List Ent} {st : Stp} {fr : List Pkg} (h : mayEntsE s = 0) (h2 : mayAllE fr = 0) : doS s st fr = do0S s st fr := by
  unfold doS do0S
  rw [if_neg (by simpa using h), if_neg (by simpa using h2)]
theorem do0_bad {s : List Ent} {st : Stp} {fr : List Pkg} (h : badK st = true) : do0S s st fr = ([], 1) := if_pos h
theorem do0_turn {s : List Ent} {st : Stp} {fr : List Pkg} (h : badK st = false) : do0S s st fr = doneS s (turnS s st fr) := by unfold do0S; rw [h]; rfl
set_option maxRecDepth 100000 in
set_option maxHeartbeats 4000000 in
theorem rdo_any (s : List Ent) (A : Option Addr) (c : Nat) (k : Int) (nm vr : List UInt8) (fr : List Pkg) (A' : Option Addr) (c' : Nat) (w : World) (hs : Ents w A c s) (hf : Pkgs w A' c' fr) (hx : ∀ x ∈ s, fewD x.pkg) (hp : ∀ p ∈ fr, fewD p) (hl : s.length ≤ 10) (hup : UpE s) :
    Calls Tryz.prog 60 #[.slice A s.length c, .agg #[.int .i64 k, .string (bs nm), .string (bs vr)], .slice A' fr.length c'] w (RetEE w (do0S s ⟨k, nm, vr⟩ fr)) := by
  by_cases hk : 1 ≤ k ∧ k ≤ 4
  · obtain rfl | rfl | rfl | rfl : k = 1 ∨ k = 2 ∨ k = 3 ∨ k = 4 := by omega
    · by_cases hv : vr = []
      · subst hv
        rw [do0_turn (by simp [badK])]
        exact rdo_off s A c nm fr A' c' w hs hx hl hup
      · have HDO := Lib.hid (do0_bad (s := s) (fr := fr) (st := ⟨1, nm, vr⟩) (by simp [badK, hv]))
        have hvb : (vr == []) = false := by simpa using hv
        have hvn : (vr != []) = true := by simpa using hv
        clear hk hv
        go_enter Tryz.func60, Tryz.ntmps60
        go_wp2_with fail
        go_ret2
        exact RetEE.none_ HDO.out (below_alloc (Below.refl _ _) _)
    · by_cases hv : vr = []
      · subst hv
        rw [do0_turn (by simp [badK])]
        exact rdo_rm s A c nm fr A' c' w hs hx hl hup
      · have HDO := Lib.hid (do0_bad (s := s) (fr := fr) (st := ⟨2, nm, vr⟩) (by simp [badK, hv]))
        have hvb : (vr == []) = false := by simpa using hv
        have hvn : (vr != []) = true := by simpa using hv
        clear hk hv
        go_enter Tryz.func60, Tryz.ntmps60
        go_wp2_with fail
        go_ret2
        exact RetEE.none_ HDO.out (below_alloc (Below.refl _ _) _)
    · rw [do0_turn (by simp [badK])]
      exact rdo_unp s A c nm vr fr A' c' w hs hf hx hp hl hup
    · by_cases hv : vr = []
      · subst hv
        rw [do0_turn (by simp [badK])]
        exact rdo_on s A c nm fr A' c' w hs hx hl hup
      · have HDO := Lib.hid (do0_bad (s := s) (fr := fr) (st := ⟨4, nm, vr⟩) (by simp [badK, hv]))
        have hvb : (vr == []) = false := by simpa using hv
        have hvn : (vr != []) = true := by simpa using hv
        clear hk hv
        go_enter Tryz.func60, Tryz.ntmps60
        go_wp2_with fail
        go_ret2
        exact RetEE.none_ HDO.out (below_alloc (Below.refl _ _) _)
  · have HDO := Lib.hid (do0_bad (s := s) (fr := fr) (st := ⟨k, nm, vr⟩) (by unfold badK; simp only [Bool.or_eq_true, Bool.not_eq_true', Bool.and_eq_false_iff, decide_eq_false_iff_not]; left; omega))
    by_cases h1 : k < 1
    · have hd1 : decide (k < 1) = true := decide_eq_true h1
      clear hk
      go_enter Tryz.func60, Tryz.ntmps60
      go_wp2_with fail
      go_ret2
      exact RetEE.none_ HDO.out (below_alloc (Below.refl _ _) _)
    · have hd1 : decide (k < 1) = false := decide_eq_false h1
      have hd4 : decide ((4 : Int) < k) = true := decide_eq_true (by omega)
      clear hk
      go_enter Tryz.func60, Tryz.ntmps60
      go_wp2_with fail
      go_ret2
      exact RetEE.none_ HDO.out (below_alloc (Below.refl _ _) _)
set_option maxRecDepth 100000 in
set_option maxHeartbeats 4000000 in
theorem rDo_any (s : List Ent) (A : Option Addr) (c : Nat) (k : Int) (nm vr : List UInt8) (fr : List Pkg) (A' : Option Addr) (c' : Nat) (w : World) (hs : Ents w A c s) (hf : Pkgs w A' c' fr) (hx : ∀ x ∈ s, fewD x.pkg) (hp : ∀ p ∈ fr, fewD p) :
    Calls Tryz.prog 19 #[.slice A s.length c, .agg #[.int .i64 k, .string (bs nm), .string (bs vr)], .slice A' fr.length c'] w (RetEE w (doS s ⟨k, nm, vr⟩ fr)) := by
  have HS := Lib.hid hs
  have HF := Lib.hid hf
  have HX := Lib.hid hx
  have HP := Lib.hid hp
  have HRS := Lib.hid (fun x (h : x ∈ s) => (hx x h).r)
  have hbd := hs.bd
  clear hs hf hx hp
  obtain ⟨E, hE⟩ : ∃ E, mayEntsE s = E := ⟨_, rfl⟩
  have HM := Lib.hid hE
  obtain ⟨F, hF⟩ : ∃ F, mayAllE fr = F := ⟨_, rfl⟩
  have HM2 := Lib.hid hF
  clear hE hF
  go_enter Tryz.func19, Tryz.ntmps19
  have HST0 := Lib.hid (blk_new1 w 24 #[.int .i64 k, .string (bs nm), .string (bs vr)])
  have HB0 := Lib.hid (below_alloc (Below.refl w.heap.size w) (.cells #[.int .i64 k, .string (bs nm), .string (bs vr)] 24))
  go_wp2_with fail
  refine (rents_any _ _ s _ (HS.out.kept (Kept.of_below HB0.out)) HRS.out).mono ?_
  rintro e w1 ⟨rfl, hb1⟩
  rw [HM.out]
  have HST1 := Lib.hid (HST0.out.next hb1)
  have HB1 := Lib.hid (below_next HB0.out hb1)
  clear hb1 HST0 HB0
  by_cases h1 : E = 0
  · subst h1
    go_wp2_with fail
    refine (rmayAll_any _ _ fr _ (HF.out.kept (Kept.of_below HB1.out))).mono ?_
    rintro e w2 ⟨rfl, hb2⟩
    rw [HM2.out]
    have HB2 := Lib.hid (below_next HB1.out hb2)
    have HST2 := Lib.hid (HST1.out.next hb2)
    clear hb2
    have c0 := HST2.out.cell 0
    have c1 := HST2.out.cell 1
    have c2 := HST2.out.cell 2
    simp only [List.getElem?_toArray, List.getElem?_cons_zero, List.getElem?_cons_succ] at c0 c1 c2
    by_cases h2 : F = 0
    · subst h2
      have HDO := Lib.hid (do_do0 (st := ⟨k, nm, vr⟩) HM.out HM2.out)
      go_wp2_with fail
      have HQ := Lib.hid (rdo_any s A c k nm vr fr A' c' w2 (HS.out.kept (Kept.of_below HB2.out)) (HF.out.kept (Kept.of_below HB2.out)) HX.out HP.out (ents_zero HM.out).1 (ents_up HM.out))
      rw [← HDO.out] at HQ
      refine HQ.out.mono ?_
      rintro e w3 ⟨B3, d3, rfl, he3, hb3⟩
      have HE3 := Lib.hid he3
      have HB3 := Lib.hid (below_next HB2.out hb3)
      clear he3 hb3 HQ HDO
      go_wp2_with fail
      refine bodyPost_ret (v := .tuple #[.slice B3 (doS s ⟨k, nm, vr⟩ fr).1.length d3, .int .i64 (doS s ⟨k, nm, vr⟩ fr).2]) (by simp [results, Tryz.results19, go_sem]) rfl ?_
      exact ⟨B3, d3, rfl, HE3.out, HB3.out⟩
    · have HDO := Lib.hid (do_all (st := ⟨k, nm, vr⟩) (fr := fr) HM.out (by rw [HM2.out]; exact h2))
      have hb : (F != 0) = true := by rw [bne_iff_ne]; exact h2
      clear h2
      go_wp2_with fail
      go_ret2
      exact RetEE.none_ (by rw [HDO.out, HM2.out]) HB2.out
  · have HDO := Lib.hid (do_ents (st := ⟨k, nm, vr⟩) (fr := fr) (by rw [HM.out]; exact h1))
    have hb : (E != 0) = true := by rw [bne_iff_ne]; exact h1
    clear h1
    go_wp2_with fail
    go_ret2
    exact RetEE.none_ (by rw [HDO.out, HM.out]) HB1.out
end Go.Proofs.YtaicidbopgnmfaaGreatDoor
