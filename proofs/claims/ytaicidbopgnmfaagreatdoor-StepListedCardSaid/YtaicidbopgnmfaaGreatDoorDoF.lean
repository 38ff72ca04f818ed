/- The contract of step.Do. -/
import Derived.Test.YtaicidbopgnmfaaGreatDoorDoE
import Derived.Test.YtaicidbopgnmfaaGreatDoorMl
import Derived.Test.YtaicidbopgnmfaaGreatDoorSth
namespace Go.Proofs.YtaicidbopgnmfaaGreatDoor
set_option linter.unusedSimpArgs false
set_option linter.unusedVariables false
open Go.RowKit
def fewD (p : Pkg) : Prop := fewOE p ∧ p.pre.length + p.dep.length ≤ 1000000 ∧ p.con.length + p.brk.length ≤ 1000000
theorem fewD.r {p : Pkg} (h : fewD p) : fewR p := ⟨h.1.2.2.2.1, h.1.2.2.2.2.1, h.1.2.2.2.2.2⟩
theorem fewD.e {l : List Ent} (hl : l.length ≤ 1000) (h : ∀ x ∈ l, fewD x.pkg) : fewE l := ⟨hl, fun x hx => ⟨(h x hx).2.1, (h x hx).2.2⟩⟩
theorem turn_any (s : List Ent) (A : Option Addr) (c : Nat) (nm vr : List UInt8) (k : Int) (hk : 1 ≤ k ∧ k ≤ 4) (fr : List Pkg) (A' : Option Addr) (c' : Nat) (w : World) (hs : Ents w A c s) (hf : Pkgs w A' c' fr) (hfs : ∀ x ∈ s, fewOE x.pkg) (hff : ∀ p ∈ fr, fewOE p) (hl : s.length ≤ 100) (hup : UpE s) :
    Calls Tryz.prog 57 #[.slice A s.length c, .agg #[.int .i64 k, .string (bs nm), .string (bs vr)], .slice A' fr.length c'] w (RetEE w (turnS s ⟨k, nm, vr⟩ fr)) := by
  obtain rfl | rfl | rfl | rfl : k = 1 ∨ k = 2 ∨ k = 3 ∨ k = 4 := by omega
  · exact turn_off s A c nm vr fr A' c' w hs hfs hl hup
  · exact turn_rm s A c nm vr 2 rfl fr A' c' w hs hfs hl hup
  · exact turn_unp s A c nm vr fr A' c' w hs hf hfs hff hl hup
  · exact turn_on s A c nm vr fr A' c' w hs hfs hl hup
theorem turn_pkg {s : List Ent} {st : Stp} {fr : List Pkg} {y : Ent} (hy : y ∈ (turnS s st fr).1) : (∃ x ∈ s, y.pkg = x.pkg) ∨ y.pkg ∈ fr := by
  unfold turnS at hy
  split at hy
  · split at hy
    · cases hy
    · rename_i p hp
      have hpf : p ∈ fr := List.mem_of_find?_eq_some hp
      split at hy
      · rcases mem_unp hy with h1 | h1
        · exact .inl ⟨y, h1, rfl⟩
        · exact .inr (h1 ▸ hpf)
      · split at hy
        · cases hy
        · rcases mem_unp hy with h1 | h1
          · exact .inl ⟨y, h1, rfl⟩
          · exact .inr (h1 ▸ hpf)
  · split at hy
    · cases hy
    · split at hy
      · split at hy
        · cases hy
        · exact .inl ⟨y, (List.mem_filter.1 hy).1, rfl⟩
      · split at hy
        · cases hy
        · obtain ⟨x, hx, rfl⟩ := List.mem_map.1 hy
          exact .inl ⟨x, hx, conf_name _ _ _⟩
theorem turn_fewD {s : List Ent} {st : Stp} {fr : List Pkg} (hs : ∀ x ∈ s, fewD x.pkg) (hf : ∀ p ∈ fr, fewD p) : ∀ y ∈ (turnS s st fr).1, fewD y.pkg := fun y hy => by
  rcases turn_pkg hy with ⟨x, hx, e⟩ | e
  · rw [e]; exact hs x hx
  · exact hf _ e
theorem turn_len (s : List Ent) (st : Stp) (fr : List Pkg) : (turnS s st fr).1.length ≤ s.length + 1 := by
  have h1 := fun n => others_len n s
  unfold turnS
  split
  · split
    · simp
    · rename_i p _
      split
      · rw [unp_len]; have := h1 p.name; omega
      · split
        · simp
        · rw [unp_len]; have := h1 p.name; omega
  · split
    · simp
    · split
      · split
        · simp
        · have := h1 st.name; show (othersE _ _).length ≤ _; omega
      · split
        · simp
        · show (confS _ _ _).length ≤ _; rw [conf_len]; omega
theorem done_err {s t : List Ent} {e : Int} (h : e ≠ 0) : doneS s (t, e) = ([], e) := if_pos h
theorem done_many {s t : List Ent} (h : 10 < t.length) : doneS s (t, 0) = ([], 12) := by unfold doneS; rw [if_neg (by simp), if_pos h]
theorem done_in {s t : List Ent} (h : ¬ 10 < t.length) (h2 : withinS (wrongS t) (wrongS s) = true) : doneS s (t, 0) = (t, 0) := by unfold doneS; rw [if_neg (by simp), if_neg h, if_pos h2]
theorem done_out {s t : List Ent} (h : ¬ 10 < t.length) (h2 : withinS (wrongS t) (wrongS s) = false) : doneS s (t, 0) = ([], 9) := by unfold doneS; rw [if_neg (by simp), if_neg h]; simp [h2]
set_option maxRecDepth 100000 in
set_option maxHeartbeats 4000000 in
theorem do_any (s : List Ent) (A : Option Addr) (c : Nat) (k : Int) (nm vr : List UInt8) (fr : List Pkg) (A' : Option Addr) (c' : Nat) (w : World) (hs : Ents w A c s) (hf : Pkgs w A' c' fr) (hx : ∀ x ∈ s, fewD x.pkg) (hp : ∀ p ∈ fr, fewD p) :
    Calls Tryz.prog 18 #[.slice A s.length c, .agg #[.int .i64 k, .string (bs nm), .string (bs vr)], .slice A' fr.length c'] w (RetEE w (doS s ⟨k, nm, vr⟩ fr)) := by
  have HS := Lib.hid hs
  have HF := Lib.hid hf
  have HX := Lib.hid hx
  have HP := Lib.hid hp
  have HRS := Lib.hid (fun x (h : x ∈ s) => (hx x h).r)
  have HRF := Lib.hid (fun p (h : p ∈ fr) => (hp p h).r)
  have hbd := hs.bd
  clear hs hf hx hp
  by_cases h1 : mayEntsE s = 0
  · have HM := Lib.hid h1
    by_cases h2 : mayAllE fr = 0
    · have HM2 := Lib.hid h2
      have hs10 := (ents_zero h1).1
      have HUP := Lib.hid (ents_up h1)
      by_cases hk : 1 ≤ k ∧ k ≤ 4
      · obtain rfl | rfl | rfl | rfl : k = 1 ∨ k = 2 ∨ k = 3 ∨ k = 4 := by omega
        · by_cases hv : vr = []
          · subst hv
            have HDO := Lib.hid (do_turn (st := ⟨1, nm, []⟩) h1 h2 (by simp [badK]))
            obtain ⟨r, hr⟩ : ∃ r, r = turnS s ⟨1, nm, []⟩ fr := ⟨_, rfl⟩
            have HTF := Lib.hid (turn_fewD (s := s) (st := ⟨1, nm, []⟩) (fr := fr) HX.out HP.out)
            have HTL := Lib.hid (turn_len s ⟨1, nm, []⟩ fr)
            have htu := fun W (hs : Ents W A c s) (hf : Pkgs W A' c' fr) => turn_any s A c nm [] 1 (by decide) fr A' c' W hs hf (fun x h => (HX.out x h).1) (fun p h => (HP.out p h).1) (by omega) HUP.out
            rw [← hr] at HDO HTF HTL
            rw [← hr] at htu
            have HTU := Lib.hid htu
            clear h1 h2 hk hr htu
            obtain ⟨t, er⟩ := r
            go_enter Tryz.func18, Tryz.ntmps18
            have HST0 := Lib.hid (blk_new1 w 24 #[.int .i64 (1), .string (bs nm), .string (bs ([]))])
            have HB0 := Lib.hid (below_alloc (Below.refl w.heap.size w) (.cells #[.int .i64 (1), .string (bs nm), .string (bs ([]))] 24))
            go_wp2_with fail
            refine (ents_any _ _ s _ (HS.out.kept (Kept.of_below HB0.out)) HRS.out).mono ?_
            rintro e w1 ⟨rfl, hb1⟩
            have HST1 := Lib.hid (HST0.out.next hb1)
            have HB1 := Lib.hid (below_next HB0.out hb1)
            clear hb1 HST0 HB0
            rw [HM.out]
            go_wp2_with fail
            refine (mayAll_any _ _ fr _ (HF.out.kept (Kept.of_below HB1.out)) HRF.out).mono ?_
            rintro e w2 ⟨rfl, hb2⟩
            have HST2 := Lib.hid (HST1.out.next hb2)
            have HB2 := Lib.hid (below_next HB1.out hb2)
            clear hb2 HST1 HB1
            rw [HM2.out]
            have c0 := HST2.out.cell 0
            have c1 := HST2.out.cell 1
            have c2 := HST2.out.cell 2
            simp only [List.getElem?_toArray, List.getElem?_cons_zero, List.getElem?_cons_succ] at c0 c1 c2
            go_wp2_with fail
            refine (word_any 1 _).mono ?_
            rintro e w3 ⟨rfl, rfl⟩
            simp only [wordS]
            go_wp2_with fail
            have HQ := Lib.hid (HTU.out w2 (HS.out.kept (Kept.of_below HB2.out)) (HF.out.kept (Kept.of_below HB2.out)))
            refine HQ.out.mono ?_
            rintro e w4 ⟨B4, d4, rfl, he4, hb4⟩
            have hbd4 := he4.bd
            have HE4 := Lib.hid he4
            have HB4 := Lib.hid (below_next HB2.out hb4)
            clear he4 hb4 HQ HTU
            dsimp only at HE4 HTF HTL hbd4 ⊢
            by_cases her : er = 0
            · subst her
              by_cases h10 : 10 < t.length
              · have HDN := Lib.hid (done_many (s := s) h10)
                have h10i : (10 : Int) < (t.length : Int) := by omega
                clear h10
                go_wp2_with fail
                go_ret2
                exact RetEE.none_ (HDO.out.trans HDN.out) HB4.out
              · have h10i : decide ((10 : Int) < (t.length : Int)) = false := decide_eq_false (by omega)
                have HFT := Lib.hid (fewD.e (l := t) (by omega) HTF.out)
                have HFS := Lib.hid (fewD.e (l := s) (by omega) HX.out)
                have H10 := Lib.hid h10
                clear h10
                go_wp2_with fail
                have HQ := Lib.hid (wrong_any B4 d4 t w4 HE4.out HFT.out)
                refine HQ.out.mono ?_
                rintro e w5 ⟨A5, c5, rfl, hv5, hb5⟩
                have HV5 := Lib.hid hv5
                have HB5 := Lib.hid (below_next HB4.out hb5)
                have HE5 := Lib.hid (HE4.out.kept (Kept.of_below hb5))
                clear hv5 hb5 HQ
                go_wp2_with fail
                have HQ := Lib.hid (wrong_any A c s w5 (HS.out.kept (Kept.of_below HB5.out)) HFS.out)
                refine HQ.out.mono ?_
                rintro e w6 ⟨A6, c6, rfl, hv6, hb6⟩
                have HV6 := Lib.hid hv6
                have HV5 := Lib.hid (HV5.out.kept (Kept.of_below hb6))
                have HB6 := Lib.hid (below_next HB5.out hb6)
                have HE6 := Lib.hid (HE5.out.kept (Kept.of_below hb6))
                clear hv6 hb6 HQ
                obtain ⟨V5, hV5⟩ : ∃ V, V = wrongS t := ⟨_, rfl⟩
                obtain ⟨V6, hV6⟩ : ∃ V, V = wrongS s := ⟨_, rfl⟩
                rw [← hV5] at HV5 ⊢
                rw [← hV6] at HV6 ⊢
                have HVE5 := Lib.hid hV5
                have HVE6 := Lib.hid hV6
                clear hV5 hV6
                go_wp2_with fail
                have HQ := Lib.hid (within_any A5 A6 c5 c6 V5 V6 w6 HV5.out HV6.out)
                refine HQ.out.mono ?_
                rintro e w7 ⟨rfl, hb7⟩
                have HB7 := Lib.hid (below_next HB6.out hb7)
                have HE7 := Lib.hid (HE6.out.kept (Kept.of_below hb7))
                clear hb7 HQ
                rcases hwi : withinS V5 V6
                · have HDN := Lib.hid (done_out (s := s) H10.out (by rw [← HVE5.out, ← HVE6.out]; exact hwi))
                  clear hwi
                  go_wp2_with fail
                  go_ret2
                  exact RetEE.none_ (HDO.out.trans HDN.out) HB7.out
                · have HDN := Lib.hid (done_in (s := s) H10.out (by rw [← HVE5.out, ← HVE6.out]; exact hwi))
                  clear hwi
                  go_wp2_with fail
                  go_ret2
                  unfold RetEE
                  rw [HDO.out.trans HDN.out]
                  exact ⟨B4, d4, rfl, HE7.out, HB7.out⟩
            · have HDN := Lib.hid (done_err (s := s) (t := t) her)
              have hEb : (er != 0) = true := by rw [bne_iff_ne]; exact her
              clear her
              go_wp2_with fail
              go_ret2
              exact RetEE.none_ (HDO.out.trans HDN.out) HB4.out
          · have HDO := Lib.hid (do_bad (st := ⟨1, nm, vr⟩) h1 h2 (by simp [badK, hv]))
            have hvb : (vr == []) = false := by simpa using hv
            have hvn : (vr != []) = true := by simpa using hv
            clear h1 h2 hk hv
            go_enter Tryz.func18, Tryz.ntmps18
            have HST0 := Lib.hid (blk_new1 w 24 #[.int .i64 (1), .string (bs nm), .string (bs (vr))])
            have HB0 := Lib.hid (below_alloc (Below.refl w.heap.size w) (.cells #[.int .i64 (1), .string (bs nm), .string (bs (vr))] 24))
            go_wp2_with fail
            refine (ents_any _ _ s _ (HS.out.kept (Kept.of_below HB0.out)) HRS.out).mono ?_
            rintro e w1 ⟨rfl, hb1⟩
            have HST1 := Lib.hid (HST0.out.next hb1)
            have HB1 := Lib.hid (below_next HB0.out hb1)
            clear hb1 HST0 HB0
            rw [HM.out]
            go_wp2_with fail
            refine (mayAll_any _ _ fr _ (HF.out.kept (Kept.of_below HB1.out)) HRF.out).mono ?_
            rintro e w2 ⟨rfl, hb2⟩
            have HST2 := Lib.hid (HST1.out.next hb2)
            have HB2 := Lib.hid (below_next HB1.out hb2)
            clear hb2 HST1 HB1
            rw [HM2.out]
            have c0 := HST2.out.cell 0
            have c1 := HST2.out.cell 1
            have c2 := HST2.out.cell 2
            simp only [List.getElem?_toArray, List.getElem?_cons_zero, List.getElem?_cons_succ] at c0 c1 c2
            go_wp2_with fail
            refine (word_any 1 _).mono ?_
            rintro e w3 ⟨rfl, rfl⟩
            simp only [wordS]
            go_wp2_with fail
            go_ret2
            exact RetEE.none_ HDO.out HB2.out
        · by_cases hv : vr = []
          · subst hv
            have HDO := Lib.hid (do_turn (st := ⟨2, nm, []⟩) h1 h2 (by simp [badK]))
            obtain ⟨r, hr⟩ : ∃ r, r = turnS s ⟨2, nm, []⟩ fr := ⟨_, rfl⟩
            have HTF := Lib.hid (turn_fewD (s := s) (st := ⟨2, nm, []⟩) (fr := fr) HX.out HP.out)
            have HTL := Lib.hid (turn_len s ⟨2, nm, []⟩ fr)
            have htu := fun W (hs : Ents W A c s) (hf : Pkgs W A' c' fr) => turn_any s A c nm [] 2 (by decide) fr A' c' W hs hf (fun x h => (HX.out x h).1) (fun p h => (HP.out p h).1) (by omega) HUP.out
            rw [← hr] at HDO HTF HTL
            rw [← hr] at htu
            have HTU := Lib.hid htu
            clear h1 h2 hk hr htu
            obtain ⟨t, er⟩ := r
            go_enter Tryz.func18, Tryz.ntmps18
            have HST0 := Lib.hid (blk_new1 w 24 #[.int .i64 (2), .string (bs nm), .string (bs ([]))])
            have HB0 := Lib.hid (below_alloc (Below.refl w.heap.size w) (.cells #[.int .i64 (2), .string (bs nm), .string (bs ([]))] 24))
            go_wp2_with fail
            refine (ents_any _ _ s _ (HS.out.kept (Kept.of_below HB0.out)) HRS.out).mono ?_
            rintro e w1 ⟨rfl, hb1⟩
            have HST1 := Lib.hid (HST0.out.next hb1)
            have HB1 := Lib.hid (below_next HB0.out hb1)
            clear hb1 HST0 HB0
            rw [HM.out]
            go_wp2_with fail
            refine (mayAll_any _ _ fr _ (HF.out.kept (Kept.of_below HB1.out)) HRF.out).mono ?_
            rintro e w2 ⟨rfl, hb2⟩
            have HST2 := Lib.hid (HST1.out.next hb2)
            have HB2 := Lib.hid (below_next HB1.out hb2)
            clear hb2 HST1 HB1
            rw [HM2.out]
            have c0 := HST2.out.cell 0
            have c1 := HST2.out.cell 1
            have c2 := HST2.out.cell 2
            simp only [List.getElem?_toArray, List.getElem?_cons_zero, List.getElem?_cons_succ] at c0 c1 c2
            go_wp2_with fail
            refine (word_any 2 _).mono ?_
            rintro e w3 ⟨rfl, rfl⟩
            simp only [wordS]
            go_wp2_with fail
            have HQ := Lib.hid (HTU.out w2 (HS.out.kept (Kept.of_below HB2.out)) (HF.out.kept (Kept.of_below HB2.out)))
            refine HQ.out.mono ?_
            rintro e w4 ⟨B4, d4, rfl, he4, hb4⟩
            have hbd4 := he4.bd
            have HE4 := Lib.hid he4
            have HB4 := Lib.hid (below_next HB2.out hb4)
            clear he4 hb4 HQ HTU
            dsimp only at HE4 HTF HTL hbd4 ⊢
            by_cases her : er = 0
            · subst her
              by_cases h10 : 10 < t.length
              · have HDN := Lib.hid (done_many (s := s) h10)
                have h10i : (10 : Int) < (t.length : Int) := by omega
                clear h10
                go_wp2_with fail
                go_ret2
                exact RetEE.none_ (HDO.out.trans HDN.out) HB4.out
              · have h10i : decide ((10 : Int) < (t.length : Int)) = false := decide_eq_false (by omega)
                have HFT := Lib.hid (fewD.e (l := t) (by omega) HTF.out)
                have HFS := Lib.hid (fewD.e (l := s) (by omega) HX.out)
                have H10 := Lib.hid h10
                clear h10
                go_wp2_with fail
                have HQ := Lib.hid (wrong_any B4 d4 t w4 HE4.out HFT.out)
                refine HQ.out.mono ?_
                rintro e w5 ⟨A5, c5, rfl, hv5, hb5⟩
                have HV5 := Lib.hid hv5
                have HB5 := Lib.hid (below_next HB4.out hb5)
                have HE5 := Lib.hid (HE4.out.kept (Kept.of_below hb5))
                clear hv5 hb5 HQ
                go_wp2_with fail
                have HQ := Lib.hid (wrong_any A c s w5 (HS.out.kept (Kept.of_below HB5.out)) HFS.out)
                refine HQ.out.mono ?_
                rintro e w6 ⟨A6, c6, rfl, hv6, hb6⟩
                have HV6 := Lib.hid hv6
                have HV5 := Lib.hid (HV5.out.kept (Kept.of_below hb6))
                have HB6 := Lib.hid (below_next HB5.out hb6)
                have HE6 := Lib.hid (HE5.out.kept (Kept.of_below hb6))
                clear hv6 hb6 HQ
                obtain ⟨V5, hV5⟩ : ∃ V, V = wrongS t := ⟨_, rfl⟩
                obtain ⟨V6, hV6⟩ : ∃ V, V = wrongS s := ⟨_, rfl⟩
                rw [← hV5] at HV5 ⊢
                rw [← hV6] at HV6 ⊢
                have HVE5 := Lib.hid hV5
                have HVE6 := Lib.hid hV6
                clear hV5 hV6
                go_wp2_with fail
                have HQ := Lib.hid (within_any A5 A6 c5 c6 V5 V6 w6 HV5.out HV6.out)
                refine HQ.out.mono ?_
                rintro e w7 ⟨rfl, hb7⟩
                have HB7 := Lib.hid (below_next HB6.out hb7)
                have HE7 := Lib.hid (HE6.out.kept (Kept.of_below hb7))
                clear hb7 HQ
                rcases hwi : withinS V5 V6
                · have HDN := Lib.hid (done_out (s := s) H10.out (by rw [← HVE5.out, ← HVE6.out]; exact hwi))
                  clear hwi
                  go_wp2_with fail
                  go_ret2
                  exact RetEE.none_ (HDO.out.trans HDN.out) HB7.out
                · have HDN := Lib.hid (done_in (s := s) H10.out (by rw [← HVE5.out, ← HVE6.out]; exact hwi))
                  clear hwi
                  go_wp2_with fail
                  go_ret2
                  unfold RetEE
                  rw [HDO.out.trans HDN.out]
                  exact ⟨B4, d4, rfl, HE7.out, HB7.out⟩
            · have HDN := Lib.hid (done_err (s := s) (t := t) her)
              have hEb : (er != 0) = true := by rw [bne_iff_ne]; exact her
              clear her
              go_wp2_with fail
              go_ret2
              exact RetEE.none_ (HDO.out.trans HDN.out) HB4.out
          · have HDO := Lib.hid (do_bad (st := ⟨2, nm, vr⟩) h1 h2 (by simp [badK, hv]))
            have hvb : (vr == []) = false := by simpa using hv
            have hvn : (vr != []) = true := by simpa using hv
            clear h1 h2 hk hv
            go_enter Tryz.func18, Tryz.ntmps18
            have HST0 := Lib.hid (blk_new1 w 24 #[.int .i64 (2), .string (bs nm), .string (bs (vr))])
            have HB0 := Lib.hid (below_alloc (Below.refl w.heap.size w) (.cells #[.int .i64 (2), .string (bs nm), .string (bs (vr))] 24))
            go_wp2_with fail
            refine (ents_any _ _ s _ (HS.out.kept (Kept.of_below HB0.out)) HRS.out).mono ?_
            rintro e w1 ⟨rfl, hb1⟩
            have HST1 := Lib.hid (HST0.out.next hb1)
            have HB1 := Lib.hid (below_next HB0.out hb1)
            clear hb1 HST0 HB0
            rw [HM.out]
            go_wp2_with fail
            refine (mayAll_any _ _ fr _ (HF.out.kept (Kept.of_below HB1.out)) HRF.out).mono ?_
            rintro e w2 ⟨rfl, hb2⟩
            have HST2 := Lib.hid (HST1.out.next hb2)
            have HB2 := Lib.hid (below_next HB1.out hb2)
            clear hb2 HST1 HB1
            rw [HM2.out]
            have c0 := HST2.out.cell 0
            have c1 := HST2.out.cell 1
            have c2 := HST2.out.cell 2
            simp only [List.getElem?_toArray, List.getElem?_cons_zero, List.getElem?_cons_succ] at c0 c1 c2
            go_wp2_with fail
            refine (word_any 2 _).mono ?_
            rintro e w3 ⟨rfl, rfl⟩
            simp only [wordS]
            go_wp2_with fail
            go_ret2
            exact RetEE.none_ HDO.out HB2.out
        · have HDO := Lib.hid (do_turn (st := ⟨3, nm, vr⟩) h1 h2 (by simp [badK]))
          obtain ⟨r, hr⟩ : ∃ r, r = turnS s ⟨3, nm, vr⟩ fr := ⟨_, rfl⟩
          have HTF := Lib.hid (turn_fewD (s := s) (st := ⟨3, nm, vr⟩) (fr := fr) HX.out HP.out)
          have HTL := Lib.hid (turn_len s ⟨3, nm, vr⟩ fr)
          have htu := fun W (hs : Ents W A c s) (hf : Pkgs W A' c' fr) => turn_any s A c nm vr 3 (by decide) fr A' c' W hs hf (fun x h => (HX.out x h).1) (fun p h => (HP.out p h).1) (by omega) HUP.out
          rw [← hr] at HDO HTF HTL
          rw [← hr] at htu
          have HTU := Lib.hid htu
          clear h1 h2 hk hr htu
          obtain ⟨t, er⟩ := r
          go_enter Tryz.func18, Tryz.ntmps18
          have HST0 := Lib.hid (blk_new1 w 24 #[.int .i64 (3), .string (bs nm), .string (bs (vr))])
          have HB0 := Lib.hid (below_alloc (Below.refl w.heap.size w) (.cells #[.int .i64 (3), .string (bs nm), .string (bs (vr))] 24))
          go_wp2_with fail
          refine (ents_any _ _ s _ (HS.out.kept (Kept.of_below HB0.out)) HRS.out).mono ?_
          rintro e w1 ⟨rfl, hb1⟩
          have HST1 := Lib.hid (HST0.out.next hb1)
          have HB1 := Lib.hid (below_next HB0.out hb1)
          clear hb1 HST0 HB0
          rw [HM.out]
          go_wp2_with fail
          refine (mayAll_any _ _ fr _ (HF.out.kept (Kept.of_below HB1.out)) HRF.out).mono ?_
          rintro e w2 ⟨rfl, hb2⟩
          have HST2 := Lib.hid (HST1.out.next hb2)
          have HB2 := Lib.hid (below_next HB1.out hb2)
          clear hb2 HST1 HB1
          rw [HM2.out]
          have c0 := HST2.out.cell 0
          have c1 := HST2.out.cell 1
          have c2 := HST2.out.cell 2
          simp only [List.getElem?_toArray, List.getElem?_cons_zero, List.getElem?_cons_succ] at c0 c1 c2
          go_wp2_with fail
          refine (word_any 3 _).mono ?_
          rintro e w3 ⟨rfl, rfl⟩
          simp only [wordS]
          go_wp2_with fail
          have HQ := Lib.hid (HTU.out w2 (HS.out.kept (Kept.of_below HB2.out)) (HF.out.kept (Kept.of_below HB2.out)))
          refine HQ.out.mono ?_
          rintro e w4 ⟨B4, d4, rfl, he4, hb4⟩
          have hbd4 := he4.bd
          have HE4 := Lib.hid he4
          have HB4 := Lib.hid (below_next HB2.out hb4)
          clear he4 hb4 HQ HTU
          dsimp only at HE4 HTF HTL hbd4 ⊢
          by_cases her : er = 0
          · subst her
            by_cases h10 : 10 < t.length
            · have HDN := Lib.hid (done_many (s := s) h10)
              have h10i : (10 : Int) < (t.length : Int) := by omega
              clear h10
              go_wp2_with fail
              go_ret2
              exact RetEE.none_ (HDO.out.trans HDN.out) HB4.out
            · have h10i : decide ((10 : Int) < (t.length : Int)) = false := decide_eq_false (by omega)
              have HFT := Lib.hid (fewD.e (l := t) (by omega) HTF.out)
              have HFS := Lib.hid (fewD.e (l := s) (by omega) HX.out)
              have H10 := Lib.hid h10
              clear h10
              go_wp2_with fail
              have HQ := Lib.hid (wrong_any B4 d4 t w4 HE4.out HFT.out)
              refine HQ.out.mono ?_
              rintro e w5 ⟨A5, c5, rfl, hv5, hb5⟩
              have HV5 := Lib.hid hv5
              have HB5 := Lib.hid (below_next HB4.out hb5)
              have HE5 := Lib.hid (HE4.out.kept (Kept.of_below hb5))
              clear hv5 hb5 HQ
              go_wp2_with fail
              have HQ := Lib.hid (wrong_any A c s w5 (HS.out.kept (Kept.of_below HB5.out)) HFS.out)
              refine HQ.out.mono ?_
              rintro e w6 ⟨A6, c6, rfl, hv6, hb6⟩
              have HV6 := Lib.hid hv6
              have HV5 := Lib.hid (HV5.out.kept (Kept.of_below hb6))
              have HB6 := Lib.hid (below_next HB5.out hb6)
              have HE6 := Lib.hid (HE5.out.kept (Kept.of_below hb6))
              clear hv6 hb6 HQ
              obtain ⟨V5, hV5⟩ : ∃ V, V = wrongS t := ⟨_, rfl⟩
              obtain ⟨V6, hV6⟩ : ∃ V, V = wrongS s := ⟨_, rfl⟩
              rw [← hV5] at HV5 ⊢
              rw [← hV6] at HV6 ⊢
              have HVE5 := Lib.hid hV5
              have HVE6 := Lib.hid hV6
              clear hV5 hV6
              go_wp2_with fail
              have HQ := Lib.hid (within_any A5 A6 c5 c6 V5 V6 w6 HV5.out HV6.out)
              refine HQ.out.mono ?_
              rintro e w7 ⟨rfl, hb7⟩
              have HB7 := Lib.hid (below_next HB6.out hb7)
              have HE7 := Lib.hid (HE6.out.kept (Kept.of_below hb7))
              clear hb7 HQ
              rcases hwi : withinS V5 V6
              · have HDN := Lib.hid (done_out (s := s) H10.out (by rw [← HVE5.out, ← HVE6.out]; exact hwi))
                clear hwi
                go_wp2_with fail
                go_ret2
                exact RetEE.none_ (HDO.out.trans HDN.out) HB7.out
              · have HDN := Lib.hid (done_in (s := s) H10.out (by rw [← HVE5.out, ← HVE6.out]; exact hwi))
                clear hwi
                go_wp2_with fail
                go_ret2
                unfold RetEE
                rw [HDO.out.trans HDN.out]
                exact ⟨B4, d4, rfl, HE7.out, HB7.out⟩
          · have HDN := Lib.hid (done_err (s := s) (t := t) her)
            have hEb : (er != 0) = true := by rw [bne_iff_ne]; exact her
            clear her
            go_wp2_with fail
            go_ret2
            exact RetEE.none_ (HDO.out.trans HDN.out) HB4.out
        · by_cases hv : vr = []
          · subst hv
            have HDO := Lib.hid (do_turn (st := ⟨4, nm, []⟩) h1 h2 (by simp [badK]))
            obtain ⟨r, hr⟩ : ∃ r, r = turnS s ⟨4, nm, []⟩ fr := ⟨_, rfl⟩
            have HTF := Lib.hid (turn_fewD (s := s) (st := ⟨4, nm, []⟩) (fr := fr) HX.out HP.out)
            have HTL := Lib.hid (turn_len s ⟨4, nm, []⟩ fr)
            have htu := fun W (hs : Ents W A c s) (hf : Pkgs W A' c' fr) => turn_any s A c nm [] 4 (by decide) fr A' c' W hs hf (fun x h => (HX.out x h).1) (fun p h => (HP.out p h).1) (by omega) HUP.out
            rw [← hr] at HDO HTF HTL
            rw [← hr] at htu
            have HTU := Lib.hid htu
            clear h1 h2 hk hr htu
            obtain ⟨t, er⟩ := r
            go_enter Tryz.func18, Tryz.ntmps18
            have HST0 := Lib.hid (blk_new1 w 24 #[.int .i64 (4), .string (bs nm), .string (bs ([]))])
            have HB0 := Lib.hid (below_alloc (Below.refl w.heap.size w) (.cells #[.int .i64 (4), .string (bs nm), .string (bs ([]))] 24))
            go_wp2_with fail
            refine (ents_any _ _ s _ (HS.out.kept (Kept.of_below HB0.out)) HRS.out).mono ?_
            rintro e w1 ⟨rfl, hb1⟩
            have HST1 := Lib.hid (HST0.out.next hb1)
            have HB1 := Lib.hid (below_next HB0.out hb1)
            clear hb1 HST0 HB0
            rw [HM.out]
            go_wp2_with fail
            refine (mayAll_any _ _ fr _ (HF.out.kept (Kept.of_below HB1.out)) HRF.out).mono ?_
            rintro e w2 ⟨rfl, hb2⟩
            have HST2 := Lib.hid (HST1.out.next hb2)
            have HB2 := Lib.hid (below_next HB1.out hb2)
            clear hb2 HST1 HB1
            rw [HM2.out]
            have c0 := HST2.out.cell 0
            have c1 := HST2.out.cell 1
            have c2 := HST2.out.cell 2
            simp only [List.getElem?_toArray, List.getElem?_cons_zero, List.getElem?_cons_succ] at c0 c1 c2
            go_wp2_with fail
            refine (word_any 4 _).mono ?_
            rintro e w3 ⟨rfl, rfl⟩
            simp only [wordS]
            go_wp2_with fail
            have HQ := Lib.hid (HTU.out w2 (HS.out.kept (Kept.of_below HB2.out)) (HF.out.kept (Kept.of_below HB2.out)))
            refine HQ.out.mono ?_
            rintro e w4 ⟨B4, d4, rfl, he4, hb4⟩
            have hbd4 := he4.bd
            have HE4 := Lib.hid he4
            have HB4 := Lib.hid (below_next HB2.out hb4)
            clear he4 hb4 HQ HTU
            dsimp only at HE4 HTF HTL hbd4 ⊢
            by_cases her : er = 0
            · subst her
              by_cases h10 : 10 < t.length
              · have HDN := Lib.hid (done_many (s := s) h10)
                have h10i : (10 : Int) < (t.length : Int) := by omega
                clear h10
                go_wp2_with fail
                go_ret2
                exact RetEE.none_ (HDO.out.trans HDN.out) HB4.out
              · have h10i : decide ((10 : Int) < (t.length : Int)) = false := decide_eq_false (by omega)
                have HFT := Lib.hid (fewD.e (l := t) (by omega) HTF.out)
                have HFS := Lib.hid (fewD.e (l := s) (by omega) HX.out)
                have H10 := Lib.hid h10
                clear h10
                go_wp2_with fail
                have HQ := Lib.hid (wrong_any B4 d4 t w4 HE4.out HFT.out)
                refine HQ.out.mono ?_
                rintro e w5 ⟨A5, c5, rfl, hv5, hb5⟩
                have HV5 := Lib.hid hv5
                have HB5 := Lib.hid (below_next HB4.out hb5)
                have HE5 := Lib.hid (HE4.out.kept (Kept.of_below hb5))
                clear hv5 hb5 HQ
                go_wp2_with fail
                have HQ := Lib.hid (wrong_any A c s w5 (HS.out.kept (Kept.of_below HB5.out)) HFS.out)
                refine HQ.out.mono ?_
                rintro e w6 ⟨A6, c6, rfl, hv6, hb6⟩
                have HV6 := Lib.hid hv6
                have HV5 := Lib.hid (HV5.out.kept (Kept.of_below hb6))
                have HB6 := Lib.hid (below_next HB5.out hb6)
                have HE6 := Lib.hid (HE5.out.kept (Kept.of_below hb6))
                clear hv6 hb6 HQ
                obtain ⟨V5, hV5⟩ : ∃ V, V = wrongS t := ⟨_, rfl⟩
                obtain ⟨V6, hV6⟩ : ∃ V, V = wrongS s := ⟨_, rfl⟩
                rw [← hV5] at HV5 ⊢
                rw [← hV6] at HV6 ⊢
                have HVE5 := Lib.hid hV5
                have HVE6 := Lib.hid hV6
                clear hV5 hV6
                go_wp2_with fail
                have HQ := Lib.hid (within_any A5 A6 c5 c6 V5 V6 w6 HV5.out HV6.out)
                refine HQ.out.mono ?_
                rintro e w7 ⟨rfl, hb7⟩
                have HB7 := Lib.hid (below_next HB6.out hb7)
                have HE7 := Lib.hid (HE6.out.kept (Kept.of_below hb7))
                clear hb7 HQ
                rcases hwi : withinS V5 V6
                · have HDN := Lib.hid (done_out (s := s) H10.out (by rw [← HVE5.out, ← HVE6.out]; exact hwi))
                  clear hwi
                  go_wp2_with fail
                  go_ret2
                  exact RetEE.none_ (HDO.out.trans HDN.out) HB7.out
                · have HDN := Lib.hid (done_in (s := s) H10.out (by rw [← HVE5.out, ← HVE6.out]; exact hwi))
                  clear hwi
                  go_wp2_with fail
                  go_ret2
                  unfold RetEE
                  rw [HDO.out.trans HDN.out]
                  exact ⟨B4, d4, rfl, HE7.out, HB7.out⟩
            · have HDN := Lib.hid (done_err (s := s) (t := t) her)
              have hEb : (er != 0) = true := by rw [bne_iff_ne]; exact her
              clear her
              go_wp2_with fail
              go_ret2
              exact RetEE.none_ (HDO.out.trans HDN.out) HB4.out
          · have HDO := Lib.hid (do_bad (st := ⟨4, nm, vr⟩) h1 h2 (by simp [badK, hv]))
            have hvb : (vr == []) = false := by simpa using hv
            have hvn : (vr != []) = true := by simpa using hv
            clear h1 h2 hk hv
            go_enter Tryz.func18, Tryz.ntmps18
            have HST0 := Lib.hid (blk_new1 w 24 #[.int .i64 (4), .string (bs nm), .string (bs (vr))])
            have HB0 := Lib.hid (below_alloc (Below.refl w.heap.size w) (.cells #[.int .i64 (4), .string (bs nm), .string (bs (vr))] 24))
            go_wp2_with fail
            refine (ents_any _ _ s _ (HS.out.kept (Kept.of_below HB0.out)) HRS.out).mono ?_
            rintro e w1 ⟨rfl, hb1⟩
            have HST1 := Lib.hid (HST0.out.next hb1)
            have HB1 := Lib.hid (below_next HB0.out hb1)
            clear hb1 HST0 HB0
            rw [HM.out]
            go_wp2_with fail
            refine (mayAll_any _ _ fr _ (HF.out.kept (Kept.of_below HB1.out)) HRF.out).mono ?_
            rintro e w2 ⟨rfl, hb2⟩
            have HST2 := Lib.hid (HST1.out.next hb2)
            have HB2 := Lib.hid (below_next HB1.out hb2)
            clear hb2 HST1 HB1
            rw [HM2.out]
            have c0 := HST2.out.cell 0
            have c1 := HST2.out.cell 1
            have c2 := HST2.out.cell 2
            simp only [List.getElem?_toArray, List.getElem?_cons_zero, List.getElem?_cons_succ] at c0 c1 c2
            go_wp2_with fail
            refine (word_any 4 _).mono ?_
            rintro e w3 ⟨rfl, rfl⟩
            simp only [wordS]
            go_wp2_with fail
            go_ret2
            exact RetEE.none_ HDO.out HB2.out
      · have HDO := Lib.hid (do_bad (st := ⟨k, nm, vr⟩) h1 h2 (by unfold badK; simp only [Bool.or_eq_true, Bool.not_eq_true', Bool.and_eq_false_iff, decide_eq_false_iff_not]; left; omega))
        have HW := Lib.hid ((word_nil k).2 hk)
        clear h1 h2 hk
        go_enter Tryz.func18, Tryz.ntmps18
        have HST0 := Lib.hid (blk_new1 w 24 #[.int .i64 (k), .string (bs nm), .string (bs (vr))])
        have HB0 := Lib.hid (below_alloc (Below.refl w.heap.size w) (.cells #[.int .i64 (k), .string (bs nm), .string (bs (vr))] 24))
        go_wp2_with fail
        refine (ents_any _ _ s _ (HS.out.kept (Kept.of_below HB0.out)) HRS.out).mono ?_
        rintro e w1 ⟨rfl, hb1⟩
        have HST1 := Lib.hid (HST0.out.next hb1)
        have HB1 := Lib.hid (below_next HB0.out hb1)
        clear hb1 HST0 HB0
        rw [HM.out]
        go_wp2_with fail
        refine (mayAll_any _ _ fr _ (HF.out.kept (Kept.of_below HB1.out)) HRF.out).mono ?_
        rintro e w2 ⟨rfl, hb2⟩
        have HST2 := Lib.hid (HST1.out.next hb2)
        have HB2 := Lib.hid (below_next HB1.out hb2)
        clear hb2 HST1 HB1
        rw [HM2.out]
        have c0 := HST2.out.cell 0
        have c1 := HST2.out.cell 1
        have c2 := HST2.out.cell 2
        simp only [List.getElem?_toArray, List.getElem?_cons_zero, List.getElem?_cons_succ] at c0 c1 c2
        go_wp2_with fail
        refine (word_any k _).mono ?_
        rintro e w3 ⟨rfl, rfl⟩
        rw [HW.out]
        go_wp2_with fail
        go_ret2
        exact RetEE.none_ HDO.out HB2.out
    · have HDO := Lib.hid (do_all (st := ⟨k, nm, vr⟩) h1 h2)
      obtain ⟨E, hE⟩ : ∃ E, mayAllE fr = E := ⟨_, rfl⟩
      rw [hE] at h2 HDO
      have HM2 := Lib.hid hE
      have hEb : (E != 0) = true := by rw [bne_iff_ne]; exact h2
      clear h1 h2 hE
      go_enter Tryz.func18, Tryz.ntmps18
      have HST0 := Lib.hid (blk_new1 w 24 #[.int .i64 (k), .string (bs nm), .string (bs (vr))])
      have HB0 := Lib.hid (below_alloc (Below.refl w.heap.size w) (.cells #[.int .i64 (k), .string (bs nm), .string (bs (vr))] 24))
      go_wp2_with fail
      refine (ents_any _ _ s _ (HS.out.kept (Kept.of_below HB0.out)) HRS.out).mono ?_
      rintro e w1 ⟨rfl, hb1⟩
      have HST1 := Lib.hid (HST0.out.next hb1)
      have HB1 := Lib.hid (below_next HB0.out hb1)
      clear hb1 HST0 HB0
      rw [HM.out]
      go_wp2_with fail
      refine (mayAll_any _ _ fr _ (HF.out.kept (Kept.of_below HB1.out)) HRF.out).mono ?_
      rintro e w2 ⟨rfl, hb2⟩
      have HST2 := Lib.hid (HST1.out.next hb2)
      have HB2 := Lib.hid (below_next HB1.out hb2)
      clear hb2 HST1 HB1
      rw [HM2.out]
      have c0 := HST2.out.cell 0
      have c1 := HST2.out.cell 1
      have c2 := HST2.out.cell 2
      simp only [List.getElem?_toArray, List.getElem?_cons_zero, List.getElem?_cons_succ] at c0 c1 c2
      go_wp2_with fail
      go_ret2
      exact RetEE.none_ HDO.out HB2.out
  · have HDO := Lib.hid (do_ents (st := ⟨k, nm, vr⟩) (fr := fr) h1)
    obtain ⟨E, hE⟩ : ∃ E, mayEntsE s = E := ⟨_, rfl⟩
    rw [hE] at h1 HDO
    have HM := Lib.hid hE
    have hEb : (E != 0) = true := by rw [bne_iff_ne]; exact h1
    clear h1 hE
    go_enter Tryz.func18, Tryz.ntmps18
    have HST0 := Lib.hid (blk_new1 w 24 #[.int .i64 (k), .string (bs nm), .string (bs (vr))])
    have HB0 := Lib.hid (below_alloc (Below.refl w.heap.size w) (.cells #[.int .i64 (k), .string (bs nm), .string (bs (vr))] 24))
    go_wp2_with fail
    refine (ents_any _ _ s _ (HS.out.kept (Kept.of_below HB0.out)) HRS.out).mono ?_
    rintro e w1 ⟨rfl, hb1⟩
    have HST1 := Lib.hid (HST0.out.next hb1)
    have HB1 := Lib.hid (below_next HB0.out hb1)
    clear hb1 HST0 HB0
    rw [HM.out]
    go_wp2_with fail
    go_ret2
    exact RetEE.none_ HDO.out HB1.out
end Go.Proofs.YtaicidbopgnmfaaGreatDoor
