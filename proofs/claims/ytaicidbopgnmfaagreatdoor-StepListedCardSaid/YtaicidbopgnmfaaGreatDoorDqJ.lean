/- The law StepListed. -/
import Derived.Test.YtaicidbopgnmfaaGreatDoorDqF
import Derived.Test.YtaicidbopgnmfaaGreatDoorDqP
import Derived.Test.YtaicidbopgnmfaaGreatDoorDoL
namespace Go.Proofs.YtaicidbopgnmfaaGreatDoor
set_option linter.unusedSimpArgs false
set_option linter.unusedVariables false
open Go.RowKit
attribute [local irreducible] wpQuiet
def pkgV (n v : List UInt8) : Pkg := ⟨n, v, [], [], [], [], [], [], false⟩
theorem pkgV_one {w : World} {xn xv : List UInt8} {g : Nat} (hn : short xn) (hv : short xv) (hB : Blk w g 43 #[.string (bs xn), .string (bs xv), .slice none 0 0, .slice none 0 0, .slice none 0 0, .slice none 0 0, .slice none 0 0, .slice none 0 0, .bool false]) : Pkgs w (some ⟨g, 0, none⟩) 1 [pkgV xn xv] :=
  slc_blk [encK ⟨none, none, none, none, none, none, 0, 0, 0, 0, 0, 0⟩ (pkgV xn xv)] hB rfl rfl (fun i cs x h1 h2 => by
    rcases i with _ | i
    · simp at h1 h2
      subst h1 h2
      exact ⟨⟨_, rfl, hn, hv, Slc.nil_ (Nat.zero_le _), Slc.nil_ (Nat.zero_le _), Slc.nil_ (Nat.zero_le _), Slc.nil_ (Nat.zero_le _), Slc.nil_ (Nat.zero_le _), Slc.nil_ (Nat.zero_le _)⟩, rfl⟩
    · simp at h1) (by simp [encK, pkgV]) (by show 1 * 184 ≤ _; decide) (by simp) (by decide)
theorem idx_pkgV {xn xv n v : List UInt8} (h : xn = n) : idxS (fndP n v) [pkgV xn xv] = if sameV xv v then 0 else -1 := by
  subst h
  rcases hs : sameV xv v <;> simp [idxS, fndP, pkgV, hs]
theorem inB_k {st x : Stp} (h : x.kind ≠ st.kind) : inB st x = false := by simp [inB, h]
theorem inB_n {st x : Stp} (h : x.name ≠ st.name) : inB st x = false := by simp [inB, h]
theorem inB_o {st x : Stp} (h : x.kind = st.kind) (h2 : x.name = st.name) (h3 : x.kind ≠ 3) : inB st x = decide (st.ver = []) := by simp [inB, h, h2, h3]; simp [← h, h3]
theorem inB_u {st x : Stp} (h : x.kind = st.kind) (h2 : x.name = st.name) (h3 : x.kind = 3) : inB st x = sameV x.ver st.ver := by simp [inB, h2, h3, ← h]
theorem any_bit {α : Type} {l : List α} {p : α → Bool} {k : Nat} {q : α} (h : l[k]? = some q) : (l.take (k + 1)).any p = ((l.take k).any p || p q) := by rw [take_step h, List.any_append]; simp
theorem name_short {n : List UInt8} (h : nameS n = true) : short n := by
  unfold nameS at h
  simp only [Bool.and_eq_true, decide_eq_true_eq] at h
  unfold short
  omega
theorem ver_short {n : List UInt8} (h : isV n = true) : short n := by
  unfold isV verS at h
  unfold short
  by_cases h1 : n.length = 0 ∨ 48 < n.length
  · rw [if_pos h1] at h; cases h
  · omega
theorem mayE_n {p : Pkg} (h : mayE p = 0) : nameS p.name = true := by
  rcases hv : nameS p.name
  · rw [mayE_name hv] at h; exact absurd h (by decide)
  · rfl
theorem all_short {s : List Ent} {fr : List Pkg} {x : Stp} (h : x ∈ allS s fr) : short x.name ∧ short x.ver := by
  obtain ⟨hm, hd⟩ := all_mem.1 h
  obtain ⟨h1, h2⟩ := done_all hd
  unfold mayL at hm
  rcases List.mem_append.1 hm with hm | hm
  · obtain ⟨e, he, hx⟩ := List.mem_flatMap.1 hm
    have hn := name_short (mayE_n ((ents_zero h1).2.1 _ he))
    simp only [may3, List.mem_cons, List.not_mem_nil, or_false] at hx
    rcases hx with rfl | rfl | rfl <;> exact ⟨hn, by unfold short; simp⟩
  · obtain ⟨p, hp, rfl⟩ := List.mem_map.1 hm
    have h0 := (mayAll_zero h2).2.1 p hp
    exact ⟨name_short (mayE_n h0), ver_short (mayE_v h0)⟩
set_option maxRecDepth 100000 in
set_option maxHeartbeats 4000000 in
theorem law_listed (A : Option Addr) (c : Nat) (s : List Ent) (k0 : Int) (nm vr : List UInt8) (A' : Option Addr) (c' : Nat) (fr : List Pkg) (w : World) (hs : Ents w A c s) (hf : Pkgs w A' c' fr) :
    Calls Tryz.prog 9 #[.slice A s.length c, .agg #[.int .i64 k0, .string (bs nm), .string (bs vr)], .slice A' fr.length c'] w fun e w' => e = .returned (.bool true) ∧ Below w.heap.size w w' := by
  have HS := Lib.hid hs
  have HF := Lib.hid hf
  have hbs := hs.bd
  have hbf := hf.bd
  have HST0 := Lib.hid (blk_new1 w 24 #[.int .i64 k0, .string (bs nm), .string (bs vr)])
  have HB := Lib.hid (below_alloc (Below.refl w.heap.size w) (.cells #[.int .i64 k0, .string (bs nm), .string (bs vr)] 24))
  clear hs hf
  rcases h1 : lightM 26 40 14 10 (s.map Ent.pkg)
  · have H1 := Lib.hid h1
    clear h1
    go_enter Tryz.func9, Tryz.ntmps9
    go_wp2_with fail
    refine (bare22_any _ _ s _ (HS.out.kept (Kept.of_below HB.out))).mono ?_
    rintro e w1 ⟨A1, c1, rfl, hp, hb1⟩
    generalize hm : (s).map Ent.pkg = lp at hp ⊢
    have HP := Lib.hid hp
    have HT1 := Lib.hid (show lightM 26 40 14 10 lp = _ from hm ▸ H1.out)
    have HB := Lib.hid (below_next HB.out hb1)
    have HST0 := Lib.hid (HST0.out.next hb1)
    clear hp hm hb1
    go_wp2_with fail
    refine (light22_any _ _ _ _ HP.out).mono ?_
    rintro e w2 ⟨rfl, hb2⟩
    rw [HT1.out]
    have HB := Lib.hid (below_next HB.out hb2)
    have HST0 := Lib.hid (HST0.out.next hb2)
    clear hb2 HP HT1
    go_wp2_with fail
    refine (awake22_any _).mono ?_
    rintro e w9 ⟨rfl, hb9⟩
    go_wp2
    go_ret
    exact ⟨rfl, below_next HB.out hb9⟩
  · have hfs := light_fewD h1
    have HFS := Lib.hid (show ∀ x ∈ s, fewD x.pkg from fun x hx => hfs.2 _ (List.mem_map_of_mem hx))
    have hsl : s.length ≤ 26 := by have := hfs.1; rwa [List.length_map] at this
    have H1 := Lib.hid h1
    clear h1 hfs
    rcases h2 : lightM 26 40 14 10 fr
    · have H2 := Lib.hid h2
      clear h2
      go_enter Tryz.func9, Tryz.ntmps9
      go_wp2_with fail
      refine (bare22_any _ _ s _ (HS.out.kept (Kept.of_below HB.out))).mono ?_
      rintro e w1 ⟨A1, c1, rfl, hp, hb1⟩
      generalize hm : (s).map Ent.pkg = lp at hp ⊢
      have HP := Lib.hid hp
      have HT1 := Lib.hid (show lightM 26 40 14 10 lp = _ from hm ▸ H1.out)
      have HB := Lib.hid (below_next HB.out hb1)
      have HST0 := Lib.hid (HST0.out.next hb1)
      clear hp hm hb1
      go_wp2_with fail
      refine (light22_any _ _ _ _ HP.out).mono ?_
      rintro e w2 ⟨rfl, hb2⟩
      rw [HT1.out]
      have HB := Lib.hid (below_next HB.out hb2)
      have HST0 := Lib.hid (HST0.out.next hb2)
      clear hb2 HP HT1
      go_wp2_with fail
      refine (light22_any _ _ fr _ (HF.out.kept (Kept.of_below HB.out))).mono ?_
      rintro e w2 ⟨rfl, hb2⟩
      rw [H2.out]
      have HB := Lib.hid (below_next HB.out hb2)
      have HST0 := Lib.hid (HST0.out.next hb2)
      clear hb2
      go_wp2_with fail
      refine (awake22_any _).mono ?_
      rintro e w9 ⟨rfl, hb9⟩
      go_wp2
      go_ret
      exact ⟨rfl, below_next HB.out hb9⟩
    · have hff := light_fewD h2
      have HFF := Lib.hid hff.2
      have hfl := hff.1
      have H2 := Lib.hid h2
      clear h2 hff
      have HRS := Lib.hid (fun x (h : x ∈ s) => (HFS.out x h).r)
      obtain ⟨E, hE⟩ : ∃ E, mayEntsE s = E := ⟨_, rfl⟩
      have HM := Lib.hid hE
      obtain ⟨F, hF⟩ : ∃ F, mayAllE fr = F := ⟨_, rfl⟩
      have HM2 := Lib.hid hF
      clear hE hF
      go_enter Tryz.func9, Tryz.ntmps9
      go_wp2_with fail
      refine (bare22_any _ _ s _ (HS.out.kept (Kept.of_below HB.out))).mono ?_
      rintro e w1 ⟨A1, c1, rfl, hp, hb1⟩
      generalize hm : (s).map Ent.pkg = lp at hp ⊢
      have HP := Lib.hid hp
      have HT1 := Lib.hid (show lightM 26 40 14 10 lp = _ from hm ▸ H1.out)
      have HB := Lib.hid (below_next HB.out hb1)
      have HST0 := Lib.hid (HST0.out.next hb1)
      clear hp hm hb1
      go_wp2_with fail
      refine (light22_any _ _ _ _ HP.out).mono ?_
      rintro e w2 ⟨rfl, hb2⟩
      rw [HT1.out]
      have HB := Lib.hid (below_next HB.out hb2)
      have HST0 := Lib.hid (HST0.out.next hb2)
      clear hb2 HP HT1
      go_wp2_with fail
      refine (light22_any _ _ fr _ (HF.out.kept (Kept.of_below HB.out))).mono ?_
      rintro e w2 ⟨rfl, hb2⟩
      rw [H2.out]
      have HB := Lib.hid (below_next HB.out hb2)
      have HST0 := Lib.hid (HST0.out.next hb2)
      clear hb2
      go_wp2_with fail
      refine (rents_any _ _ s _ (HS.out.kept (Kept.of_below HB.out)) HRS.out).mono ?_
      rintro e w3 ⟨rfl, hb3⟩
      rw [HM.out]
      have HST0 := Lib.hid (HST0.out.next hb3)
      have HB := Lib.hid (below_next HB.out hb3)
      clear hb3
      by_cases h1 : E = 0
      · subst h1
        go_wp2_with fail
        refine (rmayAll_any _ _ fr _ (HF.out.kept (Kept.of_below HB.out))).mono ?_
        rintro e w4 ⟨rfl, hb4⟩
        rw [HM2.out]
        have HST0 := Lib.hid (HST0.out.next hb4)
        have HB := Lib.hid (below_next HB.out hb4)
        clear hb4
        by_cases h2 : F = 0
        · subst h2
          have c0 := HST0.out.cell 0
          have c1 := HST0.out.cell 1
          have c2 := HST0.out.cell 2
          simp only [List.getElem?_toArray, List.getElem?_cons_zero, List.getElem?_cons_succ] at c0 c1 c2
          go_wp2_with fail
          have HQ := Lib.hid (do_any s _ _ k0 nm vr fr _ _ w4 (HS.out.kept (Kept.of_below HB.out)) (HF.out.kept (Kept.of_below HB.out)) HFS.out HFF.out)
          obtain ⟨er, her⟩ : ∃ er, er = (doS s ⟨k0, nm, vr⟩ fr).2 := ⟨_, rfl⟩
          obtain ⟨un, hun⟩ : ∃ un, un = (doS s ⟨k0, nm, vr⟩ fr).1 := ⟨_, rfl⟩
          refine HQ.out.mono ?_
          rintro e w5 ⟨B3, d3, rfl, _, hb5⟩
          rw [← her, ← hun]
          have HER := Lib.hid (show (er == 0) = doneB s fr ⟨k0, nm, vr⟩ by unfold doneB; rw [← her]; rw [Bool.eq_iff_iff]; simp)
          have HST0 := Lib.hid (HST0.out.next hb5)
          have HB := Lib.hid (below_next HB.out hb5)
          clear hb5 HQ her hun c0 c1 c2
          go_wp2_with fail
          have HQ := Lib.hid (stepAll_any s _ _ fr _ _ w5 (HS.out.kept (Kept.of_below HB.out)) (HF.out.kept (Kept.of_below HB.out)) HFS.out HFF.out hsl hfl)
          have HDL := Lib.hid (fun (i : Nat) (x : Stp) (h : (allS s fr)[i]? = some x) => (all_mem.1 (List.mem_of_getElem? h)).2)
          have HUP := Lib.hid (fun (i : Nat) (x y : Stp) (h : (allS s fr)[i]? = some x) (h' : (allS s fr)[i + 1]? = some y) => allS_at HM.out HM2.out h h')
          have HSHL := Lib.hid (fun (i : Nat) (x : Stp) (h : (allS s fr)[i]? = some x) => all_short (List.mem_of_getElem? h))
          have HAN := Lib.hid (listed s fr ⟨k0, nm, vr⟩)
          obtain ⟨L, hL⟩ : ∃ L, L = allS s fr := ⟨_, rfl⟩
          rw [← hL] at HQ HDL HUP HSHL HAN
          clear hL
          refine HQ.out.mono ?_
          rintro e w6 ⟨A6, c6, rfl, hl6, hb6⟩
          have HL := Lib.hid hl6
          have hbl := Slc.bd hl6
          have HST0 := Lib.hid (HST0.out.next hb6)
          have HB := Lib.hid (below_next HB.out hb6)
          clear hb6 hl6 HQ
          go_wp2_with fail
          go_loopw [9, 47] (fun bv i wr => ∃ (k : Nat) (b : Bool), k ≤ L.length ∧ i = .int .i64 k ∧ bv = .bool b ∧ b = (L.take k).any (inB ⟨k0, nm, vr⟩) ∧ Below w6.heap.size w6 wr) (fun _ i _ => L.length - (intOf i).toNat)
          case atStart => exact ⟨0, false, Nat.zero_le _, rfl, rfl, rfl, Below.refl _ _⟩
          case round =>
            obtain ⟨k, b, hk, rfl, rfl, hin, hbr⟩ := hrel
            have HIN := Lib.hid hin
            have HBr := Lib.hid hbr
            clear hin hbr
            by_cases hlt : k < L.length
            · obtain ⟨⟨xk, xn, xv⟩, bb, o, hx, rfl, e0, e1, e2⟩ := HL.out.at_ hlt (Kept.of_below HBr.out)
              dsimp only at e0 e1 e2
              have HX := Lib.hid hx
              have HDN := Lib.hid (HDL.out _ _ hx)
              have KX := Lib.hid (blk_new1 wr 24 #[.int .i64 xk, .string (bs xn), .string (bs xv)])
              have HB1 := Lib.hid (below_alloc HBr.out (.cells #[.int .i64 xk, .string (bs xn), .string (bs xv)] 24))
              have HSH := Lib.hid (HSHL.out _ _ hx)
              by_cases hk0 : k = 0
              · have hk9 : decide ((0 : Int) < (k : Int)) = false := decide_eq_false (by omega)
                have hk8 : decide (0 < k) = false := decide_eq_false (by omega)
                clear hx hk0
                go_wp2_with fail
                clear e0 e1 e2
                refine region_be (by kernel_rfl) (by kernel_rfl) ?_
                repeat (quiet_step (first | (go_at_call 32; with_reducible exact Calls.be_of ((less_any _ _ _ _ _ _ _).mono fun _ _ h => ⟨h.1.trans (congrArg (fun b => Ending.returned (Value.bool b)) HLS.out), h.2⟩))))
                refine wpQuiet_nil ?_
                intro _ hw'
                obtain ⟨pb, hw''⟩ := hw'
                subst hw''
                obtain ⟨W3, hbw⟩ := pb
                dsimp only
                have HB3 := Lib.hid (below_next HB1.out hbw)
                have KX3 := Lib.hid (KX.out.next hbw)
                clear hbw
                have d0 := KX3.out.cell 0
                have d1 := KX3.out.cell 1
                have d2 := KX3.out.cell 2
                simp only [List.getElem?_toArray, List.getElem?_cons_zero, List.getElem?_cons_succ] at d0 d1 d2
                go_wp2_with fail
                have HBB := Lib.hid (below_next HB.out HB3.out)
                have HQ := Lib.hid (do_any s _ _ xk xn xv fr _ _ W3 (HS.out.kept (Kept.of_below HBB.out)) (HF.out.kept (Kept.of_below HBB.out)) HFS.out HFF.out)
                obtain ⟨er2, her2⟩ : ∃ er2, er2 = (doS s ⟨xk, xn, xv⟩ fr).2 := ⟨_, rfl⟩
                obtain ⟨un2, hun2⟩ : ∃ un2, un2 = (doS s ⟨xk, xn, xv⟩ fr).1 := ⟨_, rfl⟩
                have h00 : er2 = 0 := by rw [her2]; exact of_decide_eq_true HDN.out
                have hlen : xk ≠ 2 → un2.length ≠ 0 := fun h => by rw [hun2]; exact do_some HDN.out h
                refine HQ.out.mono ?_
                rintro e w4 ⟨B3, d3, rfl, _, hb4⟩
                rw [← her2, ← hun2]
                clear her2 hun2 HQ HBB d0 d1 d2
                subst h00
                have HB4 := Lib.hid (below_next HB3.out hb4)
                have KX4 := Lib.hid (KX3.out.next hb4)
                have KS4 := Lib.hid (HST0.out.next HB4.out)
                clear hb4
                have d0 := KX4.out.cell 0
                have d1 := KX4.out.cell 1
                have d2 := KX4.out.cell 2
                simp only [List.getElem?_toArray, List.getElem?_cons_zero, List.getElem?_cons_succ] at d0 d1 d2
                have f0 := KS4.out.cell 0
                have f1 := KS4.out.cell 1
                have f2 := KS4.out.cell 2
                simp only [List.getElem?_toArray, List.getElem?_cons_zero, List.getElem?_cons_succ] at f0 f1 f2
                obtain ⟨n, hnl⟩ : ∃ n, n = un2.length := ⟨_, rfl⟩
                rw [← hnl] at hlen ⊢
                clear hnl
                have h22 : (xk != 2) = false ∨ (xk != 2) = true ∧ ((n : Int) == 0) = false := by
                  by_cases h : xk = 2
                  · exact .inl (by simpa using h)
                  · exact .inr ⟨by simpa using h, by have := hlen h; rw [beq_eq_false_iff_ne]; omega⟩
                clear hlen
                rcases b with _ | _
                · by_cases hk3 : xk = k0
                  · have hkb : (xk == k0) = true := by simpa using hk3
                    by_cases hn3 : xn = nm
                    · have hnb : (xn == nm) = true := by simpa using hn3
                      by_cases h3 : xk = 3
                      · have h3b : (xk != 3) = false := by simpa using h3
                        have h3c : (xk == 3) = true := by simpa using h3
                        have HV0 := Lib.hid (inB_u (st := ⟨k0, nm, vr⟩) (x := ⟨xk, xn, xv⟩) hk3 hn3 h3)
                        have HIX := Lib.hid (idx_pkgV (xv := xv) (v := vr) hn3)
                        clear h3 hk3 hn3
                        rcases h22 with h2 | ⟨h2, h2'⟩
                        · exfalso
                          simp at h2 h3c
                          omega
                        · have fa1 := fun (o : Obj) => (KS4.out.alloc o).cell 1
                          have fa2 := fun (o : Obj) => (KS4.out.alloc o).cell 2
                          simp only [List.getElem?_toArray, List.getElem?_cons_zero, List.getElem?_cons_succ] at fa1 fa2
                          go_wp2_with fail
                          have HQ := Lib.hid (rVersion_any (some ⟨w4.heap.size, 0, none⟩) 1 [pkgV xn xv] nm vr (w4.alloc (.cells #[.string (bs xn), .string (bs xv), .slice none 0 0, .slice none 0 0, .slice none 0 0, .slice none 0 0, .slice none 0 0, .slice none 0 0, .bool false] 43)) (pkgV_one HSH.out.1 HSH.out.2 (blk_new1 _ _ _)))
                          rw [HIX.out] at HQ
                          have HB4 := Lib.hid (below_alloc HB4.out (.cells #[.string (bs xn), .string (bs xv), .slice none 0 0, .slice none 0 0, .slice none 0 0, .slice none 0 0, .slice none 0 0, .slice none 0 0, .bool false] 43))
                          refine HQ.out.mono ?_
                          rintro e w5 ⟨rfl, hb5⟩
                          have HB4 := Lib.hid (below_next HB4.out hb5)
                          clear hb5 HQ HIX
                          rcases hsv : sameV xv vr
                          · have HV := Lib.hid (show (false || inB ⟨k0, nm, vr⟩ ⟨xk, xn, xv⟩) = false by rw [HV0.out, hsv]; rfl)
                            clear hsv
                            go_wp2_with fail
                            go_roundw
                            case rel => exact ⟨k + 1, _, by omega, by simp, rfl, by rw [any_bit HX.out, ← HIN.out, HV.out], HB4.out⟩
                            case measure => (try simp only [intOf]); omega
                          · have HV := Lib.hid (show (false || inB ⟨k0, nm, vr⟩ ⟨xk, xn, xv⟩) = true by rw [HV0.out, hsv]; rfl)
                            clear hsv
                            go_wp2_with fail
                            go_roundw
                            case rel => exact ⟨k + 1, _, by omega, by simp, rfl, by rw [any_bit HX.out, ← HIN.out, HV.out], HB4.out⟩
                            case measure => (try simp only [intOf]); omega
                      · have h3b : (xk != 3) = true := by simpa using h3
                        have h3c : (xk == 3) = false := by simpa using h3
                        have HV0 := Lib.hid (inB_o (st := ⟨k0, nm, vr⟩) (x := ⟨xk, xn, xv⟩) hk3 hn3 h3)
                        clear h3 hk3 hn3
                        by_cases hv : vr = []
                        · have hvb : vr.isEmpty = true := by simpa using hv
                          have HV := Lib.hid (show (false || inB ⟨k0, nm, vr⟩ ⟨xk, xn, xv⟩) = true by rw [HV0.out]; simp [hv])
                          clear hv
                          rcases h22 with h2 | ⟨h2, h2'⟩
                          · go_wp2_with fail
                            go_roundw
                            case rel => exact ⟨k + 1, _, by omega, by simp, rfl, by rw [any_bit HX.out, ← HIN.out, HV.out], HB4.out⟩
                            case measure => (try simp only [intOf]); omega
                          · go_wp2_with fail
                            go_roundw
                            case rel => exact ⟨k + 1, _, by omega, by simp, rfl, by rw [any_bit HX.out, ← HIN.out, HV.out], HB4.out⟩
                            case measure => (try simp only [intOf]); omega
                        · have hvb : vr.isEmpty = false := by simpa using hv
                          have HV := Lib.hid (show (false || inB ⟨k0, nm, vr⟩ ⟨xk, xn, xv⟩) = false by rw [HV0.out]; simp [hv])
                          clear hv
                          rcases h22 with h2 | ⟨h2, h2'⟩
                          · go_wp2_with fail
                            go_roundw
                            case rel => exact ⟨k + 1, _, by omega, by simp, rfl, by rw [any_bit HX.out, ← HIN.out, HV.out], HB4.out⟩
                            case measure => (try simp only [intOf]); omega
                          · go_wp2_with fail
                            go_roundw
                            case rel => exact ⟨k + 1, _, by omega, by simp, rfl, by rw [any_bit HX.out, ← HIN.out, HV.out], HB4.out⟩
                            case measure => (try simp only [intOf]); omega
                    · have hnb : (xn == nm) = false := by simpa using hn3
                      have HV := Lib.hid (show (false || inB ⟨k0, nm, vr⟩ ⟨xk, xn, xv⟩) = false by rw [inB_n hn3]; rfl)
                      clear hk3 hn3
                      rcases h22 with h2 | ⟨h2, h2'⟩
                      · go_wp2_with fail
                        go_roundw
                        case rel => exact ⟨k + 1, _, by omega, by simp, rfl, by rw [any_bit HX.out, ← HIN.out, HV.out], HB4.out⟩
                        case measure => (try simp only [intOf]); omega
                      · go_wp2_with fail
                        go_roundw
                        case rel => exact ⟨k + 1, _, by omega, by simp, rfl, by rw [any_bit HX.out, ← HIN.out, HV.out], HB4.out⟩
                        case measure => (try simp only [intOf]); omega
                  · have hkb : (xk == k0) = false := by simpa using hk3
                    have HV := Lib.hid (show (false || inB ⟨k0, nm, vr⟩ ⟨xk, xn, xv⟩) = false by rw [inB_k hk3]; rfl)
                    clear hk3
                    rcases h22 with h2 | ⟨h2, h2'⟩
                    · go_wp2_with fail
                      go_roundw
                      case rel => exact ⟨k + 1, _, by omega, by simp, rfl, by rw [any_bit HX.out, ← HIN.out, HV.out], HB4.out⟩
                      case measure => (try simp only [intOf]); omega
                    · go_wp2_with fail
                      go_roundw
                      case rel => exact ⟨k + 1, _, by omega, by simp, rfl, by rw [any_bit HX.out, ← HIN.out, HV.out], HB4.out⟩
                      case measure => (try simp only [intOf]); omega
                · have HV := Lib.hid (show (true || inB ⟨k0, nm, vr⟩ ⟨xk, xn, xv⟩) = true from Bool.true_or _)
                  rcases h22 with h2 | ⟨h2, h2'⟩
                  · go_wp2_with fail
                    go_roundw
                    case rel => exact ⟨k + 1, _, by omega, by simp, rfl, by rw [any_bit HX.out, ← HIN.out, HV.out], HB4.out⟩
                    case measure => (try simp only [intOf]); omega
                  · go_wp2_with fail
                    go_roundw
                    case rel => exact ⟨k + 1, _, by omega, by simp, rfl, by rw [any_bit HX.out, ← HIN.out, HV.out], HB4.out⟩
                    case measure => (try simp only [intOf]); omega
              · obtain ⟨j, hj⟩ : ∃ j, k = j + 1 := ⟨k - 1, by omega⟩
                obtain ⟨⟨pk, pn, pv⟩, bb2, o2, hp, hA2, p0, p1, p2⟩ := HL.out.at_ (show j < L.length by omega) (Kept.of_below HB1.out)
                obtain ⟨rfl, rfl⟩ : bb = bb2 ∧ o = o2 := by injection hA2 with hA; injection hA with h1 h2; exact ⟨h1, h2⟩
                dsimp only at p0 p1 p2
                have HLS := Lib.hid (HUP.out j _ _ hp (by rw [← hj]; exact hx))
                have hk9 : decide ((0 : Int) < (k : Int)) = true := decide_eq_true (by omega)
                have hk8 : decide (0 < k) = true := decide_eq_true (by omega)
                have hw9 : IntKind.i64.wrap ((k : Int) - 1) = (j : Int) := by rw [IntKind.wrap_i64]; omega
                have hj1 : (0 : Int) ≤ (j : Int) := by omega
                have hj2 : (j : Int) < (L.length : Int) := by omega
                clear hx hp hA2 hj hk0
                go_wp2_with fail
                clear e0 e1 e2
                have z0 := fun p : Be _ => Be.cell p0 p
                have z1 := fun p : Be _ => Be.cell p1 p
                have z2 := fun p : Be _ => Be.cell p2 p
                have t0 := KX.out.cell 0
                have t1 := KX.out.cell 1
                have t2 := KX.out.cell 2
                simp only [List.getElem?_toArray, List.getElem?_cons_zero, List.getElem?_cons_succ] at t0 t1 t2
                have y0 := fun p : Be _ => Be.cell t0 p
                have y1 := fun p : Be _ => Be.cell t1 p
                have y2 := fun p : Be _ => Be.cell t2 p
                clear t0 t1 t2
                refine region_be (by kernel_rfl) (by kernel_rfl) ?_
                repeat (quiet_step (first | (go_at_call 32; with_reducible exact Calls.be_of ((less_any _ _ _ _ _ _ _).mono fun _ _ h => ⟨h.1.trans (congrArg (fun b => Ending.returned (Value.bool b)) HLS.out), h.2⟩))))
                refine wpQuiet_nil ?_
                intro _ hw'
                obtain ⟨pb, hw''⟩ := hw'
                subst hw''
                obtain ⟨W3, hbw⟩ := pb
                dsimp only
                clear z0 z1 z2 y0 y1 y2 p0 p1 p2 hw9
                have HB3 := Lib.hid (below_next HB1.out hbw)
                have KX3 := Lib.hid (KX.out.next hbw)
                clear hbw
                have d0 := KX3.out.cell 0
                have d1 := KX3.out.cell 1
                have d2 := KX3.out.cell 2
                simp only [List.getElem?_toArray, List.getElem?_cons_zero, List.getElem?_cons_succ] at d0 d1 d2
                go_wp2_with fail
                have HBB := Lib.hid (below_next HB.out HB3.out)
                have HQ := Lib.hid (do_any s _ _ xk xn xv fr _ _ W3 (HS.out.kept (Kept.of_below HBB.out)) (HF.out.kept (Kept.of_below HBB.out)) HFS.out HFF.out)
                obtain ⟨er2, her2⟩ : ∃ er2, er2 = (doS s ⟨xk, xn, xv⟩ fr).2 := ⟨_, rfl⟩
                obtain ⟨un2, hun2⟩ : ∃ un2, un2 = (doS s ⟨xk, xn, xv⟩ fr).1 := ⟨_, rfl⟩
                have h00 : er2 = 0 := by rw [her2]; exact of_decide_eq_true HDN.out
                have hlen : xk ≠ 2 → un2.length ≠ 0 := fun h => by rw [hun2]; exact do_some HDN.out h
                refine HQ.out.mono ?_
                rintro e w4 ⟨B3, d3, rfl, _, hb4⟩
                rw [← her2, ← hun2]
                clear her2 hun2 HQ HBB d0 d1 d2
                subst h00
                have HB4 := Lib.hid (below_next HB3.out hb4)
                have KX4 := Lib.hid (KX3.out.next hb4)
                have KS4 := Lib.hid (HST0.out.next HB4.out)
                clear hb4
                have d0 := KX4.out.cell 0
                have d1 := KX4.out.cell 1
                have d2 := KX4.out.cell 2
                simp only [List.getElem?_toArray, List.getElem?_cons_zero, List.getElem?_cons_succ] at d0 d1 d2
                have f0 := KS4.out.cell 0
                have f1 := KS4.out.cell 1
                have f2 := KS4.out.cell 2
                simp only [List.getElem?_toArray, List.getElem?_cons_zero, List.getElem?_cons_succ] at f0 f1 f2
                obtain ⟨n, hnl⟩ : ∃ n, n = un2.length := ⟨_, rfl⟩
                rw [← hnl] at hlen ⊢
                clear hnl
                have h22 : (xk != 2) = false ∨ (xk != 2) = true ∧ ((n : Int) == 0) = false := by
                  by_cases h : xk = 2
                  · exact .inl (by simpa using h)
                  · exact .inr ⟨by simpa using h, by have := hlen h; rw [beq_eq_false_iff_ne]; omega⟩
                clear hlen
                rcases b with _ | _
                · by_cases hk3 : xk = k0
                  · have hkb : (xk == k0) = true := by simpa using hk3
                    by_cases hn3 : xn = nm
                    · have hnb : (xn == nm) = true := by simpa using hn3
                      by_cases h3 : xk = 3
                      · have h3b : (xk != 3) = false := by simpa using h3
                        have h3c : (xk == 3) = true := by simpa using h3
                        have HV0 := Lib.hid (inB_u (st := ⟨k0, nm, vr⟩) (x := ⟨xk, xn, xv⟩) hk3 hn3 h3)
                        have HIX := Lib.hid (idx_pkgV (xv := xv) (v := vr) hn3)
                        clear h3 hk3 hn3
                        rcases h22 with h2 | ⟨h2, h2'⟩
                        · exfalso
                          simp at h2 h3c
                          omega
                        · have fa1 := fun (o : Obj) => (KS4.out.alloc o).cell 1
                          have fa2 := fun (o : Obj) => (KS4.out.alloc o).cell 2
                          simp only [List.getElem?_toArray, List.getElem?_cons_zero, List.getElem?_cons_succ] at fa1 fa2
                          go_wp2_with fail
                          have HQ := Lib.hid (rVersion_any (some ⟨w4.heap.size, 0, none⟩) 1 [pkgV xn xv] nm vr (w4.alloc (.cells #[.string (bs xn), .string (bs xv), .slice none 0 0, .slice none 0 0, .slice none 0 0, .slice none 0 0, .slice none 0 0, .slice none 0 0, .bool false] 43)) (pkgV_one HSH.out.1 HSH.out.2 (blk_new1 _ _ _)))
                          rw [HIX.out] at HQ
                          have HB4 := Lib.hid (below_alloc HB4.out (.cells #[.string (bs xn), .string (bs xv), .slice none 0 0, .slice none 0 0, .slice none 0 0, .slice none 0 0, .slice none 0 0, .slice none 0 0, .bool false] 43))
                          refine HQ.out.mono ?_
                          rintro e w5 ⟨rfl, hb5⟩
                          have HB4 := Lib.hid (below_next HB4.out hb5)
                          clear hb5 HQ HIX
                          rcases hsv : sameV xv vr
                          · have HV := Lib.hid (show (false || inB ⟨k0, nm, vr⟩ ⟨xk, xn, xv⟩) = false by rw [HV0.out, hsv]; rfl)
                            clear hsv
                            go_wp2_with fail
                            go_roundw
                            case rel => exact ⟨k + 1, _, by omega, by simp, rfl, by rw [any_bit HX.out, ← HIN.out, HV.out], HB4.out⟩
                            case measure => (try simp only [intOf]); omega
                          · have HV := Lib.hid (show (false || inB ⟨k0, nm, vr⟩ ⟨xk, xn, xv⟩) = true by rw [HV0.out, hsv]; rfl)
                            clear hsv
                            go_wp2_with fail
                            go_roundw
                            case rel => exact ⟨k + 1, _, by omega, by simp, rfl, by rw [any_bit HX.out, ← HIN.out, HV.out], HB4.out⟩
                            case measure => (try simp only [intOf]); omega
                      · have h3b : (xk != 3) = true := by simpa using h3
                        have h3c : (xk == 3) = false := by simpa using h3
                        have HV0 := Lib.hid (inB_o (st := ⟨k0, nm, vr⟩) (x := ⟨xk, xn, xv⟩) hk3 hn3 h3)
                        clear h3 hk3 hn3
                        by_cases hv : vr = []
                        · have hvb : vr.isEmpty = true := by simpa using hv
                          have HV := Lib.hid (show (false || inB ⟨k0, nm, vr⟩ ⟨xk, xn, xv⟩) = true by rw [HV0.out]; simp [hv])
                          clear hv
                          rcases h22 with h2 | ⟨h2, h2'⟩
                          · go_wp2_with fail
                            go_roundw
                            case rel => exact ⟨k + 1, _, by omega, by simp, rfl, by rw [any_bit HX.out, ← HIN.out, HV.out], HB4.out⟩
                            case measure => (try simp only [intOf]); omega
                          · go_wp2_with fail
                            go_roundw
                            case rel => exact ⟨k + 1, _, by omega, by simp, rfl, by rw [any_bit HX.out, ← HIN.out, HV.out], HB4.out⟩
                            case measure => (try simp only [intOf]); omega
                        · have hvb : vr.isEmpty = false := by simpa using hv
                          have HV := Lib.hid (show (false || inB ⟨k0, nm, vr⟩ ⟨xk, xn, xv⟩) = false by rw [HV0.out]; simp [hv])
                          clear hv
                          rcases h22 with h2 | ⟨h2, h2'⟩
                          · go_wp2_with fail
                            go_roundw
                            case rel => exact ⟨k + 1, _, by omega, by simp, rfl, by rw [any_bit HX.out, ← HIN.out, HV.out], HB4.out⟩
                            case measure => (try simp only [intOf]); omega
                          · go_wp2_with fail
                            go_roundw
                            case rel => exact ⟨k + 1, _, by omega, by simp, rfl, by rw [any_bit HX.out, ← HIN.out, HV.out], HB4.out⟩
                            case measure => (try simp only [intOf]); omega
                    · have hnb : (xn == nm) = false := by simpa using hn3
                      have HV := Lib.hid (show (false || inB ⟨k0, nm, vr⟩ ⟨xk, xn, xv⟩) = false by rw [inB_n hn3]; rfl)
                      clear hk3 hn3
                      rcases h22 with h2 | ⟨h2, h2'⟩
                      · go_wp2_with fail
                        go_roundw
                        case rel => exact ⟨k + 1, _, by omega, by simp, rfl, by rw [any_bit HX.out, ← HIN.out, HV.out], HB4.out⟩
                        case measure => (try simp only [intOf]); omega
                      · go_wp2_with fail
                        go_roundw
                        case rel => exact ⟨k + 1, _, by omega, by simp, rfl, by rw [any_bit HX.out, ← HIN.out, HV.out], HB4.out⟩
                        case measure => (try simp only [intOf]); omega
                  · have hkb : (xk == k0) = false := by simpa using hk3
                    have HV := Lib.hid (show (false || inB ⟨k0, nm, vr⟩ ⟨xk, xn, xv⟩) = false by rw [inB_k hk3]; rfl)
                    clear hk3
                    rcases h22 with h2 | ⟨h2, h2'⟩
                    · go_wp2_with fail
                      go_roundw
                      case rel => exact ⟨k + 1, _, by omega, by simp, rfl, by rw [any_bit HX.out, ← HIN.out, HV.out], HB4.out⟩
                      case measure => (try simp only [intOf]); omega
                    · go_wp2_with fail
                      go_roundw
                      case rel => exact ⟨k + 1, _, by omega, by simp, rfl, by rw [any_bit HX.out, ← HIN.out, HV.out], HB4.out⟩
                      case measure => (try simp only [intOf]); omega
                · have HV := Lib.hid (show (true || inB ⟨k0, nm, vr⟩ ⟨xk, xn, xv⟩) = true from Bool.true_or _)
                  rcases h22 with h2 | ⟨h2, h2'⟩
                  · go_wp2_with fail
                    go_roundw
                    case rel => exact ⟨k + 1, _, by omega, by simp, rfl, by rw [any_bit HX.out, ← HIN.out, HV.out], HB4.out⟩
                    case measure => (try simp only [intOf]); omega
                  · go_wp2_with fail
                    go_roundw
                    case rel => exact ⟨k + 1, _, by omega, by simp, rfl, by rw [any_bit HX.out, ← HIN.out, HV.out], HB4.out⟩
                    case measure => (try simp only [intOf]); omega
            · have hin := HIN.out
              rw [take_end hk hlt, HAN.out, ← HER.out] at hin
              subst hin
              have hee : ((er == 0) == (er == 0)) = true := beq_self_eq_true _
              have HB := Lib.hid (below_next HB.out HBr.out)
              go_wp2_with fail
              refine (awake22_any _).mono ?_
              rintro e w9 ⟨rfl, hb9⟩
              go_wp2
              go_ret
              exact ⟨rfl, below_next HB.out hb9⟩
        · have hFb : (F != 0) = true := by rw [bne_iff_ne]; exact h2
          clear h2
          go_wp2_with fail
          refine (awake22_any _).mono ?_
          rintro e w9 ⟨rfl, hb9⟩
          go_wp2
          go_ret
          exact ⟨rfl, below_next HB.out hb9⟩
      · have hEb : (E != 0) = true := by rw [bne_iff_ne]; exact h1
        clear h1
        go_wp2_with fail
        refine (awake22_any _).mono ?_
        rintro e w9 ⟨rfl, hb9⟩
        go_wp2
        go_ret
        exact ⟨rfl, below_next HB.out hb9⟩
end Go.Proofs.YtaicidbopgnmfaaGreatDoor
