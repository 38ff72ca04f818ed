/- The law StepUndoes. -/
import Derived.Test.YtaicidbopgnmfaaGreatDoorDpS
import Derived.Test.YtaicidbopgnmfaaGreatDoorDoL
import Derived.Test.YtaicidbopgnmfaaGreatDoorPy
import Derived.Deep.RegionHeld3
namespace Go.Proofs.YtaicidbopgnmfaaGreatDoor
set_option linter.unusedSimpArgs false
set_option linter.unusedVariables false
open Go.RowKit
attribute [local go_sem ↓] Go.wp_at_zero Go.wp_at_succ
theorem Did.kinds {s t : List Ent} {st : Stp} {fr : List Pkg} (h : Did s st fr t) : 1 ≤ st.kind ∧ st.kind ≤ 4 := by
  have := h.kind
  unfold badK at this
  simp only [Bool.or_eq_false_iff, Bool.not_eq_false', Bool.and_eq_true, decide_eq_true_eq] at this
  exact this.1
set_option maxRecDepth 100000 in
set_option maxHeartbeats 8000000 in
theorem law_undoes (A : Option Addr) (c : Nat) (s : List Ent) (k : Int) (nm vr : List UInt8) (A' : Option Addr) (c' : Nat) (fr : List Pkg) (w : World) (hs : Ents w A c s) (hf : Pkgs w A' c' fr) :
    Calls Tryz.prog 5 #[.slice A s.length c, .agg #[.int .i64 k, .string (bs nm), .string (bs vr)], .slice A' fr.length c'] w fun e w' => e = .returned (.bool true) ∧ Below w.heap.size w w' := by
  have HS := Lib.hid hs
  have HF := Lib.hid hf
  have hbs := hs.bd
  have hbf := hf.bd
  have HST0 := Lib.hid (blk_new1 w 24 #[.int .i64 k, .string (bs nm), .string (bs vr)])
  have HB := Lib.hid (below_alloc (Below.refl w.heap.size w) (.cells #[.int .i64 k, .string (bs nm), .string (bs vr)] 24))
  clear hs hf
  rcases h1 : lightM 26 40 14 10 (s.map Ent.pkg)
  · have H1 := Lib.hid h1
    clear h1
    go_enter Tryz.func5, Tryz.ntmps5
    go_wp2_with fail
    refine (bare22_any _ _ s _ (HS.out.kept (Kept.of_below HB.out))).mono ?_
    rintro e w1 ⟨A1, c1, rfl, hp, hb1⟩
    generalize hm : (s).map Ent.pkg = lp at hp ⊢
    have HP := Lib.hid hp
    have HT1 := Lib.hid (show lightM 26 40 14 10 lp = _ from hm ▸ H1.out)
    have HB := Lib.hid (below_next HB.out hb1)
    have HST0 := Lib.hid (HST0.out.next hb1)
    clear hp hm hb1
    go_wp2_with fail
    refine (light22_any _ _ _ _ HP.out).mono ?_
    rintro e w2 ⟨rfl, hb2⟩
    rw [HT1.out]
    have HB := Lib.hid (below_next HB.out hb2)
    have HST0 := Lib.hid (HST0.out.next hb2)
    clear hb2 HP HT1
    go_wp2_with fail
    refine (awake22_any _).mono ?_
    rintro e w9 ⟨rfl, hb9⟩
    go_wp2
    go_ret
    exact ⟨rfl, below_next HB.out hb9⟩
  · have hfs := light_fewD h1
    have hs26 : s.length ≤ 26 := by simpa using hfs.1
    have HFS := Lib.hid (show ∀ x ∈ s, fewD x.pkg from fun x hx => hfs.2 _ (List.mem_map_of_mem hx))
    have H1 := Lib.hid h1
    clear h1 hfs
    rcases h2 : lightM 26 40 14 10 fr
    · have H2 := Lib.hid h2
      clear h2
      go_enter Tryz.func5, Tryz.ntmps5
      go_wp2_with fail
      refine (bare22_any _ _ s _ (HS.out.kept (Kept.of_below HB.out))).mono ?_
      rintro e w1 ⟨A1, c1, rfl, hp, hb1⟩
      generalize hm : (s).map Ent.pkg = lp at hp ⊢
      have HP := Lib.hid hp
      have HT1 := Lib.hid (show lightM 26 40 14 10 lp = _ from hm ▸ H1.out)
      have HB := Lib.hid (below_next HB.out hb1)
      have HST0 := Lib.hid (HST0.out.next hb1)
      clear hp hm hb1
      go_wp2_with fail
      refine (light22_any _ _ _ _ HP.out).mono ?_
      rintro e w2 ⟨rfl, hb2⟩
      rw [HT1.out]
      have HB := Lib.hid (below_next HB.out hb2)
      have HST0 := Lib.hid (HST0.out.next hb2)
      clear hb2 HP HT1
      go_wp2_with fail
      refine (light22_any _ _ fr _ (HF.out.kept (Kept.of_below HB.out))).mono ?_
      rintro e w2 ⟨rfl, hb2⟩
      rw [H2.out]
      have HB := Lib.hid (below_next HB.out hb2)
      have HST0 := Lib.hid (HST0.out.next hb2)
      clear hb2
      go_wp2_with fail
      refine (awake22_any _).mono ?_
      rintro e w9 ⟨rfl, hb9⟩
      go_wp2
      go_ret
      exact ⟨rfl, below_next HB.out hb9⟩
    · have hff := light_fewD h2
      have HFF := Lib.hid hff.2
      have H2 := Lib.hid h2
      clear h2 hff
      go_enter Tryz.func5, Tryz.ntmps5
      go_wp2_with fail
      refine (bare22_any _ _ s _ (HS.out.kept (Kept.of_below HB.out))).mono ?_
      rintro e w1 ⟨A1, c1, rfl, hp, hb1⟩
      generalize hm : (s).map Ent.pkg = lp at hp ⊢
      have HP := Lib.hid hp
      have HT1 := Lib.hid (show lightM 26 40 14 10 lp = _ from hm ▸ H1.out)
      have HB := Lib.hid (below_next HB.out hb1)
      have HST0 := Lib.hid (HST0.out.next hb1)
      clear hp hm hb1
      go_wp2_with fail
      refine (light22_any _ _ _ _ HP.out).mono ?_
      rintro e w2 ⟨rfl, hb2⟩
      rw [HT1.out]
      have HB := Lib.hid (below_next HB.out hb2)
      have HST0 := Lib.hid (HST0.out.next hb2)
      clear hb2 HP HT1
      go_wp2_with fail
      refine (light22_any _ _ fr _ (HF.out.kept (Kept.of_below HB.out))).mono ?_
      rintro e w2 ⟨rfl, hb2⟩
      rw [H2.out]
      have HB := Lib.hid (below_next HB.out hb2)
      have HST0 := Lib.hid (HST0.out.next hb2)
      clear hb2
      have c0 := HST0.out.cell 0
      have c1 := HST0.out.cell 1
      have c2 := HST0.out.cell 2
      simp only [List.getElem?_toArray, List.getElem?_cons_zero, List.getElem?_cons_succ] at c0 c1 c2
      go_wp2_with fail
      have HQ := Lib.hid (do_any s _ _ k nm vr fr _ _ w2 (HS.out.kept (Kept.of_below HB.out)) (HF.out.kept (Kept.of_below HB.out)) HFS.out HFF.out)
      refine HQ.out.mono ?_
      rintro e w3 ⟨A3, c3, rfl, he3, hb3⟩
      have HE3 := Lib.hid he3
      have HST3 := Lib.hid (HST0.out.next hb3)
      have HB3 := Lib.hid (below_next HB.out hb3)
      have HDI := Lib.hid (fun h => do_did (s := s) (st := ⟨k, nm, vr⟩) (fr := fr) h)
      have HNI := Lib.hid (fun h => do_nil (s := s) (st := ⟨k, nm, vr⟩) (fr := fr) h)
      have HFT := Lib.hid (do_fewD (st := ⟨k, nm, vr⟩) HFS.out HFF.out)
      clear he3 hb3 HQ c0 c1 c2
      have c0 := HST3.out.cell 0
      have c1 := HST3.out.cell 1
      have c2 := HST3.out.cell 2
      simp only [List.getElem?_toArray, List.getElem?_cons_zero, List.getElem?_cons_succ] at c0 c1 c2
      obtain ⟨r, hr⟩ : ∃ r, r = doS s ⟨k, nm, vr⟩ fr := ⟨_, rfl⟩
      rw [← hr] at HE3 HDI HNI HFT ⊢
      clear hr
      obtain ⟨t, er⟩ := r
      dsimp only at HE3 HDI HNI HFT ⊢
      have hbt := HE3.out.bd
      by_cases her : er = 0
      · subst her
        have HDD := Lib.hid (HDI.out rfl)
        have HUP := Lib.hid HDD.out.up
        have ht10 := HDD.out.few
        clear HDI HNI
        go_wp2_with fail
        clear c0 c1 c2
        go_loopw [42] (fun i wi => ∃ m : Nat, m ≤ s.length ∧ i = .int .i64 m ∧ Below w3.heap.size w3 wi) (fun i _ => s.length - (intOf i).toNat)
        case atStart => exact ⟨0, Nat.zero_le _, rfl, Below.refl _ _⟩
        case round =>
          obtain ⟨m, hm, rfl, hbw⟩ := hrel
          have HBW := Lib.hid hbw
          clear hbw
          by_cases hml : m < s.length
          · obtain ⟨q, b, o, rr, hq, rfl, hr, e0, e1, e2, e3, e4, e5, e6, e7, e8, e9, e10⟩ := HS.out.at_ hml (Kept.of_below (below_next HB3.out HBW.out))
            have HQq := Lib.hid hq
            have HRq := Lib.hid hr
            clear hq hr
            go_wp2_with fail
            clear e0 e1 e2 e3 e4 e5 e6 e7 e8 e9 e10
            have HQ := Lib.hid (rfind_any _ _ t q.pkg.name _ (HE3.out.kept (Kept.of_below (below_alloc HBW.out (.cells #[.string (bs (q).pkg.name), .string (bs (q).pkg.ver), .slice (rr).a1 (q).pkg.pre.length (rr).c1, .slice (rr).a2 (q).pkg.dep.length (rr).c2, .slice (rr).a3 (q).pkg.rcm.length (rr).c3, .slice (rr).a4 (q).pkg.con.length (rr).c4, .slice (rr).a5 (q).pkg.brk.length (rr).c5, .slice (rr).a6 (q).pkg.prv.length (rr).c6, .bool (q).pkg.ess, .bool (q).conf, .bool (q).hold] 45)))))
            refine HQ.out.mono ?_
            rintro e w8 ⟨rfl, hb8⟩
            have HBX := Lib.hid ((blk_new1 wr 45 #[.string (bs (q).pkg.name), .string (bs (q).pkg.ver), .slice (rr).a1 (q).pkg.pre.length (rr).c1, .slice (rr).a2 (q).pkg.dep.length (rr).c2, .slice (rr).a3 (q).pkg.rcm.length (rr).c3, .slice (rr).a4 (q).pkg.con.length (rr).c4, .slice (rr).a5 (q).pkg.brk.length (rr).c5, .slice (rr).a6 (q).pkg.prv.length (rr).c6, .bool (q).pkg.ess, .bool (q).conf, .bool (q).hold]).next hb8)
            have HB8 := Lib.hid (below_next (below_alloc HBW.out (.cells #[.string (bs (q).pkg.name), .string (bs (q).pkg.ver), .slice (rr).a1 (q).pkg.pre.length (rr).c1, .slice (rr).a2 (q).pkg.dep.length (rr).c2, .slice (rr).a3 (q).pkg.rcm.length (rr).c3, .slice (rr).a4 (q).pkg.con.length (rr).c4, .slice (rr).a5 (q).pkg.brk.length (rr).c5, .slice (rr).a6 (q).pkg.prv.length (rr).c6, .bool (q).pkg.ess, .bool (q).conf, .bool (q).hold] 45)) hb8)
            have HST8 := Lib.hid (HST3.out.next HB8.out)
            have HB8a := Lib.hid (below_next (below_next HB3.out HBW.out) (below_next (below_alloc (Below.refl wr.heap.size wr) (.cells #[.string (bs (q).pkg.name), .string (bs (q).pkg.ver), .slice (rr).a1 (q).pkg.pre.length (rr).c1, .slice (rr).a2 (q).pkg.dep.length (rr).c2, .slice (rr).a3 (q).pkg.rcm.length (rr).c3, .slice (rr).a4 (q).pkg.con.length (rr).c4, .slice (rr).a5 (q).pkg.brk.length (rr).c5, .slice (rr).a6 (q).pkg.prv.length (rr).c6, .bool (q).pkg.ess, .bool (q).conf, .bool (q).hold] 45)) hb8))
            obtain ⟨f0, f1, f2, f3, f4, f5, f6, f7, f8, f9, f10⟩ := blk11 HBX.out
            have c1 := HST8.out.cell 1
            simp only [List.getElem?_toArray, List.getElem?_cons_zero, List.getElem?_cons_succ] at c1
            clear hb8 HQ
            by_cases hqn : q.pkg.name = nm
            · have hqb : (q.pkg.name == nm) = true := by simpa using hqn
              obtain ⟨I, hI⟩ : ∃ I, I = idxS (nameE q.pkg.name) t := ⟨_, rfl⟩
              rw [← hI]
              clear hI hqn
              go_wp2_with fail
              go_roundw
              case rel => exact ⟨m + 1, by omega, by simp, HB8.out⟩
              case measure => (try simp only [intOf]); omega
            · have hqb : (q.pkg.name == nm) = false := by simpa using hqn
              obtain ⟨j, hj1, hj2⟩ := HUP.out.find_at ((HDD.out.other hqn).2 (List.mem_of_getElem? HQq.out))
              rw [hj1]
              have HJ := Lib.hid hj2
              have hjl : j < t.length := (List.getElem?_eq_some_iff.1 hj2).1
              clear hj1 hj2 hqn
              have HEt := Lib.hid (HE3.out.kept (Kept.of_below HB8.out))
              obtain ⟨x3, b3, o3, r3, hx3, hA3, hr3, hcs⟩ := HEt.out.at_ hjl (Kept.refl _)
              clear hcs
              obtain rfl : q = x3 := Option.some.inj (HJ.out.symm.trans hx3)
              subst hA3
              clear hx3 hr3
              have hj0 : (0 : Int) ≤ (j : Int) := Int.natCast_nonneg _
              have hj1 : (j : Int) < (t.length : Int) := by omega
              have hjt : ((j : Int)).toNat = j := Int.toNat_natCast _
              have hjd : decide ((j : Int) < 0) = false := decide_eq_false (by omega)
              have hj2 : (0 : Int) ≤ (j : Int) + 1 := by omega
              have hj3 : (j : Int) + 1 ≤ (c3 : Int) := by omega
              have hj4 : ((j : Int) + 1).toNat = j + 1 := by omega
              have hj5 : (j : Int) ≤ (j : Int) + 1 := by omega
              have hj6 : ¬ c3 = j := by omega
              have hwr : IntKind.i64.wrap ((j : Int) + 1) = (j : Int) + 1 := by rw [IntKind.wrap_i64]; omega
              have HTK := Lib.hid (show (t.drop j).take 1 = [q] by
                rw [List.drop_eq_getElem_cons hjl]
                have h := (List.getElem?_eq_some_iff.1 HJ.out).2
                simp [h])
              have HS2 := Lib.hid (show Ents w8 (some ⟨b3, o3 + j * 11, none⟩) (c3 - j) [q] from by
                have h := Slc.take (Slc.drop HEt.out j (by omega)) 1
                rw [HTK.out] at h
                exact h)
              have HRq8 := Lib.hid (HRq.out.kept (Kept.of_below HB8a.out))
              clear HTK f1 f2 f3 f4 f5 f6 f7 f8 f9 f10
              go_upto_region 11 with (fail)
              clear f0 c1
              obtain ⟨W, rfl⟩ : ∃ W : World, W = w8 := ⟨_, rfl⟩
              have a0 := fun (w2 : World) (h : Hid (Below W.heap.size W w2)) => (blk11 (HBX.out.next h.out)).1
              have a1 := fun (w2 : World) (h : Hid (Below W.heap.size W w2)) => (blk11 (HBX.out.next h.out)).2.1
              have a2 := fun (w2 : World) (h : Hid (Below W.heap.size W w2)) => (blk11 (HBX.out.next h.out)).2.2.1
              have a3 := fun (w2 : World) (h : Hid (Below W.heap.size W w2)) => (blk11 (HBX.out.next h.out)).2.2.2.1
              have a4 := fun (w2 : World) (h : Hid (Below W.heap.size W w2)) => (blk11 (HBX.out.next h.out)).2.2.2.2.1
              have a5 := fun (w2 : World) (h : Hid (Below W.heap.size W w2)) => (blk11 (HBX.out.next h.out)).2.2.2.2.2.1
              have a6 := fun (w2 : World) (h : Hid (Below W.heap.size W w2)) => (blk11 (HBX.out.next h.out)).2.2.2.2.2.2.1
              have a7 := fun (w2 : World) (h : Hid (Below W.heap.size W w2)) => (blk11 (HBX.out.next h.out)).2.2.2.2.2.2.2.1
              have a8 := fun (w2 : World) (h : Hid (Below W.heap.size W w2)) => (blk11 (HBX.out.next h.out)).2.2.2.2.2.2.2.2.1
              have a9 := fun (w2 : World) (h : Hid (Below W.heap.size W w2)) => (blk11 (HBX.out.next h.out)).2.2.2.2.2.2.2.2.2.1
              have a10 := fun (w2 : World) (h : Hid (Below W.heap.size W w2)) => (blk11 (HBX.out.next h.out)).2.2.2.2.2.2.2.2.2.2
              have S1 := Lib.hid (fun (W' : World) (g : Nat) (hh : Hid (Below W.heap.size W W')) (hg : Blk W' g 45 #[.string (bs (q).pkg.name), .string (bs (q).pkg.ver), .slice (rr).a1 (q).pkg.pre.length (rr).c1, .slice (rr).a2 (q).pkg.dep.length (rr).c2, .slice (rr).a3 (q).pkg.rcm.length (rr).c3, .slice (rr).a4 (q).pkg.con.length (rr).c4, .slice (rr).a5 (q).pkg.brk.length (rr).c5, .slice (rr).a6 (q).pkg.prv.length (rr).c6, .bool (q).pkg.ess, .bool (q).conf, .bool (q).hold]) => (show Calls Tryz.prog 20 #[.slice (some ⟨g, 0, none⟩) 1 1, .slice (some ⟨b3, o3 + j * 11, none⟩) 1 (c3 - j)] W' (fun e w' => e = .returned (.bool true) ∧ Below W'.heap.size W' w') from (by have h := sameEnts_any _ _ _ _ [q] [q] W' (ents_one hg (HRq8.out.kept (Kept.of_below hh.out))) (HS2.out.kept (Kept.of_below hh.out)); rw [show decide ([q] = [q]) = true from decide_eq_true rfl] at h; exact h)))
              go_region_held3 (fun w' => Hid (Below W.heap.size W w')) (first | with_reducible assumption | exact HB1 | exact Lib.hid (below_drewN (Below.refl _ _) 1) | (have hh := (by assumption : Hid (Below W.heap.size W _)); exact Lib.hid (below_alloc hh.out _)))
                (first | (go_at_call 20; have hh := (by assumption : Hid (Below W.heap.size W _)); refine (S1.out _ _ hh (by first | exact blk_new1 _ _ _ | exact Blk.new _ _ _)).mono ?_; rintro e w5 ⟨rfl, hb1⟩; have HB1 := Lib.hid (below_next hh.out hb1); clear hb1))
              clear a0 a1 a2 a3 a4 a5 a6 a7 a8 a9 a10 S1
              have HB9 := Lib.hid (below_next HB8.out HB1.out)
              go_wp2_with fail
              go_roundw
              case rel => exact ⟨m + 1, by omega, by simp, HB9.out⟩
              case measure => (try simp only [intOf]); omega
          · have HBx := Lib.hid (below_next HB3.out HBW.out)
            have HSTx := Lib.hid (HST3.out.next HBW.out)
            have HEx := Lib.hid (HE3.out.kept (Kept.of_below HBW.out))
            clear HST3 HB3 HE3 HBW
            have d0 := HSTx.out.cell 0
            have d1 := HSTx.out.cell 1
            simp only [List.getElem?_toArray, List.getElem?_cons_zero, List.getElem?_cons_succ] at d0 d1
            go_wp2_with fail
            have HQ := Lib.hid (rfind_any _ _ t nm wr HEx.out)
            refine HQ.out.mono ?_
            rintro e w8 ⟨rfl, hb8⟩
            have HBy := Lib.hid (below_next HBx.out hb8)
            have HSTy := Lib.hid (HSTx.out.next hb8)
            have HEy := Lib.hid (HEx.out.kept (Kept.of_below hb8))
            clear hb8 HQ d0 d1 HBx HSTx HEx
            have d0 := HSTy.out.cell 0
            have d1 := HSTy.out.cell 1
            simp only [List.getElem?_toArray, List.getElem?_cons_zero, List.getElem?_cons_succ] at d0 d1
            obtain ⟨hk1, hk4⟩ := HDD.out.kinds
            dsimp only at hk1 hk4
            obtain rfl | rfl | rfl | rfl : k = 1 ∨ k = 2 ∨ k = 3 ∨ k = 4 := by omega
            · clear hk1 hk4
              obtain ⟨⟨j, y, hj, hy, hyc⟩, hz1, hz2⟩ := HDD.out.conf (show (1 : Int) ≠ 3 by decide) (show (1 : Int) ≠ 2 by decide)
              clear hz1 hz2
              dsimp only at hj hyc
              rw [hj]
              have hjl : j < t.length := (List.getElem?_eq_some_iff.1 hy).1
              obtain ⟨y2, b3, o3, r3, hy2, hA3, hr3, e0, e1, e2, e3, e4, e5, e6, e7, e8, e9, e10⟩ := HEy.out.at_ hjl (Kept.refl _)
              obtain rfl : y = y2 := Option.some.inj (hy.symm.trans hy2)
              subst hA3
              have hj0 : (0 : Int) ≤ (j : Int) := Int.natCast_nonneg _
              have hj1 : (j : Int) < (t.length : Int) := by omega
              have hjt : ((j : Int)).toNat = j := Int.toNat_natCast _
              have hjd : decide ((0 : Int) ≤ (j : Int)) = true := decide_eq_true (by omega)
              have e9' : w8.cell? ⟨b3, o3 + j * 11 + 9, none⟩ = some (.bool false) := by rw [e9, hyc] <;> rfl
              clear hj hy hyc hy2 hr3 e0 e1 e2 e3 e4 e5 e6 e7 e8 e9 e10
              go_wp2_with fail
              refine (awake22_any _).mono ?_
              rintro e w9 ⟨rfl, hb9⟩
              go_wp2
              go_ret
              exact ⟨rfl, below_next HBy.out hb9⟩
            · clear hk1 hk4
              obtain ⟨hj, hl⟩ := HDD.out.remove rfl
              dsimp only at hj
              rw [hj]
              have hls : ((t.length : Int) == (s.length : Int) - 1) = true := by rw [beq_iff_eq]; omega
              have hlw : IntKind.i64.wrap ((s.length : Int) - 1) = (s.length : Int) - 1 := by rw [IntKind.wrap_i64]; omega
              clear hj
              go_wp2_with fail
              refine (awake22_any _).mono ?_
              rintro e w9 ⟨rfl, hb9⟩
              go_wp2
              go_ret
              exact ⟨rfl, below_next HBy.out hb9⟩
            · clear hk1 hk4
              obtain ⟨j, y, hj, hy, hyc⟩ := HDD.out.unpack rfl
              dsimp only at hj hyc
              rw [hj]
              have hjl : j < t.length := (List.getElem?_eq_some_iff.1 hy).1
              obtain ⟨y2, b3, o3, r3, hy2, hA3, hr3, e0, e1, e2, e3, e4, e5, e6, e7, e8, e9, e10⟩ := HEy.out.at_ hjl (Kept.refl _)
              obtain rfl : y = y2 := Option.some.inj (hy.symm.trans hy2)
              subst hA3
              have hj0 : (0 : Int) ≤ (j : Int) := Int.natCast_nonneg _
              have hj1 : (j : Int) < (t.length : Int) := by omega
              have hjt : ((j : Int)).toNat = j := Int.toNat_natCast _
              have hjd : decide ((0 : Int) ≤ (j : Int)) = true := decide_eq_true (by omega)
              have e9' : w8.cell? ⟨b3, o3 + j * 11 + 9, none⟩ = some (.bool false) := by rw [e9, hyc] <;> rfl
              clear hj hy hyc hy2 hr3 e0 e1 e2 e3 e4 e5 e6 e7 e8 e9 e10
              go_wp2_with fail
              refine (awake22_any _).mono ?_
              rintro e w9 ⟨rfl, hb9⟩
              go_wp2
              go_ret
              exact ⟨rfl, below_next HBy.out hb9⟩
            · clear hk1 hk4
              obtain ⟨⟨j, y, hj, hy, hyc⟩, hz1, hz2⟩ := HDD.out.conf (show (4 : Int) ≠ 3 by decide) (show (4 : Int) ≠ 2 by decide)
              clear hz1 hz2
              have HBK := Lib.hid (fun (u : List Ent) (h : Did t ⟨1, nm, []⟩ fr u) => Did.back HDD.out rfl h)
              dsimp only at hj hyc
              rw [hj]
              have hjl : j < t.length := (List.getElem?_eq_some_iff.1 hy).1
              obtain ⟨y2, b3, o3, r3, hy2, hA3, hr3, e0, e1, e2, e3, e4, e5, e6, e7, e8, e9, e10⟩ := HEy.out.at_ hjl (Kept.refl _)
              obtain rfl : y = y2 := Option.some.inj (hy.symm.trans hy2)
              subst hA3
              have hj0 : (0 : Int) ≤ (j : Int) := Int.natCast_nonneg _
              have hj1 : (j : Int) < (t.length : Int) := by omega
              have hjt : ((j : Int)).toNat = j := Int.toNat_natCast _
              have hjd : decide ((0 : Int) ≤ (j : Int)) = true := decide_eq_true (by omega)
              have e9' : w8.cell? ⟨b3, o3 + j * 11 + 9, none⟩ = some (.bool true) := by rw [e9, hyc] <;> rfl
              clear hj hy hyc hy2 hr3 e0 e1 e2 e3 e4 e5 e6 e7 e8 e9 e10
              go_wp2_with fail
              have HQ := Lib.hid (do_any t _ _ 1 nm [] fr _ _ w8 HEy.out (HF.out.kept (Kept.of_below HBy.out)) HFT.out HFF.out)
              refine HQ.out.mono ?_
              rintro e w10 ⟨A5, c5, rfl, he5, hb5⟩
              have HE5 := Lib.hid he5
              have HBz := Lib.hid (below_next HBy.out hb5)
              have e9z := Kept.of_below hb5 _ _ e9'
              have HDI := Lib.hid (fun h => do_did (s := t) (st := ⟨1, nm, []⟩) (fr := fr) h)
              clear he5 hb5 HQ e9' d0 d1
              obtain ⟨r, hr⟩ : ∃ r, r = doS t ⟨1, nm, []⟩ fr := ⟨_, rfl⟩
              rw [← hr] at HE5 HDI ⊢
              clear hr
              obtain ⟨u, f⟩ := r
              dsimp only at HE5 HDI ⊢
              by_cases hf0 : f = 0
              · subst hf0
                obtain rfl : u = s := HBK.out u (HDI.out rfl)
                clear HBK HDI
                go_wp2_with fail
                have HQ := Lib.hid (sameEnts_any _ _ _ _ u u w10 HE5.out (HS.out.kept (Kept.of_below HBz.out)))
                refine HQ.out.mono ?_
                rintro e w11 ⟨rfl, hb11⟩
                rw [show decide (u = u) = true from decide_eq_true rfl]
                have HBe := Lib.hid (below_next HBz.out hb11)
                clear hb11 HQ
                go_wp2_with fail
                refine (awake22_any _).mono ?_
                rintro e w9 ⟨rfl, hb9⟩
                go_wp2
                go_ret
                exact ⟨rfl, below_next HBe.out hb9⟩
              · have hfb : (f != 0) = true := by rw [bne_iff_ne]; exact hf0
                clear hf0 HDI HBK
                go_wp2_with fail
                refine (awake22_any _).mono ?_
                rintro e w9 ⟨rfl, hb9⟩
                go_wp2
                go_ret
                exact ⟨rfl, below_next HBz.out hb9⟩
      · have hu : t = [] := HNI.out her
        subst hu
        have hEb : (er != 0) = true := by rw [bne_iff_ne]; exact her
        clear her HDI HNI
        go_wp2_with fail
        refine (awake22_any _).mono ?_
        rintro e w9 ⟨rfl, hb9⟩
        go_wp2
        go_ret
        exact ⟨rfl, below_next HB3.out hb9⟩
end Go.Proofs.YtaicidbopgnmfaaGreatDoor
