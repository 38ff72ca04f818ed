/- The law RequestStays. -/
import Derived.Test.YtaicidbopgnmfaaGreatDoorRqW
import Derived.Test.YtaicidbopgnmfaaGreatDoorStC
import Derived.Deep.RegionHeld3
namespace Go.Proofs.YtaicidbopgnmfaaGreatDoor
set_option linter.unusedSimpArgs false
set_option linter.unusedVariables false
open Go.RowKit
attribute [local go_sem ↓] Go.wp_at_zero Go.wp_at_succ
attribute [local irreducible] wpQuiet
theorem at_idxQ (x : Int) (n : Nat) (hn : 0 < n) (hb : n ≤ 1000000000) : ∃ i : Nat, i < n ∧ wrap64 ((IntKind.u64.wrap x).tmod (n : Int)) = (i : Int) := by
  have h0 : 0 ≤ IntKind.u64.wrap x := by
    simp only [IntKind.wrap, IntKind.signed, IntKind.bits]
    simp
    omega
  have h1 : (IntKind.u64.wrap x).tmod (n : Int) = IntKind.u64.wrap x % (n : Int) := Int.tmod_eq_emod_of_nonneg h0
  have h2 := Int.emod_nonneg (IntKind.u64.wrap x) (by omega : (n : Int) ≠ 0)
  have h3 := Int.emod_lt_of_pos (IntKind.u64.wrap x) (by omega : (0 : Int) < n)
  refine ⟨(IntKind.u64.wrap x % (n : Int)).toNat, by omega, ?_⟩
  rw [h1]
  unfold wrap64
  omega
theorem pkg_oneQ {w : World} : ∀ cs y, RPkg w cs y → ∀ u ∈ cs, u.oneCell' = true := fun cs y ⟨r, h, _⟩ u hu => by
  subst h
  exact encK_one r y u hu
theorem asks_one {w : World} {k : Int} {n v : List UInt8} {g : Nat} (hB : Blk w g 68 #[.int .i64 k, .string (bs n), .string (bs v)]) : Stps w (some ⟨g, 0, none⟩) 1 [⟨k, n, v⟩] :=
  slc_blk [[.int .i64 k, .string (bs n), .string (bs v)]] hB rfl rfl (fun i cs x h1 h2 => by
    rcases i with _ | i
    · simp at h1 h2
      subst h1 h2
      exact ⟨rfl, rfl⟩
    · simp at h1) (by simp) (by show 1 * 40 ≤ _; decide) (by simp) (by decide)
theorem sat_eq {q : Pkg} {n v : List UInt8} (hp : q.prv = []) (hn : q.name = n) (h1 : nameS n = true) (h2 : isV v = true) : satS q ⟨n, 3, v⟩ = sameV q.ver v := by
  simp [satS, mayA, hp, hn, h1, h2, holdsS, sameV]
theorem ver_rpk {w : World} {p : Pkg} {v : List UInt8} (hv : short v) : ∀ cs, RPkg w cs p → RPkg w (cs.set 1 (.string (bs v))) { p with ver := v } := fun cs ⟨r, h, hr⟩ => by
  subst h
  exact ⟨r, rfl, hr.1, hv, hr.2.2⟩
set_option maxRecDepth 100000 in
set_option maxHeartbeats 16000000 in
theorem qst_main (A : Option Addr) (c : Nat) (s : List Ent) (at_ : Int) (other : List UInt8) (w : World) (hs : Ents w A c s) (hat : -9223372036854775808 ≤ at_ ∧ at_ ≤ 9223372036854775807) (hot : short other) (h2 : lightM 26 40 14 10 (s.map Ent.pkg) = true) (h4 : mayEntsE s = 0) : Calls Tryz.prog 12 #[.slice A s.length c, .int .i64 at_, .string (bs other)] w fun e w' => e = .returned (.bool true) ∧ Below w.heap.size w w' := by
  have HB := Lib.hid (Below.refl w.heap.size w)
  have hbs := hs.bd
  have HS := Lib.hid hs
  have hsl26 : s.length ≤ 26 := by have h := (light_fd h2).1; rw [List.length_map] at h; exact h
  have HSL := Lib.hid (show s.length ≤ 1000 by omega)
  have HXD := Lib.hid (show ∀ x ∈ s, fewD x.pkg from fun x hx => (light_fd h2).2 _ (List.mem_map_of_mem hx))
  have H2 := Lib.hid h2
  have H4 := Lib.hid h4
  have HOT := Lib.hid hot
  clear h2 h4 hs hot hat
  go_enter Tryz.func12, Tryz.ntmps12
  go_wp2_with fail
  refine (bare17_any _ _ s _ (HS.out.kept (Kept.of_below HB.out))).mono ?_
  rintro e w1 ⟨A9, c9, rfl, hp, hb1⟩
  generalize hm : (s).map Ent.pkg = lp at hp ⊢
  have HP := Lib.hid hp
  have HT1 := Lib.hid (show lightM 26 40 14 10 lp = _ from hm ▸ H2.out)
  have HB := Lib.hid (below_next HB.out hb1)
  clear hp hm hb1
  go_wp2_with fail
  refine (light17_any _ _ _ _ HP.out).mono ?_
  rintro e w2 ⟨rfl, hb2⟩
  rw [HT1.out]
  have HB := Lib.hid (below_next HB.out hb2)
  clear hb2 HP HT1
  go_wp2_with fail
  refine (rents_any _ _ s _ (HS.out.kept (Kept.of_below HB.out)) (fun x h => (HXD.out x h).r)).mono ?_
  rintro e w2 ⟨rfl, hb2⟩
  rw [H4.out]
  have HB := Lib.hid (below_next HB.out hb2)
  clear hb2
  go_wp2_with fail
  refine (bare17_any _ _ s _ (HS.out.kept (Kept.of_below HB.out))).mono ?_
  rintro e w5 ⟨AT, cT, rfl, hp, hb5⟩
  obtain ⟨T, hT⟩ : ∃ T, T = s.map Ent.pkg := ⟨_, rfl⟩
  rw [← hT] at hp ⊢
  have HTE := Lib.hid hT
  have HTL := Lib.hid (show T.length = s.length by rw [hT, List.length_map])
  have HT4 := Lib.hid (show meetsQ [⟨4, [], []⟩] T s = true by rw [hT]; exact there_4 H4.out)
  have HT3 := Lib.hid (show meetsQ [⟨3, [], []⟩] T s = true by rw [hT]; exact there_3 H4.out)
  have HT7 := Lib.hid (show meetsQ [⟨7, [], []⟩] T s = true by rw [hT]; exact there_7 H4.out)
  have hbt := hp.bd
  have HP := Lib.hid hp
  have HBX := Lib.hid (below_next HB.out hb5)
  have HS := Lib.hid (HS.out.kept (Kept.of_below HBX.out))
  clear hp hb5 hT HB
  have HB := Lib.hid (Below.refl w5.heap.size w5)
  go_wp2_with fail
  have HBa := Lib.hid (below_alloc HB.out (.cells #[.int .i64 4, .string (bs []), .string (bs [])] 68))
  have HQ := Lib.hid (qmeets_any [(⟨4, [], []⟩ : Stp)] _ 1 T _ cT s _ c _ (asks_one (blk_new1 w5 68 #[.int .i64 4, .string (bs []), .string (bs [])])) (by simp [short]) (HP.out.kept (Kept.of_below HBa.out)) (HS.out.kept (Kept.of_below HBa.out)) HXD.out HSL.out)
  rw [HT4.out] at HQ
  refine HQ.out.mono ?_
  rintro e w6 ⟨rfl, hb6⟩
  have HB := Lib.hid (below_next HBa.out hb6)
  clear hb6 HQ HBa
  go_wp2_with fail
  have HBa := Lib.hid (below_alloc HB.out (.cells #[.int .i64 3, .string (bs []), .string (bs [])] 68))
  have HQ := Lib.hid (qmeets_any [(⟨3, [], []⟩ : Stp)] _ 1 T _ cT s _ c _ (asks_one (blk_new1 w6 68 #[.int .i64 3, .string (bs []), .string (bs [])])) (by simp [short]) (HP.out.kept (Kept.of_below HBa.out)) (HS.out.kept (Kept.of_below HBa.out)) HXD.out HSL.out)
  rw [HT3.out] at HQ
  refine HQ.out.mono ?_
  rintro e w7 ⟨rfl, hb7⟩
  have HB := Lib.hid (below_next HBa.out hb7)
  clear hb7 HQ HBa
  go_wp2_with fail
  have HBa := Lib.hid (below_alloc HB.out (.cells #[.int .i64 7, .string (bs []), .string (bs [])] 68))
  have HQ := Lib.hid (qmeets_any [(⟨7, [], []⟩ : Stp)] _ 1 T _ cT s _ c _ (asks_one (blk_new1 w7 68 #[.int .i64 7, .string (bs []), .string (bs [])])) (by simp [short]) (HP.out.kept (Kept.of_below HBa.out)) (HS.out.kept (Kept.of_below HBa.out)) HXD.out HSL.out)
  rw [HT7.out] at HQ
  refine HQ.out.mono ?_
  rintro e w8 ⟨rfl, hb8⟩
  have HB := Lib.hid (below_next HBa.out hb8)
  clear hb8 HQ HBa HT4 HT3 HT7
  by_cases hs0 : s.length = 0
  · have hz : ((s.length : Int) == 0) = true := by rw [beq_iff_eq]; omega
    clear hs0
    go_wp2_with fail
    refine (awake17_any _).mono ?_
    rintro e w9 ⟨rfl, hb9⟩
    go_wp2
    go_ret
    first | exact ⟨rfl, below_next HB.out hb9⟩ | exact ⟨rfl, below_next HBX.out (below_next HB.out hb9)⟩
  · have hz : ((s.length : Int) == 0) = false := by rw [beq_eq_false_iff_ne]; omega
    have hsp : 0 < s.length := by omega
    obtain ⟨i, hil, hi⟩ := at_idxQ at_ s.length hsp (by omega)
    clear hs0
    have hiT : i < T.length := by have := HTL.out; omega
    obtain ⟨p, b, o, rp, hpi, hA, hrp, e0, e1, e2, e3, e4, e5, e6, e7, e8⟩ := HP.out.at_ hiT (Kept.of_below HB.out)
    subst hA
    obtain ⟨x, hxi, hxp⟩ : ∃ x, s[i]? = some x ∧ x.pkg = p := by
      have h0 := hpi
      rw [HTE.out, List.getElem?_map, Option.map_eq_some_iff] at h0
      exact h0
    have HXI := Lib.hid hxi
    have HPI := Lib.hid hpi
    have HXP := Lib.hid hxp
    have HNV := Lib.hid (show nameS p.name = true ∧ isV p.ver = true from hxp ▸ may_nv ((ents_zero H4.out).2.1 x (List.mem_of_getElem? hxi)))
    have hsn : short p.name := hrp.1
    have hsv : short p.ver := hrp.2.1
    have HSN := Lib.hid hsn
    have HSV := Lib.hid hsv
    clear hxi hxp hrp hsn hsv hpi
    have i0 : (0 : Int) ≤ (i : Int) := Int.natCast_nonneg _
    have i1 : (i : Int) < (T.length : Int) := by omega
    have tn : ((i : Int)).toNat = i := Int.toNat_natCast _
    go_wp2_with fail
    rw [hi]
    clear hi
    have HT5 := Lib.hid (show meetsQ [⟨5, p.name, []⟩] T s = true by rw [HTE.out, ← HXP.out]; exact there_5 H4.out (List.mem_of_getElem? HXI.out))
    have HBa := Lib.hid (below_alloc HB.out (.cells #[.int .i64 5, .string (bs p.name), .string (bs [])] 68))
    have HH := Lib.hid (asks_one (blk_new1 w8 68 #[.int .i64 5, .string (bs p.name), .string (bs [])]))
    have HSH := Lib.hid (show ∀ a ∈ [(⟨5, p.name, []⟩ : Stp)], short a.name from fun a ha => by rw [List.mem_singleton.1 ha]; exact HSN.out)
    clear e0 e1 e2 e3 e4 e5 e6 e7 e8
    have HQ := Lib.hid (qmeets_any [(⟨5, p.name, []⟩ : Stp)] _ 1 T _ cT s _ c _ HH.out HSH.out (HP.out.kept (Kept.of_below HBa.out)) (HS.out.kept (Kept.of_below HBa.out)) HXD.out HSL.out)
    rw [HT5.out] at HQ
    refine HQ.out.mono ?_
    rintro e w9 ⟨rfl, hb9⟩
    have HH := Lib.hid (HH.out.kept (Kept.of_below hb9))
    have HB := Lib.hid (below_next HBa.out hb9)
    clear hb9 HQ HBa HT5
    obtain ⟨Q, hQ⟩ : ∃ Q, Q = { p with ver := other } := ⟨_, rfl⟩
    have hT1000 : T.length ≤ 1000 := by have h := HTL.out; omega
    have HBY := Lib.hid (show (([] : List Pkg).length + T.length) * 184 ≤ 140737488355328 by simp; omega)
    have HB9 := Lib.hid (below_alloc (Below.refl w9.heap.size w9) (.cells #[] 43))
    have HP9 := Lib.hid (HP.out.kept (Kept.of_below HB.out))
    go_wp2_with (at_builtin; refine wpList_append_all (by rfl) _ _ 25 (by rfl) w9.heap.size 43 _ 9 184 184 Tryz.underlying25 infPkg rfl (by omega) (RPkg w9) _ [] (by rfl) (own_made w9 43 9) _ cT T (by rfl) (Slc.mono HP9.out (Kept.of_below HB9.out) fun _ _ h => h) pkg_oneQ HBY.out (by omega) HB9.out.size ?_; intro v3 w10 ho3 hg3; have hb3 := (own_made (R := RPkg w9) w9 43 9).below HB9.out HB9.out.size hg3; rw [List.nil_append] at ho3; obtain ⟨g, cap, rfl, hgB⟩ := ho3.form (by omega); obtain ⟨cs1, ⟨r1, hcs1, hr1⟩, hlen1, hrg1⟩ := ho3.elem HPI.out (by omega); subst hcs1; have q1 := hrg1 1 _ rfl; have fz := ho3.frz (i * 9 + 1); have hgz := ho3.sizeLt; have ho4 := ho3.set (i := i) (j := 1) (u := .string (bs other)) HPI.out (by omega) (ver_rpk HOT.out); have hb4 := ho3.belowSet hb3 ⟨g, i * 9 + 1, none⟩ rfl (.string (bs other)); rw [← hQ] at ho4; have y0 : w10.cell? ⟨g, i * 9, none⟩ = some (.string (bs p.name)) := hrg1 0 _ rfl; have y2 := hrg1 2 _ rfl; have y3 := hrg1 3 _ rfl; have y4 := hrg1 4 _ rfl; have y5 := hrg1 5 _ rfl; have y6 := hrg1 6 _ rfl; have y7 := hrg1 7 _ rfl; have y8 := hrg1 8 _ rfl; have HR2 := Lib.hid (show RP w9 r1 Q by rw [hQ]; exact ⟨hr1.1, HOT.out, hr1.2.2⟩); have HO4 := Lib.hid ho4; have HB4 := Lib.hid hb4; clear ho3 hg3 hb3 ho4 hb4 hr1 hlen1 hrg1)
    clear q1 fz hgz y0 y2 y3 y4 y5 y6 y7 y8
    generalize w10.setCell ⟨g, i * 9 + 1, none⟩ (.string (bs other)) = w11 at HO4 HB4 ⊢
    obtain ⟨E, hE⟩ : ∃ E, E = mayE Q := ⟨_, rfl⟩
    have HQ := Lib.hid (rmay_any Q r1 w11 (HR2.out.kept (Kept.of_below HB4.out)))
    rw [← hE, hQ] at HQ
    refine HQ.out.mono ?_
    rintro e w12 ⟨rfl, hb12⟩
    have HU := Lib.hid (HO4.out.next hb12)
    have HB12 := Lib.hid (below_next HB4.out hb12)
    have HB := Lib.hid (below_next HB.out HB12.out)
    have HH := Lib.hid (HH.out.kept (Kept.of_below HB12.out))
    clear hb12 HQ HO4 HB4 HR2 HB9
    by_cases hE0 : E = 0
    · have HQN := Lib.hid (show Q.name = x.pkg.name by rw [hQ, HXP.out])
      have HQV := Lib.hid hQ
      subst hE0
      clear hE hQ
      have HPW := Lib.hid (HP.out.kept (Kept.of_below HB.out))
      have i2 : (i : Int) ≤ (cT : Int) := by omega
      have i3 : (0 : Int) ≤ (i : Int) + 1 := by omega
      have i4 : (i : Int) + 1 ≤ (T.length : Int) := by omega
      have i5 : (i : Int) + 1 ≤ (cT : Int) := by omega
      have i6 : (i : Int) ≤ (i : Int) + 1 := by omega
      have i8 : (i : Int) ≤ (T.length : Int) := by omega
      have tm : ((i : Int) + 1).toNat = i + 1 := by omega
      have wi : IntKind.i64.wrap ((i : Int) + 1) = (i : Int) + 1 := by rw [IntKind.wrap_i64]; omega
      have htk : (T.take i).length = i := by rw [List.length_take]; omega
      have HTK := Lib.hid htk
      have HBy1 := Lib.hid (show (([] : List Pkg).length + (T.take i).length) * 184 ≤ 140737488355328 by simp; omega)
      have HBy2 := Lib.hid (show ((T.take i).length + (T.drop (i + 1)).length) * 184 ≤ 140737488355328 by rw [htk, List.length_drop]; omega)
      clear htk
      obtain ⟨W2, hW2⟩ : ∃ W2 : World, W2 = w12 := ⟨_, rfl⟩
      subst hW2
      by_cases hce : cT = i + 1
      · have HSL2 := Lib.hid (show ∀ W', Kept W2 W' → Slc W' 9 184 (RPkg W2) (some ⟨b, o, none⟩) 0 (T.drop (i + 1)) from fun W' _ => by
          rw [List.drop_eq_nil_of_le (by omega)]
          exact Slc.nil_ (by omega))
        have HLD := Lib.hid (show (T.drop (i + 1)).length = 0 by rw [List.length_drop]; omega)
        subst hce
        go_wp2_with fail
        go_region_held3 (fun w' => Hid (Below W2.heap.size W2 w')) (first | with_reducible assumption | exact Lib.hid hbB | exact Lib.hid hbA | exact Lib.hid (below_drewN (Below.refl _ _) 1) | (have hh := (by assumption : Hid (Below W2.heap.size W2 _)); exact Lib.hid (below_alloc hh.out _))) (first | (have hh := (by assumption : Hid (Below W2.heap.size W2 _)); refine step_append_all (by rfl) _ _ 25 (by rfl) W2.heap.size 43 _ 9 184 184 Tryz.underlying25 infPkg rfl (by omega) (RPkg W2) _ [] (by rfl) (by first | exact (own_made W2 43 9).drew | exact own_made W2 43 9 | exact own_made W2.drew 43 9) (some ⟨b, o, none⟩) (i + 1) (T.take i) (by rw [HTK.out]; rfl) (Slc.mono (Slc.take HPW.out i) (Kept.of_below hh.out) fun _ _ h => h) pkg_oneQ HBy1.out (by omega) hh.out.size ?_; intro v1 y1 ho1 hg1; have hbA := (own_made (R := RPkg W2) W2 43 9).drew.below hh.out hh.out.size hg1; rw [List.nil_append] at ho1) | (have hh := (by assumption : Hid (Below W2.heap.size W2 _)); refine step_append_all (by rfl) _ _ 25 (by rfl) W2.heap.size 43 _ 9 184 184 Tryz.underlying25 infPkg rfl (by omega) (RPkg W2) v1 (T.take i) (by rfl) ho1 (some ⟨b, o, none⟩) 0 (T.drop (i + 1)) (by rw [HLD.out]; rfl) (HSL2.out _ (Kept.of_below hh.out)) pkg_oneQ HBy2.out (by omega) hbA.size ?_; intro v2 y2 ho2 hg2; have hbB := ho1.below hbA hbA.size hg2))
        go_wp2_with fail
        have HB2 := Lib.hid (below_next HB.out hbB)
        obtain ⟨V, hV⟩ : ∃ V, V = T.take i ++ T.drop (i + 1) := ⟨_, rfl⟩
        rw [← hV] at ho2
        have hvl : V.length ≤ T.length := by rw [hV, List.length_append, List.length_take, List.length_drop]; omega
        obtain ⟨AV, cV, rfl, hvs⟩ := ho2.slc (z := 184) (by omega)
        have HPV := Lib.hid (show Pkgs y2 AV cV V from Slc.mono hvs (Kept.refl _) fun _ _ h => h.kept (Kept.of_below hbB))
        have HU2 := Lib.hid (HU.out.next hbB)
        have HH2 := Lib.hid (HH.out.kept (Kept.of_below hbB))
        have K92 := Lib.hid ((Kept.of_below HB12.out).trans (Kept.of_below hbB))
        have HGW := Lib.hid (show meetsQ [⟨5, p.name, []⟩] V s = false by rw [hV, HTE.out, ← HXP.out]; exact hold_w H4.out HXI.out)
        have HGU := Lib.hid (show meetsQ [⟨5, p.name, []⟩] (T.set i Q) s = sameV Q.ver p.ver by rw [HTE.out, ← HXP.out]; exact hold_u H4.out HXI.out HQN.out)
        obtain ⟨cs2, ⟨r2, hcs2, hr2⟩, hlen2, hrg2⟩ := HU2.out.elem (i := i) (x := Q) (by rw [List.getElem?_set, if_pos rfl, if_pos hiT]) (by rw [List.length_set]; exact hT1000)
        subst hcs2
        have HR2 := Lib.hid (hr2.kept K92.out)
        have z0 : y2.cell? ⟨g, i * 9, none⟩ = some (.string (bs Q.name)) := hrg2 0 _ rfl
        have z1 := hrg2 1 _ rfl
        have z2 := hrg2 2 _ rfl
        have z3 := hrg2 3 _ rfl
        have z4 := hrg2 4 _ rfl
        have z5 := hrg2 5 _ rfl
        have z6 := hrg2 6 _ rfl
        have z7 : y2.cell? ⟨g, i * 9 + 7, none⟩ = some (.slice r2.a6 Q.prv.length r2.c6) := hrg2 7 _ rfl
        have z8 := hrg2 8 _ rfl
        obtain ⟨p2, b2, o2, rp2, hp2, hA2, hrp2, d0, d1, d2, d3, d4, d5, d6, d7, d8⟩ := HP.out.at_ hiT (Kept.of_below HB2.out)
        obtain rfl : p = p2 := Option.some.inj (HPI.out.symm.trans hp2)
        obtain ⟨rfl, rfl⟩ : b = b2 ∧ o = o2 := by injection hA2 with hA; injection hA with h1 h2; exact ⟨h1, h2⟩
        have Z0 := fun q : Be y2 => Be.cell z0 q
        have Z1 := fun q : Be y2 => Be.cell z1 q
        have Z2 := fun q : Be y2 => Be.cell z2 q
        have Z3 := fun q : Be y2 => Be.cell z3 q
        have Z4 := fun q : Be y2 => Be.cell z4 q
        have Z5 := fun q : Be y2 => Be.cell z5 q
        have Z6 := fun q : Be y2 => Be.cell z6 q
        have Z7 := fun q : Be y2 => Be.cell z7 q
        have Z8 := fun q : Be y2 => Be.cell z8 q
        have D0 := fun q : Be y2 => Be.cell d0 q
        have D1 := fun q : Be y2 => Be.cell d1 q
        have HOK := Lib.hid (show Atm.ok ⟨p.name, 3, p.ver⟩ from ⟨HSN.out, HSV.out⟩)
        clear ho1 hg1 hbA ho2 hg2 hbB hV hvl hvs hr2 hlen2 hrg2 z0 z1 z2 z3 z4 z5 z6 z8 hp2 hA2 hrp2 d0 d1 d2 d3 d4 d5 d6 d7 d8
        obtain ⟨S, hS⟩ : ∃ S, satS Q ⟨p.name, 3, p.ver⟩ = S := ⟨_, rfl⟩
        have HSB := Lib.hid hS
        by_cases hP : Q.prv.length = 0
        · have HSQ := Lib.hid (show sameV Q.ver p.ver = S by rw [← hS, sat_eq (List.length_eq_zero_iff.1 hP) (by rw [HQN.out, HXP.out]) HNV.out.1 HNV.out.2])
          have hp0 : ((Q.prv.length : Int) == 0) = true := by rw [beq_iff_eq]; omega
          have hp1 : decide ((0 : Int) < (Q.prv.length : Int)) = false := decide_eq_false (by omega)
          have hp2 : decide (0 < Q.prv.length) = false := decide_eq_false (by omega)
          have hp3 : (Q.prv.length == 0) = true := by rw [beq_iff_eq]; omega
          clear hS hP
          rcases S with _ | _
          · refine region_be (by kernel_rfl) (by kernel_rfl) ?_
            repeat (quiet_step (first | (go_at_call 49; with_reducible exact Calls.be_of ((rsat_any Q r2 ⟨p.name, 3, p.ver⟩ _ (HR2.out.kept (Be.kept _)) HOK.out).mono fun _ _ h => ⟨h.1.trans (congrArg (fun b => Ending.returned (Value.bool b)) HSB.out), h.2⟩))))
            refine wpQuiet_nil ?_
            intro _ hw'
            obtain ⟨pb, hw''⟩ := hw'
            subst hw''
            obtain ⟨W3, hbw⟩ := pb
            dsimp only
            have y7 := Kept.of_below hbw _ _ z7
            have HB3 := Lib.hid (below_next HB2.out hbw)
            have HU3 := Lib.hid (HU2.out.next hbw)
            have HH3 := Lib.hid (HH2.out.kept (Kept.of_below hbw))
            have HPV3 := Lib.hid (HPV.out.kept (Kept.of_below hbw))
            have K9 := Lib.hid (K92.out.trans (Kept.of_below hbw))
            clear hbw Z0 Z1 Z2 Z3 Z4 Z5 Z6 Z7 Z8 D0 D1 z7
            go_wp2_with fail
            have HUP := Lib.hid (show Pkgs W3 (some ⟨g, 0, none⟩) cap (T.set i Q) from Slc.mono (Own.slcOf (z := 184) HU3.out (by rw [List.length_set]; omega)) (Kept.refl _) fun _ _ h => h.kept K9.out)
            have HQ := Lib.hid (qmeets_any [(⟨5, p.name, []⟩ : Stp)] _ 1 (T.set i Q) _ cap s _ c _ HH3.out HSH.out HUP.out (HS.out.kept (Kept.of_below HB3.out)) HXD.out HSL.out)
            rw [List.length_set, HGU.out, HSQ.out] at HQ
            refine HQ.out.mono ?_
            rintro e w14 ⟨rfl, hb14⟩
            have HB3 := Lib.hid (below_next HB3.out hb14)
            have HH3 := Lib.hid (HH3.out.kept (Kept.of_below hb14))
            have HPV3 := Lib.hid (HPV3.out.kept (Kept.of_below hb14))
            clear hb14 HQ y7
            go_wp2_with fail
            have HQ := Lib.hid (qmeets_any [(⟨5, p.name, []⟩ : Stp)] _ 1 V _ cV s _ c _ HH3.out HSH.out HPV3.out (HS.out.kept (Kept.of_below HB3.out)) HXD.out HSL.out)
            rw [HGW.out] at HQ
            refine HQ.out.mono ?_
            rintro e w15 ⟨rfl, hb15⟩
            have HB := Lib.hid (below_next HB3.out hb15)
            clear hb15 HQ
            go_wp2_with fail
            refine (awake17_any _).mono ?_
            rintro e w9 ⟨rfl, hb9⟩
            go_wp2
            go_ret
            first | exact ⟨rfl, below_next HB.out hb9⟩ | exact ⟨rfl, below_next HBX.out (below_next HB.out hb9)⟩
          · refine region_be (by kernel_rfl) (by kernel_rfl) ?_
            repeat (quiet_step (first | (go_at_call 49; with_reducible exact Calls.be_of ((rsat_any Q r2 ⟨p.name, 3, p.ver⟩ _ (HR2.out.kept (Be.kept _)) HOK.out).mono fun _ _ h => ⟨h.1.trans (congrArg (fun b => Ending.returned (Value.bool b)) HSB.out), h.2⟩))))
            refine wpQuiet_nil ?_
            intro _ hw'
            obtain ⟨pb, hw''⟩ := hw'
            subst hw''
            obtain ⟨W3, hbw⟩ := pb
            dsimp only
            have y7 := Kept.of_below hbw _ _ z7
            have HB3 := Lib.hid (below_next HB2.out hbw)
            have HU3 := Lib.hid (HU2.out.next hbw)
            have HH3 := Lib.hid (HH2.out.kept (Kept.of_below hbw))
            have HPV3 := Lib.hid (HPV.out.kept (Kept.of_below hbw))
            have K9 := Lib.hid (K92.out.trans (Kept.of_below hbw))
            clear hbw Z0 Z1 Z2 Z3 Z4 Z5 Z6 Z7 Z8 D0 D1 z7
            go_wp2_with fail
            have HUP := Lib.hid (show Pkgs W3 (some ⟨g, 0, none⟩) cap (T.set i Q) from Slc.mono (Own.slcOf (z := 184) HU3.out (by rw [List.length_set]; omega)) (Kept.refl _) fun _ _ h => h.kept K9.out)
            have HQ := Lib.hid (qmeets_any [(⟨5, p.name, []⟩ : Stp)] _ 1 (T.set i Q) _ cap s _ c _ HH3.out HSH.out HUP.out (HS.out.kept (Kept.of_below HB3.out)) HXD.out HSL.out)
            rw [List.length_set, HGU.out, HSQ.out] at HQ
            refine HQ.out.mono ?_
            rintro e w14 ⟨rfl, hb14⟩
            have HB3 := Lib.hid (below_next HB3.out hb14)
            have HH3 := Lib.hid (HH3.out.kept (Kept.of_below hb14))
            have HPV3 := Lib.hid (HPV3.out.kept (Kept.of_below hb14))
            clear hb14 HQ y7
            go_wp2_with fail
            have HQ := Lib.hid (qmeets_any [(⟨5, p.name, []⟩ : Stp)] _ 1 V _ cV s _ c _ HH3.out HSH.out HPV3.out (HS.out.kept (Kept.of_below HB3.out)) HXD.out HSL.out)
            rw [HGW.out] at HQ
            refine HQ.out.mono ?_
            rintro e w15 ⟨rfl, hb15⟩
            have HB := Lib.hid (below_next HB3.out hb15)
            clear hb15 HQ
            go_wp2_with fail
            refine (awake17_any _).mono ?_
            rintro e w9 ⟨rfl, hb9⟩
            go_wp2
            go_ret
            first | exact ⟨rfl, below_next HB.out hb9⟩ | exact ⟨rfl, below_next HBX.out (below_next HB.out hb9)⟩
        · have hp0 : ((Q.prv.length : Int) == 0) = false := by rw [beq_eq_false_iff_ne]; omega
          have hp1 : decide ((0 : Int) < (Q.prv.length : Int)) = true := decide_eq_true (by omega)
          have hp2 : decide (0 < Q.prv.length) = true := decide_eq_true (by omega)
          have hp3 : (Q.prv.length == 0) = false := by rw [beq_eq_false_iff_ne]; omega
          clear hS hP
          rcases S with _ | _
          · refine region_be (by kernel_rfl) (by kernel_rfl) ?_
            repeat (quiet_step (first | (go_at_call 49; with_reducible exact Calls.be_of ((rsat_any Q r2 ⟨p.name, 3, p.ver⟩ _ (HR2.out.kept (Be.kept _)) HOK.out).mono fun _ _ h => ⟨h.1.trans (congrArg (fun b => Ending.returned (Value.bool b)) HSB.out), h.2⟩))))
            refine wpQuiet_nil ?_
            intro _ hw'
            obtain ⟨pb, hw''⟩ := hw'
            subst hw''
            obtain ⟨W3, hbw⟩ := pb
            dsimp only
            have y7 := Kept.of_below hbw _ _ z7
            have HB3 := Lib.hid (below_next HB2.out hbw)
            have HU3 := Lib.hid (HU2.out.next hbw)
            have HH3 := Lib.hid (HH2.out.kept (Kept.of_below hbw))
            have HPV3 := Lib.hid (HPV.out.kept (Kept.of_below hbw))
            have K9 := Lib.hid (K92.out.trans (Kept.of_below hbw))
            clear hbw Z0 Z1 Z2 Z3 Z4 Z5 Z6 Z7 Z8 D0 D1 z7
            go_wp2_with fail
            have HQ := Lib.hid (qmeets_any [(⟨5, p.name, []⟩ : Stp)] _ 1 V _ cV s _ c _ HH3.out HSH.out HPV3.out (HS.out.kept (Kept.of_below HB3.out)) HXD.out HSL.out)
            rw [HGW.out] at HQ
            refine HQ.out.mono ?_
            rintro e w15 ⟨rfl, hb15⟩
            have HB := Lib.hid (below_next HB3.out hb15)
            clear hb15 HQ
            go_wp2_with fail
            refine (awake17_any _).mono ?_
            rintro e w9 ⟨rfl, hb9⟩
            go_wp2
            go_ret
            first | exact ⟨rfl, below_next HB.out hb9⟩ | exact ⟨rfl, below_next HBX.out (below_next HB.out hb9)⟩
          · refine region_be (by kernel_rfl) (by kernel_rfl) ?_
            repeat (quiet_step (first | (go_at_call 49; with_reducible exact Calls.be_of ((rsat_any Q r2 ⟨p.name, 3, p.ver⟩ _ (HR2.out.kept (Be.kept _)) HOK.out).mono fun _ _ h => ⟨h.1.trans (congrArg (fun b => Ending.returned (Value.bool b)) HSB.out), h.2⟩))))
            refine wpQuiet_nil ?_
            intro _ hw'
            obtain ⟨pb, hw''⟩ := hw'
            subst hw''
            obtain ⟨W3, hbw⟩ := pb
            dsimp only
            have y7 := Kept.of_below hbw _ _ z7
            have HB3 := Lib.hid (below_next HB2.out hbw)
            have HU3 := Lib.hid (HU2.out.next hbw)
            have HH3 := Lib.hid (HH2.out.kept (Kept.of_below hbw))
            have HPV3 := Lib.hid (HPV.out.kept (Kept.of_below hbw))
            have K9 := Lib.hid (K92.out.trans (Kept.of_below hbw))
            clear hbw Z0 Z1 Z2 Z3 Z4 Z5 Z6 Z7 Z8 D0 D1 z7
            go_wp2_with fail
            have HQ := Lib.hid (qmeets_any [(⟨5, p.name, []⟩ : Stp)] _ 1 V _ cV s _ c _ HH3.out HSH.out HPV3.out (HS.out.kept (Kept.of_below HB3.out)) HXD.out HSL.out)
            rw [HGW.out] at HQ
            refine HQ.out.mono ?_
            rintro e w15 ⟨rfl, hb15⟩
            have HB := Lib.hid (below_next HB3.out hb15)
            clear hb15 HQ
            go_wp2_with fail
            refine (awake17_any _).mono ?_
            rintro e w9 ⟨rfl, hb9⟩
            go_wp2
            go_ret
            first | exact ⟨rfl, below_next HB.out hb9⟩ | exact ⟨rfl, below_next HBX.out (below_next HB.out hb9)⟩
      · have HSL2 := Lib.hid (show ∀ W', Kept W2 W' → Slc W' 9 184 (RPkg W2) (some ⟨b, o + (i + 1) * 9, none⟩) (cT - (i + 1)) (T.drop (i + 1)) from fun W' hk => Slc.mono (Slc.drop HPW.out (i + 1) (by omega)) hk fun _ _ h => h)
        have HLD := Lib.hid (show (T.drop (i + 1)).length = T.length - (i + 1) from List.length_drop ..)
        go_wp2_with fail
        go_region_held3 (fun w' => Hid (Below W2.heap.size W2 w')) (first | with_reducible assumption | exact Lib.hid hbB | exact Lib.hid hbA | exact Lib.hid (below_drewN (Below.refl _ _) 1) | (have hh := (by assumption : Hid (Below W2.heap.size W2 _)); exact Lib.hid (below_alloc hh.out _))) (first | (have hh := (by assumption : Hid (Below W2.heap.size W2 _)); refine step_append_all (by rfl) _ _ 25 (by rfl) W2.heap.size 43 _ 9 184 184 Tryz.underlying25 infPkg rfl (by omega) (RPkg W2) _ [] (by rfl) (by first | exact (own_made W2 43 9).drew | exact own_made W2 43 9 | exact own_made W2.drew 43 9) (some ⟨b, o, none⟩) cT (T.take i) (by rw [HTK.out]; rfl) (Slc.mono (Slc.take HPW.out i) (Kept.of_below hh.out) fun _ _ h => h) pkg_oneQ HBy1.out (by omega) hh.out.size ?_; intro v1 y1 ho1 hg1; have hbA := (own_made (R := RPkg W2) W2 43 9).drew.below hh.out hh.out.size hg1; rw [List.nil_append] at ho1) | (have hh := (by assumption : Hid (Below W2.heap.size W2 _)); refine step_append_all (by rfl) _ _ 25 (by rfl) W2.heap.size 43 _ 9 184 184 Tryz.underlying25 infPkg rfl (by omega) (RPkg W2) v1 (T.take i) (by rfl) ho1 (some ⟨b, o + (i + 1) * 9, none⟩) (cT - (i + 1)) (T.drop (i + 1)) (by rw [HLD.out]; rfl) (HSL2.out _ (Kept.of_below hh.out)) pkg_oneQ HBy2.out (by omega) hbA.size ?_; intro v2 y2 ho2 hg2; have hbB := ho1.below hbA hbA.size hg2))
        go_wp2_with fail
        have HB2 := Lib.hid (below_next HB.out hbB)
        obtain ⟨V, hV⟩ : ∃ V, V = T.take i ++ T.drop (i + 1) := ⟨_, rfl⟩
        rw [← hV] at ho2
        have hvl : V.length ≤ T.length := by rw [hV, List.length_append, List.length_take, List.length_drop]; omega
        obtain ⟨AV, cV, rfl, hvs⟩ := ho2.slc (z := 184) (by omega)
        have HPV := Lib.hid (show Pkgs y2 AV cV V from Slc.mono hvs (Kept.refl _) fun _ _ h => h.kept (Kept.of_below hbB))
        have HU2 := Lib.hid (HU.out.next hbB)
        have HH2 := Lib.hid (HH.out.kept (Kept.of_below hbB))
        have K92 := Lib.hid ((Kept.of_below HB12.out).trans (Kept.of_below hbB))
        have HGW := Lib.hid (show meetsQ [⟨5, p.name, []⟩] V s = false by rw [hV, HTE.out, ← HXP.out]; exact hold_w H4.out HXI.out)
        have HGU := Lib.hid (show meetsQ [⟨5, p.name, []⟩] (T.set i Q) s = sameV Q.ver p.ver by rw [HTE.out, ← HXP.out]; exact hold_u H4.out HXI.out HQN.out)
        obtain ⟨cs2, ⟨r2, hcs2, hr2⟩, hlen2, hrg2⟩ := HU2.out.elem (i := i) (x := Q) (by rw [List.getElem?_set, if_pos rfl, if_pos hiT]) (by rw [List.length_set]; exact hT1000)
        subst hcs2
        have HR2 := Lib.hid (hr2.kept K92.out)
        have z0 : y2.cell? ⟨g, i * 9, none⟩ = some (.string (bs Q.name)) := hrg2 0 _ rfl
        have z1 := hrg2 1 _ rfl
        have z2 := hrg2 2 _ rfl
        have z3 := hrg2 3 _ rfl
        have z4 := hrg2 4 _ rfl
        have z5 := hrg2 5 _ rfl
        have z6 := hrg2 6 _ rfl
        have z7 : y2.cell? ⟨g, i * 9 + 7, none⟩ = some (.slice r2.a6 Q.prv.length r2.c6) := hrg2 7 _ rfl
        have z8 := hrg2 8 _ rfl
        obtain ⟨p2, b2, o2, rp2, hp2, hA2, hrp2, d0, d1, d2, d3, d4, d5, d6, d7, d8⟩ := HP.out.at_ hiT (Kept.of_below HB2.out)
        obtain rfl : p = p2 := Option.some.inj (HPI.out.symm.trans hp2)
        obtain ⟨rfl, rfl⟩ : b = b2 ∧ o = o2 := by injection hA2 with hA; injection hA with h1 h2; exact ⟨h1, h2⟩
        have Z0 := fun q : Be y2 => Be.cell z0 q
        have Z1 := fun q : Be y2 => Be.cell z1 q
        have Z2 := fun q : Be y2 => Be.cell z2 q
        have Z3 := fun q : Be y2 => Be.cell z3 q
        have Z4 := fun q : Be y2 => Be.cell z4 q
        have Z5 := fun q : Be y2 => Be.cell z5 q
        have Z6 := fun q : Be y2 => Be.cell z6 q
        have Z7 := fun q : Be y2 => Be.cell z7 q
        have Z8 := fun q : Be y2 => Be.cell z8 q
        have D0 := fun q : Be y2 => Be.cell d0 q
        have D1 := fun q : Be y2 => Be.cell d1 q
        have HOK := Lib.hid (show Atm.ok ⟨p.name, 3, p.ver⟩ from ⟨HSN.out, HSV.out⟩)
        clear ho1 hg1 hbA ho2 hg2 hbB hV hvl hvs hr2 hlen2 hrg2 z0 z1 z2 z3 z4 z5 z6 z8 hp2 hA2 hrp2 d0 d1 d2 d3 d4 d5 d6 d7 d8
        obtain ⟨S, hS⟩ : ∃ S, satS Q ⟨p.name, 3, p.ver⟩ = S := ⟨_, rfl⟩
        have HSB := Lib.hid hS
        by_cases hP : Q.prv.length = 0
        · have HSQ := Lib.hid (show sameV Q.ver p.ver = S by rw [← hS, sat_eq (List.length_eq_zero_iff.1 hP) (by rw [HQN.out, HXP.out]) HNV.out.1 HNV.out.2])
          have hp0 : ((Q.prv.length : Int) == 0) = true := by rw [beq_iff_eq]; omega
          have hp1 : decide ((0 : Int) < (Q.prv.length : Int)) = false := decide_eq_false (by omega)
          have hp2 : decide (0 < Q.prv.length) = false := decide_eq_false (by omega)
          have hp3 : (Q.prv.length == 0) = true := by rw [beq_iff_eq]; omega
          clear hS hP
          rcases S with _ | _
          · refine region_be (by kernel_rfl) (by kernel_rfl) ?_
            repeat (quiet_step (first | (go_at_call 49; with_reducible exact Calls.be_of ((rsat_any Q r2 ⟨p.name, 3, p.ver⟩ _ (HR2.out.kept (Be.kept _)) HOK.out).mono fun _ _ h => ⟨h.1.trans (congrArg (fun b => Ending.returned (Value.bool b)) HSB.out), h.2⟩))))
            refine wpQuiet_nil ?_
            intro _ hw'
            obtain ⟨pb, hw''⟩ := hw'
            subst hw''
            obtain ⟨W3, hbw⟩ := pb
            dsimp only
            have y7 := Kept.of_below hbw _ _ z7
            have HB3 := Lib.hid (below_next HB2.out hbw)
            have HU3 := Lib.hid (HU2.out.next hbw)
            have HH3 := Lib.hid (HH2.out.kept (Kept.of_below hbw))
            have HPV3 := Lib.hid (HPV.out.kept (Kept.of_below hbw))
            have K9 := Lib.hid (K92.out.trans (Kept.of_below hbw))
            clear hbw Z0 Z1 Z2 Z3 Z4 Z5 Z6 Z7 Z8 D0 D1 z7
            go_wp2_with fail
            have HUP := Lib.hid (show Pkgs W3 (some ⟨g, 0, none⟩) cap (T.set i Q) from Slc.mono (Own.slcOf (z := 184) HU3.out (by rw [List.length_set]; omega)) (Kept.refl _) fun _ _ h => h.kept K9.out)
            have HQ := Lib.hid (qmeets_any [(⟨5, p.name, []⟩ : Stp)] _ 1 (T.set i Q) _ cap s _ c _ HH3.out HSH.out HUP.out (HS.out.kept (Kept.of_below HB3.out)) HXD.out HSL.out)
            rw [List.length_set, HGU.out, HSQ.out] at HQ
            refine HQ.out.mono ?_
            rintro e w14 ⟨rfl, hb14⟩
            have HB3 := Lib.hid (below_next HB3.out hb14)
            have HH3 := Lib.hid (HH3.out.kept (Kept.of_below hb14))
            have HPV3 := Lib.hid (HPV3.out.kept (Kept.of_below hb14))
            clear hb14 HQ y7
            go_wp2_with fail
            have HQ := Lib.hid (qmeets_any [(⟨5, p.name, []⟩ : Stp)] _ 1 V _ cV s _ c _ HH3.out HSH.out HPV3.out (HS.out.kept (Kept.of_below HB3.out)) HXD.out HSL.out)
            rw [HGW.out] at HQ
            refine HQ.out.mono ?_
            rintro e w15 ⟨rfl, hb15⟩
            have HB := Lib.hid (below_next HB3.out hb15)
            clear hb15 HQ
            go_wp2_with fail
            refine (awake17_any _).mono ?_
            rintro e w9 ⟨rfl, hb9⟩
            go_wp2
            go_ret
            first | exact ⟨rfl, below_next HB.out hb9⟩ | exact ⟨rfl, below_next HBX.out (below_next HB.out hb9)⟩
          · refine region_be (by kernel_rfl) (by kernel_rfl) ?_
            repeat (quiet_step (first | (go_at_call 49; with_reducible exact Calls.be_of ((rsat_any Q r2 ⟨p.name, 3, p.ver⟩ _ (HR2.out.kept (Be.kept _)) HOK.out).mono fun _ _ h => ⟨h.1.trans (congrArg (fun b => Ending.returned (Value.bool b)) HSB.out), h.2⟩))))
            refine wpQuiet_nil ?_
            intro _ hw'
            obtain ⟨pb, hw''⟩ := hw'
            subst hw''
            obtain ⟨W3, hbw⟩ := pb
            dsimp only
            have y7 := Kept.of_below hbw _ _ z7
            have HB3 := Lib.hid (below_next HB2.out hbw)
            have HU3 := Lib.hid (HU2.out.next hbw)
            have HH3 := Lib.hid (HH2.out.kept (Kept.of_below hbw))
            have HPV3 := Lib.hid (HPV.out.kept (Kept.of_below hbw))
            have K9 := Lib.hid (K92.out.trans (Kept.of_below hbw))
            clear hbw Z0 Z1 Z2 Z3 Z4 Z5 Z6 Z7 Z8 D0 D1 z7
            go_wp2_with fail
            have HUP := Lib.hid (show Pkgs W3 (some ⟨g, 0, none⟩) cap (T.set i Q) from Slc.mono (Own.slcOf (z := 184) HU3.out (by rw [List.length_set]; omega)) (Kept.refl _) fun _ _ h => h.kept K9.out)
            have HQ := Lib.hid (qmeets_any [(⟨5, p.name, []⟩ : Stp)] _ 1 (T.set i Q) _ cap s _ c _ HH3.out HSH.out HUP.out (HS.out.kept (Kept.of_below HB3.out)) HXD.out HSL.out)
            rw [List.length_set, HGU.out, HSQ.out] at HQ
            refine HQ.out.mono ?_
            rintro e w14 ⟨rfl, hb14⟩
            have HB3 := Lib.hid (below_next HB3.out hb14)
            have HH3 := Lib.hid (HH3.out.kept (Kept.of_below hb14))
            have HPV3 := Lib.hid (HPV3.out.kept (Kept.of_below hb14))
            clear hb14 HQ y7
            go_wp2_with fail
            have HQ := Lib.hid (qmeets_any [(⟨5, p.name, []⟩ : Stp)] _ 1 V _ cV s _ c _ HH3.out HSH.out HPV3.out (HS.out.kept (Kept.of_below HB3.out)) HXD.out HSL.out)
            rw [HGW.out] at HQ
            refine HQ.out.mono ?_
            rintro e w15 ⟨rfl, hb15⟩
            have HB := Lib.hid (below_next HB3.out hb15)
            clear hb15 HQ
            go_wp2_with fail
            refine (awake17_any _).mono ?_
            rintro e w9 ⟨rfl, hb9⟩
            go_wp2
            go_ret
            first | exact ⟨rfl, below_next HB.out hb9⟩ | exact ⟨rfl, below_next HBX.out (below_next HB.out hb9)⟩
        · have hp0 : ((Q.prv.length : Int) == 0) = false := by rw [beq_eq_false_iff_ne]; omega
          have hp1 : decide ((0 : Int) < (Q.prv.length : Int)) = true := decide_eq_true (by omega)
          have hp2 : decide (0 < Q.prv.length) = true := decide_eq_true (by omega)
          have hp3 : (Q.prv.length == 0) = false := by rw [beq_eq_false_iff_ne]; omega
          clear hS hP
          rcases S with _ | _
          · refine region_be (by kernel_rfl) (by kernel_rfl) ?_
            repeat (quiet_step (first | (go_at_call 49; with_reducible exact Calls.be_of ((rsat_any Q r2 ⟨p.name, 3, p.ver⟩ _ (HR2.out.kept (Be.kept _)) HOK.out).mono fun _ _ h => ⟨h.1.trans (congrArg (fun b => Ending.returned (Value.bool b)) HSB.out), h.2⟩))))
            refine wpQuiet_nil ?_
            intro _ hw'
            obtain ⟨pb, hw''⟩ := hw'
            subst hw''
            obtain ⟨W3, hbw⟩ := pb
            dsimp only
            have y7 := Kept.of_below hbw _ _ z7
            have HB3 := Lib.hid (below_next HB2.out hbw)
            have HU3 := Lib.hid (HU2.out.next hbw)
            have HH3 := Lib.hid (HH2.out.kept (Kept.of_below hbw))
            have HPV3 := Lib.hid (HPV.out.kept (Kept.of_below hbw))
            have K9 := Lib.hid (K92.out.trans (Kept.of_below hbw))
            clear hbw Z0 Z1 Z2 Z3 Z4 Z5 Z6 Z7 Z8 D0 D1 z7
            go_wp2_with fail
            have HQ := Lib.hid (qmeets_any [(⟨5, p.name, []⟩ : Stp)] _ 1 V _ cV s _ c _ HH3.out HSH.out HPV3.out (HS.out.kept (Kept.of_below HB3.out)) HXD.out HSL.out)
            rw [HGW.out] at HQ
            refine HQ.out.mono ?_
            rintro e w15 ⟨rfl, hb15⟩
            have HB := Lib.hid (below_next HB3.out hb15)
            clear hb15 HQ
            go_wp2_with fail
            refine (awake17_any _).mono ?_
            rintro e w9 ⟨rfl, hb9⟩
            go_wp2
            go_ret
            first | exact ⟨rfl, below_next HB.out hb9⟩ | exact ⟨rfl, below_next HBX.out (below_next HB.out hb9)⟩
          · refine region_be (by kernel_rfl) (by kernel_rfl) ?_
            repeat (quiet_step (first | (go_at_call 49; with_reducible exact Calls.be_of ((rsat_any Q r2 ⟨p.name, 3, p.ver⟩ _ (HR2.out.kept (Be.kept _)) HOK.out).mono fun _ _ h => ⟨h.1.trans (congrArg (fun b => Ending.returned (Value.bool b)) HSB.out), h.2⟩))))
            refine wpQuiet_nil ?_
            intro _ hw'
            obtain ⟨pb, hw''⟩ := hw'
            subst hw''
            obtain ⟨W3, hbw⟩ := pb
            dsimp only
            have y7 := Kept.of_below hbw _ _ z7
            have HB3 := Lib.hid (below_next HB2.out hbw)
            have HU3 := Lib.hid (HU2.out.next hbw)
            have HH3 := Lib.hid (HH2.out.kept (Kept.of_below hbw))
            have HPV3 := Lib.hid (HPV.out.kept (Kept.of_below hbw))
            have K9 := Lib.hid (K92.out.trans (Kept.of_below hbw))
            clear hbw Z0 Z1 Z2 Z3 Z4 Z5 Z6 Z7 Z8 D0 D1 z7
            go_wp2_with fail
            have HQ := Lib.hid (qmeets_any [(⟨5, p.name, []⟩ : Stp)] _ 1 V _ cV s _ c _ HH3.out HSH.out HPV3.out (HS.out.kept (Kept.of_below HB3.out)) HXD.out HSL.out)
            rw [HGW.out] at HQ
            refine HQ.out.mono ?_
            rintro e w15 ⟨rfl, hb15⟩
            have HB := Lib.hid (below_next HB3.out hb15)
            clear hb15 HQ
            go_wp2_with fail
            refine (awake17_any _).mono ?_
            rintro e w9 ⟨rfl, hb9⟩
            go_wp2
            go_ret
            first | exact ⟨rfl, below_next HB.out hb9⟩ | exact ⟨rfl, below_next HBX.out (below_next HB.out hb9)⟩
    · have hmb : (E != 0) = true := by rw [bne_iff_ne]; exact hE0
      clear hE hE0 hQ
      go_wp2_with fail
      refine (awake17_any _).mono ?_
      rintro e w9 ⟨rfl, hb9⟩
      go_wp2
      go_ret
      first | exact ⟨rfl, below_next HB.out hb9⟩ | exact ⟨rfl, below_next HBX.out (below_next HB.out hb9)⟩
set_option maxRecDepth 100000 in
set_option maxHeartbeats 2000000 in
theorem law_qstays (A : Option Addr) (c : Nat) (s : List Ent) (at_ : Int) (other : List UInt8) (w : World) (hs : Ents w A c s) (hat : -9223372036854775808 ≤ at_ ∧ at_ ≤ 9223372036854775807) (hot : short other) : Calls Tryz.prog 12 #[.slice A s.length c, .int .i64 at_, .string (bs other)] w fun e w' => e = .returned (.bool true) ∧ Below w.heap.size w w' := by
  rcases h2 : lightM 26 40 14 10 (s.map Ent.pkg)
  · have HB := Lib.hid (Below.refl w.heap.size w)
    have HS := Lib.hid hs
    have H2 := Lib.hid h2
    clear hs h2 hat hot
    go_enter Tryz.func12, Tryz.ntmps12
    go_wp2_with fail
    refine (bare17_any _ _ s _ (HS.out.kept (Kept.of_below HB.out))).mono ?_
    rintro e w1 ⟨A9, c9, rfl, hp, hb1⟩
    generalize hm : (s).map Ent.pkg = lp at hp ⊢
    have HP := Lib.hid hp
    have HT1 := Lib.hid (show lightM 26 40 14 10 lp = _ from hm ▸ H2.out)
    have HB := Lib.hid (below_next HB.out hb1)
    clear hp hm hb1
    go_wp2_with fail
    refine (light17_any _ _ _ _ HP.out).mono ?_
    rintro e w2 ⟨rfl, hb2⟩
    rw [HT1.out]
    have HB := Lib.hid (below_next HB.out hb2)
    clear hb2 HP HT1
    go_wp2_with fail
    refine (awake17_any _).mono ?_
    rintro e w9 ⟨rfl, hb9⟩
    go_wp2
    go_ret
    first | exact ⟨rfl, below_next HB.out hb9⟩ | exact ⟨rfl, below_next HBX.out (below_next HB.out hb9)⟩
  · by_cases h4 : mayEntsE s = 0
    · exact qst_main A c s at_ other w hs hat hot h2 h4
    · have HB := Lib.hid (Below.refl w.heap.size w)
      have HXD := Lib.hid (show ∀ x ∈ s, fewD x.pkg from fun x hx => (light_fd h2).2 _ (List.mem_map_of_mem hx))
      have HS := Lib.hid hs
      have H2 := Lib.hid h2
      obtain ⟨E4, he4⟩ : ∃ E, E = mayEntsE s := ⟨_, rfl⟩
      have hne4 : (E4 != 0) = true := by rw [bne_iff_ne, he4]; exact h4
      have H4 := Lib.hid he4.symm
      clear hs h2 h4 hat hot he4
      go_enter Tryz.func12, Tryz.ntmps12
      go_wp2_with fail
      refine (bare17_any _ _ s _ (HS.out.kept (Kept.of_below HB.out))).mono ?_
      rintro e w1 ⟨A9, c9, rfl, hp, hb1⟩
      generalize hm : (s).map Ent.pkg = lp at hp ⊢
      have HP := Lib.hid hp
      have HT1 := Lib.hid (show lightM 26 40 14 10 lp = _ from hm ▸ H2.out)
      have HB := Lib.hid (below_next HB.out hb1)
      clear hp hm hb1
      go_wp2_with fail
      refine (light17_any _ _ _ _ HP.out).mono ?_
      rintro e w2 ⟨rfl, hb2⟩
      rw [HT1.out]
      have HB := Lib.hid (below_next HB.out hb2)
      clear hb2 HP HT1
      go_wp2_with fail
      refine (rents_any _ _ s _ (HS.out.kept (Kept.of_below HB.out)) (fun x h => (HXD.out x h).r)).mono ?_
      rintro e w2 ⟨rfl, hb2⟩
      rw [H4.out]
      have HB := Lib.hid (below_next HB.out hb2)
      clear hb2
      go_wp2_with fail
      refine (awake17_any _).mono ?_
      rintro e w9 ⟨rfl, hb9⟩
      go_wp2
      go_ret
      first | exact ⟨rfl, below_next HB.out hb9⟩ | exact ⟨rfl, below_next HBX.out (below_next HB.out hb9)⟩
end Go.Proofs.YtaicidbopgnmfaaGreatDoor
