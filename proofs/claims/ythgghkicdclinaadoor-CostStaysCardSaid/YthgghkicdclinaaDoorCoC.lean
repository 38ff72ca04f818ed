/- The law CostStays. -/
import Derived.Test.YthgghkicdclinaaDoorStW
import Derived.Test.YthgghkicdclinaaDoorCoA
import Derived.Test.YthgghkicdclinaaDoorVo
import Derived.Test.YthgghkicdclinaaDoorBe
import Derived.Test.YthgghkicdclinaaDoorAp
namespace Go.Proofs.YthgghkicdclinaaDoor
set_option linter.unusedSimpArgs false
set_option linter.unusedVariables false
open Go.RowKit
theorem cst_neq (x y : Cst) (w : World) : (binOp .neq 43 (.agg #[.int .i64 x.a, .int .i64 x.b, .int .i64 x.c, .int .i64 x.d, .int .i64 x.e]) (.agg #[.int .i64 y.a, .int .i64 y.b, .int .i64 y.c, .int .i64 y.d, .int .i64 y.e])).run Tryd.prog w = .ok (.bool (!decide (x = y))) w := by
  rw [run_neq_struct, cst_in]
  rfl
theorem mayE_isV {p : Pkg} (h : mayE p = 0) : isV p.ver = true := by
  rcases hv : isV p.ver
  · rw [mayE_ver hv] at h
    cases h
  · rfl
theorem sameV_self {a : List UInt8} (h : isV a = true) : sameV a a = true := by
  have h1 := cmpV_self a
  unfold isV at h
  obtain ⟨⟨x, y, z⟩, hv⟩ := Option.isSome_iff_exists.1 h
  simp [sameV, h1, cmpV, hv]
  have := h1
  simp [cmpV, hv] at this
  exact this
theorem at_idx (x : Int) (n : Nat) (hn : 0 < n) (hb : n ≤ 1000000000) : ∃ i : Nat, i < n ∧ wrap64 ((IntKind.u64.wrap x).tmod (n : Int)) = (i : Int) := by
  have h0 : 0 ≤ IntKind.u64.wrap x := by
    simp only [IntKind.wrap, IntKind.signed, IntKind.bits]
    simp
    omega
  have h1 : (IntKind.u64.wrap x).tmod (n : Int) = IntKind.u64.wrap x % (n : Int) := Int.tmod_eq_emod_of_nonneg h0
  have h2 := Int.emod_nonneg (IntKind.u64.wrap x) (by omega : (n : Int) ≠ 0)
  have h3 := Int.emod_lt_of_pos (IntKind.u64.wrap x) (by omega : (0 : Int) < n)
  refine ⟨(IntKind.u64.wrap x % (n : Int)).toNat, by omega, ?_⟩
  rw [h1]
  unfold wrap64
  omega
theorem Slc.drop {α : Type} {w : World} {k z : Nat} {R : List Value → α → Prop} {b o c : Nat} {l : List α} (h : Slc w k z R (some ⟨b, o, none⟩) c l) (n : Nat) (hn : n ≤ l.length) : Slc w k z R (some ⟨b, o + n * k, none⟩) (c - n) (l.drop n) := by
  have hl : (l.drop n).length = l.length - n := List.length_drop ..
  refine ⟨by have := h.1; omega, by have := h.2.1; omega, Nat.le_trans (Nat.mul_le_mul_right _ (by omega)) h.2.2.1, fun h0 => ⟨b, o + n * k, rfl, fun i x hi => ?_⟩⟩
  rw [List.getElem?_drop] at hi
  obtain ⟨x', b', o', cs, hx, hA, hcs, hlen, hr⟩ := h.at_ (i := n + i) (List.getElem?_eq_some_iff.1 hi).1
  injection hA with hA
  injection hA with hA1 hA2
  subst hA1 hA2
  obtain rfl : x' = x := Option.some.inj (hx.symm.trans hi)
  refine ⟨cs, hcs, hlen, ?_⟩
  rw [Nat.add_mul, ← Nat.add_assoc] at hr
  exact hr
theorem pkg_one {w : World} : ∀ cs y, RPkg w cs y → ∀ u ∈ cs, u.oneCell' = true := fun cs y ⟨r, h, _⟩ u hu => by
  subst h
  exact encK_one r y u hu
theorem own_made {α : Type} {R : List Value → α → Prop} (W : World) (e : TypeId) (k : Nat) : Own (W.alloc (.cells #[] e)).drew W.heap.size e k R (.slice (some ⟨W.heap.size, 0, none⟩) 0 0) [] :=
  Own.drew ⟨[], rfl, fun i cs x h => by simp at h, World.ownsRow_made W #[] 0 (Nat.le_refl _) (Nat.zero_le _) (by simp)⟩
theorem blk5'' {w : World} {g t : Nat} {v0 v1 v2 v3 v4 : Value} (h : Blk w g t #[v0, v1, v2, v3, v4]) : w.cell? ⟨g, 0, none⟩ = some v0 ∧ w.cell? ⟨g, 1, none⟩ = some v1 ∧ w.cell? ⟨g, 2, none⟩ = some v2 ∧ w.cell? ⟨g, 3, none⟩ = some v3 ∧ w.cell? ⟨g, 4, none⟩ = some v4 := ⟨h.cell 0, h.cell 1, h.cell 2, h.cell 3, h.cell 4⟩
set_option maxRecDepth 100000 in
set_option maxHeartbeats 2000000 in
theorem law_costStays (A : Option Addr) (c : Nat) (s : List Ent) (A2 : Option Addr) (c2 : Nat) (all : List Pkg) (at_ : Int) (w : World) (hs : Ents w A c s) (hal : Pkgs w A2 c2 all) (hat : -9223372036854775808 ≤ at_ ∧ at_ ≤ 9223372036854775807) :
    Calls Tryd.prog 7 #[.slice A s.length c, .slice A2 all.length c2, .int .i64 at_] w fun e w' => e = .returned (.bool true) ∧ Below w.heap.size w w' := by
  have hbd := hs.bd
  have hbd2 := hal.bd
  have HS := Lib.hid hs
  have HA := Lib.hid hal
  clear hs hal
  rcases h1 : lightS 40 14 10 (s.map Ent.pkg)
  · have H1 := Lib.hid h1
    clear h1
    go_enter Tryd.func7, Tryd.ntmps7
    go_wp2_with fail
    refine (bare2_any _ _ s _ HS.out).mono ?_
    rintro e w1 ⟨Ab, cb, rfl, hp, hb1⟩
    generalize hm : s.map Ent.pkg = lp at hp ⊢
    have HP := Lib.hid hp
    have H1 := Lib.hid (show lightS 40 14 10 lp = _ from hm ▸ H1.out)
    clear hp hm
    go_wp2_with fail
    refine (light2_any _ _ lp _ HP.out).mono ?_
    rintro e w2 ⟨rfl, hb2⟩
    rw [H1.out]
    have HB2 := Lib.hid (below_next hb1 hb2)
    clear hb1 hb2 HP
    go_wp2_with fail
    refine (cawake_any _).mono ?_
    rintro e w9 ⟨rfl, hb9⟩
    go_wp2
    go_ret
    exact ⟨rfl, below_next HB2.out hb9⟩
  · have HF := Lib.hid (light_fewP (by decide) h1)
    have H1 := Lib.hid h1
    clear h1
    rcases h2 : lightS 40 14 10 all
    · have H2 := Lib.hid h2
      clear h2
      go_enter Tryd.func7, Tryd.ntmps7
      go_wp2_with fail
      refine (bare2_any _ _ s _ HS.out).mono ?_
      rintro e w1 ⟨Ab, cb, rfl, hp, hb1⟩
      generalize hm : s.map Ent.pkg = lp at hp ⊢
      have HP := Lib.hid hp
      have H1 := Lib.hid (show lightS 40 14 10 lp = _ from hm ▸ H1.out)
      clear hp hm
      go_wp2_with fail
      refine (light2_any _ _ lp _ HP.out).mono ?_
      rintro e w2 ⟨rfl, hb2⟩
      rw [H1.out]
      have HB2 := Lib.hid (below_next hb1 hb2)
      clear hb1 hb2 HP
      go_wp2_with fail
      refine (light2_any _ _ all _ (HA.out.kept (Kept.of_below HB2.out))).mono ?_
      rintro e w3 ⟨rfl, hb3⟩
      rw [H2.out]
      have HB3 := Lib.hid (below_next HB2.out hb3)
      clear hb3 HB2
      go_wp2_with fail
      refine (cawake_any _).mono ?_
      rintro e w9 ⟨rfl, hb9⟩
      go_wp2
      go_ret
      exact ⟨rfl, below_next HB3.out hb9⟩
    · have hfa := (light_fewP (K := 14) (by decide) h2).1
      have H2 := Lib.hid h2
      clear h2
      go_enter Tryd.func7, Tryd.ntmps7
      go_wp2_with fail
      refine (bare2_any _ _ s _ HS.out).mono ?_
      rintro e w1 ⟨Ab, cb, rfl, hp, hb1⟩
      generalize hm : s.map Ent.pkg = lp at hp ⊢
      have HP := Lib.hid hp
      have H1 := Lib.hid (show lightS 40 14 10 lp = _ from hm ▸ H1.out)
      clear hp hm
      go_wp2_with fail
      refine (light2_any _ _ lp _ HP.out).mono ?_
      rintro e w2 ⟨rfl, hb2⟩
      rw [H1.out]
      have HB2 := Lib.hid (below_next hb1 hb2)
      clear hb1 hb2 HP
      go_wp2_with fail
      refine (light2_any _ _ all _ (HA.out.kept (Kept.of_below HB2.out))).mono ?_
      rintro e w3 ⟨rfl, hb3⟩
      rw [H2.out]
      have HB3 := Lib.hid (below_next HB2.out hb3)
      clear hb3 HB2
      go_wp2_with fail
      refine (rmayEnts_any _ _ s _ (HS.out.kept (Kept.of_below HB3.out))).mono ?_
      rintro e w4 ⟨n, rfl, hok, hb4⟩
      have HB4 := Lib.hid (below_next HB3.out hb4)
      clear hb4 HB3
      by_cases hn : n = 0
      · obtain ⟨hmay, hris⟩ := hok hn
        subst hn
        have hsv : ∀ x ∈ s, sameV x.pkg.ver x.pkg.ver = true := fun x hx => sameV_self (mayE_isV (hmay x hx))
        have HSV := Lib.hid hsv
        have HRI := Lib.hid hris
        have hst := cost_stays all hris hsv
        have hcu := cost_up (s.map Ent.pkg) s all
        clear hok hmay hsv hris
        go_wp2_with fail
        refine (bare2_any _ _ s _ (HS.out.kept (Kept.of_below HB4.out))).mono ?_
        rintro e w5 ⟨At, ct, rfl, hp, hb5⟩
        have HB5 := Lib.hid (below_next HB4.out hb5)
        clear hb5 HB4
        generalize hT : s.map Ent.pkg = T at hp hst hcu HF ⊢
        have HTs := Lib.hid hT
        have HTl := Lib.hid (show T.length = s.length by rw [← hT, List.length_map])
        have HP := Lib.hid hp
        clear hp hT
        generalize hm : ((unmetS T : Nat) : Int) = m
        have HM := Lib.hid hm
        generalize hE : ((lateT T all T.length : Nat) : Int) = ee
        have HE := Lib.hid hE
        have hC : costS T s all false = ⟨0, 0, m, 0, ee⟩ := by
          obtain ⟨z1, z2, z3⟩ := hst
          rw [← hm, ← hE]
          rcases hX : costS T s all false with ⟨a, b, c, d, e⟩
          rw [hX] at z1 z2 z3
          dsimp only at z1 z2 z3
          have y1 : (costS T s all false).c = (unmetS T : Nat) := rfl
          have y2 : (costS T s all false).e = (lateT T all T.length : Nat) := rfl
          rw [hX] at y1 y2
          dsimp only at y1 y2
          rw [z1, z2, z3, y1, y2]
        rw [hC] at hcu
        dsimp only at hcu
        have HC := Lib.hid hC
        have HCU := Lib.hid hcu
        clear hC hcu hm hE hst
        go_wp2_with fail
        refine (costOf_any _ _ T _ _ s _ _ all false _ HP.out (HS.out.kept (Kept.of_below HB5.out)) (HA.out.kept (Kept.of_below HB5.out)) HF.out hfa).mono ?_
        rintro e x1 ⟨rfl, hx1⟩
        rw [HC.out]
        dsimp only
        have HX1 := Lib.hid (below_next HB5.out hx1)
        go_wp2_with fail
        refine (costOf_any _ _ T _ _ s _ _ all true _ (HP.out.kept (Kept.of_below hx1)) (HS.out.kept (Kept.of_below HX1.out)) (HA.out.kept (Kept.of_below HX1.out)) HF.out hfa).mono ?_
        rintro e x2 ⟨rfl, hx2⟩
        rw [HCU.out]
        dsimp only
        have HX2 := Lib.hid (below_next HX1.out hx2)
        have HP2 := Lib.hid (HP.out.kept ((Kept.of_below hx1).trans (Kept.of_below hx2)))
        clear hx1 hx2 HX1 HB5
        go_wp2_with fail
        have K1 := Lib.hid (Blk.alloc (blk_new1 x2 43 #[.int .i64 0, .int .i64 0, .int .i64 m, .int .i64 0, .int .i64 ee]) (.cells #[.int .i64 ee, .int .i64 0, .int .i64 m, .int .i64 0, .int .i64 0] 43))
        have K2 := Lib.hid (blk_new2 x2 (.cells #[.int .i64 0, .int .i64 0, .int .i64 m, .int .i64 0, .int .i64 ee] 43) 43 #[.int .i64 ee, .int .i64 0, .int .i64 m, .int .i64 0, .int .i64 0])
        have HXW := Lib.hid (below_alloc (below_alloc HX2.out (.cells #[.int .i64 0, .int .i64 0, .int .i64 m, .int .i64 0, .int .i64 ee] 43)) (.cells #[.int .i64 ee, .int .i64 0, .int .i64 m, .int .i64 0, .int .i64 0] 43))
        have HPW := Lib.hid (HP2.out.kept ((Kept.alloc x2 (.cells #[.int .i64 0, .int .i64 0, .int .i64 m, .int .i64 0, .int .i64 ee] 43)).trans (Kept.alloc _ (.cells #[.int .i64 ee, .int .i64 0, .int .i64 m, .int .i64 0, .int .i64 0] 43))))
        clear HP2 HP HX2
        generalize World.alloc _ _ = W at K1 K2 HXW HPW ⊢
        generalize x2.heap.size = gc at K1 K2 ⊢
        have a0 := fun p : Be W => (blk5'' (Blk.nextOf p.h K1.out)).1
        have a1 := fun p : Be W => (blk5'' (Blk.nextOf p.h K1.out)).2.1
        have a2 := fun p : Be W => (blk5'' (Blk.nextOf p.h K1.out)).2.2.1
        have a3 := fun p : Be W => (blk5'' (Blk.nextOf p.h K1.out)).2.2.2.1
        have a4 := fun p : Be W => (blk5'' (Blk.nextOf p.h K1.out)).2.2.2.2
        have b0 := fun p : Be W => (blk5'' (Blk.nextOf p.h K2.out)).1
        have b1 := fun p : Be W => (blk5'' (Blk.nextOf p.h K2.out)).2.1
        have b2 := fun p : Be W => (blk5'' (Blk.nextOf p.h K2.out)).2.2.1
        have b3 := fun p : Be W => (blk5'' (Blk.nextOf p.h K2.out)).2.2.2.1
        have b4 := fun p : Be W => (blk5'' (Blk.nextOf p.h K2.out)).2.2.2.2
        have hnq : ∀ W, (binOp .neq 43 (.agg #[.int .i64 ee, .int .i64 0, .int .i64 m, .int .i64 0, .int .i64 0]) (.agg #[.int .i64 ee, .int .i64 0, .int .i64 m, .int .i64 0, .int .i64 0])).run Tryd.prog W = .ok (.bool false) W := fun W => by
          have := cst_neq ⟨ee, 0, m, 0, 0⟩ ⟨ee, 0, m, 0, 0⟩ W
          rw [decide_eq_true rfl] at this
          exact this
        refine region_be (by kernel_rfl) (by kernel_rfl) ?_
        repeat (quiet_step (first | (go_at_call 26; with_reducible exact Calls.be_of ((unmet_any _ _ T _ (Pkgs.kept HPW.out (Be.kept _)) HF.out).mono fun _ _ h => ⟨h.1.trans (congrArg (fun b => Ending.returned (Value.int .i64 b)) HM.out), h.2⟩))))
        refine wpQuiet_nil ?_
        intro _ hw'
        obtain ⟨pb, hw''⟩ := hw'
        subst hw''
        clear a0 a1 a2 a3 a4 b0 b1 b2 b3 b4 hnq
        obtain ⟨W2, hbw⟩ := pb
        dsimp only
        have K1 := Lib.hid (Blk.nextOf hbw K1.out)
        have HXW := Lib.hid (below_next HXW.out hbw)
        have HPW := Lib.hid (HPW.out.kept (Kept.of_below hbw))
        clear hbw K2
        obtain ⟨a0, a1, a2, a3, a4⟩ := blk5'' K1.out
        rcases s with _ | ⟨x0, s0⟩
        · have hT0 : T = [] := by have := HTs.out; simpa using this.symm
          have hm0 : m = 0 := by rw [← HM.out, hT0]; rfl
          have he0 : ee = 0 := by rw [← HE.out, hT0]; rfl
          subst hm0 he0
          have hq : ∀ W, (binOp .eql 43 (.agg #[.int .i64 0, .int .i64 0, .int .i64 0, .int .i64 0, .int .i64 0]) (.agg #[.int .i64 0, .int .i64 0, .int .i64 0, .int .i64 0, .int .i64 0])).run Tryd.prog W = .ok (.bool true) W := fun W => by
            have := cst_eql ⟨0, 0, 0, 0, 0⟩ ⟨0, 0, 0, 0, 0⟩ W
            rw [decide_eq_true rfl] at this
            exact this
          go_wp2_with fail
          refine (cawake_any _).mono ?_
          rintro e w9 ⟨rfl, hb9⟩
          go_wp2
          go_ret
          exact ⟨rfl, below_next HXW.out hb9⟩
        · have hsl : 0 < (x0 :: s0).length := by simp
          generalize hss : x0 :: s0 = s at *
          obtain ⟨i, hil, hi⟩ := at_idx at_ s.length hsl (by have := HF.out.1; have := HTl.out; omega)
          go_wp2_with fail
          rw [hi]
          have HI := Lib.hid hi
          have hTl := HTl.out
          obtain ⟨x, b, o, r, hx, hA, hr, -⟩ := HPW.out.at_ (i := i) (by omega) (Kept.refl _)
          subst hA
          have HX := Lib.hid hx
          have hbdT := HPW.out.bd
          have i0 : (0 : Int) ≤ (i : Int) := Int.natCast_nonneg _
          have i1 : (i : Int) ≤ (T.length : Int) := by omega
          have i2 : (i : Int) ≤ (ct : Int) := by omega
          have i3 : (0 : Int) ≤ (i : Int) + 1 := by omega
          have i4 : (i : Int) + 1 ≤ (T.length : Int) := by omega
          have i5 : (i : Int) + 1 ≤ (ct : Int) := by omega
          have tn : ((i : Int)).toNat = i := Int.toNat_natCast _
          have tm : ((i : Int) + 1).toNat = i + 1 := by omega
          have wi : IntKind.i64.wrap ((i : Int) + 1) = (i : Int) + 1 := by rw [IntKind.wrap_i64]; omega
          have HTn := Lib.hid hTl
          obtain ⟨xe, hxe, hxp⟩ : ∃ xe, s[i]? = some xe ∧ xe.pkg = x := by
            have h0 := hx
            rw [← HTs.out, List.getElem?_map, Option.map_eq_some_iff] at h0
            exact h0
          subst hxp
          have HSX := Lib.hid hxe
          clear hxe
          clear hi hx hr hTl HTl
          have htk : (T.take i).length = i := by rw [List.length_take]; omega
          have HTK := Lib.hid htk
          have HBy1 := Lib.hid (show (([] : List Pkg).length + (T.take i).length) * 184 ≤ 140737488355328 by simp; omega)
          have HBy2 := Lib.hid (show ((T.take i).length + (T.drop (i + 1)).length) * 184 ≤ 140737488355328 by rw [htk, List.length_drop]; omega)
          clear htk
          have i6 : (i : Int) ≤ (i : Int) + 1 := by omega
          by_cases hce : ct = i + 1
          · subst hce
            have HSL := Lib.hid (show ∀ W', Kept W2 W' → Slc W' 9 184 (RPkg W2) (some ⟨b, o, none⟩) 0 (T.drop (i + 1)) from fun W' _ => by
              rw [List.drop_eq_nil_of_le (by have := HTn.out; omega)]
              exact Slc.nil_ (by omega))
            have HLD := Lib.hid (show (T.drop (i + 1)).length = 0 by rw [List.length_drop]; have := hbdT.1; omega)
            go_region_held3 (fun w' => Hid (Below W2.heap.size W2 w')) (first | exact hbB | exact hbA | exact below_drewN (Below.refl _ _) 1 | (have hh := (by assumption : Hid (Below W2.heap.size W2 _)); exact below_alloc hh.out _)) (first | (have hh := (by assumption : Hid (Below W2.heap.size W2 _)); refine step_append_all (by rfl) _ _ 24 (by rfl) W2.heap.size 36 _ 9 184 184 Tryd.underlying24 infPkg rfl (by omega) (RPkg W2) _ [] (by rfl) (own_made W2 36 9) (some ⟨b, o, none⟩) (i + 1) (T.take i) (by rw [HTK.out]; rfl) (Slc.mono (Slc.take HPW.out i) (Kept.of_below hh.out) fun _ _ h => h) pkg_one HBy1.out (by omega) hh.out.size ?_; intro v1 y1 ho1 hg1; have hbA := (own_made (R := RPkg W2) W2 36 9).below hh.out hh.out.size hg1; rw [List.nil_append] at ho1) | (have hh := (by assumption : Hid (Below W2.heap.size W2 _)); refine step_append_all (by rfl) _ _ 24 (by rfl) W2.heap.size 36 _ 9 184 184 Tryd.underlying24 infPkg rfl (by omega) (RPkg W2) v1 (T.take i) (by rfl) ho1 (some ⟨b, o, none⟩) 0 (T.drop (i + 1)) (by rw [HLD.out]; rfl) (HSL.out _ (Kept.of_below hh.out)) pkg_one HBy2.out (by omega) hbA.size ?_; intro v2 y2 ho2 hg2; have hbB := ho1.below hbA hbA.size hg2))
            have HY := Lib.hid (below_next HXW.out hbB)
            have K1 := Lib.hid (Blk.nextOf hbB K1.out)
            have HPY := Lib.hid (HPW.out.kept (Kept.of_below hbB))
            have hul : (T.take i ++ T.drop (i + 1)).length ≤ T.length := by rw [List.length_append, List.length_take, List.length_drop]; omega
            have hco := cost_out all HRI.out HSV.out (i := i) HSX.out
            rw [HTs.out] at hco
            have hfu : fewP (T.take i ++ T.drop (i + 1)) := ⟨Nat.le_trans hul HF.out.1, fun p hp => HF.out.2 p (by
              rcases List.mem_append.1 hp with hp | hp
              · exact List.mem_of_mem_take hp
              · exact List.mem_of_mem_drop hp)⟩
            generalize hU : T.take i ++ T.drop (i + 1) = U at ho2 hco hfu hul
            obtain ⟨Au, cu, rfl, hus⟩ := ho2.slc (z := 184) (by omega)
            have HPU := Lib.hid (show Pkgs y2 Au cu U from Slc.mono hus (Kept.refl _) fun _ _ h => h.kept (Kept.of_below hbB))
            have HFU := Lib.hid hfu
            clear ho1 hg1 hbA ho2 hg2 hbB hus hU hfu hul a0 a1 a2 a3 a4
            rcases hCu : costS U s all false with ⟨ca, cb', cc, cd, ce⟩
            rw [hCu, HC.out] at hco
            dsimp only at hco
            obtain ⟨rfl, rfl, rfl, hce2⟩ := hco
            have HCE := Lib.hid hce2
            have HCu := Lib.hid hCu
            clear hCu hce2
            have hlate := lateT_le (t := T) hfa T.length (Nat.le_refl _)
            have hee : ee = ((lateT T all T.length : Nat) : Int) := HE.out.symm
            have hnwl := newer_le xe.pkg all
            have hft := HF.out.1
            generalize hNW : newerS xe.pkg all = nw at HCE hnwl
            have HNW := Lib.hid hNW
            have hws : IntKind.i64.wrap (ee - (nw : Int)) = ce := by
              rw [HCE.out, IntKind.wrap_i64]
              have : T.length * 1000000 ≤ 1000000 * 1000000 := Nat.mul_le_mul_right _ hft
              omega
            clear hNW hee hlate hnwl hft
            go_wp2_with fail
            refine (costOf_any _ _ U _ _ s _ _ all false _ HPU.out (HS.out.kept (Kept.of_below HY.out)) (HA.out.kept (Kept.of_below HY.out)) HFU.out hfa).mono ?_
            rintro e y3 ⟨rfl, hy3⟩
            rw [HCu.out]
            dsimp only
            have HY3 := Lib.hid (below_next HY.out hy3)
            have K1 := Lib.hid (Blk.nextOf hy3 K1.out)
            have HPY := Lib.hid (HPY.out.kept (Kept.of_below hy3))
            clear hy3
            go_wp2_with fail
            have K1 := Lib.hid (Blk.alloc K1.out (.cells #[.int .i64 1, .int .i64 0, .int .i64 cc, .int .i64 0, .int .i64 ce] 43))
            have K3 := Lib.hid (blk_new1 y3 43 #[.int .i64 1, .int .i64 0, .int .i64 cc, .int .i64 0, .int .i64 ce])
            have HYW := Lib.hid (below_alloc HY3.out (.cells #[.int .i64 1, .int .i64 0, .int .i64 cc, .int .i64 0, .int .i64 ce] 43))
            have HPW2 := Lib.hid (HPY.out.kept (Kept.alloc y3 (.cells #[.int .i64 1, .int .i64 0, .int .i64 cc, .int .i64 0, .int .i64 ce] 43)))
            have HAW := Lib.hid (HA.out.kept (Kept.of_below HYW.out))
            clear HPY HY3 HY HPU
            generalize World.alloc _ _ = Y at K1 K3 HYW HPW2 HAW ⊢
            generalize y3.heap.size = g3 at K3 ⊢
            have i7 : (i : Int) < (T.length : Int) := by have := HTn.out; omega
            obtain ⟨xq, bq, oq, rq, hxq, hAq, hrq, d0, d1, d2, d3, d4, d5, d6, d7, d8⟩ := HPW2.out.at_ (i := i) (by have := HTn.out; omega) (Kept.refl _)
            injection hAq with hAq
            injection hAq with hAq1 hAq2
            subst hAq1 hAq2
            obtain rfl : xe.pkg = xq := Option.some.inj (HX.out.symm.trans hxq)
            have s0 := fun p : Be Y => Be.cell d0 p
            have s1 := fun p : Be Y => Be.cell d1 p
            have s2 := fun p : Be Y => Be.cell d2 p
            have s3 := fun p : Be Y => Be.cell d3 p
            have s4 := fun p : Be Y => Be.cell d4 p
            have s5 := fun p : Be Y => Be.cell d5 p
            have s6 := fun p : Be Y => Be.cell d6 p
            have s7 := fun p : Be Y => Be.cell d7 p
            have s8 := fun p : Be Y => Be.cell d8 p
            have a4 := fun p : Be Y => (blk5'' (Blk.nextOf p.h K1.out)).2.2.2.2
            have b0 := fun p : Be Y => (blk5'' (Blk.nextOf p.h K3.out)).1
            have b1 := fun p : Be Y => (blk5'' (Blk.nextOf p.h K3.out)).2.1
            have b3 := fun p : Be Y => (blk5'' (Blk.nextOf p.h K3.out)).2.2.2.1
            have b4 := fun p : Be Y => (blk5'' (Blk.nextOf p.h K3.out)).2.2.2.2
            clear d0 d1 d2 d3 d4 d5 d6 d7 d8 hxq hrq
            refine region_be (by kernel_rfl) (by kernel_rfl) ?_
            repeat (quiet_step (first | (go_at_call 24; with_reducible exact Calls.be_of ((newer_any xe.pkg rq _ _ all _ (Pkgs.kept HAW.out (Be.kept _))).mono fun _ _ h => ⟨h.1.trans (congrArg (fun b : Nat => Ending.returned (Value.int .i64 (b : Int))) HNW.out), h.2⟩)) | (go_at_call 23; with_reducible exact Calls.be_of (cawake_any _))))
            refine wpQuiet_nil ?_
            intro _ hw'
            obtain ⟨pb, hw''⟩ := hw'
            subst hw''
            clear s0 s1 s2 s3 s4 s5 s6 s7 s8 a4 b0 b1 b3 b4
            go_wp2
            go_ret
            exact ⟨rfl, below_next HYW.out pb.h⟩
          · have HSL := Lib.hid (show ∀ W', Kept W2 W' → Slc W' 9 184 (RPkg W2) (some ⟨b, o + (i + 1) * 9, none⟩) (ct - (i + 1)) (T.drop (i + 1)) from fun W' hk => Slc.mono (Slc.drop HPW.out (i + 1) (by have := HTn.out; omega)) hk fun _ _ h => h)
            have HLD := Lib.hid (show (T.drop (i + 1)).length = T.length - (i + 1) from List.length_drop ..)
            go_region_held3 (fun w' => Hid (Below W2.heap.size W2 w')) (first | exact hbB | exact hbA | exact below_drewN (Below.refl _ _) 1 | (have hh := (by assumption : Hid (Below W2.heap.size W2 _)); exact below_alloc hh.out _)) (first | (have hh := (by assumption : Hid (Below W2.heap.size W2 _)); refine step_append_all (by rfl) _ _ 24 (by rfl) W2.heap.size 36 _ 9 184 184 Tryd.underlying24 infPkg rfl (by omega) (RPkg W2) _ [] (by rfl) (own_made W2 36 9) (some ⟨b, o, none⟩) ct (T.take i) (by rw [HTK.out]; rfl) (Slc.mono (Slc.take HPW.out i) (Kept.of_below hh.out) fun _ _ h => h) pkg_one HBy1.out (by omega) hh.out.size ?_; intro v1 y1 ho1 hg1; have hbA := (own_made (R := RPkg W2) W2 36 9).below hh.out hh.out.size hg1; rw [List.nil_append] at ho1) | (have hh := (by assumption : Hid (Below W2.heap.size W2 _)); refine step_append_all (by rfl) _ _ 24 (by rfl) W2.heap.size 36 _ 9 184 184 Tryd.underlying24 infPkg rfl (by omega) (RPkg W2) v1 (T.take i) (by rfl) ho1 (some ⟨b, o + (i + 1) * 9, none⟩) (ct - (i + 1)) (T.drop (i + 1)) (by rw [HLD.out]; rfl) (HSL.out _ (Kept.of_below hh.out)) pkg_one HBy2.out (by omega) hbA.size ?_; intro v2 y2 ho2 hg2; have hbB := ho1.below hbA hbA.size hg2))
            have HY := Lib.hid (below_next HXW.out hbB)
            have K1 := Lib.hid (Blk.nextOf hbB K1.out)
            have HPY := Lib.hid (HPW.out.kept (Kept.of_below hbB))
            have hul : (T.take i ++ T.drop (i + 1)).length ≤ T.length := by rw [List.length_append, List.length_take, List.length_drop]; omega
            have hco := cost_out all HRI.out HSV.out (i := i) HSX.out
            rw [HTs.out] at hco
            have hfu : fewP (T.take i ++ T.drop (i + 1)) := ⟨Nat.le_trans hul HF.out.1, fun p hp => HF.out.2 p (by
              rcases List.mem_append.1 hp with hp | hp
              · exact List.mem_of_mem_take hp
              · exact List.mem_of_mem_drop hp)⟩
            generalize hU : T.take i ++ T.drop (i + 1) = U at ho2 hco hfu hul
            obtain ⟨Au, cu, rfl, hus⟩ := ho2.slc (z := 184) (by omega)
            have HPU := Lib.hid (show Pkgs y2 Au cu U from Slc.mono hus (Kept.refl _) fun _ _ h => h.kept (Kept.of_below hbB))
            have HFU := Lib.hid hfu
            clear ho1 hg1 hbA ho2 hg2 hbB hus hU hfu hul a0 a1 a2 a3 a4
            rcases hCu : costS U s all false with ⟨ca, cb', cc, cd, ce⟩
            rw [hCu, HC.out] at hco
            dsimp only at hco
            obtain ⟨rfl, rfl, rfl, hce2⟩ := hco
            have HCE := Lib.hid hce2
            have HCu := Lib.hid hCu
            clear hCu hce2
            have hlate := lateT_le (t := T) hfa T.length (Nat.le_refl _)
            have hee : ee = ((lateT T all T.length : Nat) : Int) := HE.out.symm
            have hnwl := newer_le xe.pkg all
            have hft := HF.out.1
            generalize hNW : newerS xe.pkg all = nw at HCE hnwl
            have HNW := Lib.hid hNW
            have hws : IntKind.i64.wrap (ee - (nw : Int)) = ce := by
              rw [HCE.out, IntKind.wrap_i64]
              have : T.length * 1000000 ≤ 1000000 * 1000000 := Nat.mul_le_mul_right _ hft
              omega
            clear hNW hee hlate hnwl hft
            go_wp2_with fail
            refine (costOf_any _ _ U _ _ s _ _ all false _ HPU.out (HS.out.kept (Kept.of_below HY.out)) (HA.out.kept (Kept.of_below HY.out)) HFU.out hfa).mono ?_
            rintro e y3 ⟨rfl, hy3⟩
            rw [HCu.out]
            dsimp only
            have HY3 := Lib.hid (below_next HY.out hy3)
            have K1 := Lib.hid (Blk.nextOf hy3 K1.out)
            have HPY := Lib.hid (HPY.out.kept (Kept.of_below hy3))
            clear hy3
            go_wp2_with fail
            have K1 := Lib.hid (Blk.alloc K1.out (.cells #[.int .i64 1, .int .i64 0, .int .i64 cc, .int .i64 0, .int .i64 ce] 43))
            have K3 := Lib.hid (blk_new1 y3 43 #[.int .i64 1, .int .i64 0, .int .i64 cc, .int .i64 0, .int .i64 ce])
            have HYW := Lib.hid (below_alloc HY3.out (.cells #[.int .i64 1, .int .i64 0, .int .i64 cc, .int .i64 0, .int .i64 ce] 43))
            have HPW2 := Lib.hid (HPY.out.kept (Kept.alloc y3 (.cells #[.int .i64 1, .int .i64 0, .int .i64 cc, .int .i64 0, .int .i64 ce] 43)))
            have HAW := Lib.hid (HA.out.kept (Kept.of_below HYW.out))
            clear HPY HY3 HY HPU
            generalize World.alloc _ _ = Y at K1 K3 HYW HPW2 HAW ⊢
            generalize y3.heap.size = g3 at K3 ⊢
            have i7 : (i : Int) < (T.length : Int) := by have := HTn.out; omega
            obtain ⟨xq, bq, oq, rq, hxq, hAq, hrq, d0, d1, d2, d3, d4, d5, d6, d7, d8⟩ := HPW2.out.at_ (i := i) (by have := HTn.out; omega) (Kept.refl _)
            injection hAq with hAq
            injection hAq with hAq1 hAq2
            subst hAq1 hAq2
            obtain rfl : xe.pkg = xq := Option.some.inj (HX.out.symm.trans hxq)
            have s0 := fun p : Be Y => Be.cell d0 p
            have s1 := fun p : Be Y => Be.cell d1 p
            have s2 := fun p : Be Y => Be.cell d2 p
            have s3 := fun p : Be Y => Be.cell d3 p
            have s4 := fun p : Be Y => Be.cell d4 p
            have s5 := fun p : Be Y => Be.cell d5 p
            have s6 := fun p : Be Y => Be.cell d6 p
            have s7 := fun p : Be Y => Be.cell d7 p
            have s8 := fun p : Be Y => Be.cell d8 p
            have a4 := fun p : Be Y => (blk5'' (Blk.nextOf p.h K1.out)).2.2.2.2
            have b0 := fun p : Be Y => (blk5'' (Blk.nextOf p.h K3.out)).1
            have b1 := fun p : Be Y => (blk5'' (Blk.nextOf p.h K3.out)).2.1
            have b3 := fun p : Be Y => (blk5'' (Blk.nextOf p.h K3.out)).2.2.2.1
            have b4 := fun p : Be Y => (blk5'' (Blk.nextOf p.h K3.out)).2.2.2.2
            clear d0 d1 d2 d3 d4 d5 d6 d7 d8 hxq hrq
            refine region_be (by kernel_rfl) (by kernel_rfl) ?_
            repeat (quiet_step (first | (go_at_call 24; with_reducible exact Calls.be_of ((newer_any xe.pkg rq _ _ all _ (Pkgs.kept HAW.out (Be.kept _))).mono fun _ _ h => ⟨h.1.trans (congrArg (fun b : Nat => Ending.returned (Value.int .i64 (b : Int))) HNW.out), h.2⟩)) | (go_at_call 23; with_reducible exact Calls.be_of (cawake_any _))))
            refine wpQuiet_nil ?_
            intro _ hw'
            obtain ⟨pb, hw''⟩ := hw'
            subst hw''
            clear s0 s1 s2 s3 s4 s5 s6 s7 s8 a4 b0 b1 b3 b4
            go_wp2
            go_ret
            exact ⟨rfl, below_next HYW.out pb.h⟩
      · have hnb : (n != 0) = true := by rw [bne_iff_ne]; exact hn
        go_wp2_with fail
        refine (cawake_any _).mono ?_
        rintro e w9 ⟨rfl, hb9⟩
        go_wp2
        go_ret
        exact ⟨rfl, below_next HB4.out hb9⟩
end Go.Proofs.YthgghkicdclinaaDoor
