/- The law CostAdds. -/
import Derived.Test.YtcbomomlojhghaaDoorStU
import Derived.Test.YtcbomomlojhghaaDoorStG
import Derived.Test.YtcbomomlojhghaaDoorFnX
import Derived.Test.YtcbomomlojhghaaDoorMaE
import Derived.Test.YtcbomomlojhghaaDoorCoA
import Derived.Test.YtcbomomlojhghaaDoorBe
import Derived.Test.YtcbomomlojhghaaDoorAp
import Derived.Test.YtcbomomlojhghaaDoorStR
import Derived.Test.YtcbomomlojhghaaDoorJn
import Derived.Deep.DeepCutAuto
namespace Go.Proofs.YtcbomomlojhghaaDoor
set_option linter.unusedSimpArgs false
set_option linter.unusedVariables false
open Go.RowKit
theorem blk5'' {w : World} {g t : Nat} {v0 v1 v2 v3 v4 : Value} (h : Blk w g t #[v0, v1, v2, v3, v4]) : w.cell? ⟨g, 0, none⟩ = some v0 ∧ w.cell? ⟨g, 1, none⟩ = some v1 ∧ w.cell? ⟨g, 2, none⟩ = some v2 ∧ w.cell? ⟨g, 3, none⟩ = some v3 ∧ w.cell? ⟨g, 4, none⟩ = some v4 := ⟨h.cell 0, h.cell 1, h.cell 2, h.cell 3, h.cell 4⟩
theorem pkg_one {w : World} : ∀ cs y, RPkg w cs y → ∀ u ∈ cs, u.oneCell' = true := fun cs y ⟨r, h, _⟩ u hu => by
  subst h
  exact encK_one r y u hu
theorem one_pkgs {w : World} {g : Nat} {p : Pkg} {r : Raw} (hB : Blk w g 28 #[.string (bs (p).name), .string (bs (p).ver), .slice (r).a1 (p).pre.length (r).c1, .slice (r).a2 (p).dep.length (r).c2, .slice (r).a3 (p).rcm.length (r).c3, .slice (r).a4 (p).con.length (r).c4, .slice (r).a5 (p).brk.length (r).c5, .slice (r).a6 (p).prv.length (r).c6, .bool (p).ess]) (hp : RP w r p) : Pkgs w (some ⟨g, 0, none⟩) 1 [p] :=
  slcB [encK r p] hB rfl rfl (fun i cs x e1 e2 => by
    rcases i with _ | i
    · simp at e1 e2
      subst e1 e2
      exact ⟨⟨r, rfl, hp⟩, rfl⟩
    · simp at e1) (by simp [encK]) (by show 1 * 184 ≤ _; decide) (by simp) (by decide)
def lessP (p : Pkg) : Pkg := ⟨p.name, p.ver, p.pre, p.dep, [], p.con, p.brk, p.prv, p.ess⟩
def lessR (r : Raw) : Raw := ⟨r.a1, r.a2, none, r.a4, r.a5, r.a6, r.c1, r.c2, 0, r.c4, r.c5, r.c6⟩
theorem less_rp {w : World} {r : Raw} {p : Pkg} (h : RP w r p) : RP w (lessR r) (lessP p) := by
  obtain ⟨h1, h2, h3, h4, h5, h6, h7, h8⟩ := h
  exact ⟨h1, h2, h3, h4, Slc.nil_ (Nat.zero_le _), h6, h7, h8⟩
theorem fewP_more {t : List Pkg} {p : Pkg} (h : fewP t) (hl : t.length ≤ 26) (hp : p.rcm = []) : fewP (t ++ [p]) := ⟨by simp; omega, fun q hq => by
  rcases List.mem_append.1 hq with hq | hq
  · exact h.2 q hq
  · rw [List.mem_singleton] at hq
    rw [hq, hp]
    exact Nat.zero_le _⟩
theorem cost_bd (t : List Pkg) (s : List Ent) (all : List Pkg) (hf : fewP t) (hfa : all.length ≤ 1000000) : 0 ≤ (costS t s all false).d ∧ (costS t s all false).d ≤ 1000000 ∧ 0 ≤ (costS t s all false).e ∧ (costS t s all false).e ≤ 1000000000000 := by
  have h1 := upto_le (addQ t s) t.length
  have h2 := lateT_le (t := t) hfa t.length (Nat.le_refl _)
  have h3 := hf.1
  have h4 : (costS t s all false).d = (upto (addQ t s) t.length : Nat) := rfl
  have h5 : (costS t s all false).e = (lateT t all t.length : Nat) := rfl
  rw [h4, h5]
  generalize upto (addQ t s) t.length = x at *
  generalize lateT t all t.length = y at *
  omega
theorem cst_set5 {w w0 : World} {g t : Nat} {a0 a1 a2 a3 a4 b0 b1 b2 b3 b4 : Value} (h : Blk w g t #[a0, a1, a2, a3, a4]) (hB : Below w0.heap.size w0 w) (hg : w0.heap.size ≤ g) :
    Blk (((((w.setCell ⟨g, 0, none⟩ b0).setCell ⟨g, 1, none⟩ b1).setCell ⟨g, 2, none⟩ b2).setCell ⟨g, 3, none⟩ b3).setCell ⟨g, 4, none⟩ b4) g t #[b0, b1, b2, b3, b4] ∧ Below w0.heap.size w0 (((((w.setCell ⟨g, 0, none⟩ b0).setCell ⟨g, 1, none⟩ b1).setCell ⟨g, 2, none⟩ b2).setCell ⟨g, 3, none⟩ b3).setCell ⟨g, 4, none⟩ b4) ∧ ∀ g' t' cs, g' ≠ g → Blk w g' t' cs → Blk (((((w.setCell ⟨g, 0, none⟩ b0).setCell ⟨g, 1, none⟩ b1).setCell ⟨g, 2, none⟩ b2).setCell ⟨g, 3, none⟩ b3).setCell ⟨g, 4, none⟩ b4) g' t' cs := by
  have h0 : Blk _ g t #[b0, a1, a2, a3, a4] := h.set_ 0 b0
  have h1 : Blk _ g t #[b0, b1, a2, a3, a4] := h0.set_ 1 b1
  have h2 : Blk _ g t #[b0, b1, b2, a3, a4] := h1.set_ 2 b2
  have h3 : Blk _ g t #[b0, b1, b2, b3, a4] := h2.set_ 3 b3
  have h4 : Blk _ g t #[b0, b1, b2, b3, b4] := h3.set_ 4 b4
  exact ⟨h4, ((((hB.setCell (p := ⟨g, 0, none⟩) hg b0).setCell (p := ⟨g, 1, none⟩) hg b1).setCell (p := ⟨g, 2, none⟩) hg b2).setCell (p := ⟨g, 3, none⟩) hg b3).setCell (p := ⟨g, 4, none⟩) hg b4, fun g' t' cs hne hb => ((((hb.far (p := ⟨g, 0, none⟩) hne b0).far (p := ⟨g, 1, none⟩) hne b1).far (p := ⟨g, 2, none⟩) hne b2).far (p := ⟨g, 3, none⟩) hne b3).far (p := ⟨g, 4, none⟩) hne b4⟩
theorem infPk9 : (Tryd.prog.info? 28).map (fun i => (i.zero, i.size, i.bytes)) = some (some (.agg #[.string (bs []), .string (bs []), .slice none 0 0, .slice none 0 0, .slice none 0 0, .slice none 0 0, .slice none 0 0, .slice none 0 0, .bool false]), 9, 184) := by kernel_rfl
theorem inv_at {P : Program} {ops : Array Oper} {Q : Exit → Act → World → Prop} {md : Region.Mode} {n : Nat} {listed : Array Bool} {a : Act} {w : World} (J : Act → Array Bool → Act → World → Prop) (hJ : J a listed a w) (hn : mis listed = n)
    (hs : ∀ listed a' w, J a listed a' w → (∀ f, wpAny P md ops Q (f + mis listed) listed a' w) ∨ (Region.ready md ops listed ≠ [] ∧ ∀ i ∈ Region.ready md ops listed, wpOp P ops Q i (J a (listed.setIfInBounds i true)) a' w)) : wpAny P md ops Q n listed a w :=
  inv_l (J := J a) hJ hn hs
set_option maxRecDepth 100000 in
set_option maxHeartbeats 8000000 in
theorem law_costAdds (A : Option Addr) (c : Nat) (t : List Pkg) (A' : Option Addr) (c' : Nat) (s : List Ent) (A2 : Option Addr) (c2 : Nat) (all : List Pkg) (r : Raw) (p : Pkg) (w : World) (ht : Pkgs w A c t) (hs : Ents w A' c' s) (hal : Pkgs w A2 c2 all) (hp : RP w r p) :
    Calls Tryd.prog 3 #[.slice A t.length c, .slice A' s.length c', .slice A2 all.length c2, (.agg #[.string (bs (p).name), .string (bs (p).ver), .slice (r).a1 (p).pre.length (r).c1, .slice (r).a2 (p).dep.length (r).c2, .slice (r).a3 (p).rcm.length (r).c3, .slice (r).a4 (p).con.length (r).c4, .slice (r).a5 (p).brk.length (r).c5, .slice (r).a6 (p).prv.length (r).c6, .bool (p).ess])] w fun e w' => e = .returned (.bool true) ∧ Below w.heap.size w w' := by
  have hbd := ht.bd
  have HT := Lib.hid ht
  have HS := Lib.hid hs
  have HA := Lib.hid hal
  have HPp := Lib.hid hp
  clear ht hs hal hp
  rcases h1 : lightS 40 14 10 t
  · have H1 := Lib.hid h1
    clear h1
    go_enter Tryd.func3, Tryd.ntmps3
    have kP0 := Lib.hid (blk_new1 w 28 #[.string (bs (p).name), .string (bs (p).ver), .slice (r).a1 (p).pre.length (r).c1, .slice (r).a2 (p).dep.length (r).c2, .slice (r).a3 (p).rcm.length (r).c3, .slice (r).a4 (p).con.length (r).c4, .slice (r).a5 (p).brk.length (r).c5, .slice (r).a6 (p).prv.length (r).c6, .bool (p).ess])
    have HB0 := Lib.hid (below_alloc (Below.refl w.heap.size w) (.cells #[.string (bs (p).name), .string (bs (p).ver), .slice (r).a1 (p).pre.length (r).c1, .slice (r).a2 (p).dep.length (r).c2, .slice (r).a3 (p).rcm.length (r).c3, .slice (r).a4 (p).con.length (r).c4, .slice (r).a5 (p).brk.length (r).c5, .slice (r).a6 (p).prv.length (r).c6, .bool (p).ess] 28))
    go_wp2_with fail
    refine (light2_any _ _ t _ (HT.out.kept (Kept.of_below HB0.out))).mono ?_
    rintro e w1 ⟨rfl, hb1⟩
    rw [H1.out]
    have kP1 := Lib.hid (kP0.out.next hb1)
    have HB1 := Lib.hid (below_next HB0.out hb1)
    clear hb1 kP0 HB0
    go_wp2_with fail
    refine (cawake_any _).mono ?_
    rintro e w9 ⟨rfl, hb9⟩
    go_wp2
    go_ret
    exact ⟨rfl, below_next HB1.out hb9⟩
  · have HF := Lib.hid (light_fewP (by decide) h1)
    have ht26 : t.length ≤ 26 := by simp only [lightS, Bool.and_eq_true, decide_eq_true_eq] at h1; exact h1.1
    have H1 := Lib.hid h1
    clear h1
    rcases h2 : lightS 40 14 10 (s.map Ent.pkg)
    · have H2 := Lib.hid h2
      clear h2
      go_enter Tryd.func3, Tryd.ntmps3
      have kP0 := Lib.hid (blk_new1 w 28 #[.string (bs (p).name), .string (bs (p).ver), .slice (r).a1 (p).pre.length (r).c1, .slice (r).a2 (p).dep.length (r).c2, .slice (r).a3 (p).rcm.length (r).c3, .slice (r).a4 (p).con.length (r).c4, .slice (r).a5 (p).brk.length (r).c5, .slice (r).a6 (p).prv.length (r).c6, .bool (p).ess])
      have HB0 := Lib.hid (below_alloc (Below.refl w.heap.size w) (.cells #[.string (bs (p).name), .string (bs (p).ver), .slice (r).a1 (p).pre.length (r).c1, .slice (r).a2 (p).dep.length (r).c2, .slice (r).a3 (p).rcm.length (r).c3, .slice (r).a4 (p).con.length (r).c4, .slice (r).a5 (p).brk.length (r).c5, .slice (r).a6 (p).prv.length (r).c6, .bool (p).ess] 28))
      go_wp2_with fail
      refine (light2_any _ _ t _ (HT.out.kept (Kept.of_below HB0.out))).mono ?_
      rintro e w1 ⟨rfl, hb1⟩
      rw [H1.out]
      have kP1 := Lib.hid (kP0.out.next hb1)
      have HB1 := Lib.hid (below_next HB0.out hb1)
      clear hb1 kP0 HB0
      go_wp2_with fail
      refine (bare2_any _ _ s _ (HS.out.kept (Kept.of_below HB1.out))).mono ?_
      rintro e w2 ⟨Ab, cb, rfl, hp2, hb2⟩
      generalize hm : s.map Ent.pkg = lp at hp2 ⊢
      have HP2 := Lib.hid hp2
      have H2 := Lib.hid (show lightS 40 14 10 lp = _ from hm ▸ H2.out)
      clear hp2 hm
      go_wp2_with fail
      refine (light2_any _ _ lp _ HP2.out).mono ?_
      rintro e w3 ⟨rfl, hb3⟩
      rw [H2.out]
      have kP3 := Lib.hid ((kP1.out.next hb2).next hb3)
      have HB3 := Lib.hid (below_next (below_next HB1.out hb2) hb3)
      clear hb2 hb3 HP2 kP1 HB1
      go_wp2_with fail
      refine (cawake_any _).mono ?_
      rintro e w9 ⟨rfl, hb9⟩
      go_wp2
      go_ret
      exact ⟨rfl, below_next HB3.out hb9⟩
    · have H2 := Lib.hid h2
      clear h2
      rcases h3 : lightS 40 14 10 all
      · have H3 := Lib.hid h3
        clear h3
        go_enter Tryd.func3, Tryd.ntmps3
        have kP0 := Lib.hid (blk_new1 w 28 #[.string (bs (p).name), .string (bs (p).ver), .slice (r).a1 (p).pre.length (r).c1, .slice (r).a2 (p).dep.length (r).c2, .slice (r).a3 (p).rcm.length (r).c3, .slice (r).a4 (p).con.length (r).c4, .slice (r).a5 (p).brk.length (r).c5, .slice (r).a6 (p).prv.length (r).c6, .bool (p).ess])
        have HB0 := Lib.hid (below_alloc (Below.refl w.heap.size w) (.cells #[.string (bs (p).name), .string (bs (p).ver), .slice (r).a1 (p).pre.length (r).c1, .slice (r).a2 (p).dep.length (r).c2, .slice (r).a3 (p).rcm.length (r).c3, .slice (r).a4 (p).con.length (r).c4, .slice (r).a5 (p).brk.length (r).c5, .slice (r).a6 (p).prv.length (r).c6, .bool (p).ess] 28))
        go_wp2_with fail
        refine (light2_any _ _ t _ (HT.out.kept (Kept.of_below HB0.out))).mono ?_
        rintro e w1 ⟨rfl, hb1⟩
        rw [H1.out]
        have kP1 := Lib.hid (kP0.out.next hb1)
        have HB1 := Lib.hid (below_next HB0.out hb1)
        clear hb1 kP0 HB0
        go_wp2_with fail
        refine (bare2_any _ _ s _ (HS.out.kept (Kept.of_below HB1.out))).mono ?_
        rintro e w2 ⟨Ab, cb, rfl, hp2, hb2⟩
        generalize hm : s.map Ent.pkg = lp at hp2 ⊢
        have HP2 := Lib.hid hp2
        have H2 := Lib.hid (show lightS 40 14 10 lp = _ from hm ▸ H2.out)
        clear hp2 hm
        go_wp2_with fail
        refine (light2_any _ _ lp _ HP2.out).mono ?_
        rintro e w3 ⟨rfl, hb3⟩
        rw [H2.out]
        have kP3 := Lib.hid ((kP1.out.next hb2).next hb3)
        have HB3 := Lib.hid (below_next (below_next HB1.out hb2) hb3)
        clear hb2 hb3 HP2 kP1 HB1
        go_wp2_with fail
        refine (light2_any _ _ all _ (HA.out.kept (Kept.of_below HB3.out))).mono ?_
        rintro e w4 ⟨rfl, hb4⟩
        rw [H3.out]
        have kP4 := Lib.hid (kP3.out.next hb4)
        have HB4 := Lib.hid (below_next HB3.out hb4)
        obtain ⟨k0, k1, k2, k3, k4, k5, k6, k7, k8⟩ := blk9 kP4.out
        clear hb4 kP3 HB3
        go_wp2_with fail
        refine (cawake_any _).mono ?_
        rintro e w9 ⟨rfl, hb9⟩
        go_wp2
        go_ret
        exact ⟨rfl, below_next HB4.out hb9⟩
      · have hfa := (light_fewP (K := 14) (by decide) h3).1
        have H3 := Lib.hid h3
        clear h3
        rcases h4 : lightS 40 14 10 [p]
        · have H4 := Lib.hid h4
          clear h4
          go_enter Tryd.func3, Tryd.ntmps3
          have kP0 := Lib.hid (blk_new1 w 28 #[.string (bs (p).name), .string (bs (p).ver), .slice (r).a1 (p).pre.length (r).c1, .slice (r).a2 (p).dep.length (r).c2, .slice (r).a3 (p).rcm.length (r).c3, .slice (r).a4 (p).con.length (r).c4, .slice (r).a5 (p).brk.length (r).c5, .slice (r).a6 (p).prv.length (r).c6, .bool (p).ess])
          have HB0 := Lib.hid (below_alloc (Below.refl w.heap.size w) (.cells #[.string (bs (p).name), .string (bs (p).ver), .slice (r).a1 (p).pre.length (r).c1, .slice (r).a2 (p).dep.length (r).c2, .slice (r).a3 (p).rcm.length (r).c3, .slice (r).a4 (p).con.length (r).c4, .slice (r).a5 (p).brk.length (r).c5, .slice (r).a6 (p).prv.length (r).c6, .bool (p).ess] 28))
          go_wp2_with fail
          refine (light2_any _ _ t _ (HT.out.kept (Kept.of_below HB0.out))).mono ?_
          rintro e w1 ⟨rfl, hb1⟩
          rw [H1.out]
          have kP1 := Lib.hid (kP0.out.next hb1)
          have HB1 := Lib.hid (below_next HB0.out hb1)
          clear hb1 kP0 HB0
          go_wp2_with fail
          refine (bare2_any _ _ s _ (HS.out.kept (Kept.of_below HB1.out))).mono ?_
          rintro e w2 ⟨Ab, cb, rfl, hp2, hb2⟩
          generalize hm : s.map Ent.pkg = lp at hp2 ⊢
          have HP2 := Lib.hid hp2
          have H2 := Lib.hid (show lightS 40 14 10 lp = _ from hm ▸ H2.out)
          clear hp2 hm
          go_wp2_with fail
          refine (light2_any _ _ lp _ HP2.out).mono ?_
          rintro e w3 ⟨rfl, hb3⟩
          rw [H2.out]
          have kP3 := Lib.hid ((kP1.out.next hb2).next hb3)
          have HB3 := Lib.hid (below_next (below_next HB1.out hb2) hb3)
          clear hb2 hb3 HP2 kP1 HB1
          go_wp2_with fail
          refine (light2_any _ _ all _ (HA.out.kept (Kept.of_below HB3.out))).mono ?_
          rintro e w4 ⟨rfl, hb4⟩
          rw [H3.out]
          have kP4 := Lib.hid (kP3.out.next hb4)
          have HB4 := Lib.hid (below_next HB3.out hb4)
          obtain ⟨k0, k1, k2, k3, k4, k5, k6, k7, k8⟩ := blk9 kP4.out
          clear hb4 kP3 HB3
          go_wp2_with fail
          refine (light2_any (some ⟨w4.heap.size, 0, none⟩) 1 [p] _ (one_pkgs (blk_new1 w4 _ _) (HPp.out.kept ((Kept.of_below HB4.out).trans (Kept.alloc _ _))))).mono ?_
          rintro e w5 ⟨rfl, hb5⟩
          rw [H4.out]
          have kP5 := Lib.hid ((kP4.out.alloc (.cells #[.string (bs (p).name), .string (bs (p).ver), .slice (r).a1 (p).pre.length (r).c1, .slice (r).a2 (p).dep.length (r).c2, .slice (r).a3 (p).rcm.length (r).c3, .slice (r).a4 (p).con.length (r).c4, .slice (r).a5 (p).brk.length (r).c5, .slice (r).a6 (p).prv.length (r).c6, .bool (p).ess] 28)).next hb5)
          have HB5 := Lib.hid (below_next (below_alloc HB4.out (.cells #[.string (bs (p).name), .string (bs (p).ver), .slice (r).a1 (p).pre.length (r).c1, .slice (r).a2 (p).dep.length (r).c2, .slice (r).a3 (p).rcm.length (r).c3, .slice (r).a4 (p).con.length (r).c4, .slice (r).a5 (p).brk.length (r).c5, .slice (r).a6 (p).prv.length (r).c6, .bool (p).ess] 28)) hb5)
          clear k0 k1 k2 k3 k4 k5 k6 k7 k8
          obtain ⟨k0, k1, k2, k3, k4, k5, k6, k7, k8⟩ := blk9 kP5.out
          clear hb5 kP4 HB4
          go_wp2_with fail
          refine (cawake_any _).mono ?_
          rintro e w9 ⟨rfl, hb9⟩
          go_wp2
          go_ret
          exact ⟨rfl, below_next HB5.out hb9⟩
        · have H4 := Lib.hid h4
          clear h4
          generalize hE : mayE p = E
          have HE := Lib.hid hE
          clear hE
          by_cases hE0 : E = 0
          · subst hE0
            generalize hI : idxS (nameK p.name) t = I
            have HI := Lib.hid hI
            by_cases hI0 : (0 : Int) ≤ I
            · clear hI
              go_enter Tryd.func3, Tryd.ntmps3
              have kP0 := Lib.hid (blk_new1 w 28 #[.string (bs (p).name), .string (bs (p).ver), .slice (r).a1 (p).pre.length (r).c1, .slice (r).a2 (p).dep.length (r).c2, .slice (r).a3 (p).rcm.length (r).c3, .slice (r).a4 (p).con.length (r).c4, .slice (r).a5 (p).brk.length (r).c5, .slice (r).a6 (p).prv.length (r).c6, .bool (p).ess])
              have HB0 := Lib.hid (below_alloc (Below.refl w.heap.size w) (.cells #[.string (bs (p).name), .string (bs (p).ver), .slice (r).a1 (p).pre.length (r).c1, .slice (r).a2 (p).dep.length (r).c2, .slice (r).a3 (p).rcm.length (r).c3, .slice (r).a4 (p).con.length (r).c4, .slice (r).a5 (p).brk.length (r).c5, .slice (r).a6 (p).prv.length (r).c6, .bool (p).ess] 28))
              go_wp2_with fail
              refine (light2_any _ _ t _ (HT.out.kept (Kept.of_below HB0.out))).mono ?_
              rintro e w1 ⟨rfl, hb1⟩
              rw [H1.out]
              have kP1 := Lib.hid (kP0.out.next hb1)
              have HB1 := Lib.hid (below_next HB0.out hb1)
              clear hb1 kP0 HB0
              go_wp2_with fail
              refine (bare2_any _ _ s _ (HS.out.kept (Kept.of_below HB1.out))).mono ?_
              rintro e w2 ⟨Ab, cb, rfl, hp2, hb2⟩
              generalize hm : s.map Ent.pkg = lp at hp2 ⊢
              have HP2 := Lib.hid hp2
              have H2 := Lib.hid (show lightS 40 14 10 lp = _ from hm ▸ H2.out)
              clear hp2 hm
              go_wp2_with fail
              refine (light2_any _ _ lp _ HP2.out).mono ?_
              rintro e w3 ⟨rfl, hb3⟩
              rw [H2.out]
              have kP3 := Lib.hid ((kP1.out.next hb2).next hb3)
              have HB3 := Lib.hid (below_next (below_next HB1.out hb2) hb3)
              clear hb2 hb3 HP2 kP1 HB1
              go_wp2_with fail
              refine (light2_any _ _ all _ (HA.out.kept (Kept.of_below HB3.out))).mono ?_
              rintro e w4 ⟨rfl, hb4⟩
              rw [H3.out]
              have kP4 := Lib.hid (kP3.out.next hb4)
              have HB4 := Lib.hid (below_next HB3.out hb4)
              obtain ⟨k0, k1, k2, k3, k4, k5, k6, k7, k8⟩ := blk9 kP4.out
              clear hb4 kP3 HB3
              go_wp2_with fail
              refine (light2_any (some ⟨w4.heap.size, 0, none⟩) 1 [p] _ (one_pkgs (blk_new1 w4 _ _) (HPp.out.kept ((Kept.of_below HB4.out).trans (Kept.alloc _ _))))).mono ?_
              rintro e w5 ⟨rfl, hb5⟩
              rw [H4.out]
              have kP5 := Lib.hid ((kP4.out.alloc (.cells #[.string (bs (p).name), .string (bs (p).ver), .slice (r).a1 (p).pre.length (r).c1, .slice (r).a2 (p).dep.length (r).c2, .slice (r).a3 (p).rcm.length (r).c3, .slice (r).a4 (p).con.length (r).c4, .slice (r).a5 (p).brk.length (r).c5, .slice (r).a6 (p).prv.length (r).c6, .bool (p).ess] 28)).next hb5)
              have HB5 := Lib.hid (below_next (below_alloc HB4.out (.cells #[.string (bs (p).name), .string (bs (p).ver), .slice (r).a1 (p).pre.length (r).c1, .slice (r).a2 (p).dep.length (r).c2, .slice (r).a3 (p).rcm.length (r).c3, .slice (r).a4 (p).con.length (r).c4, .slice (r).a5 (p).brk.length (r).c5, .slice (r).a6 (p).prv.length (r).c6, .bool (p).ess] 28)) hb5)
              clear k0 k1 k2 k3 k4 k5 k6 k7 k8
              obtain ⟨k0, k1, k2, k3, k4, k5, k6, k7, k8⟩ := blk9 kP5.out
              clear hb5 kP4 HB4
              go_wp2_with fail
              refine (rmay_any p r _ (HPp.out.kept (Kept.of_below HB5.out))).mono ?_
              rintro e w6 ⟨rfl, hb6⟩
              rw [HE.out]
              have kP6 := Lib.hid (kP5.out.next hb6)
              have HB6 := Lib.hid (below_next HB5.out hb6)
              clear k0 k1 k2 k3 k4 k5 k6 k7 k8
              obtain ⟨k0, k1, k2, k3, k4, k5, k6, k7, k8⟩ := blk9 kP6.out
              clear hb6 kP5 HB5
              go_wp2_with fail
              refine (rfindP_any _ _ t p.name _ (HT.out.kept (Kept.of_below HB6.out))).mono ?_
              rintro e w7 ⟨rfl, hb7⟩
              rw [HI.out]
              have kP7 := Lib.hid (kP6.out.next hb7)
              have HB7 := Lib.hid (below_next HB6.out hb7)
              clear k0 k1 k2 k3 k4 k5 k6 k7 k8
              obtain ⟨k0, k1, k2, k3, k4, k5, k6, k7, k8⟩ := blk9 kP7.out
              clear hb7 kP6 HB6
              go_wp2_with fail
              refine (cawake_any _).mono ?_
              rintro e w9 ⟨rfl, hb9⟩
              go_wp2
              go_ret
              exact ⟨rfl, below_next HB7.out hb9⟩
            · have hfn : fndS p.name t = none := by
                rcases fnd_idx p.name t with ⟨h, _⟩ | ⟨i, y, _, _, _, h⟩
                · exact h
                · rw [hI] at h; omega
              have HFN := Lib.hid hfn
              clear hI hfn
              generalize hJ : idxS (nameE p.name) s = J
              have HJ := Lib.hid hJ
              by_cases hJ0 : (0 : Int) ≤ J
              · clear hJ
                go_enter Tryd.func3, Tryd.ntmps3
                have kP0 := Lib.hid (blk_new1 w 28 #[.string (bs (p).name), .string (bs (p).ver), .slice (r).a1 (p).pre.length (r).c1, .slice (r).a2 (p).dep.length (r).c2, .slice (r).a3 (p).rcm.length (r).c3, .slice (r).a4 (p).con.length (r).c4, .slice (r).a5 (p).brk.length (r).c5, .slice (r).a6 (p).prv.length (r).c6, .bool (p).ess])
                have HB0 := Lib.hid (below_alloc (Below.refl w.heap.size w) (.cells #[.string (bs (p).name), .string (bs (p).ver), .slice (r).a1 (p).pre.length (r).c1, .slice (r).a2 (p).dep.length (r).c2, .slice (r).a3 (p).rcm.length (r).c3, .slice (r).a4 (p).con.length (r).c4, .slice (r).a5 (p).brk.length (r).c5, .slice (r).a6 (p).prv.length (r).c6, .bool (p).ess] 28))
                go_wp2_with fail
                refine (light2_any _ _ t _ (HT.out.kept (Kept.of_below HB0.out))).mono ?_
                rintro e w1 ⟨rfl, hb1⟩
                rw [H1.out]
                have kP1 := Lib.hid (kP0.out.next hb1)
                have HB1 := Lib.hid (below_next HB0.out hb1)
                clear hb1 kP0 HB0
                go_wp2_with fail
                refine (bare2_any _ _ s _ (HS.out.kept (Kept.of_below HB1.out))).mono ?_
                rintro e w2 ⟨Ab, cb, rfl, hp2, hb2⟩
                generalize hm : s.map Ent.pkg = lp at hp2 ⊢
                have HP2 := Lib.hid hp2
                have H2 := Lib.hid (show lightS 40 14 10 lp = _ from hm ▸ H2.out)
                clear hp2 hm
                go_wp2_with fail
                refine (light2_any _ _ lp _ HP2.out).mono ?_
                rintro e w3 ⟨rfl, hb3⟩
                rw [H2.out]
                have kP3 := Lib.hid ((kP1.out.next hb2).next hb3)
                have HB3 := Lib.hid (below_next (below_next HB1.out hb2) hb3)
                clear hb2 hb3 HP2 kP1 HB1
                go_wp2_with fail
                refine (light2_any _ _ all _ (HA.out.kept (Kept.of_below HB3.out))).mono ?_
                rintro e w4 ⟨rfl, hb4⟩
                rw [H3.out]
                have kP4 := Lib.hid (kP3.out.next hb4)
                have HB4 := Lib.hid (below_next HB3.out hb4)
                obtain ⟨k0, k1, k2, k3, k4, k5, k6, k7, k8⟩ := blk9 kP4.out
                clear hb4 kP3 HB3
                go_wp2_with fail
                refine (light2_any (some ⟨w4.heap.size, 0, none⟩) 1 [p] _ (one_pkgs (blk_new1 w4 _ _) (HPp.out.kept ((Kept.of_below HB4.out).trans (Kept.alloc _ _))))).mono ?_
                rintro e w5 ⟨rfl, hb5⟩
                rw [H4.out]
                have kP5 := Lib.hid ((kP4.out.alloc (.cells #[.string (bs (p).name), .string (bs (p).ver), .slice (r).a1 (p).pre.length (r).c1, .slice (r).a2 (p).dep.length (r).c2, .slice (r).a3 (p).rcm.length (r).c3, .slice (r).a4 (p).con.length (r).c4, .slice (r).a5 (p).brk.length (r).c5, .slice (r).a6 (p).prv.length (r).c6, .bool (p).ess] 28)).next hb5)
                have HB5 := Lib.hid (below_next (below_alloc HB4.out (.cells #[.string (bs (p).name), .string (bs (p).ver), .slice (r).a1 (p).pre.length (r).c1, .slice (r).a2 (p).dep.length (r).c2, .slice (r).a3 (p).rcm.length (r).c3, .slice (r).a4 (p).con.length (r).c4, .slice (r).a5 (p).brk.length (r).c5, .slice (r).a6 (p).prv.length (r).c6, .bool (p).ess] 28)) hb5)
                clear k0 k1 k2 k3 k4 k5 k6 k7 k8
                obtain ⟨k0, k1, k2, k3, k4, k5, k6, k7, k8⟩ := blk9 kP5.out
                clear hb5 kP4 HB4
                go_wp2_with fail
                refine (rmay_any p r _ (HPp.out.kept (Kept.of_below HB5.out))).mono ?_
                rintro e w6 ⟨rfl, hb6⟩
                rw [HE.out]
                have kP6 := Lib.hid (kP5.out.next hb6)
                have HB6 := Lib.hid (below_next HB5.out hb6)
                clear k0 k1 k2 k3 k4 k5 k6 k7 k8
                obtain ⟨k0, k1, k2, k3, k4, k5, k6, k7, k8⟩ := blk9 kP6.out
                clear hb6 kP5 HB5
                go_wp2_with fail
                refine (rfindP_any _ _ t p.name _ (HT.out.kept (Kept.of_below HB6.out))).mono ?_
                rintro e w7 ⟨rfl, hb7⟩
                rw [HI.out]
                have kP7 := Lib.hid (kP6.out.next hb7)
                have HB7 := Lib.hid (below_next HB6.out hb7)
                clear k0 k1 k2 k3 k4 k5 k6 k7 k8
                obtain ⟨k0, k1, k2, k3, k4, k5, k6, k7, k8⟩ := blk9 kP7.out
                clear hb7 kP6 HB6
                go_wp2_with fail
                refine (rfind_any _ _ s p.name _ (HS.out.kept (Kept.of_below HB7.out))).mono ?_
                rintro e w8 ⟨rfl, hb8⟩
                rw [HJ.out]
                have kP8 := Lib.hid (kP7.out.next hb8)
                have HB8 := Lib.hid (below_next HB7.out hb8)
                clear k0 k1 k2 k3 k4 k5 k6 k7 k8
                obtain ⟨k0, k1, k2, k3, k4, k5, k6, k7, k8⟩ := blk9 kP8.out
                clear hb8 kP7 HB7
                go_wp2_with fail
                refine (cawake_any _).mono ?_
                rintro e w9 ⟨rfl, hb9⟩
                go_wp2
                go_ret
                exact ⟨rfl, below_next HB8.out hb9⟩
              · have HFB := Lib.hid (show fndB p.name s = false by unfold fndB; rw [hJ]; exact decide_eq_false hJ0)
                clear hJ
                go_enter Tryd.func3, Tryd.ntmps3
                have kP0 := Lib.hid (blk_new1 w 28 #[.string (bs (p).name), .string (bs (p).ver), .slice (r).a1 (p).pre.length (r).c1, .slice (r).a2 (p).dep.length (r).c2, .slice (r).a3 (p).rcm.length (r).c3, .slice (r).a4 (p).con.length (r).c4, .slice (r).a5 (p).brk.length (r).c5, .slice (r).a6 (p).prv.length (r).c6, .bool (p).ess])
                have HB0 := Lib.hid (below_alloc (Below.refl w.heap.size w) (.cells #[.string (bs (p).name), .string (bs (p).ver), .slice (r).a1 (p).pre.length (r).c1, .slice (r).a2 (p).dep.length (r).c2, .slice (r).a3 (p).rcm.length (r).c3, .slice (r).a4 (p).con.length (r).c4, .slice (r).a5 (p).brk.length (r).c5, .slice (r).a6 (p).prv.length (r).c6, .bool (p).ess] 28))
                go_wp2_with fail
                refine (light2_any _ _ t _ (HT.out.kept (Kept.of_below HB0.out))).mono ?_
                rintro e w1 ⟨rfl, hb1⟩
                rw [H1.out]
                have kP1 := Lib.hid (kP0.out.next hb1)
                have HB1 := Lib.hid (below_next HB0.out hb1)
                clear hb1 kP0 HB0
                go_wp2_with fail
                refine (bare2_any _ _ s _ (HS.out.kept (Kept.of_below HB1.out))).mono ?_
                rintro e w2 ⟨Ab, cb, rfl, hp2, hb2⟩
                generalize hm : s.map Ent.pkg = lp at hp2 ⊢
                have HP2 := Lib.hid hp2
                have H2 := Lib.hid (show lightS 40 14 10 lp = _ from hm ▸ H2.out)
                clear hp2 hm
                go_wp2_with fail
                refine (light2_any _ _ lp _ HP2.out).mono ?_
                rintro e w3 ⟨rfl, hb3⟩
                rw [H2.out]
                have kP3 := Lib.hid ((kP1.out.next hb2).next hb3)
                have HB3 := Lib.hid (below_next (below_next HB1.out hb2) hb3)
                clear hb2 hb3 HP2 kP1 HB1
                go_wp2_with fail
                refine (light2_any _ _ all _ (HA.out.kept (Kept.of_below HB3.out))).mono ?_
                rintro e w4 ⟨rfl, hb4⟩
                rw [H3.out]
                have kP4 := Lib.hid (kP3.out.next hb4)
                have HB4 := Lib.hid (below_next HB3.out hb4)
                obtain ⟨k0, k1, k2, k3, k4, k5, k6, k7, k8⟩ := blk9 kP4.out
                clear hb4 kP3 HB3
                go_wp2_with fail
                refine (light2_any (some ⟨w4.heap.size, 0, none⟩) 1 [p] _ (one_pkgs (blk_new1 w4 _ _) (HPp.out.kept ((Kept.of_below HB4.out).trans (Kept.alloc _ _))))).mono ?_
                rintro e w5 ⟨rfl, hb5⟩
                rw [H4.out]
                have kP5 := Lib.hid ((kP4.out.alloc (.cells #[.string (bs (p).name), .string (bs (p).ver), .slice (r).a1 (p).pre.length (r).c1, .slice (r).a2 (p).dep.length (r).c2, .slice (r).a3 (p).rcm.length (r).c3, .slice (r).a4 (p).con.length (r).c4, .slice (r).a5 (p).brk.length (r).c5, .slice (r).a6 (p).prv.length (r).c6, .bool (p).ess] 28)).next hb5)
                have HB5 := Lib.hid (below_next (below_alloc HB4.out (.cells #[.string (bs (p).name), .string (bs (p).ver), .slice (r).a1 (p).pre.length (r).c1, .slice (r).a2 (p).dep.length (r).c2, .slice (r).a3 (p).rcm.length (r).c3, .slice (r).a4 (p).con.length (r).c4, .slice (r).a5 (p).brk.length (r).c5, .slice (r).a6 (p).prv.length (r).c6, .bool (p).ess] 28)) hb5)
                clear k0 k1 k2 k3 k4 k5 k6 k7 k8
                obtain ⟨k0, k1, k2, k3, k4, k5, k6, k7, k8⟩ := blk9 kP5.out
                clear hb5 kP4 HB4
                go_wp2_with fail
                refine (rmay_any p r _ (HPp.out.kept (Kept.of_below HB5.out))).mono ?_
                rintro e w6 ⟨rfl, hb6⟩
                rw [HE.out]
                have kP6 := Lib.hid (kP5.out.next hb6)
                have HB6 := Lib.hid (below_next HB5.out hb6)
                clear k0 k1 k2 k3 k4 k5 k6 k7 k8
                obtain ⟨k0, k1, k2, k3, k4, k5, k6, k7, k8⟩ := blk9 kP6.out
                clear hb6 kP5 HB5
                go_wp2_with fail
                refine (rfindP_any _ _ t p.name _ (HT.out.kept (Kept.of_below HB6.out))).mono ?_
                rintro e w7 ⟨rfl, hb7⟩
                rw [HI.out]
                have kP7 := Lib.hid (kP6.out.next hb7)
                have HB7 := Lib.hid (below_next HB6.out hb7)
                clear k0 k1 k2 k3 k4 k5 k6 k7 k8
                obtain ⟨k0, k1, k2, k3, k4, k5, k6, k7, k8⟩ := blk9 kP7.out
                clear hb7 kP6 HB6
                go_wp2_with fail
                refine (rfind_any _ _ s p.name _ (HS.out.kept (Kept.of_below HB7.out))).mono ?_
                rintro e w8 ⟨rfl, hb8⟩
                rw [HJ.out]
                have kP8 := Lib.hid (kP7.out.next hb8)
                have HB8 := Lib.hid (below_next HB7.out hb8)
                clear k0 k1 k2 k3 k4 k5 k6 k7 k8
                obtain ⟨k0, k1, k2, k3, k4, k5, k6, k7, k8⟩ := blk9 kP8.out
                clear hb8 kP7 HB7
                have f4 := kP8.out.frozen 4
                have hz8 := kP8.out.lt
                have hfP : fewP (t ++ [lessP p]) := fewP_more HF.out ht26 rfl
                have hca := cost_adds all (p := lessP p) HFN.out HFB.out rfl
                have hle := cost_bd t s all HF.out hfa
                generalize hu : costS t s all false = u at hca hle
                generalize hv : costS (t ++ [lessP p]) s all false = v at hca
                have HU := Lib.hid hu
                have HV := Lib.hid hv
                have HFP := Lib.hid hfP
                have HCA := Lib.hid hca
                have HLE := Lib.hid hle
                have hlen : (t ++ [lessP p]).length = t.length + 1 := by simp
                have HLEN := Lib.hid hlen
                clear hu hv hfP hca hle hlen
                have kW := kP8.out.set_ 4 (.slice none 0 0)
                have hbW := HB8.out.setCell (p := ⟨w.heap.size, 4, none⟩) (Nat.le_refl _) (.slice none 0 0)
                go_wp2_with fail
                go_cut [9, 10] (fun y9 y10 wx => ∃ gA gB, y9 = .pointer (some ⟨gA, 0, none⟩) ∧ y10 = .pointer (some ⟨gB, 0, none⟩) ∧ Blk wx gA 37 #[.int .i64 u.a, .int .i64 u.b, .int .i64 u.c, .int .i64 u.d, .int .i64 u.e] ∧ Blk wx gB 37 #[.int .i64 v.a, .int .i64 v.b, .int .i64 v.c, .int .i64 v.d, .int .i64 v.e] ∧ Blk wx w.heap.size 28 #[.string (bs (lessP p).name), .string (bs (lessP p).ver), .slice (lessR r).a1 (lessP p).pre.length (lessR r).c1, .slice (lessR r).a2 (lessP p).dep.length (lessR r).c2, .slice (lessR r).a3 (lessP p).rcm.length (lessR r).c3, .slice (lessR r).a4 (lessP p).con.length (lessR r).c4, .slice (lessR r).a5 (lessP p).brk.length (lessR r).c5, .slice (lessR r).a6 (lessP p).prv.length (lessR r).c6, .bool (lessP p).ess] ∧ Below w.heap.size w wx)
                case first =>
                  have kWS := Kept.of_below hbW
                  have HTw := Lib.hid (HT.out.kept kWS)
                  have HSw := Lib.hid (HS.out.kept kWS)
                  have HAw := Lib.hid (HA.out.kept kWS)
                  have HPw := Lib.hid (less_rp (HPp.out.kept kWS))
                  have hzW : w.heap.size ≤ (World.setCell w8 ⟨w.heap.size, 4, none⟩ (.slice none 0 0)).heap.size := hbW.size
                  generalize hT2 : t ++ [lessP p] = t2 at HV HFP HLEN
                  have HT2 := Lib.hid hT2
                  clear kWS hT2
                  generalize World.setCell w8 ⟨w.heap.size, 4, none⟩ (.slice none 0 0) = W at kW hbW HTw HSw HAw HPw hzW ⊢
                  have KW := Lib.hid (show Blk W w.heap.size 28 #[.string (bs (lessP p).name), .string (bs (lessP p).ver), .slice (lessR r).a1 (lessP p).pre.length (lessR r).c1, .slice (lessR r).a2 (lessP p).dep.length (lessR r).c2, .slice (lessR r).a3 (lessP p).rcm.length (lessR r).c3, .slice (lessR r).a4 (lessP p).con.length (lessR r).c4, .slice (lessR r).a5 (lessP p).brk.length (lessR r).c5, .slice (lessR r).a6 (lessP p).prv.length (lessR r).c6, .bool (lessP p).ess] from kW)
                  have HBW := Lib.hid hbW
                  have hWlt := KW.out.lt
                  clear kW hbW f4 hz8 k0 k1 k2 k3 k4 k5 k6 k7 k8 kP8 HB8
                  refine region_l (n := 16) (listed := #[false, false, false, false, false, false, false, false, false, false, false, false, false, false, false, false]) (by kernel_rfl) rfl rfl ?_
                  (refine take_l (i := 0) (v := _) rfl (by kernel_rfl) (by kernel_rfl) (by kernel_rfl) (fun _ _ _ h => h) (Or.inl ⟨by kernel_rfl, by (intro w; go_simp; first | done | with_reducible rfl)⟩) ?_; try simp only [Act.put, List.setIfInBounds_toArray, List.set_cons_zero, List.set_cons_succ])
                  (refine take_l (i := 1) (v := _) rfl (by kernel_rfl) (by kernel_rfl) (by kernel_rfl) (fun _ _ _ h => h) (Or.inl ⟨by kernel_rfl, by (intro w; go_simp; first | done | with_reducible rfl)⟩) ?_; try simp only [Act.put, List.setIfInBounds_toArray, List.set_cons_zero, List.set_cons_succ])
                  (refine take_l (i := 2) (v := _) rfl (by kernel_rfl) (by kernel_rfl) (by kernel_rfl) (fun _ _ _ h => h) (Or.inl ⟨by kernel_rfl, by (intro w; go_simp; first | done | with_reducible rfl)⟩) ?_; try simp only [Act.put, List.setIfInBounds_toArray, List.set_cons_zero, List.set_cons_succ])
                  (refine take_l (i := 4) (v := _) rfl (by kernel_rfl) (by kernel_rfl) (by kernel_rfl) (fun _ _ _ h => h) (Or.inl ⟨by kernel_rfl, by (intro w; go_simp; first | done | with_reducible rfl)⟩) ?_; try simp only [Act.put, List.setIfInBounds_toArray, List.set_cons_zero, List.set_cons_succ])
                  (refine take_l (i := 9) (v := _) rfl (by kernel_rfl) (by kernel_rfl) (by kernel_rfl) (fun _ _ _ h => h) (Or.inl ⟨by kernel_rfl, by (intro w; go_simp; first | done | with_reducible rfl)⟩) ?_; try simp only [Act.put, List.setIfInBounds_toArray, List.set_cons_zero, List.set_cons_succ])
                  (refine take_l (i := 10) (v := _) rfl (by kernel_rfl) (by kernel_rfl) (by kernel_rfl) (fun _ _ _ h => h) (Or.inl ⟨by kernel_rfl, by (intro w; go_simp; first | done | with_reducible rfl)⟩) ?_; try simp only [Act.put, List.setIfInBounds_toArray, List.set_cons_zero, List.set_cons_succ])
                  refine inv_at (fun (a0 : Act) listed aj wj => ∃ (l b c1 c2 c3 c4 m n : Bool) (x6 x7 x55 x57 x60 x63 x9 x10 : Value) (gA gB : Nat), listed = #[true, true, true, c1, true, c2, l, b, c3, true, true, c4, m, n, false, false] ∧ aj = ((((((((a0.put (some 58) x6).put (some 59) x7).put (some 55) x55).put (some 57) x57).put (some 60) x60).put (some 63) x63).put (some 9) x9).put (some 10) x10) ∧ (c2 = true → c1 = true) ∧ (b = true → l = true) ∧ (c3 = true → c2 = true ∧ b = true) ∧ (c4 = true → c3 = true) ∧ (l = true → x6 = .agg #[.string (bs (lessP p).name), .string (bs (lessP p).ver), .slice (lessR r).a1 (lessP p).pre.length (lessR r).c1, .slice (lessR r).a2 (lessP p).dep.length (lessR r).c2, .slice (lessR r).a3 (lessP p).rcm.length (lessR r).c3, .slice (lessR r).a4 (lessP p).con.length (lessR r).c4, .slice (lessR r).a5 (lessP p).brk.length (lessR r).c5, .slice (lessR r).a6 (lessP p).prv.length (lessR r).c6, .bool (lessP p).ess]) ∧ (b = true → c3 = false → ∃ g, x7 = .slice (some ⟨g, 0, none⟩) 1 1 ∧ Blk wj g 28 #[.string (bs (lessP p).name), .string (bs (lessP p).ver), .slice (lessR r).a1 (lessP p).pre.length (lessR r).c1, .slice (lessR r).a2 (lessP p).dep.length (lessR r).c2, .slice (lessR r).a3 (lessP p).rcm.length (lessR r).c3, .slice (lessR r).a4 (lessP p).con.length (lessR r).c4, .slice (lessR r).a5 (lessP p).brk.length (lessR r).c5, .slice (lessR r).a6 (lessP p).prv.length (lessR r).c6, .bool (lessP p).ess]) ∧ (c1 = true → x55 = .agg #[.int .i64 u.a, .int .i64 u.b, .int .i64 u.c, .int .i64 u.d, .int .i64 u.e]) ∧ (c2 = true → c3 = false → Own wj W.heap.size 28 9 (RPkg W) x57 t) ∧ (c3 = true → Own wj W.heap.size 28 9 (RPkg W) x60 t2) ∧ (c4 = true → x63 = .agg #[.int .i64 v.a, .int .i64 v.b, .int .i64 v.c, .int .i64 v.d, .int .i64 v.e]) ∧ (m = true → x9 = .pointer (some ⟨gA, 0, none⟩) ∧ W.heap.size ≤ gA ∧ Blk wj gA 37 #[.int .i64 0, .int .i64 0, .int .i64 0, .int .i64 0, .int .i64 0]) ∧ (n = true → x10 = .pointer (some ⟨gB, 0, none⟩) ∧ W.heap.size ≤ gB ∧ Blk wj gB 37 #[.int .i64 0, .int .i64 0, .int .i64 0, .int .i64 0, .int .i64 0]) ∧ (m = true → n = true → gA ≠ gB) ∧ Below W.heap.size W wj) ⟨false, false, false, false, false, false, false, false, undef, undef, undef, undef, undef, undef, undef, undef, 0, 0, rfl, (by simp only [Act.put, List.setIfInBounds_toArray, List.set_cons_zero, List.set_cons_succ]), nofun, nofun, nofun, nofun, nofun, nofun, nofun, nofun, nofun, nofun, nofun, nofun, nofun, (Below.refl _ _).drew⟩ rfl ?_
                  rintro listed a wj ⟨l, b, c1, c2, c3, c4, m, n, x6, x7, x55, x57, x60, x63, x9, x10, gA, gB, rfl, rfl, i1, i2, i3, i4, r1, r2, r3, r4, r5, r6, r7, r8, r9, kB⟩
                  simp only [Act.put, List.setIfInBounds_toArray, List.set_cons_zero, List.set_cons_succ]
                  rcases hfin : (c4 && m && n) with _ | _
                  · right
                    refine ⟨fun hr => ?_, fun i hi => ?_⟩
                    · have e1 : c4 = true := ready_all (by kernel_rfl) hr 11 (by decide)
                      have e2 : m = true := ready_all (by kernel_rfl) hr 12 (by decide)
                      have e3 : n = true := ready_all (by kernel_rfl) hr 13 (by decide)
                      subst e1 e2 e3
                      exact Bool.noConfusion hfin
                    have hlt := lt_l (n := 16) rfl hi
                    have hown := own_l hi
                    obtain ⟨q0, q1, q2, q3, q4, q5, q6, q7, q8⟩ := blk9 (KW.out.below kB hWlt)
                    have hcs : i = 0 ∨ i = 1 ∨ i = 2 ∨ i = 3 ∨ i = 4 ∨ i = 5 ∨ i = 6 ∨ i = 7 ∨ i = 8 ∨ i = 9 ∨ i = 10 ∨ i = 11 ∨ i = 12 ∨ i = 13 ∨ i = 14 ∨ i = 15 := by clear hi hown; omega
                    clear hlt
                    rcases hcs with rfl | rfl | rfl | rfl | rfl | rfl | rfl | rfl | rfl | rfl | rfl | rfl | rfl | rfl | rfl | rfl
                    · exact Bool.noConfusion hown
                    · exact Bool.noConfusion hown
                    · exact Bool.noConfusion hown
                    · obtain rfl : c1 = false := hown
                      refine step_l rfl (fun K hK => ?_)
                      clear hi
                      go_simp
                      refine (costOf_any _ _ t _ _ s _ _ all false _ (HTw.out.kept (Kept.of_below kB)) (HSw.out.kept (Kept.of_below kB)) (HAw.out.kept (Kept.of_below kB)) HF.out hfa).mono ?_
                      rintro e w1 ⟨rfl, hb⟩
                      rw [HU.out]
                      refine hK _ _ ?_
                      clear hK K
                      simp only [Act.put, List.setIfInBounds_toArray, List.set_cons_zero, List.set_cons_succ]
                      exact ⟨l, b, true, c2, c3, c4, m, n, x6, x7, .agg #[.int .i64 u.a, .int .i64 u.b, .int .i64 u.c, .int .i64 u.d, .int .i64 u.e], x57, x60, x63, x9, x10, gA, gB, rfl, (by simp only [Act.put, List.setIfInBounds_toArray, List.set_cons_zero, List.set_cons_succ]), fun _ => rfl, i2, i3, i4, r1, fun h1 h2 => let ⟨g, e, k⟩ := r2 h1 h2; ⟨g, e, k.next hb⟩, fun _ => rfl, fun h1 h2 => (r4 h1 h2).next hb, fun h => (r5 h).next hb, r6, fun h => let ⟨e1, e2, e3⟩ := r7 h; ⟨e1, e2, e3.next hb⟩, fun h => let ⟨e1, e2, e3⟩ := r8 h; ⟨e1, e2, e3.next hb⟩, r9, below_next kB hb⟩
                    · exact Bool.noConfusion hown
                    · have hl : c1 = true := dep_l (k := 3) hi rfl (by kernel_rfl)
                      obtain rfl : c2 = false := hown
                      clear hi
                      refine step_l rfl (fun K hK => ?_)
                      refine step_append_all (by rfl) _ _ 22 (by rfl) W.heap.size 28 _ 9 184 184 Tryd.underlying22 infPk9 rfl (by omega) (RPkg W) (.slice none 0 0) [] (by rfl) (Own.nil_ _ _ _ _ _) A c t (by rfl) (Slc.mono HTw.out (Kept.of_below kB) fun _ _ h => h) pkg_one (by simp; omega) (by omega) kB.size ?_
                      intro v1 w1 ho1 hg1
                      rw [List.nil_append] at ho1
                      have hbn := (Own.nil_ wj W.heap.size 28 9 (RPkg W)).below kB kB.size hg1
                      refine hK _ _ ?_
                      clear hK K
                      simp only [Act.put, List.setIfInBounds_toArray, List.set_cons_zero, List.set_cons_succ]
                      exact ⟨l, b, c1, true, c3, c4, m, n, x6, x7, x55, v1, x60, x63, x9, x10, gA, gB, rfl, (by simp only [Act.put, List.setIfInBounds_toArray, List.set_cons_zero, List.set_cons_succ]), fun _ => hl, i2, fun h => ⟨rfl, (i3 h).2⟩, i4, r1, fun h1 h2 => let ⟨g, e, k⟩ := r2 h1 h2; ⟨g, e, k.grown hg1 (by simp [Value.ownBlock])⟩, r3, fun _ _ => ho1, fun h => Bool.noConfusion (i3 h).1, r6, fun h => let ⟨e1, e2, e3⟩ := r7 h; ⟨e1, e2, e3.grown hg1 (by simp [Value.ownBlock])⟩, fun h => let ⟨e1, e2, e3⟩ := r8 h; ⟨e1, e2, e3.grown hg1 (by simp [Value.ownBlock])⟩, r9, hbn⟩
                    · obtain rfl : l = false := hown
                      refine step_l rfl (fun K hK => ?_)
                      clear hi
                      go_simp
                      refine hK _ _ ?_
                      clear hK K
                      simp only [Act.put, List.setIfInBounds_toArray, List.set_cons_zero, List.set_cons_succ]
                      exact ⟨true, b, c1, c2, c3, c4, m, n, .agg #[.string (bs (lessP p).name), .string (bs (lessP p).ver), .slice (lessR r).a1 (lessP p).pre.length (lessR r).c1, .slice (lessR r).a2 (lessP p).dep.length (lessR r).c2, .slice (lessR r).a3 (lessP p).rcm.length (lessR r).c3, .slice (lessR r).a4 (lessP p).con.length (lessR r).c4, .slice (lessR r).a5 (lessP p).brk.length (lessR r).c5, .slice (lessR r).a6 (lessP p).prv.length (lessR r).c6, .bool (lessP p).ess], x7, x55, x57, x60, x63, x9, x10, gA, gB, rfl, (by simp only [Act.put, List.setIfInBounds_toArray, List.set_cons_zero, List.set_cons_succ]), i1, fun _ => rfl, i3, i4, fun _ => rfl, r2, r3, r4, r5, r6, r7, r8, r9, kB⟩
                    · have hl : l = true := dep_l (k := 6) hi rfl (by kernel_rfl)
                      obtain rfl : b = false := hown
                      obtain rfl := r1 hl
                      refine step_l rfl (fun K hK => ?_)
                      clear hi
                      go_simp
                      refine hK _ _ ?_
                      clear hK K
                      simp only [Act.put, List.setIfInBounds_toArray, List.set_cons_zero, List.set_cons_succ]
                      exact ⟨l, true, c1, c2, c3, c4, m, n, .agg #[.string (bs (lessP p).name), .string (bs (lessP p).ver), .slice (lessR r).a1 (lessP p).pre.length (lessR r).c1, .slice (lessR r).a2 (lessP p).dep.length (lessR r).c2, .slice (lessR r).a3 (lessP p).rcm.length (lessR r).c3, .slice (lessR r).a4 (lessP p).con.length (lessR r).c4, .slice (lessR r).a5 (lessP p).brk.length (lessR r).c5, .slice (lessR r).a6 (lessP p).prv.length (lessR r).c6, .bool (lessP p).ess], .slice (some ⟨wj.heap.size, 0, none⟩) 1 1, x55, x57, x60, x63, x9, x10, gA, gB, rfl, (by simp only [Act.put, List.setIfInBounds_toArray, List.set_cons_zero, List.set_cons_succ]), i1, fun _ => hl, fun h => Bool.noConfusion (i3 h).2, i4, fun _ => rfl, fun _ _ => ⟨_, rfl, blk_new1 _ _ _⟩, r3, fun h1 h2 => (r4 h1 h2).alloc _, fun h => Bool.noConfusion (i3 h).2, r6, fun h => let ⟨e1, e2, e3⟩ := r7 h; ⟨e1, e2, e3.alloc _⟩, fun h => let ⟨e1, e2, e3⟩ := r8 h; ⟨e1, e2, e3.alloc _⟩, r9, below_alloc kB _⟩
                    · have hl : c2 = true := dep_l (k := 5) hi rfl (by kernel_rfl)
                      have hbb : b = true := dep_l (k := 7) hi rfl (by kernel_rfl)
                      obtain rfl : c3 = false := hown
                      obtain ⟨g, rfl, kg⟩ := r2 hbb rfl
                      have ho := r4 hl rfl
                      clear hi
                      refine step_l rfl (fun K hK => ?_)
                      refine step_append_el (by rfl) _ _ 22 (by rfl) W.heap.size 28 _ 9 184 Tryd.underlying22 infPk9 rfl (by omega) (RPkg W) x57 t (by rfl) ho (lessP p) (encK (lessR r) (lessP p)) g 1 (by rfl) kg ⟨lessR r, rfl, HPw.out⟩ rfl (encK_one _ _) (by omega) (by omega) kB.size ?_
                      intro g2 cap2 w1 ho1 hg1
                      rw [HT2.out] at ho1
                      have hbn := ho.below kB kB.size hg1
                      refine hK _ _ ?_
                      clear hK K
                      simp only [Act.put, List.setIfInBounds_toArray, List.set_cons_zero, List.set_cons_succ]
                      exact ⟨l, b, c1, c2, true, c4, m, n, x6, .slice (some ⟨g, 0, none⟩) 1 1, x55, x57, .slice (some ⟨g2, 0, none⟩) (t.length + 1) cap2, x63, x9, x10, gA, gB, rfl, (by simp only [Act.put, List.setIfInBounds_toArray, List.set_cons_zero, List.set_cons_succ]), i1, i2, fun _ => ⟨hl, hbb⟩, fun h => Bool.noConfusion (i4 h), r1, fun _ h => Bool.noConfusion h, r3, fun _ h => Bool.noConfusion h, fun _ => ho1, fun h => Bool.noConfusion (i4 h), fun h => let ⟨e1, e2, e3⟩ := r7 h; ⟨e1, e2, ho.blk e3 (by decide) hg1⟩, fun h => let ⟨e1, e2, e3⟩ := r8 h; ⟨e1, e2, ho.blk e3 (by decide) hg1⟩, r9, hbn⟩
                    · exact Bool.noConfusion hown
                    · exact Bool.noConfusion hown
                    · have hl : c3 = true := dep_l (k := 8) hi rfl (by kernel_rfl)
                      obtain rfl : c4 = false := hown
                      have ho := r5 hl
                      obtain ⟨A6, C6, rfl, hS6⟩ := ho.slc (z := 184) (by have := HLEN.out; omega)
                      have hS7 : Pkgs wj A6 C6 t2 := Slc.mono hS6 (Kept.refl _) (fun cs y ⟨r, h1, h2⟩ => ⟨r, h1, h2.kept (Kept.of_below kB)⟩)
                      refine step_l rfl (fun K hK => ?_)
                      clear hi
                      go_simp
                      refine (costOf_any _ _ t2 _ _ s _ _ all false _ hS7 (HSw.out.kept (Kept.of_below kB)) (HAw.out.kept (Kept.of_below kB)) HFP.out hfa).mono ?_
                      rintro e w1 ⟨rfl, hb⟩
                      rw [HV.out]
                      refine hK _ _ ?_
                      clear hK K
                      simp only [Act.put, List.setIfInBounds_toArray, List.set_cons_zero, List.set_cons_succ]
                      exact ⟨l, b, c1, c2, c3, true, m, n, x6, x7, x55, x57, .slice A6 t2.length C6, .agg #[.int .i64 v.a, .int .i64 v.b, .int .i64 v.c, .int .i64 v.d, .int .i64 v.e], x9, x10, gA, gB, rfl, (by simp only [Act.put, List.setIfInBounds_toArray, List.set_cons_zero, List.set_cons_succ]), i1, i2, i3, fun _ => hl, r1, fun h1 h2 => let ⟨g, e, k⟩ := r2 h1 h2; ⟨g, e, k.next hb⟩, r3, fun h1 h2 => (r4 h1 h2).next hb, fun h => (r5 h).next hb, fun _ => rfl, fun h => let ⟨e1, e2, e3⟩ := r7 h; ⟨e1, e2, e3.next hb⟩, fun h => let ⟨e1, e2, e3⟩ := r8 h; ⟨e1, e2, e3.next hb⟩, r9, below_next kB hb⟩
                    · obtain rfl : m = false := hown
                      refine step_l rfl (fun K hK => ?_)
                      clear hi
                      go_simp
                      refine hK _ _ ?_
                      clear hK K
                      simp only [Act.put, List.setIfInBounds_toArray, List.set_cons_zero, List.set_cons_succ]
                      exact ⟨l, b, c1, c2, c3, c4, true, n, x6, x7, x55, x57, x60, x63, .pointer (some ⟨wj.heap.size, 0, none⟩), x10, wj.heap.size, gB, rfl, (by simp only [Act.put, List.setIfInBounds_toArray, List.set_cons_zero, List.set_cons_succ]), i1, i2, i3, i4, r1, fun h1 h2 => let ⟨g, e, k⟩ := r2 h1 h2; ⟨g, e, k.alloc _⟩, r3, fun h1 h2 => (r4 h1 h2).alloc _, fun h => (r5 h).alloc _, r6, fun _ => ⟨rfl, kB.size, blk_new1 _ _ _⟩, fun h => let ⟨e1, e2, e3⟩ := r8 h; ⟨e1, e2, e3.alloc _⟩, fun _ h => (Nat.ne_of_lt (r8 h).2.2.lt).symm, below_alloc kB _⟩
                    · obtain rfl : n = false := hown
                      refine step_l rfl (fun K hK => ?_)
                      clear hi
                      go_simp
                      refine hK _ _ ?_
                      clear hK K
                      simp only [Act.put, List.setIfInBounds_toArray, List.set_cons_zero, List.set_cons_succ]
                      exact ⟨l, b, c1, c2, c3, c4, m, true, x6, x7, x55, x57, x60, x63, x9, .pointer (some ⟨wj.heap.size, 0, none⟩), gA, wj.heap.size, rfl, (by simp only [Act.put, List.setIfInBounds_toArray, List.set_cons_zero, List.set_cons_succ]), i1, i2, i3, i4, r1, fun h1 h2 => let ⟨g, e, k⟩ := r2 h1 h2; ⟨g, e, k.alloc _⟩, r3, fun h1 h2 => (r4 h1 h2).alloc _, fun h => (r5 h).alloc _, r6, fun h => let ⟨e1, e2, e3⟩ := r7 h; ⟨e1, e2, e3.alloc _⟩, fun _ => ⟨rfl, kB.size, blk_new1 _ _ _⟩, fun h _ => Nat.ne_of_lt (r7 h).2.2.lt, below_alloc kB _⟩
                    · have e1 : c4 = true := dep_l (k := 11) hi rfl (by kernel_rfl)
                      have e2 : m = true := dep_l (k := 12) hi rfl (by kernel_rfl)
                      have e3 : n = true := dep_l (k := 13) hi rfl (by kernel_rfl)
                      subst e1 e2 e3
                      exact Bool.noConfusion hfin
                    · exact Bool.noConfusion (dep_l (k := 14) hi rfl (by kernel_rfl) : false = true)
                  · left
                    intro f
                    have e1 : c4 = true ∧ m = true ∧ n = true := by simpa [and_assoc] using hfin
                    obtain ⟨rfl, rfl, rfl⟩ := e1
                    obtain rfl := i4 rfl
                    obtain ⟨rfl, rfl⟩ := i3 rfl
                    obtain rfl := i1 rfl
                    obtain rfl := i2 rfl
                    obtain rfl := r1 rfl
                    obtain rfl := r3 rfl
                    obtain rfl := r6 rfl
                    obtain ⟨rfl, zA, kA⟩ := r7 rfl
                    obtain ⟨rfl, zB, kb⟩ := r8 rfl
                    have hne := r9 rfl rfl
                    clear i1 i2 i3 i4 r1 r2 r3 r4 r5 r6 r7 r8 r9 hfin
                    show wpAny _ _ _ _ (f + 2) _ _ _
                    obtain ⟨a0, a1, a2, a3, a4⟩ := blk5'' kA
                    have af := fun j => kA.frozen j
                    (refine wpAny_ready (rs := [14]) (by decide +kernel) (by simp) ?_; refine AllReady.cons rfl (fun K hK => ?_) AllReady.nil; go_simp; refine hK _ _ ?_; clear hK K; try simp only [Act.put, List.setIfInBounds_toArray, List.set_cons_zero, List.set_cons_succ])
                    obtain ⟨kA2, kB2, kf2⟩ := cst_set5 (b0 := .int .i64 u.a) (b1 := .int .i64 u.b) (b2 := .int .i64 u.c) (b3 := .int .i64 u.d) (b4 := .int .i64 u.e) kA kB zA
                    have kb2 := kf2 _ _ _ (Ne.symm hne) kb
                    clear a0 a1 a2 a3 a4 af kf2 kA kB kb
                    obtain ⟨a0, a1, a2, a3, a4⟩ := blk5'' kb2
                    have af := fun j => kb2.frozen j
                    (refine wpAny_ready (rs := [15]) (by decide +kernel) (by simp) ?_; refine AllReady.cons rfl (fun K hK => ?_) AllReady.nil; go_simp; refine hK _ _ ?_; clear hK K; try simp only [Act.put, List.setIfInBounds_toArray, List.set_cons_zero, List.set_cons_succ])
                    obtain ⟨kb3, kB3, kf3⟩ := cst_set5 (b0 := .int .i64 v.a) (b1 := .int .i64 v.b) (b2 := .int .i64 v.c) (b3 := .int .i64 v.d) (b4 := .int .i64 v.e) kb2 kB2 zB
                    have kA3 := kf3 _ _ _ hne kA2
                    clear a0 a1 a2 a3 a4 af kf3 kA2 kB2 kb2
                    refine wpAny_done (by kernel_rfl) ?_ _
                    go_wp2_with fail
                    go_meet
                    exact ⟨gA, gB, rfl, rfl, kA3, kb3, KW.out.below kB3 hWlt, HBW.out.trans (kB3.mono hzW)⟩
                case rest =>
                  clear kW hbW f4 hz8 k0 k1 k2 k3 k4 k5 k6 k7 k8
                  obtain ⟨gA, gB, rfl, rfl, kA, kB, kX, hb⟩ := hcut
                  have HAW := Lib.hid (HA.out.kept (Kept.of_below hb))
                  have KA := Lib.hid kA
                  have KB := Lib.hid kB
                  have KX := Lib.hid kX
                  have HXW := Lib.hid hb
                  clear kA kB kX hb
                  have hca := HCA.out
                  have hle := HLE.out
                  generalize hN : newerS (lessP p) all = nw at hca
                  have hnw : nw ≤ 1000000 := hN ▸ Nat.le_trans (newer_le _ _) hfa
                  have HNW := Lib.hid hN
                  clear hN
                  obtain ⟨ua, ub, uc, ud, ue⟩ := u
                  obtain ⟨va, vb, vc, vd, ve⟩ := v
                  dsimp only at KA KB hca hle
                  obtain ⟨rfl, rfl, hlc, rfl, rfl⟩ := hca
                  obtain ⟨hl1, hl2, hl3, hl4⟩ := hle
                  have hdc : decide (vc ≤ uc) = true := decide_eq_true hlc
                  have hn0 : (0 : Int) ≤ (nw : Int) := Int.natCast_nonneg _
                  have hn1 : (nw : Int) ≤ 1000000 := by omega
                  have hwd : IntKind.i64.wrap (ud + 1) = ud + 1 := by rw [IntKind.wrap_i64]; omega
                  have hwd2 : wrap64 (ud + 1) = ud + 1 := wrap64_of (by omega) (by omega)
                  have hwe : IntKind.i64.wrap (ue + (nw : Int)) = ue + (nw : Int) := by rw [IntKind.wrap_i64]; omega
                  have hwe2 : wrap64 (ue + (nw : Int)) = ue + (nw : Int) := wrap64_of (by omega) (by omega)
                  clear HCA HLE HU HV HFP
                  have a0 := fun q : Be wc => (blk5'' (Blk.nextOf q.h KA.out)).1
                  have a1 := fun q : Be wc => (blk5'' (Blk.nextOf q.h KA.out)).2.1
                  have a2 := fun q : Be wc => (blk5'' (Blk.nextOf q.h KA.out)).2.2.1
                  have a3 := fun q : Be wc => (blk5'' (Blk.nextOf q.h KA.out)).2.2.2.1
                  have a4 := fun q : Be wc => (blk5'' (Blk.nextOf q.h KA.out)).2.2.2.2
                  have b0 := fun q : Be wc => (blk5'' (Blk.nextOf q.h KB.out)).1
                  have b1 := fun q : Be wc => (blk5'' (Blk.nextOf q.h KB.out)).2.1
                  have b2 := fun q : Be wc => (blk5'' (Blk.nextOf q.h KB.out)).2.2.1
                  have b3 := fun q : Be wc => (blk5'' (Blk.nextOf q.h KB.out)).2.2.2.1
                  have b4 := fun q : Be wc => (blk5'' (Blk.nextOf q.h KB.out)).2.2.2.2
                  have s0 := fun q : Be wc => (blk9 (Blk.nextOf q.h KX.out)).1
                  have s1 := fun q : Be wc => (blk9 (Blk.nextOf q.h KX.out)).2.1
                  have s2 := fun q : Be wc => (blk9 (Blk.nextOf q.h KX.out)).2.2.1
                  have s3 := fun q : Be wc => (blk9 (Blk.nextOf q.h KX.out)).2.2.2.1
                  have s4 := fun q : Be wc => (blk9 (Blk.nextOf q.h KX.out)).2.2.2.2.1
                  have s5 := fun q : Be wc => (blk9 (Blk.nextOf q.h KX.out)).2.2.2.2.2.1
                  have s6 := fun q : Be wc => (blk9 (Blk.nextOf q.h KX.out)).2.2.2.2.2.2.1
                  have s7 := fun q : Be wc => (blk9 (Blk.nextOf q.h KX.out)).2.2.2.2.2.2.2.1
                  have s8 := fun q : Be wc => (blk9 (Blk.nextOf q.h KX.out)).2.2.2.2.2.2.2.2
                  go_wp2_with fail
                  refine region_be (by kernel_rfl) (by kernel_rfl) ?_
                  repeat (quiet_step (first | (go_at_call 14; with_reducible exact Calls.be_of ((newer_any (lessP p) (lessR r) _ _ all _ (Pkgs.kept HAW.out (Be.kept _))).mono fun _ _ h => ⟨h.1.trans (congrArg (fun b : Nat => Ending.returned (Value.int .i64 (b : Int))) HNW.out), h.2⟩)) | (go_at_call 12; with_reducible exact Calls.be_of (cawake_any _))))
                  refine wpQuiet_nil ?_
                  intro _ hw'
                  obtain ⟨pb, hw''⟩ := hw'
                  subst hw''
                  clear s0 s1 s2 s3 s4 s5 s6 s7 s8 a0 a1 a2 a3 a4 b0 b1 b2 b3 b4
                  go_wp2
                  go_ret
                  exact ⟨rfl, below_next HXW.out pb.h⟩
          · have hEb : (E != 0) = true := by rw [bne_iff_ne]; exact hE0
            go_enter Tryd.func3, Tryd.ntmps3
            have kP0 := Lib.hid (blk_new1 w 28 #[.string (bs (p).name), .string (bs (p).ver), .slice (r).a1 (p).pre.length (r).c1, .slice (r).a2 (p).dep.length (r).c2, .slice (r).a3 (p).rcm.length (r).c3, .slice (r).a4 (p).con.length (r).c4, .slice (r).a5 (p).brk.length (r).c5, .slice (r).a6 (p).prv.length (r).c6, .bool (p).ess])
            have HB0 := Lib.hid (below_alloc (Below.refl w.heap.size w) (.cells #[.string (bs (p).name), .string (bs (p).ver), .slice (r).a1 (p).pre.length (r).c1, .slice (r).a2 (p).dep.length (r).c2, .slice (r).a3 (p).rcm.length (r).c3, .slice (r).a4 (p).con.length (r).c4, .slice (r).a5 (p).brk.length (r).c5, .slice (r).a6 (p).prv.length (r).c6, .bool (p).ess] 28))
            go_wp2_with fail
            refine (light2_any _ _ t _ (HT.out.kept (Kept.of_below HB0.out))).mono ?_
            rintro e w1 ⟨rfl, hb1⟩
            rw [H1.out]
            have kP1 := Lib.hid (kP0.out.next hb1)
            have HB1 := Lib.hid (below_next HB0.out hb1)
            clear hb1 kP0 HB0
            go_wp2_with fail
            refine (bare2_any _ _ s _ (HS.out.kept (Kept.of_below HB1.out))).mono ?_
            rintro e w2 ⟨Ab, cb, rfl, hp2, hb2⟩
            generalize hm : s.map Ent.pkg = lp at hp2 ⊢
            have HP2 := Lib.hid hp2
            have H2 := Lib.hid (show lightS 40 14 10 lp = _ from hm ▸ H2.out)
            clear hp2 hm
            go_wp2_with fail
            refine (light2_any _ _ lp _ HP2.out).mono ?_
            rintro e w3 ⟨rfl, hb3⟩
            rw [H2.out]
            have kP3 := Lib.hid ((kP1.out.next hb2).next hb3)
            have HB3 := Lib.hid (below_next (below_next HB1.out hb2) hb3)
            clear hb2 hb3 HP2 kP1 HB1
            go_wp2_with fail
            refine (light2_any _ _ all _ (HA.out.kept (Kept.of_below HB3.out))).mono ?_
            rintro e w4 ⟨rfl, hb4⟩
            rw [H3.out]
            have kP4 := Lib.hid (kP3.out.next hb4)
            have HB4 := Lib.hid (below_next HB3.out hb4)
            obtain ⟨k0, k1, k2, k3, k4, k5, k6, k7, k8⟩ := blk9 kP4.out
            clear hb4 kP3 HB3
            go_wp2_with fail
            refine (light2_any (some ⟨w4.heap.size, 0, none⟩) 1 [p] _ (one_pkgs (blk_new1 w4 _ _) (HPp.out.kept ((Kept.of_below HB4.out).trans (Kept.alloc _ _))))).mono ?_
            rintro e w5 ⟨rfl, hb5⟩
            rw [H4.out]
            have kP5 := Lib.hid ((kP4.out.alloc (.cells #[.string (bs (p).name), .string (bs (p).ver), .slice (r).a1 (p).pre.length (r).c1, .slice (r).a2 (p).dep.length (r).c2, .slice (r).a3 (p).rcm.length (r).c3, .slice (r).a4 (p).con.length (r).c4, .slice (r).a5 (p).brk.length (r).c5, .slice (r).a6 (p).prv.length (r).c6, .bool (p).ess] 28)).next hb5)
            have HB5 := Lib.hid (below_next (below_alloc HB4.out (.cells #[.string (bs (p).name), .string (bs (p).ver), .slice (r).a1 (p).pre.length (r).c1, .slice (r).a2 (p).dep.length (r).c2, .slice (r).a3 (p).rcm.length (r).c3, .slice (r).a4 (p).con.length (r).c4, .slice (r).a5 (p).brk.length (r).c5, .slice (r).a6 (p).prv.length (r).c6, .bool (p).ess] 28)) hb5)
            clear k0 k1 k2 k3 k4 k5 k6 k7 k8
            obtain ⟨k0, k1, k2, k3, k4, k5, k6, k7, k8⟩ := blk9 kP5.out
            clear hb5 kP4 HB4
            go_wp2_with fail
            refine (rmay_any p r _ (HPp.out.kept (Kept.of_below HB5.out))).mono ?_
            rintro e w6 ⟨rfl, hb6⟩
            rw [HE.out]
            have kP6 := Lib.hid (kP5.out.next hb6)
            have HB6 := Lib.hid (below_next HB5.out hb6)
            clear k0 k1 k2 k3 k4 k5 k6 k7 k8
            obtain ⟨k0, k1, k2, k3, k4, k5, k6, k7, k8⟩ := blk9 kP6.out
            clear hb6 kP5 HB5
            go_wp2_with fail
            refine (cawake_any _).mono ?_
            rintro e w9 ⟨rfl, hb9⟩
            go_wp2
            go_ret
            exact ⟨rfl, below_next HB6.out hb9⟩
end Go.Proofs.YtcbomomlojhghaaDoor
