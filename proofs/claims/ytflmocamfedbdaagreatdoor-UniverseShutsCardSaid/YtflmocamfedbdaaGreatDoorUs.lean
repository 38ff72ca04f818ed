/- The law UniverseShuts. The law UniverseShuts: the walk. -/
import Derived.Test.YtflmocamfedbdaaGreatDoorUaA
import Derived.Test.YtflmocamfedbdaaGreatDoorRh
import Derived.Test.YtflmocamfedbdaaGreatDoorPy
namespace Go.Proofs.YtflmocamfedbdaaGreatDoor
set_option linter.unusedSimpArgs false
set_option linter.unusedVariables false
open Go.RowKit
attribute [local go_sem ↓] Go.wp_at_zero Go.wp_at_succ
attribute [local irreducible] wpQuiet
theorem hlth_iff {l : List Pkg} : hlthS l = true ↔ (l.Pairwise fun q p => badQ p q = false) ∧ (∀ p ∈ l, mayE p = 0) ∧ ∀ p ∈ l, okCl l p = true := by
  unfold hlthS okT
  rw [Bool.and_eq_true, List.all_eq_true, List.all_eq_true]
  constructor
  · rintro ⟨h1, h2⟩
    have h3 : ∀ (i : Nat) (hi : i < l.length), mayE l[i] = 0 ∧ (l.take i).any (badQ l[i]) = false := fun i hi => by
      have := h1 i (List.mem_range.2 hi)
      rw [List.getElem?_eq_getElem hi] at this
      simpa [okAt] using this
    refine ⟨?_, fun p hp => ?_, h2⟩
    · rw [List.pairwise_iff_getElem]
      intro i j hi hj hij
      have := List.any_eq_false.1 (h3 j hj).2 l[i] (List.mem_iff_getElem.2 ⟨i, by rw [List.length_take]; omega, by rw [List.getElem_take]⟩)
      simpa using this
    · obtain ⟨i, hi, rfl⟩ := List.mem_iff_getElem.1 hp
      exact (h3 i hi).1
  · rintro ⟨h1, h2, h3⟩
    refine ⟨fun i hi => ?_, h3⟩
    rw [List.mem_range] at hi
    rw [List.getElem?_eq_getElem hi]
    simp only [okAt, h2 _ (List.getElem_mem hi), decide_true, Bool.true_and, Bool.not_eq_true', List.any_eq_false]
    intro q hq
    obtain ⟨j, hj, rfl⟩ := List.mem_iff_getElem.1 hq
    rw [List.length_take] at hj
    rw [List.getElem_take]
    rw [List.pairwise_iff_getElem] at h1
    have := h1 j i (by omega) hi (by omega)
    simp [this]
theorem hlth_filter {T : List Pkg} {f : Pkg → Bool} (h : hlthS T = true) (hc : ∀ p ∈ T, f p = true → ∀ c ∈ p.pre ++ p.dep, ∀ q ∈ T, c.any (satS q) = true → f q = true) : hlthS (T.filter f) = true := by
  obtain ⟨h1, h2, h3⟩ := hlth_iff.1 h
  refine hlth_iff.2 ⟨h1.sublist List.filter_sublist, fun p hp => h2 p (List.mem_filter.1 hp).1, fun p hp => ?_⟩
  obtain ⟨hpT, hpf⟩ := List.mem_filter.1 hp
  have := h3 p hpT
  unfold okCl at this ⊢
  rw [List.all_eq_true] at this ⊢
  intro c hcm
  have hm := this c hcm
  unfold metS at hm ⊢
  rw [List.any_eq_true] at hm ⊢
  obtain ⟨q, hq, hs⟩ := hm
  exact ⟨q, List.mem_filter.2 ⟨hq, hc p hpT hpf c hcm q hq hs⟩, hs⟩
def inB (x : List Pkg) (p : Pkg) : Bool := x.any fun q => decide (p = q)
theorem inB_iff {x : List Pkg} {p : Pkg} : inB x p = true ↔ p ∈ x := by
  unfold inB
  rw [List.any_eq_true]
  constructor
  · rintro ⟨q, hq, h⟩
    have : p = q := by simpa using h
    rwa [this]
  · intro h; exact ⟨p, h, by simp⟩
open Classical in
theorem rch_shuts {t : List Pkg} {seeds : List (List UInt8)} {p q : Pkg} {c : List Atm} (hp : p ∈ rchS t seeds) (hc : c ∈ relL p) (hq : q ∈ t) (hs : c.any (satS q) = true) : q ∈ rchS t seeds := by
  unfold rchS at hp ⊢
  obtain ⟨h1, h2⟩ := List.mem_filter.1 hp
  obtain ⟨a, ha, hsa⟩ := List.any_eq_true.1 hs
  exact List.mem_filter.2 ⟨hq, by
    rw [decide_eq_true_eq] at h2 ⊢
    exact .step h2 h1 hc ha hq hsa⟩
theorem met_one (c : List Atm) (q : Pkg) : metS c [q] = c.any (satS q) := by simp [metS]
set_option maxRecDepth 100000 in
set_option maxHeartbeats 1000000 in
theorem shin_any (p : Pkg) (r : Raw) (g : Nat) (A : Option Addr) (c : Nat) (x : List Pkg) (w : World) (hp : RP w r p) (hg : w.cell? ⟨g, 0, none⟩ = some (.slice A x.length c)) (hx : Pkgs w A c x) :
    Calls Tryz.prog 42 #[(.agg #[.string (bs (p).name), .string (bs (p).ver), .slice (r).a1 (p).pre.length (r).c1, .slice (r).a2 (p).dep.length (r).c2, .slice (r).a3 (p).rcm.length (r).c3, .slice (r).a4 (p).con.length (r).c4, .slice (r).a5 (p).brk.length (r).c5, .slice (r).a6 (p).prv.length (r).c6, .bool (p).ess]), .pointer (some ⟨g, 0, none⟩)] w fun e w' => e = .returned (.bool (inB x p)) ∧ Below w.heap.size w w' := by
  have hbd := hx.bd
  have HP := Lib.hid hp
  have HX := Lib.hid hx
  have c0 := Kept.alloc w (.cells #[.string (bs (p).name), .string (bs (p).ver), .slice (r).a1 (p).pre.length (r).c1, .slice (r).a2 (p).dep.length (r).c2, .slice (r).a3 (p).rcm.length (r).c3, .slice (r).a4 (p).con.length (r).c4, .slice (r).a5 (p).brk.length (r).c5, .slice (r).a6 (p).prv.length (r).c6, .bool (p).ess] 26) _ _ hg
  clear hp hx hg
  go_enter Tryz.func42, Tryz.ntmps42
  go_wp2
  have KP := Lib.hid (blk_new1 w 26 #[.string (bs (p).name), .string (bs (p).ver), .slice (r).a1 (p).pre.length (r).c1, .slice (r).a2 (p).dep.length (r).c2, .slice (r).a3 (p).rcm.length (r).c3, .slice (r).a4 (p).con.length (r).c4, .slice (r).a5 (p).brk.length (r).c5, .slice (r).a6 (p).prv.length (r).c6, .bool (p).ess])
  have HB := Lib.hid (below_alloc (Below.refl w.heap.size w) (.cells #[.string (bs (p).name), .string (bs (p).ver), .slice (r).a1 (p).pre.length (r).c1, .slice (r).a2 (p).dep.length (r).c2, .slice (r).a3 (p).rcm.length (r).c3, .slice (r).a4 (p).con.length (r).c4, .slice (r).a5 (p).brk.length (r).c5, .slice (r).a6 (p).prv.length (r).c6, .bool (p).ess] 26))
  clear c0
  generalize World.alloc _ _ = W at KP HB ⊢
  generalize hgp : w.heap.size = gp at KP ⊢
  clear hgp
  go_loopw [8] (fun i wr => ∃ k : Nat, k ≤ x.length ∧ i = .int .i64 k ∧ Below W.heap.size W wr ∧ (x.take k).any (fun q => decide (p = q)) = false) (fun i _ => x.length - (intOf i).toNat)
  case atStart => exact ⟨0, Nat.zero_le _, rfl, Below.refl _ _, rfl⟩
  case round =>
    obtain ⟨k, hk, rfl, hb, hn⟩ := hrel
    obtain ⟨wo, rfl⟩ : ∃ wo : World, wo = wr := ⟨_, rfl⟩
    have HB1 := Lib.hid hb
    have HNo := Lib.hid hn
    clear hb hn
    by_cases hlt : k < x.length
    · obtain ⟨q, b, o, s, hq, rfl, hs, e0, e1, e2, e3, e4, e5, e6, e7, e8⟩ := HX.out.at_ hlt (Kept.of_below (below_next HB.out HB1.out))
      have HQ := Lib.hid hq
      have HB2 := Lib.hid (below_alloc HB1.out (.cells #[.string (bs (q).name), .string (bs (q).ver), .slice (s).a1 (q).pre.length (s).c1, .slice (s).a2 (q).dep.length (s).c2, .slice (s).a3 (q).rcm.length (s).c3, .slice (s).a4 (q).con.length (s).c4, .slice (s).a5 (q).brk.length (s).c5, .slice (s).a6 (q).prv.length (s).c6, .bool (q).ess] 26))
      have HS := Lib.hid (hs.kept (Kept.of_below (below_next HB.out HB2.out)))
      have HPp := Lib.hid (HP.out.kept (Kept.of_below (below_next HB.out HB2.out)))
      have K1 := Lib.hid ((KP.out.next HB1.out).alloc (.cells #[.string (bs (q).name), .string (bs (q).ver), .slice (s).a1 (q).pre.length (s).c1, .slice (s).a2 (q).dep.length (s).c2, .slice (s).a3 (q).rcm.length (s).c3, .slice (s).a4 (q).con.length (s).c4, .slice (s).a5 (q).brk.length (s).c5, .slice (s).a6 (q).prv.length (s).c6, .bool (q).ess] 26))
      have K2 := Lib.hid (blk_new1 wo 26 #[.string (bs (q).name), .string (bs (q).ver), .slice (s).a1 (q).pre.length (s).c1, .slice (s).a2 (q).dep.length (s).c2, .slice (s).a3 (q).rcm.length (s).c3, .slice (s).a4 (q).con.length (s).c4, .slice (s).a5 (q).brk.length (s).c5, .slice (s).a6 (q).prv.length (s).c6, .bool (q).ess])
      clear hq hs
      go_upto_region 4 with (fail)
      clear e0 e1 e2 e3 e4 e5 e6 e7 e8
      obtain ⟨a0, a1, a2, a3, a4, a5, a6, a7, a8⟩ := blk9 K1.out
      obtain ⟨b0, b1, b2, b3, b4, b5, b6, b7, b8⟩ := blk9 K2.out
      have HSA := Lib.hid (same_any p q r s _ HPp.out HS.out)
      go_wp2_with fail
      refine HSA.out.mono ?_
      rintro e w6 ⟨rfl, hb6⟩
      have HB3 := Lib.hid (below_next HB2.out hb6)
      clear hb6 a0 a1 a2 a3 a4 a5 a6 a7 a8 b0 b1 b2 b3 b4 b5 b6 b7 b8 HSA K1 K2
      by_cases hpq : p = q
      · have HY := Lib.hid (show inB x p = true from inB_iff.2 (by rw [hpq]; exact List.mem_of_getElem? HQ.out))
        rw [decide_eq_true hpq]
        clear hpq
        go_wp2
        go_ret
        exact ⟨by rw [HY.out]; rfl, below_next HB.out HB3.out⟩
      · have HY := Lib.hid (any_step (p := fun q => decide (p = q)) HQ.out (by simpa using hpq) HNo.out)
        rw [decide_eq_false hpq]
        clear hpq
        go_wp2
        go_roundw
        case rel => exact ⟨k + 1, by omega, by simp, HB3.out, HY.out⟩
        case measure => (try simp only [intOf]); omega
    · have HY := Lib.hid (show inB x p = false from any_end hk hlt HNo.out)
      go_wp2
      go_ret
      exact ⟨by rw [HY.out]; rfl, below_next HB.out HB1.out⟩
set_option maxRecDepth 100000 in
set_option maxHeartbeats 1000000 in
theorem sh_h1 (A A2 A3 A4 : Option Addr) (c c2 c3 c4 : Nat) (repo : List Pkg) (s : List Ent) (names : List (List UInt8)) (pick : List Bool) (w : World) (hl : Pkgs w A c repo) (hs : Ents w A2 c2 s) (hn : Strs w A3 c3 names) (hk : Bols w A4 c4 pick) (hLR : lightM 40 60 15 15 repo = false) : Calls Tryz.prog 10 #[.slice A repo.length c, .slice A2 s.length c2, .slice A3 names.length c3, .slice A4 pick.length c4] w fun e w' => e = .returned (.bool true) ∧ Below w.heap.size w w' := by
  clear hn hk
  have hbd := hl.bd
  have hbd2 := hs.bd
  have HL := Lib.hid hl
  have HS := Lib.hid hs
  have HLR := Lib.hid hLR
  clear hl hs hLR
  go_enter Tryz.func10, Tryz.ntmps10
  go_wp2_with fail
  refine (light12_any A c repo _ HL.out).mono ?_
  rintro e w1 ⟨rfl, hb1⟩
  rw [HLR.out]
  have HB := Lib.hid hb1
  clear hb1
  go_wp2_with fail
  refine (awake12_any _).mono ?_
  rintro e w99 ⟨rfl, hb99⟩
  go_wp2
  go_ret
  exact ⟨rfl, below_next HB.out hb99⟩
set_option maxRecDepth 100000 in
set_option maxHeartbeats 1000000 in
theorem sh_h2 (A A2 A3 A4 : Option Addr) (c c2 c3 c4 : Nat) (repo : List Pkg) (s : List Ent) (names : List (List UInt8)) (pick : List Bool) (w : World) (hl : Pkgs w A c repo) (hs : Ents w A2 c2 s) (hn : Strs w A3 c3 names) (hk : Bols w A4 c4 pick) (hLR : lightM 40 60 15 15 repo = true) (hLS : lightM 40 60 15 15 (s.map Ent.pkg) = false) : Calls Tryz.prog 10 #[.slice A repo.length c, .slice A2 s.length c2, .slice A3 names.length c3, .slice A4 pick.length c4] w fun e w' => e = .returned (.bool true) ∧ Below w.heap.size w w' := by
  clear hn hk
  have hbd := hl.bd
  have hbd2 := hs.bd
  have HL := Lib.hid hl
  have HS := Lib.hid hs
  have HLR := Lib.hid hLR
  clear hl hs hLR
  obtain ⟨sp, hsp⟩ : ∃ sp, sp = s.map Ent.pkg := ⟨_, rfl⟩
  have HSP := Lib.hid hsp.symm
  rw [← hsp] at hLS
  have HLS := Lib.hid hLS
  clear hLS hsp
  go_enter Tryz.func10, Tryz.ntmps10
  go_wp2_with fail
  refine (light12_any A c repo _ HL.out).mono ?_
  rintro e w1 ⟨rfl, hb1⟩
  rw [HLR.out]
  have HB := Lib.hid hb1
  clear hb1
  go_wp2_with fail
  refine (bare12_any A2 c2 s _ (HS.out.kept (Kept.of_below HB.out))).mono ?_
  rintro e w2 ⟨A9, c9, rfl, hp4, hb2⟩
  rw [HSP.out] at hp4 ⊢
  have HP4 := Lib.hid hp4
  have HB := Lib.hid (below_next HB.out hb2)
  clear hb2 hp4
  go_wp2_with fail
  refine (light12_any A9 c9 sp _ HP4.out).mono ?_
  rintro e w3 ⟨rfl, hb3⟩
  rw [HLS.out]
  have HB := Lib.hid (below_next HB.out hb3)
  clear hb3 HP4
  go_wp2_with fail
  refine (awake12_any _).mono ?_
  rintro e w99 ⟨rfl, hb99⟩
  go_wp2
  go_ret
  exact ⟨rfl, below_next HB.out hb99⟩
set_option maxRecDepth 100000 in
set_option maxHeartbeats 1000000 in
theorem sh_h3 (A A2 A3 A4 : Option Addr) (c c2 c3 c4 : Nat) (repo : List Pkg) (s : List Ent) (names : List (List UInt8)) (pick : List Bool) (w : World) (hl : Pkgs w A c repo) (hs : Ents w A2 c2 s) (hn : Strs w A3 c3 names) (hk : Bols w A4 c4 pick) (hLR : lightM 40 60 15 15 repo = true) (hLS : lightM 40 60 15 15 (s.map Ent.pkg) = true) (h20 : 20 < names.length) : Calls Tryz.prog 10 #[.slice A repo.length c, .slice A2 s.length c2, .slice A3 names.length c3, .slice A4 pick.length c4] w fun e w' => e = .returned (.bool true) ∧ Below w.heap.size w w' := by
  have hd20 : decide ((20 : Int) < (names.length : Int)) = true := decide_eq_true (by omega)
  clear hn hk
  have hbd := hl.bd
  have hbd2 := hs.bd
  have HL := Lib.hid hl
  have HS := Lib.hid hs
  have HLR := Lib.hid hLR
  clear hl hs hLR
  obtain ⟨sp, hsp⟩ : ∃ sp, sp = s.map Ent.pkg := ⟨_, rfl⟩
  have HSP := Lib.hid hsp.symm
  rw [← hsp] at hLS
  have HLS := Lib.hid hLS
  clear hLS hsp
  go_enter Tryz.func10, Tryz.ntmps10
  go_wp2_with fail
  refine (light12_any A c repo _ HL.out).mono ?_
  rintro e w1 ⟨rfl, hb1⟩
  rw [HLR.out]
  have HB := Lib.hid hb1
  clear hb1
  go_wp2_with fail
  refine (bare12_any A2 c2 s _ (HS.out.kept (Kept.of_below HB.out))).mono ?_
  rintro e w2 ⟨A9, c9, rfl, hp4, hb2⟩
  rw [HSP.out] at hp4 ⊢
  have HP4 := Lib.hid hp4
  have HB := Lib.hid (below_next HB.out hb2)
  clear hb2 hp4
  go_wp2_with fail
  refine (light12_any A9 c9 sp _ HP4.out).mono ?_
  rintro e w3 ⟨rfl, hb3⟩
  rw [HLS.out]
  have HB := Lib.hid (below_next HB.out hb3)
  clear hb3 HP4
  go_wp2_with fail
  refine (awake12_any _).mono ?_
  rintro e w99 ⟨rfl, hb99⟩
  go_wp2
  go_ret
  exact ⟨rfl, below_next HB.out hb99⟩
set_option maxRecDepth 100000 in
set_option maxHeartbeats 2000000 in
theorem sh_n (A A2 A3 A4 : Option Addr) (c c2 c3 c4 : Nat) (repo : List Pkg) (s : List Ent) (names : List (List UInt8)) (pick : List Bool) (w : World) (hl : Pkgs w A c repo) (hs : Ents w A2 c2 s) (hn : Strs w A3 c3 names) (hk : Bols w A4 c4 pick) (hLR : lightM 40 60 15 15 repo = true) (hLS : lightM 40 60 15 15 (s.map Ent.pkg) = true) (h20 : names.length ≤ 20) (h0 : allE s repo ≠ 0) : Calls Tryz.prog 10 #[.slice A repo.length c, .slice A2 s.length c2, .slice A3 names.length c3, .slice A4 pick.length c4] w fun e w' => e = .returned (.bool true) ∧ Below w.heap.size w w' := by
  have hd20 : decide ((20 : Int) < (names.length : Int)) = false := decide_eq_false (by omega)
  have HF := Lib.hid (l12_few hLR)
  have HM := Lib.hid (l12_smP hLR)
  have HFS := Lib.hid (fun x (hx : x ∈ s) => l12_few hLS x.pkg (List.mem_map.2 ⟨x, hx, rfl⟩))
  have HMS := Lib.hid (fun x (hx : x ∈ s) => l12_smP hLS x.pkg (List.mem_map.2 ⟨x, hx, rfl⟩))
  have HN := Lib.hid hn
  clear hk hn
  have hbd := hl.bd
  have hbd2 := hs.bd
  have HL := Lib.hid hl
  have HS := Lib.hid hs
  have HLR := Lib.hid hLR
  clear hl hs hLR
  obtain ⟨sp, hsp⟩ : ∃ sp, sp = s.map Ent.pkg := ⟨_, rfl⟩
  have HSP := Lib.hid hsp.symm
  rw [← hsp] at hLS
  have HLS := Lib.hid hLS
  clear hLS hsp
  have H0 := Lib.hid h0
  obtain ⟨E, he⟩ : ∃ E, E = allE s repo := ⟨_, rfl⟩
  have HE := Lib.hid he.symm
  have hE0 : (E != 0) = true := by rw [bne_iff_ne, he]; exact h0
  clear h0 he
  go_enter Tryz.func10, Tryz.ntmps10
  go_wp2_with fail
  refine (light12_any A c repo _ HL.out).mono ?_
  rintro e w1 ⟨rfl, hb1⟩
  rw [HLR.out]
  have HB := Lib.hid hb1
  clear hb1
  go_wp2_with fail
  refine (bare12_any A2 c2 s _ (HS.out.kept (Kept.of_below HB.out))).mono ?_
  rintro e w2 ⟨A9, c9, rfl, hp4, hb2⟩
  rw [HSP.out] at hp4 ⊢
  have HP4 := Lib.hid hp4
  have HB := Lib.hid (below_next HB.out hb2)
  clear hb2 hp4
  go_wp2_with fail
  refine (light12_any A9 c9 sp _ HP4.out).mono ?_
  rintro e w3 ⟨rfl, hb3⟩
  rw [HLS.out]
  have HB := Lib.hid (below_next HB.out hb3)
  clear hb3 HP4
  go_wp2_with fail
  refine (uniOf_any A A2 A3 c c2 c3 repo s names _ (HL.out.kept (Kept.of_below HB.out)) (HS.out.kept (Kept.of_below HB.out)) (Strs.kept HN.out (Kept.of_below HB.out)) HF.out HFS.out HM.out HMS.out).mono ?_
  rintro e w5 (⟨h0, _⟩ | ⟨_, rfl, hb5⟩)
  · exact absurd h0 H0.out
  · rw [HE.out]
    have HB := Lib.hid (below_alloc (below_next HB.out hb5) (.cells #[.slice none 0 0] 43))
    clear hb5
    go_wp2_with fail
    refine (all_any A A2 c c2 repo s _ (HL.out.kept (Kept.of_below HB.out)) (HS.out.kept (Kept.of_below HB.out)) HF.out HFS.out).mono ?_
    rintro e w6 (⟨h0, _⟩ | ⟨_, rfl, hb6⟩)
    · exact absurd h0 H0.out
    · rw [HE.out]
      have HB := Lib.hid (below_next HB.out hb6)
      clear hb6
      go_wp2_with fail
      refine (awake12_any _).mono ?_
      rintro e w99 ⟨rfl, hb99⟩
      go_wp2
      go_ret
      exact ⟨rfl, below_next HB.out hb99⟩
end Go.Proofs.YtflmocamfedbdaaGreatDoor
namespace Go.Proofs.YtflmocamfedbdaaGreatDoor
set_option linter.unusedSimpArgs false
set_option linter.unusedVariables false
open Go.RowKit
attribute [local go_sem ↓] Go.wp_at_zero Go.wp_at_succ
attribute [local irreducible] wpQuiet
theorem mem_snoc {T t : List Pkg} {p : Pkg} (h : ∀ q ∈ T, q ∈ t) (hp : p ∈ t) : ∀ q ∈ T ++ [p], q ∈ t := fun q hq => by
  rcases List.mem_append.1 hq with hq | hq
  · exact h q hq
  · rw [List.mem_singleton] at hq
    rw [hq]; exact hp
theorem one_pk {W : World} {g : Nat} {p : Pkg} {r : Raw} (hB : Blk W g 26 #[.string (bs (p).name), .string (bs (p).ver), .slice (r).a1 (p).pre.length (r).c1, .slice (r).a2 (p).dep.length (r).c2, .slice (r).a3 (p).rcm.length (r).c3, .slice (r).a4 (p).con.length (r).c4, .slice (r).a5 (p).brk.length (r).c5, .slice (r).a6 (p).prv.length (r).c6, .bool (p).ess]) (hp : RP W r p) : Pkgs W (some ⟨g, 0, none⟩) 1 [p] :=
  slcB [encK r p] hB rfl rfl (fun i cs x e1 e2 => by
    rcases i with _ | i
    · simp at e1 e2
      subst e1 e2
      exact ⟨⟨r, rfl, hp⟩, rfl⟩
    · simp at e1) rfl (by show 1 * 184 ≤ _; decide) (by show 1 ≤ _; decide) (by decide)
set_option maxRecDepth 100000 in
set_option maxHeartbeats 8000000 in
theorem sh_y (A A2 A3 A4 : Option Addr) (c c2 c3 c4 : Nat) (repo : List Pkg) (s : List Ent) (names : List (List UInt8)) (pick : List Bool) (w : World) (hl : Pkgs w A c repo) (hs : Ents w A2 c2 s) (hn : Strs w A3 c3 names) (hk : Bols w A4 c4 pick) (hLR : lightM 40 60 15 15 repo = true) (hLS : lightM 40 60 15 15 (s.map Ent.pkg) = true) (h20 : names.length ≤ 20) (h0 : allE s repo = 0) : Calls Tryz.prog 10 #[.slice A repo.length c, .slice A2 s.length c2, .slice A3 names.length c3, .slice A4 pick.length c4] w fun e w' => e = .returned (.bool true) ∧ Below w.heap.size w w' := by
  have hmf : ∀ (fn : Fn) (first cap : Array Value) (w : World), (Instr.makeFunc fn first cap).run Tryz.prog w = .ok (.func fn first cap) w := fun _ _ _ _ => rfl
  have hd20 : decide ((20 : Int) < (names.length : Int)) = false := decide_eq_false (by omega)
  have HL24 := Lib.hid (all_len24 h0)
  have HF := Lib.hid (l12_few hLR)
  have HM := Lib.hid (l12_smP hLR)
  have HFS := Lib.hid (fun x (hx : x ∈ s) => l12_few hLS x.pkg (List.mem_map.2 ⟨x, hx, rfl⟩))
  have HMS := Lib.hid (fun x (hx : x ∈ s) => l12_smP hLS x.pkg (List.mem_map.2 ⟨x, hx, rfl⟩))
  have hbd4 := hk.bd
  have HN := Lib.hid hn
  have HK := Lib.hid hk
  clear hk hn
  have hbd := hl.bd
  have hbd2 := hs.bd
  have HL := Lib.hid hl
  have HS := Lib.hid hs
  have HLR := Lib.hid hLR
  clear hl hs hLR
  obtain ⟨sp, hsp⟩ : ∃ sp, sp = s.map Ent.pkg := ⟨_, rfl⟩
  have HSP := Lib.hid hsp.symm
  rw [← hsp] at hLS
  have HLS := Lib.hid hLS
  clear hLS hsp
  have H0 := Lib.hid h0
  obtain ⟨t, ht⟩ : ∃ t, t = srt pLt (allL s repo) := ⟨_, rfl⟩
  have HT := Lib.hid ht.symm
  rw [← ht] at HL24
  have htl : t.length ≤ 24 := HL24.out
  obtain ⟨X, hX⟩ : ∃ X, X = rchS t (entN s ++ names) := ⟨_, rfl⟩
  have hXl : X.length ≤ 24 := by rw [hX]; exact Nat.le_trans (List.length_filter_le _ _) HL24.out
  have HSH := Lib.hid (show ∀ p ∈ X, ∀ c ∈ relL p, ∀ q ∈ t, metS c [q] = true → inB X q = true from fun p hp c hc q hq hm => inB_iff.2 (by
    rw [hX] at hp ⊢
    exact rch_shuts hp hc hq (by rw [← met_one]; exact hm)))
  have HX := Lib.hid hX.symm
  clear h0 ht hX
  go_enter Tryz.func10, Tryz.ntmps10
  go_wp2_with fail
  refine (light12_any A c repo _ HL.out).mono ?_
  rintro e w1 ⟨rfl, hb1⟩
  rw [HLR.out]
  have HB := Lib.hid hb1
  clear hb1
  go_wp2_with fail
  refine (bare12_any A2 c2 s _ (HS.out.kept (Kept.of_below HB.out))).mono ?_
  rintro e w2 ⟨A9, c9, rfl, hp4, hb2⟩
  rw [HSP.out] at hp4 ⊢
  have HP4 := Lib.hid hp4
  have HB := Lib.hid (below_next HB.out hb2)
  clear hb2 hp4
  go_wp2_with fail
  refine (light12_any A9 c9 sp _ HP4.out).mono ?_
  rintro e w3 ⟨rfl, hb3⟩
  rw [HLS.out]
  have HB := Lib.hid (below_next HB.out hb3)
  clear hb3 HP4
  go_wp2_with fail
  refine (uniOf_any A A2 A3 c c2 c3 repo s names _ (HL.out.kept (Kept.of_below HB.out)) (HS.out.kept (Kept.of_below HB.out)) (Strs.kept HN.out (Kept.of_below HB.out)) HF.out HFS.out HM.out HMS.out).mono ?_
  rintro e w5 (⟨_, A5, c5, rfl, hp5, hb5⟩ | ⟨h0, _⟩)
  · rw [HT.out, HX.out] at hp5 ⊢
    have hbd5 := hp5.bd
    have HP5 := Lib.hid (hp5.kept (Kept.alloc _ (.cells #[.slice A5 X.length c5] 43)))
    have K9 := Lib.hid (blk_new1 w5 43 #[.slice A5 X.length c5])
    have HB := Lib.hid (below_alloc (below_next HB.out hb5) (.cells #[.slice A5 X.length c5] 43))
    clear hb5 hp5
    go_wp2_with fail
    refine (all_any A A2 c c2 repo s _ (HL.out.kept (Kept.of_below HB.out)) (HS.out.kept (Kept.of_below HB.out)) HF.out HFS.out).mono ?_
    rintro e w6 (⟨_, A6, c6, rfl, hp6, hb6⟩ | ⟨h0, _⟩)
    · rw [HT.out] at hp6 ⊢
      have hbd6 := hp6.bd
      have HP6 := Lib.hid hp6
      have HP5 := Lib.hid (HP5.out.kept (Kept.of_below hb6))
      have K9 := Lib.hid (K9.out.next hb6)
      have HB := Lib.hid (below_next HB.out hb6)
      clear hb6 hp6
      generalize w5.heap.size = g9 at K9 ⊢
      have c9 := K9.out.cell 0
      go_wp2
      clear c9
      go_loopw [71] (fun i wr => ∃ k : Nat, k ≤ X.length ∧ i = .int .i64 k ∧ Below w6.heap.size w6 wr) (fun i _ => X.length - (intOf i).toNat)
      case atStart => exact ⟨0, Nat.zero_le _, rfl, Below.refl _ _⟩
      case round =>
        obtain ⟨k, hk, rfl, hb⟩ := hrel
        obtain ⟨wo, rfl⟩ : ∃ wo : World, wo = wr := ⟨_, rfl⟩
        have HB1 := Lib.hid hb
        clear hb
        by_cases hlt : k < X.length
        · obtain ⟨p, b, o, r, hp, rfl, hr, e0, e1, e2, e3, e4, e5, e6, e7, e8⟩ := HP5.out.at_ hlt (Kept.of_below HB1.out)
          have HPX := Lib.hid (List.mem_of_getElem? hp)
          rcases r with ⟨a1, a2, a3, a4, a5, a6, c1', c2', c3', c4', c5', c6'⟩
          dsimp only at e2 e3 e4 e5 e6 e7
          have HC1 := Lib.hid (show Clss w6 a1 c1' p.pre from hr.pre)
          have HC2 := Lib.hid (show Clss w6 a2 c2' p.dep from hr.dep)
          have HC3 := Lib.hid (show Clss w6 a3 c3' p.rcm from hr.rcm)
          have HB2 := Lib.hid (below_alloc HB1.out (.cells #[.string (bs p.name), .string (bs p.ver), .slice a1 p.pre.length c1', .slice a2 p.dep.length c2', .slice a3 p.rcm.length c3', .slice a4 p.con.length c4', .slice a5 p.brk.length c5', .slice a6 p.prv.length c6', .bool p.ess] 26))
          clear hp hr
          go_wp2
          clear e0 e1 e2 e3 e4 e5 e6 e7 e8
          generalize World.alloc _ _ = Wb at HB2 ⊢
          go_loopw [82] (fun i wr => ∃ d : Nat, d ≤ 3 ∧ i = .int .i64 d ∧ Below w6.heap.size w6 wr) (fun i _ => 3 - (intOf i).toNat)
          case atStart => exact ⟨0, Nat.zero_le _, rfl, HB2.out⟩
          case round =>
            clear HB2
            obtain ⟨d, hd, rfl, hb⟩ := hrel
            obtain ⟨wd, rfl⟩ : ∃ wd : World, wd = wr := ⟨_, rfl⟩
            have HBd := Lib.hid hb
            clear hb
            by_cases hld : d < 3
            · have hd3 : decide ((d : Int) < 3) = true := decide_eq_true (by omega)
              obtain ⟨L, A', c', hcl, hidx, hrl⟩ : ∃ (L : List (List Atm)) (A' : Option Addr) (c' : Nat), Clss w6 A' c' L ∧ (∀ W, (Instr.index 76 (.agg #[.slice a1 p.pre.length c1', .slice a2 p.dep.length c2', .slice a3 p.rcm.length c3']) (.int .i64 (d : Int))).run Tryz.prog W = .ok (.slice A' L.length c') W) ∧ ∀ c ∈ L, c ∈ relL p := by
                obtain rfl | rfl | rfl : d = 0 ∨ d = 1 ∨ d = 2 := by omega
                · exact ⟨_, _, _, HC1.out, fun _ => by kernel_rfl, fun c hc => List.mem_append.2 (.inl hc)⟩
                · exact ⟨_, _, _, HC2.out, fun _ => by kernel_rfl, fun c hc => List.mem_append.2 (.inr (List.mem_append.2 (.inl hc)))⟩
                · exact ⟨_, _, _, HC3.out, fun _ => by kernel_rfl, fun c hc => List.mem_append.2 (.inr (List.mem_append.2 (.inr hc)))⟩
              have HCL := Lib.hid hcl
              have HRL := Lib.hid hrl
              have hbdL := hcl.bd
              clear hcl hrl
              go_wp2
              clear hidx
              go_loopw [87] (fun i wr => ∃ j : Nat, j ≤ L.length ∧ i = .int .i64 j ∧ Below w6.heap.size w6 wr) (fun i _ => L.length - (intOf i).toNat)
              case atStart => exact ⟨0, Nat.zero_le _, rfl, HBd.out⟩
              case round =>
                clear HBd
                obtain ⟨j, hj, rfl, hb⟩ := hrel
                obtain ⟨w7, rfl⟩ : ∃ w7 : World, w7 = wr := ⟨_, rfl⟩
                have HB7 := Lib.hid hb
                clear hb
                by_cases hlj : j < L.length
                · obtain ⟨cl, b7, o7, A8, c8, hcl, rfl, hA8, g0⟩ := HCL.out.at_ hlj (Kept.of_below HB7.out)
                  have HCR := Lib.hid (HRL.out cl (List.mem_of_getElem? hcl))
                  have HA8 := Lib.hid hA8
                  clear hcl hA8
                  go_wp2
                  clear g0
                  go_loopw [93] (fun i wr => ∃ m : Nat, m ≤ t.length ∧ i = .int .i64 m ∧ Below w6.heap.size w6 wr) (fun i _ => t.length - (intOf i).toNat)
                  case atStart => exact ⟨0, Nat.zero_le _, rfl, HB7.out⟩
                  case round =>
                    clear HB7
                    obtain ⟨m, hm, rfl, hb⟩ := hrel
                    obtain ⟨wn, rfl⟩ : ∃ wn : World, wn = wr := ⟨_, rfl⟩
                    have HBn := Lib.hid hb
                    clear hb
                    by_cases hlm : m < t.length
                    · obtain ⟨q, b9, o9, rq, hq, rfl, hrq, f0, f1, f2, f3, f4, f5, f6, f7, f8⟩ := HP6.out.at_ hlm (Kept.of_below HBn.out)
                      have HQT := Lib.hid (List.mem_of_getElem? hq)
                      have HBq := Lib.hid (below_alloc (below_alloc HBn.out (.cells #[.string (bs (q).name), .string (bs (q).ver), .slice (rq).a1 (q).pre.length (rq).c1, .slice (rq).a2 (q).dep.length (rq).c2, .slice (rq).a3 (q).rcm.length (rq).c3, .slice (rq).a4 (q).con.length (rq).c4, .slice (rq).a5 (q).brk.length (rq).c5, .slice (rq).a6 (q).prv.length (rq).c6, .bool (q).ess] 26)) (.cells #[.string (bs (q).name), .string (bs (q).ver), .slice (rq).a1 (q).pre.length (rq).c1, .slice (rq).a2 (q).dep.length (rq).c2, .slice (rq).a3 (q).rcm.length (rq).c3, .slice (rq).a4 (q).con.length (rq).c4, .slice (rq).a5 (q).brk.length (rq).c5, .slice (rq).a6 (q).prv.length (rq).c6, .bool (q).ess] 26))
                      have HRQ := Lib.hid (hrq.kept (Kept.of_below HBq.out))
                      have KQ := Lib.hid ((blk_new1 wn 26 #[.string (bs (q).name), .string (bs (q).ver), .slice (rq).a1 (q).pre.length (rq).c1, .slice (rq).a2 (q).dep.length (rq).c2, .slice (rq).a3 (q).rcm.length (rq).c3, .slice (rq).a4 (q).con.length (rq).c4, .slice (rq).a5 (q).brk.length (rq).c5, .slice (rq).a6 (q).prv.length (rq).c6, .bool (q).ess]).alloc (.cells #[.string (bs (q).name), .string (bs (q).ver), .slice (rq).a1 (q).pre.length (rq).c1, .slice (rq).a2 (q).dep.length (rq).c2, .slice (rq).a3 (q).rcm.length (rq).c3, .slice (rq).a4 (q).con.length (rq).c4, .slice (rq).a5 (q).brk.length (rq).c5, .slice (rq).a6 (q).prv.length (rq).c6, .bool (q).ess] 26))
                      have HONE := Lib.hid (one_pk (blk_new2 wn (.cells #[.string (bs (q).name), .string (bs (q).ver), .slice (rq).a1 (q).pre.length (rq).c1, .slice (rq).a2 (q).dep.length (rq).c2, .slice (rq).a3 (q).rcm.length (rq).c3, .slice (rq).a4 (q).con.length (rq).c4, .slice (rq).a5 (q).brk.length (rq).c5, .slice (rq).a6 (q).prv.length (rq).c6, .bool (q).ess] 26) 26 #[.string (bs (q).name), .string (bs (q).ver), .slice (rq).a1 (q).pre.length (rq).c1, .slice (rq).a2 (q).dep.length (rq).c2, .slice (rq).a3 (q).rcm.length (rq).c3, .slice (rq).a4 (q).con.length (rq).c4, .slice (rq).a5 (q).brk.length (rq).c5, .slice (rq).a6 (q).prv.length (rq).c6, .bool (q).ess]) HRQ.out)
                      clear hq hrq
                      go_wp2_with fail
                      clear f0 f1 f2 f3 f4 f5 f6 f7 f8
                      refine (rmet_any A8 _ c8 1 cl [q] _ (HA8.out.kept (Kept.of_below HBq.out)) HONE.out).mono ?_
                      rintro e w10 ⟨rfl, hb10⟩
                      have HBr := Lib.hid (below_next HBq.out hb10)
                      have HRQ := Lib.hid (HRQ.out.kept (Kept.of_below hb10))
                      have KQ := Lib.hid (KQ.out.next hb10)
                      clear hb10 HONE HBq
                      rcases hmt : metS cl [q]
                      · clear hmt
                        go_wp2
                        go_roundw
                        case rel => exact ⟨m + 1, by omega, by simp, HBr.out⟩
                        case measure => (try simp only [intOf]); omega
                      · have HIN := Lib.hid (HSH.out p HPX.out cl HCR.out q HQT.out hmt)
                        obtain ⟨a0, a1'', a2'', a3'', a4'', a5'', a6'', a7, a8⟩ := blk9 KQ.out
                        clear hmt
                        go_wp2_with fail
                        refine (shin_any q rq g9 _ c5 X _ HRQ.out ((K9.out.next HBr.out).cell 0) (HP5.out.kept (Kept.of_below HBr.out))).mono ?_
                        rintro e w11 ⟨rfl, hb11⟩
                        rw [HIN.out]
                        have HBs := Lib.hid (below_next HBr.out hb11)
                        clear hb11 a0 a1'' a2'' a3'' a4'' a5'' a6'' a7 a8
                        go_wp2
                        go_roundw
                        case rel => exact ⟨m + 1, by omega, by simp, HBs.out⟩
                        case measure => (try simp only [intOf]); omega
                    · go_wp2
                      go_roundw
                      case rel => exact ⟨j + 1, by omega, by simp, HBn.out⟩
                      case measure => (try simp only [intOf]); omega
                · go_wp2
                  go_roundw
                  case rel => exact ⟨d + 1, by omega, by simp, HB7.out⟩
                  case measure => (try simp only [intOf]); omega
            · obtain rfl : d = 3 := by omega
              go_wp2
              go_roundw
              case rel => exact ⟨k + 1, by omega, by simp, HBd.out⟩
              case measure => (try simp only [intOf]); omega
        · go_wp2
          clear hlt hk
          go_loopw [22, 113] (fun v i wr => ∃ (k : Nat) (T : List Pkg), k ≤ t.length ∧ T.length ≤ k ∧ i = .int .i64 k ∧ (∀ p ∈ T, p ∈ t) ∧ Below w6.heap.size w6 wr ∧ Own wr w6.heap.size 26 9 (RPkg w6) v T) (fun _ i _ => t.length - (intOf i).toNat)
          case atStart => exact ⟨0, [], Nat.zero_le _, Nat.zero_le _, rfl, (fun p hp => by cases hp), HB1.out, Own.nil_ _ _ _ _ _⟩
          case round =>
            clear HB1
            obtain ⟨k, T, hk, hTk, rfl, hT, hb, ho⟩ := hrel
            obtain ⟨wo, rfl⟩ : ∃ wo : World, wo = wr := ⟨_, rfl⟩
            have HTT := Lib.hid hT
            have HB1 := Lib.hid hb
            have HO := Lib.hid ho
            clear hT hb ho
            by_cases hlt : k < t.length
            · obtain ⟨p, b, o, r, hp, rfl, hr, e0, e1, e2, e3, e4, e5, e6, e7, e8⟩ := HP6.out.at_ hlt (Kept.of_below HB1.out)
              have HPT := Lib.hid (List.mem_of_getElem? hp)
              have HR := Lib.hid hr
              have HBa := Lib.hid (below_alloc HB1.out (.cells #[.string (bs (p).name), .string (bs (p).ver), .slice (r).a1 (p).pre.length (r).c1, .slice (r).a2 (p).dep.length (r).c2, .slice (r).a3 (p).rcm.length (r).c3, .slice (r).a4 (p).con.length (r).c4, .slice (r).a5 (p).brk.length (r).c5, .slice (r).a6 (p).prv.length (r).c6, .bool (p).ess] 26))
              have HOa := Lib.hid (HO.out.alloc (.cells #[.string (bs (p).name), .string (bs (p).ver), .slice (r).a1 (p).pre.length (r).c1, .slice (r).a2 (p).dep.length (r).c2, .slice (r).a3 (p).rcm.length (r).c3, .slice (r).a4 (p).con.length (r).c4, .slice (r).a5 (p).brk.length (r).c5, .slice (r).a6 (p).prv.length (r).c6, .bool (p).ess] 26))
              have KP := Lib.hid (blk_new1 wo 26 #[.string (bs (p).name), .string (bs (p).ver), .slice (r).a1 (p).pre.length (r).c1, .slice (r).a2 (p).dep.length (r).c2, .slice (r).a3 (p).rcm.length (r).c3, .slice (r).a4 (p).con.length (r).c4, .slice (r).a5 (p).brk.length (r).c5, .slice (r).a6 (p).prv.length (r).c6, .bool (p).ess])
              clear hp hr
              by_cases hpk : k < pick.length
              · obtain ⟨x, b4, o4, hx, rfl, h4⟩ := HK.out.at_ (w' := wo.alloc (.cells #[.string (bs (p).name), .string (bs (p).ver), .slice (r).a1 (p).pre.length (r).c1, .slice (r).a2 (p).dep.length (r).c2, .slice (r).a3 (p).rcm.length (r).c3, .slice (r).a4 (p).con.length (r).c4, .slice (r).a5 (p).brk.length (r).c5, .slice (r).a6 (p).prv.length (r).c6, .bool (p).ess] 26)) hpk (Kept.of_below (below_next HB.out HBa.out))
                have hk0 : (0 : Int) ≤ (k : Int) := Int.natCast_nonneg _
                have hk1 : (k : Int) < (pick.length : Int) := by omega
                have hkd : decide ((k : Int) < (pick.length : Int)) = true := decide_eq_true hk1
                clear hx
                rcases x
                · go_wp2
                  go_roundw
                  case rel => exact ⟨k + 1, T, by omega, by omega, by simp, HTT.out, HBa.out, HOa.out⟩
                  case measure => (try simp only [intOf]); omega
                · obtain ⟨a0, a1, a2, a3, a4, a5, a6, a7, a8⟩ := blk9 KP.out
                  go_wp2_with (at_builtin; refine wpList_append_el (by rfl) _ _ 43 (by rfl) w6.heap.size 26 _ 9 184 Tryz.underlying43 infPkg' rfl (by omega) (RPkg w6) _ T (by rfl) (HOa.out.alloc _) p (encK r p) (wo.heap.size + 1) 1 (by rfl) (blk_new2 _ _ _ _) ⟨r, rfl, HR.out⟩ rfl (encK_one _ _) (by omega) (by omega) (below_alloc HBa.out _).size ?_; intro g' cap w30 ho30 hg30; have HBe := Lib.hid ((HOa.out.alloc _).below (below_alloc HBa.out _) (below_alloc HBa.out _).size hg30); have HOe := Lib.hid ho30; clear ho30 hg30)
                  go_roundw
                  case rel => exact ⟨k + 1, T ++ [p], by omega, by simp; omega, by simp, mem_snoc HTT.out HPT.out, HBe.out, HOe.out⟩
                  case measure => (try simp only [intOf]); omega
              · have hkd : decide ((k : Int) < (pick.length : Int)) = false := decide_eq_false (by omega)
                go_wp2
                go_roundw
                case rel => exact ⟨k + 1, T, by omega, by omega, by simp, HTT.out, HBa.out, HOa.out⟩
                case measure => (try simp only [intOf]); omega
            · obtain ⟨A7, c7, rfl, hp7⟩ := own_pkgs HO.out HB1.out (by omega)
              have hbd7 := hp7.bd
              have HP7 := Lib.hid hp7
              have HTl : T.length ≤ 24 := by omega
              have HBw := Lib.hid (below_next HB.out HB1.out)
              clear hp7
              go_wp2_with fail
              refine (rhealthy_any A7 c7 T _ HP7.out).mono ?_
              rintro e w8 ⟨rfl, hb8⟩
              have HP7 := Lib.hid (HP7.out.kept (Kept.of_below hb8))
              have HB8 := Lib.hid (below_next HB1.out hb8)
              have HB := Lib.hid (below_next HBw.out hb8)
              clear hb8 HO HB1 hlt hk HBw
              rcases hht : hlthS T
              · clear hht
                go_wp2_with fail
                refine (awake12_any _).mono ?_
                rintro e w99 ⟨rfl, hb99⟩
                go_wp2
                go_ret
                exact ⟨rfl, below_next HB.out hb99⟩
              · have HHF := Lib.hid (show hlthS (T.filter (inB X)) = true from hlth_filter hht (fun p hp hf c hc q hq hs => HSH.out p (inB_iff.1 hf) c (by
                  unfold relL
                  rcases List.mem_append.1 hc with h | h
                  · exact List.mem_append.2 (.inl h)
                  · exact List.mem_append.2 (.inr (List.mem_append.2 (.inl h)))) q (HTT.out q hq) (by rw [met_one]; exact hs)))
                clear hht
                go_wp2
                go_loopw [25, 139] (fun v i wr => ∃ (k : Nat) (U : List Pkg), k ≤ T.length ∧ U.length ≤ k ∧ i = .int .i64 k ∧ U = (T.take k).filter (inB X) ∧ Below w8.heap.size w8 wr ∧ Own wr w8.heap.size 26 9 (RPkg w8) v U) (fun _ i _ => T.length - (intOf i).toNat)
                case atStart => exact ⟨0, [], Nat.zero_le _, Nat.zero_le _, rfl, rfl, Below.refl _ _, Own.nil_ _ _ _ _ _⟩
                case round =>
                  obtain ⟨k, U, hk, hUk, rfl, hU, hb, ho⟩ := hrel
                  obtain ⟨wo, rfl⟩ : ∃ wo : World, wo = wr := ⟨_, rfl⟩
                  have HU := Lib.hid hU
                  have HB1 := Lib.hid hb
                  have HO := Lib.hid ho
                  clear hU hb ho
                  by_cases hlt : k < T.length
                  · obtain ⟨p, b, o, r, hp, rfl, hr, e0, e1, e2, e3, e4, e5, e6, e7, e8⟩ := HP7.out.at_ hlt (Kept.of_below HB1.out)
                    have HPT := Lib.hid hp
                    have HR := Lib.hid hr
                    have HBa := Lib.hid (below_alloc HB1.out (.cells #[.string (bs (p).name), .string (bs (p).ver), .slice (r).a1 (p).pre.length (r).c1, .slice (r).a2 (p).dep.length (r).c2, .slice (r).a3 (p).rcm.length (r).c3, .slice (r).a4 (p).con.length (r).c4, .slice (r).a5 (p).brk.length (r).c5, .slice (r).a6 (p).prv.length (r).c6, .bool (p).ess] 26))
                    have HOa := Lib.hid (HO.out.alloc (.cells #[.string (bs (p).name), .string (bs (p).ver), .slice (r).a1 (p).pre.length (r).c1, .slice (r).a2 (p).dep.length (r).c2, .slice (r).a3 (p).rcm.length (r).c3, .slice (r).a4 (p).con.length (r).c4, .slice (r).a5 (p).brk.length (r).c5, .slice (r).a6 (p).prv.length (r).c6, .bool (p).ess] 26))
                    have KP := Lib.hid (blk_new1 wo 26 #[.string (bs (p).name), .string (bs (p).ver), .slice (r).a1 (p).pre.length (r).c1, .slice (r).a2 (p).dep.length (r).c2, .slice (r).a3 (p).rcm.length (r).c3, .slice (r).a4 (p).con.length (r).c4, .slice (r).a5 (p).brk.length (r).c5, .slice (r).a6 (p).prv.length (r).c6, .bool (p).ess])
                    have HB6 := Lib.hid (below_next HB8.out HBa.out)
                    clear hp hr
                    go_wp2_with fail
                    clear e0 e1 e2 e3 e4 e5 e6 e7 e8
                    refine (shin_any p r g9 _ c5 X _ (HR.out.kept (Kept.of_below HBa.out)) ((K9.out.next HB6.out).cell 0) (HP5.out.kept (Kept.of_below HB6.out))).mono ?_
                    rintro e w11 ⟨rfl, hb11⟩
                    have HBb := Lib.hid (below_next HBa.out hb11)
                    have HOb := Lib.hid (HOa.out.next hb11)
                    have KPb := Lib.hid (KP.out.next hb11)
                    clear hb11 HBa HOa KP HB6
                    generalize wo.heap.size = gp at KPb ⊢
                    rcases hin : inB X p
                    · have HI := Lib.hid hin
                      clear hin
                      go_wp2
                      go_roundw
                      case rel => exact ⟨k + 1, U, by omega, by omega, by simp, by rw [filter_no HPT.out HI.out]; exact HU.out, HBb.out, HOb.out⟩
                      case measure => (try simp only [intOf]); omega
                    · have HI := Lib.hid hin
                      clear hin
                      obtain ⟨a0, a1, a2, a3, a4, a5, a6, a7, a8⟩ := blk9 KPb.out
                      go_wp2_with (at_builtin; refine wpList_append_el (by rfl) _ _ 43 (by rfl) w8.heap.size 26 _ 9 184 Tryz.underlying43 infPkg' rfl (by omega) (RPkg w8) _ U (by rfl) (HOb.out.alloc _) p (encK r p) w11.heap.size 1 (by rfl) (blk_new1 _ _ _) ⟨r, rfl, HR.out⟩ rfl (encK_one _ _) (by omega) (by omega) (below_alloc HBb.out _).size ?_; intro g' cap w30 ho30 hg30; have HBe := Lib.hid ((HOb.out.alloc _).below (below_alloc HBb.out _) (below_alloc HBb.out _).size hg30); have HOe := Lib.hid ho30; clear ho30 hg30)
                      go_roundw
                      case rel => exact ⟨k + 1, U ++ [p], by omega, by simp; omega, by simp, by rw [filter_yes HPT.out HI.out, ← HU.out], HBe.out, HOe.out⟩
                      case measure => (try simp only [intOf]); omega
                  · have hU := HU.out
                    rw [take_end hk hlt] at hU
                    have HUF := Lib.hid (show hlthS U = true by rw [hU]; exact HHF.out)
                    clear hU
                    obtain ⟨A10, c10, rfl, hp10⟩ := own_pkgs HO.out HB1.out (by omega)
                    have HP10 := Lib.hid hp10
                    have HB := Lib.hid (below_next HB.out HB1.out)
                    clear hp10
                    go_wp2_with fail
                    refine (rhealthy_any A10 c10 U _ HP10.out).mono ?_
                    rintro e w12 ⟨rfl, hb12⟩
                    rw [HUF.out]
                    have HB := Lib.hid (below_next HB.out hb12)
                    clear hb12
                    go_wp2_with fail
                    refine (awake12_any _).mono ?_
                    rintro e w99 ⟨rfl, hb99⟩
                    go_wp2
                    go_ret
                    exact ⟨rfl, below_next HB.out hb99⟩
    · exact absurd H0.out h0
  · exact absurd H0.out h0
theorem law_universeShuts (A : Option Addr) (c : Nat) (repo : List Pkg) (A2 : Option Addr) (c2 : Nat) (s : List Ent) (A3 : Option Addr) (c3 : Nat) (names : List (List UInt8)) (A4 : Option Addr) (c4 : Nat) (pick : List Bool) (w : World) (hl : Pkgs w A c repo) (hs : Ents w A2 c2 s) (hn : Strs w A3 c3 names) (hk : Bols w A4 c4 pick) : Calls Tryz.prog 10 #[.slice A repo.length c, .slice A2 s.length c2, .slice A3 names.length c3, .slice A4 pick.length c4] w fun e w' => e = .returned (.bool true) ∧ Below w.heap.size w w' := by
  rcases hLR : lightM 40 60 15 15 repo
  · exact sh_h1 A A2 A3 A4 c c2 c3 c4 repo s names pick w hl hs hn hk hLR
  · rcases hLS : lightM 40 60 15 15 (s.map Ent.pkg)
    · exact sh_h2 A A2 A3 A4 c c2 c3 c4 repo s names pick w hl hs hn hk hLR hLS
    · by_cases h20 : names.length ≤ 20
      · by_cases h0 : allE s repo = 0
        · exact sh_y A A2 A3 A4 c c2 c3 c4 repo s names pick w hl hs hn hk hLR hLS h20 h0
        · exact sh_n A A2 A3 A4 c c2 c3 c4 repo s names pick w hl hs hn hk hLR hLS h20 h0
      · exact sh_h3 A A2 A3 A4 c c2 c3 c4 repo s names pick w hl hs hn hk hLR hLS (by omega)
end Go.Proofs.YtflmocamfedbdaaGreatDoor
