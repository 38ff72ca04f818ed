/- The contracts of the reference's all and All (steps). -/
import Derived.Test.YtaicidbopgnmfaaGreatDoorDqF
import Derived.Test.YtaicidbopgnmfaaGreatDoorDg
import Derived.Deep.RegionLaw
import Derived.Deep.DrawnRows
import Derived.Deep.RegionHeld3
namespace Go.Proofs.YtaicidbopgnmfaaGreatDoor
set_option linter.unusedSimpArgs false
set_option linter.unusedVariables false
open Go.RowKit
attribute [local go_sem ↓] Go.wp_at_zero Go.wp_at_succ
attribute [local irreducible] wpQuiet
theorem ix3_0 (W : World) (a b c : Value) : (Instr.index 143 (.agg #[a, b, c]) (.int .i64 0)).run Tryz.prog W = .ok a W := by kernel_rfl
theorem ix3_1 (W : World) (a b c : Value) : (Instr.index 143 (.agg #[a, b, c]) (.int .i64 1)).run Tryz.prog W = .ok b W := by kernel_rfl
theorem ix3_2 (W : World) (a b c : Value) : (Instr.index 143 (.agg #[a, b, c]) (.int .i64 2)).run Tryz.prog W = .ok c W := by kernel_rfl
theorem insF_at {y : Stp} : ∀ {l : List Stp} {j : Nat}, (∀ x ∈ l.take j, stLt x y = true) → (l.length ≤ j ∨ ∃ x, l[j]? = some x ∧ stLt x y = false) → insF l y = l.take j ++ y :: l.drop j
  | [], j, _, _ => by simp [insF]
  | x :: l, 0, _, h2 => by
    rcases h2 with h2 | ⟨z, hz, h2⟩
    · simp at h2
    · simp at hz
      subst hz
      simp [insF, h2]
  | x :: l, j + 1, h1, h2 => by
    have hx : stLt x y = true := h1 x (by simp)
    have ih := @insF_at y l j (fun z hz => h1 z (by simp [hz])) (by
      rcases h2 with h2 | ⟨z, hz, h2⟩
      · exact .inl (by simpa using h2)
      · exact .inr ⟨z, by simpa using hz, h2⟩)
    unfold insF
    rw [if_pos hx, ih]
    rfl
theorem allF_mem {s : List Ent} {fr : List Pkg} {l : List Stp} {x : Stp} (h : x ∈ allF s fr l) : x ∈ l ∧ doneB s fr x = true := by
  rw [allF_srt, mem_srt, List.mem_filter] at h
  exact h
theorem Stps.of_own {W : World} {B : Nat} {v : Value} {l : List Stp} (h : Own W B 24 3 RStp v l) (hz : l.length ≤ 1000) : ∃ A c, v = .slice A l.length c ∧ Stps W A c l ∧ ((A = none ∧ c = 0 ∧ l = []) ∨ ∃ g, A = some ⟨g, 0, none⟩) := by
  have hf := own_form h
  obtain ⟨A, c, h1, h2⟩ := h.slc (z := 40) (by omega)
  refine ⟨A, c, h1, h2, ?_⟩
  rcases hf with ⟨hf, hl⟩ | ⟨g, cap, hf⟩
  · rw [hf] at h1
    injection h1 with h1 h3 h4
    exact .inl ⟨h1.symm, h4.symm, hl⟩
  · rw [hf] at h1
    injection h1 with h1 h3 h4
    exact .inr ⟨g, h1.symm⟩
theorem stp_oneR : ∀ cs y, RStp cs y → ∀ u ∈ cs, u.oneCell' = true := fun cs y h u hu => by
  subst h
  exact stp_one _ _ _ u hu
set_option maxRecDepth 100000 in
set_option maxHeartbeats 8000000 in
theorem rall_any (s : List Ent) (A : Option Addr) (c : Nat) (fr : List Pkg) (A' : Option Addr) (c' : Nat) (w : World) (hs : Ents w A c s) (hf : Pkgs w A' c' fr) (hx : ∀ x ∈ s, fewD x.pkg) (hp : ∀ p ∈ fr, fewD p) (hsl : s.length ≤ 26) (hfl : fr.length ≤ 26) (h1 : mayEntsE s = 0) (h2 : mayAllE fr = 0) :
    Calls Tryz.prog 66 #[.slice A s.length c, .slice A' fr.length c'] w (RetSt w (allS s fr)) := by
  have HS := Lib.hid hs
  have HF := Lib.hid hf
  have HFX := Lib.hid hx
  have HP := Lib.hid hp
  have HM1 := Lib.hid h1
  have HM2 := Lib.hid h2
  have hbs := hs.bd
  have hbf := hf.bd
  clear hs hf hx hp h1 h2
  obtain ⟨G, hG⟩ : ∃ G, G = allS s fr := ⟨_, rfl⟩
  rw [← hG]
  have HG := Lib.hid hG
  clear hG
  go_enter Tryz.func66, Tryz.ntmps66
  go_wp2
  go_loopw [5, 20] (fun v i wr => ∃ (k : Nat) (L : List Stp), k ≤ s.length ∧ i = .int .i64 k ∧ L = (s.take k).flatMap may3 ∧ Own wr w.heap.size 24 3 RStp v L ∧ Below w.heap.size w wr) (fun _ i _ => s.length - (intOf i).toNat)
  case atStart => exact ⟨0, [], Nat.zero_le _, rfl, rfl, Own.nil_ _ _ _ _ _, Below.refl _ _⟩
  case round =>
    obtain ⟨k, L, hk, rfl, hL, ho, hb⟩ := hrel
    have HLE := Lib.hid hL
    have HO := Lib.hid ho
    have HB := Lib.hid hb
    clear ho hb
    by_cases hlt : k < s.length
    · obtain ⟨q, b, o, r, hq, rfl, hr, e0, e1, e2, e3, e4, e5, e6, e7, e8, e9, e10⟩ := HS.out.at_ hlt (Kept.of_below HB.out)
      have HQ := Lib.hid hq
      have HLN := Lib.hid (show L.length ≤ 78 by rw [hL, may3_len, List.length_take]; omega)
      clear hq hr hL
      go_wp2_with fail
      clear e0 e1 e2 e3 e4 e5 e6 e7 e8 e9 e10
      have K1 := Lib.hid (blk_new1 wr 45 #[.string (bs (q).pkg.name), .string (bs (q).pkg.ver), .slice (r).a1 (q).pkg.pre.length (r).c1, .slice (r).a2 (q).pkg.dep.length (r).c2, .slice (r).a3 (q).pkg.rcm.length (r).c3, .slice (r).a4 (q).pkg.con.length (r).c4, .slice (r).a5 (q).pkg.brk.length (r).c5, .slice (r).a6 (q).pkg.prv.length (r).c6, .bool (q).pkg.ess, .bool (q).conf, .bool (q).hold])
      have HB1 := Lib.hid (below_alloc HB.out (.cells #[.string (bs (q).pkg.name), .string (bs (q).pkg.ver), .slice (r).a1 (q).pkg.pre.length (r).c1, .slice (r).a2 (q).pkg.dep.length (r).c2, .slice (r).a3 (q).pkg.rcm.length (r).c3, .slice (r).a4 (q).pkg.con.length (r).c4, .slice (r).a5 (q).pkg.brk.length (r).c5, .slice (r).a6 (q).pkg.prv.length (r).c6, .bool (q).pkg.ess, .bool (q).conf, .bool (q).hold] 45))
      have HO1 := Lib.hid (HO.out.alloc (.cells #[.string (bs (q).pkg.name), .string (bs (q).pkg.ver), .slice (r).a1 (q).pkg.pre.length (r).c1, .slice (r).a2 (q).pkg.dep.length (r).c2, .slice (r).a3 (q).pkg.rcm.length (r).c3, .slice (r).a4 (q).pkg.con.length (r).c4, .slice (r).a5 (q).pkg.brk.length (r).c5, .slice (r).a6 (q).pkg.prv.length (r).c6, .bool (q).pkg.ess, .bool (q).conf, .bool (q).hold] 45))
      generalize wr.alloc (.cells #[.string (bs (q).pkg.name), .string (bs (q).pkg.ver), .slice (r).a1 (q).pkg.pre.length (r).c1, .slice (r).a2 (q).pkg.dep.length (r).c2, .slice (r).a3 (q).pkg.rcm.length (r).c3, .slice (r).a4 (q).pkg.con.length (r).c4, .slice (r).a5 (q).pkg.brk.length (r).c5, .slice (r).a6 (q).pkg.prv.length (r).c6, .bool (q).pkg.ess, .bool (q).conf, .bool (q).hold] 45) = W at K1 HB1 HO1 ⊢
      clear HO HB
      go_loopw [5, 25] (fun v i w2 => ∃ (j : Nat) (M : List Stp), j ≤ 3 ∧ i = .int .i64 j ∧ M = L ++ (may3 q).take j ∧ Own w2 w.heap.size 24 3 RStp v M ∧ Blk w2 wr.heap.size 45 #[.string (bs (q).pkg.name), .string (bs (q).pkg.ver), .slice (r).a1 (q).pkg.pre.length (r).c1, .slice (r).a2 (q).pkg.dep.length (r).c2, .slice (r).a3 (q).pkg.rcm.length (r).c3, .slice (r).a4 (q).pkg.con.length (r).c4, .slice (r).a5 (q).pkg.brk.length (r).c5, .slice (r).a6 (q).pkg.prv.length (r).c6, .bool (q).pkg.ess, .bool (q).conf, .bool (q).hold] ∧ Below w.heap.size w w2) (fun _ i _ => 3 - (intOf i).toNat)
      case atStart => exact ⟨0, L, Nat.zero_le _, rfl, by rw [List.take_zero, List.append_nil], HO1.out, K1.out, HB1.out⟩
      case round =>
        clear HO1 K1 HB1
        obtain ⟨j, M, hj, rfl, hM, ho, k1, hb⟩ := hrel
        have HLL := Lib.hid (show M.length ≤ 81 by have := HLN.out; rw [hM, List.length_append, List.length_take]; omega)
        have HME := Lib.hid hM
        clear hM
        have HO := Lib.hid ho
        have K1 := Lib.hid k1
        have HB := Lib.hid hb
        clear ho k1 hb
        obtain ⟨f0, f1, f2, f3, f4, f5, f6, f7, f8, f9, f10⟩ := blk11 K1.out
        clear f1 f2 f3 f4 f5 f6 f7 f8 f9 f10
        obtain rfl | rfl | rfl | rfl : j = 0 ∨ j = 1 ∨ j = 2 ∨ j = 3 := by omega
        · have hix := ix3_0
          go_wp2_with (at_builtin; refine wpList_append_el (by rfl) _ _ 34 (by rfl) w.heap.size 24 _ 3 40 Tryz.underlying34 infStA rfl (by omega) RStp _ _ (by rfl) (HO.out.alloc _) ⟨1, q.pkg.name, []⟩ [.int .i64 1, .string (bs q.pkg.name), .string (bs [])] _ 1 (by rfl) (blk_new1 _ _ _) rfl rfl (stp_one _ _ _) (by have := HLL.out; omega) (by omega) (by have := HB.out.size; simp; omega) ?_; intro g cap w4 ho4 hg4; have HO4 := Lib.hid ho4; have HB4 := Lib.hid ((HO.out.alloc _).below (below_alloc HB.out _) (by have := HB.out.size; simp; omega) hg4); have K14 := Lib.hid ((HO.out.alloc _).blk (K1.out.alloc _) (by decide) hg4); clear ho4 hg4)
          go_roundw
          case rel => exact ⟨0 + 1, _, by omega, rfl, by rw [HME.out, List.append_assoc]; rfl, HO4.out, K14.out, HB4.out⟩
          case measure => (try simp only [intOf]); omega
        · have hix := ix3_1
          go_wp2_with (at_builtin; refine wpList_append_el (by rfl) _ _ 34 (by rfl) w.heap.size 24 _ 3 40 Tryz.underlying34 infStA rfl (by omega) RStp _ _ (by rfl) (HO.out.alloc _) ⟨2, q.pkg.name, []⟩ [.int .i64 2, .string (bs q.pkg.name), .string (bs [])] _ 1 (by rfl) (blk_new1 _ _ _) rfl rfl (stp_one _ _ _) (by have := HLL.out; omega) (by omega) (by have := HB.out.size; simp; omega) ?_; intro g cap w4 ho4 hg4; have HO4 := Lib.hid ho4; have HB4 := Lib.hid ((HO.out.alloc _).below (below_alloc HB.out _) (by have := HB.out.size; simp; omega) hg4); have K14 := Lib.hid ((HO.out.alloc _).blk (K1.out.alloc _) (by decide) hg4); clear ho4 hg4)
          go_roundw
          case rel => exact ⟨1 + 1, _, by omega, rfl, by rw [HME.out, List.append_assoc]; rfl, HO4.out, K14.out, HB4.out⟩
          case measure => (try simp only [intOf]); omega
        · have hix := ix3_2
          go_wp2_with (at_builtin; refine wpList_append_el (by rfl) _ _ 34 (by rfl) w.heap.size 24 _ 3 40 Tryz.underlying34 infStA rfl (by omega) RStp _ _ (by rfl) (HO.out.alloc _) ⟨4, q.pkg.name, []⟩ [.int .i64 4, .string (bs q.pkg.name), .string (bs [])] _ 1 (by rfl) (blk_new1 _ _ _) rfl rfl (stp_one _ _ _) (by have := HLL.out; omega) (by omega) (by have := HB.out.size; simp; omega) ?_; intro g cap w4 ho4 hg4; have HO4 := Lib.hid ho4; have HB4 := Lib.hid ((HO.out.alloc _).below (below_alloc HB.out _) (by have := HB.out.size; simp; omega) hg4); have K14 := Lib.hid ((HO.out.alloc _).blk (K1.out.alloc _) (by decide) hg4); clear ho4 hg4)
          go_roundw
          case rel => exact ⟨2 + 1, _, by omega, rfl, by rw [HME.out, List.append_assoc]; rfl, HO4.out, K14.out, HB4.out⟩
          case measure => (try simp only [intOf]); omega
        · go_wp2
          go_roundw
          case rel => exact ⟨k + 1, M, by omega, by simp, by rw [HME.out, may3_step HQ.out, ← HLE.out]; rfl, HO.out, HB.out⟩
          case measure => (try simp only [intOf]); omega
    · rw [take_end hk hlt] at hL
      have HLE := Lib.hid hL
      have hLl : L.length ≤ 78 := by rw [hL, may3_len]; omega
      clear hL
      go_wp2
      go_loopw [5, 40] (fun v i wr => ∃ (k : Nat) (M : List Stp), k ≤ fr.length ∧ i = .int .i64 k ∧ (M = L ++ (fr.take k).map fun p => ⟨3, p.name, p.ver⟩) ∧ Own wr w.heap.size 24 3 RStp v M ∧ Below w.heap.size w wr) (fun _ i _ => fr.length - (intOf i).toNat)
      case atStart => exact ⟨0, L, Nat.zero_le _, rfl, by rw [List.take_zero, List.map_nil, List.append_nil], HO.out, HB.out⟩
      case round =>
        clear HO HB hk hlt
        obtain ⟨k, M, hk, rfl, hM, ho, hb⟩ := hrel
        have HME := Lib.hid hM
        have HO := Lib.hid ho
        have HB := Lib.hid hb
        clear ho hb
        by_cases hlt : k < fr.length
        · obtain ⟨q, b, o, r, hq, rfl, hr, e0, e1, e2, e3, e4, e5, e6, e7, e8⟩ := HF.out.at_ hlt (Kept.of_below HB.out)
          have HQ := Lib.hid hq
          have HLL := Lib.hid (show M.length ≤ 120 by rw [hM, List.length_append, List.length_map, List.length_take]; omega)
          clear hq hr hM
          go_wp2_with (at_builtin; refine wpList_append_el (by rfl) _ _ 34 (by rfl) w.heap.size 24 _ 3 40 Tryz.underlying34 infStA rfl (by omega) RStp _ _ (by rfl) ((HO.out.alloc _).alloc _) ⟨3, q.name, q.ver⟩ [.int .i64 3, .string (bs q.name), .string (bs q.ver)] _ 1 (by rfl) (by first | exact blk_new2 _ _ _ _ | exact blk_new1 _ _ _) rfl rfl (stp_one _ _ _) (by have := HLL.out; omega) (by omega) (by have := HB.out.size; simp; omega) ?_; intro g cap w4 ho4 hg4; have HO4 := Lib.hid ho4; have HB4 := Lib.hid (((HO.out.alloc _).alloc _).below (below_alloc (below_alloc HB.out _) _) (by have := HB.out.size; simp; omega) hg4); clear ho4 hg4)
          go_roundw
          case rel => exact ⟨k + 1, _, by omega, by simp, by rw [HME.out, take_step HQ.out, List.map_append, List.append_assoc]; rfl, HO4.out, HB4.out⟩
          case measure => (try simp only [intOf]); omega
        · have ho := HO.out
          rw [take_end hk hlt, HLE.out] at hM
          have hM2 : M = mayL s fr := hM
          clear hM
          subst hM2
          have hml : (mayL s fr).length ≤ 104 := by rw [mayL_len]; omega
          obtain ⟨A2, c2, rfl, h2⟩ := ho.slc (z := 40) (by omega)
          have HL := Lib.hid (show Stps wr A2 c2 (mayL s fr) from h2)
          have HGD := Lib.hid (fun (st : Stp) (hm : st ∈ mayL s fr) (hd : doneB s fr st = true) => done_good hm hd)
          have HGA := Lib.hid (show G = allF s fr (mayL s fr) by rw [HG.out, allF_srt]; rfl)
          clear ho h2 HO HME
          obtain ⟨w1, hw1⟩ : ∃ w1 : World, w1 = wr := ⟨_, rfl⟩
          subst hw1
          obtain ⟨l, hl⟩ : ∃ l, l = mayL s fr := ⟨_, rfl⟩
          rw [← hl] at HL HGD HGA hml ⊢
          clear hl
          have hbl := Slc.bd HL.out
          go_wp2_with fail
          clear hk hlt
          go_loopw [12, 55] (fun v i wr => ∃ (k : Nat) (u : List Stp), k ≤ l.length ∧ i = .int .i64 k ∧ u = allF s fr (l.take k) ∧ Below w1.heap.size w1 wr ∧ Own wr w1.heap.size 24 3 RStp v u) (fun _ i _ => l.length - (intOf i).toNat)
          case atStart => exact ⟨0, [], Nat.zero_le _, rfl, rfl, Below.refl _ _, Own.nil_ _ _ _ _ _⟩
          case round =>
            obtain ⟨k, u, hk, rfl, hu, hb, ho⟩ := hrel
            have HU := Lib.hid hu
            have HBw := Lib.hid hb
            have HO := Lib.hid ho
            have hul : u.length ≤ 104 := by rw [hu, allF_srt, srt_len]; exact Nat.le_trans (List.length_filter_le ..) (by rw [List.length_take]; omega)
            have HGU := Lib.hid (show ∀ x ∈ u, goodS x from fun x hx => by
              rw [hu] at hx
              obtain ⟨hx1, hx2⟩ := allF_mem hx
              exact HGD.out x (List.mem_of_mem_take hx1) hx2)
            clear hu hb ho
            by_cases hlt : k < l.length
            · obtain ⟨⟨kd, nm, vr⟩, b2, o2, hst, rfl, e0, e1, e2⟩ := HL.out.at_ hlt (Kept.of_below HBw.out)
              have HST := Lib.hid hst
              have HGK := Lib.hid (HGD.out _ (List.mem_of_getElem? hst))
              have HAS := Lib.hid (show allF s fr (l.take (k + 1)) = if doneB s fr ⟨kd, nm, vr⟩ then insF (allF s fr (l.take k)) ⟨kd, nm, vr⟩ else allF s fr (l.take k) by rw [take_step hst, allF_snoc])
              dsimp only at e0 e1 e2
              clear hst
              go_wp2_with fail
              clear e0 e1 e2
              have HB1 := Lib.hid (below_alloc HBw.out (.cells #[.int .i64 kd, .string (bs nm), .string (bs vr)] 24))
              have HBB := Lib.hid (below_next HB.out HB1.out)
              have HQ := Lib.hid (rdo_any s A c kd nm vr fr A' c' _ (HS.out.kept (Kept.of_below HBB.out)) (HF.out.kept (Kept.of_below HBB.out)) HFX.out HP.out (ents_zero HM1.out).1 (ents_up HM1.out))
              rw [← do_do0 (st := ⟨kd, nm, vr⟩) HM1.out HM2.out] at HQ
              refine HQ.out.mono ?_
              rintro e W ⟨B3, d3, rfl, he3, hb3⟩
              have HO1 := Lib.hid ((HO.out.alloc (.cells #[.int .i64 kd, .string (bs nm), .string (bs vr)] 24)).next hb3)
              have K1 := Lib.hid ((blk_new1 wr 24 #[.int .i64 kd, .string (bs nm), .string (bs vr)]).next hb3)
              have HB1 := Lib.hid (below_next HB1.out hb3)
              clear he3 hb3 HQ HBB HO
              obtain ⟨er, her⟩ : ∃ er, er = (doS s ⟨kd, nm, vr⟩ fr).2 := ⟨_, rfl⟩
              obtain ⟨un, hun⟩ : ∃ un, un = (doS s ⟨kd, nm, vr⟩ fr).1 := ⟨_, rfl⟩
              rw [← her, ← hun]
              clear hun
              by_cases h0 : er = 0
              · subst h0
                have hdn : doneB s fr ⟨kd, nm, vr⟩ = true := decide_eq_true her.symm
                have HGG := Lib.hid (HGK.out hdn)
                have HAS := Lib.hid (HAS.out.trans (if_pos hdn))
                clear her hdn
                obtain ⟨A3, c3, rfl, hps, hA2⟩ := Stps.of_own HO1.out (by omega)
                have HA2 := Lib.hid hA2
                clear hA2
                have hbd2 := Slc.bd hps
                have HPS := Lib.hid hps
                clear hps
                generalize wr.heap.size = g at K1 ⊢
                go_wp2
                go_loopw [17] (fun i wr => ∃ j : Nat, j ≤ u.length ∧ i = .int .i64 j ∧ (∀ x ∈ u.take j, stLt x ⟨kd, nm, vr⟩ = true) ∧ Below W.heap.size W wr) (fun i _ => u.length - (intOf i).toNat)
                case atStart => exact ⟨0, Nat.zero_le _, rfl, fun x hx => by simp at hx, Below.refl _ _⟩
                case round =>
                  obtain ⟨j, hj, rfl, hjl, hb⟩ := hrel
                  obtain ⟨wi, rfl⟩ : ∃ wi : World, wi = wr := ⟨_, rfl⟩
                  have HBi := Lib.hid hb
                  have HJ := Lib.hid hjl
                  have c0 : wi.cell? ⟨g, 0, none⟩ = some (.int .i64 kd) := (K1.out.next hb).cell 0
                  have c1 : wi.cell? ⟨g, 1, none⟩ = some (.string (bs nm)) := (K1.out.next hb).cell 1
                  have c2' : wi.cell? ⟨g, 2, none⟩ = some (.string (bs vr)) := (K1.out.next hb).cell 2
                  clear hb hjl
                  have q0 := fun p : Be wi => Be.cell c0 p
                  have q1 := fun p : Be wi => Be.cell c1 p
                  have q2 := fun p : Be wi => Be.cell c2' p
                  clear c0 c1 c2'
                  by_cases hjk : j < u.length
                  · obtain ⟨⟨xk, xn, xv⟩, b', o', hx, rfl, f0, f1, f2⟩ := HPS.out.at_ hjk (Kept.of_below HBi.out)
                    dsimp only at f0 f1 f2
                    have HX := Lib.hid hx
                    have HSL := Lib.hid (show stLt ⟨xk, xn, xv⟩ ⟨kd, nm, vr⟩ = decide (stK ⟨xk, xn, xv⟩ ⟨kd, nm, vr⟩ < 0) by rw [stK_good (HGU.out _ (List.mem_of_getElem? hx)) HGG.out]; rfl)
                    clear hx
                    have u0 := fun p : Be wi => Be.cell f0 p
                    have u1 := fun p : Be wi => Be.cell f1 p
                    have u2 := fun p : Be wi => Be.cell f2 p
                    clear f0 f1 f2
                    have hj0 : (0 : Int) ≤ (j : Int) := Int.natCast_nonneg _
                    have hj1 : (j : Int) < (u.length : Int) := by omega
                    have hjd : decide ((j : Int) < (u.length : Int)) = true := decide_eq_true hj1
                    rcases hcv : decide (stK ⟨xk, xn, xv⟩ ⟨kd, nm, vr⟩ < 0)
                    · have HCV := Lib.hid hcv
                      have HEX := Lib.hid (show u.length ≤ j ∨ ∃ x, u[j]? = some x ∧ stLt x ⟨kd, nm, vr⟩ = false from .inr ⟨_, HX.out, HSL.out.trans hcv⟩)
                      clear hcv
                      go_wp2_with fail
                      refine region_be (by kernel_rfl) (by kernel_rfl) ?_
                      repeat (quiet_step (first | (go_at_call 38; with_reducible exact Calls.be_of ((rless_any _ _ _ _ _ _ _).mono fun _ _ h => ⟨h.1.trans (congrArg (fun b => Ending.returned (Value.bool b)) HCV.out), h.2⟩))))
                      refine wpQuiet_nil ?_
                      intro _ hw'
                      obtain ⟨pb, hw''⟩ := hw'
                      subst hw''
                      obtain ⟨W2, hbw⟩ := pb
                      dsimp only
                      clear q0 q1 q2 u0 u1 u2
                      have hj7 : (j : Int) ≤ (c3 : Int) := by omega
                      have hj8 : ¬ c3 = j := by omega
                      have HIN := Lib.hid (insF_at HJ.out HEX.out)
                      have HB2 := Lib.hid (below_next HB1.out (below_next HBi.out hbw))
                      have HO2 := Lib.hid (HO1.out.next (below_next HBi.out hbw))
                      have K2 := Lib.hid (K1.out.next (below_next HBi.out hbw))
                      clear hbw
                      have htk : (u.take j).length = j := by rw [List.length_take]; omega
                      have HTK := Lib.hid htk
                      have HTD := Lib.hid (show (u.drop j).length = (u.length - j) by have h := List.length_drop (i := j) (l := u); omega)
                      have HBy1 := Lib.hid (show (([] : List Stp).length + (u.take j).length) * 40 ≤ 140737488355328 by simp; omega)
                      have HBy2 := Lib.hid (show ((u.take j).length + 1) * 40 ≤ 140737488355328 by omega)
                      have HBy3 := Lib.hid (show ((u.take j ++ [(⟨kd, nm, vr⟩ : Stp)]).length + (u.drop j).length) * 40 ≤ 140737488355328 by rw [List.length_append, List.length_drop, htk]; simp; omega)
                      clear htk
                      have HSW := Lib.hid (Own.slcOf (z := 40) HO2.out (by omega))
                      have HS1 := Lib.hid (show Slc W2 3 40 RStp (some ⟨b', o', none⟩) c3 (u.take j) from (Slc.take HSW.out j))
                      have HS2 := Lib.hid (show Slc W2 3 40 RStp (some ⟨b', o' + j * 3, none⟩) (c3 - j) (u.drop j) from (Slc.drop HSW.out j (by omega)))
                      have hjt : ((j : Int)).toNat = j := Int.toNat_natCast _
                      have hj5 : (0 : Int) ≤ (j : Int) := Int.natCast_nonneg _
                      have hj6 : (j : Int) ≤ (u.length : Int) := by omega
                      go_wp2_with fail
                      have a0 := fun (w2 : World) (h : Hid (Below W2.heap.size W2 w2)) => show w2.cell? ⟨g, 0, none⟩ = some (.int .i64 kd) from (K2.out.next h.out).cell 0
                      have a1 := fun (w2 : World) (h : Hid (Below W2.heap.size W2 w2)) => show w2.cell? ⟨g, 1, none⟩ = some (.string (bs nm)) from (K2.out.next h.out).cell 1
                      have a2 := fun (w2 : World) (h : Hid (Below W2.heap.size W2 w2)) => show w2.cell? ⟨g, 2, none⟩ = some (.string (bs vr)) from (K2.out.next h.out).cell 2
                      go_region_held3 (fun w' => Hid (Below W2.heap.size W2 w')) (first | with_reducible assumption | exact hbC | exact hbB | exact hbA | exact Lib.hid (below_drewN (Below.refl _ _) 1) | (have hh := (by assumption : Hid (Below W2.heap.size W2 _)); exact Lib.hid (below_alloc hh.out _)))
                        (first | (have hh := (by assumption : Hid (Below W2.heap.size W2 _)); refine step_append_all (by rfl) _ _ 34 (by rfl) W2.heap.size 24 _ 3 40 40 Tryz.underlying34 infStA rfl (by omega) RStp _ [] (by rfl) (Own.nil_ _ _ _ _ _) (some ⟨b', o', none⟩) c3 (u.take j) (by rw [HTK.out]; rfl) (Slc.mono HS1.out (Kept.of_below hh.out) fun _ _ h => h) stp_oneR HBy1.out (by omega) hh.out.size ?_; intro v1 y1 ho1 hg1; have hbA := Lib.hid ((Own.nil_ _ W2.heap.size 24 3 RStp).below hh.out hh.out.size hg1); rw [List.nil_append] at ho1) | (have hh := (by assumption : Hid (Below W2.heap.size W2 _)); refine step_append_el (by rfl) _ _ 34 (by rfl) W2.heap.size 24 _ 3 40 Tryz.underlying34 infStA rfl (by omega) RStp v1 (u.take j) (by rfl) (by first | exact ho1 | exact ho1.alloc _ | exact ho1.drew | exact (ho1.alloc _).drew | exact (ho1.drew).alloc _) ⟨kd, nm, vr⟩ [.int .i64 kd, .string (bs nm), .string (bs vr)] _ 1 (by rfl) (by first | exact Blk.new _ _ _ | exact blk_grown0 (blk_new1 W2 24 #[.int .i64 kd, .string (bs nm), .string (bs vr)]) hg1) rfl rfl (stp_one _ _ _) HBy2.out (by omega) hh.out.size ?_; intro g2 cap2 y2 ho2 hg2; (generalize hn2 : (u.take j).length + 1 = n2 at ho2 ⊢); clear hn2; have hbB := Lib.hid (show Below W2.heap.size W2 y2 from by first | exact (ho1.alloc _).below hh.out hh.out.size hg2 | exact ho1.below hh.out hh.out.size hg2)) | (have hh := (by assumption : Hid (Below W2.heap.size W2 _)); refine step_append_all (by rfl) _ _ 34 (by rfl) W2.heap.size 24 _ 3 40 40 Tryz.underlying34 infStA rfl (by omega) RStp _ (u.take j ++ [(⟨kd, nm, vr⟩ : Stp)]) (by rfl) ho2 (some ⟨b', o' + j * 3, none⟩) (c3 - j) (u.drop j) (by first | (rw [HTD.out]; rfl) | (rw [show (u.drop j).length = u.length - j from List.length_drop ..]; rfl)) (Slc.mono HS2.out (Kept.of_below hh.out) fun _ _ h => h) stp_oneR (by exact HBy3.out) (by omega) hh.out.size ?_; intro v3 y3 ho3 hg3; have hbC := Lib.hid (ho2.below hh.out hh.out.size hg3)))
                      clear a0 a1 a2
                      all_goals go_wp2_with fail
                      all_goals go_roundw
                      all_goals first
                        | (case rel => exact ⟨k + 1, u.take j ++ ⟨kd, nm, vr⟩ :: u.drop j, by omega, by simp, by rw [HAS.out, ← HU.out, HIN.out], below_next HB2.out hbC.out, (by have h := ho3.down HB2.out.size; rw [List.append_assoc] at h; exact h)⟩)
                        | (case measure => (try simp only [intOf]); omega)
                    · have HCV := Lib.hid hcv
                      have HLT := Lib.hid (HSL.out.trans hcv)
                      clear hcv
                      go_wp2_with fail
                      refine region_be (by kernel_rfl) (by kernel_rfl) ?_
                      repeat (quiet_step (first | (go_at_call 38; with_reducible exact Calls.be_of ((rless_any _ _ _ _ _ _ _).mono fun _ _ h => ⟨h.1.trans (congrArg (fun b => Ending.returned (Value.bool b)) HCV.out), h.2⟩))))
                      refine wpQuiet_nil ?_
                      intro _ hw'
                      obtain ⟨pb, hw''⟩ := hw'
                      subst hw''
                      obtain ⟨W2, hbw⟩ := pb
                      dsimp only
                      have HB2 := Lib.hid (below_next HBi.out hbw)
                      clear hbw
                      go_wp2
                      go_roundw
                      case rel => exact ⟨j + 1, by omega, by simp, fun z hz => (by
                        rw [take_step HX.out, List.mem_append, List.mem_singleton] at hz
                        rcases hz with hz | rfl
                        · exact HJ.out z hz
                        · exact HLT.out), HB2.out⟩
                      case measure => (try simp only [intOf]); omega
                  · have hjd : decide ((j : Int) < (u.length : Int)) = false := decide_eq_false (by omega)
                    have HEX := Lib.hid (show u.length ≤ j ∨ ∃ x, u[j]? = some x ∧ stLt x ⟨kd, nm, vr⟩ = false from .inl (by omega))
                    go_wp2_with fail
                    refine region_be (by kernel_rfl) (by kernel_rfl) ?_
                    repeat (quiet_step (first | (go_at_call 38; with_reducible exact Calls.be_of ((rless_any _ _ _ _ _ _ _).mono fun _ _ h => ⟨h.1.trans (congrArg (fun b => Ending.returned (Value.bool b)) HCV.out), h.2⟩))))
                    refine wpQuiet_nil ?_
                    intro _ hw'
                    obtain ⟨pb, hw''⟩ := hw'
                    subst hw''
                    obtain ⟨W2, hbw⟩ := pb
                    dsimp only
                    clear q0 q1 q2
                    by_cases hcj : c3 = j
                    · cases hcj
                      obtain ⟨j, rfl⟩ : ∃ j' : Nat, j' = c3 := ⟨_, rfl⟩
                      have hj7 : (j : Int) ≤ (j : Int) := by omega
                      rcases A3 with _ | ad
                      · have HIN := Lib.hid (insF_at HJ.out HEX.out)
                        have HB2 := Lib.hid (below_next HB1.out (below_next HBi.out hbw))
                        have HO2 := Lib.hid (HO1.out.next (below_next HBi.out hbw))
                        have K2 := Lib.hid (K1.out.next (below_next HBi.out hbw))
                        clear hbw
                        have htk : (u.take j).length = j := by rw [List.length_take]; omega
                        have HTK := Lib.hid htk
                        have HTD := Lib.hid (show (u.drop j).length = 0 by have h := List.length_drop (i := j) (l := u); omega)
                        have HBy1 := Lib.hid (show (([] : List Stp).length + (u.take j).length) * 40 ≤ 140737488355328 by simp; omega)
                        have HBy2 := Lib.hid (show ((u.take j).length + 1) * 40 ≤ 140737488355328 by omega)
                        have HBy3 := Lib.hid (show ((u.take j ++ [(⟨kd, nm, vr⟩ : Stp)]).length + (u.drop j).length) * 40 ≤ 140737488355328 by rw [List.length_append, List.length_drop, htk]; simp; omega)
                        clear htk
                        have HSW := Lib.hid (Own.slcOf (z := 40) HO2.out (by omega))
                        have HS1 := Lib.hid (show Slc W2 3 40 RStp none j (u.take j) from (Slc.take HSW.out j))
                        have HS2 := Lib.hid (show Slc W2 3 40 RStp none 0 (u.drop j) from (Slc.dropEnd (by omega) (by omega)))
                        have hjt : ((j : Int)).toNat = j := Int.toNat_natCast _
                        have hj5 : (0 : Int) ≤ (j : Int) := Int.natCast_nonneg _
                        have hj6 : (j : Int) ≤ (u.length : Int) := by omega
                        go_wp2_with fail
                        have a0 := fun (w2 : World) (h : Hid (Below W2.heap.size W2 w2)) => show w2.cell? ⟨g, 0, none⟩ = some (.int .i64 kd) from (K2.out.next h.out).cell 0
                        have a1 := fun (w2 : World) (h : Hid (Below W2.heap.size W2 w2)) => show w2.cell? ⟨g, 1, none⟩ = some (.string (bs nm)) from (K2.out.next h.out).cell 1
                        have a2 := fun (w2 : World) (h : Hid (Below W2.heap.size W2 w2)) => show w2.cell? ⟨g, 2, none⟩ = some (.string (bs vr)) from (K2.out.next h.out).cell 2
                        go_region_held3 (fun w' => Hid (Below W2.heap.size W2 w')) (first | with_reducible assumption | exact hbC | exact hbB | exact hbA | exact Lib.hid (below_drewN (Below.refl _ _) 1) | (have hh := (by assumption : Hid (Below W2.heap.size W2 _)); exact Lib.hid (below_alloc hh.out _)))
                          (first | (have hh := (by assumption : Hid (Below W2.heap.size W2 _)); refine step_append_all (by rfl) _ _ 34 (by rfl) W2.heap.size 24 _ 3 40 40 Tryz.underlying34 infStA rfl (by omega) RStp _ [] (by rfl) (Own.nil_ _ _ _ _ _) none j (u.take j) (by rw [HTK.out]; rfl) (Slc.mono HS1.out (Kept.of_below hh.out) fun _ _ h => h) stp_oneR HBy1.out (by omega) hh.out.size ?_; intro v1 y1 ho1 hg1; have hbA := Lib.hid ((Own.nil_ _ W2.heap.size 24 3 RStp).below hh.out hh.out.size hg1); rw [List.nil_append] at ho1) | (have hh := (by assumption : Hid (Below W2.heap.size W2 _)); refine step_append_el (by rfl) _ _ 34 (by rfl) W2.heap.size 24 _ 3 40 Tryz.underlying34 infStA rfl (by omega) RStp v1 (u.take j) (by rfl) (by first | exact ho1 | exact ho1.alloc _ | exact ho1.drew | exact (ho1.alloc _).drew | exact (ho1.drew).alloc _) ⟨kd, nm, vr⟩ [.int .i64 kd, .string (bs nm), .string (bs vr)] _ 1 (by rfl) (by first | exact Blk.new _ _ _ | exact blk_grown0 (blk_new1 W2 24 #[.int .i64 kd, .string (bs nm), .string (bs vr)]) hg1) rfl rfl (stp_one _ _ _) HBy2.out (by omega) hh.out.size ?_; intro g2 cap2 y2 ho2 hg2; (generalize hn2 : (u.take j).length + 1 = n2 at ho2 ⊢); clear hn2; have hbB := Lib.hid (show Below W2.heap.size W2 y2 from by first | exact (ho1.alloc _).below hh.out hh.out.size hg2 | exact ho1.below hh.out hh.out.size hg2)) | (have hh := (by assumption : Hid (Below W2.heap.size W2 _)); refine step_append_all (by rfl) _ _ 34 (by rfl) W2.heap.size 24 _ 3 40 40 Tryz.underlying34 infStA rfl (by omega) RStp _ (u.take j ++ [(⟨kd, nm, vr⟩ : Stp)]) (by rfl) ho2 none 0 (u.drop j) (by first | (rw [HTD.out]; rfl) | (rw [show (u.drop j).length = u.length - j from List.length_drop ..]; rfl)) (Slc.mono HS2.out (Kept.of_below hh.out) fun _ _ h => h) stp_oneR (by exact HBy3.out) (by omega) hh.out.size ?_; intro v3 y3 ho3 hg3; have hbC := Lib.hid (ho2.below hh.out hh.out.size hg3)))
                        clear a0 a1 a2
                        all_goals go_wp2_with fail
                        all_goals go_roundw
                        all_goals first
                          | (case rel => exact ⟨k + 1, u.take j ++ ⟨kd, nm, vr⟩ :: u.drop j, by omega, by simp, by rw [HAS.out, ← HU.out, HIN.out], below_next HB2.out hbC.out, (by have h := ho3.down HB2.out.size; rw [List.append_assoc] at h; exact h)⟩)
                          | (case measure => (try simp only [intOf]); omega)
                      · have HIN := Lib.hid (insF_at HJ.out HEX.out)
                        have HB2 := Lib.hid (below_next HB1.out (below_next HBi.out hbw))
                        have HO2 := Lib.hid (HO1.out.next (below_next HBi.out hbw))
                        have K2 := Lib.hid (K1.out.next (below_next HBi.out hbw))
                        clear hbw
                        have htk : (u.take j).length = j := by rw [List.length_take]; omega
                        have HTK := Lib.hid htk
                        have HTD := Lib.hid (show (u.drop j).length = 0 by have h := List.length_drop (i := j) (l := u); omega)
                        have HBy1 := Lib.hid (show (([] : List Stp).length + (u.take j).length) * 40 ≤ 140737488355328 by simp; omega)
                        have HBy2 := Lib.hid (show ((u.take j).length + 1) * 40 ≤ 140737488355328 by omega)
                        have HBy3 := Lib.hid (show ((u.take j ++ [(⟨kd, nm, vr⟩ : Stp)]).length + (u.drop j).length) * 40 ≤ 140737488355328 by rw [List.length_append, List.length_drop, htk]; simp; omega)
                        clear htk
                        have HSW := Lib.hid (Own.slcOf (z := 40) HO2.out (by omega))
                        have HS1 := Lib.hid (show Slc W2 3 40 RStp (some ad) j (u.take j) from (Slc.take HSW.out j))
                        have HS2 := Lib.hid (show Slc W2 3 40 RStp (some ad) 0 (u.drop j) from (Slc.dropEnd (by omega) (by omega)))
                        have hjt : ((j : Int)).toNat = j := Int.toNat_natCast _
                        have hj5 : (0 : Int) ≤ (j : Int) := Int.natCast_nonneg _
                        have hj6 : (j : Int) ≤ (u.length : Int) := by omega
                        go_wp2_with fail
                        have a0 := fun (w2 : World) (h : Hid (Below W2.heap.size W2 w2)) => show w2.cell? ⟨g, 0, none⟩ = some (.int .i64 kd) from (K2.out.next h.out).cell 0
                        have a1 := fun (w2 : World) (h : Hid (Below W2.heap.size W2 w2)) => show w2.cell? ⟨g, 1, none⟩ = some (.string (bs nm)) from (K2.out.next h.out).cell 1
                        have a2 := fun (w2 : World) (h : Hid (Below W2.heap.size W2 w2)) => show w2.cell? ⟨g, 2, none⟩ = some (.string (bs vr)) from (K2.out.next h.out).cell 2
                        go_region_held3 (fun w' => Hid (Below W2.heap.size W2 w')) (first | with_reducible assumption | exact hbC | exact hbB | exact hbA | exact Lib.hid (below_drewN (Below.refl _ _) 1) | (have hh := (by assumption : Hid (Below W2.heap.size W2 _)); exact Lib.hid (below_alloc hh.out _)))
                          (first | (have hh := (by assumption : Hid (Below W2.heap.size W2 _)); refine step_append_all (by rfl) _ _ 34 (by rfl) W2.heap.size 24 _ 3 40 40 Tryz.underlying34 infStA rfl (by omega) RStp _ [] (by rfl) (Own.nil_ _ _ _ _ _) (some ad) j (u.take j) (by rw [HTK.out]; rfl) (Slc.mono HS1.out (Kept.of_below hh.out) fun _ _ h => h) stp_oneR HBy1.out (by omega) hh.out.size ?_; intro v1 y1 ho1 hg1; have hbA := Lib.hid ((Own.nil_ _ W2.heap.size 24 3 RStp).below hh.out hh.out.size hg1); rw [List.nil_append] at ho1) | (have hh := (by assumption : Hid (Below W2.heap.size W2 _)); refine step_append_el (by rfl) _ _ 34 (by rfl) W2.heap.size 24 _ 3 40 Tryz.underlying34 infStA rfl (by omega) RStp v1 (u.take j) (by rfl) (by first | exact ho1 | exact ho1.alloc _ | exact ho1.drew | exact (ho1.alloc _).drew | exact (ho1.drew).alloc _) ⟨kd, nm, vr⟩ [.int .i64 kd, .string (bs nm), .string (bs vr)] _ 1 (by rfl) (by first | exact Blk.new _ _ _ | exact blk_grown0 (blk_new1 W2 24 #[.int .i64 kd, .string (bs nm), .string (bs vr)]) hg1) rfl rfl (stp_one _ _ _) HBy2.out (by omega) hh.out.size ?_; intro g2 cap2 y2 ho2 hg2; (generalize hn2 : (u.take j).length + 1 = n2 at ho2 ⊢); clear hn2; have hbB := Lib.hid (show Below W2.heap.size W2 y2 from by first | exact (ho1.alloc _).below hh.out hh.out.size hg2 | exact ho1.below hh.out hh.out.size hg2)) | (have hh := (by assumption : Hid (Below W2.heap.size W2 _)); refine step_append_all (by rfl) _ _ 34 (by rfl) W2.heap.size 24 _ 3 40 40 Tryz.underlying34 infStA rfl (by omega) RStp _ (u.take j ++ [(⟨kd, nm, vr⟩ : Stp)]) (by rfl) ho2 (some ad) 0 (u.drop j) (by first | (rw [HTD.out]; rfl) | (rw [show (u.drop j).length = u.length - j from List.length_drop ..]; rfl)) (Slc.mono HS2.out (Kept.of_below hh.out) fun _ _ h => h) stp_oneR (by exact HBy3.out) (by omega) hh.out.size ?_; intro v3 y3 ho3 hg3; have hbC := Lib.hid (ho2.below hh.out hh.out.size hg3)))
                        clear a0 a1 a2
                        all_goals go_wp2_with fail
                        all_goals go_roundw
                        all_goals first
                          | (case rel => exact ⟨k + 1, u.take j ++ ⟨kd, nm, vr⟩ :: u.drop j, by omega, by simp, by rw [HAS.out, ← HU.out, HIN.out], below_next HB2.out hbC.out, (by have h := ho3.down HB2.out.size; rw [List.append_assoc] at h; exact h)⟩)
                          | (case measure => (try simp only [intOf]); omega)
                    · rcases HA2.out with ⟨hA0, hA1, hA3⟩ | ⟨g3, hA0⟩
                      · exact absurd (show c3 = j by subst hA3; simp at hj; omega) hcj
                      · subst hA0
                        have hj7 : (j : Int) ≤ (c3 : Int) := by omega
                        have hj8 : ¬ c3 = j := hcj
                        clear hcj
                        have HIN := Lib.hid (insF_at HJ.out HEX.out)
                        have HB2 := Lib.hid (below_next HB1.out (below_next HBi.out hbw))
                        have HO2 := Lib.hid (HO1.out.next (below_next HBi.out hbw))
                        have K2 := Lib.hid (K1.out.next (below_next HBi.out hbw))
                        clear hbw
                        have htk : (u.take j).length = j := by rw [List.length_take]; omega
                        have HTK := Lib.hid htk
                        have HTD := Lib.hid (show (u.drop j).length = 0 by have h := List.length_drop (i := j) (l := u); omega)
                        have HBy1 := Lib.hid (show (([] : List Stp).length + (u.take j).length) * 40 ≤ 140737488355328 by simp; omega)
                        have HBy2 := Lib.hid (show ((u.take j).length + 1) * 40 ≤ 140737488355328 by omega)
                        have HBy3 := Lib.hid (show ((u.take j ++ [(⟨kd, nm, vr⟩ : Stp)]).length + (u.drop j).length) * 40 ≤ 140737488355328 by rw [List.length_append, List.length_drop, htk]; simp; omega)
                        clear htk
                        have HSW := Lib.hid (Own.slcOf (z := 40) HO2.out (by omega))
                        have HS1 := Lib.hid (show Slc W2 3 40 RStp (some ⟨g3, 0, none⟩) c3 (u.take j) from (Slc.take HSW.out j))
                        have HS2 := Lib.hid (show Slc W2 3 40 RStp (some ⟨g3, j * 3, none⟩) (c3 - j) (u.drop j) from (Slc.drop0 HSW.out j (by omega)))
                        have hjt : ((j : Int)).toNat = j := Int.toNat_natCast _
                        have hj5 : (0 : Int) ≤ (j : Int) := Int.natCast_nonneg _
                        have hj6 : (j : Int) ≤ (u.length : Int) := by omega
                        go_wp2_with fail
                        have a0 := fun (w2 : World) (h : Hid (Below W2.heap.size W2 w2)) => show w2.cell? ⟨g, 0, none⟩ = some (.int .i64 kd) from (K2.out.next h.out).cell 0
                        have a1 := fun (w2 : World) (h : Hid (Below W2.heap.size W2 w2)) => show w2.cell? ⟨g, 1, none⟩ = some (.string (bs nm)) from (K2.out.next h.out).cell 1
                        have a2 := fun (w2 : World) (h : Hid (Below W2.heap.size W2 w2)) => show w2.cell? ⟨g, 2, none⟩ = some (.string (bs vr)) from (K2.out.next h.out).cell 2
                        go_region_held3 (fun w' => Hid (Below W2.heap.size W2 w')) (first | with_reducible assumption | exact hbC | exact hbB | exact hbA | exact Lib.hid (below_drewN (Below.refl _ _) 1) | (have hh := (by assumption : Hid (Below W2.heap.size W2 _)); exact Lib.hid (below_alloc hh.out _)))
                          (first | (have hh := (by assumption : Hid (Below W2.heap.size W2 _)); refine step_append_all (by rfl) _ _ 34 (by rfl) W2.heap.size 24 _ 3 40 40 Tryz.underlying34 infStA rfl (by omega) RStp _ [] (by rfl) (Own.nil_ _ _ _ _ _) (some ⟨g3, 0, none⟩) c3 (u.take j) (by rw [HTK.out]; rfl) (Slc.mono HS1.out (Kept.of_below hh.out) fun _ _ h => h) stp_oneR HBy1.out (by omega) hh.out.size ?_; intro v1 y1 ho1 hg1; have hbA := Lib.hid ((Own.nil_ _ W2.heap.size 24 3 RStp).below hh.out hh.out.size hg1); rw [List.nil_append] at ho1) | (have hh := (by assumption : Hid (Below W2.heap.size W2 _)); refine step_append_el (by rfl) _ _ 34 (by rfl) W2.heap.size 24 _ 3 40 Tryz.underlying34 infStA rfl (by omega) RStp v1 (u.take j) (by rfl) (by first | exact ho1 | exact ho1.alloc _ | exact ho1.drew | exact (ho1.alloc _).drew | exact (ho1.drew).alloc _) ⟨kd, nm, vr⟩ [.int .i64 kd, .string (bs nm), .string (bs vr)] _ 1 (by rfl) (by first | exact Blk.new _ _ _ | exact blk_grown0 (blk_new1 W2 24 #[.int .i64 kd, .string (bs nm), .string (bs vr)]) hg1) rfl rfl (stp_one _ _ _) HBy2.out (by omega) hh.out.size ?_; intro g2 cap2 y2 ho2 hg2; (generalize hn2 : (u.take j).length + 1 = n2 at ho2 ⊢); clear hn2; have hbB := Lib.hid (show Below W2.heap.size W2 y2 from by first | exact (ho1.alloc _).below hh.out hh.out.size hg2 | exact ho1.below hh.out hh.out.size hg2)) | (have hh := (by assumption : Hid (Below W2.heap.size W2 _)); refine step_append_all (by rfl) _ _ 34 (by rfl) W2.heap.size 24 _ 3 40 40 Tryz.underlying34 infStA rfl (by omega) RStp _ (u.take j ++ [(⟨kd, nm, vr⟩ : Stp)]) (by rfl) ho2 (some ⟨g3, j * 3, none⟩) (c3 - j) (u.drop j) (by first | (rw [HTD.out]; rfl) | (rw [show (u.drop j).length = u.length - j from List.length_drop ..]; rfl)) (Slc.mono HS2.out (Kept.of_below hh.out) fun _ _ h => h) stp_oneR (by exact HBy3.out) (by omega) hh.out.size ?_; intro v3 y3 ho3 hg3; have hbC := Lib.hid (ho2.below hh.out hh.out.size hg3)))
                        clear a0 a1 a2
                        all_goals go_wp2_with fail
                        all_goals go_roundw
                        all_goals first
                          | (case rel => exact ⟨k + 1, u.take j ++ ⟨kd, nm, vr⟩ :: u.drop j, by omega, by simp, by rw [HAS.out, ← HU.out, HIN.out], below_next HB2.out hbC.out, (by have h := ho3.down HB2.out.size; rw [List.append_assoc] at h; exact h)⟩)
                          | (case measure => (try simp only [intOf]); omega)
              · have hdn : doneB s fr ⟨kd, nm, vr⟩ = false := decide_eq_false (by rw [← her]; exact h0)
                have HAS := Lib.hid (HAS.out.trans (by rw [hdn]; rfl : _ = allF s fr (l.take k)))
                have hEb : (er != 0) = true := by rw [bne_iff_ne]; exact h0
                clear her hdn h0
                go_wp2
                go_roundw
                case rel => exact ⟨k + 1, u, by omega, by simp, by rw [HAS.out]; exact HU.out, HB1.out, HO1.out⟩
                case measure => (try simp only [intOf]); omega
            · have hu := HU.out
              rw [take_end hk hlt] at hu
              obtain ⟨A3, c3, rfl, hps, _⟩ := Stps.of_own HO.out (by omega)
              have HPS := Lib.hid hps
              have HGU := Lib.hid (show G = u by rw [HGA.out, hu])
              clear hps HO HU hu
              go_wp2
              go_ret
              exact ⟨A3, c3, by rw [HGU.out]; rfl, by rw [HGU.out]; exact HPS.out, below_next HB.out HBw.out⟩
set_option maxRecDepth 100000 in
set_option maxHeartbeats 1000000 in
theorem rAll_any (s : List Ent) (A : Option Addr) (c : Nat) (fr : List Pkg) (A' : Option Addr) (c' : Nat) (w : World) (hs : Ents w A c s) (hf : Pkgs w A' c' fr) (hx : ∀ x ∈ s, fewD x.pkg) (hp : ∀ p ∈ fr, fewD p) (hsl : s.length ≤ 26) (hfl : fr.length ≤ 26) :
    Calls Tryz.prog 30 #[.slice A s.length c, .slice A' fr.length c'] w (RetSt w (allS s fr)) := by
  have HS := Lib.hid hs
  have HF := Lib.hid hf
  have HX := Lib.hid hx
  have HP := Lib.hid hp
  have HRS := Lib.hid (fun x (h : x ∈ s) => (hx x h).r)
  have hbs := hs.bd
  clear hs hf hx hp
  obtain ⟨G, hG⟩ : ∃ G, G = allS s fr := ⟨_, rfl⟩
  rw [← hG]
  have HG := Lib.hid hG
  clear hG
  obtain ⟨E, hE⟩ : ∃ E, mayEntsE s = E := ⟨_, rfl⟩
  have HM := Lib.hid hE
  obtain ⟨F, hF⟩ : ∃ F, mayAllE fr = F := ⟨_, rfl⟩
  have HM2 := Lib.hid hF
  clear hE hF
  by_cases h1 : E = 0
  · subst h1
    by_cases h2 : F = 0
    · subst h2
      go_enter Tryz.func30, Tryz.ntmps30
      go_wp2_with fail
      refine (rents_any _ _ s _ HS.out HRS.out).mono ?_
      rintro e w1 ⟨rfl, hb1⟩
      rw [HM.out]
      have HB1 := Lib.hid hb1
      clear hb1
      go_wp2_with fail
      refine (rmayAll_any _ _ fr _ (HF.out.kept (Kept.of_below HB1.out))).mono ?_
      rintro e w2 ⟨rfl, hb2⟩
      rw [HM2.out]
      have HB2 := Lib.hid (below_next HB1.out hb2)
      clear hb2
      go_wp2_with fail
      have HQ := Lib.hid (rall_any s A c fr A' c' w2 (HS.out.kept (Kept.of_below HB2.out)) (HF.out.kept (Kept.of_below HB2.out)) HX.out HP.out hsl hfl HM.out HM2.out)
      rw [← HG.out] at HQ
      refine HQ.out.mono ?_
      rintro e w3 ⟨B3, d3, rfl, he3, hb3⟩
      have HE3 := Lib.hid he3
      have HB3 := Lib.hid (below_next HB2.out hb3)
      clear he3 hb3 HQ
      go_wp2
      go_ret
      exact ⟨B3, d3, rfl, HE3.out, HB3.out⟩
    · have HN := Lib.hid (show G = [] from HG.out.trans (all_none (.inr (by rw [HM2.out]; exact h2))))
      have hb : (F != 0) = true := by rw [bne_iff_ne]; exact h2
      clear h2
      go_enter Tryz.func30, Tryz.ntmps30
      go_wp2_with fail
      refine (rents_any _ _ s _ HS.out HRS.out).mono ?_
      rintro e w1 ⟨rfl, hb1⟩
      rw [HM.out]
      have HB1 := Lib.hid hb1
      clear hb1
      go_wp2_with fail
      refine (rmayAll_any _ _ fr _ (HF.out.kept (Kept.of_below HB1.out))).mono ?_
      rintro e w2 ⟨rfl, hb2⟩
      rw [HM2.out]
      have HB2 := Lib.hid (below_next HB1.out hb2)
      clear hb2
      go_wp2
      go_ret
      exact ⟨none, 0, by rw [HN.out]; rfl, by rw [HN.out]; exact Slc.nil_ (Nat.zero_le _), HB2.out⟩
  · have HN := Lib.hid (show G = [] from HG.out.trans (all_none (.inl (by rw [HM.out]; exact h1))))
    have hb : (E != 0) = true := by rw [bne_iff_ne]; exact h1
    clear h1
    go_enter Tryz.func30, Tryz.ntmps30
    go_wp2_with fail
    refine (rents_any _ _ s _ HS.out HRS.out).mono ?_
    rintro e w1 ⟨rfl, hb1⟩
    rw [HM.out]
    have HB1 := Lib.hid hb1
    clear hb1
    go_wp2
    go_ret
    exact ⟨none, 0, by rw [HN.out]; rfl, by rw [HN.out]; exact Slc.nil_ (Nat.zero_le _), HB1.out⟩
end Go.Proofs.YtaicidbopgnmfaaGreatDoor
