/- The contract of step.All. -/
import Derived.Test.YtaicidbopgnmfaaGreatDoorDqE
import Derived.Test.YtaicidbopgnmfaaGreatDoorZcB
namespace Go.Proofs.YtaicidbopgnmfaaGreatDoor
set_option linter.unusedSimpArgs false
set_option linter.unusedVariables false
open Go.RowKit
attribute [local go_sem ↓] Go.wp_at_zero Go.wp_at_succ
theorem infStA : (Tryz.prog.info? 24).map (fun i => (i.zero, i.size, i.bytes)) = some (some (.agg #[.int .i64 0, .string (bs []), .string (bs [])]), 3, 40) := by kernel_rfl
theorem stp_one (k : Int) (n v : List UInt8) : ∀ u ∈ [Value.int .i64 k, .string (bs n), .string (bs v)], u.oneCell' = true := by simp [Value.oneCell']
def ZG : Raw → Stp → Prop := fun _ st => goodS st
def raw0 : Raw := ⟨none, none, none, none, none, none, 0, 0, 0, 0, 0, 0⟩
theorem cmpZG : CmpOkS 65 ZG sgC := fun x y r s W hx hy => by
  have h := stcmp_any x.kind x.name x.ver y.kind y.name y.ver W
  rw [show sgK ⟨x.kind, x.name, x.ver⟩ ⟨y.kind, y.name, y.ver⟩ = sgC x y from sgK_good hx hy] at h
  exact h
theorem Stps.of_rks {w : World} {A : Option Addr} {c : Nat} {l : List Stp} (h : Slc w 3 40 (RKS ZG) A c l) : Stps w A c l := Slc.mono h (Kept.refl _) fun cs x ⟨_, e, _⟩ => e
def RetSt (w : World) (l : List Stp) (e : Ending) (w' : World) : Prop := ∃ B d, e = .returned (.slice B l.length d) ∧ Stps w' B d l ∧ Below w.heap.size w w'
set_option maxRecDepth 100000 in
set_option maxHeartbeats 4000000 in
theorem stepAll_any (s : List Ent) (A : Option Addr) (c : Nat) (fr : List Pkg) (A' : Option Addr) (c' : Nat) (w : World) (hs : Ents w A c s) (hf : Pkgs w A' c' fr) (hx : ∀ x ∈ s, fewD x.pkg) (hp : ∀ p ∈ fr, fewD p) (hsl : s.length ≤ 26) (hfl : fr.length ≤ 26) :
    Calls Tryz.prog 29 #[.slice A s.length c, .slice A' fr.length c'] w (RetSt w (allS s fr)) := by
  have HS := Lib.hid hs
  have HF := Lib.hid hf
  have HX := Lib.hid hx
  have HP := Lib.hid hp
  have hbs := hs.bd
  have hbf := hf.bd
  clear hs hf hx hp
  obtain ⟨G, hG⟩ : ∃ G, G = allS s fr := ⟨_, rfl⟩
  rw [← hG]
  have HG := Lib.hid hG
  clear hG
  go_enter Tryz.func29, Tryz.ntmps29
  go_wp2
  go_loopw [5, 19] (fun v i wr => ∃ (k : Nat) (L : List Stp), k ≤ s.length ∧ i = .int .i64 k ∧ L = (s.take k).flatMap may3 ∧ Own wr w.heap.size 24 3 RStp v L ∧ Below w.heap.size w wr) (fun _ i _ => s.length - (intOf i).toNat)
  case atStart => exact ⟨0, [], Nat.zero_le _, rfl, rfl, Own.nil_ _ _ _ _ _, Below.refl _ _⟩
  case round =>
    obtain ⟨k, L, hk, rfl, hL, ho, hb⟩ := hrel
    have HLE := Lib.hid hL
    have HO := Lib.hid ho
    have HB := Lib.hid hb
    clear ho hb
    by_cases hlt : k < s.length
    · obtain ⟨q, b, o, r, hq, rfl, hr, e0, e1, e2, e3, e4, e5, e6, e7, e8, e9, e10⟩ := HS.out.at_ hlt (Kept.of_below HB.out)
      have HQ := Lib.hid hq
      have HLN := Lib.hid (show L.length ≤ 78 by rw [hL, may3_len, List.length_take]; omega)
      clear hq hr hL
      go_wp2_with fail
      clear e0 e1 e2 e3 e4 e5 e6 e7 e8 e9 e10
      have K1 := Lib.hid (show Blk ((wr.alloc (.cells #[.string (bs (q).pkg.name), .string (bs (q).pkg.ver), .slice (r).a1 (q).pkg.pre.length (r).c1, .slice (r).a2 (q).pkg.dep.length (r).c2, .slice (r).a3 (q).pkg.rcm.length (r).c3, .slice (r).a4 (q).pkg.con.length (r).c4, .slice (r).a5 (q).pkg.brk.length (r).c5, .slice (r).a6 (q).pkg.prv.length (r).c6, .bool (q).pkg.ess, .bool (q).conf, .bool (q).hold] 45)).alloc (.cells #[.int .i64 1, .int .i64 2, .int .i64 4] 3)) wr.heap.size 45 #[.string (bs (q).pkg.name), .string (bs (q).pkg.ver), .slice (r).a1 (q).pkg.pre.length (r).c1, .slice (r).a2 (q).pkg.dep.length (r).c2, .slice (r).a3 (q).pkg.rcm.length (r).c3, .slice (r).a4 (q).pkg.con.length (r).c4, .slice (r).a5 (q).pkg.brk.length (r).c5, .slice (r).a6 (q).pkg.prv.length (r).c6, .bool (q).pkg.ess, .bool (q).conf, .bool (q).hold] from Blk.alloc (blk_new1 _ _ _) _)
      have K2 := Lib.hid (show Blk ((wr.alloc (.cells #[.string (bs (q).pkg.name), .string (bs (q).pkg.ver), .slice (r).a1 (q).pkg.pre.length (r).c1, .slice (r).a2 (q).pkg.dep.length (r).c2, .slice (r).a3 (q).pkg.rcm.length (r).c3, .slice (r).a4 (q).pkg.con.length (r).c4, .slice (r).a5 (q).pkg.brk.length (r).c5, .slice (r).a6 (q).pkg.prv.length (r).c6, .bool (q).pkg.ess, .bool (q).conf, .bool (q).hold] 45)).alloc (.cells #[.int .i64 1, .int .i64 2, .int .i64 4] 3)) (wr.heap.size + 1) 3 #[.int .i64 1, .int .i64 2, .int .i64 4] from blk_new2 _ _ _ _)
      have HB1 := Lib.hid (below_alloc (below_alloc HB.out (.cells #[.string (bs (q).pkg.name), .string (bs (q).pkg.ver), .slice (r).a1 (q).pkg.pre.length (r).c1, .slice (r).a2 (q).pkg.dep.length (r).c2, .slice (r).a3 (q).pkg.rcm.length (r).c3, .slice (r).a4 (q).pkg.con.length (r).c4, .slice (r).a5 (q).pkg.brk.length (r).c5, .slice (r).a6 (q).pkg.prv.length (r).c6, .bool (q).pkg.ess, .bool (q).conf, .bool (q).hold] 45)) (.cells #[.int .i64 1, .int .i64 2, .int .i64 4] 3))
      have HO1 := Lib.hid ((HO.out.alloc (.cells #[.string (bs (q).pkg.name), .string (bs (q).pkg.ver), .slice (r).a1 (q).pkg.pre.length (r).c1, .slice (r).a2 (q).pkg.dep.length (r).c2, .slice (r).a3 (q).pkg.rcm.length (r).c3, .slice (r).a4 (q).pkg.con.length (r).c4, .slice (r).a5 (q).pkg.brk.length (r).c5, .slice (r).a6 (q).pkg.prv.length (r).c6, .bool (q).pkg.ess, .bool (q).conf, .bool (q).hold] 45)).alloc (.cells #[.int .i64 1, .int .i64 2, .int .i64 4] 3))
      generalize (wr.alloc (.cells #[.string (bs (q).pkg.name), .string (bs (q).pkg.ver), .slice (r).a1 (q).pkg.pre.length (r).c1, .slice (r).a2 (q).pkg.dep.length (r).c2, .slice (r).a3 (q).pkg.rcm.length (r).c3, .slice (r).a4 (q).pkg.con.length (r).c4, .slice (r).a5 (q).pkg.brk.length (r).c5, .slice (r).a6 (q).pkg.prv.length (r).c6, .bool (q).pkg.ess, .bool (q).conf, .bool (q).hold] 45)).alloc (.cells #[.int .i64 1, .int .i64 2, .int .i64 4] 3) = W at K1 K2 HB1 HO1 ⊢
      clear HO HB
      go_loopw [5, 25] (fun v i w2 => ∃ (j : Nat) (M : List Stp), j ≤ 3 ∧ i = .int .i64 j ∧ M = L ++ (may3 q).take j ∧ Own w2 w.heap.size 24 3 RStp v M ∧ Blk w2 wr.heap.size 45 #[.string (bs (q).pkg.name), .string (bs (q).pkg.ver), .slice (r).a1 (q).pkg.pre.length (r).c1, .slice (r).a2 (q).pkg.dep.length (r).c2, .slice (r).a3 (q).pkg.rcm.length (r).c3, .slice (r).a4 (q).pkg.con.length (r).c4, .slice (r).a5 (q).pkg.brk.length (r).c5, .slice (r).a6 (q).pkg.prv.length (r).c6, .bool (q).pkg.ess, .bool (q).conf, .bool (q).hold] ∧ Blk w2 (wr.heap.size + 1) 3 #[.int .i64 1, .int .i64 2, .int .i64 4] ∧ Below w.heap.size w w2) (fun _ i _ => 3 - (intOf i).toNat)
      case atStart => exact ⟨0, L, Nat.zero_le _, rfl, by rw [List.take_zero, List.append_nil], HO1.out, K1.out, K2.out, HB1.out⟩
      case round =>
        clear HO1 K1 K2 HB1
        obtain ⟨j, M, hj, rfl, hM, ho, k1, k2, hb⟩ := hrel
        have HME := Lib.hid hM
        have HLL := Lib.hid (show M.length ≤ 81 by have := HLN.out; rw [hM, List.length_append, List.length_take]; omega)
        clear hM
        have HO := Lib.hid ho
        have K1 := Lib.hid k1
        have K2 := Lib.hid k2
        have HB := Lib.hid hb
        clear ho k1 k2 hb
        by_cases hj3 : j < 3
        · obtain ⟨K, hK, hKm⟩ : ∃ K : Int, (#[.int .i64 1, .int .i64 2, .int .i64 4] : Array Value)[j]? = some (.int .i64 K) ∧ (may3 q)[j]? = some ⟨K, q.pkg.name, []⟩ := by
            obtain rfl | rfl | rfl : j = 0 ∨ j = 1 ∨ j = 2 := by omega
            all_goals exact ⟨_, rfl, rfl⟩
          have ck := K2.out.cell j
          rw [hK] at ck
          have HKM := Lib.hid hKm
          clear hK hKm
          obtain ⟨f0, f1, f2, f3, f4, f5, f6, f7, f8, f9, f10⟩ := blk11 K1.out
          clear f1 f2 f3 f4 f5 f6 f7 f8 f9 f10
          go_wp2_with (at_builtin; refine wpList_append_el (by rfl) _ _ 34 (by rfl) w.heap.size 24 _ 3 40 Tryz.underlying34 infStA rfl (by omega) RStp _ _ (by rfl) (HO.out.alloc _) ⟨K, q.pkg.name, []⟩ [.int .i64 K, .string (bs q.pkg.name), .string (bs [])] _ 1 (by rfl) (blk_new1 _ _ _) rfl rfl (stp_one _ _ _) (by have := HLL.out; omega) (by omega) (by have := HB.out.size; simp; omega) ?_; intro g cap w4 ho4 hg4; have HO4 := Lib.hid ho4; have HB4 := Lib.hid ((HO.out.alloc _).below (below_alloc HB.out _) (by have := HB.out.size; simp; omega) hg4); have K14 := Lib.hid ((HO.out.alloc _).blk (K1.out.alloc _) (by decide) hg4); have K24 := Lib.hid ((HO.out.alloc _).blk (K2.out.alloc _) (by decide) hg4); clear ho4 hg4)
          go_roundw
          case rel => exact ⟨j + 1, _, by omega, by simp, by rw [HME.out, take_step HKM.out, List.append_assoc], HO4.out, K14.out, K24.out, HB4.out⟩
          case measure => (try simp only [intOf]); omega
        · obtain rfl : j = 3 := by omega
          go_wp2
          go_roundw
          case rel => exact ⟨k + 1, M, by omega, by simp, by rw [HME.out, may3_step HQ.out, ← HLE.out]; rfl, HO.out, HB.out⟩
          case measure => (try simp only [intOf]); omega
    · rw [take_end hk hlt] at hL
      have HLE := Lib.hid hL
      have hLl : L.length ≤ 78 := by rw [hL, may3_len]; omega
      clear hL
      go_wp2
      go_loopw [5, 41] (fun v i wr => ∃ (k : Nat) (M : List Stp), k ≤ fr.length ∧ i = .int .i64 k ∧ (M = L ++ (fr.take k).map fun p => ⟨3, p.name, p.ver⟩) ∧ Own wr w.heap.size 24 3 RStp v M ∧ Below w.heap.size w wr) (fun _ i _ => fr.length - (intOf i).toNat)
      case atStart => exact ⟨0, L, Nat.zero_le _, rfl, by rw [List.take_zero, List.map_nil, List.append_nil], HO.out, HB.out⟩
      case round =>
        clear HO HB hk hlt
        obtain ⟨k, M, hk, rfl, hM, ho, hb⟩ := hrel
        have HME := Lib.hid hM
        have HO := Lib.hid ho
        have HB := Lib.hid hb
        clear ho hb
        by_cases hlt : k < fr.length
        · obtain ⟨q, b, o, r, hq, rfl, hr, e0, e1, e2, e3, e4, e5, e6, e7, e8⟩ := HF.out.at_ hlt (Kept.of_below HB.out)
          have HQ := Lib.hid hq
          have HLL := Lib.hid (show M.length ≤ 120 by rw [hM, List.length_append, List.length_map, List.length_take]; omega)
          clear hq hr hM
          go_wp2_with (at_builtin; refine wpList_append_el (by rfl) _ _ 34 (by rfl) w.heap.size 24 _ 3 40 Tryz.underlying34 infStA rfl (by omega) RStp _ _ (by rfl) ((HO.out.alloc _).alloc _) ⟨3, q.name, q.ver⟩ [.int .i64 3, .string (bs q.name), .string (bs q.ver)] _ 1 (by rfl) (by first | exact blk_new2 _ _ _ _ | exact blk_new1 _ _ _) rfl rfl (stp_one _ _ _) (by have := HLL.out; omega) (by omega) (by have := HB.out.size; simp; omega) ?_; intro g cap w4 ho4 hg4; have HO4 := Lib.hid ho4; have HB4 := Lib.hid (((HO.out.alloc _).alloc _).below (below_alloc (below_alloc HB.out _) _) (by have := HB.out.size; simp; omega) hg4); clear ho4 hg4)
          go_roundw
          case rel => exact ⟨k + 1, _, by omega, by simp, by rw [HME.out, take_step HQ.out, List.map_append, List.append_assoc]; rfl, HO4.out, HB4.out⟩
          case measure => (try simp only [intOf]); omega
        · have ho := HO.out
          rw [take_end hk hlt, HLE.out] at hM
          have hM2 : M = mayL s fr := hM
          clear hM
          subst hM2
          have hml : (mayL s fr).length ≤ 104 := by rw [mayL_len]; omega
          obtain ⟨A2, c2, rfl, h2⟩ := ho.slc (z := 40) (by omega)
          have HL := Lib.hid (show Stps wr A2 c2 (mayL s fr) from h2)
          have HGD := Lib.hid (fun (st : Stp) (hm : st ∈ mayL s fr) (hd : doneB s fr st = true) => done_good hm hd)
          have HGA := Lib.hid (show srt stLt ((mayL s fr).filter (doneB s fr)) = G from HG.out.symm)
          clear ho h2 HO HME
          obtain ⟨w1, hw1⟩ : ∃ w1 : World, w1 = wr := ⟨_, rfl⟩
          subst hw1
          obtain ⟨l, hl⟩ : ∃ l, l = mayL s fr := ⟨_, rfl⟩
          rw [← hl] at HL HGD HGA hml ⊢
          clear hl
          have hbl := Slc.bd HL.out
          go_wp2_with fail
          clear hk hlt
          go_loopw [12, 56] (fun v i wr => ∃ k : Nat, k ≤ l.length ∧ i = .int .i64 k ∧ Own wr w1.heap.size 24 3 (RKS ZG) v ((l.take k).filter (doneB s fr)) ∧ Below w1.heap.size w1 wr) (fun _ i _ => l.length - (intOf i).toNat)
          case atStart => exact ⟨0, Nat.zero_le _, rfl, Own.nil_ _ _ _ _ _, Below.refl _ _⟩
          case round =>
            obtain ⟨k, hk, rfl, ho, hb⟩ := hrel
            have HO := Lib.hid ho
            have HBw := Lib.hid hb
            clear ho hb
            by_cases hlt : k < l.length
            · obtain ⟨⟨kd, nm, vr⟩, b2, o2, hst, rfl, e0, e1, e2⟩ := HL.out.at_ hlt (Kept.of_below HBw.out)
              have HST := Lib.hid hst
              have HGK := Lib.hid (HGD.out _ (List.mem_of_getElem? hst))
              have HFL := Lib.hid (filt_step (s := s) (fr := fr) hst)
              have HLL := Lib.hid (show ((l.take k).filter (doneB s fr)).length ≤ 104 from Nat.le_trans (List.length_filter_le ..) (by rw [List.length_take]; omega))
              dsimp only at e0 e1 e2
              clear hst
              go_wp2_with fail
              clear e0 e1 e2
              have HB1 := Lib.hid (below_alloc HBw.out (.cells #[.int .i64 kd, .string (bs nm), .string (bs vr)] 24))
              have HBB := Lib.hid (below_next HB.out HB1.out)
              have HQ := Lib.hid (do_any s A c kd nm vr fr A' c' _ (HS.out.kept (Kept.of_below HBB.out)) (HF.out.kept (Kept.of_below HBB.out)) HX.out HP.out)
              refine HQ.out.mono ?_
              rintro e w3 ⟨B3, d3, rfl, he3, hb3⟩
              have HB3 := Lib.hid (below_next HB1.out hb3)
              have HO3 := Lib.hid ((HO.out.alloc (.cells #[.int .i64 kd, .string (bs nm), .string (bs vr)] 24)).next hb3)
              have HK3 := Lib.hid ((blk_new1 wr 24 #[.int .i64 kd, .string (bs nm), .string (bs vr)]).next hb3)
              clear he3 hb3 HQ HB1 HBB HO
              obtain ⟨er, her⟩ : ∃ er, er = (doS s ⟨kd, nm, vr⟩ fr).2 := ⟨_, rfl⟩
              obtain ⟨un, hun⟩ : ∃ un, un = (doS s ⟨kd, nm, vr⟩ fr).1 := ⟨_, rfl⟩
              rw [← her, ← hun]
              clear hun
              have c0 := HK3.out.cell 0
              have c1 := HK3.out.cell 1
              have c2 := HK3.out.cell 2
              simp only [List.getElem?_toArray, List.getElem?_cons_zero, List.getElem?_cons_succ] at c0 c1 c2
              by_cases h0 : er = 0
              · subst h0
                have hdn : doneB s fr ⟨kd, nm, vr⟩ = true := decide_eq_true her.symm
                have HGG := Lib.hid (HGK.out hdn)
                have HFE := Lib.hid (show (l.take (k + 1)).filter (doneB s fr) = (l.take k).filter (doneB s fr) ++ [⟨kd, nm, vr⟩] by rw [HFL.out, if_pos hdn])
                clear her hdn
                go_wp2_with (at_builtin; refine wpList_append_el (by rfl) _ _ 34 (by rfl) w1.heap.size 24 _ 3 40 Tryz.underlying34 infStA rfl (by omega) (RKS ZG) _ _ (by rfl) (HO3.out.alloc _) ⟨kd, nm, vr⟩ [.int .i64 kd, .string (bs nm), .string (bs vr)] _ 1 (by rfl) (blk_new1 _ _ _) ⟨raw0, rfl, HGG.out⟩ rfl (stp_one _ _ _) (by have := HLL.out; omega) (by omega) (by have := HB3.out.size; simp; omega) ?_; intro g cap w4 ho4 hg4; have HO4 := Lib.hid ho4; have HB4 := Lib.hid ((HO3.out.alloc _).below (below_alloc HB3.out _) (by have := HB3.out.size; simp; omega) hg4); clear ho4 hg4)
                go_roundw
                case rel => exact ⟨k + 1, by omega, by simp, by rw [HFE.out]; exact HO4.out, HB4.out⟩
                case measure => (try simp only [intOf]); omega
              · have hdn : doneB s fr ⟨kd, nm, vr⟩ = false := decide_eq_false (by rw [← her]; exact h0)
                have HFE := Lib.hid (show (l.take (k + 1)).filter (doneB s fr) = (l.take k).filter (doneB s fr) by rw [HFL.out, hdn]; simp)
                have hEb : (er == 0) = false := by rw [beq_eq_false_iff_ne]; exact h0
                clear her hdn h0
                go_wp2
                go_roundw
                case rel => exact ⟨k + 1, by omega, by simp, by rw [HFE.out]; exact HO3.out, HB3.out⟩
                case measure => (try simp only [intOf]); omega
            · have ho := HO.out
              rw [take_end hk hlt] at ho
              obtain ⟨m, hm⟩ : ∃ m, m = l.filter (doneB s fr) := ⟨_, rfl⟩
              rw [← hm] at ho HGA
              have hml2 : m.length ≤ 104 := by rw [hm]; exact Nat.le_trans (List.length_filter_le ..) hml
              clear hm
              rcases own_form ho with ⟨rfl, hm0⟩ | ⟨g, cap, rfl⟩
              · subst hm0
                have HGN := Lib.hid (show G = [] from HGA.out.symm)
                clear HO HGA ho
                go_wp2_with fail
                refine (sortS_nil _ _).mono ?_
                rintro e w2 ⟨rfl, rfl⟩
                go_wp2
                go_ret
                exact ⟨none, 0, by rw [HGN.out]; rfl, by rw [HGN.out]; exact Slc.nil_ (Nat.zero_le _), below_next HB.out HBw.out⟩
              · have HO2 := Lib.hid ho
                obtain ⟨n, hn⟩ : ∃ n, n = m.length := ⟨_, rfl⟩
                rw [← hn] at HO2 ⊢
                have HN := Lib.hid hn.symm
                have hn2 : n ≤ 1000 := by omega
                clear HO ho hn
                have HQ := Lib.hid (sortS_any w1.heap.size ZG sgC cmpZG sgSW g cap n m wr HO2.out HN.out hn2 G (by rw [sgC_fun]; exact HGA.out))
                go_wp2_with fail
                refine HQ.out.mono ?_
                rintro e w2 ⟨rfl, ho2, hg2⟩
                have HB2 := Lib.hid (HO2.out.below HBw.out HBw.out.size (hg2 : wr.grownBy w2 (Value.slice (some ⟨g, 0, none⟩) n cap).ownBlock))
                have hgl : G.length = n := by rw [← HGA.out, srt_len]; exact HN.out
                obtain ⟨A5, c5, hv5, h5⟩ := ho2.slc (z := 40) (by omega)
                have H5 := Lib.hid (Stps.of_rks h5)
                have HV5 := Lib.hid hv5
                clear hg2 ho2 h5 hv5 HQ hgl
                go_wp2
                go_ret
                exact ⟨A5, c5, congrArg Ending.returned HV5.out, H5.out, below_next HB.out HB2.out⟩
end Go.Proofs.YtaicidbopgnmfaaGreatDoor
