/- The contract of the reference's Reached: the walk. -/
import Derived.Test.YtflmocamfedbdaaGreatDoorUrB
namespace Go.Proofs.YtflmocamfedbdaaGreatDoor
set_option linter.unusedSimpArgs false
set_option linter.unusedVariables false
open Go.RowKit
attribute [local go_sem ↓] Go.wp_at_zero Go.wp_at_succ
attribute [local irreducible] wpQuiet
theorem QS.far {w wr wr' : World} {gi B : Nat} {I : List Bool} {v u : Value} {W : Nms} {l : List Pkg} {R : List Value → Pkg → Prop} (h : QS w wr gi I v W) (hu : Own wr B 26 9 R u l) (hB : w.heap.size ≤ B) (hg : wr.grownBy wr' u.ownBlock) : QS w wr' gi I v W :=
  ⟨(hu.down hB).below h.1 h.1.size hg, h.2.1, hu.blk h.2.2.1 (by decide) hg, h.2.2.2.far (hu.down hB) (by decide) hg⟩
theorem le_more {n j : Nat} (h : n ≤ 2000 + 16200 * j) : n ≤ 2000 + 16200 * (j + 1) := by omega
theorem set_same {α : Type} {l : List α} {j : Nat} {x : α} (h : l[j]? = some x) : l.set j x = l := by
  obtain ⟨hj, rfl⟩ := List.getElem?_eq_some_iff.1 h
  exact List.set_getElem_self ..
set_option maxRecDepth 100000 in
set_option maxHeartbeats 8000000 in
theorem rreached_any (A A2 A3 : Option Addr) (c c2 c3 : Nat) (all : List Pkg) (s : List Ent) (names : Nms) (w : World) (hl : Pkgs w A c all) (hs : Ents w A2 c2 s) (hn : Strs w A3 c3 names) (h15 : ∀ p ∈ all, l15 p) (hal : all.length ≤ 24) (hsl : s.length ≤ 100) (hnl : names.length ≤ 100) (hIT : ∀ k, (itR all (List.replicate all.length false, names ++ entN s) k).2.length ≤ 2000 ∧ (itR all (List.replicate all.length false, names ++ entN s) k).1.length = all.length) :
    Calls Tryz.prog 40 #[.slice A all.length c, .slice A2 s.length c2, .slice A3 names.length c3] w (RetPkgs w (rsR all (names ++ entN s))) := by
  have hbd := hl.bd
  have hbd2 := hs.bd
  have hbd3 := hn.bd
  have HL := Lib.hid hl
  have HS := Lib.hid hs
  have HN := Lib.hid hn
  have H15 := Lib.hid h15
  clear hl hs hn h15
  obtain ⟨sn, hsn⟩ : ∃ sn, sn = entN s := ⟨_, rfl⟩
  have HSN := Lib.hid hsn
  rw [← hsn] at hIT ⊢
  have hsnl : sn.length ≤ s.length := by rw [hsn, entN, List.length_map]; exact Nat.le_refl _
  have HIT := Lib.hid hIT
  have HRS := Lib.hid (show rsR all (names ++ sn) = outR all (itR all (List.replicate all.length false, names ++ sn) (all.length + 1)).1 from rfl)
  clear hsn hIT
  go_enter Tryz.func40, Tryz.ntmps40
  have hmk : (Instr.makeSlice 74 (.int .i64 (all.length : Int)) (.int .i64 (all.length : Int))).run Tryz.prog w = .ok (.slice (some ⟨w.heap.size, 0, none⟩) all.length all.length) (w.alloc (.cells (bls (List.replicate all.length false)) 4)) := by
    obtain ⟨i, hi, hz0, hz1, hz2⟩ := info_parts (show (Tryz.prog.info? 4).map (fun i => (i.zero, i.size, i.bytes)) = some (some (.bool false), 1, 1) by kernel_rfl)
    have h := run_make (P := Tryz.prog) w 74 4 i (.bool false) Tryz.underlying74 hi hz0 .i64 .i64 (all.length : Int) (all.length : Int) (by omega) (by omega) (by rw [hz2]; omega) (by omega)
    rw [hz1, Nat.mul_one, Int.toNat_natCast] at h
    rw [h, ← bls_made]
    rfl
  go_wp2_with (at_builtin; refine wpList_append_all (by rfl) _ _ 51 (by rfl) w.heap.size 9 _ 1 16 16 Tryz.underlying51 infStr' rfl (by omega) RStr _ [] (by rfl) (Own.nil_ _ _ _ _ _) A3 c3 names (by rfl) (Strs.kept HN.out (Kept.alloc _ _)) str_one (by simp; omega) (by omega) (by simp) ?_; intro v1 w1 ho1 hg1)
  rw [List.nil_append] at ho1
  have HQ0 := Lib.hid (show QS w w1 w.heap.size (List.replicate all.length false) v1 names from ⟨(Own.nil_ _ w.heap.size 9 1 RStr).below (below_alloc (Below.refl _ _) _) (by simp) hg1, Nat.le_refl _, Blk.grown (blk_new1 w 4 (bls (List.replicate all.length false))) hg1 (by simp [Value.ownBlock]), ho1⟩)
  clear ho1 hg1 hmk
  generalize w.heap.size = gi at HQ0 ⊢
  go_loopw [8, 35] (fun v i wr => ∃ (k : Nat) (W : Nms), k ≤ s.length ∧ W.length ≤ names.length + k ∧ i = .int .i64 k ∧ W = names ++ sn.take k ∧ QS w wr gi (List.replicate all.length false) v W) (fun _ i _ => s.length - (intOf i).toNat)
  case atStart => exact ⟨0, names, Nat.zero_le _, by omega, rfl, by simp, HQ0.out⟩
  case round =>
    clear HQ0
    obtain ⟨k, W, hk, hWk, rfl, hW, hq⟩ := hrel
    obtain ⟨wo, rfl⟩ : ∃ wo : World, wo = wr := ⟨_, rfl⟩
    have HW := Lib.hid hW
    have HQ := Lib.hid hq
    clear hW hq
    by_cases hlt : k < s.length
    · obtain ⟨y, b, o, r, hy, rfl, hr, e0, e1, e2, e3, e4, e5, e6, e7, e8, e9, e10⟩ := HS.out.at_ hlt (Kept.of_below HQ.out.1)
      have HY := Lib.hid (map_name_at HSN.out hy)
      have HQ2 := Lib.hid (HQ.out.alloc (.cells #[.string (bs (y).pkg.name), .string (bs (y).pkg.ver), .slice (r).a1 (y).pkg.pre.length (r).c1, .slice (r).a2 (y).pkg.dep.length (r).c2, .slice (r).a3 (y).pkg.rcm.length (r).c3, .slice (r).a4 (y).pkg.con.length (r).c4, .slice (r).a5 (y).pkg.brk.length (r).c5, .slice (r).a6 (y).pkg.prv.length (r).c6, .bool (y).pkg.ess, .bool (y).conf, .bool (y).hold] 106))
      clear hy hr
      go_wp2_with (at_builtin; refine wpList_append_el (by rfl) _ _ 51 (by rfl) w.heap.size 9 _ 1 16 Tryz.underlying51 infStr' rfl (by omega) RStr _ W (by rfl) (HQ2.out.alloc _).2.2.2 y.pkg.name [.string (bs y.pkg.name)] (wo.heap.size + 1) 1 (by rfl) (blk_new2 _ _ _ _) rfl rfl (by simp [Value.oneCell']) (by omega) (by omega) (HQ2.out.alloc _).base ?_; intro g' cap w30 ho30 hg30; have HQ3 := Lib.hid ((HQ2.out.alloc _).app ho30 hg30); clear ho30 hg30)
      go_roundw
      case rel => exact ⟨k + 1, W ++ [y.pkg.name], by omega, by simp; omega, by simp, by rw [take_step HY.out, ← List.append_assoc, ← HW.out], HQ3.out⟩
      case measure => (try simp only [intOf]); omega
    · have hW := HW.out
      rw [List.take_of_length_le (by omega)] at hW
      have HI0 := Lib.hid (show itR all (List.replicate all.length false, names ++ sn) 0 = (List.replicate all.length false, W) by rw [hW]; rfl)
      clear hW HW
      go_wp2
      clear hlt hk hWk
      go_loopw [8, 49] (fun v i wr => ∃ (k : Nat) (I : List Bool) (W : Nms), k ≤ all.length + 1 ∧ i = .int .i64 k ∧ itR all (List.replicate all.length false, names ++ sn) k = (I, W) ∧ QS w wr gi I v W) (fun _ i _ => all.length + 1 - (intOf i).toNat)
      case atStart => exact ⟨0, _, W, Nat.zero_le _, rfl, HI0.out, HQ.out⟩
      case round =>
        clear HQ HI0
        obtain ⟨k, I, W, hk, rfl, hI, hq⟩ := hrel
        obtain ⟨wo, rfl⟩ : ∃ wo : World, wo = wr := ⟨_, rfl⟩
        have hIl := (HIT.out k).2
        have hWl := (HIT.out k).1
        rw [hI] at hIl hWl
        dsimp only at hIl hWl
        have HIL := Lib.hid hIl
        have HI := Lib.hid hI
        have HQ := Lib.hid hq
        clear hI hq hIl
        by_cases hlt : k < all.length + 1
        · have hk3 : decide ((k : Int) < (all.length : Int) + 1) = true := decide_eq_true (by omega)
          obtain ⟨A1, c1, rfl, hst⟩ := HQ.out.2.2.2.slc (z := 16) (by omega)
          have HST := Lib.hid (show Strs wo A1 c1 W from hst)
          have hbdW := hst.bd
          have HNX := Lib.hid (show itR all (List.replicate all.length false, names ++ sn) (k + 1) = rndF all (I, W) by rw [← HI.out]; rfl)
          obtain ⟨X, hX⟩ : ∃ X, X = stpI all I W := ⟨_, rfl⟩
          have HX := Lib.hid hX
          have HXL := Lib.hid (show X.length = all.length by rw [hX]; exact stpI_len HIL.out)
          have HM0 := Lib.hid (show mixL X I 0 = I by simp [mixL])
          clear hst hX
          go_wp2
          go_loopw [53] (fun i wr => ∃ j : Nat, j ≤ all.length ∧ i = .int .i64 j ∧ QS w wr gi (mixL X I j) (.slice A1 W.length c1) W) (fun i _ => all.length - (intOf i).toNat)
          case atStart => exact ⟨0, Nat.zero_le _, rfl, by rw [HM0.out]; exact HQ.out⟩
          case round =>
            obtain ⟨j, hj, rfl, hq⟩ := hrel
            obtain ⟨wi, rfl⟩ : ∃ wi : World, wi = wr := ⟨_, rfl⟩
            have HQj := Lib.hid hq
            clear hq
            by_cases hlj : j < all.length
            · obtain ⟨p, b, o, r, hp, rfl, hr, e0, e1, e2, e3, e4, e5, e6, e7, e8⟩ := HL.out.at_ hlj (Kept.of_below HQj.out.1)
              obtain ⟨b0, hb0⟩ : ∃ b, I[j]? = some b := ⟨_, List.getElem?_eq_getElem (by have := HIL.out; omega)⟩
              have HP := Lib.hid hp
              have HB0 := Lib.hid hb0
              have HXJ := Lib.hid (show X[j]? = some (b0 || W.any fun y => decide (y = p.name)) by rw [HX.out]; exact stpI_at hp hb0)
              have hgi : gi < wi.heap.size := HQj.out.2.2.1.lt
              have HQb := Lib.hid (show QS w (wi.alloc (.cells #[.string (bs (p).name), .string (bs (p).ver), .slice (r).a1 (p).pre.length (r).c1, .slice (r).a2 (p).dep.length (r).c2, .slice (r).a3 (p).rcm.length (r).c3, .slice (r).a4 (p).con.length (r).c4, .slice (r).a5 (p).brk.length (r).c5, .slice (r).a6 (p).prv.length (r).c6, .bool (p).ess] 26)) gi ((mixL X I j).set j b0) (.slice A1 W.length c1) W by
                rw [set_same ((mix_at (by have := HXL.out; omega)).trans hb0)]
                exact HQj.out.alloc _)
              have KB := Lib.hid (blk_new1 wi 26 #[.string (bs (p).name), .string (bs (p).ver), .slice (r).a1 (p).pre.length (r).c1, .slice (r).a2 (p).dep.length (r).c2, .slice (r).a3 (p).rcm.length (r).c3, .slice (r).a4 (p).con.length (r).c4, .slice (r).a5 (p).brk.length (r).c5, .slice (r).a6 (p).prv.length (r).c6, .bool (p).ess])
              clear hp hr hb0
              go_wp2
              clear e0 e1 e2 e3 e4 e5 e6 e7 e8
              generalize World.alloc _ _ = Wb at HQb KB ⊢
              generalize wi.heap.size = gb at KB hgi ⊢
              go_loopw [60] (fun i wr => ∃ (m : Nat) (b : Bool), m ≤ W.length ∧ i = .int .i64 m ∧ b = (b0 || (W.take m).any fun y => decide (y = p.name)) ∧ QS w wr gi ((mixL X I j).set j b) (.slice A1 W.length c1) W ∧ Blk wr gb 26 #[.string (bs (p).name), .string (bs (p).ver), .slice (r).a1 (p).pre.length (r).c1, .slice (r).a2 (p).dep.length (r).c2, .slice (r).a3 (p).rcm.length (r).c3, .slice (r).a4 (p).con.length (r).c4, .slice (r).a5 (p).brk.length (r).c5, .slice (r).a6 (p).prv.length (r).c6, .bool (p).ess]) (fun i _ => W.length - (intOf i).toNat)
              case atStart => exact ⟨0, b0, Nat.zero_le _, rfl, by simp, HQb.out, KB.out⟩
              case round =>
                clear HQb KB
                obtain ⟨m, bm, hm, rfl, hbm, hq, hkb⟩ := hrel
                obtain ⟨wn, rfl⟩ : ∃ wn : World, wn = wr := ⟨_, rfl⟩
                have HBM := Lib.hid hbm
                have HQm := Lib.hid hq
                have KBm := Lib.hid hkb
                clear hbm hq hkb
                by_cases hlm : m < W.length
                · obtain ⟨n, b2, o2, hn, rfl, f0⟩ := (Strs.cellAt HQm.out.2.2.2 (by omega)).at_ hlm (Kept.refl _)
                  have HNm := Lib.hid hn
                  have hj0 : (0 : Int) ≤ (j : Int) := Int.natCast_nonneg _
                  have hj1 : (j : Int) < (all.length : Int) := by omega
                  have hci := HQm.out.at_ (k := j) (b := bm) (by
                    rw [List.getElem?_set_self (by unfold mixL; rw [List.length_append, List.length_take, List.length_drop]; have := HXL.out; have := HIL.out; omega)])
                  have hfi := HQm.out.2.2.1.frozen j
                  have hcn := KBm.out.cell 0
                  clear hn
                  rcases bm
                  · have hf : (b0 || (W.take m).any fun y => decide (y = p.name)) = false := HBM.out.symm
                    by_cases hpn : p.name = n
                    · have hd : (p.name == n) = true := by simpa using hpn
                      have HB1 := Lib.hid (show true = (b0 || (W.take (m + 1)).any fun y => decide (y = p.name)) by rw [take_step HNm.out, List.any_append]; simp [hpn])
                      clear hpn hf
                      go_wp2
                      go_roundw
                      case rel => exact ⟨m + 1, true, by omega, by simp, HB1.out, by have h := HQm.out.set j true; rwa [List.set_set] at h, KBm.out.far (p := ⟨gi, j, none⟩) (by show gb ≠ gi; omega) _⟩
                      case measure => (try simp only [intOf]); omega
                    · have hd : (p.name == n) = false := by simpa using hpn
                      have HB1 := Lib.hid (show false = (b0 || (W.take (m + 1)).any fun y => decide (y = p.name)) by rw [take_step HNm.out, List.any_append, ← Bool.or_assoc, hf]; simp; exact fun h => hpn h.symm)
                      clear hpn hf
                      go_wp2
                      go_roundw
                      case rel => exact ⟨m + 1, false, by omega, by simp, HB1.out, by have h := HQm.out.set j false; rwa [List.set_set] at h, KBm.out.far (p := ⟨gi, j, none⟩) (by show gb ≠ gi; omega) _⟩
                      case measure => (try simp only [intOf]); omega
                  · have HB1 := Lib.hid (show true = (b0 || (W.take (m + 1)).any fun y => decide (y = p.name)) by rw [take_step HNm.out, List.any_append, ← Bool.or_assoc, ← HBM.out]; rfl)
                    go_wp2
                    go_roundw
                    case rel => exact ⟨m + 1, true, by omega, by simp, HB1.out, by have h := HQm.out.set j true; rwa [List.set_set] at h, KBm.out.far (p := ⟨gi, j, none⟩) (by show gb ≠ gi; omega) _⟩
                    case measure => (try simp only [intOf]); omega
                · have hbm := HBM.out
                  rw [List.take_of_length_le (by omega)] at hbm
                  have HQn := Lib.hid (show QS w wn gi (mixL X I (j + 1)) (.slice A1 W.length c1) W by
                    have h := HQm.out
                    rw [mix_set (by rw [HXL.out, HIL.out]) (by rw [hbm]; exact HXJ.out)] at h
                    exact h)
                  clear hbm
                  go_wp2
                  go_roundw
                  case rel => exact ⟨j + 1, by omega, by simp, HQn.out⟩
                  case measure => (try simp only [intOf]); omega
            · have HQX := Lib.hid (show QS w wi gi X (.slice A1 W.length c1) W by
                have h := HQj.out
                rw [show j = X.length by have := HXL.out; omega, mix_end (by rw [HXL.out, HIL.out])] at h
                exact h)
              clear HQj
              go_wp2
              clear hlj hj
              go_loopw [8, 81] (fun v i wr => ∃ (j : Nat) (W5 : Nms), j ≤ all.length ∧ W5.length ≤ 2000 + 16200 * j ∧ i = .int .i64 j ∧ W5 = ((all.zip X).take j).foldl (pkgF all) W ∧ QS w wr gi X v W5) (fun _ i _ => all.length - (intOf i).toNat)
              case atStart => exact ⟨0, W, Nat.zero_le _, by omega, rfl, rfl, HQX.out⟩
              case round =>
                clear HQX
                obtain ⟨j, W5, hj, hl5, rfl, hW5, hq⟩ := hrel
                obtain ⟨wi, rfl⟩ : ∃ wi : World, wi = wr := ⟨_, rfl⟩
                have HW5 := Lib.hid hW5
                have HQ5 := Lib.hid hq
                clear hW5 hq
                by_cases hlj : j < all.length
                · obtain ⟨p, b, o, r, hp, rfl, hr, e0, e1, e2, e3, e4, e5, e6, e7, e8⟩ := HL.out.at_ hlj (Kept.of_below HQ5.out.1)
                  obtain ⟨bx, hbx⟩ : ∃ b, X[j]? = some b := ⟨_, List.getElem?_eq_getElem (by have := HXL.out; omega)⟩
                  have HPX := Lib.hid (zip_at hp hbx)
                  have HLP := Lib.hid (H15.out p (List.mem_of_getElem? hp))
                  rcases r with ⟨a1, a2, a3, a4, a5, a6, c1', c2', c3', c4', c5', c6'⟩
                  dsimp only at e2 e3 e4 e5 e6 e7
                  have HP1 := Lib.hid (show Clss w a1 c1' p.pre from hr.pre)
                  have HP2 := Lib.hid (show Clss w a2 c2' p.dep from hr.dep)
                  have HP3 := Lib.hid (show Clss w a3 c3' p.rcm from hr.rcm)
                  have hj0 : (0 : Int) ≤ (j : Int) := Int.natCast_nonneg _
                  have hj1 : (j : Int) < (all.length : Int) := by omega
                  have hcx := (HQ5.out.alloc (.cells #[.string (bs p.name), .string (bs p.ver), .slice a1 p.pre.length c1', .slice a2 p.dep.length c2', .slice a3 p.rcm.length c3', .slice a4 p.con.length c4', .slice a5 p.brk.length c5', .slice a6 p.prv.length c6', .bool p.ess] 26)).at_ hbx
                  have HQ6 := Lib.hid (HQ5.out.alloc (.cells #[.string (bs p.name), .string (bs p.ver), .slice a1 p.pre.length c1', .slice a2 p.dep.length c2', .slice a3 p.rcm.length c3', .slice a4 p.con.length c4', .slice a5 p.brk.length c5', .slice a6 p.prv.length c6', .bool p.ess] 26))
                  clear hp hr hbx
                  rcases bx
                  · go_wp2
                    go_roundw
                    case rel => exact ⟨j + 1, W5, by omega, (le_more hl5), by simp, by rw [fold_step HPX.out, ← HW5.out]; rfl, HQ6.out⟩
                    case measure => (try simp only [intOf]); omega
                  · go_wp2
                    clear e0 e1 e2 e3 e4 e5 e6 e7 e8 hcx
                    generalize World.alloc _ _ = Wb at HQ6 ⊢
                    go_loopw [8, 98] (fun v i wr => ∃ (d : Nat) (W6 : Nms), d ≤ 3 ∧ W6.length ≤ W5.length + 5400 * d ∧ i = .int .i64 d ∧ W6 = ([p.pre, p.dep, p.rcm].take d).foldl (lstF all) W5 ∧ QS w wr gi X v W6) (fun _ i _ => 3 - (intOf i).toNat)
                    case atStart => exact ⟨0, W5, Nat.zero_le _, by omega, rfl, rfl, HQ6.out⟩
                    case round =>
                      clear HQ6
                      obtain ⟨d, W6, hd, hl6, rfl, hW6, hq⟩ := hrel
                      obtain ⟨wd, rfl⟩ : ∃ wd : World, wd = wr := ⟨_, rfl⟩
                      have HW6 := Lib.hid hW6
                      have HQd := Lib.hid hq
                      clear hW6 hq
                      by_cases hld : d < 3
                      · have hd3 : decide ((d : Int) < 3) = true := decide_eq_true (by omega)
                        obtain ⟨L, A', c', hLL, hcl, hidx, hL1, hL2⟩ : ∃ (L : List (List Atm)) (A' : Option Addr) (c' : Nat), [p.pre, p.dep, p.rcm][d]? = some L ∧ Clss w A' c' L ∧ (∀ W, (Instr.index 76 (.agg #[.slice a1 p.pre.length c1', .slice a2 p.dep.length c2', .slice a3 p.rcm.length c3']) (.int .i64 (d : Int))).run Tryz.prog W = .ok (.slice A' L.length c') W) ∧ L.length ≤ 15 ∧ ∀ x ∈ L, x.length ≤ 15 := by
                          obtain rfl | rfl | rfl : d = 0 ∨ d = 1 ∨ d = 2 := by omega
                          · exact ⟨_, _, _, rfl, HP1.out, fun _ => by kernel_rfl, HLP.out.1⟩
                          · exact ⟨_, _, _, rfl, HP2.out, fun _ => by kernel_rfl, HLP.out.2.1⟩
                          · exact ⟨_, _, _, rfl, HP3.out, fun _ => by kernel_rfl, HLP.out.2.2⟩
                        have HLL := Lib.hid hLL
                        have HCL := Lib.hid hcl
                        have HL2 := Lib.hid hL2
                        have hbdL := hcl.bd
                        clear hLL hcl hL2
                        go_wp2
                        clear hidx
                        go_loopw [8, 103] (fun v i wr => ∃ (j7 : Nat) (W7 : Nms), j7 ≤ L.length ∧ W7.length ≤ W6.length + 360 * j7 ∧ i = .int .i64 j7 ∧ W7 = (L.take j7).foldl (clsF all) W6 ∧ QS w wr gi X v W7) (fun _ i _ => L.length - (intOf i).toNat)
                        case atStart => exact ⟨0, W6, Nat.zero_le _, by omega, rfl, rfl, HQd.out⟩
                        case round =>
                          clear HQd
                          obtain ⟨j7, W7, hj7, hl7, rfl, hW7, hq⟩ := hrel
                          obtain ⟨w7, rfl⟩ : ∃ w7 : World, w7 = wr := ⟨_, rfl⟩
                          have HW7 := Lib.hid hW7
                          have HQ7 := Lib.hid hq
                          clear hW7 hq
                          by_cases hlj7 : j7 < L.length
                          · obtain ⟨cl, b7, o7, A8, c8, hcl, rfl, hA8, g0⟩ := HCL.out.at_ hlj7 (Kept.of_below HQ7.out.1)
                            have HCL7 := Lib.hid hcl
                            have HA8 := Lib.hid hA8
                            have hcl15 : cl.length ≤ 15 := HL2.out cl (List.mem_of_getElem? hcl)
                            have hbd8 := hA8.bd
                            clear hcl hA8
                            go_wp2
                            clear g0
                            go_loopw [8, 109] (fun v i wr => ∃ (j8 : Nat) (W8 : Nms), j8 ≤ cl.length ∧ W8.length ≤ W7.length + 24 * j8 ∧ i = .int .i64 j8 ∧ W8 = (cl.take j8).foldl (atmF all) W7 ∧ QS w wr gi X v W8) (fun _ i _ => cl.length - (intOf i).toNat)
                            case atStart => exact ⟨0, W7, Nat.zero_le _, by omega, rfl, rfl, HQ7.out⟩
                            case round =>
                              clear HQ7
                              obtain ⟨j8, W8, hj8, hl8, rfl, hW8, hq⟩ := hrel
                              obtain ⟨w8, rfl⟩ : ∃ w8 : World, w8 = wr := ⟨_, rfl⟩
                              have HW8 := Lib.hid hW8
                              have HQ8 := Lib.hid hq
                              clear hW8 hq
                              by_cases hlj8 : j8 < cl.length
                              · obtain ⟨a, b8, o8, ha, rfl, hok, d0, d1, d2⟩ := HA8.out.at_ hlj8 (Kept.of_below HQ8.out.1)
                                have HA := Lib.hid ha
                                have HOK := Lib.hid hok
                                clear ha hok
                                go_wp2
                                have HQa := Lib.hid (HQ8.out.alloc (.cells #[.string (bs (a).name), .int .i64 (a).rel, .string (bs (a).ver)] 34))
                                have KA := Lib.hid (blk_new1 w8 34 #[.string (bs (a).name), .int .i64 (a).rel, .string (bs (a).ver)])
                                clear d0 d1 d2
                                generalize World.alloc _ _ = Wa at HQa KA ⊢
                                generalize w8.heap.size = ga at KA ⊢
                                go_loopw [8, 115] (fun v i wr => ∃ (j9 : Nat) (W9 : Nms), j9 ≤ all.length ∧ W9.length ≤ W8.length + j9 ∧ i = .int .i64 j9 ∧ W9 = (all.take j9).foldl (atmQ a) W8 ∧ QS w wr gi X v W9 ∧ Blk wr ga 34 #[.string (bs (a).name), .int .i64 (a).rel, .string (bs (a).ver)]) (fun _ i _ => all.length - (intOf i).toNat)
                                case atStart => exact ⟨0, W8, Nat.zero_le _, by omega, rfl, rfl, HQa.out, KA.out⟩
                                case round =>
                                  clear HQa KA
                                  obtain ⟨j9, W9, hj9, hl9, rfl, hW9, hq, hka⟩ := hrel
                                  obtain ⟨w9, rfl⟩ : ∃ w9 : World, w9 = wr := ⟨_, rfl⟩
                                  have HW9 := Lib.hid hW9
                                  have HQ9 := Lib.hid hq
                                  have KA9 := Lib.hid hka
                                  clear hW9 hq hka
                                  by_cases hlj9 : j9 < all.length
                                  · obtain ⟨q, b9, o9, r9, hq9, hA9, hr9, e0, e1, e2, e3, e4, e5, e6, e7, e8⟩ := HL.out.at_ hlj9 (Kept.of_below HQ9.out.1)
                                    injection hA9 with hA9
                                    injection hA9 with hA91 hA92
                                    subst hA91 hA92
                                    have HQQ := Lib.hid hq9
                                    have HR9 := Lib.hid hr9
                                    have HQb := Lib.hid (HQ9.out.alloc (.cells #[.string (bs (q).name), .string (bs (q).ver), .slice (r9).a1 (q).pre.length (r9).c1, .slice (r9).a2 (q).dep.length (r9).c2, .slice (r9).a3 (q).rcm.length (r9).c3, .slice (r9).a4 (q).con.length (r9).c4, .slice (r9).a5 (q).brk.length (r9).c5, .slice (r9).a6 (q).prv.length (r9).c6, .bool (q).ess] 26))
                                    have KAb := Lib.hid (KA9.out.alloc (.cells #[.string (bs (q).name), .string (bs (q).ver), .slice (r9).a1 (q).pre.length (r9).c1, .slice (r9).a2 (q).dep.length (r9).c2, .slice (r9).a3 (q).rcm.length (r9).c3, .slice (r9).a4 (q).con.length (r9).c4, .slice (r9).a5 (q).brk.length (r9).c5, .slice (r9).a6 (q).prv.length (r9).c6, .bool (q).ess] 26))
                                    have KPb := Lib.hid (blk_new1 w9 26 #[.string (bs (q).name), .string (bs (q).ver), .slice (r9).a1 (q).pre.length (r9).c1, .slice (r9).a2 (q).dep.length (r9).c2, .slice (r9).a3 (q).rcm.length (r9).c3, .slice (r9).a4 (q).con.length (r9).c4, .slice (r9).a5 (q).brk.length (r9).c5, .slice (r9).a6 (q).prv.length (r9).c6, .bool (q).ess])
                                    clear hq9 hr9
                                    obtain ⟨d0, d1, d2⟩ := blk3 KAb.out
                                    go_wp2_with fail
                                    clear e0 e1 e2 e3 e4 e5 e6 e7 e8
                                    refine (rsat_any q r9 a _ (HR9.out.kept (Kept.of_below HQb.out.1)) HOK.out).mono ?_
                                    rintro e w10 ⟨rfl, hb10⟩
                                    have HQc := Lib.hid (HQb.out.next hb10)
                                    have KAc := Lib.hid (KAb.out.next hb10)
                                    have KPc := Lib.hid (KPb.out.next hb10)
                                    clear hb10 d0 d1 d2 HQb KAb KPb
                                    generalize w9.heap.size = gq at KPc ⊢
                                    rcases hsat : satS q a
                                    · have HF := Lib.hid (show atmQ a W9 q = W9 by unfold atmQ; rw [show satP a q = false from hsat]; rfl)
                                      clear hsat
                                      go_wp2
                                      go_roundw
                                      case rel => exact ⟨j9 + 1, W9, by omega, by omega, by simp, by rw [fold_step HQQ.out, ← HW9.out, HF.out], HQc.out, KAc.out⟩
                                      case measure => (try simp only [intOf]); omega
                                    · have HF := Lib.hid (show atmQ a W9 q = W9 ++ [q.name] by unfold atmQ; rw [show satP a q = true from hsat]; rfl)
                                      have cq := KPc.out.cell 0
                                      clear hsat
                                      go_wp2_with (at_builtin; refine wpList_append_el (by rfl) _ _ 51 (by rfl) w.heap.size 9 _ 1 16 Tryz.underlying51 infStr' rfl (by omega) RStr _ W9 (by rfl) (HQc.out.alloc _).2.2.2 q.name [.string (bs q.name)] w10.heap.size 1 (by rfl) (blk_new1 _ _ _) rfl rfl (by simp [Value.oneCell']) (by omega) (by omega) (HQc.out.alloc _).base ?_; intro g' cap w30 ho30 hg30; have HQe := Lib.hid ((HQc.out.alloc _).app ho30 hg30); have KAe := Lib.hid ((HQc.out.alloc _).2.2.2.blk (KAc.out.alloc _) (by decide) hg30); clear ho30 hg30)
                                      go_roundw
                                      case rel => exact ⟨j9 + 1, W9 ++ [q.name], by omega, by simp; omega, by simp, by rw [fold_step HQQ.out, ← HW9.out, HF.out], HQe.out, KAe.out⟩
                                      case measure => (try simp only [intOf]); omega
                                  · have hT := HW9.out
                                    rw [take_end hj9 hlj9] at hT
                                    have HF := Lib.hid (show atmF all W8 a = W9 from hT.symm)
                                    clear hT
                                    go_wp2
                                    go_roundw
                                    case rel => exact ⟨j8 + 1, W9, by omega, by omega, by simp, by rw [fold_step HA.out, ← HW8.out, HF.out], HQ9.out⟩
                                    case measure => (try simp only [intOf]); omega
                              · have hT := HW8.out
                                rw [take_end hj8 hlj8] at hT
                                have HF := Lib.hid (show clsF all W7 cl = W8 from hT.symm)
                                clear hT
                                go_wp2
                                go_roundw
                                case rel => exact ⟨j7 + 1, W8, by omega, by omega, by simp, by rw [fold_step HCL7.out, ← HW7.out, HF.out], HQ8.out⟩
                                case measure => (try simp only [intOf]); omega
                          · have hT := HW7.out
                            rw [take_end hj7 hlj7] at hT
                            have HF := Lib.hid (show lstF all W6 L = W7 from hT.symm)
                            clear hT
                            go_wp2
                            go_roundw
                            case rel => exact ⟨d + 1, W7, by omega, by omega, by simp, by rw [fold_step HLL.out, ← HW6.out, HF.out], HQ7.out⟩
                            case measure => (try simp only [intOf]); omega
                      · obtain rfl : d = 3 := by omega
                        have HF := Lib.hid (show pkgF all W5 (p, true) = W6 by rw [HW6.out]; rfl)
                        go_wp2
                        go_roundw
                        case rel => exact ⟨j + 1, W6, by omega, by omega, by simp, by rw [fold_step HPX.out, ← HW5.out, HF.out], HQd.out⟩
                        case measure => (try simp only [intOf]); omega
                · have hT := HW5.out
                  rw [List.take_of_length_le (by rw [List.length_zip]; have := HXL.out; omega)] at hT
                  have HR5 := Lib.hid (show rndF all (I, W) = (X, if 2000 < W5.length then uniS W5 else W5) by rw [hT, HX.out]; rfl)
                  clear hT
                  obtain ⟨A9, c9, rfl, hst9⟩ := HQ5.out.2.2.2.slc (z := 16) (by omega)
                  have HST9 := Lib.hid (show Strs wi A9 c9 W5 from hst9)
                  clear hst9
                  by_cases hbig : 2000 < W5.length
                  · have hd : decide ((2000 : Int) < (W5.length : Int)) = true := decide_eq_true (by omega)
                    have HI5 := Lib.hid (show itR all (List.replicate all.length false, names ++ sn) (k + 1) = (X, uniS W5) by rw [HNX.out, HR5.out, if_pos hbig])
                    go_wp2_with fail
                    refine (runique_any A9 c9 W5 _ HST9.out).mono ?_
                    rintro e w20 ⟨v20, rfl, ho20, hb20⟩
                    have HQ20 := Lib.hid (show QS w w20 gi X v20 (uniS W5) from ⟨below_next HQ5.out.1 hb20, HQ5.out.2.1, HQ5.out.2.2.1.next hb20, ho20.down HQ5.out.base⟩)
                    clear ho20 hb20
                    go_wp2
                    go_roundw
                    case rel => exact ⟨k + 1, X, uniS W5, by omega, by simp, HI5.out, HQ20.out⟩
                    case measure => (try simp only [intOf]); omega
                  · have hd : decide ((2000 : Int) < (W5.length : Int)) = false := decide_eq_false (by omega)
                    have HI5 := Lib.hid (show itR all (List.replicate all.length false, names ++ sn) (k + 1) = (X, W5) by rw [HNX.out, HR5.out, if_neg hbig])
                    go_wp2
                    go_roundw
                    case rel => exact ⟨k + 1, X, W5, by omega, by simp, HI5.out, HQ5.out⟩
                    case measure => (try simp only [intOf]); omega
        · have hkl : k = all.length + 1 := by omega
          have hI := HI.out
          rw [hkl] at hI
          have HOUT := Lib.hid (show rsR all (names ++ sn) = outR all I by rw [HRS.out, hI])
          clear hI hkl
          go_wp2
          clear hlt hk
          obtain ⟨vw, hvw⟩ : ∃ v, QS w wo gi I v W := ⟨_, HQ.out⟩
          have HQ := Lib.hid hvw
          clear hvw
          go_loopw [25, 140] (fun v25 i wr => ∃ (j : Nat) (t : List Pkg), j ≤ all.length ∧ t.length ≤ j ∧ i = .int .i64 j ∧ t = (((all.zip I).take j).filter (·.2)).map (·.1) ∧ Own wr w.heap.size 26 9 (RPkg w) v25 t ∧ QS w wr gi I vw W) (fun _ i _ => all.length - (intOf i).toNat)
          case atStart => exact ⟨0, [], Nat.zero_le _, Nat.zero_le _, rfl, rfl, Own.nil_ _ _ _ _ _, HQ.out⟩
          case round =>
            clear HQ
            obtain ⟨j, t, hj, htj, rfl, ht, ho, hq⟩ := hrel
            obtain ⟨wi, rfl⟩ : ∃ wi : World, wi = wr := ⟨_, rfl⟩
            have HT := Lib.hid ht
            have HO := Lib.hid ho
            have HQ := Lib.hid hq
            clear ht ho hq
            by_cases hlj : j < all.length
            · obtain ⟨p, b, o, r, hp, rfl, hr, e0, e1, e2, e3, e4, e5, e6, e7, e8⟩ := HL.out.at_ hlj (Kept.of_below HQ.out.1)
              obtain ⟨b0, hb0⟩ : ∃ b, I[j]? = some b := ⟨_, List.getElem?_eq_getElem (by have := HIL.out; omega)⟩
              have HZ := Lib.hid (zip_at hp hb0)
              have HR := Lib.hid hr
              have HQa := Lib.hid (HQ.out.alloc (.cells #[.string (bs (p).name), .string (bs (p).ver), .slice (r).a1 (p).pre.length (r).c1, .slice (r).a2 (p).dep.length (r).c2, .slice (r).a3 (p).rcm.length (r).c3, .slice (r).a4 (p).con.length (r).c4, .slice (r).a5 (p).brk.length (r).c5, .slice (r).a6 (p).prv.length (r).c6, .bool (p).ess] 26))
              have HOa := Lib.hid (HO.out.alloc (.cells #[.string (bs (p).name), .string (bs (p).ver), .slice (r).a1 (p).pre.length (r).c1, .slice (r).a2 (p).dep.length (r).c2, .slice (r).a3 (p).rcm.length (r).c3, .slice (r).a4 (p).con.length (r).c4, .slice (r).a5 (p).brk.length (r).c5, .slice (r).a6 (p).prv.length (r).c6, .bool (p).ess] 26))
              have KP := Lib.hid (blk_new1 wi 26 #[.string (bs (p).name), .string (bs (p).ver), .slice (r).a1 (p).pre.length (r).c1, .slice (r).a2 (p).dep.length (r).c2, .slice (r).a3 (p).rcm.length (r).c3, .slice (r).a4 (p).con.length (r).c4, .slice (r).a5 (p).brk.length (r).c5, .slice (r).a6 (p).prv.length (r).c6, .bool (p).ess])
              have hj0 : (0 : Int) ≤ (j : Int) := Int.natCast_nonneg _
              have hj1 : (j : Int) < (all.length : Int) := by omega
              have hcx := HQa.out.at_ hb0
              clear hp hr hb0
              rcases b0
              · go_wp2
                go_roundw
                case rel => exact ⟨j + 1, t, by omega, by omega, by simp, by rw [take_step HZ.out, List.filter_append, List.map_append, ← HT.out]; simp, HOa.out, HQa.out⟩
                case measure => (try simp only [intOf]); omega
              · obtain ⟨a0, a1, a2, a3, a4, a5, a6, a7, a8⟩ := blk9 KP.out
                go_wp2_with (at_builtin; refine wpList_append_el (by rfl) _ _ 43 (by rfl) w.heap.size 26 _ 9 184 Tryz.underlying43 infPkg' rfl (by omega) (RPkg w) _ t (by rfl) (HOa.out.alloc _) p (encK r p) (wi.heap.size + 1) 1 (by rfl) (blk_new2 _ _ _ _) ⟨r, rfl, HR.out⟩ rfl (encK_one _ _) (by omega) (by omega) (HQa.out.alloc _).base ?_; intro g' cap w30 ho30 hg30; have HQe := Lib.hid ((HQa.out.alloc _).far (HOa.out.alloc _) (Nat.le_refl _) hg30); have HOe := Lib.hid ho30; clear ho30 hg30)
                go_roundw
                case rel => exact ⟨j + 1, t ++ [p], by omega, by simp; omega, by simp, by rw [take_step HZ.out, List.filter_append, List.map_append, ← HT.out]; simp, HOe.out, HQe.out⟩
                case measure => (try simp only [intOf]); omega
            · have hT := HT.out
              rw [List.take_of_length_le (by rw [List.length_zip]; have := HIL.out; omega)] at hT
              have HU := Lib.hid (show outR all I = t from hT.symm)
              clear hT
              obtain ⟨A9, c9, rfl, hps⟩ := own_pkgs HO.out HQ.out.1 (by omega)
              have HPS := Lib.hid hps
              clear hps
              go_wp2
              go_ret
              rw [HOUT.out, HU.out]
              exact ⟨A9, c9, rfl, HPS.out, HQ.out.1⟩
end Go.Proofs.YtflmocamfedbdaaGreatDoor
