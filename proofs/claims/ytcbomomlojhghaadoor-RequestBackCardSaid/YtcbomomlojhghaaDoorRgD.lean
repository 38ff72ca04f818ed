/- The contract of the reference's Lines, for any bytes: the program's lines. -/
import Derived.Test.YtcbomomlojhghaaDoorRgC
import Derived.Test.YtcbomomlojhghaaDoorSb
namespace Go.Proofs.YtcbomomlojhghaaDoor
set_option linter.unusedSimpArgs false
set_option linter.unusedVariables false
open Go.RowKit
attribute [local go_sem ↓] Go.wp_at_zero Go.wp_at_succ
theorem Bts.at_ {w w' : World} {A : Option Addr} {c : Nat} {l : List UInt8} (h : Bts w A c l) {k : Nat} (hk : k < l.length) : ∃ b o, A = some ⟨b, o, none⟩ ∧ (Kept w w' → w'.cell? ⟨b, o + k, none⟩ = some (.int .u8 (l[k]).toNat)) := by
  obtain ⟨x, b, o, cs, h1, hA, hR, _, hr⟩ := Slc.at_ h hk
  rw [List.getElem?_eq_getElem hk, Option.some.injEq] at h1
  subst h1
  have h2 : cs = [.int .u8 (l[k]).toNat] := hR
  subst h2
  have h3 := hr 0 _ rfl
  rw [Nat.mul_one, Nat.add_zero] at h3
  exact ⟨b, o, hA, fun hk => hk _ _ h3⟩
theorem Bts.piece {w : World} {b o c : Nat} {l : List UInt8} (h : Bts w (some ⟨b, o, none⟩) c l) {f k : Nat} (hf : f ≤ k) (hk : k ≤ l.length) : Bts w (some ⟨b, o + f, none⟩) (c - f) ((l.drop f).take (k - f)) := by
  have h1 := Slc.take (Slc.drop h f (by omega)) (k - f)
  rw [Nat.mul_one] at h1
  exact h1
theorem infStrL : (Tryd.prog.info? 9).map (fun i => (i.zero, i.size, i.bytes)) = some (some (.string (bs [])), 1, 16) := by kernel_rfl
set_option maxRecDepth 100000 in
set_option maxHeartbeats 4000000 in
theorem rlines_any (l : List UInt8) (A : Option Addr) (c : Nat) (w : World) (hs : Bts w A c l) : Calls Tryd.prog 42 #[.slice A l.length c] w (RetLn w (linesR l)) := by
  have K0 := Lib.hid (blk_new1 w 44 #[.int .i64 0, .int .i64 0])
  have HB := Lib.hid (below_alloc (Below.refl w.heap.size w) (.cells #[.int .i64 0, .int .i64 0] 44))
  have HS := Lib.hid hs
  obtain ⟨G, hG⟩ : ∃ G, G = linesR l := ⟨_, rfl⟩
  rw [← hG]
  unfold linesR at hG
  clear hs
  by_cases h64 : 65536 < l.length
  · have d0 : decide ((65536 : Int) < (l.length : Int)) = true := decide_eq_true (by omega)
    rw [if_pos h64] at hG
    have HG := Lib.hid hG
    clear hG h64
    go_enter Tryd.func42, Tryd.ntmps42
    have f0 := K0.out.frozen 0
    have f1 := K0.out.frozen 1
    have c0 := K0.out.cell 0
    have c1 := K0.out.cell 1
    simp only [List.getElem?_toArray, List.getElem?_cons_zero, List.getElem?_cons_succ] at c0 c1
    have hsz := K0.out.lt
    go_wp2
    refine bodyPost_ret (v := .tuple #[.slice none 0 0, .agg #[.int .i64 2, .int .i64 0]]) (by simp [results, Tryd.results42, go_sem, c0, c1, hsz]; (try rfl)) rfl ?_
    have hb0 := HB.out
    first | exact RetLn.none_ HG.out (below_alloc (Below.refl _ _) _) | exact RetLn.none_ HG.out ((hb0.setCell (Nat.le_refl _) _).setCell (Nat.le_refl _) _)
  · have d0 : decide ((65536 : Int) < (l.length : Int)) = false := decide_eq_false (by omega)
    rw [if_neg h64] at hG
    have HGE := Lib.hid hG
    have hl64 : l.length ≤ 65536 := by omega
    clear hG h64
    go_enter Tryd.func42, Tryd.ntmps42
    go_wp2
    go_loopw [4, 5, 6] (fun v fr i wr => ∃ (f k : Nat) (acc : List (List UInt8)), f ≤ k + 1 ∧ k ≤ l.length + 1 ∧ (k ≤ l.length → f ≤ k) ∧ i = .int .i64 k ∧ fr = .int .i64 f ∧ acc.length ≤ f ∧ (∀ x ∈ (l.drop f).take (k - f), x ≠ 10) ∧ acc ++ linS (l.drop f) = linS l ∧ lineF 0 (linS l) = lineF acc.length (linS (l.drop f)) ∧ (k = l.length + 1 → l.length ≤ f) ∧ Own wr w.heap.size 9 1 RStr v acc ∧ Below w.heap.size w wr ∧ Blk wr w.heap.size 44 #[.int .i64 0, .int .i64 0]) (fun _ _ i _ => l.length + 1 - (intOf i).toNat)
    case atStart => exact ⟨0, 0, [], by omega, by omega, fun _ => Nat.le_refl _, rfl, rfl, Nat.le_refl _, fun x hx => by simp at hx, rfl, rfl, fun h => by omega, Own.nil_ _ _ _ _ _, HB.out, K0.out⟩
    case round =>
      clear HB K0
      obtain ⟨f, k, acc, hfk, hk, hfk2, rfl, rfl, hal, hn, hq, hlf, hend, ho, hb, hk0⟩ := hrel
      have HN := Lib.hid hn
      have HQ := Lib.hid hq
      have HLF := Lib.hid hlf
      have HO := Lib.hid ho
      have HB := Lib.hid hb
      have K0 := Lib.hid hk0
      clear hn hq hlf ho hb hk0
      by_cases hkl : k < l.length
      · obtain ⟨b, o, rfl, hcell⟩ := HS.out.at_ (w' := wr) hkl
        have hc0 := hcell (Kept.of_below HB.out)
        have HX := Lib.hid (List.getElem?_eq_getElem hkl)
        generalize l[k] = x at hc0 HX
        have d1 : decide ((k : Int) < (l.length : Int)) = true := decide_eq_true (by omega)
        have d2 : decide ((k : Int) ≤ (l.length : Int)) = true := decide_eq_true (by omega)
        by_cases hx : x = 10
        · subst hx
          have hst := linS_step (hfk2 (by omega)) HX.out HN.out
          have hpc := conv_bts ((HS.out.kept (Kept.of_below HB.out)).piece (hfk2 (by omega)) (Nat.le_of_lt hkl))
          have d3 : ((k : Int) == (l.length : Int)) = false := by rw [beq_eq_false_iff_ne]; omega
          have hfk3 : f ≤ k := hfk2 (by omega)
          have hcl : l.length ≤ c := (Slc.bd HS.out).1
          have hkc : k ≤ c := by omega
          have hfc : f < c := by omega
          generalize hS : (l.drop f).take (k - f) = S at hpc hst
          have hSl : S.length = k - f := by rw [← hS, List.length_take, List.length_drop]; omega
          rw [hSl] at hpc
          have HPC := Lib.hid hpc
          have HST := Lib.hid hst
          have HSL := Lib.hid hSl
          have hlf2 := HLF.out
          rw [HST.out, lineF_cons] at hlf2
          have hq2 := HQ.out
          rw [HST.out, show acc ++ S :: linS (l.drop (k + 1)) = (acc ++ [S]) ++ linS (l.drop (k + 1)) by simp] at hq2
          have HQ2 := Lib.hid hq2
          have HLF2 := Lib.hid hlf2
          clear hS hpc hst hSl hlf2 hq2 HN
          by_cases h1000 : 1000 < S.length
          · have dl : decide ((1000 : Int) < (S.length : Int)) = true := decide_eq_true (by omega)
            have HG := Lib.hid (show G = ([], 2, (acc.length : Int) + 1) by rw [HGE.out, HLF2.out, if_pos h1000]; rfl)
            clear h1000
            go_wp2_with fail
            rw [HPC.out]
            go_wp2_with (at_builtin; refine wpList_append_el (by rfl) _ _ 73 (by rfl) w.heap.size 9 _ 1 16 Tryd.underlying73 infStrL rfl (by omega) RStr _ acc (by rfl) (HO.out.alloc _) S [.string (bs S)] _ 1 (by rfl) (blk_new1 _ _ _) rfl rfl (by simp [Value.oneCell']) (by omega) (by omega) (by have := HB.out.size; simp; omega) ?_; intro g4 cap w4 ho4 hg4; have HO4 := Lib.hid ho4; have HB4 := Lib.hid ((HO.out.alloc _).below (below_alloc HB.out _) (by have := HB.out.size; simp; omega) hg4); have K4 := Lib.hid ((HO.out.alloc _).blk (K0.out.alloc _) (by decide) hg4); have f0 := K4.out.frozen 0; have f1 := K4.out.frozen 1; have c0 := K4.out.cell 0; have c1 := K4.out.cell 1; (simp only [List.getElem?_toArray, List.getElem?_cons_zero, List.getElem?_cons_succ] at c0 c1); have hsz := K4.out.lt; clear ho4 hg4)
            refine bodyPost_ret (v := .tuple #[.slice none 0 0, .agg #[.int .i64 2, .int .i64 ((acc.length : Int) + 1)]]) (by simp [results, Tryd.results42, go_sem, c0, c1, hsz]; (try rfl)) rfl ?_
            have hb0 := HB4.out
            first | exact RetLn.none_ HG.out (below_alloc (Below.refl _ _) _) | exact RetLn.none_ HG.out ((hb0.setCell (Nat.le_refl _) _).setCell (Nat.le_refl _) _)
          · have dl : decide ((1000 : Int) < (S.length : Int)) = false := decide_eq_false (by omega)
            have HLF3 := Lib.hid (HLF2.out.trans (if_neg h1000))
            have HSK := Lib.hid (show S.length ≤ 1000000 by omega)
            have HRG := Lib.hid (fun W => rgood_any S HSK.out W)
            clear h1000
            generalize goodI S = I at HLF3 HRG
            by_cases hI : 0 ≤ I
            · have dI : decide ((0 : Int) ≤ I) = true := decide_eq_true hI
              have HG := Lib.hid (show G = ([], 3, (acc.length : Int) + 1) by rw [HGE.out, HLF3.out, if_pos hI]; rfl)
              clear hI
              go_wp2_with fail
              rw [HPC.out]
              go_wp2_with (first | (at_builtin; refine wpList_append_el (by rfl) _ _ 73 (by rfl) w.heap.size 9 _ 1 16 Tryd.underlying73 infStrL rfl (by omega) RStr _ acc (by rfl) (HO.out.alloc _) S [.string (bs S)] _ 1 (by rfl) (blk_new1 _ _ _) rfl rfl (by simp [Value.oneCell']) (by omega) (by omega) (by have := HB.out.size; simp; omega) ?_; intro g4 cap w4 ho4 hg4; have HO4 := Lib.hid ho4; have HB4 := Lib.hid ((HO.out.alloc _).below (below_alloc HB.out _) (by have := HB.out.size; simp; omega) hg4); have K4 := Lib.hid ((HO.out.alloc _).blk (K0.out.alloc _) (by decide) hg4); have f0 := K4.out.frozen 0; have f1 := K4.out.frozen 1; have c0 := K4.out.cell 0; have c1 := K4.out.cell 1; (simp only [List.getElem?_toArray, List.getElem?_cons_zero, List.getElem?_cons_succ] at c0 c1); have hsz := K4.out.lt; clear ho4 hg4) | (go_at_call 67; refine (HRG.out _).mono ?_; rintro e w5 ⟨rfl, rfl⟩))
              refine bodyPost_ret (v := .tuple #[.slice none 0 0, .agg #[.int .i64 3, .int .i64 ((acc.length : Int) + 1)]]) (by simp [results, Tryd.results42, go_sem, c0, c1, hsz]; (try rfl)) rfl ?_
              have hb0 := HB4.out
              first | exact RetLn.none_ HG.out (below_alloc (Below.refl _ _) _) | exact RetLn.none_ HG.out ((hb0.setCell (Nat.le_refl _) _).setCell (Nat.le_refl _) _)
            · have dI : decide ((0 : Int) ≤ I) = false := decide_eq_false hI
              have HLF4 := Lib.hid (HLF3.out.trans (if_neg hI))
              clear hI
              go_wp2_with fail
              rw [HPC.out]
              go_wp2_with (first | (at_builtin; refine wpList_append_el (by rfl) _ _ 73 (by rfl) w.heap.size 9 _ 1 16 Tryd.underlying73 infStrL rfl (by omega) RStr _ acc (by rfl) (HO.out.alloc _) S [.string (bs S)] _ 1 (by rfl) (blk_new1 _ _ _) rfl rfl (by simp [Value.oneCell']) (by omega) (by omega) (by have := HB.out.size; simp; omega) ?_; intro g4 cap w4 ho4 hg4; have HO4 := Lib.hid ho4; have HB4 := Lib.hid ((HO.out.alloc _).below (below_alloc HB.out _) (by have := HB.out.size; simp; omega) hg4); have K4 := Lib.hid ((HO.out.alloc _).blk (K0.out.alloc _) (by decide) hg4); have f0 := K4.out.frozen 0; have f1 := K4.out.frozen 1; have c0 := K4.out.cell 0; have c1 := K4.out.cell 1; (simp only [List.getElem?_toArray, List.getElem?_cons_zero, List.getElem?_cons_succ] at c0 c1); have hsz := K4.out.lt; clear ho4 hg4) | (go_at_call 67; refine (HRG.out _).mono ?_; rintro e w5 ⟨rfl, rfl⟩))
              go_roundw
              case rel => exact ⟨k + 1, k + 1, acc ++ [S], by omega, by omega, fun _ => Nat.le_refl _, by simp, by simp, by simp; omega, fun x hx => by simp at hx, HQ2.out, by rw [HLF4.out]; simp, fun h => by omega, HO4.out, HB4.out, K4.out⟩
              case measure => (try simp only [intOf]); omega
        · have d3 : ((x.toNat : Int) != 10) = true := by
            rw [bne_iff_ne]
            intro e
            exact hx (UInt8.toNat_inj.1 (by show x.toNat = 10; omega))
          go_wp2
          go_roundw
          case rel => exact ⟨f, k + 1, acc, by omega, by omega, fun h => by have := hfk2 (by omega); omega, by simp, rfl, hal, fun y hy => (by
            have e1 : (l.drop f).take (k + 1 - f) = (l.drop f).take (k - f) ++ [x] := by
              rw [show k + 1 - f = (k - f) + 1 by have := hfk2 (by omega); omega]
              exact take_step (by rw [List.getElem?_drop, show f + (k - f) = k by have := hfk2 (by omega); omega]; exact HX.out)
            rw [e1, List.mem_append, List.mem_singleton] at hy
            rcases hy with hy | rfl
            · exact HN.out y hy
            · exact hx), HQ.out, HLF.out, fun h => by omega, HO.out, HB.out, K0.out⟩
          case measure => (try simp only [intOf]); omega
      · by_cases hke : k = l.length
        · subst hke
          have d1 : decide ((l.length : Int) < (l.length : Int)) = false := decide_eq_false (by omega)
          have d3 : ((l.length : Int) == (l.length : Int)) = true := by rw [beq_iff_eq]
          by_cases hfe : f = l.length
          · have d4 : ((f : Int) == (l.length : Int)) = true := by rw [beq_iff_eq]; omega
            go_wp2
            go_roundw
            case rel => exact ⟨f, l.length + 1, acc, by omega, by omega, fun h => by omega, by simp, rfl, hal, fun y hy => (by rw [List.drop_eq_nil_of_le (by omega)] at hy; simp at hy), HQ.out, HLF.out, fun _ => by omega, HO.out, HB.out, K0.out⟩
            case measure => (try simp only [intOf]); omega
          · have d4 : ((f : Int) == (l.length : Int)) = false := by rw [beq_eq_false_iff_ne]; omega
            have hfk3 : f ≤ l.length := hfk2 (by omega)
            obtain ⟨b, o, rfl, _⟩ := HS.out.at_ (w' := wr) (show f < l.length by omega)
            have hcl : l.length ≤ c := (Slc.bd HS.out).1
            have hfc : f < c := by omega
            have hst := linS_last (show f < l.length by omega) HN.out
            have hpc := conv_bts ((HS.out.kept (Kept.of_below HB.out)).piece hfk3 (Nat.le_refl _))
            have hkc : l.length ≤ c := hcl
            generalize hS : (l.drop f).take (l.length - f) = S at hpc hst
            have hSl : S.length = l.length - f := by rw [← hS, List.length_take, List.length_drop]; omega
            rw [hSl] at hpc
            have HPC := Lib.hid hpc
            have HST := Lib.hid hst
            have HSL := Lib.hid hSl
            have hlf2 := HLF.out
            rw [HST.out, lineF_cons] at hlf2
            have hq2 := HQ.out
            rw [HST.out, show acc ++ S :: linS (l.drop (l.length + 1)) = (acc ++ [S]) ++ linS (l.drop (l.length + 1)) by simp] at hq2
            have HQ2 := Lib.hid hq2
            have HLF2 := Lib.hid hlf2
            clear hS hpc hst hSl hlf2 hq2 HN
            by_cases h1000 : 1000 < S.length
            · have dl : decide ((1000 : Int) < (S.length : Int)) = true := decide_eq_true (by omega)
              have HG := Lib.hid (show G = ([], 2, (acc.length : Int) + 1) by rw [HGE.out, HLF2.out, if_pos h1000]; rfl)
              clear h1000
              go_wp2_with fail
              rw [HPC.out]
              go_wp2_with (at_builtin; refine wpList_append_el (by rfl) _ _ 73 (by rfl) w.heap.size 9 _ 1 16 Tryd.underlying73 infStrL rfl (by omega) RStr _ acc (by rfl) (HO.out.alloc _) S [.string (bs S)] _ 1 (by rfl) (blk_new1 _ _ _) rfl rfl (by simp [Value.oneCell']) (by omega) (by omega) (by have := HB.out.size; simp; omega) ?_; intro g4 cap w4 ho4 hg4; have HO4 := Lib.hid ho4; have HB4 := Lib.hid ((HO.out.alloc _).below (below_alloc HB.out _) (by have := HB.out.size; simp; omega) hg4); have K4 := Lib.hid ((HO.out.alloc _).blk (K0.out.alloc _) (by decide) hg4); have f0 := K4.out.frozen 0; have f1 := K4.out.frozen 1; have c0 := K4.out.cell 0; have c1 := K4.out.cell 1; (simp only [List.getElem?_toArray, List.getElem?_cons_zero, List.getElem?_cons_succ] at c0 c1); have hsz := K4.out.lt; clear ho4 hg4)
              refine bodyPost_ret (v := .tuple #[.slice none 0 0, .agg #[.int .i64 2, .int .i64 ((acc.length : Int) + 1)]]) (by simp [results, Tryd.results42, go_sem, c0, c1, hsz]; (try rfl)) rfl ?_
              have hb0 := HB4.out
              first | exact RetLn.none_ HG.out (below_alloc (Below.refl _ _) _) | exact RetLn.none_ HG.out ((hb0.setCell (Nat.le_refl _) _).setCell (Nat.le_refl _) _)
            · have dl : decide ((1000 : Int) < (S.length : Int)) = false := decide_eq_false (by omega)
              have HLF3 := Lib.hid (HLF2.out.trans (if_neg h1000))
              have HSK := Lib.hid (show S.length ≤ 1000000 by omega)
              have HRG := Lib.hid (fun W => rgood_any S HSK.out W)
              clear h1000
              generalize goodI S = I at HLF3 HRG
              by_cases hI : 0 ≤ I
              · have dI : decide ((0 : Int) ≤ I) = true := decide_eq_true hI
                have HG := Lib.hid (show G = ([], 3, (acc.length : Int) + 1) by rw [HGE.out, HLF3.out, if_pos hI]; rfl)
                clear hI
                go_wp2_with fail
                rw [HPC.out]
                go_wp2_with (first | (at_builtin; refine wpList_append_el (by rfl) _ _ 73 (by rfl) w.heap.size 9 _ 1 16 Tryd.underlying73 infStrL rfl (by omega) RStr _ acc (by rfl) (HO.out.alloc _) S [.string (bs S)] _ 1 (by rfl) (blk_new1 _ _ _) rfl rfl (by simp [Value.oneCell']) (by omega) (by omega) (by have := HB.out.size; simp; omega) ?_; intro g4 cap w4 ho4 hg4; have HO4 := Lib.hid ho4; have HB4 := Lib.hid ((HO.out.alloc _).below (below_alloc HB.out _) (by have := HB.out.size; simp; omega) hg4); have K4 := Lib.hid ((HO.out.alloc _).blk (K0.out.alloc _) (by decide) hg4); have f0 := K4.out.frozen 0; have f1 := K4.out.frozen 1; have c0 := K4.out.cell 0; have c1 := K4.out.cell 1; (simp only [List.getElem?_toArray, List.getElem?_cons_zero, List.getElem?_cons_succ] at c0 c1); have hsz := K4.out.lt; clear ho4 hg4) | (go_at_call 67; refine (HRG.out _).mono ?_; rintro e w5 ⟨rfl, rfl⟩))
                refine bodyPost_ret (v := .tuple #[.slice none 0 0, .agg #[.int .i64 3, .int .i64 ((acc.length : Int) + 1)]]) (by simp [results, Tryd.results42, go_sem, c0, c1, hsz]; (try rfl)) rfl ?_
                have hb0 := HB4.out
                first | exact RetLn.none_ HG.out (below_alloc (Below.refl _ _) _) | exact RetLn.none_ HG.out ((hb0.setCell (Nat.le_refl _) _).setCell (Nat.le_refl _) _)
              · have dI : decide ((0 : Int) ≤ I) = false := decide_eq_false hI
                have HLF4 := Lib.hid (HLF3.out.trans (if_neg hI))
                clear hI
                go_wp2_with fail
                rw [HPC.out]
                go_wp2_with (first | (at_builtin; refine wpList_append_el (by rfl) _ _ 73 (by rfl) w.heap.size 9 _ 1 16 Tryd.underlying73 infStrL rfl (by omega) RStr _ acc (by rfl) (HO.out.alloc _) S [.string (bs S)] _ 1 (by rfl) (blk_new1 _ _ _) rfl rfl (by simp [Value.oneCell']) (by omega) (by omega) (by have := HB.out.size; simp; omega) ?_; intro g4 cap w4 ho4 hg4; have HO4 := Lib.hid ho4; have HB4 := Lib.hid ((HO.out.alloc _).below (below_alloc HB.out _) (by have := HB.out.size; simp; omega) hg4); have K4 := Lib.hid ((HO.out.alloc _).blk (K0.out.alloc _) (by decide) hg4); have f0 := K4.out.frozen 0; have f1 := K4.out.frozen 1; have c0 := K4.out.cell 0; have c1 := K4.out.cell 1; (simp only [List.getElem?_toArray, List.getElem?_cons_zero, List.getElem?_cons_succ] at c0 c1); have hsz := K4.out.lt; clear ho4 hg4) | (go_at_call 67; refine (HRG.out _).mono ?_; rintro e w5 ⟨rfl, rfl⟩))
                go_roundw
                case rel => exact ⟨l.length + 1, l.length + 1, acc ++ [S], by omega, by omega, fun _ => Nat.le_refl _, by simp, by simp, by simp; omega, fun x hx => by simp at hx, HQ2.out, by rw [HLF4.out]; simp, fun h => by omega, HO4.out, HB4.out, K4.out⟩
                case measure => (try simp only [intOf]); omega
        · have hke : k = l.length + 1 := by omega
          subst hke
          have d1 : decide (((l.length + 1 : Nat) : Int) ≤ (l.length : Int)) = false := decide_eq_false (by omega)
          have hle := hend rfl
          have hq := HQ.out
          have hlf := HLF.out
          rw [List.drop_eq_nil_of_le hle, linS_nil, List.append_nil] at hq
          rw [List.drop_eq_nil_of_le hle, linS_nil] at hlf
          have HG := Lib.hid (show G = (acc, 0, 0) by rw [HGE.out, hlf, hq]; rfl)
          clear hq hlf hle
          have f0 := K0.out.frozen 0
          have f1 := K0.out.frozen 1
          have c0 := K0.out.cell 0
          have c1 := K0.out.cell 1
          simp only [List.getElem?_toArray, List.getElem?_cons_zero, List.getElem?_cons_succ] at c0 c1
          have hsz := K0.out.lt
          obtain ⟨A9, c9, rfl, hz9⟩ := HO.out.slc (z := 16) (by omega)
          have HZ9 := Lib.hid hz9
          clear hz9
          go_wp2
          refine bodyPost_ret (v := .tuple #[.slice A9 acc.length c9, .agg #[.int .i64 0, .int .i64 0]]) (by simp [results, Tryd.results42, go_sem, c0, c1, hsz]; (try rfl)) rfl ?_
          have hb0 := HB.out
          have ho6 := HO.out.setCell (p := ⟨w.heap.size, 0, none⟩) (blk_neL K0.out (by decide)) (.int .i64 0)
          have ho7 := ho6.setCell (p := ⟨w.heap.size, 1, none⟩) (blk_neL (K0.out.set_ 0 _) (by decide)) (.int .i64 0)
          have hz16 : acc.length * 16 ≤ 140737488351232 := by omega
          rw [HG.out]
          exact ⟨A9, c9, rfl, Own.slcOf (z := 16) ho7 hz16, (hb0.setCell (Nat.le_refl _) _).setCell (Nat.le_refl _) _⟩
end Go.Proofs.YtcbomomlojhghaaDoor
