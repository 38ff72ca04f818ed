/- The law RequestBack. -/
import Derived.Test.YtcbomomlojhghaaDoorRbQ
import Derived.Test.YtcbomomlojhghaaDoorPrA
import Derived.Test.YtcbomomlojhghaaDoorRpA
import Derived.Test.YtcbomomlojhghaaDoorRgD
namespace Go.Proofs.YtcbomomlojhghaaDoor
set_option linter.unusedSimpArgs false
set_option linter.unusedVariables false
open Go.RowKit
attribute [local go_sem ↓] Go.wp_at_zero Go.wp_at_succ
theorem mod4 (n : Int) : ∃ m : Nat, m < 4 ∧ (IntKind.u64.wrap n).tmod 4 = m := by
  have h0 : 0 ≤ IntKind.u64.wrap n := by rw [IntKind.wrap_u64]; omega
  refine ⟨((IntKind.u64.wrap n).tmod 4).toNat, ?_, ?_⟩
  · have := Int.tmod_lt_of_pos (IntKind.u64.wrap n) (b := 4) (by decide)
    have := Int.tmod_nonneg 4 h0
    omega
  · have := Int.tmod_nonneg 4 h0
    omega
theorem cat_lit (a : List UInt8) (b : Array UInt8) : bs a ++ (⟨b⟩ : ByteArray) = bs (a ++ b.toList) := by
  apply ByteArray.ext
  simp [bs]
set_option maxRecDepth 100000 in
set_option maxHeartbeats 2000000 in
theorem law_back17 (A : Option Addr) (c : Nat) (l : List Stp) (n : Int) (w : World) (hs : Stps w A c l) (hsh : ∀ a ∈ l, short a.name) (hn : -9223372036854775808 ≤ n ∧ n ≤ 9223372036854775807) (hT : Lib.Utf8Tabs 0 1 w) :
    Calls Tryd.prog 5 #[.slice A l.length c, .int .i64 n] w fun e w' => e = .returned (.bool true) ∧ Below w.heap.size w w' := by
  have HB := Lib.hid (Below.refl w.heap.size w)
  by_cases h20 : 20 < l.length
  · have d20 : decide ((20 : Int) < (l.length : Int)) = true := decide_eq_true (by omega)
    clear h20
    go_enter Tryd.func5, Tryd.ntmps5
    go_wp2_with fail
    refine (awake17_any _).mono ?_
    rintro e w9 ⟨rfl, hb9⟩
    go_wp2
    go_ret
    exact ⟨rfl, below_next HB.out hb9⟩
  · have d20 : decide ((20 : Int) < (l.length : Int)) = false := decide_eq_false (by omega)
    have HT := Lib.hid hT
    have HS := Lib.hid (fun (W : World) (h : Below w.heap.size w W) => hs.kept (Kept.of_below h))
    have HP1 := Lib.hid (qprint_any l A c w hs hsh)
    have HM1 := Lib.hid (fun (W : World) (h : Below w.heap.size w W) => qmay_any l A c W (HS.out W h) hsh)
    have hok := fun h => mayQs_ok (l := l) h
    have hp1 := fun h => parse_print (l := l) h
    have hp2 := fun m h => parse_wide (G := gapN m) (gapN_is m).1 (gapN_is m).2.1 (l := l) h
    clear h20 hs hsh hT
    by_cases hM : mayQs l = 0
    · rw [if_pos hM] at HP1
      have HW1 := Lib.hid (hp1 hM)
      obtain ⟨m, hm4, hmn⟩ := mod4 n
      obtain ⟨hgw, hg0, hgl⟩ := gapN_is m
      obtain ⟨hw2, hw3⟩ := parse_wide (G := gapN m) hgw hg0 (by omega) hM
      have hpl : (printQ l).length ≤ 600 := by have := printQ_len (hok hM).2.2.1; have := (hok hM).2.1; omega
      have HW2 := Lib.hid hw2
      have HW3 := Lib.hid hw3
      clear hok hp1 hp2 hM HM1 hw2 hw3 hgw hg0
      generalize printQ l = P at HP1 HW1 HW2 HW3 hpl
      go_enter Tryd.func5, Tryd.ntmps5
      go_wp2_with fail
      refine HP1.out.mono ?_
      rintro e w1 ⟨A1, c1, rfl, hs1, hb1⟩
      have HB := Lib.hid hb1
      have HBY := Lib.hid hs1
      have HQ := Lib.hid (qParseB_any P A1 c1 w1 hs1 (tabs_kept HT.out (Kept.of_below hb1)))
      rw [HW1.out] at HQ
      clear hs1 hb1 HP1 HW1
      dsimp only at HBY ⊢
      go_wp2_with fail
      refine HQ.out.mono ?_
      rintro e w2 ⟨A2, c2, rfl, hs2, hb2⟩
      have HB := Lib.hid (below_alloc (below_next HB.out hb2) (.cells #[.int .i64 0, .int .i64 0] 44))
      have K1 := Lib.hid (blk_new1 w2 44 #[.int .i64 0, .int .i64 0])
      have HS2 := Lib.hid (hs2.kept (Kept.alloc w2 (.cells #[.int .i64 0, .int .i64 0] 44)))
      have HBY := Lib.hid ((HBY.out.kept (Kept.of_below hb2)).kept (Kept.alloc w2 (.cells #[.int .i64 0, .int .i64 0] 44)))
      clear hs2 hb2 HQ
      dsimp only at HS2 ⊢
      go_wp2
      generalize hW : w2.alloc (.cells #[.int .i64 0, .int .i64 0] 44) = W at HB K1 HS2 HBY ⊢
      go_loopw [9, 45] (fun v i wr => ∃ j : Nat, j ≤ m ∧ i = .int .u64 j ∧ v = .string (bs (gapN j)) ∧ wr = W) (fun _ i _ => m - (intOf i).toNat)
      case atStart => exact ⟨0, Nat.zero_le _, rfl, rfl, by first | rfl | trivial⟩
      case round =>
        obtain ⟨j, hj, rfl, rfl, hww⟩ := hrel
        subst hww
        by_cases hjm : j < m
        · have dj : decide ((j : Int) < (m : Int)) = true := decide_eq_true (by omega)
          have hjl := (gapN_is j).2.2
          have z1 : (bs (gapN j)).size + (⟨#[9, 32]⟩ : ByteArray).size ≤ 9223372036854775807 := by show (gapN j).length + 2 ≤ _; omega
          have hwu : IntKind.u64.wrap ((j : Int) + 1) = (j : Int) + 1 := by rw [IntKind.wrap_u64]; omega
          go_wp2
          go_roundw
          case rel => exact ⟨j + 1, by omega, by simp, by rw [gapN]; first | rfl | (congr 1; apply ByteArray.ext; simp [bs]), by first | rfl | trivial⟩
          case measure => (try simp only [intOf]); omega
        · obtain rfl : j = m := by omega
          have dj : decide ((j : Int) < (j : Int)) = false := decide_eq_false (by omega)
          have hgl8 : (gapN j).length ≤ 8 := by omega
          generalize gapN j = G at HW2 HW3 hgl hgl8 ⊢
          have hgs : (bs G).size = G.length := rfl
          go_wp2
          go_loopw [10, 52] (fun v i wz => ∃ k : Nat, k ≤ P.length ∧ i = .int .i64 k ∧ v = .string (bs (headW ++ wideB G (P.take k))) ∧ wz = wr) (fun _ i _ => P.length - (intOf i).toNat)
          case atStart => exact ⟨0, Nat.zero_le _, rfl, rfl, by first | rfl | trivial⟩
          case round =>
            obtain ⟨k, hk, rfl, rfl, hww⟩ := hrel
            subst hww
            have hvl : (headW ++ wideB G (P.take k)).length ≤ 20000 := by
              have h1 := wide_len hgl8 (P.take k)
              rw [List.length_take] at h1
              rw [List.length_append]
              have : headW.length = 5 := rfl
              omega
            by_cases hkl : k < P.length
            · have dk : decide ((k : Int) < (P.length : Int)) = true := decide_eq_true (by omega)
              obtain ⟨b, o, rfl, hcell⟩ := HBY.out.at_ (w' := wr) hkl
              have e0 := hcell (Kept.refl _)
              have hx := List.getElem?_eq_getElem hkl
              have hst := fun G => wide_step (G := G) hx
              have hpc := conv_bts (HBY.out.piece (f := k) (k := k + 1) (by omega) (by omega))
              have hsl : ((P.drop k).take (k + 1 - k)) = [P[k]] := by
                rw [show k + 1 - k = 1 by omega, List.drop_eq_getElem_cons hkl]
                rfl
              rw [hsl] at hpc
              have hcl : P.length ≤ c1 := (Slc.bd HBY.out).1
              have hkc : k < c1 := by omega
              have hst : headW ++ wideB G (P.take (k + 1)) = (headW ++ wideB G (P.take k)) ++ wideC G (P[k]) := by rw [hst G, List.append_assoc]
              generalize P[k] = x at e0 hst hpc
              generalize headW ++ wideB G (P.take k) = V at hst hvl
              have hvs : (bs V).size = V.length := rfl
              have HPC := Lib.hid (show (Go.convert 41 9 (.slice (some ⟨b, o + k, none⟩) 1 (c1 - k))).run Tryd.prog wr = .ok (.string (bs [x])) wr from hpc)
              clear hx hsl hpc hcell
              unfold wideC at hst
              by_cases h32 : x = 32
              · have c32 : ((x.toNat : Int) == 32) = true := by rw [h32]; rfl
                rw [if_pos h32] at hst
                have HST := Lib.hid hst
                have z1 : (bs V).size + (bs G).size ≤ 9223372036854775807 := by show V.length + G.length ≤ _; omega
                clear hst h32 HPC hvs
                go_wp2
                go_roundw
                case rel => exact ⟨k + 1, by omega, by simp, by (rw [HST.out]; try (first | rfl | (congr 1; done) | (congr 1; apply ByteArray.ext; simp [bs]))), by first | rfl | trivial⟩
                case measure => (try simp only [intOf]); omega
              · have c32 : ((x.toNat : Int) == 32) = false := by
                  rw [beq_eq_false_iff_ne]
                  intro e
                  exact h32 (UInt8.toNat_inj.1 (by show x.toNat = 32; omega))
                rw [if_neg h32] at hst
                by_cases h10 : x = 10
                · have c10 : ((x.toNat : Int) == 10) = true := by rw [h10]; rfl
                  rw [if_pos h10] at hst
                  have HST := Lib.hid hst
                  have z1 : (bs G).size + (⟨#[10]⟩ : ByteArray).size ≤ 9223372036854775807 := by show G.length + 1 ≤ _; omega
                  have z2 : (bs G ++ (⟨#[10]⟩ : ByteArray)).size + (bs G).size ≤ 9223372036854775807 := by rw [ByteArray.size_append]; show G.length + 1 + G.length ≤ _; omega
                  have z3 : (bs G ++ (⟨#[10]⟩ : ByteArray) ++ bs G).size + (⟨#[10, 35, 10]⟩ : ByteArray).size ≤ 9223372036854775807 := by rw [ByteArray.size_append, ByteArray.size_append]; show G.length + 1 + G.length + 3 ≤ _; omega
                  have z4 : (bs V).size + (bs G ++ (⟨#[10]⟩ : ByteArray) ++ bs G ++ (⟨#[10, 35, 10]⟩ : ByteArray)).size ≤ 9223372036854775807 := by rw [ByteArray.size_append, ByteArray.size_append, ByteArray.size_append]; show V.length + (G.length + 1 + G.length + 3) ≤ _; omega
                  clear hst h32 h10 HPC hvs
                  go_wp2
                  go_roundw
                  case rel => exact ⟨k + 1, by omega, by simp, by (rw [HST.out]; try (first | rfl | (congr 1; done) | (congr 1; apply ByteArray.ext; simp [bs]))), by first | rfl | trivial⟩
                  case measure => (try simp only [intOf]); omega
                · have c10 : ((x.toNat : Int) == 10) = false := by
                    rw [beq_eq_false_iff_ne]
                    intro e
                    exact h10 (UInt8.toNat_inj.1 (by show x.toNat = 10; omega))
                  rw [if_neg h10] at hst
                  have HST := Lib.hid hst
                  have z1 : (bs V).size + (bs [x]).size ≤ 9223372036854775807 := by show V.length + 1 ≤ _; omega
                  have hk1 : k + 1 ≤ c1 := by omega
                  have hk2 : k ≤ k + 1 := by omega
                  have hkw : IntKind.i64.wrap ((k : Int) + 1) = (k : Int) + 1 := by rw [IntKind.wrap_i64]; omega
                  clear hst h32 h10 hvs
                  go_wp2_with fail
                  rw [HPC.out]
                  go_wp2
                  go_roundw
                  case rel => exact ⟨k + 1, by omega, by simp, by (rw [HST.out]; try (first | rfl | (congr 1; done) | (congr 1; apply ByteArray.ext; simp [bs]))), by first | rfl | trivial⟩
                  case measure => (try simp only [intOf]); omega
            · have dk : decide ((k : Int) < (P.length : Int)) = false := decide_eq_false (by omega)
              have htk : P.take k = P := List.take_of_length_le (by omega)
              rw [htk] at hvl ⊢
              obtain ⟨c9, w10, hcv, hbt, hb10⟩ := conv_to (headW ++ wideB G P) (by omega) wr
              have HCV := Lib.hid hcv
              have HBT := Lib.hid hbt
              have HB10 := Lib.hid hb10
              have HTW := Lib.hid (tabs_kept HT.out (Kept.of_below (below_next HB.out hb10)))
              have K1 := Lib.hid (K1.out.next hb10)
              have HS2 := Lib.hid (HS2.out.kept (Kept.of_below hb10))
              clear hcv hbt hb10 htk
              generalize headW ++ wideB G P = V at HW2 HCV HBT hvl ⊢
              go_wp2_with fail
              rw [HCV.out]
              go_wp2_with fail
              have HQ := Lib.hid (qParseB_any V _ c9 w10 HBT.out HTW.out)
              rw [HW2.out] at HQ
              refine HQ.out.mono ?_
              rintro e w11 ⟨A3, c3, rfl, hs3, hb11⟩
              have HB := Lib.hid (below_alloc (below_next (below_next HB.out HB10.out) hb11) (.cells #[.int .i64 0, .int .i64 0] 44))
              have K2 := Lib.hid (blk_new1 w11 44 #[.int .i64 0, .int .i64 0])
              have K1 := Lib.hid ((K1.out.next hb11).alloc (.cells #[.int .i64 0, .int .i64 0] 44))
              have HS3 := Lib.hid (hs3.kept (Kept.alloc w11 (.cells #[.int .i64 0, .int .i64 0] 44)))
              have HS2 := Lib.hid ((HS2.out.kept (Kept.of_below hb11)).kept (Kept.alloc w11 (.cells #[.int .i64 0, .int .i64 0] 44)))
              clear hs3 hb11 HQ
              dsimp only at HS3 ⊢
              have a0 := K1.out.cell 0
              have b0 := K2.out.cell 0
              simp only [List.getElem?_toArray, List.getElem?_cons_zero, List.getElem?_cons_succ] at a0 b0
              go_wp2_with fail
              refine (same17_any l A c A2 c2 _ (HS.out _ HB.out) HS2.out).mono ?_
              rintro e w12 ⟨rfl, hb12⟩
              have HB12 := Lib.hid (below_next HB.out hb12)
              have b1 := (K2.out.next hb12).cell 0
              simp only [List.getElem?_toArray, List.getElem?_cons_zero, List.getElem?_cons_succ] at b1
              go_wp2_with fail
              refine (same17_any l A c A3 c3 _ (HS.out _ HB12.out) (HS3.out.kept (Kept.of_below hb12))).mono ?_
              rintro e w13 ⟨rfl, hb13⟩
              have HB := Lib.hid (below_next HB12.out hb13)
              clear hb12 hb13 a0 b0 b1
              go_wp2_with fail
              refine (awake17_any _).mono ?_
              rintro e w9 ⟨rfl, hb9⟩
              go_wp2
              go_ret
              exact ⟨rfl, below_next HB.out hb9⟩
    · have HE := Lib.hid hM
      rw [if_neg hM] at HP1
      have hMb : (mayQs l != 0) = true := by rw [bne_iff_ne]; exact hM
      clear hok hp1 hp2 hM
      generalize mayQs l = M at HP1 HM1 HE hMb
      go_enter Tryd.func5, Tryd.ntmps5
      go_wp2_with fail
      refine HP1.out.mono ?_
      rintro e w1 ⟨A1, c1, rfl, hs1, hb1⟩
      have HB := Lib.hid hb1
      clear hs1 hb1 HP1
      go_wp2_with fail
      refine (HM1.out _ HB.out).mono ?_
      rintro e w2 ⟨rfl, hb2⟩
      have HB := Lib.hid (below_next HB.out hb2)
      clear hb2 HM1
      go_wp2_with fail
      refine (awake17_any _).mono ?_
      rintro e w9 ⟨rfl, hb9⟩
      go_wp2
      go_ret
      exact ⟨rfl, below_next HB.out hb9⟩
end Go.Proofs.YtcbomomlojhghaaDoor
