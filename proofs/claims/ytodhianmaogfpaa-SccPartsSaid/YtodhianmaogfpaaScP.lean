/- The law SccOrders. -/
import Derived.Test.YtodhianmaogfpaaTjJ
import Derived.Test.YtodhianmaogfpaaScL
import Derived.BigQuiet
namespace Go.Proofs.Ytodhianmaogfpaa
set_option linter.unusedSimpArgs false
set_option linter.unusedVariables false
open Go.RowKit
attribute [local go_sem ↓] Go.wp_at_zero Go.wp_at_succ
set_option maxRecDepth 100000 in
set_option maxHeartbeats 10000000 in
theorem law_orders (n0 : Int) (A : Option Addr) (c : Nat) (l : List (Int × Int)) (f : Int) (w : World) (hl : Edges w A c l) :
    Calls Try.prog 6 #[.int .i64 n0, .slice A l.length c, .int .i64 f] w fun e w' => e = .returned (.bool true) ∧ Below w.heap.size w w' := by
  have hbd := Slc.bd' hl
  have HL := Lib.hid hl
  clear hl
  obtain ⟨m, hm⟩ : ∃ m, min n0 24 = m := ⟨_, rfl⟩
  obtain ⟨n, hn⟩ : ∃ n : Nat, max 0 m = (n : Int) := ⟨(max 0 m).toNat, by omega⟩
  have hn24 : n ≤ 24 := by omega
  have hmx : max 0 (min m 2000) = (n : Int) := by omega
  have HM := Lib.hid hmx
  obtain ⟨G, hG⟩ : ∃ G, G = gE n (vE n l) := ⟨_, rfl⟩
  obtain ⟨out, hc⟩ := comps_ex (n := n) (G := gE n (vE n l)) gE_gr
  have HC := Lib.hid hc
  have HG := Lib.hid hG
  clear hmx hc hG
  go_enter Try.func6, Try.ntmps6
  go_wp2_with fail
  refine (order_any m A c l n HM.out w HL.out out HC.out).mono ?_
  rintro e w1 ⟨o, B1, d1, rfl, ho, hov, hb1⟩
  have hbo := ho.bd
  obtain ⟨cs, hcs⟩ : ∃ cs, cs = canS n (adjE (vE n l)) out := ⟨_, rfl⟩
  have HO := Lib.hid ho
  have HOV := Lib.hid hov
  have HB1 := Lib.hid hb1
  have HCS := Lib.hid hcs
  rw [← hcs]
  clear ho hov hb1 hcs
  go_wp2_with fail
  refine (graph_any n (by omega) A c l _ (HL.out.kept (Kept.of_below HB1.out))).mono ?_
  rintro e w2 ⟨gb, rfl, hmat, hb2⟩
  have HMT := Lib.hid hmat
  have HB2 := Lib.hid (below_next HB1.out hb2)
  have HB12 := Lib.hid hb2
  clear hmat hb2
  go_wp2_with fail
  refine (rcomps_any n (by omega) A c l _ (HL.out.kept (Kept.of_below HB2.out))).mono ?_
  rintro e w3 ⟨out', B3, d3, rfl, hl3, hc3, hb3⟩
  obtain rfl := hc3.uniq HC.out
  have hbd3 := Slc.bd' hl3
  have HL3 := Lib.hid hl3
  have HMT := Lib.hid (HMT.out.kept (Kept.of_below hb3))
  have HB3 := Lib.hid (below_next HB2.out hb3)
  have HB13 := Lib.hid (below_next HB12.out hb3)
  clear hl3 hc3 hb3
  obtain ⟨bf, hm1, hm2⟩ := HMT.out
  rw [← HG.out] at hm2
  have HM1 := Lib.hid hm1
  have HM2 := Lib.hid hm2
  clear hm1 hm2 HMT hm hn
  go_wp2_with fail
  go_loopw [12, 38] (fun cv i wr => ∃ (k : Nat) (cb : Bool), k ≤ l.length ∧ i = .int .i64 k ∧ cv = .bool cb ∧ cb = canP n G (l.take k) ∧ Below w3.heap.size w3 wr) (fun _ i _ => l.length - (intOf i).toNat)
  case atStart => exact ⟨0, true, Nat.zero_le _, rfl, rfl, rfl, Below.refl _ _⟩
  case round =>
    obtain ⟨k, cb, hk, rfl, rfl, hcb, hb⟩ := hrel
    have HCB := Lib.hid hcb
    have HB := Lib.hid hb
    clear hcb hb
    by_cases hlt : k < l.length
    · obtain ⟨x, b, o2, hx, rfl, e0, e1⟩ := HL.out.at_ hlt (Kept.of_below (below_next HB3.out HB.out))
      have HX := Lib.hid hx
      clear hx
      have hokc : okE n x = (decide (0 ≤ x.1) && decide (x.1 < (n : Int)) && decide (0 ≤ x.2) && decide (x.2 < (n : Int))) := rfl
      by_cases ha : 0 ≤ x.1
      · have hd1 : decide (0 ≤ x.1) = true := decide_eq_true ha
        by_cases ha2 : x.1 < (n : Int)
        · have hd2 : decide (x.1 < (n : Int)) = true := decide_eq_true ha2
          by_cases hb : 0 ≤ x.2
          · have hd3 : decide (0 ≤ x.2) = true := decide_eq_true hb
            by_cases hb2 : x.2 < (n : Int)
            · obtain ⟨a, rfl⟩ : ∃ a : Nat × Nat, x = ((a.1 : Int), (a.2 : Int)) := ⟨(x.1.toNat, x.2.toNat), by obtain ⟨x1, x2⟩ := x; simp only at *; simp; omega⟩
              obtain ⟨a, b2⟩ := a
              simp only at *
              have han : a < n := by omega
              have hbn : b2 < n := by omega
              have hd4 : decide ((b2 : Int) < (n : Int)) = true := decide_eq_true hb2
              have hd5 : decide (a < n) = true := decide_eq_true han
              have hd6 : decide (b2 < n) = true := decide_eq_true hbn
              have hg1 := Kept.of_below HB.out _ _ (HM1.out b2 hbn)
              have hg2 := Kept.of_below HB.out _ _ (HM2.out b2 a hbn han)
              have hk1 := Kept.alloc wr (.cells #[.int .i64 (a : Int), .int .i64 (b2 : Int)] 29) _ _ hg1
              have hat : ((a : Int)).toNat = a := Int.toNat_natCast _
              have hbt : ((b2 : Int)).toNat = b2 := Int.toNat_natCast _
              have hok : okE n ((a : Int), (b2 : Int)) = true := by simp only [okE, Bool.and_eq_true, decide_eq_true_eq]; omega
              cases hgv : G b2 a with
              | true =>
                rw [hgv] at hg2
                have hk2 := Kept.alloc wr (.cells #[.int .i64 (a : Int), .int .i64 (b2 : Int)] 29) _ _ hg2
                have HN := Lib.hid (show false = canP n G (l.take (k + 1)) by rw [take_step HX.out, canP_snoc, hok]; simp [hgv])
                clear hgv hok hokc
                go_wp2_with fail
                go_quiet (fail)
                go_wp2_with fail
                go_roundw
                case rel => exact ⟨k + 1, false, by omega, by simp, rfl, HN.out, by have hb0 := HB.out; (repeat (first | assumption | exact Below.refl _ _ | refine below_next ?_ (by assumption) | refine below_drewN ?_ _ | refine below_alloc ?_ _))⟩
                case measure => (try simp only [intOf]); omega
              | false =>
                rw [hgv] at hg2
                have hk2 := Kept.alloc wr (.cells #[.int .i64 (a : Int), .int .i64 (b2 : Int)] 29) _ _ hg2
                have HN := Lib.hid (show cb = canP n G (l.take (k + 1)) by rw [take_step HX.out, canP_snoc, hok, ← HCB.out]; simp [hgv])
                clear hgv hok hokc
                go_wp2_with fail
                go_quiet (fail)
                go_wp2_with fail
                go_roundw
                case rel => exact ⟨k + 1, cb, by omega, by simp, rfl, HN.out, by have hb0 := HB.out; (repeat (first | assumption | exact Below.refl _ _ | refine below_next ?_ (by assumption) | refine below_drewN ?_ _ | refine below_alloc ?_ _))⟩
                case measure => (try simp only [intOf]); omega
            · have hd4 : decide (x.2 < (n : Int)) = false := decide_eq_false hb2
              have HN := Lib.hid (show cb = canP n G (l.take (k + 1)) by rw [take_step HX.out, canP_snoc, ← HCB.out, show okE n x = false by rw [hokc]; simp; omega]; simp)
              clear hokc
              go_wp2_with fail
              go_quiet (fail)
              go_wp2_with fail
              go_roundw
              case rel => exact ⟨k + 1, cb, by omega, by simp, rfl, HN.out, by have hb0 := HB.out; (repeat (first | assumption | exact Below.refl _ _ | refine below_next ?_ (by assumption) | refine below_drewN ?_ _ | refine below_alloc ?_ _))⟩
              case measure => (try simp only [intOf]); omega
          · have hd3 : decide (0 ≤ x.2) = false := decide_eq_false hb
            have HN := Lib.hid (show cb = canP n G (l.take (k + 1)) by rw [take_step HX.out, canP_snoc, ← HCB.out, show okE n x = false by rw [hokc]; simp; omega]; simp)
            clear hokc
            go_wp2_with fail
            go_quiet (fail)
            go_wp2_with fail
            go_roundw
            case rel => exact ⟨k + 1, cb, by omega, by simp, rfl, HN.out, by have hb0 := HB.out; (repeat (first | assumption | exact Below.refl _ _ | refine below_next ?_ (by assumption) | refine below_drewN ?_ _ | refine below_alloc ?_ _))⟩
            case measure => (try simp only [intOf]); omega
        · have hd2 : decide (x.1 < (n : Int)) = false := decide_eq_false ha2
          have HN := Lib.hid (show cb = canP n G (l.take (k + 1)) by rw [take_step HX.out, canP_snoc, ← HCB.out, show okE n x = false by rw [hokc]; simp; omega]; simp)
          clear hokc
          go_wp2_with fail
          go_quiet (fail)
          go_wp2_with fail
          go_roundw
          case rel => exact ⟨k + 1, cb, by omega, by simp, rfl, HN.out, by have hb0 := HB.out; (repeat (first | assumption | exact Below.refl _ _ | refine below_next ?_ (by assumption) | refine below_drewN ?_ _ | refine below_alloc ?_ _))⟩
          case measure => (try simp only [intOf]); omega
      · have hd1 : decide (0 ≤ x.1) = false := decide_eq_false ha
        have HN := Lib.hid (show cb = canP n G (l.take (k + 1)) by rw [take_step HX.out, canP_snoc, ← HCB.out, show okE n x = false by rw [hokc]; simp; omega]; simp)
        clear hokc
        go_wp2_with fail
        go_quiet (fail)
        go_wp2_with fail
        go_roundw
        case rel => exact ⟨k + 1, cb, by omega, by simp, rfl, HN.out, by have hb0 := HB.out; (repeat (first | assumption | exact Below.refl _ _ | refine below_next ?_ (by assumption) | refine below_drewN ?_ _ | refine below_alloc ?_ _))⟩
        case measure => (try simp only [intOf]); omega
    · have hlk : l.take k = l := List.take_of_length_le (by omega)
      have hcb := HCB.out
      rw [hlk] at hcb
      have HCB2 := Lib.hid hcb
      clear hlk hcb HCB
      go_wp2_with fail
      obtain ⟨w4, rfl⟩ : ∃ w4 : World, w4 = wr := ⟨_, rfl⟩
      go_loopw [15, 76] (fun fv i wi => ∃ m : Nat, m ≤ out'.length ∧ i = .int .i64 m ∧ Row wi w4.heap.size fv (out'.take m).flatten ∧ Below w4.heap.size w4 wi) (fun _ i _ => out'.length - (intOf i).toNat)
      case atStart => exact ⟨0, Nat.zero_le _, rfl, Own.nil_ _ _ _ _ _, Below.refl _ _⟩
      case round =>
        obtain ⟨j, hj, rfl, hrow, hbw⟩ := hrel
        have HROW := Lib.hid hrow
        have HBW := Lib.hid hbw
        have hfl := flat_lenB (b := n) (m := out'.take j) fun c hc => (HC.out.ci gE_gr).lens c (List.mem_of_mem_take hc)
        have hol := (HC.out.ci gE_gr).len gE_gr
        have hfl2 : (out'.take j).flatten.length ≤ 576 := by
          rw [List.length_take] at hfl
          have h1 : min j out'.length * n ≤ 24 * 24 := Nat.mul_le_mul (by omega) (by omega)
          omega
        clear hrow hbw hfl
        by_cases hjl : j < out'.length
        · obtain ⟨x, b, o2, A4, c4, hx, hBx, h4, e0⟩ := HL3.out.at_ hjl (Kept.of_below (below_next HB.out HBW.out))
          have HX := Lib.hid hx
          have hxl := (HC.out.ci gE_gr).lens x (List.mem_of_getElem? hx)
          have H4 := Lib.hid (h4.kept (Kept.of_below (below_next HB.out HBW.out)))
          have hj0 : (0 : Int) ≤ (j : Int) := Int.natCast_nonneg _
          have hj1 : (j : Int) < (out'.length : Int) := by omega
          clear hx h4
          subst hBx
          go_wp2_with (at_builtin; refine wpList_append_all (by rfl) _ _ 26 (by rfl) w4.heap.size 3 _ 1 8 8 Try.underlying26 infNat rfl (by omega) RNat _ _ (by rfl) HROW.out A4 c4 x (by rfl) H4.out nat_one (by omega) (by omega) HBW.out.size ?_; intro v8 w8 ho8 hg8; have HR8 := Lib.hid ho8; have HB8 := Lib.hid (HROW.out.below HBW.out HBW.out.size hg8); clear ho8 hg8)
          go_roundw
          case rel => exact ⟨j + 1, by omega, by simp, by rw [take_step HX.out, List.flatten_append]; simpa using HR8.out, HB8.out⟩
          case measure => (try simp only [intOf]); omega
        · have hle : out'.take j = out' := List.take_of_length_le (by omega)
          have hrow := HROW.out
          rw [hle] at hrow hfl2
          obtain ⟨A5, c5, hv5, hs5⟩ := hrow.slc (z := 8) (by omega)
          subst hv5
          obtain ⟨w5, rfl⟩ : ∃ w5 : World, w5 = wr := ⟨_, rfl⟩
          have HF0 := Lib.hid (show Ints w5 A5 c5 out'.flatten from hs5)
          have HB5 := Lib.hid (below_next (below_next HB3.out HB.out) HBW.out)
          have HBO5 := Lib.hid (below_next (below_next HB13.out HB.out) HBW.out)
          have HM5 := Lib.hid (show (∀ i, i < n → w5.cell? ⟨gb, i, none⟩ = some (.slice (some ⟨bf i, 0, none⟩) n n)) ∧ (∀ i j, i < n → j < n → w5.cell? ⟨bf i, j, none⟩ = some (.bool (G i j))) from ⟨fun i hi => Kept.of_below (below_next HB.out HBW.out) _ _ (HM1.out i hi), fun i j hi hj => Kept.of_below (below_next HB.out HBW.out) _ _ (HM2.out i j hi hj)⟩)
          clear hrow hs5 hle HROW HBW HB HM1 HM2 HB12 HB13 HB1 HB2 HB3 hol hj
          cases cb with
          | true =>
            have HSM := Lib.hid (show l.length ≤ 20000 → cs = true ∧ o = out'.flatten from fun h => by
              have h1 := can_eq h HC.out
              rw [← HCS.out, ← HG.out, ← HCB2.out] at h1
              refine ⟨h1, ?_⟩
              rw [HOV.out]
              exact ord_yes (by rw [← HCS.out]; exact h1))
            generalize out'.flatten = fl at HF0 HSM hfl2 ⊢
            have HF := HF0
            clear HCS HOV HCB2 HC
            by_cases hf0 : f < 0
            · have hd0 : decide (0 ≤ f) = false := decide_eq_false (by omega)
              have HRV := Lib.hid (show [] = reachV n (vE n l) f by unfold reachV; rw [if_neg (by omega)])
              have HRE := Lib.hid (show Ints w5 none 0 [] from Slc.nil_ (Nat.zero_le _))
              have HBZ := Lib.hid HB5.out
              have HBO := Lib.hid HBO5.out
              by_cases hbig : 20000 < l.length
              · go_wp2_with fail
                go_ret
                exact ⟨rfl, HBZ.out⟩
              · obtain ⟨rfl, rfl⟩ := HSM.out (by omega)
                go_wp2_with fail
                refine (sameInts_self B1 _ d1 _ _ _ (HO.out.kept (Kept.of_below HBO.out)) HF.out).mono ?_
                rintro e w7 ⟨rfl, hb7⟩
                have HB7 := Lib.hid (below_next HBZ.out hb7)
                have HRE7 := Lib.hid (HRE.out.kept (Kept.of_below hb7))
                clear hb7
                go_wp2_with fail
                refine (reach_any m A c l _ HM.out _ _ (HL.out.kept (Kept.of_below HB7.out))).mono ?_
                rintro e w8 ⟨re8, B8, d8, rfl, hr8, hv8, hb8⟩
                have hvv := hv8.trans HRV.out.symm
                subst hvv
                have HR8 := Lib.hid hr8
                have HRE8 := Lib.hid (HRE7.out.kept (Kept.of_below hb8))
                have HB8 := Lib.hid (below_next HB7.out hb8)
                clear hb8 hr8 hv8
                go_wp2_with fail
                refine (sameInts_self B8 _ d8 _ _ _ HR8.out HRE8.out).mono ?_
                rintro e w9 ⟨rfl, hb9⟩
                have HB9 := Lib.hid (below_next HB8.out hb9)
                clear hb9
                go_wp2_with fail
                refine (awake21_any _).mono ?_
                rintro e w10 ⟨rfl, hb10⟩
                go_wp2_with fail
                go_ret
                exact ⟨rfl, below_next HB9.out hb10⟩
            · have hd0 : decide (0 ≤ f) = true := decide_eq_true (by omega)
              by_cases hf1 : (n : Int) ≤ f
              · have hd1 : decide (f < (n : Int)) = false := decide_eq_false (by omega)
                have HRV := Lib.hid (show [] = reachV n (vE n l) f by unfold reachV; rw [if_neg (by omega)])
                have HRE := Lib.hid (show Ints w5 none 0 [] from Slc.nil_ (Nat.zero_le _))
                have HBZ := Lib.hid HB5.out
                have HBO := Lib.hid HBO5.out
                by_cases hbig : 20000 < l.length
                · go_wp2_with fail
                  go_ret
                  exact ⟨rfl, HBZ.out⟩
                · obtain ⟨rfl, rfl⟩ := HSM.out (by omega)
                  go_wp2_with fail
                  refine (sameInts_self B1 _ d1 _ _ _ (HO.out.kept (Kept.of_below HBO.out)) HF.out).mono ?_
                  rintro e w7 ⟨rfl, hb7⟩
                  have HB7 := Lib.hid (below_next HBZ.out hb7)
                  have HRE7 := Lib.hid (HRE.out.kept (Kept.of_below hb7))
                  clear hb7
                  go_wp2_with fail
                  refine (reach_any m A c l _ HM.out _ _ (HL.out.kept (Kept.of_below HB7.out))).mono ?_
                  rintro e w8 ⟨re8, B8, d8, rfl, hr8, hv8, hb8⟩
                  have hvv := hv8.trans HRV.out.symm
                  subst hvv
                  have HR8 := Lib.hid hr8
                  have HRE8 := Lib.hid (HRE7.out.kept (Kept.of_below hb8))
                  have HB8 := Lib.hid (below_next HB7.out hb8)
                  clear hb8 hr8 hv8
                  go_wp2_with fail
                  refine (sameInts_self B8 _ d8 _ _ _ HR8.out HRE8.out).mono ?_
                  rintro e w9 ⟨rfl, hb9⟩
                  have HB9 := Lib.hid (below_next HB8.out hb9)
                  clear hb9
                  go_wp2_with fail
                  refine (awake21_any _).mono ?_
                  rintro e w10 ⟨rfl, hb10⟩
                  go_wp2_with fail
                  go_ret
                  exact ⟨rfl, below_next HB9.out hb10⟩
              · obtain ⟨r, rfl⟩ : ∃ r : Nat, f = (r : Int) := ⟨f.toNat, by omega⟩
                have hrn : r < n := by omega
                have hd1 : decide ((r : Int) < (n : Int)) = true := decide_eq_true (by omega)
                have hd2 : decide (r < n) = true := decide_eq_true hrn
                have hr0 : (0 : Int) ≤ (r : Int) := by omega
                have hr1 : (r : Int) < (n : Int) := by omega
                have hrt : ((r : Int)).toNat = r := Int.toNat_natCast _
                clear hf0 hf1
                go_wp2_with fail
                go_loopw [18, 94] (fun rv i wi => ∃ k : Nat, k ≤ n ∧ i = .int .i64 k ∧ Row wi w5.heap.size rv ((List.range k).filter (G r)) ∧ Below w5.heap.size w5 wi) (fun _ i _ => n - (intOf i).toNat)
                case atStart => exact ⟨0, Nat.zero_le _, rfl, Own.nil_ _ _ _ _ _, Below.refl _ _⟩
                case round =>
                  obtain ⟨k, hk, rfl, hrow, hbw⟩ := hrel
                  have HROW := Lib.hid hrow
                  have HBW := Lib.hid hbw
                  clear hrow hbw
                  by_cases hkn : k < n
                  · have hc1 := Kept.of_below HBW.out _ _ (HM5.out.1 r hrn)
                    have hc2 := Kept.of_below HBW.out _ _ (HM5.out.2 r k hrn hkn)
                    have hk0 : (0 : Int) ≤ (k : Int) := Int.natCast_nonneg _
                    have hk1 : (k : Int) < (n : Int) := by omega
                    have hkt : ((k : Int)).toNat = k := Int.toNat_natCast _
                    have hfl : ((List.range k).filter (G r)).length ≤ 24 := by have := List.length_filter_le (G r) (List.range k); rw [List.length_range] at this; omega
                    cases hg : G r k with
                    | true =>
                      rw [hg] at hc2
                      have HG2 := Lib.hid (show (List.range (k + 1)).filter (G r) = (List.range k).filter (G r) ++ [k] by rw [List.range_succ, List.filter_append]; simp [hg])
                      clear hg
                      go_wp2_with (at_builtin; refine list_row (by rfl) _ _ 26 (by rfl) Try.underlying26 w5.heap.size _ _ (by rfl) (HROW.out.alloc _) k _ 1 (by rfl) (blk_new1 _ _ _) (by omega) (by have := HBW.out.size; simp; omega) ?_; intro g2 cap2 w6 ho6 hg6 hat6; have HR6 := Lib.hid ho6; have HB6 := Lib.hid ((HROW.out.alloc _).below (below_alloc HBW.out _) (by have := HBW.out.size; simp; omega) hg6); clear ho6 hg6 hat6)
                      go_roundw
                      case rel => exact ⟨k + 1, by omega, by simp, by rw [HG2.out]; exact HR6.out, HB6.out⟩
                      case measure => (try simp only [intOf]); omega
                    | false =>
                      rw [hg] at hc2
                      have HG2 := Lib.hid (show (List.range (k + 1)).filter (G r) = (List.range k).filter (G r) by rw [List.range_succ, List.filter_append]; simp [hg])
                      clear hg
                      go_wp2_with fail
                      go_roundw
                      case rel => exact ⟨k + 1, by omega, by simp, by rw [HG2.out]; exact HROW.out, HBW.out⟩
                      case measure => (try simp only [intOf]); omega
                  · have hkk : k = n := by omega
                    subst hkk
                    have HRV := Lib.hid (show (List.range k).filter (G r) = reachV k (vE k l) (r : Int) by unfold reachV; rw [if_pos (by omega), HG.out, Int.toNat_natCast])
                    have hfl : ((List.range k).filter (G r)).length ≤ 24 := by have := List.length_filter_le (G r) (List.range k); rw [List.length_range] at this; omega
                    obtain ⟨A6, c6, hv6, hs6⟩ := HROW.out.slc (z := 8) (by omega)
                    subst hv6
                    generalize hre : (List.range k).filter (G r) = re at hs6 HRV hfl ⊢
                    have HRE := Lib.hid (show Ints wr A6 c6 re from hs6)
                    have HBZ := Lib.hid (below_next HB5.out HBW.out)
                    have HBO := Lib.hid (below_next HBO5.out HBW.out)
                    have HF := Lib.hid (HF.out.kept (Kept.of_below HBW.out))
                    clear hs6 HROW hfl hre
                    by_cases hbig : 20000 < l.length
                    · go_wp2_with fail
                      go_ret
                      exact ⟨rfl, HBZ.out⟩
                    · obtain ⟨rfl, rfl⟩ := HSM.out (by omega)
                      go_wp2_with fail
                      refine (sameInts_self B1 _ d1 _ _ _ (HO.out.kept (Kept.of_below HBO.out)) HF.out).mono ?_
                      rintro e w7 ⟨rfl, hb7⟩
                      have HB7 := Lib.hid (below_next HBZ.out hb7)
                      have HRE7 := Lib.hid (HRE.out.kept (Kept.of_below hb7))
                      clear hb7
                      go_wp2_with fail
                      refine (reach_any m A c l _ HM.out _ _ (HL.out.kept (Kept.of_below HB7.out))).mono ?_
                      rintro e w8 ⟨re8, B8, d8, rfl, hr8, hv8, hb8⟩
                      have hvv := hv8.trans HRV.out.symm
                      subst hvv
                      have HR8 := Lib.hid hr8
                      have HRE8 := Lib.hid (HRE7.out.kept (Kept.of_below hb8))
                      have HB8 := Lib.hid (below_next HB7.out hb8)
                      clear hb8 hr8 hv8
                      go_wp2_with fail
                      refine (sameInts_self B8 _ d8 _ _ _ HR8.out HRE8.out).mono ?_
                      rintro e w9 ⟨rfl, hb9⟩
                      have HB9 := Lib.hid (below_next HB8.out hb9)
                      clear hb9
                      go_wp2_with fail
                      refine (awake21_any _).mono ?_
                      rintro e w10 ⟨rfl, hb10⟩
                      go_wp2_with fail
                      go_ret
                      exact ⟨rfl, below_next HB9.out hb10⟩
          | false =>
            have HSM := Lib.hid (show l.length ≤ 20000 → cs = false ∧ o = [] from fun h => by
              have h1 := can_eq h HC.out
              rw [← HCS.out, ← HG.out, ← HCB2.out] at h1
              refine ⟨h1, ?_⟩
              rw [HOV.out]
              exact ord_no (by rw [← HCS.out]; exact h1))
            have HF := Lib.hid (show Ints w5 none 0 [] from Slc.nil_ (Nat.zero_le _))
            clear HCS HOV HCB2 HC HF0
            by_cases hf0 : f < 0
            · have hd0 : decide (0 ≤ f) = false := decide_eq_false (by omega)
              have HRV := Lib.hid (show [] = reachV n (vE n l) f by unfold reachV; rw [if_neg (by omega)])
              have HRE := Lib.hid (show Ints w5 none 0 [] from Slc.nil_ (Nat.zero_le _))
              have HBZ := Lib.hid HB5.out
              have HBO := Lib.hid HBO5.out
              by_cases hbig : 20000 < l.length
              · go_wp2_with fail
                go_ret
                exact ⟨rfl, HBZ.out⟩
              · obtain ⟨rfl, rfl⟩ := HSM.out (by omega)
                go_wp2_with fail
                refine (sameInts_self B1 _ d1 _ _ _ (HO.out.kept (Kept.of_below HBO.out)) HF.out).mono ?_
                rintro e w7 ⟨rfl, hb7⟩
                have HB7 := Lib.hid (below_next HBZ.out hb7)
                have HRE7 := Lib.hid (HRE.out.kept (Kept.of_below hb7))
                clear hb7
                go_wp2_with fail
                refine (reach_any m A c l _ HM.out _ _ (HL.out.kept (Kept.of_below HB7.out))).mono ?_
                rintro e w8 ⟨re8, B8, d8, rfl, hr8, hv8, hb8⟩
                have hvv := hv8.trans HRV.out.symm
                subst hvv
                have HR8 := Lib.hid hr8
                have HRE8 := Lib.hid (HRE7.out.kept (Kept.of_below hb8))
                have HB8 := Lib.hid (below_next HB7.out hb8)
                clear hb8 hr8 hv8
                go_wp2_with fail
                refine (sameInts_self B8 _ d8 _ _ _ HR8.out HRE8.out).mono ?_
                rintro e w9 ⟨rfl, hb9⟩
                have HB9 := Lib.hid (below_next HB8.out hb9)
                clear hb9
                go_wp2_with fail
                refine (awake21_any _).mono ?_
                rintro e w10 ⟨rfl, hb10⟩
                go_wp2_with fail
                go_ret
                exact ⟨rfl, below_next HB9.out hb10⟩
            · have hd0 : decide (0 ≤ f) = true := decide_eq_true (by omega)
              by_cases hf1 : (n : Int) ≤ f
              · have hd1 : decide (f < (n : Int)) = false := decide_eq_false (by omega)
                have HRV := Lib.hid (show [] = reachV n (vE n l) f by unfold reachV; rw [if_neg (by omega)])
                have HRE := Lib.hid (show Ints w5 none 0 [] from Slc.nil_ (Nat.zero_le _))
                have HBZ := Lib.hid HB5.out
                have HBO := Lib.hid HBO5.out
                by_cases hbig : 20000 < l.length
                · go_wp2_with fail
                  go_ret
                  exact ⟨rfl, HBZ.out⟩
                · obtain ⟨rfl, rfl⟩ := HSM.out (by omega)
                  go_wp2_with fail
                  refine (sameInts_self B1 _ d1 _ _ _ (HO.out.kept (Kept.of_below HBO.out)) HF.out).mono ?_
                  rintro e w7 ⟨rfl, hb7⟩
                  have HB7 := Lib.hid (below_next HBZ.out hb7)
                  have HRE7 := Lib.hid (HRE.out.kept (Kept.of_below hb7))
                  clear hb7
                  go_wp2_with fail
                  refine (reach_any m A c l _ HM.out _ _ (HL.out.kept (Kept.of_below HB7.out))).mono ?_
                  rintro e w8 ⟨re8, B8, d8, rfl, hr8, hv8, hb8⟩
                  have hvv := hv8.trans HRV.out.symm
                  subst hvv
                  have HR8 := Lib.hid hr8
                  have HRE8 := Lib.hid (HRE7.out.kept (Kept.of_below hb8))
                  have HB8 := Lib.hid (below_next HB7.out hb8)
                  clear hb8 hr8 hv8
                  go_wp2_with fail
                  refine (sameInts_self B8 _ d8 _ _ _ HR8.out HRE8.out).mono ?_
                  rintro e w9 ⟨rfl, hb9⟩
                  have HB9 := Lib.hid (below_next HB8.out hb9)
                  clear hb9
                  go_wp2_with fail
                  refine (awake21_any _).mono ?_
                  rintro e w10 ⟨rfl, hb10⟩
                  go_wp2_with fail
                  go_ret
                  exact ⟨rfl, below_next HB9.out hb10⟩
              · obtain ⟨r, rfl⟩ : ∃ r : Nat, f = (r : Int) := ⟨f.toNat, by omega⟩
                have hrn : r < n := by omega
                have hd1 : decide ((r : Int) < (n : Int)) = true := decide_eq_true (by omega)
                have hd2 : decide (r < n) = true := decide_eq_true hrn
                have hr0 : (0 : Int) ≤ (r : Int) := by omega
                have hr1 : (r : Int) < (n : Int) := by omega
                have hrt : ((r : Int)).toNat = r := Int.toNat_natCast _
                clear hf0 hf1
                go_wp2_with fail
                go_loopw [18, 94] (fun rv i wi => ∃ k : Nat, k ≤ n ∧ i = .int .i64 k ∧ Row wi w5.heap.size rv ((List.range k).filter (G r)) ∧ Below w5.heap.size w5 wi) (fun _ i _ => n - (intOf i).toNat)
                case atStart => exact ⟨0, Nat.zero_le _, rfl, Own.nil_ _ _ _ _ _, Below.refl _ _⟩
                case round =>
                  obtain ⟨k, hk, rfl, hrow, hbw⟩ := hrel
                  have HROW := Lib.hid hrow
                  have HBW := Lib.hid hbw
                  clear hrow hbw
                  by_cases hkn : k < n
                  · have hc1 := Kept.of_below HBW.out _ _ (HM5.out.1 r hrn)
                    have hc2 := Kept.of_below HBW.out _ _ (HM5.out.2 r k hrn hkn)
                    have hk0 : (0 : Int) ≤ (k : Int) := Int.natCast_nonneg _
                    have hk1 : (k : Int) < (n : Int) := by omega
                    have hkt : ((k : Int)).toNat = k := Int.toNat_natCast _
                    have hfl : ((List.range k).filter (G r)).length ≤ 24 := by have := List.length_filter_le (G r) (List.range k); rw [List.length_range] at this; omega
                    cases hg : G r k with
                    | true =>
                      rw [hg] at hc2
                      have HG2 := Lib.hid (show (List.range (k + 1)).filter (G r) = (List.range k).filter (G r) ++ [k] by rw [List.range_succ, List.filter_append]; simp [hg])
                      clear hg
                      go_wp2_with (at_builtin; refine list_row (by rfl) _ _ 26 (by rfl) Try.underlying26 w5.heap.size _ _ (by rfl) (HROW.out.alloc _) k _ 1 (by rfl) (blk_new1 _ _ _) (by omega) (by have := HBW.out.size; simp; omega) ?_; intro g2 cap2 w6 ho6 hg6 hat6; have HR6 := Lib.hid ho6; have HB6 := Lib.hid ((HROW.out.alloc _).below (below_alloc HBW.out _) (by have := HBW.out.size; simp; omega) hg6); clear ho6 hg6 hat6)
                      go_roundw
                      case rel => exact ⟨k + 1, by omega, by simp, by rw [HG2.out]; exact HR6.out, HB6.out⟩
                      case measure => (try simp only [intOf]); omega
                    | false =>
                      rw [hg] at hc2
                      have HG2 := Lib.hid (show (List.range (k + 1)).filter (G r) = (List.range k).filter (G r) by rw [List.range_succ, List.filter_append]; simp [hg])
                      clear hg
                      go_wp2_with fail
                      go_roundw
                      case rel => exact ⟨k + 1, by omega, by simp, by rw [HG2.out]; exact HROW.out, HBW.out⟩
                      case measure => (try simp only [intOf]); omega
                  · have hkk : k = n := by omega
                    subst hkk
                    have HRV := Lib.hid (show (List.range k).filter (G r) = reachV k (vE k l) (r : Int) by unfold reachV; rw [if_pos (by omega), HG.out, Int.toNat_natCast])
                    have hfl : ((List.range k).filter (G r)).length ≤ 24 := by have := List.length_filter_le (G r) (List.range k); rw [List.length_range] at this; omega
                    obtain ⟨A6, c6, hv6, hs6⟩ := HROW.out.slc (z := 8) (by omega)
                    subst hv6
                    generalize hre : (List.range k).filter (G r) = re at hs6 HRV hfl ⊢
                    have HRE := Lib.hid (show Ints wr A6 c6 re from hs6)
                    have HBZ := Lib.hid (below_next HB5.out HBW.out)
                    have HBO := Lib.hid (below_next HBO5.out HBW.out)
                    have HF := Lib.hid (HF.out.kept (Kept.of_below HBW.out))
                    clear hs6 HROW hfl hre
                    by_cases hbig : 20000 < l.length
                    · go_wp2_with fail
                      go_ret
                      exact ⟨rfl, HBZ.out⟩
                    · obtain ⟨rfl, rfl⟩ := HSM.out (by omega)
                      go_wp2_with fail
                      refine (sameInts_self B1 _ d1 _ _ _ (HO.out.kept (Kept.of_below HBO.out)) HF.out).mono ?_
                      rintro e w7 ⟨rfl, hb7⟩
                      have HB7 := Lib.hid (below_next HBZ.out hb7)
                      have HRE7 := Lib.hid (HRE.out.kept (Kept.of_below hb7))
                      clear hb7
                      go_wp2_with fail
                      refine (reach_any m A c l _ HM.out _ _ (HL.out.kept (Kept.of_below HB7.out))).mono ?_
                      rintro e w8 ⟨re8, B8, d8, rfl, hr8, hv8, hb8⟩
                      have hvv := hv8.trans HRV.out.symm
                      subst hvv
                      have HR8 := Lib.hid hr8
                      have HRE8 := Lib.hid (HRE7.out.kept (Kept.of_below hb8))
                      have HB8 := Lib.hid (below_next HB7.out hb8)
                      clear hb8 hr8 hv8
                      go_wp2_with fail
                      refine (sameInts_self B8 _ d8 _ _ _ HR8.out HRE8.out).mono ?_
                      rintro e w9 ⟨rfl, hb9⟩
                      have HB9 := Lib.hid (below_next HB8.out hb9)
                      clear hb9
                      go_wp2_with fail
                      refine (awake21_any _).mono ?_
                      rintro e w10 ⟨rfl, hb10⟩
                      go_wp2_with fail
                      go_ret
                      exact ⟨rfl, below_next HB9.out hb10⟩
end Go.Proofs.Ytodhianmaogfpaa
