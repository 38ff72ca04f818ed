/- The law SccEdges. -/
import Derived.Test.YtodhianmaogfpaaScP
import Derived.Test.YtodhianmaogfpaaTjL
import Derived.BigQuiet
namespace Go.Proofs.Ytodhianmaogfpaa
set_option linter.unusedSimpArgs false
set_option linter.unusedVariables false
open Go.RowKit
attribute [local go_sem ↓] Go.wp_at_zero Go.wp_at_succ
theorem loop_snoc {n : Nat} {G : Nat → Nat → Bool} {l : List (Int × Int)} {a b : Nat} (ha : a < n) (hb : b < n) {lp l2 : Bool} {re : List Nat} (h1 : lp = !canP n G l) (h2 : l2 = true ↔ lp = true ∨ a ∈ re) (h3 : a ∈ re ↔ G b a = true) : l2 = !canP n G (l ++ [((a : Int), (b : Int))]) := by
  have hok : okE n ((a : Int), (b : Int)) = true := by simp only [okE, Bool.and_eq_true, decide_eq_true_eq]; omega
  rw [canP_snoc, hok]
  rw [h3] at h2
  rw [Bool.eq_iff_iff, h2, h1]
  simp
set_option maxRecDepth 100000 in
set_option maxHeartbeats 4000000 in
theorem law_edges (n0 : Int) (A : Option Addr) (c : Nat) (l : List (Int × Int)) (w : World) (hl : Edges w A c l) :
    Calls Try.prog 8 #[.int .i64 n0, .slice A l.length c] w fun e w' => e = .returned (.bool true) ∧ Below w.heap.size w w' := by
  have hbd := Slc.bd' hl
  have HL := Lib.hid hl
  clear hl
  obtain ⟨n, hn⟩ : ∃ n : Nat, max 0 (min n0 40) = (n : Int) := ⟨(max 0 (min n0 40)).toNat, by omega⟩
  have hn40 : n ≤ 40 := by omega
  have HMX := Lib.hid (show max 0 (min (n : Int) 2000) = (n : Int) by omega)
  by_cases hbig : 300 < l.length
  · go_enter Try.func8, Try.ntmps8
    go_wp2_with fail
    refine (awake21_any _).mono ?_
    rintro e w3 ⟨rfl, hb3⟩
    go_wp2
    go_ret
    exact ⟨rfl, hb3⟩
  · have HSM := Lib.hid (show l.length ≤ 20000 by omega)
    obtain ⟨out, hc⟩ := comps_ex (n := n) (G := gE n (vE n l)) gE_gr
    have HC := Lib.hid hc
    have hmk := run_make_row' (P := Try.prog) 26 3 (.int .i64 0) 8 Try.underlying26 infNat rfl .i64 .i64 n (by omega) (by omega)
    obtain ⟨G, hG⟩ : ∃ G, G = gE n (vE n l) := ⟨_, rfl⟩
    have HG := Lib.hid hG
    clear hc hG
    go_enter Try.func8, Try.ntmps8
    go_wp2_with fail
    refine (order_any n A c l n HMX.out w HL.out out HC.out).mono ?_
    rintro e w1 ⟨o, B1, d1, rfl, ho, hov, hb1⟩
    have hbo := ho.bd
    obtain ⟨cs, hcs⟩ : ∃ cs, cs = canS n (adjE (vE n l)) out := ⟨_, rfl⟩
    have HO := Lib.hid ho
    have HOV := Lib.hid hov
    have HB1 := Lib.hid hb1
    have HCS := Lib.hid hcs
    rw [← hcs]
    clear ho hov hb1 hcs hn
    go_wp2_with fail
    go_loopw [7, 32] (fun lv i wr => ∃ (k : Nat) (lp : Bool), k ≤ l.length ∧ i = .int .i64 k ∧ lv = .bool lp ∧ lp = !canP n G (l.take k) ∧ Below w1.heap.size w1 wr) (fun _ i _ => l.length - (intOf i).toNat)
    case atStart => exact ⟨0, false, Nat.zero_le _, rfl, rfl, rfl, Below.refl _ _⟩
    case round =>
      obtain ⟨k, lp, hk, rfl, rfl, hlp, hb⟩ := hrel
      have HLP := Lib.hid hlp
      have HB := Lib.hid hb
      clear hlp hb
      by_cases hlt : k < l.length
      · obtain ⟨x, b, o2, hx, rfl, e0, e1⟩ := HL.out.at_ hlt (Kept.of_below (below_next HB1.out HB.out))
        have HX := Lib.hid hx
        clear hx
        have hokc : okE n x = (decide (0 ≤ x.1) && decide (x.1 < (n : Int)) && decide (0 ≤ x.2) && decide (x.2 < (n : Int))) := rfl
        by_cases ha : x.1 < 0
        · have hd1 : decide (x.1 < 0) = true := decide_eq_true ha
          have HN := Lib.hid (show lp = !canP n G (l.take (k + 1)) by rw [take_step HX.out, canP_snoc, HLP.out, show okE n x = false by rw [hokc]; simp; omega]; simp)
          clear hokc
          go_wp2_with fail
          go_roundw
          case rel => exact ⟨k + 1, lp, by omega, by simp, rfl, HN.out, by have hb0 := HB.out; (repeat (first | assumption | exact Below.refl _ _ | refine below_next ?_ (by assumption) | refine below_drewN ?_ _ | refine below_alloc ?_ _))⟩
          case measure => (try simp only [intOf]); omega
        · have hd1 : decide (x.1 < 0) = false := decide_eq_false ha
          by_cases ha2 : (n : Int) ≤ x.1
          · have hd2 : decide ((n : Int) ≤ x.1) = true := decide_eq_true ha2
            have HN := Lib.hid (show lp = !canP n G (l.take (k + 1)) by rw [take_step HX.out, canP_snoc, HLP.out, show okE n x = false by rw [hokc]; simp; omega]; simp)
            clear hokc
            go_wp2_with fail
            go_roundw
            case rel => exact ⟨k + 1, lp, by omega, by simp, rfl, HN.out, by have hb0 := HB.out; (repeat (first | assumption | exact Below.refl _ _ | refine below_next ?_ (by assumption) | refine below_drewN ?_ _ | refine below_alloc ?_ _))⟩
            case measure => (try simp only [intOf]); omega
          · have hd2 : decide ((n : Int) ≤ x.1) = false := decide_eq_false ha2
            by_cases hb : x.2 < 0
            · have hd3 : decide (x.2 < 0) = true := decide_eq_true hb
              have HN := Lib.hid (show lp = !canP n G (l.take (k + 1)) by rw [take_step HX.out, canP_snoc, HLP.out, show okE n x = false by rw [hokc]; simp; omega]; simp)
              clear hokc
              go_wp2_with fail
              go_roundw
              case rel => exact ⟨k + 1, lp, by omega, by simp, rfl, HN.out, by have hb0 := HB.out; (repeat (first | assumption | exact Below.refl _ _ | refine below_next ?_ (by assumption) | refine below_drewN ?_ _ | refine below_alloc ?_ _))⟩
              case measure => (try simp only [intOf]); omega
            · have hd3 : decide (x.2 < 0) = false := decide_eq_false hb
              by_cases hb2 : (n : Int) ≤ x.2
              · have hd4 : decide ((n : Int) ≤ x.2) = true := decide_eq_true hb2
                have HN := Lib.hid (show lp = !canP n G (l.take (k + 1)) by rw [take_step HX.out, canP_snoc, HLP.out, show okE n x = false by rw [hokc]; simp; omega]; simp)
                clear hokc
                go_wp2_with fail
                go_roundw
                case rel => exact ⟨k + 1, lp, by omega, by simp, rfl, HN.out, by have hb0 := HB.out; (repeat (first | assumption | exact Below.refl _ _ | refine below_next ?_ (by assumption) | refine below_drewN ?_ _ | refine below_alloc ?_ _))⟩
                case measure => (try simp only [intOf]); omega
              · obtain ⟨a, rfl⟩ : ∃ a : Nat × Nat, x = ((a.1 : Int), (a.2 : Int)) := ⟨(x.1.toNat, x.2.toNat), by obtain ⟨x1, x2⟩ := x; simp only at *; simp; omega⟩
                obtain ⟨a, b2⟩ := a
                simp only at *
                have han : a < n := by omega
                have hbn : b2 < n := by omega
                have hd4 : decide ((n : Int) ≤ (b2 : Int)) = false := decide_eq_false hb2
                have hd5 : decide (n ≤ a) = false := decide_eq_false (by omega)
                have hd6 : decide (n ≤ b2) = false := decide_eq_false (by omega)
                clear hokc
                go_wp2_with fail
                refine (reach_any n _ c l n HMX.out (b2 : Int) _ (HL.out.kept (Kept.of_below (below_alloc (below_next HB1.out HB.out) _)))).mono ?_
                rintro e w5 ⟨re, B5, d5, rfl, hr5, hv5, hb5⟩
                have hea : w5.cell? ⟨wr.heap.size, 0, none⟩ = some (.int .i64 a) := Kept.of_below hb5 _ _ (cell_of_row _ wr.heap.size 0 _ _ (0, 0) (blk_new1 wr _ _))
                have HB5 := Lib.hid (below_next (below_alloc HB.out _) hb5)
                have hbr := hr5.bd
                have HR5 := Lib.hid hr5
                have HIN := Lib.hid (show a ∈ re ↔ G b2 a = true by rw [hv5, reach_has han hbn, HG.out])
                clear hr5 hv5 hb5
                go_wp2_with fail
                go_loopw [7, 62] (fun lv j wi => ∃ (m : Nat) (l2 : Bool), m ≤ re.length ∧ j = .int .i64 m ∧ lv = .bool l2 ∧ (l2 = true ↔ lp = true ∨ a ∈ re.take m) ∧ wi = w5) (fun _ j _ => re.length - (intOf j).toNat)
                case atStart => exact ⟨0, lp, Nat.zero_le _, rfl, rfl, by simp, rfl⟩
                case round =>
                  obtain ⟨m, l2, hm, rfl, rfl, hl2, rfl⟩ := hrel
                  have HL2 := Lib.hid hl2
                  clear hl2
                  by_cases hml : m < re.length
                  · obtain ⟨y, b6, o6, hy, hA6, e6⟩ := Ints.at_ HR5.out hml (Kept.refl _)
                    have HY := Lib.hid hy
                    have hm0 : (0 : Int) ≤ (m : Int) := Int.natCast_nonneg _
                    have hm1 : (m : Int) < (re.length : Int) := by omega
                    clear hy
                    subst hA6
                    cases l2 with
                    | true =>
                      go_wp2_with fail
                      go_roundw
                      case rel => exact ⟨m + 1, true, by omega, by simp, rfl, by rw [take_step HY.out, List.mem_append]; exact ⟨fun _ => (HL2.out.1 rfl).imp id .inl, fun _ => rfl⟩, by first | rfl | trivial⟩
                      case measure => (try simp only [intOf]); omega
                    | false =>
                      by_cases hya : y = a
                      · have hq : ((y : Int) == (a : Int)) = true := by rw [beq_iff_eq]; omega
                        have HYA := Lib.hid hya
                        clear hya
                        go_wp2_with fail
                        go_roundw
                        case rel => exact ⟨m + 1, true, by omega, by simp, rfl, by rw [take_step HY.out, List.mem_append, HYA.out]; exact ⟨fun _ => .inr (.inr (by simp)), fun _ => rfl⟩, by first | rfl | trivial⟩
                        case measure => (try simp only [intOf]); omega
                      · have hq : ((y : Int) == (a : Int)) = false := by rw [beq_eq_false_iff_ne]; omega
                        have HQ := Lib.hid (show (false = true ↔ lp = true ∨ a ∈ re.take (m + 1)) by rw [take_step HY.out, List.mem_append]; exact ⟨fun h => by (cases h), fun h => HL2.out.2 (h.imp id fun h => h.resolve_right fun h => hya (List.mem_singleton.1 h).symm)⟩)
                        clear hya
                        go_wp2_with fail
                        go_roundw
                        case rel => exact ⟨m + 1, false, by omega, by simp, rfl, by first | exact HQ.out | simpa using HQ.out, by first | rfl | trivial⟩
                        case measure => (try simp only [intOf]); omega
                  · have hle : re.take m = re := List.take_of_length_le (by omega)
                    have hl2 := HL2.out
                    rw [hle] at hl2
                    have HN := Lib.hid (show l2 = !canP n G (l.take (k + 1)) by rw [take_step HX.out]; exact loop_snoc han hbn HLP.out hl2 HIN.out)
                    clear hle hl2 HL2
                    go_wp2_with fail
                    go_roundw
                    case rel => exact ⟨k + 1, l2, by omega, by simp, rfl, HN.out, HB5.out⟩
                    case measure => (try simp only [intOf]); omega
      · have hle : l.take k = l := List.take_of_length_le (by omega)
        have hlp := HLP.out
        rw [hle] at hlp
        have hcs2 : cs = canP n G l := by rw [HCS.out, can_eq HSM.out HC.out, HG.out]
        have HCP := Lib.hid hcs2
        have hlp2 : lp = !cs := by rw [hlp, hcs2]
        clear hle hlp hcs2 HLP
        cases cs with
        | false =>
          obtain rfl : lp = true := hlp2
          have hoe : o = [] := HOV.out.trans (ord_no HCS.out.symm)
          subst hoe
          go_wp2_with fail
          refine (awake21_any _).mono ?_
          rintro e w3 ⟨rfl, hb3⟩
          go_wp2
          go_ret
          exact ⟨rfl, below_next (below_next HB1.out HB.out) hb3⟩
        | true =>
          obtain rfl : lp = false := hlp2
          have HOD := Lib.hid (show OrdL n G o by rw [HOV.out, ord_yes HCS.out.symm, HG.out]; exact ord_list (HC.out.ci gE_gr) gE_gr HCS.out.symm)
          have HGR := Lib.hid (show Gr n G by rw [HG.out]; exact gE_gr)
          have hol := HOD.out.len HGR.out
          have HND := Lib.hid (HOD.out.nd HGR.out)
          have HOL := Lib.hid hol
          rw [hol] at hbo
          have hnn : ((n : Int) != (n : Int)) = false := by simp
          obtain ⟨w4, rfl⟩ : ∃ w4 : World, w4 = wr := ⟨_, rfl⟩
          go_wp2_with fail
          clear hmk
          obtain ⟨ab, hab⟩ : ∃ ab, ab = w4.heap.size := ⟨_, rfl⟩
          have hR0 := Row.made w4 (B := w4.heap.size) (Nat.le_refl _) n (by unfold maxLen; omega)
          rw [← hab] at hR0 ⊢
          have HR0 := Lib.hid hR0
          have HAB := Lib.hid hab
          clear hR0 hab
          go_loopw [94] (fun i wi => ∃ k : Nat, k ≤ n ∧ i = .int .i64 k ∧ Row wi ab (.slice (some ⟨ab, 0, none⟩) n n) ((List.range n).map (atF o k)) ∧ Below w4.heap.size w4 wi) (fun i _ => n - (intOf i).toNat)
          case atStart => exact ⟨0, Nat.zero_le _, rfl, by rw [at_zero, List.map_const', List.length_range]; exact HR0.out, below_alloc (Below.refl _ _) _⟩
          case round =>
            obtain ⟨k3, hk3, rfl, hrow, hbw⟩ := hrel
            have HROW := Lib.hid hrow
            have HBW := Lib.hid hbw
            clear hrow hbw
            by_cases hkn : k3 < n
            · obtain ⟨x, b7, o7, hx, hA7, e7⟩ := Ints.at_ HO.out (i := k3) (by rw [HOL.out]; exact hkn) (Kept.of_below (below_next HB.out HBW.out))
              have hxn := (HOD.out.mem x).1 (List.mem_of_getElem? hx)
              have hac : wr.cell? ⟨ab, x, none⟩ = some (.int .i64 0) := by have := Row.cell HROW.out (map_get (atF o k3) hxn); rw [at_fresh HND.out hx] at this; exact this
              have fM := Row.frz HROW.out x
              have h4 := HROW.out.put (i := x) (by simpa using hxn) (k3 + 1)
              rw [map_set, ← at_succ HND.out hx, show ((k3 + 1 : Nat) : Int) = (k3 : Int) + 1 from by omega] at h4
              have H4 := Lib.hid h4
              have HB4 := Lib.hid (HBW.out.setCell (p := ⟨ab, x, none⟩) (by show _ ≤ ab; rw [HAB.out]; exact Nat.le_refl _) (.int .i64 ((k3 : Int) + 1)))
              have hk0 : (0 : Int) ≤ (k3 : Int) := Int.natCast_nonneg _
              have hk1 : (k3 : Int) < (n : Int) := by omega
              have hx0 : (0 : Int) ≤ (x : Int) := Int.natCast_nonneg _
              have hx1 : (x : Int) < (n : Int) := by omega
              have hxt : ((x : Int)).toNat = x := Int.toNat_natCast _
              have hxd : decide ((x : Int) < 0) = false := decide_eq_false (by omega)
              have hxd2 : decide ((n : Int) ≤ (x : Int)) = false := decide_eq_false (by omega)
              have hxd3 : decide (n ≤ x) = false := decide_eq_false (by omega)
              clear hx h4
              subst hA7
              go_wp2_with fail
              go_roundw
              case rel => exact ⟨k3 + 1, by omega, by simp, H4.out, HB4.out⟩
              case measure => (try simp only [intOf]); omega
            · have hkk : k3 = o.length := by rw [HOL.out]; omega
              have hrow := HROW.out
              rw [hkk] at hrow
              have HROW := Lib.hid hrow
              obtain ⟨w6, rfl⟩ : ∃ w6 : World, w6 = wr := ⟨_, rfl⟩
              clear hrow hkk
              go_wp2_with fail
              clear hol
              go_loopw [121] (fun i wi => ∃ k : Nat, k ≤ l.length ∧ i = .int .i64 k ∧ Below w6.heap.size w6 wi) (fun i _ => l.length - (intOf i).toNat)
              case atStart => exact ⟨0, Nat.zero_le _, rfl, Below.refl _ _⟩
              case round =>
                have HBP := Lib.hid (below_next (below_next HB1.out HB.out) HBW.out)
                clear HB
                obtain ⟨k, hk, rfl, hb⟩ := hrel
                have HB := Lib.hid hb
                clear hb
                by_cases hlt4 : k < l.length
                · obtain ⟨x, b8, o8, hx, rfl, e0, e1⟩ := HL.out.at_ hlt4 (Kept.of_below (below_next HBP.out HB.out))
                  by_cases ha : 0 ≤ x.1
                  · have hd1 : decide (0 ≤ x.1) = true := decide_eq_true ha
                    by_cases ha2 : x.1 < (n : Int)
                    · have hd2 : decide (x.1 < (n : Int)) = true := decide_eq_true ha2
                      by_cases hb : 0 ≤ x.2
                      · have hd3 : decide (0 ≤ x.2) = true := decide_eq_true hb
                        by_cases hb2 : x.2 < (n : Int)
                        · obtain ⟨a, rfl⟩ : ∃ a : Nat × Nat, x = ((a.1 : Int), (a.2 : Int)) := ⟨(x.1.toNat, x.2.toNat), by obtain ⟨x1, x2⟩ := x; simp only at *; simp; omega⟩
                          obtain ⟨a, b2⟩ := a
                          simp only at *
                          have han : a < n := by omega
                          have hbn : b2 < n := by omega
                          have hd4 : decide ((b2 : Int) < (n : Int)) = true := decide_eq_true hb2
                          have hd5 : decide (a < n) = true := decide_eq_true han
                          have hd6 : decide (b2 < n) = true := decide_eq_true hbn
                          obtain ⟨hgab, hne⟩ := can_ne HSM.out (by have := HCP.out; rw [HG.out] at this; exact this.symm) han hbn (List.mem_of_getElem? hx)
                          rw [← HG.out] at hgab
                          have hlt5 := at_edge HOD.out HGR.out han hbn hgab hne
                          have hc1 := Kept.alloc wr (.cells #[.int .i64 (a : Int), .int .i64 (b2 : Int)] 29) _ _ (Kept.of_below HB.out _ _ (Row.cell HROW.out (map_get (atF o o.length) han)))
                          have hc2 := Kept.alloc wr (.cells #[.int .i64 (a : Int), .int .i64 (b2 : Int)] 29) _ _ (Kept.of_below HB.out _ _ (Row.cell HROW.out (map_get (atF o o.length) hbn)))
                          generalize atF o o.length a = p at hlt5 hc1
                          generalize atF o o.length b2 = q at hlt5 hc2
                          have hq1 : decide ((p : Int) ≤ (q : Int)) = false := decide_eq_false (by omega)
                          have hq2 : decide (p ≤ q) = false := decide_eq_false (by omega)
                          have hat : ((a : Int)).toNat = a := Int.toNat_natCast _
                          have hbt : ((b2 : Int)).toNat = b2 := Int.toNat_natCast _
                          clear hx hgab hne hlt5
                          go_wp2_with fail
                          go_quiet (fail)
                          go_wp2_with fail
                          go_roundw
                          case rel => exact ⟨k + 1, by omega, by simp, by have hb0 := HB.out; (repeat (first | assumption | exact Below.refl _ _ | refine below_next ?_ (by assumption) | refine below_drewN ?_ _ | refine below_alloc ?_ _))⟩
                          case measure => (try simp only [intOf]); omega
                        · have hd4 : decide (x.2 < (n : Int)) = false := decide_eq_false hb2
                          go_wp2_with fail
                          go_quiet (fail)
                          go_wp2_with fail
                          go_roundw
                          case rel => exact ⟨k + 1, by omega, by simp, by have hb0 := HB.out; (repeat (first | assumption | exact Below.refl _ _ | refine below_next ?_ (by assumption) | refine below_drewN ?_ _ | refine below_alloc ?_ _))⟩
                          case measure => (try simp only [intOf]); omega
                      · have hd3 : decide (0 ≤ x.2) = false := decide_eq_false hb
                        go_wp2_with fail
                        go_quiet (fail)
                        go_wp2_with fail
                        go_roundw
                        case rel => exact ⟨k + 1, by omega, by simp, by have hb0 := HB.out; (repeat (first | assumption | exact Below.refl _ _ | refine below_next ?_ (by assumption) | refine below_drewN ?_ _ | refine below_alloc ?_ _))⟩
                        case measure => (try simp only [intOf]); omega
                    · have hd2 : decide (x.1 < (n : Int)) = false := decide_eq_false ha2
                      go_wp2_with fail
                      go_quiet (fail)
                      go_wp2_with fail
                      go_roundw
                      case rel => exact ⟨k + 1, by omega, by simp, by have hb0 := HB.out; (repeat (first | assumption | exact Below.refl _ _ | refine below_next ?_ (by assumption) | refine below_drewN ?_ _ | refine below_alloc ?_ _))⟩
                      case measure => (try simp only [intOf]); omega
                  · have hd1 : decide (0 ≤ x.1) = false := decide_eq_false ha
                    go_wp2_with fail
                    go_quiet (fail)
                    go_wp2_with fail
                    go_roundw
                    case rel => exact ⟨k + 1, by omega, by simp, by have hb0 := HB.out; (repeat (first | assumption | exact Below.refl _ _ | refine below_next ?_ (by assumption) | refine below_drewN ?_ _ | refine below_alloc ?_ _))⟩
                    case measure => (try simp only [intOf]); omega
                · go_wp2_with fail
                  refine (awake21_any _).mono ?_
                  rintro e w3 ⟨rfl, hb3⟩
                  go_wp2
                  go_ret
                  exact ⟨rfl, below_next (below_next HBP.out HB.out) hb3⟩
end Go.Proofs.Ytodhianmaogfpaa
