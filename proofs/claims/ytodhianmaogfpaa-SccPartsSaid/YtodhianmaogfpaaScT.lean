/- The law SccParts. -/
import Derived.Test.YtodhianmaogfpaaScR
import Derived.Test.YtodhianmaogfpaaTjM
namespace Go.Proofs.Ytodhianmaogfpaa
set_option linter.unusedSimpArgs false
set_option linter.unusedVariables false
open Go.RowKit
attribute [local go_sem ↓] Go.wp_at_zero Go.wp_at_succ
set_option maxRecDepth 100000 in
set_option maxHeartbeats 4000000 in
theorem law_parts (n0 : Int) (A : Option Addr) (c : Nat) (l : List (Int × Int)) (w : World) (hl : Edges w A c l) :
    Calls Try.prog 5 #[.int .i64 n0, .slice A l.length c] w fun e w' => e = .returned (.bool true) ∧ Below w.heap.size w w' := by
  have hbd := Slc.bd' hl
  have HL := Lib.hid hl
  clear hl
  obtain ⟨n, hn⟩ : ∃ n : Nat, max 0 (min n0 40) = (n : Int) := ⟨(max 0 (min n0 40)).toNat, by omega⟩
  have hn40 : n ≤ 40 := by omega
  have HMX := Lib.hid (show max 0 (min (n : Int) 2000) = (n : Int) by omega)
  by_cases hbig : 300 < l.length
  · go_enter Try.func5, Try.ntmps5
    go_wp2_with fail
    refine (awake21_any _).mono ?_
    rintro e w3 ⟨rfl, hb3⟩
    go_wp2
    go_ret
    exact ⟨rfl, hb3⟩
  · have HSM := Lib.hid (show l.length ≤ 20000 by omega)
    have hmk := run_make_row' (P := Try.prog) 26 3 (.int .i64 0) 8 Try.underlying26 infNat rfl .i64 .i64 n (by omega) (by omega)
    go_enter Try.func5, Try.ntmps5
    go_wp2_with fail
    clear hmk hn
    have hR0 := Row.made w (B := w.heap.size) (Nat.le_refl _) n (by unfold maxLen; omega)
    have HB0 := Lib.hid (below_alloc (Below.refl w.heap.size w) (.cells (madeCells #[.int .i64 0] n) 3))
    have HR0 := Lib.hid hR0
    obtain ⟨ab, hab⟩ : ∃ ab, ab = w.heap.size := ⟨_, rfl⟩
    rw [← hab] at hR0 HR0 ⊢
    have HAB := Lib.hid hab
    have HLT := Lib.hid (Row.lt hR0)
    clear hR0 hab
    generalize w.alloc (.cells (madeCells #[.int .i64 0] n) 3) = w0 at HB0 HR0 HLT ⊢
    refine (comps3_any n A c l n HMX.out _ (HL.out.kept (Kept.of_below HB0.out))).mono ?_
    rintro e w1 ⟨out, B1, d1, rfl, hl1, hc1, hb1⟩
    have hbd1 := Slc.bd' hl1.1
    have HL1 := Lib.hid hl1
    have HGR := Lib.hid (gE_gr (n := n) (E := vE n l))
    obtain ⟨G, hG⟩ : ∃ G, G = gE n (vE n l) := ⟨_, rfl⟩
    have HG := Lib.hid hG
    have HCI := Lib.hid (hc1.ci gE_gr)
    rw [← hG] at HGR HCI
    have HR1 := Lib.hid (Own.next HR0.out hb1)
    have HB1 := Lib.hid (below_next HB0.out hb1)
    clear hl1 hc1 hb1 HR0 hG
    go_wp2_with fail
    go_loopw [6, 32] (fun kv i wr => ∃ k : Nat, k ≤ out.length ∧ i = .int .i64 k ∧ kv = .int .i64 ((seenL out k 0).length : Nat) ∧ Row wr ab (.slice (some ⟨ab, 0, none⟩) n n) ((List.range n).map (ofF out k 0)) ∧ ListsN w0.heap.size wr B1 d1 out ∧ Below w.heap.size w wr) (fun _ i _ => out.length - (intOf i).toNat)
    case atStart => exact ⟨0, Nat.zero_le _, rfl, rfl, by rw [of_zero, List.map_const', List.length_range]; exact HR1.out, HL1.out, HB1.out⟩
    case round =>
      clear HL1 HR1 HB1
      obtain ⟨k, hk, rfl, rfl, hrow, hls, hb⟩ := hrel
      have HROW := Lib.hid hrow
      have HLS := Lib.hid hls
      have HB := Lib.hid hb
      clear hrow hls hb
      by_cases hlt : k < out.length
      · obtain ⟨cc, b, o, A', c', hc, rfl, hic, hcell⟩ := HLS.out.at_ hlt
        have HC := Lib.hid hc
        have HIC := Lib.hid hic
        have hbdc := hic.1.bd
        have hk0 : (0 : Int) ≤ (k : Int) := Int.natCast_nonneg _
        have hk1 : (k : Int) < (out.length : Int) := by omega
        clear hc hic
        go_wp2_with fail
        clear hcell hk0 hk1
        go_loopw [6, 39] (fun kv i wi => ∃ j : Nat, j ≤ cc.length ∧ i = .int .i64 j ∧ kv = .int .i64 ((seenL out k j).length : Nat) ∧ Row wi ab (.slice (some ⟨ab, 0, none⟩) n n) ((List.range n).map (ofF out k j)) ∧ ListsN w0.heap.size wi (some ⟨b, o, none⟩) d1 out ∧ IntsN w0.heap.size wi A' c' cc ∧ Below w.heap.size w wi) (fun _ i _ => cc.length - (intOf i).toNat)
        case atStart => exact ⟨0, Nat.zero_le _, rfl, rfl, HROW.out, HLS.out, HIC.out, HB.out⟩
        case round =>
          clear HROW HLS HIC HB
          obtain ⟨j, hj, rfl, rfl, hrow, hls, hic, hb⟩ := hrel
          have HROW := Lib.hid hrow
          have HLS := Lib.hid hls
          have HIC := Lib.hid hic
          have HB := Lib.hid hb
          clear hrow hls hic hb
          by_cases hjl : j < cc.length
          · obtain ⟨x, b2, o2, hx, hA2, hxc⟩ := Ints.at_ HIC.out.1 hjl (Kept.refl _)
            obtain ⟨hxn, hof⟩ := HCI.out.fresh HGR.out HC.out hx
            have hfew := HCI.out.seen_few HGR.out HC.out hj
            have HSL := Lib.hid (seen_len HC.out hx)
            have hac : wr.cell? ⟨ab, x, none⟩ = some (.int .i64 0) := by have := Row.cell HROW.out (map_get (ofF out k j) hxn); rw [hof] at this; exact this
            have fM := Row.frz HROW.out x
            have lM := Row.lt HROW.out
            have h4 := HROW.out.put (i := x) (by simpa using hxn) (k + 1)
            rw [map_set, ← HCI.out.of_step HGR.out HC.out hx, show ((k + 1 : Nat) : Int) = (k : Int) + 1 from by omega] at h4
            have H4 := Lib.hid h4
            have hkb : KeptB w0.heap.size wr (World.setCell wr ⟨ab, x, none⟩ (.int .i64 ((k : Int) + 1))) := KeptB.setCell (p := ⟨ab, x, none⟩) HLT.out _
            have HLS4 := Lib.hid (HLS.out.keptB hkb)
            have HIC4 := Lib.hid (HIC.out.keptB hkb)
            have HB4 := Lib.hid (HB.out.setCell (p := ⟨ab, x, none⟩) (by show _ ≤ ab; rw [HAB.out]; exact Nat.le_refl _) (.int .i64 ((k : Int) + 1)))
            have hx0 : decide ((x : Int) < 0) = false := decide_eq_false (by omega)
            have hx1 : decide ((n : Int) ≤ (x : Int)) = false := decide_eq_false (by omega)
            have hx2 : decide (n ≤ x) = false := decide_eq_false (by omega)
            have hx3 : (0 : Int) ≤ (x : Int) := Int.natCast_nonneg _
            have hx4 : (x : Int) < (n : Int) := by omega
            have hxt : ((x : Int)).toNat = x := Int.toNat_natCast _
            have HX := Lib.hid hx
            clear hx hof h4 hkb
            subst hA2
            rcases j with _ | j
            · have hxc0 : wr.cell? ⟨b2, o2, none⟩ = some (.int .i64 x) := by simpa using hxc
              clear hxc
              go_wp2_with fail
              go_roundw
              case rel => exact ⟨0 + 1, by omega, by simp, by rw [HSL.out]; simp, H4.out, HLS4.out, HIC4.out, HB4.out⟩
              case measure => (try simp only [intOf]); omega
            · obtain ⟨y, b3, o3, hy, hA3, hyc⟩ := Ints.at_ HIC.out.1 (show j < cc.length by omega) (Kept.refl _)
              injection hA3 with hA3
              injection hA3 with e1 e2
              subst e1 e2
              have hyx := HCI.out.asc (List.mem_of_getElem? HC.out) hy HX.out
              have hd1 : decide ((x : Int) ≤ (y : Int)) = false := decide_eq_false (by omega)
              have hd2 : decide (x ≤ y) = false := decide_eq_false (by omega)
              have hj0 : (0 : Int) ≤ (j : Int) := Int.natCast_nonneg _
              have hj1 : (j : Int) < (cc.length : Int) := by omega
              have hj2 : (0 : Int) < (j : Int) + 1 := by omega
              have hj3 : decide ((0 : Int) < (j : Int) + 1) = true := decide_eq_true hj2
              have hjt : ((j : Int)).toNat = j := Int.toNat_natCast _
              clear hy hyx
              go_wp2_with fail
              go_roundw
              case rel => exact ⟨j + 1 + 1, by omega, by simp, by rw [HSL.out]; simp, H4.out, HLS4.out, HIC4.out, HB4.out⟩
              case measure => (try simp only [intOf]); omega
          · have hje : j = cc.length := by omega
            have HSE := Lib.hid (show seenL out k j = seenL out (k + 1) 0 by rw [hje]; exact seen_end HC.out)
            have HOE := Lib.hid (show ofF out k j = ofF out (k + 1) 0 by rw [hje]; exact of_next HC.out)
            clear hje
            go_wp2_with fail
            go_roundw
            case rel => exact ⟨k + 1, by omega, by simp, by rw [HSE.out], by rw [← HOE.out]; exact HROW.out, HLS.out, HB.out⟩
            case measure => (try simp only [intOf]); omega
      · have hkk : k = out.length := by omega
        have HALL := Lib.hid (show (seenL out k 0).length = n by rw [hkk]; exact HCI.out.seen_all HGR.out)
        have hOF : ∀ v, v < n → wr.cell? ⟨ab, v, none⟩ = some (.int .i64 ((ixC out v : Int) + 1)) := fun v hv => by
          have := Row.cell HROW.out (map_get (ofF out k 0) hv)
          rw [hkk, HCI.out.of_end hv] at this
          exact this
        have HOF := Lib.hid hOF
        rw [HALL.out]
        have hnn : ((n : Int) != (n : Int)) = false := by simp
        have hmk := run_make_row' (P := Try.prog) 30 4 (.bool false) 1 Try.underlying30 infBol rfl .i64 .i64 n (by omega) (by omega)
        clear hkk hOF HROW HLS
        obtain ⟨w6, rfl⟩ : ∃ w6 : World, w6 = wr := ⟨_, rfl⟩
        go_wp2_with fail
        go_loopw [84] (fun i wi => ∃ x : Nat, x ≤ n ∧ i = .int .i64 x ∧ Below w6.heap.size w6 wi) (fun i _ => n - (intOf i).toNat)
        case atStart => exact ⟨0, Nat.zero_le _, rfl, Below.refl _ _⟩
        case round =>
          obtain ⟨x, hx, rfl, hbw⟩ := hrel
          have HBW := Lib.hid hbw
          clear hbw
          by_cases hxn : x < n
          · go_wp2_with fail
            have hI0 : Blk (wr.alloc (.cells (madeCells #[.bool false] n) 4)) wr.heap.size 4 (rowB n fun _ => false) := by
              rw [← rowB_made]
              exact blk_new1 wr 4 (madeCells #[.bool false] n)
            have HI0 := Lib.hid hI0
            have HBA := Lib.hid (below_alloc HBW.out (.cells (madeCells #[.bool false] n) 4))
            obtain ⟨ib, hib⟩ : ∃ ib, ib = wr.heap.size := ⟨_, rfl⟩
            have HIB := Lib.hid hib
            rw [← hib] at hI0 HI0 ⊢
            have HIL := Lib.hid hI0.lt
            have HIW := Lib.hid (show w6.heap.size ≤ ib by rw [hib]; exact HBW.out.size)
            clear hI0 hib
            have HW := Lib.hid (reachN_any n A c l n HMX.out (x : Int) (wr.alloc (.cells (madeCells #[.bool false] n) 4)) (HL.out.kept (Kept.of_below (below_next HB.out HBA.out))))
            refine HW.out.mono ?_
            rintro e w5 ⟨re, B5, d5, rfl, hr5, hv5, hb5⟩
            have hbr := hr5.1.bd
            have HR5 := Lib.hid hr5
            have HV5 := Lib.hid hv5
            have HI5 := Lib.hid (HI0.out.next hb5)
            have HB5 := Lib.hid (below_next HBA.out hb5)
            clear hr5 hv5 hb5 HI0 HW
            go_wp2_with fail
            go_loopw [94] (fun i wi => ∃ m : Nat, m ≤ re.length ∧ i = .int .i64 m ∧ Blk wi ib 4 (rowB n (inS re m)) ∧ IntsN (ib + 1) wi B5 d5 re ∧ Below w6.heap.size w6 wi) (fun i _ => re.length - (intOf i).toNat)
            case atStart => exact ⟨0, Nat.zero_le _, rfl, by rw [in_zero]; exact HI5.out, HR5.out.base (by simp [HIB.out]), HB5.out⟩
            case round =>
              clear HI5 HR5 HB5
              obtain ⟨m, hm, rfl, hI, hR, hb⟩ := hrel
              have HI := Lib.hid hI
              have HR := Lib.hid hR
              have HB5 := Lib.hid hb
              clear hI hR hb
              by_cases hml : m < re.length
              · obtain ⟨y, b7, o7, hy, rfl, hyc⟩ := Ints.at_ HR.out.1 hml (Kept.refl _)
                have hyr : y ∈ reachV n (vE n l) (x : Int) := HV5.out ▸ List.mem_of_getElem? hy
                have hyn := reach_in hyr
                have hgx : G x y = true := by rw [HG.out]; exact (reach_has hyn hxn).1 hyr
                have hle := HCI.out.ix_le HGR.out hxn hyn hgx
                have c1 := Kept.of_below HB5.out _ _ (HOF.out x hxn)
                have c2 := Kept.of_below HB5.out _ _ (HOF.out y hyn)
                have hane : ab ≠ ib := by have h1 := HIW.out; have h2 := (block_lt_of_cell (HOF.out x hxn)); have h3 : (⟨ab, x, none⟩ : Addr).block = ab := rfl; omega
                have hiv := (HI.out.cell y).trans (arr_get (V := fun j => .bool (inS re m j)) hyn)
                have fI := HI.out.frozen y
                have lI := HI.out.lt
                have H8 := HI.out.set_ y (.bool true)
                rw [rowB_set, ← in_step hy] at H8
                have HI8 := Lib.hid H8
                have hkb : KeptB (ib + 1) wr (World.setCell wr ⟨ib, y, none⟩ (.bool true)) := KeptB.setCell (p := ⟨ib, y, none⟩) (Nat.lt_succ_self _) _
                have HR8 := Lib.hid (HR.out.keptB hkb)
                have HB8 := Lib.hid (HB5.out.setCell (p := ⟨ib, y, none⟩) HIW.out (.bool true))
                have k1 : (World.setCell wr ⟨ib, y, none⟩ (.bool true)).cell? ⟨ab, x, none⟩ = some (.int .i64 ((ixC out x : Int) + 1)) := by rw [World.cell?_setCell_other _ _ _ _ (fun e => hane (congrArg Addr.block e).symm)]; exact c1
                have k2 : (World.setCell wr ⟨ib, y, none⟩ (.bool true)).cell? ⟨ab, y, none⟩ = some (.int .i64 ((ixC out y : Int) + 1)) := by rw [World.cell?_setCell_other _ _ _ _ (fun e => hane (congrArg Addr.block e).symm)]; exact c2
                have hd1 : decide ((y : Int) < 0) = false := decide_eq_false (by omega)
                have hd2 : decide ((n : Int) ≤ (y : Int)) = false := decide_eq_false (by omega)
                have hd3 : decide (n ≤ y) = false := decide_eq_false (by omega)
                have hy0 : (0 : Int) ≤ (y : Int) := Int.natCast_nonneg _
                have hy1 : (y : Int) < (n : Int) := by omega
                have hyt : ((y : Int)).toNat = y := Int.toNat_natCast _
                have hx0 : (0 : Int) ≤ (x : Int) := Int.natCast_nonneg _
                have hx1 : (x : Int) < (n : Int) := by omega
                have hxt : ((x : Int)).toNat = x := Int.toNat_natCast _
                generalize ixC out x = px at hle k1 c1
                generalize ixC out y = py at hle k2 c2
                have hd4 : decide ((px : Int) + 1 < (py : Int) + 1) = false := decide_eq_false (by omega)
                have hd5 : decide ((px : Int) < (py : Int)) = false := decide_eq_false (by omega)
                have hd6 : decide (px < py) = false := decide_eq_false (by omega)
                clear hy hyr hgx H8 hkb hle c1 c2
                go_wp2_with fail
                go_quiet (fail)
                go_wp2_with fail
                go_roundw
                case rel => exact ⟨m + 1, by omega, by simp, HI8.out.drewN _, ⟨Slc.mono HR8.out.1 (Kept.drewN _ _) fun _ _ h => h, HR8.out.2⟩, below_drewN HB8.out _⟩
                case measure => (try simp only [intOf]); omega
              · have hml2 : re.take m = re := List.take_of_length_le (by omega)
                have HIN := Lib.hid (show ∀ v, v < n → (wr.cell? ⟨ib, v, none⟩ = some (.bool (G x v))) from fun v hv => by
                  have h1 := (HI.out.cell v).trans (arr_get (V := fun j => .bool (inS re m j)) hv)
                  have h2 : inS re m v = G x v := by
                    unfold inS
                    rw [hml2, HV5.out, Bool.eq_iff_iff, decide_eq_true_eq, reach_has hv hxn, HG.out]
                  rw [h2] at h1
                  exact h1)
                have hxx := HIN.out x hxn
                rw [HGR.out.rf x hxn] at hxx
                have hx0 : (0 : Int) ≤ (x : Int) := Int.natCast_nonneg _
                have hx1 : (x : Int) < (n : Int) := by omega
                have hxt : ((x : Int)).toNat = x := Int.toNat_natCast _
                obtain ⟨w7, rfl⟩ : ∃ w7 : World, w7 = wr := ⟨_, rfl⟩
                clear hml2 HI HR
                go_wp2_with fail
                go_loopw [125] (fun i wi => ∃ k : Nat, k ≤ l.length ∧ i = .int .i64 k ∧ Below w7.heap.size w7 wi) (fun i _ => l.length - (intOf i).toNat)
                case atStart => exact ⟨0, Nat.zero_le _, rfl, Below.refl _ _⟩
                case round =>
                  obtain ⟨k, hk, rfl, hb⟩ := hrel
                  have HBE := Lib.hid hb
                  clear hb
                  by_cases hkl : k < l.length
                  · obtain ⟨q, b8, o8, hq, rfl, e0, e1⟩ := HL.out.at_ hkl (Kept.of_below (below_next HB.out (below_next HB5.out HBE.out)))
                    by_cases ha : 0 ≤ q.1
                    · have hd1 : decide (0 ≤ q.1) = true := decide_eq_true ha
                      by_cases ha2 : q.1 < (n : Int)
                      · have hd2 : decide (q.1 < (n : Int)) = true := decide_eq_true ha2
                        by_cases hb : 0 ≤ q.2
                        · have hd3 : decide (0 ≤ q.2) = true := decide_eq_true hb
                          by_cases hb2 : q.2 < (n : Int)
                          · obtain ⟨q, rfl⟩ : ∃ a : Nat × Nat, q = ((a.1 : Int), (a.2 : Int)) := ⟨(q.1.toNat, q.2.toNat), by obtain ⟨x1, x2⟩ := q; simp only at *; simp; omega⟩
                            obtain ⟨a, b2⟩ := q
                            simp only at *
                            have han : a < n := by omega
                            have hbn : b2 < n := by omega
                            have hd4 : decide ((b2 : Int) < (n : Int)) = true := decide_eq_true hb2
                            have hd5 : decide (a < n) = true := decide_eq_true han
                            have hd6 : decide (b2 < n) = true := decide_eq_true hbn
                            have hgab : G a b2 = true := by rw [HG.out]; exact edge_in HSM.out han hbn (List.mem_of_getElem? hq)
                            have hc1 := Kept.alloc wr (.cells #[.int .i64 (a : Int), .int .i64 (b2 : Int)] 29) _ _ (Kept.of_below HBE.out _ _ (HIN.out a han))
                            have hc2 := Kept.alloc wr (.cells #[.int .i64 (a : Int), .int .i64 (b2 : Int)] 29) _ _ (Kept.of_below HBE.out _ _ (HIN.out b2 hbn))
                            have hat : ((a : Int)).toNat = a := Int.toNat_natCast _
                            have hbt : ((b2 : Int)).toNat = b2 := Int.toNat_natCast _
                            have ha0 : (0 : Int) ≤ (a : Int) := Int.natCast_nonneg _
                            have hb0 : (0 : Int) ≤ (b2 : Int) := Int.natCast_nonneg _
                            rcases hga : G x a
                            · rw [hga] at hc1
                              clear hq hgab hga
                              go_wp2_with fail
                              go_roundw
                              case rel => exact ⟨k + 1, by omega, by simp, below_alloc HBE.out _⟩
                              case measure => (try simp only [intOf]); omega
                            · rw [hga] at hc1
                              have hgb := HGR.out.tr x a b2 hxn han hbn hga hgab
                              rw [hgb] at hc2
                              clear hq hgab hga hgb
                              go_wp2_with fail
                              go_roundw
                              case rel => exact ⟨k + 1, by omega, by simp, below_alloc HBE.out _⟩
                              case measure => (try simp only [intOf]); omega
                          · have hd4 : decide (q.2 < (n : Int)) = false := decide_eq_false hb2
                            go_wp2_with fail
                            go_roundw
                            case rel => exact ⟨k + 1, by omega, by simp, below_alloc HBE.out _⟩
                            case measure => (try simp only [intOf]); omega
                        · have hd3 : decide (0 ≤ q.2) = false := decide_eq_false hb
                          go_wp2_with fail
                          go_roundw
                          case rel => exact ⟨k + 1, by omega, by simp, below_alloc HBE.out _⟩
                          case measure => (try simp only [intOf]); omega
                      · have hd2 : decide (q.1 < (n : Int)) = false := decide_eq_false ha2
                        go_wp2_with fail
                        go_roundw
                        case rel => exact ⟨k + 1, by omega, by simp, below_alloc HBE.out _⟩
                        case measure => (try simp only [intOf]); omega
                    · have hd1 : decide (0 ≤ q.1) = false := decide_eq_false ha
                      go_wp2_with fail
                      go_roundw
                      case rel => exact ⟨k + 1, by omega, by simp, below_alloc HBE.out _⟩
                      case measure => (try simp only [intOf]); omega
                  · go_wp2_with fail
                    go_roundw
                    case rel => exact ⟨x + 1, by omega, by simp, below_next HB5.out HBE.out⟩
                    case measure => (try simp only [intOf]); omega
          · go_wp2_with fail
            refine (awake21_any _).mono ?_
            rintro e w3 ⟨rfl, hb3⟩
            go_wp2
            go_ret
            exact ⟨rfl, below_next (below_next HB.out HBW.out) hb3⟩
end Go.Proofs.Ytodhianmaogfpaa
