/- The law SccTurned. -/
import Derived.Test.YtodhianmaogfpaaScK
namespace Go.Proofs.Ytodhianmaogfpaa
set_option linter.unusedSimpArgs false
set_option linter.unusedVariables false
open Go.RowKit
attribute [local go_sem ↓] Go.wp_at_zero Go.wp_at_succ
attribute [local irreducible] wpQuiet
set_option maxRecDepth 100000 in
set_option maxHeartbeats 1000000 in
theorem law_turned (n0 : Int) (A : Option Addr) (c : Nat) (l : List (Int × Int)) (w : World) (hl : Edges w A c l) :
    Calls Try.prog 4 #[.int .i64 n0, .slice A l.length c] w fun e w' => e = .returned (.bool true) ∧ Below w.heap.size w w' := by
  have hbd := Slc.bd' hl
  have HL := Lib.hid hl
  clear hl
  obtain ⟨n, hn⟩ : ∃ n : Nat, max 0 (min n0 30) = (n : Int) := ⟨(max 0 (min n0 30)).toNat, by omega⟩
  have hn30 : n ≤ 30 := by omega
  have HM := Lib.hid (show max 0 (min (n : Int) 2000) = (n : Int) by omega)
  by_cases hbig : 200 < l.length
  · go_enter Try.func4, Try.ntmps4
    go_wp2_with fail
    refine (awake21_any _).mono ?_
    rintro e w3 ⟨rfl, hb3⟩
    go_wp2
    go_ret
    exact ⟨rfl, hb3⟩
  · have hsm : l.length ≤ 200 := by omega
    have HSM := Lib.hid hsm
    go_enter Try.func4, Try.ntmps4
    go_wp2_with fail
    clear hn
    go_loopw [5, 6, 25] (fun av tv i wr => ∃ (k : Nat) (la lb : List (Int × Int)), k ≤ l.length ∧ i = .int .i64 k ∧ la = dupE (l.reverse.take k) ∧ lb = swpE (l.reverse.take k) ∧ Two w.heap.size wr av la tv lb ∧ Below w.heap.size w wr) (fun _ _ i _ => l.length - (intOf i).toNat)
    case atStart => exact ⟨0, [], [], Nat.zero_le _, rfl, rfl, rfl, ⟨Own.nil_ _ _ _ _ _, Own.nil_ _ _ _ _ _, fun g h => by simp [Value.ownBlock] at h⟩, Below.refl _ _⟩
    case round =>
      obtain ⟨k, la, lb, hk, rfl, hla, hlb, ht, hb⟩ := hrel
      have HLA := Lib.hid hla
      have HLB := Lib.hid hlb
      have HT := Lib.hid ht
      have HB := Lib.hid hb
      have hlal : la.length ≤ 400 := by rw [hla, dup_len, List.length_take]; omega
      have hlbl : lb.length ≤ 200 := by rw [hlb]; unfold swpE; rw [List.length_map, List.length_take]; omega
      clear hla hlb ht hb
      by_cases hlt : k < l.length
      · obtain ⟨x, b, o, hx, rfl, e0, e1⟩ := HL.out.at_ (i := l.length - 1 - k) (by omega) (Kept.of_below HB.out)
        have HX := Lib.hid (rev_at hlt hx)
        clear hx
        have hi1 : (0 : Int) ≤ (l.length : Int) - 1 - (k : Int) := by omega
        have hi2 : (l.length : Int) - 1 - (k : Int) < (l.length : Int) := by omega
        have hit : ((l.length : Int) - 1 - (k : Int)).toNat = l.length - 1 - k := by omega
        go_wp2_with (first | (at_builtin; refine wpList_edges (by rfl) _ _ (by rfl) w.heap.size _ la (by rfl) ((HT.out.alloc _).alloc _).a [x, x] (wr.heap.size + 1) _ 2 (by rfl) (by rfl) (blk_new2 _ _ _ _) (by simp) (by simp; omega) (by have := HB.out.size; simp; omega) ?_; intro g cap w5 ho5 hg5 hat5; have HT5 := Lib.hid (((HT.out.alloc _).alloc _).app ho5 hg5 hat5); have HB5 := Lib.hid (((HT.out.alloc _).alloc _).below (below_alloc (below_alloc HB.out _) _) (by have := HB.out.size; simp; omega) hg5); have hc0 : w5.cell? ⟨wr.heap.size, 0, none⟩ = some (.int .i64 x.1) := (hg5.cell_far ⟨wr.heap.size, 0, none⟩ (by simp; omega) (fun he => by have := (HT.out.lt _ he.symm).2; exact absurd this (Nat.lt_irrefl _))).trans (cell_of_row _ wr.heap.size 0 _ _ (0, 0) ((blk_new1 wr _ _).alloc _)); have hc1 : w5.cell? ⟨wr.heap.size, 1, none⟩ = some (.int .i64 x.2) := (hg5.cell_far ⟨wr.heap.size, 1, none⟩ (by simp; omega) (fun he => by have := (HT.out.lt _ he.symm).2; exact absurd this (Nat.lt_irrefl _))).trans (cell_of_row _ wr.heap.size 1 _ _ (0, 0) ((blk_new1 wr _ _).alloc _)); clear ho5 hg5 hat5 e0 e1) | (at_builtin; refine wpList_edges (by rfl) _ _ (by rfl) w.heap.size _ lb (by rfl) (HT5.out.alloc _).b [(x.2, x.1)] w5.heap.size _ 1 (by rfl) (by rfl) (blk_new1 _ _ _) (by simp) (by simp; omega) (by have := HB5.out.size; simp; omega) ?_; intro g2 cap2 w7 ho7 hg7 hat7; have HT7 := Lib.hid ((HT5.out.alloc _).swap.app ho7 hg7 hat7).swap; have HB7 := Lib.hid ((HT5.out.alloc _).swap.below (below_alloc HB5.out _) (by have := HB5.out.size; simp; omega) hg7); clear ho7 hg7 hat7 hc0 hc1))
        go_roundw
        case rel => exact ⟨k + 1, la ++ [x, x], lb ++ [(x.2, x.1)], by omega, by simp, by rw [HLA.out, ← dup_snoc, take_step HX.out], by rw [HLB.out, ← swp_snoc (e := x), take_step HX.out], HT7.out, HB7.out⟩
        case measure => (try simp only [intOf]); omega
      · have hkk : k = l.length := by omega
        subst hkk
        obtain ⟨Aa, ca, rfl, ha⟩ := HT.out.a.slc (z := 16) (by omega)
        obtain ⟨Ab, cb, rfl, hb⟩ := HT.out.b.slc (z := 16) (by omega)
        have hle : l.reverse.take l.length = l.reverse := List.take_of_length_le (by simp)
        have hla := HLA.out
        have hlb := HLB.out
        rw [hle] at hla hlb
        have HA := Lib.hid (show Edges wr Aa ca la from ha)
        have HB2 := Lib.hid (show Edges wr Ab cb lb from hb)
        have HLA2 := Lib.hid hla
        have HLB2 := Lib.hid hlb
        clear ha hb hle hla hlb HLA HLB HT hlbl hlal hk
        go_wp2_with fail
        refine (comps2_any n A c l n HM.out _ (HL.out.kept (Kept.of_below HB.out))).mono ?_
        rintro e w1 ⟨out, B1, d1, rfl, hl1, hc1, hb1⟩
        have hbd1 := Slc.bd' hl1
        have HB1 := Lib.hid hb1
        have HL1 := Lib.hid hl1
        have HC1 := Lib.hid hc1
        clear hb1 hl1 hc1
        go_wp2_with fail
        refine (comps2_any n Aa ca la n HM.out _ (HA.out.kept (Kept.of_below HB1.out))).mono ?_
        rintro e w2 ⟨out2, B2, d2, rfl, hl2, hc2, hb2⟩
        have hla := HLA2.out
        subst hla
        rw [gE_dup HSM.out] at hc2
        obtain rfl := hc2.uniq HC1.out
        have hbd2 := Slc.bd' hl2
        have HL1 := Lib.hid (HL1.out.kept (Kept.of_below hb2))
        have HB2b := Lib.hid (below_next HB1.out hb2)
        have HL2 := Lib.hid hl2
        clear hb2 hl2 hc2 HB1
        go_wp2_with fail
        refine (comps2_any n Ab cb lb n HM.out _ (HB2.out.kept (Kept.of_below HB2b.out))).mono ?_
        rintro e w3 ⟨out3, B3, d3, rfl, hl3, hc3, hb3⟩
        have hlb := HLB2.out
        subst hlb
        have hbd3 := Slc.bd' hl3
        have hlen := (turned_len HSM.out HC1.out hc3).symm
        have HLEN := Lib.hid hlen
        have HTM := Lib.hid (fun x (hx : x ∈ out2) => turned_mem HSM.out HC1.out hc3 hx)
        have HL1 := Lib.hid (HL1.out.kept (Kept.of_below hb3))
        have HL2 := Lib.hid (HL2.out.kept (Kept.of_below hb3))
        have HB3 := Lib.hid (below_next (below_next HB.out HB2b.out) hb3)
        have HL3 := Lib.hid hl3
        clear hb3 hl3 hc3 HB2b HB HA HB2 HLA2 HLB2 HC1
        have hne : ((out2.length : Int) != (out2.length : Int)) = false := by simp
        have hne3 : ((out2.length : Int) != (out3.length : Int)) = false := by rw [hlen]; simp
        rw [hlen] at hbd3
        go_wp2
        clear hne hne3 hlen
        go_loopw [73] (fun i wi => ∃ k : Nat, k ≤ out2.length ∧ i = .int .i64 k ∧ Below w3.heap.size w3 wi) (fun i _ => out2.length - (intOf i).toNat)
        case atStart => exact ⟨0, Nat.zero_le _, rfl, Below.refl _ _⟩
        case round =>
          obtain ⟨k, hk, rfl, hb⟩ := hrel
          obtain ⟨wo, rfl⟩ : ∃ wo : World, wo = wr := ⟨_, rfl⟩
          have HBR := Lib.hid hb
          clear hb
          by_cases hlt : k < out2.length
          · obtain ⟨x, b, o, A1, c1, hx, hB1, h1, e0⟩ := HL1.out.at_ hlt (Kept.of_below HBR.out)
            obtain ⟨y, b', o', A2, c2, hy, hB2, h2, f0⟩ := HL2.out.at_ hlt (Kept.of_below HBR.out)
            obtain rfl : x = y := Option.some.inj (hx.symm.trans hy)
            have H1 := Lib.hid (h1.kept (Kept.of_below HBR.out))
            have H2 := Lib.hid (h2.kept (Kept.of_below HBR.out))
            have HX3 := Lib.hid (HTM.out x (List.mem_of_getElem? hx))
            have hi0 : (0 : Int) ≤ (k : Int) := Int.natCast_nonneg _
            have hi1 : (k : Int) < (out2.length : Int) := by omega
            have p0 := fun p : Be wo => p.cell e0
            have q0 := fun p : Be wo => p.cell f0
            clear hx hy h1 h2 f0
            subst hB1 hB2
            go_wp2_with fail
            refine region_be (by kernel_rfl) (by kernel_rfl) ?_
            repeat (quiet_step (first | (go_at_call 11; with_reducible exact Calls.be_of (sameInts_self A1 A2 c1 c2 x _ (Ints.kept H1.out (Be.kept _)) (Ints.kept H2.out (Be.kept _))))))
            refine wpQuiet_nil ?_
            intro _ hw'
            obtain ⟨pb, hw''⟩ := hw'
            subst hw''
            obtain ⟨W2, hbw⟩ := pb
            dsimp only
            have HBW := Lib.hid hbw
            clear q0 p0 hbw
            go_wp2_with fail
            go_loopw [13, 88] (fun bv j wi => ∃ (m : Nat) (is : Bool), m ≤ out2.length ∧ j = .int .i64 m ∧ bv = .bool is ∧ (is = true ↔ x ∈ out3.take m) ∧ Below wo.heap.size wo wi) (fun _ j _ => out2.length - (intOf j).toNat)
            case atStart => exact ⟨0, false, Nat.zero_le _, rfl, rfl, by simp, HBW.out⟩
            case round =>
              obtain ⟨m, is, hm, rfl, rfl, his, hbi⟩ := hrel
              have HIS := Lib.hid his
              have HBI := Lib.hid hbi
              clear his hbi
              by_cases hml : m < out2.length
              · obtain ⟨y, b3, o3, A3, c3, hy, hB3, h3, g0⟩ := HL3.out.at_ (by rw [HLEN.out]; exact hml) (Kept.of_below (below_next HBR.out HBI.out))
                have HY := Lib.hid hy
                have HI3 := Lib.hid (h3.kept (Kept.of_below (below_next HBR.out HBI.out)))
                have e1 := (Kept.of_below HBI.out) _ _ e0
                have hj0 : (0 : Int) ≤ (m : Int) := Int.natCast_nonneg _
                have hj1 : (m : Int) < (out2.length : Int) := by omega
                clear hy h3
                subst hB3
                cases is with
                | true =>
                  go_wp2_with fail
                  go_roundw
                  case rel => exact ⟨m + 1, true, by omega, by simp, rfl, by rw [take_step HY.out, List.mem_append]; exact ⟨fun _ => .inl (HIS.out.1 rfl), fun _ => rfl⟩, HBI.out⟩
                  case measure => (try simp only [intOf]); omega
                | false =>
                  go_wp2_with fail
                  refine (sameInts_any A1 A3 c1 c3 x y _ (H1.out.kept (Kept.of_below HBI.out)) HI3.out).mono ?_
                  rintro e w8 ⟨rfl, hb8⟩
                  have HB8 := Lib.hid (below_next HBI.out hb8)
                  clear hb8
                  have HQ := Lib.hid (show (decide (x = y) = true ↔ x ∈ out3.take (m + 1)) by
                    rw [take_step HY.out, List.mem_append, decide_eq_true_iff, List.mem_singleton]
                    exact ⟨fun h => .inr h, fun h => h.resolve_left fun h => by cases HIS.out.2 h⟩)
                  generalize decide (x = y) = q at HQ ⊢
                  go_wp2_with fail
                  go_roundw
                  case rel => exact ⟨m + 1, q, by omega, by simp, rfl, HQ.out, HB8.out⟩
                  case measure => (try simp only [intOf]); omega
              · have hmm : out3.take m = out3 := List.take_of_length_le (by rw [HLEN.out]; omega)
                obtain rfl : is = true := HIS.out.2 (by rw [hmm]; exact HX3.out)
                clear hmm
                go_wp2_with fail
                go_roundw
                case rel => exact ⟨k + 1, by omega, by simp, below_next HBR.out HBI.out⟩
                case measure => (try simp only [intOf]); omega
          · go_wp2_with fail
            refine (awake21_any _).mono ?_
            rintro e w4 ⟨rfl, hb4⟩
            go_wp2
            go_ret
            exact ⟨rfl, below_next (below_next HB3.out HBR.out) hb4⟩
end Go.Proofs.Ytodhianmaogfpaa
