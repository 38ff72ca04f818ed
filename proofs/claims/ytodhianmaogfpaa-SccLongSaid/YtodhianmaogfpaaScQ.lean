/- The law SccLong. -/
import Derived.Test.YtodhianmaogfpaaScP
import Derived.Test.YtodhianmaogfpaaTjK
namespace Go.Proofs.Ytodhianmaogfpaa
set_option linter.unusedSimpArgs false
set_option linter.unusedVariables false
open Go.RowKit
attribute [local go_sem ↓] Go.wp_at_zero Go.wp_at_succ
theorem want_len (n : Nat) (bk : Bool) : (wantL n bk).length = n := by simp [wantL]
theorem want_at {n i : Nat} {bk : Bool} (hi : i < n) : (wantL n bk)[i]? = some (if bk then i else n - 1 - i) := by simp [wantL, hi]
theorem lon_no (n : Nat) (bk : Bool) : lonE n bk false = chE bk (n - 1) := by simp [lonE]
theorem lon_yes (n : Nat) (bk : Bool) : lonE n bk true = chE bk (n - 1) ++ [if bk then (0, (n : Int) - 1) else ((n : Int) - 1, 0)] := by simp [lonE]
theorem wrap_u64 (n0 : Int) : 0 ≤ (IntKind.u64.wrap n0).tmod 2000 ∧ (IntKind.u64.wrap n0).tmod 2000 < 2000 := by
  have h : 0 ≤ IntKind.u64.wrap n0 := by
    have h64 : (2 : Int) ^ IntKind.u64.bits = 18446744073709551616 := by decide +kernel
    have hs : IntKind.u64.signed = false := rfl
    unfold IntKind.wrap
    simp only [h64, hs, Bool.false_and, Bool.false_eq_true, if_false]
    omega
  constructor
  · exact Int.tmod_nonneg _ h
  · exact Int.tmod_lt_of_pos _ (by omega)
set_option maxRecDepth 100000 in
set_option maxHeartbeats 4000000 in
theorem law_long (n0 : Int) (bk rg : Bool) (w : World) :
    Calls Try.prog 7 #[.int .i64 n0, .bool bk, .bool rg] w fun e w' => e = .returned (.bool true) ∧ Below w.heap.size w w' := by
  obtain ⟨hr0, hr1⟩ := wrap_u64 n0
  by_cases hbig : (IntKind.u64.wrap n0).tmod 2000 = 1999
  · clear hr0 hr1
    cases bk with
    | true =>
      go_enter Try.func7, Try.ntmps7
      go_wp2_with fail
      clear hbig
      obtain ⟨n, hn⟩ : ∃ n : Nat, n = 2000 := ⟨_, rfl⟩
      have hn2 : n ≤ 2000 := by omega
      have h2n : 2 ≤ n := by omega
      rw [show (2000 : Int) = (n : Int) from by omega, show (1999 : Int) = (n : Int) - 1 from by omega]
      clear hn
      go_loopw [7, 23] (fun ev iv wr => ∃ k : Nat, k ≤ n - 1 ∧ iv = .int .i64 k ∧ Own wr w.heap.size 29 2 REdge ev (chE true k) ∧ Below w.heap.size w wr) (fun _ iv _ => n - (intOf iv).toNat)
      case atStart => exact ⟨0, Nat.zero_le _, rfl, Own.nil_ _ _ _ _ _, Below.refl _ _⟩
      case round =>
        obtain ⟨k, hk, rfl, ho, hb⟩ := hrel
        have HO := Lib.hid ho
        have HB := Lib.hid hb
        clear ho hb
        by_cases hlt : k < n - 1
        · have hlt2 : (k : Int) < (n : Int) - 1 := by omega
          have hk2 : k ≤ 2000 := by omega
          go_wp2_with (at_builtin; refine wpList_edges (by rfl) _ _ (by rfl) w.heap.size _ _ (by rfl) (HO.out.alloc _) [((k : Int) + 1, (k : Int))] _ _ 1 (by rfl) (by rfl) (blk_new1 _ _ _) (by simp) (by rw [ch_len]; simp; omega) (by have := HB.out.size; simp; omega) ?_; intro g5 cap5 w5 ho5 hg5 hat5; have HO5 := Lib.hid ho5; have HB5 := Lib.hid ((HO.out.alloc _).below (below_alloc HB.out _) (by have := HB.out.size; simp; omega) hg5); clear ho5 hg5 hat5)
          go_roundw
          case rel => exact ⟨k + 1, by omega, by simp, by rw [ch_snoc]; simpa using HO5.out, HB5.out⟩
          case measure => (try simp only [intOf]); omega
        · have hkn : k = n - 1 := by omega
          subst hkn
          have hlt2 : (n : Int) - 1 ≤ ((n - 1 : Nat) : Int) := by omega
          cases rg with
          | true =>
            go_wp2_with (at_builtin; refine wpList_edges (by rfl) _ _ (by rfl) w.heap.size _ _ (by rfl) (HO.out.alloc _) [(0, (n : Int) - 1)] _ _ 1 (by rfl) (by rfl) (blk_new1 _ _ _) (by simp) (by rw [ch_len]; simp; omega) (by have := HB.out.size; simp; omega) ?_; intro g5 cap5 w5 ho5 hg5 hat5; have HO5 := Lib.hid ho5; have HB5 := Lib.hid ((HO.out.alloc _).below (below_alloc HB.out _) (by have := HB.out.size; simp; omega) hg5); clear ho5 hg5 hat5)
            have hE := HO5.out
            rw [show chE true (n - 1) ++ [(0, (n : Int) - 1)] = lonE n true true from (lon_yes n true).symm] at hE
            have hel := lon_few (bk := true) (rg := true) hn2
            obtain ⟨Ae, ce, hve, hse⟩ := hE.slc (z := 16) (by omega)
            have hch : (chE true (n - 1)).length + 1 = (lonE n true true).length := by rw [lon_yes]; simp
            rw [hch] at hve ⊢
            rw [hve]
            have HE := Lib.hid (show Edges w5 Ae ce (lonE n true true) from hse)
            clear hE hse hve HO hch
            have HMX := Lib.hid (show max 0 (min (n : Int) 2000) = (n : Int) by omega)
            go_wp2_with fail
            refine (comps2_any n Ae ce _ n HMX.out _ HE.out).mono ?_
            rintro e w1 ⟨out, B1, d1, rfl, hl1, hc1, hb1⟩
            have hbd1 := Slc.bd' hl1
            have HL1 := Lib.hid hl1
            have HC1 := Lib.hid hc1
            have HB1 := Lib.hid hb1
            clear hl1 hc1 hb1
            go_wp2_with fail
            refine (order_any n Ae ce _ n HMX.out _ (HE.out.kept (Kept.of_below HB1.out)) out HC1.out).mono ?_
            rintro e w2 ⟨o, B2, d2, rfl, ho2, hov, hb2⟩
            have HL2 := Lib.hid (HL1.out.kept (Kept.of_below hb2))
            have HB2 := Lib.hid (below_next HB1.out hb2)
            have HO2 := Lib.hid ho2
            have HOV := Lib.hid hov
            clear hb2 ho2 hov
            obtain rfl := ring_out hn2 h2n HC1.out
            have hcs := can_big (n := n) (adj := adjE (vE n (lonE n true true))) (c := List.range n) (List.mem_singleton.2 rfl) (by rw [List.length_range]; omega)
            have hoe : o = [] := HOV.out.trans (ord_no hcs)
            subst hoe
            rw [hcs]
            obtain ⟨x, b, o2, A3, c3, hx, rfl, h3, e0⟩ := HL2.out.at_ (i := 0) (by simp) (Kept.refl _)
            obtain rfl : List.range n = x := by simpa using hx
            have hbd3 := h3.bd
            obtain ⟨y, b4, o4, hy, rfl, e1⟩ := h3.at_ (i := n - 1) (by rw [List.length_range]; omega) (Kept.refl _)
            obtain rfl : n - 1 = y := by
              rw [List.getElem?_range (by omega)] at hy
              exact Option.some.inj hy
            rw [show ((n - 1 : Nat) : Int) = (n : Int) - 1 from by omega] at e1
            rw [List.length_range] at hbd3 e0
            simp only [Nat.add_zero] at e0
            have hi0 : (0 : Int) ≤ (n : Int) - 1 := by omega
            have hi1 : (n : Int) - 1 < (n : Int) := by omega
            have hit : ((n : Int) - 1).toNat = n - 1 := by omega
            clear hcs hx hy h3 HOV HO2
            go_wp2_with fail
            refine (reach_any n Ae ce _ n HMX.out _ _ (HE.out.kept (Kept.of_below HB2.out))).mono ?_
            rintro e w8 ⟨re, B8, d8, rfl, hr8, hv8, hb8⟩
            have hre : re = List.range n := hv8.trans (by first | exact ring_reach (f := n / 2) hn2 (by omega) | (rw [show (n : Int).tdiv 2 = ((n / 2 : Nat) : Int) from by omega]; exact ring_reach (f := n / 2) hn2 (by omega)))
            have hrl : re.length = n := by rw [hre, List.length_range]
            have HB8 := Lib.hid (below_next HB2.out hb8)
            clear hr8 hv8 hb8 hre
            go_wp2_with fail
            refine (awake21_any _).mono ?_
            rintro e w9 ⟨rfl, hb9⟩
            go_wp2_with fail
            go_ret
            exact ⟨rfl, below_next (below_next HB5.out HB8.out) hb9⟩
          | false =>
            have hE := HO.out
            rw [show chE true (n - 1) = lonE n true false from (lon_no n true).symm] at hE
            have hel := lon_few (bk := true) (rg := false) hn2
            obtain ⟨Ae, ce, rfl, hse⟩ := hE.slc (z := 16) (by omega)
            have HE := Lib.hid (show Edges wr Ae ce (lonE n true false) from hse)
            clear hE hse HO
            have HMX := Lib.hid (show max 0 (min (n : Int) 2000) = (n : Int) by omega)
            go_wp2_with fail
            refine (comps2_any n Ae ce _ n HMX.out _ HE.out).mono ?_
            rintro e w1 ⟨out, B1, d1, rfl, hl1, hc1, hb1⟩
            have hbd1 := Slc.bd' hl1
            have HL1 := Lib.hid hl1
            have HC1 := Lib.hid hc1
            have HB1 := Lib.hid hb1
            clear hl1 hc1 hb1
            go_wp2_with fail
            refine (order_any n Ae ce _ n HMX.out _ (HE.out.kept (Kept.of_below HB1.out)) out HC1.out).mono ?_
            rintro e w2 ⟨o, B2, d2, rfl, ho2, hov, hb2⟩
            have HL2 := Lib.hid (HL1.out.kept (Kept.of_below hb2))
            have HB2 := Lib.hid (below_next HB1.out hb2)
            have HO2 := Lib.hid ho2
            have HOV := Lib.hid hov
            clear hb2 ho2 hov
            have hcs := long_can hn2 HC1.out
            have hout := long_out hn2 HC1.out
            have hoe : o = wantL n true := by rw [HOV.out, ord_yes hcs, hout, flat_one]
            have hol : o.length = n := by rw [hoe, want_len]
            have hln : out.length = n := by rw [hout, List.length_map, want_len]
            have HOO := Lib.hid (fun i (hi : i < n) => show o[i]? = some (if true then i else n - 1 - i) by rw [hoe]; exact want_at hi)
            have HOU := Lib.hid (fun i (hi : i < n) => show out[i]? = some [if true then i else n - 1 - i] by rw [hout, List.getElem?_map, want_at hi]; rfl)
            have HLN := Lib.hid hln
            have HOL := Lib.hid hol
            rw [hcs]
            have hbo2 := HO2.out.bd
            rw [hln] at hbd1
            rw [hol] at hbo2
            clear hcs hout hoe HOV HC1
            have hnn : ((n : Int) != (n : Int)) = false := by simp
            go_wp2_with fail
            go_loopw [126] (fun i wi => ∃ k : Nat, k ≤ n ∧ i = .int .i64 k ∧ wi = w2) (fun i _ => n - (intOf i).toNat)
            case atStart => exact ⟨0, Nat.zero_le _, rfl, rfl⟩
            case round =>
              obtain ⟨k, hk, rfl, rfl⟩ := hrel
              by_cases hkn : k < n
              · obtain ⟨x, b, o2, A3, c3, hx, hA, h3, e0⟩ := HL2.out.at_ (i := k) (by rw [HLN.out]; exact hkn) (Kept.refl _)
                rw [HOU.out k hkn] at hx
                injection hx with hx
                subst hx
                obtain ⟨y, b4, o4, hy, hA3, e1⟩ := h3.at_ (i := 0) (by simp) (Kept.refl _)
                obtain rfl := Option.some.inj hy
                obtain ⟨z, b5, o5, hz, hA5, e2⟩ := HO2.out.at_ (i := k) (by rw [HOL.out]; exact hkn) (Kept.refl _)
                rw [HOO.out k hkn] at hz
                injection hz with hz
                subst hz
                have hcast : ((k : Nat) : Int) = (k : Int) := by omega
                simp only [Bool.false_eq_true, if_false, if_true, Nat.add_zero, List.length_cons, List.length_nil, Nat.zero_add, hcast] at e0 e1 e2
                have hi0 : (0 : Int) ≤ (k : Int) := Int.natCast_nonneg _
                have hi1 : (k : Int) < (n : Int) := by omega
                have hit : ((k : Int)).toNat = k := Int.toNat_natCast _
                have hbd3 := h3.bd
                simp only [List.length_cons, List.length_nil, Nat.zero_add] at hbd3
                clear hy h3 hcast
                subst hA hA3 hA5
                have hww : ((k : Int) != (k : Int)) = false := by simp
                go_wp2_with fail
                go_roundw
                case rel => exact ⟨k + 1, by omega, by simp, by first | rfl | trivial⟩
                case measure => (try simp only [intOf]); omega
              · go_wp2_with fail
                refine (awake21_any _).mono ?_
                rintro e w9 ⟨rfl, hb9⟩
                go_wp2_with fail
                go_ret
                exact ⟨rfl, below_next (below_next HB.out HB2.out) hb9⟩
    | false =>
      go_enter Try.func7, Try.ntmps7
      go_wp2_with fail
      clear hbig
      obtain ⟨n, hn⟩ : ∃ n : Nat, n = 2000 := ⟨_, rfl⟩
      have hn2 : n ≤ 2000 := by omega
      have h2n : 2 ≤ n := by omega
      rw [show (2000 : Int) = (n : Int) from by omega, show (1999 : Int) = (n : Int) - 1 from by omega]
      clear hn
      go_loopw [7, 23] (fun ev iv wr => ∃ k : Nat, k ≤ n - 1 ∧ iv = .int .i64 k ∧ Own wr w.heap.size 29 2 REdge ev (chE false k) ∧ Below w.heap.size w wr) (fun _ iv _ => n - (intOf iv).toNat)
      case atStart => exact ⟨0, Nat.zero_le _, rfl, Own.nil_ _ _ _ _ _, Below.refl _ _⟩
      case round =>
        obtain ⟨k, hk, rfl, ho, hb⟩ := hrel
        have HO := Lib.hid ho
        have HB := Lib.hid hb
        clear ho hb
        by_cases hlt : k < n - 1
        · have hlt2 : (k : Int) < (n : Int) - 1 := by omega
          have hk2 : k ≤ 2000 := by omega
          go_wp2_with (at_builtin; refine wpList_edges (by rfl) _ _ (by rfl) w.heap.size _ _ (by rfl) (HO.out.alloc _) [((k : Int), (k : Int) + 1)] _ _ 1 (by rfl) (by rfl) (blk_new1 _ _ _) (by simp) (by rw [ch_len]; simp; omega) (by have := HB.out.size; simp; omega) ?_; intro g5 cap5 w5 ho5 hg5 hat5; have HO5 := Lib.hid ho5; have HB5 := Lib.hid ((HO.out.alloc _).below (below_alloc HB.out _) (by have := HB.out.size; simp; omega) hg5); clear ho5 hg5 hat5)
          go_roundw
          case rel => exact ⟨k + 1, by omega, by simp, by rw [ch_snoc]; simpa using HO5.out, HB5.out⟩
          case measure => (try simp only [intOf]); omega
        · have hkn : k = n - 1 := by omega
          subst hkn
          have hlt2 : (n : Int) - 1 ≤ ((n - 1 : Nat) : Int) := by omega
          cases rg with
          | true =>
            go_wp2_with (at_builtin; refine wpList_edges (by rfl) _ _ (by rfl) w.heap.size _ _ (by rfl) (HO.out.alloc _) [((n : Int) - 1, 0)] _ _ 1 (by rfl) (by rfl) (blk_new1 _ _ _) (by simp) (by rw [ch_len]; simp; omega) (by have := HB.out.size; simp; omega) ?_; intro g5 cap5 w5 ho5 hg5 hat5; have HO5 := Lib.hid ho5; have HB5 := Lib.hid ((HO.out.alloc _).below (below_alloc HB.out _) (by have := HB.out.size; simp; omega) hg5); clear ho5 hg5 hat5)
            have hE := HO5.out
            rw [show chE false (n - 1) ++ [((n : Int) - 1, 0)] = lonE n false true from (lon_yes n false).symm] at hE
            have hel := lon_few (bk := false) (rg := true) hn2
            obtain ⟨Ae, ce, hve, hse⟩ := hE.slc (z := 16) (by omega)
            have hch : (chE false (n - 1)).length + 1 = (lonE n false true).length := by rw [lon_yes]; simp
            rw [hch] at hve ⊢
            rw [hve]
            have HE := Lib.hid (show Edges w5 Ae ce (lonE n false true) from hse)
            clear hE hse hve HO hch
            have HMX := Lib.hid (show max 0 (min (n : Int) 2000) = (n : Int) by omega)
            go_wp2_with fail
            refine (comps2_any n Ae ce _ n HMX.out _ HE.out).mono ?_
            rintro e w1 ⟨out, B1, d1, rfl, hl1, hc1, hb1⟩
            have hbd1 := Slc.bd' hl1
            have HL1 := Lib.hid hl1
            have HC1 := Lib.hid hc1
            have HB1 := Lib.hid hb1
            clear hl1 hc1 hb1
            go_wp2_with fail
            refine (order_any n Ae ce _ n HMX.out _ (HE.out.kept (Kept.of_below HB1.out)) out HC1.out).mono ?_
            rintro e w2 ⟨o, B2, d2, rfl, ho2, hov, hb2⟩
            have HL2 := Lib.hid (HL1.out.kept (Kept.of_below hb2))
            have HB2 := Lib.hid (below_next HB1.out hb2)
            have HO2 := Lib.hid ho2
            have HOV := Lib.hid hov
            clear hb2 ho2 hov
            obtain rfl := ring_out hn2 h2n HC1.out
            have hcs := can_big (n := n) (adj := adjE (vE n (lonE n false true))) (c := List.range n) (List.mem_singleton.2 rfl) (by rw [List.length_range]; omega)
            have hoe : o = [] := HOV.out.trans (ord_no hcs)
            subst hoe
            rw [hcs]
            obtain ⟨x, b, o2, A3, c3, hx, rfl, h3, e0⟩ := HL2.out.at_ (i := 0) (by simp) (Kept.refl _)
            obtain rfl : List.range n = x := by simpa using hx
            have hbd3 := h3.bd
            obtain ⟨y, b4, o4, hy, rfl, e1⟩ := h3.at_ (i := n - 1) (by rw [List.length_range]; omega) (Kept.refl _)
            obtain rfl : n - 1 = y := by
              rw [List.getElem?_range (by omega)] at hy
              exact Option.some.inj hy
            rw [show ((n - 1 : Nat) : Int) = (n : Int) - 1 from by omega] at e1
            rw [List.length_range] at hbd3 e0
            simp only [Nat.add_zero] at e0
            have hi0 : (0 : Int) ≤ (n : Int) - 1 := by omega
            have hi1 : (n : Int) - 1 < (n : Int) := by omega
            have hit : ((n : Int) - 1).toNat = n - 1 := by omega
            clear hcs hx hy h3 HOV HO2
            go_wp2_with fail
            refine (reach_any n Ae ce _ n HMX.out _ _ (HE.out.kept (Kept.of_below HB2.out))).mono ?_
            rintro e w8 ⟨re, B8, d8, rfl, hr8, hv8, hb8⟩
            have hre : re = List.range n := hv8.trans (by first | exact ring_reach (f := n / 2) hn2 (by omega) | (rw [show (n : Int).tdiv 2 = ((n / 2 : Nat) : Int) from by omega]; exact ring_reach (f := n / 2) hn2 (by omega)))
            have hrl : re.length = n := by rw [hre, List.length_range]
            have HB8 := Lib.hid (below_next HB2.out hb8)
            clear hr8 hv8 hb8 hre
            go_wp2_with fail
            refine (awake21_any _).mono ?_
            rintro e w9 ⟨rfl, hb9⟩
            go_wp2_with fail
            go_ret
            exact ⟨rfl, below_next (below_next HB5.out HB8.out) hb9⟩
          | false =>
            have hE := HO.out
            rw [show chE false (n - 1) = lonE n false false from (lon_no n false).symm] at hE
            have hel := lon_few (bk := false) (rg := false) hn2
            obtain ⟨Ae, ce, rfl, hse⟩ := hE.slc (z := 16) (by omega)
            have HE := Lib.hid (show Edges wr Ae ce (lonE n false false) from hse)
            clear hE hse HO
            have HMX := Lib.hid (show max 0 (min (n : Int) 2000) = (n : Int) by omega)
            go_wp2_with fail
            refine (comps2_any n Ae ce _ n HMX.out _ HE.out).mono ?_
            rintro e w1 ⟨out, B1, d1, rfl, hl1, hc1, hb1⟩
            have hbd1 := Slc.bd' hl1
            have HL1 := Lib.hid hl1
            have HC1 := Lib.hid hc1
            have HB1 := Lib.hid hb1
            clear hl1 hc1 hb1
            go_wp2_with fail
            refine (order_any n Ae ce _ n HMX.out _ (HE.out.kept (Kept.of_below HB1.out)) out HC1.out).mono ?_
            rintro e w2 ⟨o, B2, d2, rfl, ho2, hov, hb2⟩
            have HL2 := Lib.hid (HL1.out.kept (Kept.of_below hb2))
            have HB2 := Lib.hid (below_next HB1.out hb2)
            have HO2 := Lib.hid ho2
            have HOV := Lib.hid hov
            clear hb2 ho2 hov
            have hcs := long_can hn2 HC1.out
            have hout := long_out hn2 HC1.out
            have hoe : o = wantL n false := by rw [HOV.out, ord_yes hcs, hout, flat_one]
            have hol : o.length = n := by rw [hoe, want_len]
            have hln : out.length = n := by rw [hout, List.length_map, want_len]
            have HOO := Lib.hid (fun i (hi : i < n) => show o[i]? = some (if false then i else n - 1 - i) by rw [hoe]; exact want_at hi)
            have HOU := Lib.hid (fun i (hi : i < n) => show out[i]? = some [if false then i else n - 1 - i] by rw [hout, List.getElem?_map, want_at hi]; rfl)
            have HLN := Lib.hid hln
            have HOL := Lib.hid hol
            rw [hcs]
            have hbo2 := HO2.out.bd
            rw [hln] at hbd1
            rw [hol] at hbo2
            clear hcs hout hoe HOV HC1
            have hnn : ((n : Int) != (n : Int)) = false := by simp
            go_wp2_with fail
            go_loopw [126] (fun i wi => ∃ k : Nat, k ≤ n ∧ i = .int .i64 k ∧ wi = w2) (fun i _ => n - (intOf i).toNat)
            case atStart => exact ⟨0, Nat.zero_le _, rfl, rfl⟩
            case round =>
              obtain ⟨k, hk, rfl, rfl⟩ := hrel
              by_cases hkn : k < n
              · obtain ⟨x, b, o2, A3, c3, hx, hA, h3, e0⟩ := HL2.out.at_ (i := k) (by rw [HLN.out]; exact hkn) (Kept.refl _)
                rw [HOU.out k hkn] at hx
                injection hx with hx
                subst hx
                obtain ⟨y, b4, o4, hy, hA3, e1⟩ := h3.at_ (i := 0) (by simp) (Kept.refl _)
                obtain rfl := Option.some.inj hy
                obtain ⟨z, b5, o5, hz, hA5, e2⟩ := HO2.out.at_ (i := k) (by rw [HOL.out]; exact hkn) (Kept.refl _)
                rw [HOO.out k hkn] at hz
                injection hz with hz
                subst hz
                have hcast : ((n - 1 - k : Nat) : Int) = (n : Int) - 1 - (k : Int) := by omega
                simp only [Bool.false_eq_true, if_false, if_true, Nat.add_zero, List.length_cons, List.length_nil, Nat.zero_add, hcast] at e0 e1 e2
                have hi0 : (0 : Int) ≤ (k : Int) := Int.natCast_nonneg _
                have hi1 : (k : Int) < (n : Int) := by omega
                have hit : ((k : Int)).toNat = k := Int.toNat_natCast _
                have hbd3 := h3.bd
                simp only [List.length_cons, List.length_nil, Nat.zero_add] at hbd3
                clear hy h3 hcast
                subst hA hA3 hA5
                have hww : ((n : Int) - 1 - (k : Int) != (n : Int) - 1 - (k : Int)) = false := by simp
                go_wp2_with fail
                go_roundw
                case rel => exact ⟨k + 1, by omega, by simp, by first | rfl | trivial⟩
                case measure => (try simp only [intOf]); omega
              · go_wp2_with fail
                refine (awake21_any _).mono ?_
                rintro e w9 ⟨rfl, hb9⟩
                go_wp2_with fail
                go_ret
                exact ⟨rfl, below_next (below_next HB.out HB2.out) hb9⟩
  · obtain ⟨n, hn⟩ : ∃ n : Nat, (IntKind.u64.wrap n0).tmod 2000 = (n : Int) - 2 := ⟨((IntKind.u64.wrap n0).tmod 2000 + 2).toNat, by omega⟩
    have hn2 : n ≤ 2000 := by omega
    have h2n : 2 ≤ n := by omega
    clear hbig hr0 hr1
    cases bk with
    | true =>
      go_enter Try.func7, Try.ntmps7
      go_wp2_with fail
      clear hn
      go_loopw [7, 23] (fun ev iv wr => ∃ k : Nat, k ≤ n - 1 ∧ iv = .int .i64 k ∧ Own wr w.heap.size 29 2 REdge ev (chE true k) ∧ Below w.heap.size w wr) (fun _ iv _ => n - (intOf iv).toNat)
      case atStart => exact ⟨0, Nat.zero_le _, rfl, Own.nil_ _ _ _ _ _, Below.refl _ _⟩
      case round =>
        obtain ⟨k, hk, rfl, ho, hb⟩ := hrel
        have HO := Lib.hid ho
        have HB := Lib.hid hb
        clear ho hb
        by_cases hlt : k < n - 1
        · have hlt2 : (k : Int) < (n : Int) - 1 := by omega
          have hk2 : k ≤ 2000 := by omega
          go_wp2_with (at_builtin; refine wpList_edges (by rfl) _ _ (by rfl) w.heap.size _ _ (by rfl) (HO.out.alloc _) [((k : Int) + 1, (k : Int))] _ _ 1 (by rfl) (by rfl) (blk_new1 _ _ _) (by simp) (by rw [ch_len]; simp; omega) (by have := HB.out.size; simp; omega) ?_; intro g5 cap5 w5 ho5 hg5 hat5; have HO5 := Lib.hid ho5; have HB5 := Lib.hid ((HO.out.alloc _).below (below_alloc HB.out _) (by have := HB.out.size; simp; omega) hg5); clear ho5 hg5 hat5)
          go_roundw
          case rel => exact ⟨k + 1, by omega, by simp, by rw [ch_snoc]; simpa using HO5.out, HB5.out⟩
          case measure => (try simp only [intOf]); omega
        · have hkn : k = n - 1 := by omega
          subst hkn
          have hlt2 : (n : Int) - 1 ≤ ((n - 1 : Nat) : Int) := by omega
          cases rg with
          | true =>
            go_wp2_with (at_builtin; refine wpList_edges (by rfl) _ _ (by rfl) w.heap.size _ _ (by rfl) (HO.out.alloc _) [(0, (n : Int) - 1)] _ _ 1 (by rfl) (by rfl) (blk_new1 _ _ _) (by simp) (by rw [ch_len]; simp; omega) (by have := HB.out.size; simp; omega) ?_; intro g5 cap5 w5 ho5 hg5 hat5; have HO5 := Lib.hid ho5; have HB5 := Lib.hid ((HO.out.alloc _).below (below_alloc HB.out _) (by have := HB.out.size; simp; omega) hg5); clear ho5 hg5 hat5)
            have hE := HO5.out
            rw [show chE true (n - 1) ++ [(0, (n : Int) - 1)] = lonE n true true from (lon_yes n true).symm] at hE
            have hel := lon_few (bk := true) (rg := true) hn2
            obtain ⟨Ae, ce, hve, hse⟩ := hE.slc (z := 16) (by omega)
            have hch : (chE true (n - 1)).length + 1 = (lonE n true true).length := by rw [lon_yes]; simp
            rw [hch] at hve ⊢
            rw [hve]
            have HE := Lib.hid (show Edges w5 Ae ce (lonE n true true) from hse)
            clear hE hse hve HO hch
            have HMX := Lib.hid (show max 0 (min (n : Int) 2000) = (n : Int) by omega)
            go_wp2_with fail
            refine (comps2_any n Ae ce _ n HMX.out _ HE.out).mono ?_
            rintro e w1 ⟨out, B1, d1, rfl, hl1, hc1, hb1⟩
            have hbd1 := Slc.bd' hl1
            have HL1 := Lib.hid hl1
            have HC1 := Lib.hid hc1
            have HB1 := Lib.hid hb1
            clear hl1 hc1 hb1
            go_wp2_with fail
            refine (order_any n Ae ce _ n HMX.out _ (HE.out.kept (Kept.of_below HB1.out)) out HC1.out).mono ?_
            rintro e w2 ⟨o, B2, d2, rfl, ho2, hov, hb2⟩
            have HL2 := Lib.hid (HL1.out.kept (Kept.of_below hb2))
            have HB2 := Lib.hid (below_next HB1.out hb2)
            have HO2 := Lib.hid ho2
            have HOV := Lib.hid hov
            clear hb2 ho2 hov
            obtain rfl := ring_out hn2 h2n HC1.out
            have hcs := can_big (n := n) (adj := adjE (vE n (lonE n true true))) (c := List.range n) (List.mem_singleton.2 rfl) (by rw [List.length_range]; omega)
            have hoe : o = [] := HOV.out.trans (ord_no hcs)
            subst hoe
            rw [hcs]
            obtain ⟨x, b, o2, A3, c3, hx, rfl, h3, e0⟩ := HL2.out.at_ (i := 0) (by simp) (Kept.refl _)
            obtain rfl : List.range n = x := by simpa using hx
            have hbd3 := h3.bd
            obtain ⟨y, b4, o4, hy, rfl, e1⟩ := h3.at_ (i := n - 1) (by rw [List.length_range]; omega) (Kept.refl _)
            obtain rfl : n - 1 = y := by
              rw [List.getElem?_range (by omega)] at hy
              exact Option.some.inj hy
            rw [show ((n - 1 : Nat) : Int) = (n : Int) - 1 from by omega] at e1
            rw [List.length_range] at hbd3 e0
            simp only [Nat.add_zero] at e0
            have hi0 : (0 : Int) ≤ (n : Int) - 1 := by omega
            have hi1 : (n : Int) - 1 < (n : Int) := by omega
            have hit : ((n : Int) - 1).toNat = n - 1 := by omega
            clear hcs hx hy h3 HOV HO2
            go_wp2_with fail
            refine (reach_any n Ae ce _ n HMX.out _ _ (HE.out.kept (Kept.of_below HB2.out))).mono ?_
            rintro e w8 ⟨re, B8, d8, rfl, hr8, hv8, hb8⟩
            have hre : re = List.range n := hv8.trans (by first | exact ring_reach (f := n / 2) hn2 (by omega) | (rw [show (n : Int).tdiv 2 = ((n / 2 : Nat) : Int) from by omega]; exact ring_reach (f := n / 2) hn2 (by omega)))
            have hrl : re.length = n := by rw [hre, List.length_range]
            have HB8 := Lib.hid (below_next HB2.out hb8)
            clear hr8 hv8 hb8 hre
            go_wp2_with fail
            refine (awake21_any _).mono ?_
            rintro e w9 ⟨rfl, hb9⟩
            go_wp2_with fail
            go_ret
            exact ⟨rfl, below_next (below_next HB5.out HB8.out) hb9⟩
          | false =>
            have hE := HO.out
            rw [show chE true (n - 1) = lonE n true false from (lon_no n true).symm] at hE
            have hel := lon_few (bk := true) (rg := false) hn2
            obtain ⟨Ae, ce, rfl, hse⟩ := hE.slc (z := 16) (by omega)
            have HE := Lib.hid (show Edges wr Ae ce (lonE n true false) from hse)
            clear hE hse HO
            have HMX := Lib.hid (show max 0 (min (n : Int) 2000) = (n : Int) by omega)
            go_wp2_with fail
            refine (comps2_any n Ae ce _ n HMX.out _ HE.out).mono ?_
            rintro e w1 ⟨out, B1, d1, rfl, hl1, hc1, hb1⟩
            have hbd1 := Slc.bd' hl1
            have HL1 := Lib.hid hl1
            have HC1 := Lib.hid hc1
            have HB1 := Lib.hid hb1
            clear hl1 hc1 hb1
            go_wp2_with fail
            refine (order_any n Ae ce _ n HMX.out _ (HE.out.kept (Kept.of_below HB1.out)) out HC1.out).mono ?_
            rintro e w2 ⟨o, B2, d2, rfl, ho2, hov, hb2⟩
            have HL2 := Lib.hid (HL1.out.kept (Kept.of_below hb2))
            have HB2 := Lib.hid (below_next HB1.out hb2)
            have HO2 := Lib.hid ho2
            have HOV := Lib.hid hov
            clear hb2 ho2 hov
            have hcs := long_can hn2 HC1.out
            have hout := long_out hn2 HC1.out
            have hoe : o = wantL n true := by rw [HOV.out, ord_yes hcs, hout, flat_one]
            have hol : o.length = n := by rw [hoe, want_len]
            have hln : out.length = n := by rw [hout, List.length_map, want_len]
            have HOO := Lib.hid (fun i (hi : i < n) => show o[i]? = some (if true then i else n - 1 - i) by rw [hoe]; exact want_at hi)
            have HOU := Lib.hid (fun i (hi : i < n) => show out[i]? = some [if true then i else n - 1 - i] by rw [hout, List.getElem?_map, want_at hi]; rfl)
            have HLN := Lib.hid hln
            have HOL := Lib.hid hol
            rw [hcs]
            have hbo2 := HO2.out.bd
            rw [hln] at hbd1
            rw [hol] at hbo2
            clear hcs hout hoe HOV HC1
            have hnn : ((n : Int) != (n : Int)) = false := by simp
            go_wp2_with fail
            go_loopw [126] (fun i wi => ∃ k : Nat, k ≤ n ∧ i = .int .i64 k ∧ wi = w2) (fun i _ => n - (intOf i).toNat)
            case atStart => exact ⟨0, Nat.zero_le _, rfl, rfl⟩
            case round =>
              obtain ⟨k, hk, rfl, rfl⟩ := hrel
              by_cases hkn : k < n
              · obtain ⟨x, b, o2, A3, c3, hx, hA, h3, e0⟩ := HL2.out.at_ (i := k) (by rw [HLN.out]; exact hkn) (Kept.refl _)
                rw [HOU.out k hkn] at hx
                injection hx with hx
                subst hx
                obtain ⟨y, b4, o4, hy, hA3, e1⟩ := h3.at_ (i := 0) (by simp) (Kept.refl _)
                obtain rfl := Option.some.inj hy
                obtain ⟨z, b5, o5, hz, hA5, e2⟩ := HO2.out.at_ (i := k) (by rw [HOL.out]; exact hkn) (Kept.refl _)
                rw [HOO.out k hkn] at hz
                injection hz with hz
                subst hz
                have hcast : ((k : Nat) : Int) = (k : Int) := by omega
                simp only [Bool.false_eq_true, if_false, if_true, Nat.add_zero, List.length_cons, List.length_nil, Nat.zero_add, hcast] at e0 e1 e2
                have hi0 : (0 : Int) ≤ (k : Int) := Int.natCast_nonneg _
                have hi1 : (k : Int) < (n : Int) := by omega
                have hit : ((k : Int)).toNat = k := Int.toNat_natCast _
                have hbd3 := h3.bd
                simp only [List.length_cons, List.length_nil, Nat.zero_add] at hbd3
                clear hy h3 hcast
                subst hA hA3 hA5
                have hww : ((k : Int) != (k : Int)) = false := by simp
                go_wp2_with fail
                go_roundw
                case rel => exact ⟨k + 1, by omega, by simp, by first | rfl | trivial⟩
                case measure => (try simp only [intOf]); omega
              · go_wp2_with fail
                refine (awake21_any _).mono ?_
                rintro e w9 ⟨rfl, hb9⟩
                go_wp2_with fail
                go_ret
                exact ⟨rfl, below_next (below_next HB.out HB2.out) hb9⟩
    | false =>
      go_enter Try.func7, Try.ntmps7
      go_wp2_with fail
      clear hn
      go_loopw [7, 23] (fun ev iv wr => ∃ k : Nat, k ≤ n - 1 ∧ iv = .int .i64 k ∧ Own wr w.heap.size 29 2 REdge ev (chE false k) ∧ Below w.heap.size w wr) (fun _ iv _ => n - (intOf iv).toNat)
      case atStart => exact ⟨0, Nat.zero_le _, rfl, Own.nil_ _ _ _ _ _, Below.refl _ _⟩
      case round =>
        obtain ⟨k, hk, rfl, ho, hb⟩ := hrel
        have HO := Lib.hid ho
        have HB := Lib.hid hb
        clear ho hb
        by_cases hlt : k < n - 1
        · have hlt2 : (k : Int) < (n : Int) - 1 := by omega
          have hk2 : k ≤ 2000 := by omega
          go_wp2_with (at_builtin; refine wpList_edges (by rfl) _ _ (by rfl) w.heap.size _ _ (by rfl) (HO.out.alloc _) [((k : Int), (k : Int) + 1)] _ _ 1 (by rfl) (by rfl) (blk_new1 _ _ _) (by simp) (by rw [ch_len]; simp; omega) (by have := HB.out.size; simp; omega) ?_; intro g5 cap5 w5 ho5 hg5 hat5; have HO5 := Lib.hid ho5; have HB5 := Lib.hid ((HO.out.alloc _).below (below_alloc HB.out _) (by have := HB.out.size; simp; omega) hg5); clear ho5 hg5 hat5)
          go_roundw
          case rel => exact ⟨k + 1, by omega, by simp, by rw [ch_snoc]; simpa using HO5.out, HB5.out⟩
          case measure => (try simp only [intOf]); omega
        · have hkn : k = n - 1 := by omega
          subst hkn
          have hlt2 : (n : Int) - 1 ≤ ((n - 1 : Nat) : Int) := by omega
          cases rg with
          | true =>
            go_wp2_with (at_builtin; refine wpList_edges (by rfl) _ _ (by rfl) w.heap.size _ _ (by rfl) (HO.out.alloc _) [((n : Int) - 1, 0)] _ _ 1 (by rfl) (by rfl) (blk_new1 _ _ _) (by simp) (by rw [ch_len]; simp; omega) (by have := HB.out.size; simp; omega) ?_; intro g5 cap5 w5 ho5 hg5 hat5; have HO5 := Lib.hid ho5; have HB5 := Lib.hid ((HO.out.alloc _).below (below_alloc HB.out _) (by have := HB.out.size; simp; omega) hg5); clear ho5 hg5 hat5)
            have hE := HO5.out
            rw [show chE false (n - 1) ++ [((n : Int) - 1, 0)] = lonE n false true from (lon_yes n false).symm] at hE
            have hel := lon_few (bk := false) (rg := true) hn2
            obtain ⟨Ae, ce, hve, hse⟩ := hE.slc (z := 16) (by omega)
            have hch : (chE false (n - 1)).length + 1 = (lonE n false true).length := by rw [lon_yes]; simp
            rw [hch] at hve ⊢
            rw [hve]
            have HE := Lib.hid (show Edges w5 Ae ce (lonE n false true) from hse)
            clear hE hse hve HO hch
            have HMX := Lib.hid (show max 0 (min (n : Int) 2000) = (n : Int) by omega)
            go_wp2_with fail
            refine (comps2_any n Ae ce _ n HMX.out _ HE.out).mono ?_
            rintro e w1 ⟨out, B1, d1, rfl, hl1, hc1, hb1⟩
            have hbd1 := Slc.bd' hl1
            have HL1 := Lib.hid hl1
            have HC1 := Lib.hid hc1
            have HB1 := Lib.hid hb1
            clear hl1 hc1 hb1
            go_wp2_with fail
            refine (order_any n Ae ce _ n HMX.out _ (HE.out.kept (Kept.of_below HB1.out)) out HC1.out).mono ?_
            rintro e w2 ⟨o, B2, d2, rfl, ho2, hov, hb2⟩
            have HL2 := Lib.hid (HL1.out.kept (Kept.of_below hb2))
            have HB2 := Lib.hid (below_next HB1.out hb2)
            have HO2 := Lib.hid ho2
            have HOV := Lib.hid hov
            clear hb2 ho2 hov
            obtain rfl := ring_out hn2 h2n HC1.out
            have hcs := can_big (n := n) (adj := adjE (vE n (lonE n false true))) (c := List.range n) (List.mem_singleton.2 rfl) (by rw [List.length_range]; omega)
            have hoe : o = [] := HOV.out.trans (ord_no hcs)
            subst hoe
            rw [hcs]
            obtain ⟨x, b, o2, A3, c3, hx, rfl, h3, e0⟩ := HL2.out.at_ (i := 0) (by simp) (Kept.refl _)
            obtain rfl : List.range n = x := by simpa using hx
            have hbd3 := h3.bd
            obtain ⟨y, b4, o4, hy, rfl, e1⟩ := h3.at_ (i := n - 1) (by rw [List.length_range]; omega) (Kept.refl _)
            obtain rfl : n - 1 = y := by
              rw [List.getElem?_range (by omega)] at hy
              exact Option.some.inj hy
            rw [show ((n - 1 : Nat) : Int) = (n : Int) - 1 from by omega] at e1
            rw [List.length_range] at hbd3 e0
            simp only [Nat.add_zero] at e0
            have hi0 : (0 : Int) ≤ (n : Int) - 1 := by omega
            have hi1 : (n : Int) - 1 < (n : Int) := by omega
            have hit : ((n : Int) - 1).toNat = n - 1 := by omega
            clear hcs hx hy h3 HOV HO2
            go_wp2_with fail
            refine (reach_any n Ae ce _ n HMX.out _ _ (HE.out.kept (Kept.of_below HB2.out))).mono ?_
            rintro e w8 ⟨re, B8, d8, rfl, hr8, hv8, hb8⟩
            have hre : re = List.range n := hv8.trans (by first | exact ring_reach (f := n / 2) hn2 (by omega) | (rw [show (n : Int).tdiv 2 = ((n / 2 : Nat) : Int) from by omega]; exact ring_reach (f := n / 2) hn2 (by omega)))
            have hrl : re.length = n := by rw [hre, List.length_range]
            have HB8 := Lib.hid (below_next HB2.out hb8)
            clear hr8 hv8 hb8 hre
            go_wp2_with fail
            refine (awake21_any _).mono ?_
            rintro e w9 ⟨rfl, hb9⟩
            go_wp2_with fail
            go_ret
            exact ⟨rfl, below_next (below_next HB5.out HB8.out) hb9⟩
          | false =>
            have hE := HO.out
            rw [show chE false (n - 1) = lonE n false false from (lon_no n false).symm] at hE
            have hel := lon_few (bk := false) (rg := false) hn2
            obtain ⟨Ae, ce, rfl, hse⟩ := hE.slc (z := 16) (by omega)
            have HE := Lib.hid (show Edges wr Ae ce (lonE n false false) from hse)
            clear hE hse HO
            have HMX := Lib.hid (show max 0 (min (n : Int) 2000) = (n : Int) by omega)
            go_wp2_with fail
            refine (comps2_any n Ae ce _ n HMX.out _ HE.out).mono ?_
            rintro e w1 ⟨out, B1, d1, rfl, hl1, hc1, hb1⟩
            have hbd1 := Slc.bd' hl1
            have HL1 := Lib.hid hl1
            have HC1 := Lib.hid hc1
            have HB1 := Lib.hid hb1
            clear hl1 hc1 hb1
            go_wp2_with fail
            refine (order_any n Ae ce _ n HMX.out _ (HE.out.kept (Kept.of_below HB1.out)) out HC1.out).mono ?_
            rintro e w2 ⟨o, B2, d2, rfl, ho2, hov, hb2⟩
            have HL2 := Lib.hid (HL1.out.kept (Kept.of_below hb2))
            have HB2 := Lib.hid (below_next HB1.out hb2)
            have HO2 := Lib.hid ho2
            have HOV := Lib.hid hov
            clear hb2 ho2 hov
            have hcs := long_can hn2 HC1.out
            have hout := long_out hn2 HC1.out
            have hoe : o = wantL n false := by rw [HOV.out, ord_yes hcs, hout, flat_one]
            have hol : o.length = n := by rw [hoe, want_len]
            have hln : out.length = n := by rw [hout, List.length_map, want_len]
            have HOO := Lib.hid (fun i (hi : i < n) => show o[i]? = some (if false then i else n - 1 - i) by rw [hoe]; exact want_at hi)
            have HOU := Lib.hid (fun i (hi : i < n) => show out[i]? = some [if false then i else n - 1 - i] by rw [hout, List.getElem?_map, want_at hi]; rfl)
            have HLN := Lib.hid hln
            have HOL := Lib.hid hol
            rw [hcs]
            have hbo2 := HO2.out.bd
            rw [hln] at hbd1
            rw [hol] at hbo2
            clear hcs hout hoe HOV HC1
            have hnn : ((n : Int) != (n : Int)) = false := by simp
            go_wp2_with fail
            go_loopw [126] (fun i wi => ∃ k : Nat, k ≤ n ∧ i = .int .i64 k ∧ wi = w2) (fun i _ => n - (intOf i).toNat)
            case atStart => exact ⟨0, Nat.zero_le _, rfl, rfl⟩
            case round =>
              obtain ⟨k, hk, rfl, rfl⟩ := hrel
              by_cases hkn : k < n
              · obtain ⟨x, b, o2, A3, c3, hx, hA, h3, e0⟩ := HL2.out.at_ (i := k) (by rw [HLN.out]; exact hkn) (Kept.refl _)
                rw [HOU.out k hkn] at hx
                injection hx with hx
                subst hx
                obtain ⟨y, b4, o4, hy, hA3, e1⟩ := h3.at_ (i := 0) (by simp) (Kept.refl _)
                obtain rfl := Option.some.inj hy
                obtain ⟨z, b5, o5, hz, hA5, e2⟩ := HO2.out.at_ (i := k) (by rw [HOL.out]; exact hkn) (Kept.refl _)
                rw [HOO.out k hkn] at hz
                injection hz with hz
                subst hz
                have hcast : ((n - 1 - k : Nat) : Int) = (n : Int) - 1 - (k : Int) := by omega
                simp only [Bool.false_eq_true, if_false, if_true, Nat.add_zero, List.length_cons, List.length_nil, Nat.zero_add, hcast] at e0 e1 e2
                have hi0 : (0 : Int) ≤ (k : Int) := Int.natCast_nonneg _
                have hi1 : (k : Int) < (n : Int) := by omega
                have hit : ((k : Int)).toNat = k := Int.toNat_natCast _
                have hbd3 := h3.bd
                simp only [List.length_cons, List.length_nil, Nat.zero_add] at hbd3
                clear hy h3 hcast
                subst hA hA3 hA5
                have hww : ((n : Int) - 1 - (k : Int) != (n : Int) - 1 - (k : Int)) = false := by simp
                go_wp2_with fail
                go_roundw
                case rel => exact ⟨k + 1, by omega, by simp, by first | rfl | trivial⟩
                case measure => (try simp only [intOf]); omega
              · go_wp2_with fail
                refine (awake21_any _).mono ?_
                rintro e w9 ⟨rfl, hb9⟩
                go_wp2_with fail
                go_ret
                exact ⟨rfl, below_next (below_next HB.out HB2.out) hb9⟩
end Go.Proofs.Ytodhianmaogfpaa
