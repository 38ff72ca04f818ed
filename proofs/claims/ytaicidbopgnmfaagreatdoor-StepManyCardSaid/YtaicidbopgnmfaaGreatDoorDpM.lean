/- The law StepMany. -/
import Derived.Test.YtaicidbopgnmfaaGreatDoorDpT
namespace Go.Proofs.YtaicidbopgnmfaaGreatDoor
set_option linter.unusedSimpArgs false
set_option linter.unusedVariables false
open Go.RowKit
attribute [local go_sem ↓] Go.wp_at_zero Go.wp_at_succ
def mkS (i : Nat) : Stp := ⟨if i % 2 = 0 then 1 else 4, [97, 97], []⟩
def mkL (n : Nat) : List Stp := (List.range n).map mkS
def entM (b : Bool) : Ent := ⟨⟨[97, 97], [49], [], [], [], [], [], [], false⟩, b, false⟩
theorem mkL_len (n : Nat) : (mkL n).length = n := by simp [mkL]
theorem mkL_at {n i : Nat} (h : i < n) : (mkL n)[i]? = some (mkS i) := by simp [mkL, h]
theorem mkL_snoc (n : Nat) : mkL (n + 1) = mkL n ++ [mkS n] := by simp [mkL, List.range_succ]
theorem do_evenM : doS [entM true] ⟨1, [97, 97], []⟩ [] = ([entM false], 0) := by decide +kernel
theorem do_oddM : doS [entM false] ⟨4, [97, 97], []⟩ [] = ([entM true], 0) := by decide +kernel
def stM (k : Nat) : Bool := decide (k % 2 = 0)
theorem do_mM (k : Nat) : doS [entM (stM k)] (mkS k) [] = ([entM (stM (k + 1))], 0) := by
  by_cases h : k % 2 = 0
  · have h1 : ¬ (k + 1) % 2 = 0 := by omega
    unfold stM mkS
    rw [if_pos h, decide_eq_true h, decide_eq_false h1]
    exact do_evenM
  · have h1 : (k + 1) % 2 = 0 := by omega
    unfold stM mkS
    rw [if_neg h, decide_eq_false h, decide_eq_true h1]
    exact do_oddM
theorem run_mM (n : Nat) : ∀ d k, k + d = n → runS [entM (stM k)] ((mkL n).drop k) [] k = ([entM (stM n)], n, 0) := fun d => by
  induction d with
  | zero =>
    intro k h
    obtain rfl : k = n := by omega
    exact run_end (by rw [mkL_len]; omega)
  | succ d ih =>
    intro k h
    have h1 := do_mM k
    rw [run_go (mkL_at (show k < n by omega)) (by rw [h1]), h1]
    exact ih (k + 1) (by omega)
theorem run_manyM {n : Nat} (h : n ≤ 200) : runM [entM true] (mkL n) [] = ([entM (stM n)], n, 0) := by
  rw [run_few (by rw [mkL_len]; omega)]
  exact run_mM n n 0 (by omega)
theorem run_moreM {n : Nat} (h : 200 < n) : runM [entM true] (mkL n) [] = ([], 0, 12) := run_many (by rw [mkL_len]; omega)
theorem wrap_u8 (n0 : Int) : ∃ r : Nat, (IntKind.u64.wrap n0).tmod 8 = (r : Int) ∧ r < 8 := by
  have h : 0 ≤ IntKind.u64.wrap n0 := by
    have h64 : (2 : Int) ^ IntKind.u64.bits = 18446744073709551616 := by decide +kernel
    have hs : IntKind.u64.signed = false := rfl
    unfold IntKind.wrap
    simp only [h64, hs, Bool.false_and, Bool.false_eq_true, if_false]
    omega
  have h1 := Int.tmod_nonneg 8 h
  have h2 := Int.tmod_lt_of_pos (IntKind.u64.wrap n0) (show (0 : Int) < 8 by omega)
  exact ⟨((IntKind.u64.wrap n0).tmod 8).toNat, by omega, by omega⟩
theorem infStS : (Tryz.prog.info? 24).map (fun i => (i.zero, i.size, i.bytes)) = some (some (.agg #[.int .i64 0, .string (bs []), .string (bs [])]), 3, 40) := by kernel_rfl
theorem fewM {b : Bool} : fewD (entM b).pkg := by unfold fewD fewOE entM; cases b <;> decide
set_option maxRecDepth 100000 in
set_option maxHeartbeats 4000000 in
theorem law_many (n0 : Int) (w : World) (_h0 : -9223372036854775808 ≤ n0 ∧ n0 ≤ 9223372036854775807) :
    Calls Tryz.prog 7 #[.int .i64 n0] w fun e w' => e = .returned (.bool true) ∧ Below w.heap.size w w' := by
  obtain ⟨r, hr, hr8⟩ := wrap_u8 n0
  go_enter Tryz.func7, Tryz.ntmps7
  go_wp2_with fail
  obtain ⟨n, hn⟩ : ∃ n : Nat, n = 196 + r := ⟨_, rfl⟩
  rw [show (196 : Int) + (r : Int) = (n : Int) from by omega]
  have hn3 : n ≤ 203 := by omega
  clear hr hr8 hn
  have hE1 : Ents (w.alloc (.cells #[.string ⟨#[97, 97]⟩, .string ⟨#[49]⟩, .slice none 0 0, .slice none 0 0, .slice none 0 0, .slice none 0 0, .slice none 0 0, .slice none 0 0, .bool false, .bool true, .bool false] 45)) (some ⟨w.heap.size, 0, none⟩) 1 [entM true] := ents_one (r := ⟨none, none, none, none, none, none, 0, 0, 0, 0, 0, 0⟩) (blk_new1 w 45 _) ⟨short_le (by decide), short_le (by decide), Slc.nil_ (Nat.zero_le _), Slc.nil_ (Nat.zero_le _), Slc.nil_ (Nat.zero_le _), Slc.nil_ (Nat.zero_le _), Slc.nil_ (Nat.zero_le _), Slc.nil_ (Nat.zero_le _)⟩
  have hB1 := below_alloc (Below.refl w.heap.size w) (.cells #[.string ⟨#[97, 97]⟩, .string ⟨#[49]⟩, .slice none 0 0, .slice none 0 0, .slice none 0 0, .slice none 0 0, .slice none 0 0, .slice none 0 0, .bool false, .bool true, .bool false] 45)
  obtain ⟨w1, hw1⟩ : ∃ w1 : World, w1 = w.alloc (.cells #[.string ⟨#[97, 97]⟩, .string ⟨#[49]⟩, .slice none 0 0, .slice none 0 0, .slice none 0 0, .slice none 0 0, .slice none 0 0, .slice none 0 0, .bool false, .bool true, .bool false] 45) := ⟨_, rfl⟩
  rw [← hw1] at hE1 hB1 ⊢
  have HE := Lib.hid hE1
  have HB := Lib.hid hB1
  clear hE1 hB1 hw1
  go_loopw [4, 18] (fun lv i wr => ∃ k : Nat, k ≤ n ∧ i = .int .i64 k ∧ Own wr w1.heap.size 24 3 RStp lv (mkL k) ∧ Below w1.heap.size w1 wr) (fun _ i _ => n - (intOf i).toNat)
  case atStart => exact ⟨0, Nat.zero_le _, rfl, Own.nil_ _ _ _ _ _, Below.refl _ _⟩
  case round =>
    obtain ⟨k, hk, rfl, ho, hbw⟩ := hrel
    have HO := Lib.hid ho
    have HBW := Lib.hid hbw
    clear ho hbw
    by_cases hlt : k < n
    · by_cases hp : k % 2 = 0
      · have ht : (k : Int).tmod 2 = 0 := by rw [Int.tmod_eq_emod_of_nonneg (by omega)]; omega
        have HMK := Lib.hid (show [Value.int .i64 1, .string (bs [97, 97]), .string (bs [])] = [.int .i64 (mkS k).kind, .string (bs (mkS k).name), .string (bs (mkS k).ver)] by unfold mkS; rw [if_pos hp])
        clear hp
        go_wp2_with (at_builtin; refine wpList_append_el (by rfl) _ _ 34 (by rfl) w1.heap.size 24 _ 3 40 Tryz.underlying34 infStS rfl (by omega) RStp _ _ (by rfl) (HO.out.alloc _) (mkS k) [.int .i64 1, .string (bs [97, 97]), .string (bs [])] _ 1 (by rfl) (blk_new1 _ _ _) HMK.out rfl (by decide) (by rw [mkL_len]; omega) (by omega) (by have := HBW.out.size; simp; omega) ?_; intro g cap w4 ho4 hg4; have HO4 := Lib.hid ho4; have HB4 := Lib.hid ((HO.out.alloc _).below (below_alloc HBW.out _) (by have := HBW.out.size; simp; omega) hg4); clear ho4 hg4)
        go_roundw
        case rel => exact ⟨k + 1, by omega, by simp, by rw [mkL_snoc]; exact HO4.out, HB4.out⟩
        case measure => (try simp only [intOf]); omega
      · have ht : (k : Int).tmod 2 = 1 := by rw [Int.tmod_eq_emod_of_nonneg (by omega)]; omega
        have HMK := Lib.hid (show [Value.int .i64 4, .string (bs [97, 97]), .string (bs [])] = [.int .i64 (mkS k).kind, .string (bs (mkS k).name), .string (bs (mkS k).ver)] by unfold mkS; rw [if_neg hp])
        clear hp
        go_wp2_with (at_builtin; refine wpList_append_el (by rfl) _ _ 34 (by rfl) w1.heap.size 24 _ 3 40 Tryz.underlying34 infStS rfl (by omega) RStp _ _ (by rfl) (HO.out.alloc _) (mkS k) [.int .i64 4, .string (bs [97, 97]), .string (bs [])] _ 1 (by rfl) (blk_new1 _ _ _) HMK.out rfl (by decide) (by rw [mkL_len]; omega) (by omega) (by have := HBW.out.size; simp; omega) ?_; intro g cap w4 ho4 hg4; have HO4 := Lib.hid ho4; have HB4 := Lib.hid ((HO.out.alloc _).below (below_alloc HBW.out _) (by have := HBW.out.size; simp; omega) hg4); clear ho4 hg4)
        go_roundw
        case rel => exact ⟨k + 1, by omega, by simp, by rw [mkL_snoc]; exact HO4.out, HB4.out⟩
        case measure => (try simp only [intOf]); omega
    · have hkn : k = n := by omega
      subst hkn
      obtain ⟨A2, c2, rfl, h2⟩ := HO.out.slc (z := 40) (by rw [mkL_len]; omega)
      have HL := Lib.hid (show Stps wr A2 c2 (mkL k) from h2)
      have HB2 := Lib.hid (below_next HB.out HBW.out)
      have HE2 := Lib.hid (HE.out.kept (Kept.of_below HBW.out))
      clear h2 HO
      have hll := mkL_len k
      rw [hll]
      have HLL := Lib.hid hll
      clear hll
      go_wp2_with fail
      have HQ := Lib.hid (run_any [entM true] (some ⟨w.heap.size, 0, none⟩) 1 (mkL k) A2 c2 [] none 0 wr HE2.out HL.out (Slc.nil_ (Nat.zero_le _)) (fun x hx => by rw [List.mem_singleton.1 hx]; exact fewM) (fun x hx => by cases hx) (by decide))
      rw [HLL.out] at HQ
      by_cases h200 : k ≤ 200
      · have HRM := Lib.hid (run_manyM h200)
        have hd : decide ((200 : Int) < (k : Int)) = false := decide_eq_false (by omega)
        have hkk : ((k : Int) == (k : Int)) = true := beq_self_eq_true _
        rw [HRM.out] at HQ
        refine HQ.out.mono ?_
        rintro e w3 ⟨B3, d3, rfl, he3, hb3⟩
        have HB := Lib.hid (below_next HB2.out hb3)
        obtain ⟨q, b, o, rr, hq, rfl, hr, e0, e1, e2, e3, e4, e5, e6, e7, e8, e9, e10⟩ := he3.at_ (i := 0) (by simp) (Kept.refl _)
        obtain rfl : entM (stM k) = q := by simpa using hq
        have e9' : w3.cell? ⟨b, o + 9, none⟩ = some (.bool (decide (k % 2 = 0))) := by simpa [entM, stM] using e9
        clear e0 e1 e2 e3 e4 e5 e6 e7 e8 e9 e10 hq hr he3 hb3 HQ HRM
        by_cases hp : k % 2 = 0
        · have ht : (k : Int).tmod 2 = 0 := by rw [Int.tmod_eq_emod_of_nonneg (by omega)]; omega
          rw [decide_eq_true hp] at e9'
          clear hp
          go_wp2_with fail
          refine (awake22_any _).mono ?_
          rintro e w9 ⟨rfl, hb9⟩
          go_wp2
          go_ret
          exact ⟨rfl, below_next HB.out hb9⟩
        · have ht : (k : Int).tmod 2 = 1 := by rw [Int.tmod_eq_emod_of_nonneg (by omega)]; omega
          rw [decide_eq_false hp] at e9'
          clear hp
          go_wp2_with fail
          refine (awake22_any _).mono ?_
          rintro e w9 ⟨rfl, hb9⟩
          go_wp2
          go_ret
          exact ⟨rfl, below_next HB.out hb9⟩
      · have HRM := Lib.hid (run_moreM (show 200 < k by omega))
        have hd : decide ((200 : Int) < (k : Int)) = true := decide_eq_true (by omega)
        rw [HRM.out] at HQ
        refine HQ.out.mono ?_
        rintro e w3 ⟨B3, d3, rfl, he3, hb3⟩
        have HB := Lib.hid (below_next HB2.out hb3)
        clear he3 hb3 HQ HRM
        go_wp2_with fail
        refine (awake22_any _).mono ?_
        rintro e w9 ⟨rfl, hb9⟩
        go_wp2
        go_ret
        exact ⟨rfl, below_next HB.out hb9⟩
end Go.Proofs.YtaicidbopgnmfaaGreatDoor
