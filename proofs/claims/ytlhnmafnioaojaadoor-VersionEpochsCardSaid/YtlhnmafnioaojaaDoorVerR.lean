/- For all numbers and bytes: the walk of VersionLong ends in true. -/
import Derived.Test.YtlhnmafnioaojaaDoorVerJ
import Derived.Test.YtlhnmafnioaojaaDoorVo
import Derived.Test.YtlhnmafnioaojaaDoorVt
import Derived.Test.YtlhnmafnioaojaaDoorVl
import Derived.RegionTactic
import Derived.ChangeAlike
import Derived.BigRegion
import Derived.Laws.IdiomStrings
namespace Go.Proofs.YtlhnmafnioaojaaDoor
set_option linter.unusedSimpArgs false
set_option linter.unusedVariables false
open Go.RowKit

theorem u8_of {n : Int} (h : (Lit.int .u8 n).wf = true) : ∃ c : UInt8, n = (c.toNat : Int) := by
  have hn : 0 ≤ n ∧ n < 256 := by
    have h1 : IntKind.u8.min = 0 := by decide
    have h2 : IntKind.u8.max = 255 := by decide
    simp [Lit.wf, h1, h2] at h
    omega
  refine ⟨UInt8.ofNat n.toNat, ?_⟩
  rw [UInt8.toNat_ofNat']
  omega
theorem mod60 (n : Int) : ∃ m : Nat, m < 60 ∧ (IntKind.u64.wrap n).tmod 60 = m := by
  have h0 : 0 ≤ IntKind.u64.wrap n := by rw [IntKind.wrap_u64]; omega
  refine ⟨((IntKind.u64.wrap n).tmod 60).toNat, ?_, ?_⟩
  · have := Int.tmod_lt_of_pos (IntKind.u64.wrap n) (b := 60) (by decide)
    have := Int.tmod_nonneg 60 h0
    omega
  · have := Int.tmod_nonneg 60 h0
    omega
theorem mod10 (a : UInt8) : ∃ m : Nat, m < 10 ∧ (a.toNat : Int).tmod 10 = m := by
  refine ⟨a.toNat % 10, by omega, ?_⟩
  rw [Int.tmod_eq_emod_of_nonneg (by omega)]
  omega
@[go_sem] theorem bs_front (a : Array UInt8) (l : List UInt8) : (ByteArray.mk a) ++ bs l = bs (a.toList ++ l) := by
  rcases a with ⟨a⟩
  exact bs_append a l
theorem conv_one (x : Nat) (hx : x < 10) (W : World) (g : Nat) (h : W.cell? ⟨g, 0, none⟩ = some (.int .u8 (48 + (x : Int)))) :
    (convert 33 9 (.slice (some ⟨g, 0, none⟩) 1 1)).run Tryd.prog W = .ok (.string (bs [UInt8.ofNat (48 + x)])) W := by
  refine run_convert_bytes_back (P := Tryd.prog) W 33 9 5 ⟨g, 0, none⟩ 1 [UInt8.ofNat (48 + x)] Tryd.underlying33 Tryd.underlying5 Tryd.underlying9 ?_
  intro j hj
  have hj0 : j = 0 := by simp at hj; omega
  subst hj0
  have e : ((UInt8.ofNat (48 + x)).toNat : Int) = 48 + (x : Int) := by
    rw [UInt8.toNat_ofNat']
    omega
  simp only [List.getElem_cons_zero, e]
  simpa [Addr.add] using h
set_option maxRecDepth 100000 in
set_option maxHeartbeats 1600000 in
theorem law_long (n : Int) (a b : UInt8) (w : World) : Calls Tryd.prog 7 #[.int .i64 n, .int .u8 a.toNat, .int .u8 b.toNat] w fun e w' => e = .returned (.bool true) ∧ Below w.heap.size w w' := by
  obtain ⟨m, hm, hmn⟩ := mod60 n
  obtain ⟨x, hx, hxa⟩ := mod10 a
  obtain ⟨y, hy, hyb⟩ := mod10 b
  go_enter Tryd.func7, Tryd.ntmps7
  go_wp2
  go_loop [7, 16] (fun u i => ∃ j : Nat, j ≤ m ∧ u = .string (bs (List.replicate j 55)) ∧ i = .int .i64 j) (fun _ i => m - (intOf i).toNat)
  case atStart => exact ⟨0, Nat.zero_le _, rfl, rfl⟩
  case round =>
    obtain ⟨j, hj, rfl, rfl⟩ := hrel
    by_cases hp : (j : Int) < m
    · go_wp2
      go_round
      case rel => exact ⟨j + 1, by omega, by simp [List.replicate_succ'], by simp⟩
      case measure => (try simp only [intOf]); omega
    · obtain rfl : j = m := by omega
      have hcx := conv_one x hx
      have hcy := conv_one y hy
      go_wp2
      go_region
      all_goals generalize hW : World.drew _ = W2
      all_goals have HB : Below w.heap.size w W2 := by rw [← hW]; exact (((Below.refl _ _).alloc (Nat.le_refl _) _).alloc (by simp) _).drew
      all_goals clear hW
      all_goals have H2 := Lib.hid (long_more (j := j) hx)
      all_goals have H3 := Lib.hid (long_tilde (j := j) (x := x))
      · by_cases hxy : (x : Int) < y
        · have H1 := Lib.hid ((long_part (j := j) hx hy).trans (show Lib.compareInt x y = -1 by rw [cI_val, if_pos hxy]))
          go_wp2_with (first
            | (go_at_call 16; refine (part_any _ _ _ (by simp; omega) (by simp; omega)).mono ?_; rintro e w1 ⟨rfl, hb⟩; (first | rw [H1.out] | rw [H2.out] | rw [H3.out]))
            | (go_at_call 15; refine (awake_any _).mono ?_; rintro e w1 ⟨rfl, hb⟩))
          go_ret
          exact ⟨rfl, by (repeat (first | assumption | exact Below.refl _ _ | refine below_next ?_ (by assumption) | refine below_drewN ?_ _))⟩
        · by_cases hyx : (y : Int) < x
          · have H1 := Lib.hid ((long_part (j := j) hx hy).trans (show Lib.compareInt x y = 1 by rw [cI_val, if_neg hxy, if_pos hyx]))
            go_wp2_with (first
              | (go_at_call 16; refine (part_any _ _ _ (by simp; omega) (by simp; omega)).mono ?_; rintro e w1 ⟨rfl, hb⟩; (first | rw [H1.out] | rw [H2.out] | rw [H3.out]))
              | (go_at_call 15; refine (awake_any _).mono ?_; rintro e w1 ⟨rfl, hb⟩))
            go_ret
            exact ⟨rfl, by (repeat (first | assumption | exact Below.refl _ _ | refine below_next ?_ (by assumption) | refine below_drewN ?_ _))⟩
          · have H1 := Lib.hid ((long_part (j := j) hx hy).trans (show Lib.compareInt x y = 0 by rw [cI_val, if_neg hxy, if_neg hyx]))
            go_wp2_with (first
              | (go_at_call 16; refine (part_any _ _ _ (by simp; omega) (by simp; omega)).mono ?_; rintro e w1 ⟨rfl, hb⟩; (first | rw [H1.out] | rw [H2.out] | rw [H3.out]))
              | (go_at_call 15; refine (awake_any _).mono ?_; rintro e w1 ⟨rfl, hb⟩))
            go_ret
            exact ⟨rfl, by (repeat (first | assumption | exact Below.refl _ _ | refine below_next ?_ (by assumption) | refine below_drewN ?_ _))⟩
      · by_cases hxy : (x : Int) < y
        · have H1 := Lib.hid ((long_part (j := j) hx hy).trans (show Lib.compareInt x y = -1 by rw [cI_val, if_pos hxy]))
          go_wp2_with (first
            | (go_at_call 16; refine (part_any _ _ _ (by simp; omega) (by simp; omega)).mono ?_; rintro e w1 ⟨rfl, hb⟩; (first | rw [H1.out] | rw [H2.out] | rw [H3.out]))
            | (go_at_call 15; refine (awake_any _).mono ?_; rintro e w1 ⟨rfl, hb⟩))
          go_ret
          exact ⟨rfl, by (repeat (first | assumption | exact Below.refl _ _ | refine below_next ?_ (by assumption) | refine below_drewN ?_ _))⟩
        · by_cases hyx : (y : Int) < x
          · have H1 := Lib.hid ((long_part (j := j) hx hy).trans (show Lib.compareInt x y = 1 by rw [cI_val, if_neg hxy, if_pos hyx]))
            go_wp2_with (first
              | (go_at_call 16; refine (part_any _ _ _ (by simp; omega) (by simp; omega)).mono ?_; rintro e w1 ⟨rfl, hb⟩; (first | rw [H1.out] | rw [H2.out] | rw [H3.out]))
              | (go_at_call 15; refine (awake_any _).mono ?_; rintro e w1 ⟨rfl, hb⟩))
            go_ret
            exact ⟨rfl, by (repeat (first | assumption | exact Below.refl _ _ | refine below_next ?_ (by assumption) | refine below_drewN ?_ _))⟩
          · have H1 := Lib.hid ((long_part (j := j) hx hy).trans (show Lib.compareInt x y = 0 by rw [cI_val, if_neg hxy, if_neg hyx]))
            go_wp2_with (first
              | (go_at_call 16; refine (part_any _ _ _ (by simp; omega) (by simp; omega)).mono ?_; rintro e w1 ⟨rfl, hb⟩; (first | rw [H1.out] | rw [H2.out] | rw [H3.out]))
              | (go_at_call 15; refine (awake_any _).mono ?_; rintro e w1 ⟨rfl, hb⟩))
            go_ret
            exact ⟨rfl, by (repeat (first | assumption | exact Below.refl _ _ | refine below_next ?_ (by assumption) | refine below_drewN ?_ _))⟩
end Go.Proofs.YtlhnmafnioaojaaDoor
