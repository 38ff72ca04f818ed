/- For all texts and numbers: the walk of VersionEpochs ends in true. -/
import Derived.Test.YtlhnmafnioaojaaDoorVerR
import Derived.Test.YtlhnmafnioaojaaDoorVe
namespace Go.Proofs.YtlhnmafnioaojaaDoor
set_option linter.unusedSimpArgs false
set_option linter.unusedVariables false
open Go.RowKit

theorem has_yes {a : List UInt8} {k : Nat} (h : a[k]? = some 58) : hasS a = true := by
  have := List.mem_of_getElem? h
  simpa [hasS] using this
theorem has_no {a : List UInt8} (h : ∀ j, j < a.length → a[j]? ≠ some 58) : hasS a = false := by
  have := not_mem_of h
  simpa [hasS] using this
theorem has_any (a : List UInt8) (hl : a.length ≤ 40) (w : World) : Calls Tryd.prog 20 #[.string (bs a)] w fun e w' => e = .returned (.bool (hasS a)) ∧ w = w' := by
  go_enter Tryd.func20, Tryd.ntmps20
  go_wp2
  go_loop [6] (fun i => ∃ k : Nat, k ≤ a.length ∧ i = .int .i64 k ∧ ∀ j, j < k → a[j]? ≠ some 58) (fun i => a.length - (intOf i).toNat)
  case atStart => exact ⟨0, Nat.zero_le _, rfl, fun j hj => by omega⟩
  case round =>
    obtain ⟨k, hk, rfl, hn⟩ := hrel
    have HN := Lib.hid hn
    clear hn
    by_cases hp : k < a.length
    · by_cases hc : a[k] = 58
      · have HC := Lib.hid (has_yes (show a[k]? = some 58 by rw [List.getElem?_eq_getElem hp, hc]))
        have hz : (a[k].toNat : Int) = 58 := by rw [hc]; rfl
        go_wp2
        go_ret
        exact ⟨by simp [HC.out], rfl⟩
      · have hz : ¬ (a[k].toNat : Int) = 58 := fun e => hc (UInt8.toNat_inj.1 (by simp; omega))
        have hz2 : ((a[k].toNat : Int) == 58) = false := by simpa using hz
        have HC := Lib.hid hc
        clear hc
        go_wp2
        go_round
        case rel => exact ⟨k + 1, by omega, by simp, fun j hj => by
          rcases Nat.lt_or_eq_of_le (Nat.le_of_lt_succ hj) with h | rfl
          · exact HN.out j h
          · rw [List.getElem?_eq_getElem hp]
            intro e
            injection e with e
            exact HC.out e⟩
        case measure => (try simp only [intOf]); omega
    · have HC := Lib.hid (has_no (fun j hj => HN.out j (by omega)))
      go_wp2
      go_ret
      exact ⟨by simp [HC.out], rfl⟩
theorem mod9 (n : Int) : ∃ m : Nat, m < 9 ∧ (IntKind.u64.wrap n).tmod 9 = m ∧ IntKind.u8.wrap (48 + (m : Int)) = 48 + m := by
  have h0 : 0 ≤ IntKind.u64.wrap n := by rw [IntKind.wrap_u64]; omega
  have h1 := Int.tmod_lt_of_pos (IntKind.u64.wrap n) (b := 9) (by decide)
  have h2 := Int.tmod_nonneg 9 h0
  refine ⟨((IntKind.u64.wrap n).tmod 9).toNat, by omega, by omega, ?_⟩
  rw [IntKind.wrap_u8]
  omega
theorem conv_two (x : Nat) (hx : x < 9) (W : World) (g : Nat) (h : W.cell? ⟨g, 0, none⟩ = some (.int .u8 (48 + (x : Int)))) (h2 : W.cell? ⟨g, 1, none⟩ = some (.int .u8 58)) :
    (convert 33 9 (.slice (some ⟨g, 0, none⟩) 2 2)).run Tryd.prog W = .ok (.string (bs [48 + UInt8.ofNat x, 58])) W := by
  refine run_convert_bytes_back (P := Tryd.prog) W 33 9 5 ⟨g, 0, none⟩ 2 [48 + UInt8.ofNat x, 58] Tryd.underlying33 Tryd.underlying5 Tryd.underlying9 ?_
  intro j hj
  have hj0 : j = 0 ∨ j = 1 := by simp at hj; omega
  rcases hj0 with rfl | rfl
  · have e := (dig_nat (x := x) (by omega)).1
    simp only [List.getElem_cons_zero, e]
    simpa [Addr.add] using h
  · simpa [Addr.add] using h2
set_option maxRecDepth 100000 in
set_option maxHeartbeats 1600000 in
theorem epochs_short (a b : List UInt8) (m n : Int) (w : World) (h : verS a = none ∨ verS b = none) : Calls Tryd.prog 9 #[.string (bs a), .string (bs b), .int .i64 m, .int .i64 n] w fun e w' => e = .returned (.bool true) ∧ Below w.heap.size w w' := by
  rcases ha : verS a with _ | ⟨e, u, r⟩
  · have HA := Lib.hid (verV_none ha)
    rcases hb : verS b with _ | ⟨f, v, s⟩
    · have HB := Lib.hid (verV_none hb)
      clear h ha hb
      go_enter Tryd.func9, Tryd.ntmps9
      go_wp2_with (first | (go_at_call 13; refine (parse_any _ _).mono ?_; rintro e w1 ⟨rfl, hb⟩; (first | rw [HA.out] | rw [HB.out])) | (go_at_call 20; refine (has_any _ (by omega) _).mono ?_; rintro e w1 ⟨rfl, rfl⟩) | (go_at_call 15; refine (awake_any _).mono ?_; rintro e w1 ⟨rfl, hb⟩))
      go_ret
      exact ⟨rfl, by (repeat (first | assumption | exact Below.refl _ _ | refine below_next ?_ (by assumption) | refine below_drewN ?_ _))⟩
    · have HB := Lib.hid (verV_some hb)
      clear h ha hb
      go_enter Tryd.func9, Tryd.ntmps9
      go_wp2_with (first | (go_at_call 13; refine (parse_any _ _).mono ?_; rintro e w1 ⟨rfl, hb⟩; (first | rw [HA.out] | rw [HB.out])) | (go_at_call 20; refine (has_any _ (by omega) _).mono ?_; rintro e w1 ⟨rfl, rfl⟩) | (go_at_call 15; refine (awake_any _).mono ?_; rintro e w1 ⟨rfl, hb⟩))
      go_ret
      exact ⟨rfl, by (repeat (first | assumption | exact Below.refl _ _ | refine below_next ?_ (by assumption) | refine below_drewN ?_ _))⟩
  · rcases hb : verS b with _ | ⟨f, v, s⟩
    · have HA := Lib.hid (verV_some ha)
      have HB := Lib.hid (verV_none hb)
      clear h ha hb
      go_enter Tryd.func9, Tryd.ntmps9
      go_wp2_with (first | (go_at_call 13; refine (parse_any _ _).mono ?_; rintro e w1 ⟨rfl, hb⟩; (first | rw [HA.out] | rw [HB.out])) | (go_at_call 20; refine (has_any _ (by omega) _).mono ?_; rintro e w1 ⟨rfl, rfl⟩) | (go_at_call 15; refine (awake_any _).mono ?_; rintro e w1 ⟨rfl, hb⟩))
      go_ret
      exact ⟨rfl, by (repeat (first | assumption | exact Below.refl _ _ | refine below_next ?_ (by assumption) | refine below_drewN ?_ _))⟩
    · rw [ha, hb] at h
      simp at h
theorem same_of {a b : List UInt8} (h : (cmpV a b).1 = 0 ∧ (cmpV a b).2 = true) : sameV a b = true := by simp [sameV, h.1, h.2]
set_option maxRecDepth 100000 in
set_option maxHeartbeats 1600000 in
theorem epochs_long (a b : List UInt8) {e u r f v s : List UInt8} (m n : Int) (w : World) (ha : verS a = some (e, u, r)) (hb : verS b = some (f, v, s)) : Calls Tryd.prog 9 #[.string (bs a), .string (bs b), .int .i64 m, .int .i64 n] w fun e w' => e = .returned (.bool true) ∧ Below w.heap.size w w' := by
  have HA := Lib.hid (verV_some ha)
  have HB := Lib.hid (verV_some hb)
  replace ha := Lib.hid ha
  have hb2 := Lib.hid hb
  clear hb
  obtain ⟨x, hx, hxa, hxw⟩ := mod9 m
  obtain ⟨y, hy, hyb, hyw⟩ := mod9 n
  have hcx := conv_two x hx
  have hcy := conv_two y hy
  go_enter Tryd.func9, Tryd.ntmps9
  go_wp2_with (first | (go_at_call 13; refine (parse_any _ _).mono ?_; rintro e w1 ⟨rfl, hb⟩; (first | rw [HA.out] | rw [HB.out])) | (go_at_call 20; refine (has_any _ (by omega) _).mono ?_; rintro e w1 ⟨rfl, rfl⟩) | (go_at_call 15; refine (awake_any _).mono ?_; rintro e w1 ⟨rfl, hb⟩))
  all_goals first
    | (go_ret
       exact ⟨rfl, by (repeat (first | assumption | exact Below.refl _ _ | refine below_next ?_ (by assumption) | refine below_drewN ?_ _))⟩)
    | skip
  have HB0 : Below w.heap.size w w1 := by (repeat (first | assumption | exact Below.refl _ _ | refine below_next ?_ (by assumption) | refine below_drewN ?_ _))
  have hqa : hasS a = false := by first | assumption | exact Bool.eq_false_iff.2 (by assumption) | grind
  have hqb : hasS b = false := by first | assumption | exact And.right (by assumption) | grind
  go_region
  · generalize hW : World.drew _ = W2
    have HW2 : Below w.heap.size w W2 := by rw [← hW]; exact ((HB0.alloc HB0.size _).alloc (by have := HB0.size; simp; omega) _).drew
    clear hW
    have HC := cmp_epochs hx hy hqa hqb (by omega) (by omega) ha.out hb2.out
    have HS := Lib.hid (same_of (same_epoch hqa (by omega) ha.out))
    by_cases hxy : (x : Int) < y
    · have HX := Lib.hid (HC.trans (if_pos hxy))
      go_wp2_with (first
        | (go_at_call 18; refine (Compare_any _ _ _).mono ?_; rintro e w1 ⟨rfl, hb⟩; (try rw [HX.out]))
        | (go_at_call 19; refine (Same_any _ _ _).mono ?_; rintro e w1 ⟨rfl, hb⟩; rw [HS.out])
        | (go_at_call 15; refine (awake_any _).mono ?_; rintro e w1 ⟨rfl, hb⟩))
      go_ret
      exact ⟨rfl, by (repeat (first | assumption | exact Below.refl _ _ | refine below_next ?_ (by assumption) | refine below_drewN ?_ _))⟩
    · by_cases hyx : (y : Int) < x
      · have HX := Lib.hid (HC.trans ((if_neg hxy).trans (if_pos hyx)))
        go_wp2_with (first
          | (go_at_call 18; refine (Compare_any _ _ _).mono ?_; rintro e w1 ⟨rfl, hb⟩; (try rw [HX.out]))
          | (go_at_call 19; refine (Same_any _ _ _).mono ?_; rintro e w1 ⟨rfl, hb⟩; rw [HS.out])
          | (go_at_call 15; refine (awake_any _).mono ?_; rintro e w1 ⟨rfl, hb⟩))
        go_ret
        exact ⟨rfl, by (repeat (first | assumption | exact Below.refl _ _ | refine below_next ?_ (by assumption) | refine below_drewN ?_ _))⟩
      · have HX := Lib.hid (HC.trans ((if_neg hxy).trans (if_neg hyx)))
        go_wp2_with (first
          | (go_at_call 18; refine (Compare_any _ _ _).mono ?_; rintro e w1 ⟨rfl, hb⟩; (try rw [HX.out]))
          | (go_at_call 19; refine (Same_any _ _ _).mono ?_; rintro e w1 ⟨rfl, hb⟩; rw [HS.out])
          | (go_at_call 15; refine (awake_any _).mono ?_; rintro e w1 ⟨rfl, hb⟩))
        go_ret
        exact ⟨rfl, by (repeat (first | assumption | exact Below.refl _ _ | refine below_next ?_ (by assumption) | refine below_drewN ?_ _))⟩
  · generalize hW : World.drew _ = W2
    have HW2 : Below w.heap.size w W2 := by rw [← hW]; exact ((HB0.alloc HB0.size _).alloc (by have := HB0.size; simp; omega) _).drew
    clear hW
    have HC := cmp_epochs hx hy hqa hqb (by omega) (by omega) ha.out hb2.out
    have HS := Lib.hid (same_of (same_epoch hqa (by omega) ha.out))
    by_cases hxy : (x : Int) < y
    · have HX := Lib.hid (HC.trans (if_pos hxy))
      go_wp2_with (first
        | (go_at_call 18; refine (Compare_any _ _ _).mono ?_; rintro e w1 ⟨rfl, hb⟩; (try rw [HX.out]))
        | (go_at_call 19; refine (Same_any _ _ _).mono ?_; rintro e w1 ⟨rfl, hb⟩; rw [HS.out])
        | (go_at_call 15; refine (awake_any _).mono ?_; rintro e w1 ⟨rfl, hb⟩))
      go_ret
      exact ⟨rfl, by (repeat (first | assumption | exact Below.refl _ _ | refine below_next ?_ (by assumption) | refine below_drewN ?_ _))⟩
    · by_cases hyx : (y : Int) < x
      · have HX := Lib.hid (HC.trans ((if_neg hxy).trans (if_pos hyx)))
        go_wp2_with (first
          | (go_at_call 18; refine (Compare_any _ _ _).mono ?_; rintro e w1 ⟨rfl, hb⟩; (try rw [HX.out]))
          | (go_at_call 19; refine (Same_any _ _ _).mono ?_; rintro e w1 ⟨rfl, hb⟩; rw [HS.out])
          | (go_at_call 15; refine (awake_any _).mono ?_; rintro e w1 ⟨rfl, hb⟩))
        go_ret
        exact ⟨rfl, by (repeat (first | assumption | exact Below.refl _ _ | refine below_next ?_ (by assumption) | refine below_drewN ?_ _))⟩
      · have HX := Lib.hid (HC.trans ((if_neg hxy).trans (if_neg hyx)))
        go_wp2_with (first
          | (go_at_call 18; refine (Compare_any _ _ _).mono ?_; rintro e w1 ⟨rfl, hb⟩; (try rw [HX.out]))
          | (go_at_call 19; refine (Same_any _ _ _).mono ?_; rintro e w1 ⟨rfl, hb⟩; rw [HS.out])
          | (go_at_call 15; refine (awake_any _).mono ?_; rintro e w1 ⟨rfl, hb⟩))
        go_ret
        exact ⟨rfl, by (repeat (first | assumption | exact Below.refl _ _ | refine below_next ?_ (by assumption) | refine below_drewN ?_ _))⟩
theorem law_epochs (a b : List UInt8) (m n : Int) (w : World) : Calls Tryd.prog 9 #[.string (bs a), .string (bs b), .int .i64 m, .int .i64 n] w fun e w' => e = .returned (.bool true) ∧ Below w.heap.size w w' := by
  rcases ha : verS a with _ | ⟨e, u, r⟩
  · exact epochs_short a b m n w (.inl ha)
  · rcases hb : verS b with _ | ⟨f, v, s⟩
    · exact epochs_short a b m n w (.inr hb)
    · exact epochs_long a b m n w ha hb
end Go.Proofs.YtlhnmafnioaojaaDoor
