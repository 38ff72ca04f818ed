/- For all texts of at most 1048576 bytes each: the walk of VersionTilde ends in true. -/
import Derived.Test.YtlhnmafnioaojaaDoorVerK
import Derived.Test.YtlhnmafnioaojaaDoorVt
namespace Go.Proofs.YtlhnmafnioaojaaDoor
set_option linter.unusedSimpArgs false
set_option linter.unusedVariables false
open Go.RowKit

set_option maxRecDepth 100000 in
theorem tilde_short (s t : List UInt8) (w : World) (hls : s.length ≤ 1048576) (hlt : t.length ≤ 1048576) (h : verS s = none ∨ verS (s ++ 126 :: t) = none) : Calls Tryd.prog 5 #[.string (bs s), .string (bs t)] w fun e w' => e = .returned (.bool true) ∧ Below w.heap.size w w' := by
  rcases hs : verS s with _ | ⟨e, u, r⟩
  · have HA := Lib.hid (verV_none hs)
    rcases hx : verS (s ++ 126 :: t) with _ | ⟨e2, u2, r2⟩
    · have HB := Lib.hid (verV_none hx)
      clear h hs hx
      go_enter Tryd.func5, Tryd.ntmps5
      go_wp2_with (first | (go_at_call 13; refine (parse_any _ _).mono ?_; rintro e w1 ⟨rfl, hb⟩; (first | rw [HA.out] | rw [HB.out] | rw [HC.out])) | (go_at_call 18; refine (Compare_any _ _ _).mono ?_; rintro e w1 ⟨rfl, hb⟩; (first | rw [HX.out] | rw [HY.out])) | (go_at_call 15; refine (awake_any _).mono ?_; rintro e w1 ⟨rfl, hb⟩))
      
      go_ret
      exact ⟨rfl, by (repeat (first | assumption | exact Below.refl _ _ | refine below_next ?_ (by assumption) | refine below_drewN ?_ _))⟩
    · have HB := Lib.hid (verV_some hx)
      clear h hs hx
      go_enter Tryd.func5, Tryd.ntmps5
      go_wp2_with (first | (go_at_call 13; refine (parse_any _ _).mono ?_; rintro e w1 ⟨rfl, hb⟩; (first | rw [HA.out] | rw [HB.out] | rw [HC.out])) | (go_at_call 18; refine (Compare_any _ _ _).mono ?_; rintro e w1 ⟨rfl, hb⟩; (first | rw [HX.out] | rw [HY.out])) | (go_at_call 15; refine (awake_any _).mono ?_; rintro e w1 ⟨rfl, hb⟩))
      
      go_ret
      exact ⟨rfl, by (repeat (first | assumption | exact Below.refl _ _ | refine below_next ?_ (by assumption) | refine below_drewN ?_ _))⟩
  · rcases hx : verS (s ++ 126 :: t) with _ | ⟨e2, u2, r2⟩
    · have HA := Lib.hid (verV_some hs)
      have HB := Lib.hid (verV_none hx)
      clear h hs hx
      go_enter Tryd.func5, Tryd.ntmps5
      go_wp2_with (first | (go_at_call 13; refine (parse_any _ _).mono ?_; rintro e w1 ⟨rfl, hb⟩; (first | rw [HA.out] | rw [HB.out] | rw [HC.out])) | (go_at_call 18; refine (Compare_any _ _ _).mono ?_; rintro e w1 ⟨rfl, hb⟩; (first | rw [HX.out] | rw [HY.out])) | (go_at_call 15; refine (awake_any _).mono ?_; rintro e w1 ⟨rfl, hb⟩))
      
      go_ret
      exact ⟨rfl, by (repeat (first | assumption | exact Below.refl _ _ | refine below_next ?_ (by assumption) | refine below_drewN ?_ _))⟩
    · rw [hs, hx] at h
      simp at h
set_option maxRecDepth 100000 in
theorem tilde_none (s t : List UInt8) {e u r e2 u2 r2 : List UInt8} (w : World) (hls : s.length ≤ 1048576) (hlt : t.length ≤ 1048576) (hs : verS s = some (e, u, r)) (hx : verS (s ++ 126 :: t) = some (e2, u2, r2)) (hy : verS (s ++ 43 :: t) = none) :
    Calls Tryd.prog 5 #[.string (bs s), .string (bs t)] w fun e w' => e = .returned (.bool true) ∧ Below w.heap.size w w' := by
  have HA := Lib.hid (verV_some hs)
  have HB := Lib.hid (verV_some hx)
  have HC := Lib.hid (verV_none hy)
  clear hy
  replace hs := Lib.hid hs
  replace hx := Lib.hid hx
  go_enter Tryd.func5, Tryd.ntmps5
  go_wp2_with (first | (go_at_call 13; refine (parse_any _ _).mono ?_; rintro e w1 ⟨rfl, hb⟩; (first | rw [HA.out] | rw [HB.out] | rw [HC.out])) | (go_at_call 18; refine (Compare_any _ _ _).mono ?_; rintro e w1 ⟨rfl, hb⟩; (first | rw [HX.out] | rw [HY.out])) | (go_at_call 15; refine (awake_any _).mono ?_; rintro e w1 ⟨rfl, hb⟩))
  go_loop [44] (fun i => ∃ k : Nat, k ≤ t.length ∧ i = .int .i64 k ∧ (∀ j, j < k → t[j]? ≠ some 58) ∧ (∀ j, j < k → t[j]? ≠ some 45)) (fun i => t.length - (intOf i).toNat)
  case atStart => exact ⟨0, Nat.zero_le _, rfl, fun j hj => by omega, fun j hj => by omega⟩
  case round =>
    obtain ⟨k, hk, rfl, h58, h45⟩ := hrel
    have H58 := Lib.hid h58
    have H45 := Lib.hid h45
    clear h58 h45
    by_cases hp : k < t.length
    · obtain ⟨c, hc⟩ : ∃ c, t[k]? = some c := ⟨_, List.getElem?_eq_getElem hp⟩
      go_wp2_with (first | (go_at_call 13; refine (parse_any _ _).mono ?_; rintro e w1 ⟨rfl, hb⟩; (first | rw [HA.out] | rw [HB.out] | rw [HC.out])) | (go_at_call 18; refine (Compare_any _ _ _).mono ?_; rintro e w1 ⟨rfl, hb⟩; (first | rw [HX.out] | rw [HY.out])) | (go_at_call 15; refine (awake_any _).mono ?_; rintro e w1 ⟨rfl, hb⟩))
      all_goals first
        | (go_ret
           exact ⟨rfl, by (repeat (first | assumption | exact Below.refl _ _ | refine below_next ?_ (by assumption) | refine below_drewN ?_ _))⟩)
        | (go_round
           case rel => exact ⟨k + 1, by omega, by simp, fun j hj => by
             rcases Nat.lt_or_eq_of_le (Nat.le_of_lt_succ hj) with hl | rfl
             · exact H58.out j hl
             · intro he
               rw [hc] at he
               injection he with he
               subst he
               go_tidy
               obtain ⟨hk2, hc2⟩ := List.getElem?_eq_some_iff.1 hc
               have hz : (t[j].toNat : Int) = 58 := by rw [hc2]; rfl
               grind, fun j hj => by
             rcases Nat.lt_or_eq_of_le (Nat.le_of_lt_succ hj) with hl | rfl
             · exact H45.out j hl
             · intro he
               rw [hc] at he
               injection he with he
               subst he
               go_tidy
               obtain ⟨hk2, hc2⟩ := List.getElem?_eq_some_iff.1 hc
               have hz : (t[j].toNat : Int) = 45 := by rw [hc2]; rfl
               grind⟩
           case measure => (try simp only [intOf]); omega)
    · have hX := cmpV_tilde (not_mem_of (fun j hj => H58.out j (by omega))) (not_mem_of (fun j hj => H45.out j (by omega))) hs.out hx.out
      have HX := Lib.hid hX
      have HR := Lib.hid (rev_len hs.out)
      skip
      have hr := HR.out
      clear hX
      go_wp2_with (first | (go_at_call 13; refine (parse_any _ _).mono ?_; rintro e w1 ⟨rfl, hb⟩; (first | rw [HA.out] | rw [HB.out] | rw [HC.out])) | (go_at_call 18; refine (Compare_any _ _ _).mono ?_; rintro e w1 ⟨rfl, hb⟩; (first | rw [HX.out] | rw [HY.out])) | (go_at_call 15; refine (awake_any _).mono ?_; rintro e w1 ⟨rfl, hb⟩))
      go_ret
      exact ⟨rfl, by (repeat (first | assumption | exact Below.refl _ _ | refine below_next ?_ (by assumption) | refine below_drewN ?_ _))⟩
set_option maxRecDepth 100000 in
theorem tilde_some (s t : List UInt8) {e u r e2 u2 r2 e3 u3 r3 : List UInt8} (w : World) (hls : s.length ≤ 1048576) (hlt : t.length ≤ 1048576) (hs : verS s = some (e, u, r)) (hx : verS (s ++ 126 :: t) = some (e2, u2, r2)) (hy : verS (s ++ 43 :: t) = some (e3, u3, r3)) :
    Calls Tryd.prog 5 #[.string (bs s), .string (bs t)] w fun e w' => e = .returned (.bool true) ∧ Below w.heap.size w w' := by
  have HA := Lib.hid (verV_some hs)
  have HB := Lib.hid (verV_some hx)
  have HC := Lib.hid (verV_some hy)
  replace hs := Lib.hid hs
  replace hx := Lib.hid hx
  replace hy := Lib.hid hy
  go_enter Tryd.func5, Tryd.ntmps5
  go_wp2_with (first | (go_at_call 13; refine (parse_any _ _).mono ?_; rintro e w1 ⟨rfl, hb⟩; (first | rw [HA.out] | rw [HB.out] | rw [HC.out])) | (go_at_call 18; refine (Compare_any _ _ _).mono ?_; rintro e w1 ⟨rfl, hb⟩; (first | rw [HX.out] | rw [HY.out])) | (go_at_call 15; refine (awake_any _).mono ?_; rintro e w1 ⟨rfl, hb⟩))
  go_loop [44] (fun i => ∃ k : Nat, k ≤ t.length ∧ i = .int .i64 k ∧ (∀ j, j < k → t[j]? ≠ some 58) ∧ (∀ j, j < k → t[j]? ≠ some 45)) (fun i => t.length - (intOf i).toNat)
  case atStart => exact ⟨0, Nat.zero_le _, rfl, fun j hj => by omega, fun j hj => by omega⟩
  case round =>
    obtain ⟨k, hk, rfl, h58, h45⟩ := hrel
    have H58 := Lib.hid h58
    have H45 := Lib.hid h45
    clear h58 h45
    by_cases hp : k < t.length
    · obtain ⟨c, hc⟩ : ∃ c, t[k]? = some c := ⟨_, List.getElem?_eq_getElem hp⟩
      go_wp2_with (first | (go_at_call 13; refine (parse_any _ _).mono ?_; rintro e w1 ⟨rfl, hb⟩; (first | rw [HA.out] | rw [HB.out] | rw [HC.out])) | (go_at_call 18; refine (Compare_any _ _ _).mono ?_; rintro e w1 ⟨rfl, hb⟩; (first | rw [HX.out] | rw [HY.out])) | (go_at_call 15; refine (awake_any _).mono ?_; rintro e w1 ⟨rfl, hb⟩))
      all_goals first
        | (go_ret
           exact ⟨rfl, by (repeat (first | assumption | exact Below.refl _ _ | refine below_next ?_ (by assumption) | refine below_drewN ?_ _))⟩)
        | (go_round
           case rel => exact ⟨k + 1, by omega, by simp, fun j hj => by
             rcases Nat.lt_or_eq_of_le (Nat.le_of_lt_succ hj) with hl | rfl
             · exact H58.out j hl
             · intro he
               rw [hc] at he
               injection he with he
               subst he
               go_tidy
               obtain ⟨hk2, hc2⟩ := List.getElem?_eq_some_iff.1 hc
               have hz : (t[j].toNat : Int) = 58 := by rw [hc2]; rfl
               grind, fun j hj => by
             rcases Nat.lt_or_eq_of_le (Nat.le_of_lt_succ hj) with hl | rfl
             · exact H45.out j hl
             · intro he
               rw [hc] at he
               injection he with he
               subst he
               go_tidy
               obtain ⟨hk2, hc2⟩ := List.getElem?_eq_some_iff.1 hc
               have hz : (t[j].toNat : Int) = 45 := by rw [hc2]; rfl
               grind⟩
           case measure => (try simp only [intOf]); omega)
    · have hX := cmpV_tilde (not_mem_of (fun j hj => H58.out j (by omega))) (not_mem_of (fun j hj => H45.out j (by omega))) hs.out hx.out
      have HX := Lib.hid hX
      have HR := Lib.hid (rev_len hs.out)
      have HY := Lib.hid (cmpV_plus (not_mem_of (fun j hj => H58.out j (by omega))) (not_mem_of (fun j hj => H45.out j (by omega))) hs.out hy.out)
      have hr := HR.out
      clear hX
      go_wp2_with (first | (go_at_call 13; refine (parse_any _ _).mono ?_; rintro e w1 ⟨rfl, hb⟩; (first | rw [HA.out] | rw [HB.out] | rw [HC.out])) | (go_at_call 18; refine (Compare_any _ _ _).mono ?_; rintro e w1 ⟨rfl, hb⟩; (first | rw [HX.out] | rw [HY.out])) | (go_at_call 15; refine (awake_any _).mono ?_; rintro e w1 ⟨rfl, hb⟩))
      go_ret
      exact ⟨rfl, by (repeat (first | assumption | exact Below.refl _ _ | refine below_next ?_ (by assumption) | refine below_drewN ?_ _))⟩
theorem law_tilde (s t : List UInt8) (hls : s.length ≤ 1048576) (hlt : t.length ≤ 1048576) (w : World) : Calls Tryd.prog 5 #[.string (bs s), .string (bs t)] w fun e w' => e = .returned (.bool true) ∧ Below w.heap.size w w' := by
  rcases hs : verS s with _ | ⟨e, u, r⟩
  · exact tilde_short s t w hls hlt (.inl hs)
  · rcases hx : verS (s ++ 126 :: t) with _ | ⟨e2, u2, r2⟩
    · exact tilde_short s t w hls hlt (.inr hx)
    · rcases hy : verS (s ++ 43 :: t) with _ | ⟨e3, u3, r3⟩
      · exact tilde_none s t w hls hlt hs hx hy
      · exact tilde_some s t w hls hlt hs hx hy
end Go.Proofs.YtlhnmafnioaojaaDoor
