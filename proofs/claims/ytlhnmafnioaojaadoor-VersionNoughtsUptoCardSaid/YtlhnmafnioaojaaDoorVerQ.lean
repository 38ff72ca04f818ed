/- For all texts of at most 1048576 bytes each and all numbers: the walk of VersionNoughts ends in true. -/
import Derived.Test.YtlhnmafnioaojaaDoorVerJ
import Derived.Test.YtlhnmafnioaojaaDoorVerP
import Derived.Test.YtlhnmafnioaojaaDoorVn
import Derived.Test.YtlhnmafnioaojaaDoorVt
namespace Go.Proofs.YtlhnmafnioaojaaDoor
set_option linter.unusedSimpArgs false
set_option linter.unusedVariables false
open Go.RowKit

theorem ahead_succ {a : List UInt8} {k : Nat} (h : k < a.length) : aheadDig a (k + 1) = digB a[k] := by simp [aheadDig, h]
theorem one_of {a : List UInt8} {k : Nat} (h : k < a.length) : List.take 1 (List.drop k a) = [a[k]] := by
  rw [List.drop_eq_getElem_cons h]
  rfl
theorem ins_yes {m : Nat} {a q : List UInt8} {k : Nat} (hk : k < a.length) (hd : digB a[k] = true) (hp : aheadDig a k = false) (h : q ++ insN m (aheadDig a k) (a.drop k) = insN m false a) :
    (q ++ (List.replicate m 48 ++ List.take 1 (List.drop k a))) ++ insN m (aheadDig a (k + 1)) (a.drop (k + 1)) = insN m false a := by
  have := ins_step (List.getElem?_eq_getElem hk) h
  rw [hd, hp] at this
  rw [one_of hk]
  simpa using this
theorem ins_no {m : Nat} {a q : List UInt8} {k : Nat} (hk : k < a.length) (hd : digB a[k] = false ∨ aheadDig a k = true) (h : q ++ insN m (aheadDig a k) (a.drop k) = insN m false a) :
    (q ++ List.take 1 (List.drop k a)) ++ insN m (aheadDig a (k + 1)) (a.drop (k + 1)) = insN m false a := by
  have := ins_step (List.getElem?_eq_getElem hk) h
  have hb : (digB a[k] && !aheadDig a k) = false := by rcases hd with h | h <;> simp [h]
  rw [hb] at this
  rw [one_of hk]
  simpa using this
theorem mod30 (n : Int) : ∃ m : Nat, m < 30 ∧ (IntKind.u64.wrap n).tmod 30 = m := by
  have h0 : 0 ≤ IntKind.u64.wrap n := by rw [IntKind.wrap_u64]; omega
  refine ⟨((IntKind.u64.wrap n).tmod 30).toNat, ?_, ?_⟩
  · have := Int.tmod_lt_of_pos (IntKind.u64.wrap n) (b := 30) (by decide)
    have := Int.tmod_nonneg 30 h0
    omega
  · have := Int.tmod_nonneg 30 h0
    omega
set_option maxRecDepth 100000 in
set_option maxHeartbeats 800000 in
theorem law_noughts (a b : List UInt8) (n : Int) (hla : a.length ≤ 1048576) (hlb : b.length ≤ 1048576) (w : World) : Calls Tryd.prog 6 #[.string (bs a), .string (bs b), .int .i64 n] w fun e w' => e = .returned (.bool true) ∧ Below w.heap.size w w' := by
  obtain ⟨m, hm, hmn⟩ := mod30 n
  go_enter Tryd.func6, Tryd.ntmps6
  go_wp2
  go_loop [7, 14] (fun u i => ∃ j : Nat, j ≤ m ∧ u = .string (bs (List.replicate j 48)) ∧ i = .int .u64 j) (fun _ i => m - (intOf i).toNat)
  case atStart => exact ⟨0, Nat.zero_le _, rfl, rfl⟩
  case round =>
    obtain ⟨j, hj, rfl, rfl⟩ := hrel
    by_cases hp : (j : Int) < m
    · go_wp2
      go_round
      case rel => exact ⟨j + 1, by omega, by simp [List.replicate_succ'], by simp⟩
      case measure => (try simp only [intOf]); omega
    · obtain rfl : j = m := by omega
      go_wp2
      go_loop [8, 21] (fun u i => ∃ k q, k ≤ a.length ∧ i = .int .i64 (k : Nat) ∧ u = .string (bs q) ∧ q.length ≤ 31 * k ∧ q ++ insN j (aheadDig a k) (a.drop k) = insN j false a) (fun _ i => a.length - (intOf i).toNat)
      case atStart => exact ⟨0, [], Nat.zero_le _, rfl, rfl, by simp, rfl⟩
      case round =>
        obtain ⟨k, q, hk, rfl, rfl, hq, hins⟩ := hrel
        have HI := Lib.hid hins
        clear hins
        by_cases hp2 : k < a.length
        · have hc : a[k]? = some a[k] := List.getElem?_eq_getElem hp2
          rcases k with _ | k
          · go_wp2
            · refine ⟨⟨0 + 1, _, by omega, rfl, rfl, ?_, ins_yes hp2 (by simp [digB]; omega) rfl HI.out⟩, by simp [intOf]; omega⟩
              simp; omega
            · refine ⟨⟨0 + 1, _, by omega, rfl, rfl, ?_, ins_no hp2 (.inl (by simp [digB]; omega)) HI.out⟩, by simp [intOf]; omega⟩
              simp; omega
            · refine ⟨⟨0 + 1, _, by omega, rfl, rfl, ?_, ins_no hp2 (.inl (by simp [digB]; omega)) HI.out⟩, by simp [intOf]; omega⟩
              simp; omega
          · have hp3 : k < a.length := by omega
            have hi1 : (0 : Int) ≤ (k : Int) + 1 := by omega
            have hi2 : (k : Int) + 1 < a.length := by omega
            have hi3 : (k : Int) < a.length := by omega
            have hz : ((k : Int) + 1 == 0) = false := by simp; omega
            go_wp2
            · refine ⟨⟨k + 1 + 1, _, by omega, by simp, rfl, ?_, ins_yes hp2 (by simp [digB]; omega) (by rw [ahead_succ hp3]; simp [digB]; grind) HI.out⟩, by simp only [intOf]; omega⟩
              simp; omega
            · refine ⟨⟨k + 1 + 1, _, by omega, by simp, rfl, ?_, ins_no hp2 (.inr (by rw [ahead_succ hp3]; simp [digB]; grind)) HI.out⟩, by simp only [intOf]; omega⟩
              simp; omega
            · refine ⟨⟨k + 1 + 1, _, by omega, by simp, rfl, ?_, ins_yes hp2 (by simp [digB]; omega) (by rw [ahead_succ hp3]; simp [digB]; grind) HI.out⟩, by simp only [intOf]; omega⟩
              simp; omega
            · refine ⟨⟨k + 1 + 1, _, by omega, by simp, rfl, ?_, ins_no hp2 (.inl (by simp [digB]; omega)) HI.out⟩, by simp only [intOf]; omega⟩
              simp; omega
            · refine ⟨⟨k + 1 + 1, _, by omega, by simp, rfl, ?_, ins_no hp2 (.inl (by simp [digB]; omega)) HI.out⟩, by simp only [intOf]; omega⟩
              simp; omega
        · obtain rfl : k = a.length := by omega
          have hqi : q = insN j false a := by have := HI.out; simpa [insN] using this
          have hx : q.length ≤ 67108864 := by omega
          have ha2 : a.length ≤ 67108864 := by omega
          have hb2 : b.length ≤ 67108864 := by omega
          have HP := Lib.hid (show partS a q = 0 by rw [hqi]; exact (part_ins j a a).1)
          have HQ := Lib.hid (show partS q b = partS a b by rw [hqi]; exact (part_ins j a b).2)
          clear hqi HI
          go_wp2_with (first
            | (go_at_call 16; refine (part_big _ _ _ (by assumption) (by assumption)).mono ?_; rintro e w1 ⟨rfl, hb⟩; (try first | rw [HP.out] | rw [HQ.out]))
            | (go_at_call 15; refine (awake_any _).mono ?_; rintro e w1 ⟨rfl, hb⟩))
          go_ret
          exact ⟨rfl, by (repeat (first | assumption | exact Below.refl _ _ | refine below_next ?_ (by assumption) | refine below_drewN ?_ _))⟩
end Go.Proofs.YtlhnmafnioaojaaDoor
