/- The contracts of text.Name and of the reference's Name. -/
import Derived.Test.YtcbomomlojhghaaDoorVerC
import Derived.Test.YtcbomomlojhghaaDoorVb
namespace Go.Proofs.YtcbomomlojhghaaDoor
set_option linter.unusedSimpArgs false
set_option linter.unusedVariables false
open Go.RowKit

theorem small_any (c : UInt8) (w : World) :
    Calls Tryd.prog 51 #[.int .u8 c.toNat] w fun e w' => e = .returned (.bool (smlB c)) ∧ w = w' := by
  go_enter Tryd.func51, Tryd.ntmps51
  go_wp2
  all_goals go_ret
  all_goals (go_tidy; simp; grind [smlB])
theorem rname_any (l : List UInt8) (hl : l.length ≤ 140737488351232) (w : World) :
    Calls Tryd.prog 26 #[.string (bs l)] w fun e w' => e = .returned (.bool (nameS l)) ∧ w = w' := by
  go_enter Tryd.func26, Tryd.ntmps26
  go_wp2
  go_loop [7] (fun i => ∃ k : Nat, k ≤ l.length ∧ i = .int .i64 k ∧ nmOk (l.take k) = true) (fun i => l.length - (intOf i).toNat)
  case atStart => exact ⟨0, Nat.zero_le _, rfl, rfl⟩
  case round =>
    obtain ⟨k, hk, rfl, hok⟩ := hrel
    have HK := Lib.hid hok
    clear hok
    by_cases hp : k < l.length
    · have HC := Lib.hid (List.getElem?_eq_getElem hp)
      go_wp2_with (first | (go_at_call 51; refine (small_any _ _).mono ?_; rintro e w' ⟨rfl, rfl⟩) | (go_at_call 52; refine (rdigit_any _ _).mono ?_; rintro e w' ⟨rfl, rfl⟩))
      all_goals first
        | (go_round
           case rel => exact ⟨k + 1, by omega, by simp, nmOk_step HC.out HK.out (by go_tidy; simp [nmB, nmC]; grind)⟩
           case measure => (try simp only [intOf]); omega)
        | (go_ret
           exact ⟨by have hq := nmOk_fail HC.out (by go_tidy; simp [nmB]; grind) (by go_tidy; simp [nmB, nmC]; grind); simp [nameS, hq], rfl⟩)
    · have HQ := Lib.hid (show nmOk l = true by have := HK.out; rwa [List.take_of_length_le (by omega)] at this)
      go_wp2
      all_goals go_ret
      all_goals refine ⟨?_, rfl⟩
      all_goals (go_tidy; simp [nameS, HQ.out]; try grind)
set_option maxRecDepth 100000 in
set_option maxHeartbeats 800000 in
theorem name_any (l : List UInt8) (hl : l.length ≤ 140737488351232) (w : World) :
    Calls Tryd.prog 70 #[.string (bs l)] w fun e w' => e = .returned (.bool (nameS l)) ∧ Below w.heap.size w w' := by
  by_cases h2 : (l.length : Int) < 2
  · go_enter Tryd.func70, Tryd.ntmps70
    go_wp2
    go_ret
    exact ⟨by simp [nameS]; omega, Below.refl _ _⟩
  · by_cases h24 : 24 < (l.length : Int)
    · go_enter Tryd.func70, Tryd.ntmps70
      go_wp2
      go_ret
      exact ⟨by simp [nameS]; omega, Below.refl _ _⟩
    · have hb : nameS l = nmOk l := by simp [nameS]; omega
      have HN := Lib.hid hb
      clear hb
      go_enter Tryd.func70, Tryd.ntmps70
      go_wp2
      go_loopw [4] (fun _ w' => ∃ k : Nat, k ≤ l.length ∧ w' = w.iter (bs l) k ∧ nmOk (l.take k) = true) (fun _ w' => l.length - w'.iterPos w.heap.size)
      case atStart => exact ⟨0, Nat.zero_le _, rfl, rfl⟩
      case round =>
        obtain ⟨k, hk, rfl, hok⟩ := hrel
        have HK := Lib.hid hok
        clear hok
        by_cases hp : k < l.length
        · obtain ⟨c, hc⟩ : ∃ c, l[k]? = some c := ⟨_, List.getElem?_eq_getElem hp⟩
          have HC := Lib.hid hc
          clear hc
          by_cases ha : c.toNat < 128
          · have hnx := next_byte (P := Tryd.prog) w l k c HC.out ha
            go_wp2
            all_goals first
              | (exfalso; omega)
              | (exfalso; grind)
              | (go_roundw
                 case rel => exact ⟨k + 1, hp, rfl, nmOk_step HC.out HK.out (by go_tidy; simp [nmB, nmC, smlB, digB]; grind)⟩
                 case measure => simp; omega)
              | (go_ret
                 exact ⟨by have hq := nmOk_fail HC.out (by go_tidy; simp [nmB, smlB, digB]; grind) (by go_tidy; simp [nmB, nmC, smlB, digB]; grind); simp [HN.out, hq], iter_below _ _ _⟩)
          · obtain ⟨r, n, hr, hr2, hn, hnx⟩ := next_high (P := Tryd.prog) w l k c HC.out (by omega)
            go_wp2
            all_goals first | (exfalso; omega) | (exfalso; grind) | skip
            all_goals go_ret
            all_goals exact ⟨by have hq := nmOk_fail HC.out (by simp [nmB, smlB, digB]; omega) (.inr (by simp [nmB, nmC, smlB, digB]; omega)); simp [HN.out, hq], iter_below _ _ _⟩
        · have hnx := next_end (P := Tryd.prog) w l k (by omega)
          go_wp2
          go_ret
          refine ⟨?_, iter_below _ _ _⟩
          have hq := HK.out
          rw [List.take_of_length_le (by omega)] at hq
          simp [HN.out, hq]
end Go.Proofs.YtcbomomlojhghaaDoor
