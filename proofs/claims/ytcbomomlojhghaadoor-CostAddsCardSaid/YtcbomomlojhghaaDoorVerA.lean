/- The contracts of version's small functions. -/
import Derived.Test.YtcbomomlojhghaaDoorProg
import Derived.Test.YtcbomomlojhghaaDoorVs
import Derived.Test.YtcbomomlojhghaaDoorShelf
namespace Go.Proofs.YtcbomomlojhghaaDoor
set_option linter.unusedSimpArgs false
set_option linter.unusedVariables false
open Go.RowKit

theorem digit_any (c : UInt8) (w : World) :
    Calls Tryd.prog 93 #[.int .u8 c.toNat] w fun e w' => e = .returned (.bool (digB c)) ∧ w = w' := by
  go_enter Tryd.func93, Tryd.ntmps93
  go_wp2
  all_goals go_ret
  all_goals (go_tidy; simp; grind [digB])

theorem letter_any (c : UInt8) (w : World) :
    Calls Tryd.prog 104 #[.int .u8 c.toNat] w fun e w' => e = .returned (.bool (letB c)) ∧ w = w' := by
  go_enter Tryd.func104, Tryd.ntmps104
  go_wp2
  all_goals go_ret
  all_goals (go_tidy; simp; grind [letB])

theorem rank_any (l : List UInt8) (w : World) :
    Calls Tryd.prog 106 #[.string (bs l)] w fun e w' => e = .returned (.int .i64 (rankS l)) ∧ w = w' := by
  rcases l with _ | ⟨c, l⟩
  · go_enter Tryd.func106, Tryd.ntmps106
    go_wp2
    go_ret
    exact ⟨rfl, rfl⟩
  · have hc : c.toNat < 256 := c.toNat_lt
    go_enter Tryd.func106, Tryd.ntmps106
    go_wp2_with (first | (go_at_call 93; refine (digit_any _ _).mono ?_; rintro e w' ⟨rfl, rfl⟩) | (go_at_call 104; refine (letter_any _ _).mono ?_; rintro e w' ⟨rfl, rfl⟩))
    all_goals go_ret
    all_goals (go_tidy; simp; grind [rankS, wrap64_of, UInt8.toNat_lt])

theorem contains_any (b : List UInt8) (c : UInt8) (w : World) :
    Calls Tryd.prog 105 #[.string (bs b), .string (bs [c])] w fun e w' => e = .returned (.bool (b.contains c)) ∧ w = w' :=
  (Tryd.strings_Contains_one (bs b) c w).mono fun e w' h => ⟨by rw [h.1, bs_data, contains_one], h.2.symm⟩

set_option maxRecDepth 100000 in
set_option maxHeartbeats 400000 in
theorem of_any (l b : List UInt8) (hb : b.all (fun c => decide (c.toNat ≤ 126)) = true) (w : World) :
    Calls Tryd.prog 92 #[.string (bs l), .string (bs b)] w fun e w' => e = .returned (.bool (okS b l)) ∧ Below w.heap.size w w' := by
  have HB := Lib.hid hb
  clear hb
  go_enter Tryd.func92, Tryd.ntmps92
  go_wp2
  go_loopw [6] (fun _ w' => ∃ k : Nat, k ≤ l.length ∧ w' = w.iter (bs l) k ∧ okS b (l.take k) = true) (fun _ w' => l.length - w'.iterPos w.heap.size)
  case atStart => exact ⟨0, Nat.zero_le _, rfl, rfl⟩
  case round =>
    obtain ⟨k, hk, rfl, hok⟩ := hrel
    have HK := Lib.hid hok
    clear hok
    by_cases hp : k < l.length
    · obtain ⟨c, hc⟩ : ∃ c, l[k]? = some c := ⟨_, List.getElem?_eq_getElem hp⟩
      have HC := Lib.hid hc
      clear hc
      by_cases ha : c.toNat < 128
      · have hnx := next_byte (P := Tryd.prog) w l k c HC.out ha
        go_wp2_with (first | (go_at_call 93; refine (digit_any _ _).mono ?_; rintro e w' ⟨rfl, rfl⟩) | (go_at_call 104; refine (letter_any _ _).mono ?_; rintro e w' ⟨rfl, rfl⟩) | (go_at_call 105; refine (contains_any _ _ _).mono ?_; rintro e w' ⟨rfl, rfl⟩))
        all_goals first
          | (go_roundw
             case rel => exact ⟨k + 1, hp, rfl, okS_step HC.out HK.out (by go_tidy; simp; grind)⟩
             case measure => simp; omega)
          | (go_ret
             refine ⟨?_, iter_below _ _ _⟩
             first
               | (rw [okS_fail HC.out (high_fail HB.out (by omega))]; rfl)
               | (have hq := high_fail (b := b) (c := c) HB.out
                  rw [okS_fail HC.out (by go_tidy; grind)]; rfl))
      · obtain ⟨r, n, hr, hr2, hn, hnx⟩ := next_high (P := Tryd.prog) w l k c HC.out (by omega)
        go_wp2
        go_ret
        exact ⟨by rw [okS_fail HC.out (high_fail HB.out (by omega))]; rfl, iter_below _ _ _⟩
    · have hnx := next_end (P := Tryd.prog) w l k (by omega)
      go_wp2
      go_ret
      exact ⟨by rw [← okS_all b l k (by omega), HK.out]; rfl, iter_below _ _ _⟩
end Go.Proofs.YtcbomomlojhghaaDoor
