/- The contracts of the reference's Part and of what it calls. -/
import Derived.Test.YtflmocamfedbdaaGreatDoorVerC
import Derived.Test.YtflmocamfedbdaaGreatDoorMk
namespace Go.Proofs.YtflmocamfedbdaaGreatDoor
set_option linter.unusedSimpArgs false
set_option linter.unusedVariables false
open Go.RowKit

set_option maxRecDepth 100000 in
theorem rrank_any (l : List UInt8) (k : Nat) (hl : l.length ≤ 1048576) (hk : k ≤ 1048577) (w : World) :
    Calls Tryz.prog 125 #[.string (bs l), .int .i64 k] w fun e w' => e = .returned (.int .i64 (rrankS (l.drop k))) ∧ w = w' := by
  by_cases hp : k < l.length
  · have hd : l.drop k = l[k] :: l.drop (k + 1) := List.drop_eq_getElem_cons hp
    have HD := Lib.hid hd
    clear hd
    have hc := l[k].toNat_lt
    go_enter Tryz.func125, Tryz.ntmps125
    go_wp2_with (first | (go_at_call 88; refine (rdigit_any _ _).mono ?_; rintro e w' ⟨rfl, rfl⟩) | (go_at_call 91; refine (rletter_any _ _).mono ?_; rintro e w' ⟨rfl, rfl⟩))
    all_goals go_ret
    all_goals (refine ⟨?_, rfl⟩; rw [HD.out]; go_tidy; simp [rrankS]; grind [wrap64_of, UInt8.toNat_lt])
  · have HD := Lib.hid (show rrankS (l.drop k) = 0 by rw [List.drop_eq_nil_of_le (by omega)]; rfl)
    go_enter Tryz.func125, Tryz.ntmps125
    go_wp2
    go_ret
    exact ⟨by rw [HD.out]; rfl, rfl⟩
theorem rsign_any (x y : Int) (w : World) :
    Calls Tryz.prog 126 #[.int .i64 x, .int .i64 y] w fun e w' => e = .returned (.int .i64 (Lib.compareInt x y)) ∧ w = w' := by
  go_enter Tryz.func126, Tryz.ntmps126
  go_wp2
  all_goals go_ret
  all_goals (refine ⟨?_, rfl⟩; go_tidy; simp [Lib.compareInt]; grind)
set_option maxRecDepth 100000 in
theorem rrun_any (l : List UInt8) (hl : l.length ≤ 1048576) (w : World) :
    Calls Tryz.prog 128 #[.string (bs l)] w fun e w' => e = .returned (.int .i64 (l.takeWhile digB).length) ∧ w = w' := by
  go_enter Tryz.func128, Tryz.ntmps128
  go_wp2
  go_loop [3] (fun n => ∃ k : Nat, k ≤ l.length ∧ n = .int .i64 k ∧ (l.take k).all digB = true) (fun n => l.length - (intOf n).toNat)
  case atStart => exact ⟨0, Nat.zero_le _, rfl, rfl⟩
  case round =>
    obtain ⟨k, hk, rfl, hok⟩ := hrel
    have HK := Lib.hid hok
    clear hok
    by_cases hp : k < l.length
    · go_wp2_with (go_at_call 88; refine (rdigit_any _ _).mono ?_; rintro e w' ⟨rfl, rfl⟩)
      · go_round
        case rel => exact ⟨k + 1, by omega, by go_num, all_step (List.getElem?_eq_getElem hp) HK.out (by assumption)⟩
        case measure => simp [intOf]; omega
      · have hd : digB l[k] = false := by assumption
        have HD := Lib.hid (takeWhile_of HK.out (fun c hc => by rw [List.getElem?_eq_getElem hp] at hc; injection hc with hc; rw [← hc]; exact hd) hk)
        go_ret
        exact ⟨by rw [HD.out.1, List.length_take_of_le hk]; rfl, rfl⟩
    · have HD := Lib.hid (takeWhile_of HK.out (fun c hc => by rw [List.getElem?_eq_none (by omega)] at hc; cases hc) hk)
      go_wp2
      go_ret
      exact ⟨by rw [HD.out.1, List.length_take_of_le hk]; rfl, rfl⟩
set_option maxRecDepth 100000 in
theorem rskip_any (l : List UInt8) (hl : l.length ≤ 1048576) (w : World) :
    Calls Tryz.prog 127 #[.string (bs l)] w fun e w' => e = .returned (.string (bs (skipS l))) ∧ w = w' := by
  go_enter Tryz.func127, Tryz.ntmps127
  go_wp2
  go_loop [0] (fun s => ∃ m : List UInt8, s = .string (bs m) ∧ m.length ≤ 1048576 ∧ m.dropWhile (fun c => !digB c) = l.dropWhile (fun c => !digB c)) (fun s => strLen s)
  case atStart => exact ⟨l, rfl, hl, rfl⟩
  case round =>
    obtain ⟨m, rfl, hm, he⟩ := hrel
    have HE := Lib.hid he
    clear he
    rcases m with _ | ⟨c, m⟩
    · have H2 : Hid (([] : List UInt8).dropWhile (· == 48) = skipS l) := by show _ = skipS l; unfold skipS; rw [← HE.out]; rfl
      go_wp2
      go_loop [0] (fun s => ∃ q : List UInt8, s = .string (bs q) ∧ q.length ≤ 1048576 ∧ q.dropWhile (· == 48) = skipS l) (fun s => strLen s)
      case atStart => exact ⟨[], rfl, hm, H2.out⟩
      case round =>
        obtain ⟨q, rfl, hq, he2⟩ := hrel
        have HE2 := Lib.hid he2
        clear he2
        rcases q with _ | ⟨d, q⟩
        · go_wp2
          go_ret
          exact ⟨by rw [← HE2.out]; rfl, rfl⟩
        · go_wp2
          · go_round
            case rel =>
              have hd : (d == 48) = true := by rw [u8_beq]; go_tidy; grind
              exact ⟨q, rfl, by simp at hq; omega, by rw [← HE2.out, List.dropWhile_cons, if_pos hd]⟩
            case measure => simp [strLen_bs]
          · go_ret
            refine ⟨?_, rfl⟩
            have hd : (d == 48) = false := by rw [u8_beq]; go_tidy; grind
            rw [← HE2.out, List.dropWhile_cons, if_neg (by rw [hd]; exact Bool.false_ne_true)]
            rfl
    · go_wp2_with (go_at_call 88; refine (rdigit_any _ _).mono ?_; rintro e w' ⟨rfl, rfl⟩)
      · go_round
        case rel =>
          have hc : digB c = false := by go_tidy; grind
          exact ⟨m, rfl, by simp at hm; omega, by rw [← HE.out, List.dropWhile_cons, if_pos (by rw [hc]; rfl)]⟩
        case measure => simp [strLen_bs]
      · have H2 : Hid ((c :: m).dropWhile (· == 48) = skipS l) := by
          have hc : digB c = true := by go_tidy; grind
          show _ = skipS l; unfold skipS; rw [← HE.out, List.dropWhile_cons (p := fun c => !digB c), if_neg (by rw [hc]; exact Bool.false_ne_true)]
        go_loop [0] (fun s => ∃ q : List UInt8, s = .string (bs q) ∧ q.length ≤ 1048576 ∧ q.dropWhile (· == 48) = skipS l) (fun s => strLen s)
        case atStart => exact ⟨(c :: m), rfl, hm, H2.out⟩
        case round =>
          obtain ⟨q, rfl, hq, he2⟩ := hrel
          have HE2 := Lib.hid he2
          clear he2
          rcases q with _ | ⟨d, q⟩
          · go_wp2
            go_ret
            exact ⟨by rw [← HE2.out]; rfl, rfl⟩
          · go_wp2
            · go_round
              case rel =>
                have hd : (d == 48) = true := by rw [u8_beq]; go_tidy; grind
                exact ⟨q, rfl, by simp at hq; omega, by rw [← HE2.out, List.dropWhile_cons, if_pos hd]⟩
              case measure => simp [strLen_bs]
            · go_ret
              refine ⟨?_, rfl⟩
              have hd : (d == 48) = false := by rw [u8_beq]; go_tidy; grind
              rw [← HE2.out, List.dropWhile_cons, if_neg (by rw [hd]; exact Bool.false_ne_true)]
              rfl
end Go.Proofs.YtflmocamfedbdaaGreatDoor
