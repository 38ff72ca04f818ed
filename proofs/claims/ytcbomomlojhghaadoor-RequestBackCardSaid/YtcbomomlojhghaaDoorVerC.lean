/- The contracts of the reference's Version and of what it calls. -/
import Derived.Test.YtcbomomlojhghaaDoorWa
namespace Go.Proofs.YtcbomomlojhghaaDoor
set_option linter.unusedSimpArgs false
set_option linter.unusedVariables false
open Go.RowKit

theorem rdigit_any (c : UInt8) (w : World) :
    Calls Tryd.prog 52 #[.int .u8 c.toNat] w fun e w' => e = .returned (.bool (digB c)) ∧ w = w' := by
  go_enter Tryd.func52, Tryd.ntmps52
  go_wp2
  all_goals go_ret
  all_goals (go_tidy; simp; grind [digB])

theorem rletter_any (c : UInt8) (w : World) :
    Calls Tryd.prog 74 #[.int .u8 c.toNat] w fun e w' => e = .returned (.bool (letB c)) ∧ w = w' := by
  go_enter Tryd.func74, Tryd.ntmps74
  go_wp2
  all_goals go_ret
  all_goals (go_tidy; simp; grind [letB])

set_option maxRecDepth 100000 in
theorem rfirst_any (l : List UInt8) (c : UInt8) (hl : l.length ≤ 1048576) (w : World) :
    Calls Tryd.prog 72 #[.string (bs l), .int .u8 c.toNat] w fun e w' => e = .returned (.int .i64 (Lib.indexByte l c)) ∧ w = w' := by
  go_enter Tryd.func72, Tryd.ntmps72
  go_wp2
  go_loop [8] (fun i => ∃ k : Nat, k ≤ l.length ∧ i = .int .i64 k ∧ ∀ j, j < k → l[j]? ≠ some c) (fun i => l.length - (intOf i).toNat)
  case atStart => exact ⟨0, Nat.zero_le _, rfl, fun j hj => absurd hj (Nat.not_lt_zero _)⟩
  case round =>
    obtain ⟨k, hk, rfl, hn⟩ := hrel
    have HN := Lib.hid hn
    clear hn
    by_cases hp : k < l.length
    · go_wp2
      all_goals first
        | (go_round
           case rel =>
             refine ⟨k + 1, by omega, by go_num, fun j hj => ?_⟩
             by_cases hjk : j < k
             · exact HN.out j hjk
             · obtain rfl : j = k := by omega
               rw [List.getElem?_eq_getElem hp]
               intro he
               injection he with he
               go_tidy
               grind
           case measure => simp [intOf]; omega)
        | (go_ret
           refine ⟨?_, rfl⟩
           rw [indexByte_at (i := k) (by rw [List.getElem?_eq_getElem hp]; congr 1; apply UInt8.toNat_inj.1; go_tidy; grind) HN.out]
           rfl)
    · go_wp2
      go_ret
      exact ⟨by rw [indexByte_no (fun j hj => HN.out j (by omega))]; rfl, rfl⟩

set_option maxRecDepth 100000 in
theorem rlast_any (l : List UInt8) (c : UInt8) (hl : l.length ≤ 1048576) (w : World) :
    Calls Tryd.prog 73 #[.string (bs l), .int .u8 c.toNat] w fun e w' => e = .returned (.int .i64 (lastB l c)) ∧ w = w' := by
  go_enter Tryd.func73, Tryd.ntmps73
  go_wp2
  go_loop [5] (fun i => ∃ k : Nat, k ≤ l.length ∧ i = .int .i64 (k - 1) ∧ ∀ j, k ≤ j → l[j]? ≠ some c) (fun i => (intOf i + 1).toNat)
  case atStart => exact ⟨l.length, Nat.le_refl _, rfl, fun j hj => by rw [List.getElem?_eq_none hj]; intro h; cases h⟩
  case round =>
    obtain ⟨k, hk, rfl, hn⟩ := hrel
    have HN := Lib.hid hn
    clear hn
    rcases k with _ | k
    · go_wp2
      go_ret
      refine ⟨?_, rfl⟩
      rw [lastB_none]
      · rfl
      · intro hm
        obtain ⟨j, hj⟩ := List.getElem?_of_mem hm
        exact HN.out j (Nat.zero_le _) hj
    · have hp : k < l.length := hk
      go_wp2
      all_goals first
        | (go_round
           case rel =>
             refine ⟨k, by omega, rfl, fun j hj => ?_⟩
             by_cases hjk : k + 1 ≤ j
             · exact HN.out j hjk
             · obtain rfl : j = k := by omega
               rw [List.getElem?_eq_getElem hp]
               intro he
               injection he with he
               go_tidy
               grind
           case measure => simp [intOf])
        | (go_ret
           refine ⟨?_, rfl⟩
           rw [lastB_at (i := k) (by rw [List.getElem?_eq_getElem hp]; congr 1; apply UInt8.toNat_inj.1; go_tidy; grind) (fun j hj => HN.out j hj)]
           rfl)

def okP (b : List UInt8) (c : UInt8) : Bool := digB c || letB c || b.contains c
theorem verOk_parts (e u v : List UInt8) : verOk e u v = (epochS e && v.all (okP [43, 46, 126]) && !u.isEmpty && headDig u && u.all (okP [43, 46, 126, 45, 58])) := rfl
theorem u8_beq (c d : UInt8) : (c == d) = (c.toNat == d.toNat) := by
  rw [Bool.eq_iff_iff, beq_iff_eq, beq_iff_eq]
  exact UInt8.toNat_inj.symm
theorem okP3 (c : UInt8) : okP [43, 46, 126] c = (digB c || letB c || (c.toNat == 43 || (c.toNat == 46 || c.toNat == 126))) := by
  unfold okP
  simp only [List.contains_cons, List.contains_nil, Bool.or_false]
  rw [u8_beq, u8_beq, u8_beq]
  rfl
theorem okP5 (c : UInt8) : okP [43, 46, 126, 45, 58] c = (digB c || letB c || (c.toNat == 43 || (c.toNat == 46 || (c.toNat == 126 || (c.toNat == 45 || c.toNat == 58))))) := by
  unfold okP
  simp only [List.contains_cons, List.contains_nil, Bool.or_false]
  rw [u8_beq, u8_beq, u8_beq, u8_beq, u8_beq]
  rfl
set_option maxRecDepth 100000 in
set_option maxHeartbeats 1600000 in
theorem rversion_long (l : List UInt8) (h1 : ¬ (l.length = 0 ∨ 48 < l.length)) (w : World) :
    Calls Tryd.prog 53 #[.string (bs l)] w fun e w' => e = .returned (verW l) ∧ Below w.heap.size w w' := by
  have h48 : l.length ≤ 48 := by omega
  have hz : ((l.length : Int) == 0) = false := by rw [beq_eq_false_iff_ne]; omega
  generalize hi : Lib.indexByte l 58 = i
  have hil := indexByte_lt l 58
  rw [hi] at hil
  have HI := Lib.hid hi
  clear hi
  by_cases hi0 : 0 ≤ i
  · obtain ⟨m, rfl⟩ := Int.eq_ofNat_of_zero_le hi0
    obtain ⟨a, ha⟩ : ∃ a, l.take m = a := ⟨_, rfl⟩
    obtain ⟨b, hb⟩ : ∃ b, l.drop (m + 1) = b := ⟨_, rfl⟩
    have hal : a.length ≤ 48 := by rw [← ha]; simp; omega
    have hbl : b.length ≤ 48 := by rw [← hb]; simp; omega
    have hb2 : List.take (l.length - (m + 1)) b = b := by rw [← hb]; exact take_rest l (m + 1)
    have HE := Lib.hid (show cutE l = (a, b) by simp [cutE, HI.out, ha, hb])
    generalize hj : lastB b 45 = j
    have hjl := lastB_ge b 45
    rw [hj] at hjl
    have HJ := Lib.hid hj
    clear hj
    by_cases hj0 : 0 ≤ j
    · obtain ⟨n, rfl⟩ := Int.eq_ofNat_of_zero_le hj0
      obtain ⟨u, hu⟩ : ∃ u, (b).take n = u := ⟨_, rfl⟩
      obtain ⟨v, hv⟩ : ∃ v, (b).drop (n + 1) = v := ⟨_, rfl⟩
      have hul : u.length ≤ 48 := by rw [← hu]; simp; omega
      have hvl : v.length ≤ 48 := by rw [← hv]; simp; omega
      have hv2 : List.take ((b).length - (n + 1)) v = v := by rw [← hv]; exact take_rest b (n + 1)
      have HR := Lib.hid (show cutR b = (u, v) by simp [cutR, HJ.out, hu, hv])
      cases hv0 : v.isEmpty
      · go_enter Tryd.func53, Tryd.ntmps53
        go_wp2_with (go_at_call 72; refine (rfirst_any l 58 (by omega) _).mono ?_; rintro e w' ⟨rfl, rfl⟩; rw [HI.out])
        go_quiet (fail)
        go_wp2
        all_goals first
          | ((refine bodyPost_ret (results_tmp4 rfl _ _ _) rfl ?_)
             exact ⟨by rw [verW_bad h1 HE.out HR.out (.inr (by simp [verOk, epochS]; go_tidy; grind))]; rfl, by (repeat (first | assumption | exact Below.refl _ _ | refine below_next ?_ (by assumption) | refine below_drewN ?_ _ | refine below_alloc ?_ _))⟩)
          | skip
        go_loop [44] (fun i => ∃ k : Nat, k ≤ (a).length ∧ i = .int .i64 k ∧ ((a).take k).all digB = true) (fun i => (a).length - (intOf i).toNat)
        case atStart => exact ⟨0, Nat.zero_le _, rfl, rfl⟩
        case round =>
          obtain ⟨k1, hk1, rfl, hok1⟩ := hrel
          have HK1 := Lib.hid hok1
          clear hok1
          by_cases hp1 : k1 < (a).length
          · go_wp2_with (go_at_call 52; refine (rdigit_any _ _).mono ?_; rintro e w' ⟨rfl, rfl⟩)
            all_goals first
              | (go_round
                 case rel => exact ⟨k1 + 1, by omega, by go_num, all_step (List.getElem?_eq_getElem hp1) HK1.out (by go_tidy; grind)⟩
                 case measure => simp [intOf]; omega)
              | ((refine bodyPost_ret (results_tmp4 rfl _ _ _) rfl ?_)
                 exact ⟨by rw [verW_bad h1 HE.out HR.out (.inr (by have hq := all_fail (p := digB) (List.getElem?_eq_getElem hp1) (by go_tidy; grind); simp [verOk_parts, epochS, hq]))]; rfl, by (repeat (first | assumption | exact Below.refl _ _ | refine below_next ?_ (by assumption) | refine below_drewN ?_ _ | refine below_alloc ?_ _))⟩)
          · have HA1 : Hid ((a).all digB = true) := by have := HK1.out; rwa [List.take_of_length_le (by omega)] at this
            clear HK1
            go_wp2_with (go_at_call 73; refine (rlast_any b 45 (by omega) _).mono ?_; rintro e w' ⟨rfl, rfl⟩; rw [HJ.out])
            go_quiet (fail)
            go_wp2
            go_loop [68] (fun i => ∃ k : Nat, k ≤ (v).length ∧ i = .int .i64 k ∧ ((v).take k).all (okP [43, 46, 126]) = true) (fun i => (v).length - (intOf i).toNat)
            case atStart => exact ⟨0, Nat.zero_le _, rfl, rfl⟩
            case round =>
              obtain ⟨k2, hk2, rfl, hok2⟩ := hrel
              have HK2 := Lib.hid hok2
              clear hok2
              by_cases hp2 : k2 < (v).length
              · go_wp2_with (first | (go_at_call 52; refine (rdigit_any _ _).mono ?_; rintro e w' ⟨rfl, rfl⟩) | (go_at_call 74; refine (rletter_any _ _).mono ?_; rintro e w' ⟨rfl, rfl⟩))
                all_goals first
                  | (go_round
                     case rel => exact ⟨k2 + 1, by omega, by go_num, all_step (List.getElem?_eq_getElem hp2) HK2.out (by go_tidy; (first | rw [okP3] | rw [okP5]); grind)⟩
                     case measure => simp [intOf]; omega)
                  | ((refine bodyPost_ret (results_tmp4 rfl _ _ _) rfl ?_)
                     exact ⟨by rw [verW_bad h1 HE.out HR.out (.inr (by have hq := all_fail (p := (okP [43, 46, 126])) (List.getElem?_eq_getElem hp2) (by go_tidy; (first | rw [okP3] | rw [okP5]); grind); simp [verOk_parts, epochS, hq]))]; rfl, by (repeat (first | assumption | exact Below.refl _ _ | refine below_next ?_ (by assumption) | refine below_drewN ?_ _ | refine below_alloc ?_ _))⟩)
              · have HA2 : Hid ((v).all (okP [43, 46, 126]) = true) := by have := HK2.out; rwa [List.take_of_length_le (by omega)] at this
                clear HK2
                go_wp2
                go_loop [97] (fun i => ∃ k : Nat, k ≤ (u).length ∧ i = .int .i64 k ∧ ((u).take k).all (okP [43, 46, 126, 45, 58]) = true) (fun i => (u).length - (intOf i).toNat)
                case atStart => exact ⟨0, Nat.zero_le _, rfl, rfl⟩
                case round =>
                  obtain ⟨k3, hk3, rfl, hok3⟩ := hrel
                  have HK3 := Lib.hid hok3
                  clear hok3
                  by_cases hp3 : k3 < (u).length
                  · go_wp2_with (first | (go_at_call 52; refine (rdigit_any _ _).mono ?_; rintro e w' ⟨rfl, rfl⟩) | (go_at_call 74; refine (rletter_any _ _).mono ?_; rintro e w' ⟨rfl, rfl⟩))
                    all_goals first
                      | (go_round
                         case rel => exact ⟨k3 + 1, by omega, by go_num, all_step (List.getElem?_eq_getElem hp3) HK3.out (by go_tidy; (first | rw [okP3] | rw [okP5]); grind)⟩
                         case measure => simp [intOf]; omega)
                      | ((refine bodyPost_ret (results_tmp4 rfl _ _ _) rfl ?_)
                         exact ⟨by rw [verW_bad h1 HE.out HR.out (.inr (by have hq := all_fail (p := (okP [43, 46, 126, 45, 58])) (List.getElem?_eq_getElem hp3) (by go_tidy; (first | rw [okP3] | rw [okP5]); grind); simp [verOk_parts, epochS, hq]))]; rfl, by (repeat (first | assumption | exact Below.refl _ _ | refine below_next ?_ (by assumption) | refine below_drewN ?_ _ | refine below_alloc ?_ _))⟩)
                  · have HA3 : Hid ((u).all (okP [43, 46, 126, 45, 58]) = true) := by have := HK3.out; rwa [List.take_of_length_le (by omega)] at this
                    clear HK3
                    obtain rfl : k3 = u.length := by omega
                    rcases u with _ | ⟨x, u⟩
                    all_goals go_wp2_with (go_at_call 52; refine (rdigit_any _ _).mono ?_; rintro e w' ⟨rfl, rfl⟩)
                    all_goals (refine bodyPost_ret (results_tmp4 rfl _ _ _) rfl ?_)
                    all_goals refine ⟨?_, by (repeat (first | assumption | exact Below.refl _ _ | refine below_next ?_ (by assumption) | refine below_drewN ?_ _ | refine below_alloc ?_ _))⟩
                    all_goals first
                      | (rw [verW_bad h1 HE.out HR.out (.inr (by first | (simp [verOk_parts, headDig]; done) | (simp only [verOk_parts, headDig]; go_tidy; grind)))]; rfl)
                      | (rw [verW_good h1 HE.out HR.out (by first | (have q0 := hv0; rintro ⟨_, rfl⟩; simp at q0; done) | (rw [HJ.out]; omega)) (by have q1 := HA1.out; have q2 := HA2.out; have q3 := HA3.out; simp only [verOk_parts, headDig, epochS, q1, q2, q3]; go_tidy; grind)]; rfl)
      · go_enter Tryd.func53, Tryd.ntmps53
        go_wp2_with (go_at_call 72; refine (rfirst_any l 58 (by omega) _).mono ?_; rintro e w' ⟨rfl, rfl⟩; rw [HI.out])
        go_quiet (fail)
        go_wp2
        all_goals first
          | ((refine bodyPost_ret (results_tmp4 rfl _ _ _) rfl ?_)
             exact ⟨by rw [verW_bad h1 HE.out HR.out (.inr (by simp [verOk, epochS]; go_tidy; grind))]; rfl, by (repeat (first | assumption | exact Below.refl _ _ | refine below_next ?_ (by assumption) | refine below_drewN ?_ _ | refine below_alloc ?_ _))⟩)
          | skip
        go_loop [44] (fun i => ∃ k : Nat, k ≤ (a).length ∧ i = .int .i64 k ∧ ((a).take k).all digB = true) (fun i => (a).length - (intOf i).toNat)
        case atStart => exact ⟨0, Nat.zero_le _, rfl, rfl⟩
        case round =>
          obtain ⟨k1, hk1, rfl, hok1⟩ := hrel
          have HK1 := Lib.hid hok1
          clear hok1
          by_cases hp1 : k1 < (a).length
          · go_wp2_with (go_at_call 52; refine (rdigit_any _ _).mono ?_; rintro e w' ⟨rfl, rfl⟩)
            all_goals first
              | (go_round
                 case rel => exact ⟨k1 + 1, by omega, by go_num, all_step (List.getElem?_eq_getElem hp1) HK1.out (by go_tidy; grind)⟩
                 case measure => simp [intOf]; omega)
              | ((refine bodyPost_ret (results_tmp4 rfl _ _ _) rfl ?_)
                 exact ⟨by rw [verW_bad h1 HE.out HR.out (.inr (by have hq := all_fail (p := digB) (List.getElem?_eq_getElem hp1) (by go_tidy; grind); simp [verOk_parts, epochS, hq]))]; rfl, by (repeat (first | assumption | exact Below.refl _ _ | refine below_next ?_ (by assumption) | refine below_drewN ?_ _ | refine below_alloc ?_ _))⟩)
          · have HA1 : Hid ((a).all digB = true) := by have := HK1.out; rwa [List.take_of_length_le (by omega)] at this
            clear HK1
            go_wp2_with (go_at_call 73; refine (rlast_any b 45 (by omega) _).mono ?_; rintro e w' ⟨rfl, rfl⟩; rw [HJ.out])
            go_quiet (fail)
            go_wp2
            (refine bodyPost_ret (results_tmp4 rfl _ _ _) rfl ?_)
            exact ⟨by rw [verW_bad h1 HE.out HR.out (.inl ⟨by rw [HJ.out]; omega, by have q0 := hv0; go_tidy; grind⟩)]; rfl, by (repeat (first | assumption | exact Below.refl _ _ | refine below_next ?_ (by assumption) | refine below_drewN ?_ _ | refine below_alloc ?_ _))⟩
    · have HR := Lib.hid (show cutR b = (b, []) by simp [cutR, HJ.out, hj0])
      go_enter Tryd.func53, Tryd.ntmps53
      go_wp2_with (go_at_call 72; refine (rfirst_any l 58 (by omega) _).mono ?_; rintro e w' ⟨rfl, rfl⟩; rw [HI.out])
      go_quiet (fail)
      go_wp2
      all_goals first
        | ((refine bodyPost_ret (results_tmp4 rfl _ _ _) rfl ?_)
           exact ⟨by rw [verW_bad h1 HE.out HR.out (.inr (by simp [verOk, epochS]; go_tidy; grind))]; rfl, by (repeat (first | assumption | exact Below.refl _ _ | refine below_next ?_ (by assumption) | refine below_drewN ?_ _ | refine below_alloc ?_ _))⟩)
        | skip
      go_loop [44] (fun i => ∃ k : Nat, k ≤ (a).length ∧ i = .int .i64 k ∧ ((a).take k).all digB = true) (fun i => (a).length - (intOf i).toNat)
      case atStart => exact ⟨0, Nat.zero_le _, rfl, rfl⟩
      case round =>
        obtain ⟨k1, hk1, rfl, hok1⟩ := hrel
        have HK1 := Lib.hid hok1
        clear hok1
        by_cases hp1 : k1 < (a).length
        · go_wp2_with (go_at_call 52; refine (rdigit_any _ _).mono ?_; rintro e w' ⟨rfl, rfl⟩)
          all_goals first
            | (go_round
               case rel => exact ⟨k1 + 1, by omega, by go_num, all_step (List.getElem?_eq_getElem hp1) HK1.out (by go_tidy; grind)⟩
               case measure => simp [intOf]; omega)
            | ((refine bodyPost_ret (results_tmp4 rfl _ _ _) rfl ?_)
               exact ⟨by rw [verW_bad h1 HE.out HR.out (.inr (by have hq := all_fail (p := digB) (List.getElem?_eq_getElem hp1) (by go_tidy; grind); simp [verOk_parts, epochS, hq]))]; rfl, by (repeat (first | assumption | exact Below.refl _ _ | refine below_next ?_ (by assumption) | refine below_drewN ?_ _ | refine below_alloc ?_ _))⟩)
        · have HA1 : Hid ((a).all digB = true) := by have := HK1.out; rwa [List.take_of_length_le (by omega)] at this
          clear HK1
          go_wp2_with (go_at_call 73; refine (rlast_any b 45 (by omega) _).mono ?_; rintro e w' ⟨rfl, rfl⟩; rw [HJ.out])
          have HA2 : Hid (([] : List UInt8).all (okP [43, 46, 126]) = true) := rfl
          go_loop [68] (fun i => i = .int .i64 0) (fun _ => 0)
          case atStart => rfl
          case round =>
            obtain rfl := hrel
            go_wp2
            go_loop [97] (fun i => ∃ k : Nat, k ≤ (b).length ∧ i = .int .i64 k ∧ ((b).take k).all (okP [43, 46, 126, 45, 58]) = true) (fun i => (b).length - (intOf i).toNat)
            case atStart => exact ⟨0, Nat.zero_le _, rfl, rfl⟩
            case round =>
              obtain ⟨k3, hk3, rfl, hok3⟩ := hrel
              have HK3 := Lib.hid hok3
              clear hok3
              by_cases hp3 : k3 < (b).length
              · go_wp2_with (first | (go_at_call 52; refine (rdigit_any _ _).mono ?_; rintro e w' ⟨rfl, rfl⟩) | (go_at_call 74; refine (rletter_any _ _).mono ?_; rintro e w' ⟨rfl, rfl⟩))
                all_goals first
                  | (go_round
                     case rel => exact ⟨k3 + 1, by omega, by go_num, all_step (List.getElem?_eq_getElem hp3) HK3.out (by go_tidy; (first | rw [okP3] | rw [okP5]); grind)⟩
                     case measure => simp [intOf]; omega)
                  | ((refine bodyPost_ret (results_tmp4 rfl _ _ _) rfl ?_)
                     exact ⟨by rw [verW_bad h1 HE.out HR.out (.inr (by have hq := all_fail (p := (okP [43, 46, 126, 45, 58])) (List.getElem?_eq_getElem hp3) (by go_tidy; (first | rw [okP3] | rw [okP5]); grind); simp [verOk_parts, epochS, hq]))]; rfl, by (repeat (first | assumption | exact Below.refl _ _ | refine below_next ?_ (by assumption) | refine below_drewN ?_ _ | refine below_alloc ?_ _))⟩)
              · have HA3 : Hid ((b).all (okP [43, 46, 126, 45, 58]) = true) := by have := HK3.out; rwa [List.take_of_length_le (by omega)] at this
                clear HK3
                obtain rfl : k3 = (b).length := by omega
                rcases b with _ | ⟨x, u⟩
                all_goals go_wp2_with (go_at_call 52; refine (rdigit_any _ _).mono ?_; rintro e w' ⟨rfl, rfl⟩)
                all_goals (refine bodyPost_ret (results_tmp4 rfl _ _ _) rfl ?_)
                all_goals refine ⟨?_, by (repeat (first | assumption | exact Below.refl _ _ | refine below_next ?_ (by assumption) | refine below_drewN ?_ _ | refine below_alloc ?_ _))⟩
                all_goals first
                  | (rw [verW_bad h1 HE.out HR.out (.inr (by first | (simp [verOk_parts, headDig]; done) | (simp only [verOk_parts, headDig]; go_tidy; grind)))]; rfl)
                  | (rw [verW_good h1 HE.out HR.out (by first | (have q0 := hv0; rintro ⟨_, rfl⟩; simp at q0; done) | (rw [HJ.out]; omega)) (by have q1 := HA1.out; have q2 := HA2.out; have q3 := HA3.out; simp only [verOk_parts, headDig, epochS, q1, q2, q3]; go_tidy; grind)]; rfl)
  · have HE := Lib.hid (show cutE l = ([48], l) by simp [cutE, HI.out, hi0])
    have HA1 : Hid (([48] : List UInt8).all digB = true) := rfl
    generalize hj : lastB l 45 = j
    have hjl := lastB_ge l 45
    rw [hj] at hjl
    have HJ := Lib.hid hj
    clear hj
    by_cases hj0 : 0 ≤ j
    · obtain ⟨n, rfl⟩ := Int.eq_ofNat_of_zero_le hj0
      obtain ⟨u, hu⟩ : ∃ u, (l).take n = u := ⟨_, rfl⟩
      obtain ⟨v, hv⟩ : ∃ v, (l).drop (n + 1) = v := ⟨_, rfl⟩
      have hul : u.length ≤ 48 := by rw [← hu]; simp; omega
      have hvl : v.length ≤ 48 := by rw [← hv]; simp; omega
      have hv2 : List.take ((l).length - (n + 1)) v = v := by rw [← hv]; exact take_rest l (n + 1)
      have HR := Lib.hid (show cutR l = (u, v) by simp [cutR, HJ.out, hu, hv])
      cases hv0 : v.isEmpty
      · go_enter Tryd.func53, Tryd.ntmps53
        go_wp2_with (first | (go_at_call 72; refine (rfirst_any l 58 (by omega) _).mono ?_; rintro e w' ⟨rfl, rfl⟩; rw [HI.out]) | (go_at_call 73; refine (rlast_any l 45 (by omega) _).mono ?_; rintro e w' ⟨rfl, rfl⟩; rw [HJ.out]))
        go_quiet (fail)
        go_wp2
        go_loop [68] (fun i => ∃ k : Nat, k ≤ (v).length ∧ i = .int .i64 k ∧ ((v).take k).all (okP [43, 46, 126]) = true) (fun i => (v).length - (intOf i).toNat)
        case atStart => exact ⟨0, Nat.zero_le _, rfl, rfl⟩
        case round =>
          obtain ⟨k2, hk2, rfl, hok2⟩ := hrel
          have HK2 := Lib.hid hok2
          clear hok2
          by_cases hp2 : k2 < (v).length
          · go_wp2_with (first | (go_at_call 52; refine (rdigit_any _ _).mono ?_; rintro e w' ⟨rfl, rfl⟩) | (go_at_call 74; refine (rletter_any _ _).mono ?_; rintro e w' ⟨rfl, rfl⟩))
            all_goals first
              | (go_round
                 case rel => exact ⟨k2 + 1, by omega, by go_num, all_step (List.getElem?_eq_getElem hp2) HK2.out (by go_tidy; (first | rw [okP3] | rw [okP5]); grind)⟩
                 case measure => simp [intOf]; omega)
              | ((refine bodyPost_ret (results_tmp4 rfl _ _ _) rfl ?_)
                 exact ⟨by rw [verW_bad h1 HE.out HR.out (.inr (by have hq := all_fail (p := (okP [43, 46, 126])) (List.getElem?_eq_getElem hp2) (by go_tidy; (first | rw [okP3] | rw [okP5]); grind); simp [verOk_parts, epochS, hq]))]; rfl, by (repeat (first | assumption | exact Below.refl _ _ | refine below_next ?_ (by assumption) | refine below_drewN ?_ _ | refine below_alloc ?_ _))⟩)
          · have HA2 : Hid ((v).all (okP [43, 46, 126]) = true) := by have := HK2.out; rwa [List.take_of_length_le (by omega)] at this
            clear HK2
            go_wp2
            go_loop [97] (fun i => ∃ k : Nat, k ≤ (u).length ∧ i = .int .i64 k ∧ ((u).take k).all (okP [43, 46, 126, 45, 58]) = true) (fun i => (u).length - (intOf i).toNat)
            case atStart => exact ⟨0, Nat.zero_le _, rfl, rfl⟩
            case round =>
              obtain ⟨k3, hk3, rfl, hok3⟩ := hrel
              have HK3 := Lib.hid hok3
              clear hok3
              by_cases hp3 : k3 < (u).length
              · go_wp2_with (first | (go_at_call 52; refine (rdigit_any _ _).mono ?_; rintro e w' ⟨rfl, rfl⟩) | (go_at_call 74; refine (rletter_any _ _).mono ?_; rintro e w' ⟨rfl, rfl⟩))
                all_goals first
                  | (go_round
                     case rel => exact ⟨k3 + 1, by omega, by go_num, all_step (List.getElem?_eq_getElem hp3) HK3.out (by go_tidy; (first | rw [okP3] | rw [okP5]); grind)⟩
                     case measure => simp [intOf]; omega)
                  | ((refine bodyPost_ret (results_tmp4 rfl _ _ _) rfl ?_)
                     exact ⟨by rw [verW_bad h1 HE.out HR.out (.inr (by have hq := all_fail (p := (okP [43, 46, 126, 45, 58])) (List.getElem?_eq_getElem hp3) (by go_tidy; (first | rw [okP3] | rw [okP5]); grind); simp [verOk_parts, epochS, hq]))]; rfl, by (repeat (first | assumption | exact Below.refl _ _ | refine below_next ?_ (by assumption) | refine below_drewN ?_ _ | refine below_alloc ?_ _))⟩)
              · have HA3 : Hid ((u).all (okP [43, 46, 126, 45, 58]) = true) := by have := HK3.out; rwa [List.take_of_length_le (by omega)] at this
                clear HK3
                obtain rfl : k3 = u.length := by omega
                rcases u with _ | ⟨x, u⟩
                all_goals go_wp2_with (go_at_call 52; refine (rdigit_any _ _).mono ?_; rintro e w' ⟨rfl, rfl⟩)
                all_goals (refine bodyPost_ret (results_tmp4 rfl _ _ _) rfl ?_)
                all_goals refine ⟨?_, by (repeat (first | assumption | exact Below.refl _ _ | refine below_next ?_ (by assumption) | refine below_drewN ?_ _ | refine below_alloc ?_ _))⟩
                all_goals first
                  | (rw [verW_bad h1 HE.out HR.out (.inr (by first | (simp [verOk_parts, headDig]; done) | (simp only [verOk_parts, headDig]; go_tidy; grind)))]; rfl)
                  | (rw [verW_good h1 HE.out HR.out (by first | (have q0 := hv0; rintro ⟨_, rfl⟩; simp at q0; done) | (rw [HJ.out]; omega)) (by have q1 := HA1.out; have q2 := HA2.out; have q3 := HA3.out; simp only [verOk_parts, headDig, epochS, q1, q2, q3]; go_tidy; grind)]; rfl)
      · go_enter Tryd.func53, Tryd.ntmps53
        go_wp2_with (first | (go_at_call 72; refine (rfirst_any l 58 (by omega) _).mono ?_; rintro e w' ⟨rfl, rfl⟩; rw [HI.out]) | (go_at_call 73; refine (rlast_any l 45 (by omega) _).mono ?_; rintro e w' ⟨rfl, rfl⟩; rw [HJ.out]))
        go_quiet (fail)
        go_wp2
        (refine bodyPost_ret (results_tmp4 rfl _ _ _) rfl ?_)
        exact ⟨by rw [verW_bad h1 HE.out HR.out (.inl ⟨by rw [HJ.out]; omega, by have q0 := hv0; go_tidy; grind⟩)]; rfl, by (repeat (first | assumption | exact Below.refl _ _ | refine below_next ?_ (by assumption) | refine below_drewN ?_ _ | refine below_alloc ?_ _))⟩
    · have HR := Lib.hid (show cutR l = (l, []) by simp [cutR, HJ.out, hj0])
      have HA2 : Hid (([] : List UInt8).all (okP [43, 46, 126]) = true) := rfl
      go_enter Tryd.func53, Tryd.ntmps53
      go_wp2_with (first | (go_at_call 72; refine (rfirst_any l 58 (by omega) _).mono ?_; rintro e w' ⟨rfl, rfl⟩; rw [HI.out]) | (go_at_call 73; refine (rlast_any l 45 (by omega) _).mono ?_; rintro e w' ⟨rfl, rfl⟩; rw [HJ.out]))
      go_loop [68] (fun i => i = .int .i64 0) (fun _ => 0)
      case atStart => rfl
      case round =>
        obtain rfl := hrel
        go_wp2
        go_loop [97] (fun i => ∃ k : Nat, k ≤ (l).length ∧ i = .int .i64 k ∧ ((l).take k).all (okP [43, 46, 126, 45, 58]) = true) (fun i => (l).length - (intOf i).toNat)
        case atStart => exact ⟨0, Nat.zero_le _, rfl, rfl⟩
        case round =>
          obtain ⟨k3, hk3, rfl, hok3⟩ := hrel
          have HK3 := Lib.hid hok3
          clear hok3
          by_cases hp3 : k3 < (l).length
          · go_wp2_with (first | (go_at_call 52; refine (rdigit_any _ _).mono ?_; rintro e w' ⟨rfl, rfl⟩) | (go_at_call 74; refine (rletter_any _ _).mono ?_; rintro e w' ⟨rfl, rfl⟩))
            all_goals first
              | (go_round
                 case rel => exact ⟨k3 + 1, by omega, by go_num, all_step (List.getElem?_eq_getElem hp3) HK3.out (by go_tidy; (first | rw [okP3] | rw [okP5]); grind)⟩
                 case measure => simp [intOf]; omega)
              | ((refine bodyPost_ret (results_tmp4 rfl _ _ _) rfl ?_)
                 exact ⟨by rw [verW_bad h1 HE.out HR.out (.inr (by have hq := all_fail (p := (okP [43, 46, 126, 45, 58])) (List.getElem?_eq_getElem hp3) (by go_tidy; (first | rw [okP3] | rw [okP5]); grind); simp [verOk_parts, epochS, hq]))]; rfl, by (repeat (first | assumption | exact Below.refl _ _ | refine below_next ?_ (by assumption) | refine below_drewN ?_ _ | refine below_alloc ?_ _))⟩)
          · have HA3 : Hid ((l).all (okP [43, 46, 126, 45, 58]) = true) := by have := HK3.out; rwa [List.take_of_length_le (by omega)] at this
            clear HK3
            obtain rfl : k3 = (l).length := by omega
            rcases l with _ | ⟨x, u⟩
            all_goals go_wp2_with (go_at_call 52; refine (rdigit_any _ _).mono ?_; rintro e w' ⟨rfl, rfl⟩)
            all_goals (refine bodyPost_ret (results_tmp4 rfl _ _ _) rfl ?_)
            all_goals refine ⟨?_, by (repeat (first | assumption | exact Below.refl _ _ | refine below_next ?_ (by assumption) | refine below_drewN ?_ _ | refine below_alloc ?_ _))⟩
            all_goals first
              | (rw [verW_bad h1 HE.out HR.out (.inr (by first | (simp [verOk_parts, headDig]; done) | (simp only [verOk_parts, headDig]; go_tidy; grind)))]; rfl)
              | (rw [verW_good h1 HE.out HR.out (by first | (have q0 := hv0; rintro ⟨_, rfl⟩; simp at q0; done) | (rw [HJ.out]; omega)) (by have q1 := HA1.out; have q2 := HA2.out; have q3 := HA3.out; simp only [verOk_parts, headDig, epochS, q1, q2, q3]; go_tidy; grind)]; rfl)
end Go.Proofs.YtcbomomlojhghaaDoor
