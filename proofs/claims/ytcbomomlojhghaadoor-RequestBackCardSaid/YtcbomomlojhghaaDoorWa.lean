/- The contracts of version's small functions. The contracts of version.Parse and of what it calls. -/
import Derived.Test.YtcbomomlojhghaaDoorProg
import Derived.Test.YtcbomomlojhghaaDoorVb
import Derived.Test.YtcbomomlojhghaaDoorShelf
import Derived.Deep.QuietTactic
import Derived.BigQuiet
namespace Go.Proofs.YtcbomomlojhghaaDoor
set_option linter.unusedSimpArgs false
set_option linter.unusedVariables false
open Go.RowKit

theorem digit_any (c : UInt8) (w : World) :
    Calls Tryd.prog 93 #[.int .u8 c.toNat] w fun e w' => e = .returned (.bool (digB c)) ∧ w = w' := by
  go_enter Tryd.func93, Tryd.ntmps93
  go_wp2
  all_goals go_ret
  all_goals (go_tidy; simp; grind [digB])

theorem letter_any (c : UInt8) (w : World) :
    Calls Tryd.prog 104 #[.int .u8 c.toNat] w fun e w' => e = .returned (.bool (letB c)) ∧ w = w' := by
  go_enter Tryd.func104, Tryd.ntmps104
  go_wp2
  all_goals go_ret
  all_goals (go_tidy; simp; grind [letB])

theorem rank_any (l : List UInt8) (w : World) :
    Calls Tryd.prog 106 #[.string (bs l)] w fun e w' => e = .returned (.int .i64 (rankS l)) ∧ w = w' := by
  rcases l with _ | ⟨c, l⟩
  · go_enter Tryd.func106, Tryd.ntmps106
    go_wp2
    go_ret
    exact ⟨rfl, rfl⟩
  · have hc : c.toNat < 256 := c.toNat_lt
    go_enter Tryd.func106, Tryd.ntmps106
    go_wp2_with (first | (go_at_call 93; refine (digit_any _ _).mono ?_; rintro e w' ⟨rfl, rfl⟩) | (go_at_call 104; refine (letter_any _ _).mono ?_; rintro e w' ⟨rfl, rfl⟩))
    all_goals go_ret
    all_goals (go_tidy; simp; grind [rankS, wrap64_of, UInt8.toNat_lt])

theorem contains_any (b : List UInt8) (c : UInt8) (w : World) :
    Calls Tryd.prog 105 #[.string (bs b), .string (bs [c])] w fun e w' => e = .returned (.bool (b.contains c)) ∧ w = w' :=
  (Tryd.strings_Contains_one (bs b) c w).mono fun e w' h => ⟨by rw [h.1, bs_data, contains_one], h.2.symm⟩

set_option maxRecDepth 100000 in
set_option maxHeartbeats 400000 in
theorem of_any (l b : List UInt8) (hb : b.all (fun c => decide (c.toNat ≤ 126)) = true) (w : World) :
    Calls Tryd.prog 92 #[.string (bs l), .string (bs b)] w fun e w' => e = .returned (.bool (okS b l)) ∧ Below w.heap.size w w' := by
  have HB := Lib.hid hb
  clear hb
  go_enter Tryd.func92, Tryd.ntmps92
  go_wp2
  go_loopw [6] (fun _ w' => ∃ k : Nat, k ≤ l.length ∧ w' = w.iter (bs l) k ∧ okS b (l.take k) = true) (fun _ w' => l.length - w'.iterPos w.heap.size)
  case atStart => exact ⟨0, Nat.zero_le _, rfl, rfl⟩
  case round =>
    obtain ⟨k, hk, rfl, hok⟩ := hrel
    have HK := Lib.hid hok
    clear hok
    by_cases hp : k < l.length
    · obtain ⟨c, hc⟩ : ∃ c, l[k]? = some c := ⟨_, List.getElem?_eq_getElem hp⟩
      have HC := Lib.hid hc
      clear hc
      by_cases ha : c.toNat < 128
      · have hnx := next_byte (P := Tryd.prog) w l k c HC.out ha
        go_wp2_with (first | (go_at_call 93; refine (digit_any _ _).mono ?_; rintro e w' ⟨rfl, rfl⟩) | (go_at_call 104; refine (letter_any _ _).mono ?_; rintro e w' ⟨rfl, rfl⟩) | (go_at_call 105; refine (contains_any _ _ _).mono ?_; rintro e w' ⟨rfl, rfl⟩))
        all_goals first
          | (go_roundw
             case rel => exact ⟨k + 1, hp, rfl, okS_step HC.out HK.out (by go_tidy; simp; grind)⟩
             case measure => simp; omega)
          | (go_ret
             refine ⟨?_, iter_below _ _ _⟩
             first
               | (rw [okS_fail HC.out (high_fail HB.out (by omega))]; rfl)
               | (have hq := high_fail (b := b) (c := c) HB.out
                  rw [okS_fail HC.out (by go_tidy; grind)]; rfl))
      · obtain ⟨r, n, hr, hr2, hn, hnx⟩ := next_high (P := Tryd.prog) w l k c HC.out (by omega)
        go_wp2
        go_ret
        exact ⟨by rw [okS_fail HC.out (high_fail HB.out (by omega))]; rfl, iter_below _ _ _⟩
    · have hnx := next_end (P := Tryd.prog) w l k (by omega)
      go_wp2
      go_ret
      exact ⟨by rw [← okS_all b l k (by omega), HK.out]; rfl, iter_below _ _ _⟩
end Go.Proofs.YtcbomomlojhghaaDoor
namespace Go.Proofs.YtcbomomlojhghaaDoor
set_option linter.unusedSimpArgs false
set_option linter.unusedVariables false
open Go.RowKit

theorem results_tmp4 {fn : Func} {t u v x : Tmp} (h : fn.results = #[.tmp t, .tmp u, .tmp v, .tmp x]) (tmps : Array Value) (P : Program) (w : World) :
    (results fn tmps).run P w = .ok (.tuple #[tmps.getD t undef, tmps.getD u undef, tmps.getD v undef, tmps.getD x undef]) w := by simp [results, h]

set_option maxRecDepth 100000 in
set_option maxHeartbeats 400000 in
theorem epochOf_any (l : List UInt8) (hl : l.length ≤ 1048576) (w : World) :
    Calls Tryd.prog 91 #[.string (bs l)] w fun e w' => e = .returned (.bool (epochS l)) ∧ Below w.heap.size w w' := by
  rcases l with _ | ⟨x, l0⟩
  · go_enter Tryd.func91, Tryd.ntmps91
    go_wp2
    go_ret
    exact ⟨rfl, Below.refl _ _⟩
  generalize hll : x :: l0 = l at hl ⊢
  have HL := Lib.hid hll
  clear hll
  have h0 : l.isEmpty = false := by rw [← HL.out]; rfl
  go_enter Tryd.func91, Tryd.ntmps91
  go_wp2
  · go_ret
    have h9 : ¬ l.length ≤ 9 := by omega
    exact ⟨by simp [epochS, h9], Below.refl _ _⟩
  · go_loopw [4] (fun _ w' => ∃ k : Nat, k ≤ l.length ∧ w' = w.iter (bs l) k ∧ (l.take k).all digB = true) (fun _ w' => l.length - w'.iterPos w.heap.size)
    case atStart => exact ⟨0, Nat.zero_le _, rfl, rfl⟩
    case round =>
      obtain ⟨k, hk, rfl, hok⟩ := hrel
      have HK := Lib.hid hok
      clear hok
      by_cases hp : k < l.length
      · obtain ⟨c, hc⟩ : ∃ c, l[k]? = some c := ⟨_, List.getElem?_eq_getElem hp⟩
        have HC := Lib.hid hc
        clear hc
        by_cases ha : c.toNat < 128
        · have hnx := next_byte (P := Tryd.prog) w l k c HC.out ha
          go_wp2
          all_goals first
            | (go_roundw
               case rel => exact ⟨k + 1, hp, rfl, all_step HC.out HK.out (by go_tidy; simp [digB]; omega)⟩
               case measure => simp; omega)
            | (go_ret
               exact ⟨by have hq := all_fail (p := digB) HC.out (by go_tidy; simp [digB]; omega); simp [epochS, hq], iter_below _ _ _⟩)
        · obtain ⟨r, n, hr, hr2, hn, hnx⟩ := next_high (P := Tryd.prog) w l k c HC.out (by omega)
          go_wp2
          go_ret
          exact ⟨by have hq := all_fail (p := digB) HC.out (by go_tidy; simp [digB]; omega); simp [epochS, hq], iter_below _ _ _⟩
      · have hnx := next_end (P := Tryd.prog) w l k (by omega)
        go_wp2
        go_ret
        refine ⟨?_, iter_below _ _ _⟩
        have hq := HK.out
        rw [List.take_of_length_le (by omega)] at hq
        have h9 : l.length ≤ 9 := by omega
        simp [epochS, hq, h0, h9]

theorem trimLeft_any (l : List UInt8) (w : World) :
    Calls Tryd.prog 117 #[.string (bs l), .string (bs [48])] w fun e w' => e = .returned (.string (bs (l.dropWhile (· == 48)))) ∧ w' = w :=
  Tryd.strings_TrimLeft_one (bs l) 48 (by decide) w

set_option maxRecDepth 100000 in
set_option maxHeartbeats 400000 in
theorem digits_any (l : List UInt8) (hl : l.length ≤ 1048576) (w : World) :
    Calls Tryd.prog 108 #[.string (bs l)] w fun e w' => e = .returned (.tuple #[.string (bs (digitsS l).1), .string (bs (digitsS l).2)]) ∧ Below w.heap.size w w' := by
  go_enter Tryd.func108, Tryd.ntmps108
  go_wp2
  go_loop [4] (fun n => ∃ k : Nat, k ≤ l.length ∧ n = .int .i64 k ∧ (l.take k).all digB = true) (fun n => l.length - (intOf n).toNat)
  case atStart => exact ⟨0, Nat.zero_le _, rfl, rfl⟩
  case round =>
    obtain ⟨k, hk, rfl, hok⟩ := hrel
    have HK := Lib.hid hok
    clear hok
    by_cases hp : k < l.length
    · go_wp2_with (go_at_call 93; refine (digit_any _ _).mono ?_; rintro e w' ⟨rfl, rfl⟩)
      · go_round
        case rel => exact ⟨k + 1, by omega, by go_num, all_step (List.getElem?_eq_getElem hp) HK.out (by assumption)⟩
        case measure => simp [intOf]; omega
      · have hd : digB l[k] = false := by assumption
        have HD := Lib.hid (takeWhile_of HK.out (fun c hc => by rw [List.getElem?_eq_getElem hp] at hc; injection hc with hc; rw [← hc]; exact hd) hk)
        clear hd
        go_quiet ((go_at_call 117; exact Calls.quiet_of_same (trimLeft_any _ _)))
        go_wp2
        go_ret2
        exact ⟨by simp [digitsS, HD.out], below_drewN (Below.refl _ _) _⟩
    · have HD := Lib.hid (takeWhile_of HK.out (fun c hc => by rw [List.getElem?_eq_none (by omega)] at hc; cases hc) hk)
      go_wp2
      go_quiet ((go_at_call 117; exact Calls.quiet_of_same (trimLeft_any _ _)))
      go_wp2
      go_ret2
      exact ⟨by simp [digitsS, HD.out], below_drewN (Below.refl _ _) _⟩

theorem index_one (l : List UInt8) (c : UInt8) (w : World) :
    Calls Tryd.prog 101 #[.string (bs l), .string (bs [c])] w fun e w' => e = .returned (.int .i64 (Lib.indexByte l c)) ∧ w = w' :=
  (Tryd.stringslite_Index_one (bs l) c w).mono fun e w' h => ⟨h.1, h.2.symm⟩

theorem cut_any (l : List UInt8) (c : UInt8) (hl : l.length ≤ 1048576) (w : World) :
    Calls Tryd.prog 66 #[.string (bs l), .string (bs [c])] w fun e w' => e = .returned (.tuple #[.string (bs (cutS l c).1), .string (bs (cutS l c).2.1), .bool (cutS l c).2.2]) ∧ Below w.heap.size w w' := by
  have h1 := indexByte_lt l c
  generalize hi : Lib.indexByte l c = i at h1
  have HI := Lib.hid hi
  clear hi
  by_cases h0 : 0 ≤ i
  · obtain ⟨n, rfl⟩ := Int.eq_ofNat_of_zero_le h0
    go_enter Tryd.func66, Tryd.ntmps66
    go_wp2_with (first | (go_at_call 101; refine (index_one _ _ _).mono ?_; rintro e w' ⟨rfl, rfl⟩; rw [HI.out]) | (go_at_call 87; go_in))
    go_quiet (fail)
    go_wp2
    go_ret3
    go_wp2
    go_ret3
    exact ⟨by simp [cutS, HI.out], below_drewN (Below.refl _ _) _⟩
  · go_enter Tryd.func66, Tryd.ntmps66
    go_wp2_with (first | (go_at_call 101; refine (index_one _ _ _).mono ?_; rintro e w' ⟨rfl, rfl⟩; rw [HI.out]) | (go_at_call 87; go_in))
    go_ret3
    go_wp2
    go_ret3
    have h3 : ¬ 0 ≤ i := by omega
    exact ⟨by simp [cutS, HI.out, h3]; rfl, Below.refl _ _⟩

theorem lastIndex_any (l : List UInt8) (c : UInt8) (hl : l.length ≤ 1048576) (w : World) :
    Calls Tryd.prog 90 #[.string (bs l), .int .u8 c.toNat] w fun e w' => e = .returned (.int .i64 (lastB l c)) ∧ w = w' :=
  (Tryd.strings_LastIndexByte (bs l) c.toNat (by rw [bs_size]; omega) w).mono fun e w' h => ⟨by rw [h.1, lastIndex_eq], h.2.symm⟩

set_option maxRecDepth 100000 in
set_option maxHeartbeats 800000 in
theorem parse_short (l : List UInt8) (h : l = [] ∨ 48 < l.length) (w : World) :
    Calls Tryd.prog 76 #[.string (bs l)] w fun e w' => e = .returned (verV l) ∧ Below w.heap.size w w' := by
  have HV : Hid (verV l = .tuple #[.string (bs []), .string (bs []), .string (bs []), .int .i64 3]) := by
    have : verS l = none := by unfold verS; rw [if_pos]; rcases h with rfl | h <;> simp [*]
    simp [Hid, verV, this]
  rcases h with rfl | h
  · go_enter Tryd.func76, Tryd.ntmps76
    go_wp2_with (fail)
    refine bodyPost_ret (results_tmp4 rfl _ _ _) rfl ?_
    exact ⟨by rw [HV.out]; rfl, Below.refl _ _⟩
  · by_cases h0 : l = []
    · subst h0; simp at h
    go_enter Tryd.func76, Tryd.ntmps76
    go_wp2_with (fail)
    all_goals (refine bodyPost_ret (results_tmp4 rfl _ _ _) rfl ?_)
    all_goals exact ⟨by rw [HV.out]; rfl, Below.refl _ _⟩

set_option maxRecDepth 100000 in
set_option maxHeartbeats 800000 in
theorem parse_long (l : List UInt8) (h0 : l.isEmpty = false) (h48 : l.length ≤ 48) (w : World) :
    Calls Tryd.prog 76 #[.string (bs l)] w fun e w' => e = .returned (verV l) ∧ Below w.heap.size w w' := by
  rcases hcut : cutS l 58 with ⟨a, b, is⟩
  have hlen := cutS_len hcut
  have HC := Lib.hid hcut
  clear hcut
  obtain ⟨hla, hlb⟩ := hlen
  cases is
  · generalize hj : lastB l 45 = j
    have hjl := lastB_ge l 45
    rw [hj] at hjl
    have HJ := Lib.hid hj
    clear hj
    by_cases hj0 : 0 ≤ j
    · obtain ⟨n, rfl⟩ := Int.eq_ofNat_of_zero_le hj0
      obtain ⟨u, hu⟩ : ∃ u, (l).take n = u := ⟨_, rfl⟩
      obtain ⟨v, hv⟩ : ∃ v, (l).drop (n + 1) = v := ⟨_, rfl⟩
      have hul : u.length ≤ 48 := by rw [← hu]; simp; omega
      have hvl : v.length ≤ 48 := by rw [← hv]; simp; omega
      have hv2 : List.take ((l).length - (n + 1)) v = v := by rw [← hv]; exact take_rest l (n + 1)
      have HV := Lib.hid (verV_of (u := u) (v := v) h0 h48 (show cutE l = ([48], l) from cutE_of HC.out) (by simp [cutR, HJ.out, hu, hv]))
      rcases u with _ | ⟨x, u⟩
      all_goals
        go_enter Tryd.func76, Tryd.ntmps76
        go_wp2_with (first | (go_at_call 66; refine (cut_any _ 58 (by omega) _).mono ?_; rintro e w1 ⟨rfl, hb1⟩; rw [HC.out]) | (go_at_call 90; refine (lastIndex_any l 45 (by omega) _).mono ?_; rintro e w1 ⟨rfl, rfl⟩; rw [HJ.out]))
        go_quiet (fail)
        go_wp2_with (first | (go_at_call 91; refine (epochOf_any _ (by first | decide | omega | (simp; omega)) _).mono ?_; rintro e w2 ⟨rfl, hb2⟩) | (go_at_call 92; refine (of_any _ _ (by decide) _).mono ?_; rintro e w3 ⟨rfl, hb3⟩) | (go_at_call 93; refine (digit_any _ _).mono ?_; rintro e w' ⟨rfl, rfl⟩))
        all_goals (refine bodyPost_ret (results_tmp4 rfl _ _ _) rfl ?_)
        all_goals refine ⟨?_, by (repeat (first | assumption | exact Below.refl _ _ | refine below_next ?_ (by assumption) | refine below_drewN ?_ _ | refine below_alloc ?_ _))⟩
        all_goals (rw [HV.out, HJ.out]; go_tidy; simp [verOk, headDig, bs]; try grind)
    · have HV := Lib.hid (verV_of (u := l) (v := []) h0 h48 (show cutE l = ([48], l) from cutE_of HC.out) (by simp [cutR, HJ.out, hj0]))
      rcases l with _ | ⟨x, u⟩
      all_goals
        first
          | (simp at h0; done)
          | (go_enter Tryd.func76, Tryd.ntmps76
             go_wp2_with (first | (go_at_call 66; refine (cut_any _ 58 (by omega) _).mono ?_; rintro e w1 ⟨rfl, hb1⟩; rw [HC.out]) | (go_at_call 90; refine (lastIndex_any _ 45 (by omega) _).mono ?_; rintro e w1 ⟨rfl, rfl⟩; rw [HJ.out]))
             go_wp2_with (first | (go_at_call 91; refine (epochOf_any _ (by first | decide | omega | (simp; omega)) _).mono ?_; rintro e w2 ⟨rfl, hb2⟩) | (go_at_call 92; refine (of_any _ _ (by decide) _).mono ?_; rintro e w3 ⟨rfl, hb3⟩) | (go_at_call 93; refine (digit_any _ _).mono ?_; rintro e w' ⟨rfl, rfl⟩))
             all_goals (refine bodyPost_ret (results_tmp4 rfl _ _ _) rfl ?_)
             all_goals refine ⟨?_, by (repeat (first | assumption | exact Below.refl _ _ | refine below_next ?_ (by assumption) | refine below_drewN ?_ _ | refine below_alloc ?_ _))⟩
             all_goals (rw [HV.out, HJ.out]; go_tidy; simp [verOk, headDig, bs, show okS [43, 46, 126] [] = true from rfl]; try grind))
  · generalize hj : lastB b 45 = j
    have hjl := lastB_ge b 45
    rw [hj] at hjl
    have HJ := Lib.hid hj
    clear hj
    by_cases hj0 : 0 ≤ j
    · obtain ⟨n, rfl⟩ := Int.eq_ofNat_of_zero_le hj0
      obtain ⟨u, hu⟩ : ∃ u, (b).take n = u := ⟨_, rfl⟩
      obtain ⟨v, hv⟩ : ∃ v, (b).drop (n + 1) = v := ⟨_, rfl⟩
      have hul : u.length ≤ 48 := by rw [← hu]; simp; omega
      have hvl : v.length ≤ 48 := by rw [← hv]; simp; omega
      have hv2 : List.take ((b).length - (n + 1)) v = v := by rw [← hv]; exact take_rest b (n + 1)
      have HV := Lib.hid (verV_of (u := u) (v := v) h0 h48 (show cutE l = (a, b) from cutE_of HC.out) (by simp [cutR, HJ.out, hu, hv]))
      rcases u with _ | ⟨x, u⟩
      all_goals
        go_enter Tryd.func76, Tryd.ntmps76
        go_wp2_with (first | (go_at_call 66; refine (cut_any _ 58 (by omega) _).mono ?_; rintro e w1 ⟨rfl, hb1⟩; rw [HC.out]) | (go_at_call 90; refine (lastIndex_any b 45 (by omega) _).mono ?_; rintro e w1 ⟨rfl, rfl⟩; rw [HJ.out]))
        go_quiet (fail)
        go_wp2_with (first | (go_at_call 91; refine (epochOf_any _ (by first | decide | omega | (simp; omega)) _).mono ?_; rintro e w2 ⟨rfl, hb2⟩) | (go_at_call 92; refine (of_any _ _ (by decide) _).mono ?_; rintro e w3 ⟨rfl, hb3⟩) | (go_at_call 93; refine (digit_any _ _).mono ?_; rintro e w' ⟨rfl, rfl⟩))
        all_goals (refine bodyPost_ret (results_tmp4 rfl _ _ _) rfl ?_)
        all_goals refine ⟨?_, by (repeat (first | assumption | exact Below.refl _ _ | refine below_next ?_ (by assumption) | refine below_drewN ?_ _ | refine below_alloc ?_ _))⟩
        all_goals (rw [HV.out, HJ.out]; go_tidy; simp [verOk, headDig, bs]; try grind)
    · have HV := Lib.hid (verV_of (u := b) (v := []) h0 h48 (show cutE l = (a, b) from cutE_of HC.out) (by simp [cutR, HJ.out, hj0]))
      rcases b with _ | ⟨x, u⟩
      all_goals
        first
          | (simp at h0; done)
          | (go_enter Tryd.func76, Tryd.ntmps76
             go_wp2_with (first | (go_at_call 66; refine (cut_any _ 58 (by omega) _).mono ?_; rintro e w1 ⟨rfl, hb1⟩; rw [HC.out]) | (go_at_call 90; refine (lastIndex_any _ 45 (by omega) _).mono ?_; rintro e w1 ⟨rfl, rfl⟩; rw [HJ.out]))
             go_wp2_with (first | (go_at_call 91; refine (epochOf_any _ (by first | decide | omega | (simp; omega)) _).mono ?_; rintro e w2 ⟨rfl, hb2⟩) | (go_at_call 92; refine (of_any _ _ (by decide) _).mono ?_; rintro e w3 ⟨rfl, hb3⟩) | (go_at_call 93; refine (digit_any _ _).mono ?_; rintro e w' ⟨rfl, rfl⟩))
             all_goals (refine bodyPost_ret (results_tmp4 rfl _ _ _) rfl ?_)
             all_goals refine ⟨?_, by (repeat (first | assumption | exact Below.refl _ _ | refine below_next ?_ (by assumption) | refine below_drewN ?_ _ | refine below_alloc ?_ _))⟩
             all_goals (rw [HV.out, HJ.out]; go_tidy; simp [verOk, headDig, bs, show okS [43, 46, 126] [] = true from rfl]; try grind))
theorem parse_any (l : List UInt8) (w : World) :
    Calls Tryd.prog 76 #[.string (bs l)] w fun e w' => e = .returned (verV l) ∧ Below w.heap.size w w' := by
  by_cases h0 : l = []
  · exact parse_short l (.inl h0) w
  · by_cases h48 : l.length ≤ 48
    · exact parse_long l (by cases l; exact absurd rfl h0; rfl) h48 w
    · exact parse_short l (.inr (by omega)) w
end Go.Proofs.YtcbomomlojhghaaDoor
