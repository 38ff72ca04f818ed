/- The contracts of light. -/
import Derived.Test.YtcbomomlojhghaaDoorStF
namespace Go.Proofs.YtcbomomlojhghaaDoor
set_option linter.unusedSimpArgs false
set_option linter.unusedVariables false
open Go.RowKit

theorem lgt_fail1 {N K C : Nat} {p : Pkg} (h : N < p.con.length + p.brk.length + p.prv.length) : lgtP N K C p = false := by
  simp [lgtP]; omega
theorem lgt_list {N K C : Nat} {p : Pkg} {X : List (List Atm)} (hX : X = p.pre ∨ X = p.dep ∨ X = p.rcm) (h : lgtC K C X = false) : lgtP N K C p = false := by
  rcases hX with rfl | rfl | rfl <;> simp [lgtP, h]
theorem light_fail {N K C : Nat} {l : List Pkg} {k : Nat} {q : Pkg} (hq : l[k]? = some q) (h : lgtP N K C q = false) : lightS N K C l = false := by
  simp [lightS, all_no hq h]
theorem light_long {N K C : Nat} {l : List Pkg} (h : 26 < l.length) : lightS N K C l = false := by
  simp [lightS]; omega
theorem lgt_long {K C : Nat} {X : List (List Atm)} (h : K < X.length) : lgtC K C X = false := by
  simp [lgtC]; omega
theorem lgt_clause {K C : Nat} {X : List (List Atm)} {j : Nat} {x : List Atm} (hx : X[j]? = some x) (h : C < x.length) : lgtC K C X = false := by
  have := all_no (p := fun c => decide (c.length ≤ C)) hx (by simp; omega)
  simp only [lgtC, this, Bool.and_false]
set_option maxRecDepth 100000 in
set_option maxHeartbeats 400000 in
theorem light2_any (A : Option Addr) (c : Nat) (l : List Pkg) (w : World) (hl : Pkgs w A c l) :
    Calls Tryd.prog 7 #[.slice A l.length c] w fun e w' => e = .returned (.bool (lightS 40 14 10 l)) ∧ Below w.heap.size w w' := by
  have hbd := hl.bd
  have HL := Lib.hid hl
  clear hl
  go_enter Tryd.func7, Tryd.ntmps7
  go_wp2
  go_loopw [11] (fun i wr => ∃ k : Nat, k ≤ l.length ∧ k ≤ 26 ∧ i = .int .i64 k ∧ Below w.heap.size w wr ∧ (l.take k).all (lgtP 40 14 10) = true) (fun i _ => l.length - (intOf i).toNat)
  case atStart => exact ⟨0, Nat.zero_le _, Nat.zero_le _, rfl, Below.refl _ _, rfl⟩
  case round =>
    obtain ⟨k, hk, hk26, rfl, hb, hn⟩ := hrel
    have HB := Lib.hid hb
    have HN := Lib.hid hn
    clear hb hn
    by_cases hlt : k < l.length
    · obtain ⟨q, b, o, r, hq, rfl, hr, e0, e1, e2, e3, e4, e5, e6, e7, e8⟩ := HL.out.at_ hlt (Kept.of_below HB.out)
      have HQ := Lib.hid hq
      rcases r with ⟨a1, a2, a3, a4, a5, a6, c1, c2, c3, c4, c5, c6⟩
      dsimp only at e2 e3 e4 e5 e6 e7
      have HP1 := Lib.hid (show Clss w a1 c1 q.pre from hr.pre)
      have HP2 := Lib.hid (show Clss w a2 c2 q.dep from hr.dep)
      have HP3 := Lib.hid (show Clss w a3 c3 q.rcm from hr.rcm)
      have hb4 := hr.con.bd
      have hb5 := hr.brk.bd
      have hb6 := hr.prv.bd
      have hb1 := hr.pre.bd
      have hb2 := hr.dep.bd
      have hb3 := hr.rcm.bd
      dsimp only at hb1 hb2 hb3 hb4 hb5 hb6
      clear hq hr
      have HKp := Lib.hid (show Kept w (wr.alloc (.cells #[.string (bs q.name), .string (bs q.ver), .slice a1 q.pre.length c1, .slice a2 q.dep.length c2, .slice a3 q.rcm.length c3, .slice a4 q.con.length c4, .slice a5 q.brk.length c5, .slice a6 q.prv.length c6, .bool q.ess] 28)) from (Kept.of_below HB.out).trans (Kept.alloc _ _))
      by_cases h26 : (26 : Int) ≤ (k : Int)
      · go_wp2
        go_ret
        exact ⟨by rw [light_long (by omega)]; rfl, by have hb0 := HB.out; (repeat (first | assumption | exact Below.refl _ _ | refine below_next ?_ (by assumption) | refine below_drewN ?_ _ | refine below_alloc ?_ _))⟩
      by_cases hsum : (40 : Int) < (q.con.length : Int) + (q.brk.length : Int) + (q.prv.length : Int)
      · go_wp2
        go_ret
        exact ⟨by rw [light_fail HQ.out (lgt_fail1 (by omega))]; rfl, by have hb0 := HB.out; (repeat (first | assumption | exact Below.refl _ _ | refine below_next ?_ (by assumption) | refine below_drewN ?_ _ | refine below_alloc ?_ _))⟩
      · have hi0 : ∀ W, (Instr.index 55 (.agg #[.slice a1 q.pre.length c1, .slice a2 q.dep.length c2, .slice a3 q.rcm.length c3]) (.int .i64 0)).run Tryd.prog W = .ok (.slice a1 q.pre.length c1) W := fun _ => by kernel_rfl
        have hi1 : ∀ W, (Instr.index 55 (.agg #[.slice a1 q.pre.length c1, .slice a2 q.dep.length c2, .slice a3 q.rcm.length c3]) (.int .i64 1)).run Tryd.prog W = .ok (.slice a2 q.dep.length c2) W := fun _ => by kernel_rfl
        have hi2 : ∀ W, (Instr.index 55 (.agg #[.slice a1 q.pre.length c1, .slice a2 q.dep.length c2, .slice a3 q.rcm.length c3]) (.int .i64 2)).run Tryd.prog W = .ok (.slice a3 q.rcm.length c3) W := fun _ => by kernel_rfl
        have hlg : q.con.length + q.brk.length + q.prv.length ≤ 40 := by omega
        go_wp2
        go_loop [39] (fun i => ∃ j : Nat, j ≤ 3 ∧ i = .int .i64 j ∧ ∀ X ∈ [q.pre, q.dep, q.rcm].take j, lgtC 14 10 X = true) (fun i => 3 - (intOf i).toNat)
        case atStart => exact ⟨0, Nat.zero_le _, rfl, fun X hX => by simp at hX⟩
        case round =>
          obtain ⟨j, hj, rfl, hn⟩ := hrel
          have HN2 := Lib.hid hn
          clear hn
          by_cases hlt2 : j < 3
          · obtain rfl | rfl | rfl : j = 0 ∨ j = 1 ∨ j = 2 := by omega
            · go_wp2
              · go_ret
                exact ⟨by rw [light_fail HQ.out (lgt_list (X := q.pre) (by simp) (lgt_long (by omega)))]; rfl, by have hb0 := HB.out; (repeat (first | assumption | exact Below.refl _ _ | refine below_next ?_ (by assumption) | refine below_drewN ?_ _ | refine below_alloc ?_ _))⟩
              · go_loop [47] (fun i => ∃ m : Nat, m ≤ q.pre.length ∧ i = .int .i64 m ∧ (q.pre.take m).all (fun c => decide (c.length ≤ 10)) = true) (fun i => q.pre.length - (intOf i).toNat)
                case atStart => exact ⟨0, Nat.zero_le _, rfl, rfl⟩
                case round =>
                  obtain ⟨m, hm, rfl, hn⟩ := hrel
                  have HN3 := Lib.hid hn
                  clear hn
                  by_cases hlt3 : m < q.pre.length
                  · obtain ⟨x, b', o', A', c', hx, rfl, hA, d0⟩ := HP1.out.at_ hlt3 HKp.out
                    have HX := Lib.hid hx
                    clear hx
                    go_wp2
                    · go_ret
                      exact ⟨by rw [light_fail HQ.out (lgt_list (X := q.pre) (by simp) (lgt_clause HX.out (by omega)))]; rfl, by have hb0 := HB.out; (repeat (first | assumption | exact Below.refl _ _ | refine below_next ?_ (by assumption) | refine below_drewN ?_ _ | refine below_alloc ?_ _))⟩
                    · go_round
                      case rel => exact ⟨m + 1, by omega, by simp, all_step' HX.out (by simp; omega) HN3.out⟩
                      case measure => (try simp only [intOf]); omega
                  · go_wp2
                    go_round
                    case rel => exact ⟨0 + 1, by omega, rfl, fun X hX => by
                      simp only [List.take_succ_cons, List.take_zero, List.mem_cons, List.not_mem_nil, or_false] at hX
                      have hq := all_end hm hlt3 HN3.out
                      have hl : lgtC 14 10 q.pre = true := by simp only [lgtC, hq, Bool.and_true]; simp; omega
                      have hz := HN2.out
                      simp only [List.take_succ_cons, List.take_zero, List.mem_cons, List.not_mem_nil, or_false, forall_eq_or_imp, forall_eq] at hz
                      grind⟩
                    case measure => (try simp only [intOf]); omega
            · go_wp2
              · go_ret
                exact ⟨by rw [light_fail HQ.out (lgt_list (X := q.dep) (by simp) (lgt_long (by omega)))]; rfl, by have hb0 := HB.out; (repeat (first | assumption | exact Below.refl _ _ | refine below_next ?_ (by assumption) | refine below_drewN ?_ _ | refine below_alloc ?_ _))⟩
              · go_loop [47] (fun i => ∃ m : Nat, m ≤ q.dep.length ∧ i = .int .i64 m ∧ (q.dep.take m).all (fun c => decide (c.length ≤ 10)) = true) (fun i => q.dep.length - (intOf i).toNat)
                case atStart => exact ⟨0, Nat.zero_le _, rfl, rfl⟩
                case round =>
                  obtain ⟨m, hm, rfl, hn⟩ := hrel
                  have HN3 := Lib.hid hn
                  clear hn
                  by_cases hlt3 : m < q.dep.length
                  · obtain ⟨x, b', o', A', c', hx, rfl, hA, d0⟩ := HP2.out.at_ hlt3 HKp.out
                    have HX := Lib.hid hx
                    clear hx
                    go_wp2
                    · go_ret
                      exact ⟨by rw [light_fail HQ.out (lgt_list (X := q.dep) (by simp) (lgt_clause HX.out (by omega)))]; rfl, by have hb0 := HB.out; (repeat (first | assumption | exact Below.refl _ _ | refine below_next ?_ (by assumption) | refine below_drewN ?_ _ | refine below_alloc ?_ _))⟩
                    · go_round
                      case rel => exact ⟨m + 1, by omega, by simp, all_step' HX.out (by simp; omega) HN3.out⟩
                      case measure => (try simp only [intOf]); omega
                  · go_wp2
                    go_round
                    case rel => exact ⟨1 + 1, by omega, rfl, fun X hX => by
                      simp only [List.take_succ_cons, List.take_zero, List.mem_cons, List.not_mem_nil, or_false] at hX
                      have hq := all_end hm hlt3 HN3.out
                      have hl : lgtC 14 10 q.dep = true := by simp only [lgtC, hq, Bool.and_true]; simp; omega
                      have hz := HN2.out
                      simp only [List.take_succ_cons, List.take_zero, List.mem_cons, List.not_mem_nil, or_false, forall_eq_or_imp, forall_eq] at hz
                      grind⟩
                    case measure => (try simp only [intOf]); omega
            · go_wp2
              · go_ret
                exact ⟨by rw [light_fail HQ.out (lgt_list (X := q.rcm) (by simp) (lgt_long (by omega)))]; rfl, by have hb0 := HB.out; (repeat (first | assumption | exact Below.refl _ _ | refine below_next ?_ (by assumption) | refine below_drewN ?_ _ | refine below_alloc ?_ _))⟩
              · go_loop [47] (fun i => ∃ m : Nat, m ≤ q.rcm.length ∧ i = .int .i64 m ∧ (q.rcm.take m).all (fun c => decide (c.length ≤ 10)) = true) (fun i => q.rcm.length - (intOf i).toNat)
                case atStart => exact ⟨0, Nat.zero_le _, rfl, rfl⟩
                case round =>
                  obtain ⟨m, hm, rfl, hn⟩ := hrel
                  have HN3 := Lib.hid hn
                  clear hn
                  by_cases hlt3 : m < q.rcm.length
                  · obtain ⟨x, b', o', A', c', hx, rfl, hA, d0⟩ := HP3.out.at_ hlt3 HKp.out
                    have HX := Lib.hid hx
                    clear hx
                    go_wp2
                    · go_ret
                      exact ⟨by rw [light_fail HQ.out (lgt_list (X := q.rcm) (by simp) (lgt_clause HX.out (by omega)))]; rfl, by have hb0 := HB.out; (repeat (first | assumption | exact Below.refl _ _ | refine below_next ?_ (by assumption) | refine below_drewN ?_ _ | refine below_alloc ?_ _))⟩
                    · go_round
                      case rel => exact ⟨m + 1, by omega, by simp, all_step' HX.out (by simp; omega) HN3.out⟩
                      case measure => (try simp only [intOf]); omega
                  · go_wp2
                    go_round
                    case rel => exact ⟨2 + 1, by omega, rfl, fun X hX => by
                      simp only [List.take_succ_cons, List.take_zero, List.mem_cons, List.not_mem_nil, or_false] at hX
                      have hq := all_end hm hlt3 HN3.out
                      have hl : lgtC 14 10 q.rcm = true := by simp only [lgtC, hq, Bool.and_true]; simp; omega
                      have hz := HN2.out
                      simp only [List.take_succ_cons, List.take_zero, List.mem_cons, List.not_mem_nil, or_false, forall_eq_or_imp, forall_eq] at hz
                      grind⟩
                    case measure => (try simp only [intOf]); omega
          · obtain rfl : j = 3 := by omega
            go_wp2
            go_roundw
            case rel => exact ⟨k + 1, by omega, by omega, by simp, by have hb0 := HB.out; (repeat (first | assumption | exact Below.refl _ _ | refine below_next ?_ (by assumption) | refine below_drewN ?_ _ | refine below_alloc ?_ _)), all_step' HQ.out (by
              have hz := HN2.out
              simp only [List.take_succ_cons, List.take_zero, List.mem_cons, List.not_mem_nil, or_false, forall_eq_or_imp, forall_eq] at hz
              simp [lgtP, hz.1, hz.2.1, hz.2.2]
              omega) HN.out⟩
            case measure => (try simp only [intOf]); omega
    · go_wp2
      go_ret
      refine ⟨?_, HB.out⟩
      have hq := all_end hk hlt HN.out
      rw [show lightS 40 14 10 l = true from by simp only [lightS, hq, Bool.and_true]; simp; omega]
      rfl
end Go.Proofs.YtcbomomlojhghaaDoor
