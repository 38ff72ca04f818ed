/- Few and small packages: the laws' light: its contracts, at any bounds. The contract of layer 17's bare: the packages of entries. The contract of the reference's Newer (of seats where entries are found by EnF). -/
import Derived.Test.YtaicidbopgnmfaaGreatDoorMk
import Derived.Test.YtaicidbopgnmfaaGreatDoorWa
import Derived.Test.YtaicidbopgnmfaaGreatDoorVw
namespace Go.Proofs.YtaicidbopgnmfaaGreatDoor
set_option linter.unusedSimpArgs false
set_option linter.unusedVariables false
open Go.RowKit

def lightM (M N K C : Nat) (l : List Pkg) : Bool := decide (l.length ≤ M) && l.all (lgtP N K C)
theorem lm_fail1 {N K C : Nat} {p : Pkg} (h : N < p.con.length + p.brk.length + p.prv.length) : lgtP N K C p = false := by
  simp [lgtP]; omega
theorem lm_list {N K C : Nat} {p : Pkg} {X : List (List Atm)} (hX : X = p.pre ∨ X = p.dep ∨ X = p.rcm) (h : lgtC K C X = false) : lgtP N K C p = false := by
  rcases hX with rfl | rfl | rfl <;> simp [lgtP, h]
theorem lm_fail {M N K C : Nat} {l : List Pkg} {k : Nat} {q : Pkg} (hq : l[k]? = some q) (h : lgtP N K C q = false) : lightM M N K C l = false := by
  simp [lightM, all_no hq h]
theorem lm_long {M N K C : Nat} {l : List Pkg} (h : M < l.length) : lightM M N K C l = false := by
  simp [lightM]; omega
theorem lm_lgt {K C : Nat} {X : List (List Atm)} (h : K < X.length) : lgtC K C X = false := by
  simp [lgtC]; omega
theorem lm_clause {K C : Nat} {X : List (List Atm)} {j : Nat} {x : List Atm} (hx : X[j]? = some x) (h : C < x.length) : lgtC K C X = false := by
  have := all_no (p := fun c => decide (c.length ≤ C)) hx (by simp; omega)
  simp only [lgtC, this, Bool.and_false]
/-- what light says of each -/
theorem lm_of {M N K C : Nat} {l : List Pkg} (h : lightM M N K C l = true) : l.length ≤ M ∧ ∀ p ∈ l, p.con.length + p.brk.length + p.prv.length ≤ N ∧ (p.pre.length ≤ K ∧ ∀ x ∈ p.pre, x.length ≤ C) ∧ (p.dep.length ≤ K ∧ ∀ x ∈ p.dep, x.length ≤ C) ∧ (p.rcm.length ≤ K ∧ ∀ x ∈ p.rcm, x.length ≤ C) := by
  simp only [lightM, lgtP, lgtC, Bool.and_eq_true, decide_eq_true_eq, List.all_eq_true] at h
  exact ⟨h.1, fun p hp => by
    have := h.2 p hp
    exact ⟨this.1.1.1, this.1.1.2, this.1.2, this.2⟩⟩
set_option maxRecDepth 100000 in
set_option maxHeartbeats 400000 in
theorem light17_any (A : Option Addr) (c : Nat) (l : List Pkg) (w : World) (hl : Pkgs w A c l) :
    Calls Tryz.prog 39 #[.slice A l.length c] w fun e w' => e = .returned (.bool (lightM 26 40 14 10 l)) ∧ Below w.heap.size w w' := by
  have hbd := hl.bd
  have HL := Lib.hid hl
  clear hl
  go_enter Tryz.func39, Tryz.ntmps39
  go_wp2
  go_loopw [11] (fun i wr => ∃ k : Nat, k ≤ l.length ∧ k ≤ 26 ∧ i = .int .i64 k ∧ Below w.heap.size w wr ∧ (l.take k).all (lgtP 40 14 10) = true) (fun i _ => l.length - (intOf i).toNat)
  case atStart => exact ⟨0, Nat.zero_le _, Nat.zero_le _, rfl, Below.refl _ _, rfl⟩
  case round =>
    obtain ⟨k, hk, hkM, rfl, hb, hn⟩ := hrel
    have HB := Lib.hid hb
    have HN := Lib.hid hn
    clear hb hn
    by_cases hlt : k < l.length
    · obtain ⟨q, b, o, r, hq, rfl, hr, e0, e1, e2, e3, e4, e5, e6, e7, e8⟩ := HL.out.at_ hlt (Kept.of_below HB.out)
      have HQ := Lib.hid hq
      rcases r with ⟨a1, a2, a3, a4, a5, a6, c1, c2, c3, c4, c5, c6⟩
      dsimp only at e2 e3 e4 e5 e6 e7
      have HP1 := Lib.hid (show Clss w a1 c1 q.pre from hr.pre)
      have HP2 := Lib.hid (show Clss w a2 c2 q.dep from hr.dep)
      have HP3 := Lib.hid (show Clss w a3 c3 q.rcm from hr.rcm)
      have hb4 := hr.con.bd
      have hb5 := hr.brk.bd
      have hb6 := hr.prv.bd
      have hb1 := hr.pre.bd
      have hb2 := hr.dep.bd
      have hb3 := hr.rcm.bd
      dsimp only at hb1 hb2 hb3 hb4 hb5 hb6
      clear hq hr
      have HKp := Lib.hid (show Kept w (wr.alloc (.cells #[.string (bs q.name), .string (bs q.ver), .slice a1 q.pre.length c1, .slice a2 q.dep.length c2, .slice a3 q.rcm.length c3, .slice a4 q.con.length c4, .slice a5 q.brk.length c5, .slice a6 q.prv.length c6, .bool q.ess] 43)) from (Kept.of_below HB.out).trans (Kept.alloc _ _))
      by_cases hM : (26 : Int) ≤ (k : Int)
      · go_wp2
        go_ret
        exact ⟨by rw [lm_long (by omega)]; rfl, by have hb0 := HB.out; (repeat (first | assumption | exact Below.refl _ _ | refine below_next ?_ (by assumption) | refine below_drewN ?_ _ | refine below_alloc ?_ _))⟩
      by_cases hsum : (40 : Int) < (q.con.length : Int) + (q.brk.length : Int) + (q.prv.length : Int)
      · go_wp2
        go_ret
        exact ⟨by rw [lm_fail HQ.out (lm_fail1 (by omega))]; rfl, by have hb0 := HB.out; (repeat (first | assumption | exact Below.refl _ _ | refine below_next ?_ (by assumption) | refine below_drewN ?_ _ | refine below_alloc ?_ _))⟩
      · have hi0 : ∀ W, (Instr.index 78 (.agg #[.slice a1 q.pre.length c1, .slice a2 q.dep.length c2, .slice a3 q.rcm.length c3]) (.int .i64 0)).run Tryz.prog W = .ok (.slice a1 q.pre.length c1) W := fun _ => by kernel_rfl
        have hi1 : ∀ W, (Instr.index 78 (.agg #[.slice a1 q.pre.length c1, .slice a2 q.dep.length c2, .slice a3 q.rcm.length c3]) (.int .i64 1)).run Tryz.prog W = .ok (.slice a2 q.dep.length c2) W := fun _ => by kernel_rfl
        have hi2 : ∀ W, (Instr.index 78 (.agg #[.slice a1 q.pre.length c1, .slice a2 q.dep.length c2, .slice a3 q.rcm.length c3]) (.int .i64 2)).run Tryz.prog W = .ok (.slice a3 q.rcm.length c3) W := fun _ => by kernel_rfl
        have hlg : q.con.length + q.brk.length + q.prv.length ≤ 40 := by omega
        go_wp2
        go_loop [39] (fun i => ∃ j : Nat, j ≤ 3 ∧ i = .int .i64 j ∧ ∀ X ∈ [q.pre, q.dep, q.rcm].take j, lgtC 14 10 X = true) (fun i => 3 - (intOf i).toNat)
        case atStart => exact ⟨0, Nat.zero_le _, rfl, fun X hX => by simp at hX⟩
        case round =>
          obtain ⟨j, hj, rfl, hn⟩ := hrel
          have HN2 := Lib.hid hn
          clear hn
          by_cases hlt2 : j < 3
          · obtain rfl | rfl | rfl : j = 0 ∨ j = 1 ∨ j = 2 := by omega
            · go_wp2
              · go_ret
                exact ⟨by rw [lm_fail HQ.out (lm_list (X := q.pre) (by simp) (lm_lgt (by omega)))]; rfl, by have hb0 := HB.out; (repeat (first | assumption | exact Below.refl _ _ | refine below_next ?_ (by assumption) | refine below_drewN ?_ _ | refine below_alloc ?_ _))⟩
              · go_loop [47] (fun i => ∃ m : Nat, m ≤ q.pre.length ∧ i = .int .i64 m ∧ (q.pre.take m).all (fun c => decide (c.length ≤ 10)) = true) (fun i => q.pre.length - (intOf i).toNat)
                case atStart => exact ⟨0, Nat.zero_le _, rfl, rfl⟩
                case round =>
                  obtain ⟨m, hm, rfl, hn⟩ := hrel
                  have HN3 := Lib.hid hn
                  clear hn
                  by_cases hlt3 : m < q.pre.length
                  · obtain ⟨x, b', o', A', c', hx, rfl, hA, d0⟩ := HP1.out.at_ hlt3 HKp.out
                    have HX := Lib.hid hx
                    clear hx
                    go_wp2
                    · go_ret
                      exact ⟨by rw [lm_fail HQ.out (lm_list (X := q.pre) (by simp) (lm_clause HX.out (by omega)))]; rfl, by have hb0 := HB.out; (repeat (first | assumption | exact Below.refl _ _ | refine below_next ?_ (by assumption) | refine below_drewN ?_ _ | refine below_alloc ?_ _))⟩
                    · go_round
                      case rel => exact ⟨m + 1, by omega, by simp, all_step' HX.out (by simp; omega) HN3.out⟩
                      case measure => (try simp only [intOf]); omega
                  · go_wp2
                    go_round
                    case rel => exact ⟨0 + 1, by omega, rfl, fun X hX => by
                      simp only [List.take_succ_cons, List.take_zero, List.mem_cons, List.not_mem_nil, or_false] at hX
                      have hq := all_end hm hlt3 HN3.out
                      have hl : lgtC 14 10 q.pre = true := by simp only [lgtC, hq, Bool.and_true]; simp; omega
                      have hz := HN2.out
                      simp only [List.take_succ_cons, List.take_zero, List.mem_cons, List.not_mem_nil, or_false, forall_eq_or_imp, forall_eq] at hz
                      grind⟩
                    case measure => (try simp only [intOf]); omega
            · go_wp2
              · go_ret
                exact ⟨by rw [lm_fail HQ.out (lm_list (X := q.dep) (by simp) (lm_lgt (by omega)))]; rfl, by have hb0 := HB.out; (repeat (first | assumption | exact Below.refl _ _ | refine below_next ?_ (by assumption) | refine below_drewN ?_ _ | refine below_alloc ?_ _))⟩
              · go_loop [47] (fun i => ∃ m : Nat, m ≤ q.dep.length ∧ i = .int .i64 m ∧ (q.dep.take m).all (fun c => decide (c.length ≤ 10)) = true) (fun i => q.dep.length - (intOf i).toNat)
                case atStart => exact ⟨0, Nat.zero_le _, rfl, rfl⟩
                case round =>
                  obtain ⟨m, hm, rfl, hn⟩ := hrel
                  have HN3 := Lib.hid hn
                  clear hn
                  by_cases hlt3 : m < q.dep.length
                  · obtain ⟨x, b', o', A', c', hx, rfl, hA, d0⟩ := HP2.out.at_ hlt3 HKp.out
                    have HX := Lib.hid hx
                    clear hx
                    go_wp2
                    · go_ret
                      exact ⟨by rw [lm_fail HQ.out (lm_list (X := q.dep) (by simp) (lm_clause HX.out (by omega)))]; rfl, by have hb0 := HB.out; (repeat (first | assumption | exact Below.refl _ _ | refine below_next ?_ (by assumption) | refine below_drewN ?_ _ | refine below_alloc ?_ _))⟩
                    · go_round
                      case rel => exact ⟨m + 1, by omega, by simp, all_step' HX.out (by simp; omega) HN3.out⟩
                      case measure => (try simp only [intOf]); omega
                  · go_wp2
                    go_round
                    case rel => exact ⟨1 + 1, by omega, rfl, fun X hX => by
                      simp only [List.take_succ_cons, List.take_zero, List.mem_cons, List.not_mem_nil, or_false] at hX
                      have hq := all_end hm hlt3 HN3.out
                      have hl : lgtC 14 10 q.dep = true := by simp only [lgtC, hq, Bool.and_true]; simp; omega
                      have hz := HN2.out
                      simp only [List.take_succ_cons, List.take_zero, List.mem_cons, List.not_mem_nil, or_false, forall_eq_or_imp, forall_eq] at hz
                      grind⟩
                    case measure => (try simp only [intOf]); omega
            · go_wp2
              · go_ret
                exact ⟨by rw [lm_fail HQ.out (lm_list (X := q.rcm) (by simp) (lm_lgt (by omega)))]; rfl, by have hb0 := HB.out; (repeat (first | assumption | exact Below.refl _ _ | refine below_next ?_ (by assumption) | refine below_drewN ?_ _ | refine below_alloc ?_ _))⟩
              · go_loop [47] (fun i => ∃ m : Nat, m ≤ q.rcm.length ∧ i = .int .i64 m ∧ (q.rcm.take m).all (fun c => decide (c.length ≤ 10)) = true) (fun i => q.rcm.length - (intOf i).toNat)
                case atStart => exact ⟨0, Nat.zero_le _, rfl, rfl⟩
                case round =>
                  obtain ⟨m, hm, rfl, hn⟩ := hrel
                  have HN3 := Lib.hid hn
                  clear hn
                  by_cases hlt3 : m < q.rcm.length
                  · obtain ⟨x, b', o', A', c', hx, rfl, hA, d0⟩ := HP3.out.at_ hlt3 HKp.out
                    have HX := Lib.hid hx
                    clear hx
                    go_wp2
                    · go_ret
                      exact ⟨by rw [lm_fail HQ.out (lm_list (X := q.rcm) (by simp) (lm_clause HX.out (by omega)))]; rfl, by have hb0 := HB.out; (repeat (first | assumption | exact Below.refl _ _ | refine below_next ?_ (by assumption) | refine below_drewN ?_ _ | refine below_alloc ?_ _))⟩
                    · go_round
                      case rel => exact ⟨m + 1, by omega, by simp, all_step' HX.out (by simp; omega) HN3.out⟩
                      case measure => (try simp only [intOf]); omega
                  · go_wp2
                    go_round
                    case rel => exact ⟨2 + 1, by omega, rfl, fun X hX => by
                      simp only [List.take_succ_cons, List.take_zero, List.mem_cons, List.not_mem_nil, or_false] at hX
                      have hq := all_end hm hlt3 HN3.out
                      have hl : lgtC 14 10 q.rcm = true := by simp only [lgtC, hq, Bool.and_true]; simp; omega
                      have hz := HN2.out
                      simp only [List.take_succ_cons, List.take_zero, List.mem_cons, List.not_mem_nil, or_false, forall_eq_or_imp, forall_eq] at hz
                      grind⟩
                    case measure => (try simp only [intOf]); omega
          · obtain rfl : j = 3 := by omega
            go_wp2
            go_roundw
            case rel => exact ⟨k + 1, by omega, by omega, by simp, by have hb0 := HB.out; (repeat (first | assumption | exact Below.refl _ _ | refine below_next ?_ (by assumption) | refine below_drewN ?_ _ | refine below_alloc ?_ _)), all_step' HQ.out (by
              have hz := HN2.out
              simp only [List.take_succ_cons, List.take_zero, List.mem_cons, List.not_mem_nil, or_false, forall_eq_or_imp, forall_eq] at hz
              simp [lgtP, hz.1, hz.2.1, hz.2.2]
              omega) HN.out⟩
            case measure => (try simp only [intOf]); omega
    · go_wp2
      go_ret
      refine ⟨?_, HB.out⟩
      have hq := all_end hk hlt HN.out
      rw [show lightM 26 40 14 10 l = true from by simp only [lightM, hq, Bool.and_true]; simp; omega]
      rfl
set_option maxRecDepth 100000 in
set_option maxHeartbeats 400000 in
theorem light22_any (A : Option Addr) (c : Nat) (l : List Pkg) (w : World) (hl : Pkgs w A c l) :
    Calls Tryz.prog 15 #[.slice A l.length c] w fun e w' => e = .returned (.bool (lightM 26 40 14 10 l)) ∧ Below w.heap.size w w' := by
  have hbd := hl.bd
  have HL := Lib.hid hl
  clear hl
  go_enter Tryz.func15, Tryz.ntmps15
  go_wp2
  go_loopw [11] (fun i wr => ∃ k : Nat, k ≤ l.length ∧ k ≤ 26 ∧ i = .int .i64 k ∧ Below w.heap.size w wr ∧ (l.take k).all (lgtP 40 14 10) = true) (fun i _ => l.length - (intOf i).toNat)
  case atStart => exact ⟨0, Nat.zero_le _, Nat.zero_le _, rfl, Below.refl _ _, rfl⟩
  case round =>
    obtain ⟨k, hk, hkM, rfl, hb, hn⟩ := hrel
    have HB := Lib.hid hb
    have HN := Lib.hid hn
    clear hb hn
    by_cases hlt : k < l.length
    · obtain ⟨q, b, o, r, hq, rfl, hr, e0, e1, e2, e3, e4, e5, e6, e7, e8⟩ := HL.out.at_ hlt (Kept.of_below HB.out)
      have HQ := Lib.hid hq
      rcases r with ⟨a1, a2, a3, a4, a5, a6, c1, c2, c3, c4, c5, c6⟩
      dsimp only at e2 e3 e4 e5 e6 e7
      have HP1 := Lib.hid (show Clss w a1 c1 q.pre from hr.pre)
      have HP2 := Lib.hid (show Clss w a2 c2 q.dep from hr.dep)
      have HP3 := Lib.hid (show Clss w a3 c3 q.rcm from hr.rcm)
      have hb4 := hr.con.bd
      have hb5 := hr.brk.bd
      have hb6 := hr.prv.bd
      have hb1 := hr.pre.bd
      have hb2 := hr.dep.bd
      have hb3 := hr.rcm.bd
      dsimp only at hb1 hb2 hb3 hb4 hb5 hb6
      clear hq hr
      have HKp := Lib.hid (show Kept w (wr.alloc (.cells #[.string (bs q.name), .string (bs q.ver), .slice a1 q.pre.length c1, .slice a2 q.dep.length c2, .slice a3 q.rcm.length c3, .slice a4 q.con.length c4, .slice a5 q.brk.length c5, .slice a6 q.prv.length c6, .bool q.ess] 43)) from (Kept.of_below HB.out).trans (Kept.alloc _ _))
      by_cases hM : (26 : Int) ≤ (k : Int)
      · go_wp2
        go_ret
        exact ⟨by rw [lm_long (by omega)]; rfl, by have hb0 := HB.out; (repeat (first | assumption | exact Below.refl _ _ | refine below_next ?_ (by assumption) | refine below_drewN ?_ _ | refine below_alloc ?_ _))⟩
      by_cases hsum : (40 : Int) < (q.con.length : Int) + (q.brk.length : Int) + (q.prv.length : Int)
      · go_wp2
        go_ret
        exact ⟨by rw [lm_fail HQ.out (lm_fail1 (by omega))]; rfl, by have hb0 := HB.out; (repeat (first | assumption | exact Below.refl _ _ | refine below_next ?_ (by assumption) | refine below_drewN ?_ _ | refine below_alloc ?_ _))⟩
      · have hi0 : ∀ W, (Instr.index 78 (.agg #[.slice a1 q.pre.length c1, .slice a2 q.dep.length c2, .slice a3 q.rcm.length c3]) (.int .i64 0)).run Tryz.prog W = .ok (.slice a1 q.pre.length c1) W := fun _ => by kernel_rfl
        have hi1 : ∀ W, (Instr.index 78 (.agg #[.slice a1 q.pre.length c1, .slice a2 q.dep.length c2, .slice a3 q.rcm.length c3]) (.int .i64 1)).run Tryz.prog W = .ok (.slice a2 q.dep.length c2) W := fun _ => by kernel_rfl
        have hi2 : ∀ W, (Instr.index 78 (.agg #[.slice a1 q.pre.length c1, .slice a2 q.dep.length c2, .slice a3 q.rcm.length c3]) (.int .i64 2)).run Tryz.prog W = .ok (.slice a3 q.rcm.length c3) W := fun _ => by kernel_rfl
        have hlg : q.con.length + q.brk.length + q.prv.length ≤ 40 := by omega
        go_wp2
        go_loop [39] (fun i => ∃ j : Nat, j ≤ 3 ∧ i = .int .i64 j ∧ ∀ X ∈ [q.pre, q.dep, q.rcm].take j, lgtC 14 10 X = true) (fun i => 3 - (intOf i).toNat)
        case atStart => exact ⟨0, Nat.zero_le _, rfl, fun X hX => by simp at hX⟩
        case round =>
          obtain ⟨j, hj, rfl, hn⟩ := hrel
          have HN2 := Lib.hid hn
          clear hn
          by_cases hlt2 : j < 3
          · obtain rfl | rfl | rfl : j = 0 ∨ j = 1 ∨ j = 2 := by omega
            · go_wp2
              · go_ret
                exact ⟨by rw [lm_fail HQ.out (lm_list (X := q.pre) (by simp) (lm_lgt (by omega)))]; rfl, by have hb0 := HB.out; (repeat (first | assumption | exact Below.refl _ _ | refine below_next ?_ (by assumption) | refine below_drewN ?_ _ | refine below_alloc ?_ _))⟩
              · go_loop [47] (fun i => ∃ m : Nat, m ≤ q.pre.length ∧ i = .int .i64 m ∧ (q.pre.take m).all (fun c => decide (c.length ≤ 10)) = true) (fun i => q.pre.length - (intOf i).toNat)
                case atStart => exact ⟨0, Nat.zero_le _, rfl, rfl⟩
                case round =>
                  obtain ⟨m, hm, rfl, hn⟩ := hrel
                  have HN3 := Lib.hid hn
                  clear hn
                  by_cases hlt3 : m < q.pre.length
                  · obtain ⟨x, b', o', A', c', hx, rfl, hA, d0⟩ := HP1.out.at_ hlt3 HKp.out
                    have HX := Lib.hid hx
                    clear hx
                    go_wp2
                    · go_ret
                      exact ⟨by rw [lm_fail HQ.out (lm_list (X := q.pre) (by simp) (lm_clause HX.out (by omega)))]; rfl, by have hb0 := HB.out; (repeat (first | assumption | exact Below.refl _ _ | refine below_next ?_ (by assumption) | refine below_drewN ?_ _ | refine below_alloc ?_ _))⟩
                    · go_round
                      case rel => exact ⟨m + 1, by omega, by simp, all_step' HX.out (by simp; omega) HN3.out⟩
                      case measure => (try simp only [intOf]); omega
                  · go_wp2
                    go_round
                    case rel => exact ⟨0 + 1, by omega, rfl, fun X hX => by
                      simp only [List.take_succ_cons, List.take_zero, List.mem_cons, List.not_mem_nil, or_false] at hX
                      have hq := all_end hm hlt3 HN3.out
                      have hl : lgtC 14 10 q.pre = true := by simp only [lgtC, hq, Bool.and_true]; simp; omega
                      have hz := HN2.out
                      simp only [List.take_succ_cons, List.take_zero, List.mem_cons, List.not_mem_nil, or_false, forall_eq_or_imp, forall_eq] at hz
                      grind⟩
                    case measure => (try simp only [intOf]); omega
            · go_wp2
              · go_ret
                exact ⟨by rw [lm_fail HQ.out (lm_list (X := q.dep) (by simp) (lm_lgt (by omega)))]; rfl, by have hb0 := HB.out; (repeat (first | assumption | exact Below.refl _ _ | refine below_next ?_ (by assumption) | refine below_drewN ?_ _ | refine below_alloc ?_ _))⟩
              · go_loop [47] (fun i => ∃ m : Nat, m ≤ q.dep.length ∧ i = .int .i64 m ∧ (q.dep.take m).all (fun c => decide (c.length ≤ 10)) = true) (fun i => q.dep.length - (intOf i).toNat)
                case atStart => exact ⟨0, Nat.zero_le _, rfl, rfl⟩
                case round =>
                  obtain ⟨m, hm, rfl, hn⟩ := hrel
                  have HN3 := Lib.hid hn
                  clear hn
                  by_cases hlt3 : m < q.dep.length
                  · obtain ⟨x, b', o', A', c', hx, rfl, hA, d0⟩ := HP2.out.at_ hlt3 HKp.out
                    have HX := Lib.hid hx
                    clear hx
                    go_wp2
                    · go_ret
                      exact ⟨by rw [lm_fail HQ.out (lm_list (X := q.dep) (by simp) (lm_clause HX.out (by omega)))]; rfl, by have hb0 := HB.out; (repeat (first | assumption | exact Below.refl _ _ | refine below_next ?_ (by assumption) | refine below_drewN ?_ _ | refine below_alloc ?_ _))⟩
                    · go_round
                      case rel => exact ⟨m + 1, by omega, by simp, all_step' HX.out (by simp; omega) HN3.out⟩
                      case measure => (try simp only [intOf]); omega
                  · go_wp2
                    go_round
                    case rel => exact ⟨1 + 1, by omega, rfl, fun X hX => by
                      simp only [List.take_succ_cons, List.take_zero, List.mem_cons, List.not_mem_nil, or_false] at hX
                      have hq := all_end hm hlt3 HN3.out
                      have hl : lgtC 14 10 q.dep = true := by simp only [lgtC, hq, Bool.and_true]; simp; omega
                      have hz := HN2.out
                      simp only [List.take_succ_cons, List.take_zero, List.mem_cons, List.not_mem_nil, or_false, forall_eq_or_imp, forall_eq] at hz
                      grind⟩
                    case measure => (try simp only [intOf]); omega
            · go_wp2
              · go_ret
                exact ⟨by rw [lm_fail HQ.out (lm_list (X := q.rcm) (by simp) (lm_lgt (by omega)))]; rfl, by have hb0 := HB.out; (repeat (first | assumption | exact Below.refl _ _ | refine below_next ?_ (by assumption) | refine below_drewN ?_ _ | refine below_alloc ?_ _))⟩
              · go_loop [47] (fun i => ∃ m : Nat, m ≤ q.rcm.length ∧ i = .int .i64 m ∧ (q.rcm.take m).all (fun c => decide (c.length ≤ 10)) = true) (fun i => q.rcm.length - (intOf i).toNat)
                case atStart => exact ⟨0, Nat.zero_le _, rfl, rfl⟩
                case round =>
                  obtain ⟨m, hm, rfl, hn⟩ := hrel
                  have HN3 := Lib.hid hn
                  clear hn
                  by_cases hlt3 : m < q.rcm.length
                  · obtain ⟨x, b', o', A', c', hx, rfl, hA, d0⟩ := HP3.out.at_ hlt3 HKp.out
                    have HX := Lib.hid hx
                    clear hx
                    go_wp2
                    · go_ret
                      exact ⟨by rw [lm_fail HQ.out (lm_list (X := q.rcm) (by simp) (lm_clause HX.out (by omega)))]; rfl, by have hb0 := HB.out; (repeat (first | assumption | exact Below.refl _ _ | refine below_next ?_ (by assumption) | refine below_drewN ?_ _ | refine below_alloc ?_ _))⟩
                    · go_round
                      case rel => exact ⟨m + 1, by omega, by simp, all_step' HX.out (by simp; omega) HN3.out⟩
                      case measure => (try simp only [intOf]); omega
                  · go_wp2
                    go_round
                    case rel => exact ⟨2 + 1, by omega, rfl, fun X hX => by
                      simp only [List.take_succ_cons, List.take_zero, List.mem_cons, List.not_mem_nil, or_false] at hX
                      have hq := all_end hm hlt3 HN3.out
                      have hl : lgtC 14 10 q.rcm = true := by simp only [lgtC, hq, Bool.and_true]; simp; omega
                      have hz := HN2.out
                      simp only [List.take_succ_cons, List.take_zero, List.mem_cons, List.not_mem_nil, or_false, forall_eq_or_imp, forall_eq] at hz
                      grind⟩
                    case measure => (try simp only [intOf]); omega
          · obtain rfl : j = 3 := by omega
            go_wp2
            go_roundw
            case rel => exact ⟨k + 1, by omega, by omega, by simp, by have hb0 := HB.out; (repeat (first | assumption | exact Below.refl _ _ | refine below_next ?_ (by assumption) | refine below_drewN ?_ _ | refine below_alloc ?_ _)), all_step' HQ.out (by
              have hz := HN2.out
              simp only [List.take_succ_cons, List.take_zero, List.mem_cons, List.not_mem_nil, or_false, forall_eq_or_imp, forall_eq] at hz
              simp [lgtP, hz.1, hz.2.1, hz.2.2]
              omega) HN.out⟩
            case measure => (try simp only [intOf]); omega
    · go_wp2
      go_ret
      refine ⟨?_, HB.out⟩
      have hq := all_end hk hlt HN.out
      rw [show lightM 26 40 14 10 l = true from by simp only [lightM, hq, Bool.and_true]; simp; omega]
      rfl
end Go.Proofs.YtaicidbopgnmfaaGreatDoor
namespace Go.Proofs.YtaicidbopgnmfaaGreatDoor
set_option linter.unusedSimpArgs false
set_option linter.unusedVariables false
open Go.RowKit
/-- a slice of packages is returned -/
def RetPkgs (w : World) (l : List Pkg) (e : Ending) (w' : World) : Prop := ∃ A c, e = .returned (.slice A l.length c) ∧ Pkgs w' A c l ∧ Below w.heap.size w w'
theorem infPkg : (Tryz.prog.info? 43).map (fun i => (i.zero, i.size, i.bytes)) = some (some (.agg #[.string (bs []), .string (bs []), .slice none 0 0, .slice none 0 0, .slice none 0 0, .slice none 0 0, .slice none 0 0, .slice none 0 0, .bool false]), 9, 184) := by kernel_rfl
theorem ret_pkgs {w w' : World} {B k : Nat} {v : Value} {l : List Pkg} (h : Own w' w.heap.size B 9 (RPkg w) v l) (hb : Below w.heap.size w w') (hl : l.length * 184 ≤ 140737488351232) : RetPkgs w l (.returned v) w' := by
  obtain ⟨A, c, rfl, hs⟩ := h.slc hl
  exact ⟨A, c, rfl, Slc.mono hs (Kept.refl _) (fun _ _ h => h.kept (Kept.of_below hb)), hb⟩
set_option maxRecDepth 100000 in
theorem bare17_any (A : Option Addr) (c : Nat) (l : List Ent) (w : World) (hl : Ents w A c l) :
    Calls Tryz.prog 40 #[.slice A l.length c] w (RetPkgs w (l.map Ent.pkg)) := by
  have hbd := hl.bd
  have HL := Lib.hid hl
  clear hl
  go_enter Tryz.func40, Tryz.ntmps40
  go_wp2
  go_loopw [3, 8] (fun v i wr => ∃ k : Nat, k ≤ l.length ∧ i = .int .i64 k ∧ Below w.heap.size w wr ∧ Own wr w.heap.size 43 9 (RPkg w) v ((l.take k).map Ent.pkg)) (fun _ i _ => l.length - (intOf i).toNat)
  case atStart => exact ⟨0, Nat.zero_le _, rfl, Below.refl _ _, Own.nil_ _ _ _ _ _⟩
  case round =>
    obtain ⟨k, hk, rfl, hb, ho⟩ := hrel
    have HB := Lib.hid hb
    have HO := Lib.hid ho
    clear hb ho
    by_cases hlt : k < l.length
    · obtain ⟨q, b, o, r, hq, rfl, hr, e0, e1, e2, e3, e4, e5, e6, e7, e8, e9, e10⟩ := HL.out.at_ hlt (Kept.of_below HB.out)
      have HQ := Lib.hid hq
      have hs : ((l.take k).map Ent.pkg).length = k := by simp; omega
      have HS := Lib.hid hs
      clear hq hs
      go_wp2_with (at_builtin; refine wpList_append_el (by rfl) _ _ 25 (by rfl) w.heap.size 43 _ 9 184 Tryz.underlying25 infPkg rfl (by omega) (RPkg w) _ _ (by rfl) ((HO.out.alloc _).alloc _) q.pkg (encK r q.pkg) (wr.heap.size + 1) 1 (by rfl) (blk_new2 _ _ _ _) ⟨r, rfl, hr⟩ rfl (encK_one _ _) (by rw [HS.out]; omega) (by omega) (by simp; have := HB.out.size; omega) ?_; intro g cap w1 ho1 hg1)
      have HB1 : Below w.heap.size w w1 := ((HO.out.alloc _).alloc _).below (by have hb0 := HB.out; (repeat (first | assumption | exact Below.refl _ _ | refine below_next ?_ (by assumption) | refine below_drewN ?_ _ | refine below_alloc ?_ _))) (by simp; have := HB.out.size; omega) hg1
      go_roundw
      case rel => exact ⟨k + 1, by omega, by simp, HB1, by rw [take_step HQ.out, List.map_append]; rw [HS.out] at ho1; exact ho1⟩
      case measure => (try simp only [intOf]); omega
    · go_wp2
      go_ret
      have ho := HO.out
      rw [take_end hk hlt] at ho
      exact ret_pkgs (k := 0) ho HB.out (by simp; omega)
end Go.Proofs.YtaicidbopgnmfaaGreatDoor
namespace Go.Proofs.YtaicidbopgnmfaaGreatDoor
set_option linter.unusedSimpArgs false
set_option linter.unusedVariables false
open Go.RowKit
def laterB (p q : Pkg) : Bool := (q.name == p.name) && decide (0 < (cmpV q.ver p.ver).1)
/-- how many packages of its name are later -/
def newerS (p : Pkg) (l : List Pkg) : Nat := l.countP (laterB p)
theorem count_step {α : Type} {p : α → Bool} {l : List α} {k : Nat} {q : α} (hq : l[k]? = some q) : (l.take (k + 1)).countP p = (l.take k).countP p + if p q then 1 else 0 := by
  rw [take_step hq, List.countP_append]
  simp [List.countP_cons]
theorem count_le {α : Type} (p : α → Bool) (l : List α) (k : Nat) : (l.take k).countP p ≤ k := Nat.le_trans List.countP_le_length (by simp; omega)
set_option maxRecDepth 100000 in
theorem rnewer_any (p : Pkg) (r : Raw) (A : Option Addr) (c : Nat) (l : List Pkg) (w : World) (hl : Pkgs w A c l) :
    Calls Tryz.prog 51 #[(.agg #[.string (bs (p).name), .string (bs (p).ver), .slice (r).a1 (p).pre.length (r).c1, .slice (r).a2 (p).dep.length (r).c2, .slice (r).a3 (p).rcm.length (r).c3, .slice (r).a4 (p).con.length (r).c4, .slice (r).a5 (p).brk.length (r).c5, .slice (r).a6 (p).prv.length (r).c6, .bool (p).ess]), .slice A l.length c] w fun e w' => e = .returned (.int .i64 (newerS p l)) ∧ Below w.heap.size w w' := by
  have hbd := hl.bd
  have HL := Lib.hid hl
  clear hl
  go_enter Tryz.func51, Tryz.ntmps51
  go_wp2
  go_loopw [5, 10] (fun n i wr => ∃ k : Nat, k ≤ l.length ∧ i = .int .i64 k ∧ n = .int .i64 ((l.take k).countP (laterB p) : Nat) ∧ Below w.heap.size w wr ∧ Blk wr w.heap.size 43 #[.string (bs (p).name), .string (bs (p).ver), .slice (r).a1 (p).pre.length (r).c1, .slice (r).a2 (p).dep.length (r).c2, .slice (r).a3 (p).rcm.length (r).c3, .slice (r).a4 (p).con.length (r).c4, .slice (r).a5 (p).brk.length (r).c5, .slice (r).a6 (p).prv.length (r).c6, .bool (p).ess]) (fun _ i _ => l.length - (intOf i).toNat)
  case atStart => exact ⟨0, Nat.zero_le _, rfl, rfl, (Below.refl _ _).alloc (Nat.le_refl _) _, blk_new1 _ _ _⟩
  case round =>
    obtain ⟨k, hk, rfl, rfl, hb, hB⟩ := hrel
    have hcl := count_le (laterB p) l k
    generalize hN : (l.take k).countP (laterB p) = N at hcl ⊢
    have HN := Lib.hid hN
    have HB := Lib.hid hb
    have HBk := Lib.hid hB
    obtain ⟨c0, c1, _⟩ := blk9 hB
    have hsz : w.heap.size < wr.heap.size := hB.lt
    clear hb hN hB
    by_cases hlt : k < l.length
    · obtain ⟨q, b, o, r', hq, rfl, hr, e0, e1, e2, e3, e4, e5, e6, e7, e8⟩ := HL.out.at_ hlt (Kept.of_below HB.out)
      have HQ := Lib.hid hq
      clear hq hr
      go_wp2_with (go_at_call 77; refine (rCompare_any _ _ _).mono ?_; rintro e w1 ⟨rfl, hb⟩)
      all_goals
        go_roundw
        case rel =>
          refine ⟨k + 1, by omega, by simp, ?_, by have hb0 := HB.out; (repeat (first | assumption | exact Below.refl _ _ | refine below_next ?_ (by assumption) | refine below_drewN ?_ _ | refine below_alloc ?_ _)), by (first | exact HBk.out | exact (HBk.out).alloc _ | exact ((HBk.out).alloc _).alloc _ | exact (HBk.out).next (by assumption) | exact ((HBk.out).alloc _).next (by assumption) | exact (((HBk.out).alloc _).alloc _).next (by assumption))⟩
          rw [count_step HQ.out, HN.out]
          first
            | (rw [if_pos (by unfold laterB; rw [Bool.and_eq_true]; exact ⟨by first | assumption | (rw [beq_iff_eq]; assumption), by first | assumption | exact decide_eq_true (by assumption)⟩)]; simp)
            | (rw [if_neg (by unfold laterB; rw [show (q.name == p.name) = false from by first | assumption | (rw [beq_eq_false_iff_ne]; assumption)]; simp)]; simp)
            | (rw [if_neg (by unfold laterB; rw [Bool.and_eq_true, decide_eq_true_eq]; omega)]; simp)
        case measure => (try simp only [intOf]); omega
    · rw [take_end hk hlt] at HN
      go_wp2
      go_ret
      exact ⟨by rw [newerS, HN.out]; rfl, HB.out⟩
end Go.Proofs.YtaicidbopgnmfaaGreatDoor
