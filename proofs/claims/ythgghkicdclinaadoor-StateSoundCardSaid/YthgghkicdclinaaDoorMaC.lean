/- The contracts of the program's mayClauses and May. -/
import Derived.Test.YthgghkicdclinaaDoorMaA
import Derived.Test.YthgghkicdclinaaDoorStB
namespace Go.Proofs.YthgghkicdclinaaDoor
set_option linter.unusedSimpArgs false
set_option linter.unusedVariables false
open Go.RowKit

theorem clongc_any (A : Option Addr) (c : Nat) (l : List Atm) (w : World) (hl : Atms w A c l) :
    Calls Tryd.prog 138 #[.slice A l.length c] w fun e w' => e = .returned (.bool (longC l)) ∧ Below w.heap.size w w' := by
  have hbd := hl.bd
  clear hl
  go_enter Tryd.func138, Tryd.ntmps138
  go_wp2
  go_ret
  exact ⟨by simp [longC]; omega, Below.refl _ _⟩
set_option maxRecDepth 100000 in
theorem idxLC_any (A : Option Addr) (c : Nat) (l : List (List Atm)) (w : World) (hl : Clss w A c l) :
    Calls Tryd.prog 150 #[.slice A l.length c, .func (.func 138) #[] #[]] w fun e w' => e = .returned (.int .i64 (idxS longC l)) ∧ Below w.heap.size w w' := by
  have hbd := hl.bd
  have HL := Lib.hid hl
  clear hl
  go_enter Tryd.func150, Tryd.ntmps150
  go_wp2
  go_loopw [8] (fun i wr => ∃ k : Nat, k ≤ l.length ∧ i = .int .i64 k ∧ Below w.heap.size w wr ∧ (l.take k).any (longC) = false) (fun i _ => l.length - (intOf i).toNat)
  case atStart => exact ⟨0, Nat.zero_le _, rfl, Below.refl _ _, rfl⟩
  case round =>
    obtain ⟨k, hk, rfl, hb, hn⟩ := hrel
    have HB := Lib.hid hb
    have HN := Lib.hid hn
    clear hb hn
    by_cases hlt : k < l.length
    · obtain ⟨q, b, o, A', c', hq, rfl, hA, e0⟩ := HL.out.at_ hlt (Kept.of_below HB.out)
      have HA := Lib.hid (hA.kept (Kept.of_below HB.out))
      have HQ := Lib.hid hq
      clear hq
      go_wp2_with (go_at_call 138; refine (clongc_any _ _ q _ HA.out).mono ?_; rintro e w1 ⟨rfl, hb⟩)
      · go_ret
        exact ⟨by rw [idx_at HQ.out (by assumption) HN.out]; rfl, by have hb0 := HB.out; (repeat (first | assumption | exact Below.refl _ _ | refine below_next ?_ (by assumption) | refine below_drewN ?_ _ | refine below_alloc ?_ _))⟩
      · go_roundw
        case rel => exact ⟨k + 1, by omega, by simp, by have hb0 := HB.out; (repeat (first | assumption | exact Below.refl _ _ | refine below_next ?_ (by assumption) | refine below_drewN ?_ _ | refine below_alloc ?_ _)), any_step HQ.out (by assumption) HN.out⟩
        case measure => (try simp only [intOf]); omega
    · go_wp2
      go_ret
      exact ⟨by rw [idx_no (any_end hk hlt HN.out)]; rfl, HB.out⟩
set_option maxRecDepth 100000 in
theorem conLC_any (A : Option Addr) (c : Nat) (l : List (List Atm)) (w : World) (hl : Clss w A c l) :
    Calls Tryd.prog 137 #[.slice A l.length c, .func (.func 138) #[] #[]] w fun e w' => e = .returned (.bool (l.any longC)) ∧ Below w.heap.size w w' := by
  have HI := Lib.hid (idx_any (p := longC) (l := l))
  go_enter Tryd.func137, Tryd.ntmps137
  go_wp2_with (go_at_call 150; refine (idxLC_any _ _ _ _ hl).mono ?_; rintro e w1 ⟨rfl, hb⟩)
  go_ret
  exact ⟨by rw [← HI.out]; rfl, by (repeat (first | assumption | exact Below.refl _ _ | refine below_next ?_ (by assumption) | refine below_drewN ?_ _ | refine below_alloc ?_ _))⟩
def notA (a : Atm) : Bool := !mayA a
set_option maxRecDepth 100000 in
theorem cnota_any (a : Atm) (w : World) (ha : a.ok) :
    Calls Tryd.prog 139 #[(.agg #[.string (bs (a).name), .int .i64 (a).rel, .string (bs (a).ver)])] w fun e w' => e = .returned (.bool (notA a)) ∧ Below w.heap.size w w' := by
  go_enter Tryd.func139, Tryd.ntmps139
  go_wp2_with (go_at_call 90; refine (mayAtom_any a ha _).mono ?_; rintro e w1 ⟨rfl, hb⟩)
  go_ret
  exact ⟨rfl, by (repeat (first | assumption | exact Below.refl _ _ | refine below_next ?_ (by assumption) | refine below_drewN ?_ _ | refine below_alloc ?_ _))⟩
set_option maxRecDepth 100000 in
theorem idxNA_any (A : Option Addr) (c : Nat) (l : List Atm) (w : World) (hl : Atms w A c l) :
    Calls Tryd.prog 89 #[.slice A l.length c, .func (.func 139) #[] #[]] w fun e w' => e = .returned (.int .i64 (idxS notA l)) ∧ Below w.heap.size w w' := by
  have hbd := hl.bd
  have HL := Lib.hid hl
  clear hl
  go_enter Tryd.func89, Tryd.ntmps89
  go_wp2
  go_loopw [8] (fun i wr => ∃ k : Nat, k ≤ l.length ∧ i = .int .i64 k ∧ Below w.heap.size w wr ∧ (l.take k).any (notA) = false) (fun i _ => l.length - (intOf i).toNat)
  case atStart => exact ⟨0, Nat.zero_le _, rfl, Below.refl _ _, rfl⟩
  case round =>
    obtain ⟨k, hk, rfl, hb, hn⟩ := hrel
    have HB := Lib.hid hb
    have HN := Lib.hid hn
    clear hb hn
    by_cases hlt : k < l.length
    · obtain ⟨q, b, o, hq, rfl, hok, e0, e1, e2⟩ := HL.out.at_ hlt (Kept.of_below HB.out)
      have HQ := Lib.hid hq
      clear hq
      go_wp2_with (go_at_call 139; refine (cnota_any q _ hok).mono ?_; rintro e w1 ⟨rfl, hb⟩)
      · go_ret
        exact ⟨by rw [idx_at HQ.out (by assumption) HN.out]; rfl, by have hb0 := HB.out; (repeat (first | assumption | exact Below.refl _ _ | refine below_next ?_ (by assumption) | refine below_drewN ?_ _ | refine below_alloc ?_ _))⟩
      · go_roundw
        case rel => exact ⟨k + 1, by omega, by simp, by have hb0 := HB.out; (repeat (first | assumption | exact Below.refl _ _ | refine below_next ?_ (by assumption) | refine below_drewN ?_ _ | refine below_alloc ?_ _)), any_step HQ.out (by assumption) HN.out⟩
        case measure => (try simp only [intOf]); omega
    · go_wp2
      go_ret
      exact ⟨by rw [idx_no (any_end hk hlt HN.out)]; rfl, HB.out⟩
set_option maxRecDepth 100000 in
theorem conNA_any (A : Option Addr) (c : Nat) (l : List Atm) (w : World) (hl : Atms w A c l) :
    Calls Tryd.prog 55 #[.slice A l.length c, .func (.func 139) #[] #[]] w fun e w' => e = .returned (.bool (l.any notA)) ∧ Below w.heap.size w w' := by
  have HI := Lib.hid (idx_any (p := notA) (l := l))
  go_enter Tryd.func55, Tryd.ntmps55
  go_wp2_with (go_at_call 89; refine (idxNA_any _ _ _ _ hl).mono ?_; rintro e w1 ⟨rfl, hb⟩)
  go_ret
  exact ⟨by rw [← HI.out]; rfl, by (repeat (first | assumption | exact Below.refl _ _ | refine below_next ?_ (by assumption) | refine below_drewN ?_ _ | refine below_alloc ?_ _))⟩
theorem badC_eq (c : List Atm) : badC c = (decide (c.length = 0) || c.any notA) := rfl
theorem clsE_many {l : List (List Atm)} (h : l.any longC = true) : clsE l = 12 := by simp [clsE, h]
theorem clsE_bad {l : List (List Atm)} (h1 : l.length ≤ 12) (h2 : l.any longC = false) (h3 : l.any badC = true) : clsE l = 3 := by
  unfold clsE
  rw [h2, h3]
  simp; omega
theorem clsE_ok {l : List (List Atm)} (h1 : l.length ≤ 12) (h2 : l.any longC = false) (h3 : l.any badC = false) : clsE l = 0 := by
  unfold clsE
  rw [h2, h3]
  simp; omega
set_option maxRecDepth 100000 in
set_option maxHeartbeats 400000 in
theorem mayCls_any (A : Option Addr) (c k0 : Nat) (l : List (List Atm)) (hk0 : l.length = k0) (w : World) (hl : Clss w A c l) :
    Calls Tryd.prog 101 #[.slice A k0 c] w fun e w' => e = .returned (.int .i64 (clsE l)) ∧ Below w.heap.size w w' := by
  subst hk0
  have hbd := hl.bd
  have HL := Lib.hid hl
  clear hl
  by_cases h12 : (12 : Int) < (l.length : Int)
  · go_enter Tryd.func101, Tryd.ntmps101
    go_wp2
    go_ret
    exact ⟨by rw [clsE_long (by omega)]; rfl, Below.refl _ _⟩
  · rcases hlg : l.any longC
    · have HLG := Lib.hid hlg
      clear hlg
      go_enter Tryd.func101, Tryd.ntmps101
      go_wp2_with fail
      refine (conLC_any _ _ l _ HL.out).mono ?_
      rintro e w1 ⟨rfl, hb1⟩
      rw [HLG.out]
      have HB1 := Lib.hid hb1
      clear hb1
      go_wp2
      go_loopw [14] (fun i wr => ∃ k : Nat, k ≤ l.length ∧ i = .int .i64 k ∧ Below w.heap.size w wr ∧ (l.take k).any badC = false) (fun i _ => l.length - (intOf i).toNat)
      case atStart => exact ⟨0, Nat.zero_le _, rfl, HB1.out, rfl⟩
      case round =>
        obtain ⟨k, hk, rfl, hb, hn⟩ := hrel
        have HB := Lib.hid hb
        have HN := Lib.hid hn
        clear hb hn
        by_cases hlt : k < l.length
        · obtain ⟨q, b, o, A', c', hq, rfl, hA, e0⟩ := HL.out.at_ hlt (Kept.of_below HB.out)
          have HQ := Lib.hid hq
          have HA := Lib.hid (hA.kept (Kept.of_below HB.out))
          clear hq hA
          by_cases h0 : q = []
          · have hbd0 : badC q = true := by simp [badC, h0]
            have HBD := Lib.hid hbd0
            clear hbd0
            subst h0
            go_wp2
            go_ret
            exact ⟨by rw [clsE_bad (by omega) HLG.out (any_yes HQ.out HBD.out)]; rfl, HB.out⟩
          · have hl0 : 0 < q.length := by rcases q with _ | ⟨_, _⟩ <;> simp at h0 ⊢
            have z1 : ((q.length : Int) == 0) = false := by rw [beq_eq_false_iff_ne]; omega
            rcases hna : q.any notA
            · have HNA := Lib.hid hna
              clear hna
              go_wp2_with fail
              refine (conNA_any _ _ q _ HA.out).mono ?_
              rintro e w2 ⟨rfl, hb2⟩
              rw [HNA.out]
              go_wp2
              go_roundw
              case rel => exact ⟨k + 1, by omega, by simp, by have hb0 := HB.out; (repeat (first | assumption | exact Below.refl _ _ | refine below_next ?_ (by assumption) | refine below_drewN ?_ _ | refine below_alloc ?_ _)), any_step HQ.out (by rw [badC_eq, HNA.out]; simp; omega) HN.out⟩
              case measure => (try simp only [intOf]); omega
            · have HNA := Lib.hid hna
              clear hna
              go_wp2_with fail
              refine (conNA_any _ _ q _ HA.out).mono ?_
              rintro e w2 ⟨rfl, hb2⟩
              rw [HNA.out]
              go_wp2
              go_ret
              exact ⟨by rw [clsE_bad (by omega) HLG.out (any_yes HQ.out (by rw [badC_eq, HNA.out]; simp))]; rfl, by have hb0 := HB.out; (repeat (first | assumption | exact Below.refl _ _ | refine below_next ?_ (by assumption) | refine below_drewN ?_ _ | refine below_alloc ?_ _))⟩
        · go_wp2
          go_ret
          exact ⟨by rw [clsE_ok (by omega) HLG.out (any_end hk hlt HN.out)]; rfl, HB.out⟩
    · have HLG := Lib.hid hlg
      clear hlg
      go_enter Tryd.func101, Tryd.ntmps101
      go_wp2_with fail
      refine (conLC_any _ _ l _ HL.out).mono ?_
      rintro e w1 ⟨rfl, hb1⟩
      rw [HLG.out]
      go_wp2
      go_ret
      exact ⟨by rw [clsE_many HLG.out]; rfl, hb1⟩
end Go.Proofs.YthgghkicdclinaaDoor
