/- The contract of the reference's Within; the law StateWithin. -/
import Derived.Test.YthgghkicdclinaaDoorStP
namespace Go.Proofs.YthgghkicdclinaaDoor
set_option linter.unusedSimpArgs false
set_option linter.unusedVariables false
open Go.RowKit

set_option maxRecDepth 100000 in
set_option maxHeartbeats 400000 in
theorem rwithin_any (A A' : Option Addr) (c c' : Nat) (l m : List Vio) (w : World) (hl : Vios w A c l) (hm : Vios w A' c' m) :
    Calls Tryd.prog 20 #[.slice A l.length c, .slice A' m.length c'] w fun e w' => e = .returned (.bool (withinS l m)) ∧ Below w.heap.size w w' := by
  have hbd := hl.bd
  have hbd2 := hm.bd
  have HL := Lib.hid hl
  have HM := Lib.hid hm
  clear hl hm
  go_enter Tryd.func20, Tryd.ntmps20
  go_wp2
  go_loopw [12] (fun i wr => ∃ k : Nat, k ≤ l.length ∧ i = .int .i64 k ∧ Below w.heap.size w wr ∧ withinS (l.take k) m = true) (fun i _ => l.length - (intOf i).toNat)
  case atStart => exact ⟨0, Nat.zero_le _, rfl, Below.refl _ _, rfl⟩
  case round =>
    obtain ⟨k, hk, rfl, hb, hn⟩ := hrel
    obtain ⟨wo, rfl⟩ : ∃ wo : World, wo = wr := ⟨_, rfl⟩
    have HB := Lib.hid hb
    have HN := Lib.hid hn
    clear hb hn
    by_cases hlt : k < l.length
    · obtain ⟨q, b, o, hq, rfl, e0, e1, e2, e3, e4⟩ := HL.out.at_ hlt (Kept.of_below HB.out)
      have HQ := Lib.hid hq
      clear hq
      go_wp2
      clear e0 e1 e2 e3 e4
      go_loopw [7, 18] (fun v i wr => ∃ j : Nat, j ≤ m.length ∧ i = .int .i64 j ∧ v = .bool ((m.take j).any fun y => decide (q = y)) ∧ Below wo.heap.size wo wr ∧ Blk wr wo.heap.size 67 #[.int .i64 q.kind, .string (bs q.name), .bool q.pre, .int .i64 q.i, .string (bs q.other)]) (fun _ i _ => m.length - (intOf i).toNat)
      case atStart => exact ⟨0, Nat.zero_le _, rfl, rfl, (Below.refl _ _).alloc (Nat.le_refl _) _, blk_new1 _ _ _⟩
      case round =>
        obtain ⟨j, hj, rfl, rfl, hb, hB⟩ := hrel
        have HB2 := Lib.hid hb
        have HBk := Lib.hid hB
        have hsz : wo.heap.size < wr.heap.size := hB.lt
        have c0 := hB.cell 0
        have c1 := hB.cell 1
        have c2 := hB.cell 2
        have c3 := hB.cell 3
        have c4 := hB.cell 4
        simp only [List.getElem?_toArray, List.getElem?_cons_zero, List.getElem?_cons_succ] at c0 c1 c2 c3 c4
        clear hb hB
        by_cases hltj : j < m.length
        · obtain ⟨x, b', o', hx, rfl, e0, e1, e2, e3, e4⟩ := HM.out.at_ hltj ((Kept.of_below HB.out).trans (Kept.of_below HB2.out))
          have HX := Lib.hid hx
          clear hx
          have heql := fun W => vio_eql q x W
          rcases hany : (m.take j).any fun y => decide (q = y)
          · have HANY := Lib.hid hany
            clear hany
            go_wp2
            all_goals
              go_roundw
              case rel =>
                refine ⟨j + 1, by omega, by simp, ?_, by have hb0 := HB2.out; (repeat (first | assumption | exact Below.refl _ _ | refine below_next ?_ (by assumption) | refine below_drewN ?_ _ | refine below_alloc ?_ _)), HBk.out.alloc _⟩
                rw [take_step HX.out, List.any_append, HANY.out]
                simp
              case measure => (try simp only [intOf]); omega
          · have HANY := Lib.hid hany
            clear hany
            go_wp2
            all_goals
              go_roundw
              case rel =>
                refine ⟨j + 1, by omega, by simp, ?_, by have hb0 := HB2.out; (repeat (first | assumption | exact Below.refl _ _ | refine below_next ?_ (by assumption) | refine below_drewN ?_ _ | refine below_alloc ?_ _)), HBk.out.alloc _⟩
                rw [take_step HX.out, List.any_append, HANY.out]
                simp
              case measure => (try simp only [intOf]); omega
        · rw [take_end hj hltj]
          rcases hany : m.any fun y => decide (q = y)
          · have HANY := Lib.hid hany
            clear hany
            go_wp2
            go_ret
            refine ⟨?_, below_next HB.out HB2.out⟩
            have : withinS l m = false := all_no HQ.out HANY.out
            rw [this]; rfl
          · have HANY := Lib.hid hany
            clear hany
            go_wp2
            go_roundw
            case rel => exact ⟨k + 1, by omega, by simp, below_next HB.out HB2.out, all_step' HQ.out HANY.out HN.out⟩
            case measure => (try simp only [intOf]); omega
    · go_wp2
      go_ret
      exact ⟨by rw [show withinS l m = true from all_end hk hlt HN.out]; rfl, HB.out⟩
theorem within_self (l : List Vio) : withinS l l = true := by
  unfold withinS
  rw [List.all_eq_true]
  intro x hx
  rw [List.any_eq_true]
  exact ⟨x, hx, by simp⟩
set_option maxRecDepth 100000 in
set_option maxHeartbeats 400000 in
theorem law_within (A : Option Addr) (c : Nat) (l : List Vio) (A' : Option Addr) (c' : Nat) (m : List Vio) (w : World) (hl : Vios w A c l) (hm : Vios w A' c' m) :
    Calls Tryd.prog 4 #[.slice A l.length c, .slice A' m.length c'] w fun e w' => e = .returned (.bool true) ∧ Below w.heap.size w w' := by
  have HL := Lib.hid hl
  have HM := Lib.hid hm
  clear hl hm
  by_cases h1 : (100 : Int) < (l.length : Int)
  · go_enter Tryd.func4, Tryd.ntmps4
    go_wp2
    go_ret
    exact ⟨rfl, Below.refl _ _⟩
  by_cases h2 : (100 : Int) < (m.length : Int)
  · go_enter Tryd.func4, Tryd.ntmps4
    go_wp2
    go_ret
    exact ⟨rfl, Below.refl _ _⟩
  go_enter Tryd.func4, Tryd.ntmps4
  go_wp2_with fail
  refine (within_any _ _ _ _ l m _ HL.out HM.out).mono ?_
  rintro e w1 ⟨rfl, hb1⟩
  go_wp2_with fail
  refine (rwithin_any _ _ _ _ l m _ (HL.out.kept (by (repeat (first | assumption | exact Kept.refl _ | exact Kept.of_below (by assumption) | refine Kept.trans ?_ (Kept.alloc _ _) | refine Kept.trans ?_ (Kept.drewN _ _) | refine Kept.trans ?_ (Kept.of_below (by assumption)))))) (HM.out.kept (by (repeat (first | assumption | exact Kept.refl _ | exact Kept.of_below (by assumption) | refine Kept.trans ?_ (Kept.alloc _ _) | refine Kept.trans ?_ (Kept.drewN _ _) | refine Kept.trans ?_ (Kept.of_below (by assumption))))))).mono ?_
  rintro e w2 ⟨rfl, hb2⟩
  have heq : (withinS l m == withinS l m) = true := by simp
  go_wp2_with fail
  refine (within_any _ _ _ _ l l _ (HL.out.kept (by (repeat (first | assumption | exact Kept.refl _ | exact Kept.of_below (by assumption) | refine Kept.trans ?_ (Kept.alloc _ _) | refine Kept.trans ?_ (Kept.drewN _ _) | refine Kept.trans ?_ (Kept.of_below (by assumption)))))) (HL.out.kept (by (repeat (first | assumption | exact Kept.refl _ | exact Kept.of_below (by assumption) | refine Kept.trans ?_ (Kept.alloc _ _) | refine Kept.trans ?_ (Kept.drewN _ _) | refine Kept.trans ?_ (Kept.of_below (by assumption))))))).mono ?_
  rintro e w3 ⟨rfl, hb3⟩
  rw [within_self]
  go_wp2_with fail
  refine (within_any none _ 0 _ [] m _ (Slc.nil_ (Nat.zero_le _)) (HM.out.kept (by (repeat (first | assumption | exact Kept.refl _ | exact Kept.of_below (by assumption) | refine Kept.trans ?_ (Kept.alloc _ _) | refine Kept.trans ?_ (Kept.drewN _ _) | refine Kept.trans ?_ (Kept.of_below (by assumption))))))).mono ?_
  rintro e w4 ⟨rfl, hb4⟩
  rw [show withinS [] m = true from rfl]
  go_wp2_with fail
  refine (awake_any _).mono ?_
  rintro e w5 ⟨rfl, hb5⟩
  go_wp2
  go_ret
  exact ⟨rfl, by (repeat (first | assumption | exact Below.refl _ _ | refine below_next ?_ (by assumption) | refine below_drewN ?_ _ | refine below_alloc ?_ _))⟩
end Go.Proofs.YthgghkicdclinaaDoor
