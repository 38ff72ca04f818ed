/- The contracts of Within, of both texts; the law StateWithin. -/
import Derived.Test.YthgghkicdclinaaDoorStO
namespace Go.Proofs.YthgghkicdclinaaDoor
set_option linter.unusedSimpArgs false
set_option linter.unusedVariables false
open Go.RowKit

def withinS (a b : List Vio) : Bool := a.all fun x => b.any fun y => decide (x = y)
set_option maxRecDepth 100000 in
theorem idxV_any (A : Option Addr) (c : Nat) (l : List Vio) (v : Vio) (w : World) (hl : Vios w A c l) :
    Calls Tryd.prog 84 #[.slice A l.length c, (.agg #[.int .i64 (v).kind, .string (bs (v).name), .bool (v).pre, .int .i64 (v).i, .string (bs (v).other)])] w fun e w' => e = .returned (.int .i64 (idxS (fun y => decide (v = y)) l)) ∧ Below w.heap.size w w' := by
  have hbd := hl.bd
  have HL := Lib.hid hl
  clear hl
  have heql := fun y W => vio_eql v y W
  go_enter Tryd.func84, Tryd.ntmps84
  go_wp2
  go_loopw [8] (fun i wr => ∃ k : Nat, k ≤ l.length ∧ i = .int .i64 k ∧ Below w.heap.size w wr ∧ Blk wr w.heap.size 67 #[.int .i64 v.kind, .string (bs v.name), .bool v.pre, .int .i64 v.i, .string (bs v.other)] ∧ (l.take k).any (fun y => decide (v = y)) = false) (fun i _ => l.length - (intOf i).toNat)
  case atStart => exact ⟨0, Nat.zero_le _, rfl, (Below.refl _ _).alloc (Nat.le_refl _) _, blk_new1 _ _ _, rfl⟩
  case round =>
    obtain ⟨k, hk, rfl, hb, hB, hn⟩ := hrel
    have HB := Lib.hid hb
    have HN := Lib.hid hn
    have HBk := Lib.hid hB
    have c0 := hB.cell 0
    have c1 := hB.cell 1
    have c2 := hB.cell 2
    have c3 := hB.cell 3
    have c4 := hB.cell 4
    simp only [List.getElem?_toArray, List.getElem?_cons_zero, List.getElem?_cons_succ] at c0 c1 c2 c3 c4
    clear hb hn hB
    by_cases hlt : k < l.length
    · obtain ⟨q, b, o, hq, rfl, e0, e1, e2, e3, e4⟩ := HL.out.at_ hlt (Kept.of_below HB.out)
      have HQ := Lib.hid hq
      clear hq
      have hi0 : (0 : Int) ≤ (k : Int) := Int.natCast_nonneg _
      have hi1 : (k : Int) < (l.length : Int) := by omega
      go_wp2
      go_quiet (fail)
      go_wp2
      · have hd : decide (v = q) = true := by first | assumption | exact decide_eq_true (by assumption)
        go_ret
        exact ⟨by rw [idx_at HQ.out hd HN.out]; rfl, by have hb0 := HB.out; (repeat (first | assumption | exact Below.refl _ _ | refine below_next ?_ (by assumption) | refine below_drewN ?_ _ | refine below_alloc ?_ _))⟩
      · have hd : decide (v = q) = false := by first | assumption | exact decide_eq_false (by assumption)
        go_roundw
        case rel => exact ⟨k + 1, by omega, by simp, by have hb0 := HB.out; (repeat (first | assumption | exact Below.refl _ _ | refine below_next ?_ (by assumption) | refine below_drewN ?_ _ | refine below_alloc ?_ _)), HBk.out, any_step HQ.out hd HN.out⟩
        case measure => (try simp only [intOf]); omega
    · go_wp2
      go_ret
      exact ⟨by rw [idx_no (any_end hk hlt HN.out)]; rfl, HB.out⟩
set_option maxRecDepth 100000 in
theorem conV_any (A : Option Addr) (c : Nat) (l : List Vio) (v : Vio) (w : World) (hl : Vios w A c l) :
    Calls Tryd.prog 50 #[.slice A l.length c, (.agg #[.int .i64 (v).kind, .string (bs (v).name), .bool (v).pre, .int .i64 (v).i, .string (bs (v).other)])] w fun e w' => e = .returned (.bool (l.any fun y => decide (v = y))) ∧ Below w.heap.size w w' := by
  have HI := Lib.hid (idx_any (p := fun y => decide (v = y)) (l := l))
  have HL := Lib.hid hl
  clear hl
  go_enter Tryd.func50, Tryd.ntmps50
  go_wp2_with (go_at_call 84; refine (idxV_any _ _ _ v _ (HL.out.kept (Kept.alloc _ _))).mono ?_; rintro e w1 ⟨rfl, hb⟩)
  go_ret
  exact ⟨by rw [← HI.out]; rfl, by (repeat (first | assumption | exact Below.refl _ _ | refine below_next ?_ (by assumption) | refine below_drewN ?_ _ | refine below_alloc ?_ _))⟩
set_option maxRecDepth 100000 in
theorem withc_any (g : Nat) (A : Option Addr) (c : Nat) (l : List Vio) (v : Vio) (w : World) (hg : w.cell? ⟨g, 0, none⟩ = some (.slice A l.length c)) (hl : Vios w A c l) :
    Calls Tryd.prog 49 #[(.agg #[.int .i64 (v).kind, .string (bs (v).name), .bool (v).pre, .int .i64 (v).i, .string (bs (v).other)]), .pointer (some ⟨g, 0, none⟩)] w fun e w' => e = .returned (.bool (!l.any fun y => decide (v = y))) ∧ Below w.heap.size w w' := by
  have hgl : g < w.heap.size := block_lt_of_cell hg
  have HL := Lib.hid hl
  clear hl
  go_enter Tryd.func49, Tryd.ntmps49
  go_wp2_with (go_at_call 50; refine (conV_any _ _ _ v _ (HL.out.kept (Kept.alloc _ _))).mono ?_; rintro e w1 ⟨rfl, hb⟩)
  go_ret
  exact ⟨rfl, by (repeat (first | assumption | exact Below.refl _ _ | refine below_next ?_ (by assumption) | refine below_drewN ?_ _ | refine below_alloc ?_ _))⟩
set_option maxRecDepth 100000 in
theorem idxW_any (g : Nat) (A A' : Option Addr) (c c' : Nat) (l m : List Vio) (w : World) (hl : Vios w A c l) (hg : w.cell? ⟨g, 0, none⟩ = some (.slice A' m.length c')) (hm : Vios w A' c' m) :
    Calls Tryd.prog 83 #[.slice A l.length c, .func (.func 49) #[] #[.pointer (some ⟨g, 0, none⟩)]] w fun e w' => e = .returned (.int .i64 (idxS (fun v => !m.any fun y => decide (v = y)) l)) ∧ Below w.heap.size w w' := by
  have hbd := hl.bd
  have HL := Lib.hid hl
  have HG := Lib.hid hg
  have HM := Lib.hid hm
  clear hl hg hm
  go_enter Tryd.func83, Tryd.ntmps83
  go_wp2
  go_loopw [8] (fun i wr => ∃ k : Nat, k ≤ l.length ∧ i = .int .i64 k ∧ Below w.heap.size w wr ∧ (l.take k).any (fun v => !m.any fun y => decide (v = y)) = false) (fun i _ => l.length - (intOf i).toNat)
  case atStart => exact ⟨0, Nat.zero_le _, rfl, Below.refl _ _, rfl⟩
  case round =>
    obtain ⟨k, hk, rfl, hb, hn⟩ := hrel
    have HB := Lib.hid hb
    have HN := Lib.hid hn
    clear hb hn
    by_cases hlt : k < l.length
    · obtain ⟨q, b, o, hq, rfl, e0, e1, e2, e3, e4⟩ := HL.out.at_ hlt (Kept.of_below HB.out)
      have HGk := Lib.hid (Kept.of_below HB.out _ _ HG.out)
      have HMk := Lib.hid (HM.out.kept (Kept.of_below HB.out))
      have HQ := Lib.hid hq
      clear hq
      go_wp2_with (go_at_call 49; refine (withc_any _ _ _ m q _ HGk.out HMk.out).mono ?_; rintro e w1 ⟨rfl, hb⟩)
      · go_ret
        exact ⟨by rw [idx_at HQ.out (by assumption) HN.out]; rfl, by have hb0 := HB.out; (repeat (first | assumption | exact Below.refl _ _ | refine below_next ?_ (by assumption) | refine below_drewN ?_ _ | refine below_alloc ?_ _))⟩
      · go_roundw
        case rel => exact ⟨k + 1, by omega, by simp, by have hb0 := HB.out; (repeat (first | assumption | exact Below.refl _ _ | refine below_next ?_ (by assumption) | refine below_drewN ?_ _ | refine below_alloc ?_ _)), any_step HQ.out (by assumption) HN.out⟩
        case measure => (try simp only [intOf]); omega
    · go_wp2
      go_ret
      exact ⟨by rw [idx_no (any_end hk hlt HN.out)]; rfl, HB.out⟩
set_option maxRecDepth 100000 in
theorem conW_any (g : Nat) (A A' : Option Addr) (c c' : Nat) (l m : List Vio) (w : World) (hl : Vios w A c l) (hg : w.cell? ⟨g, 0, none⟩ = some (.slice A' m.length c')) (hm : Vios w A' c' m) :
    Calls Tryd.prog 48 #[.slice A l.length c, .func (.func 49) #[] #[.pointer (some ⟨g, 0, none⟩)]] w fun e w' => e = .returned (.bool (l.any fun v => !m.any fun y => decide (v = y))) ∧ Below w.heap.size w w' := by
  have HI := Lib.hid (idx_any (p := fun v => !m.any fun y => decide (v = y)) (l := l))
  go_enter Tryd.func48, Tryd.ntmps48
  go_wp2_with (go_at_call 83; refine (idxW_any _ _ _ _ _ l m _ hl hg hm).mono ?_; rintro e w1 ⟨rfl, hb⟩)
  go_ret
  exact ⟨by rw [← HI.out]; rfl, by (repeat (first | assumption | exact Below.refl _ _ | refine below_next ?_ (by assumption) | refine below_drewN ?_ _ | refine below_alloc ?_ _))⟩
theorem within_not (l m : List Vio) : (!l.any fun v => !m.any fun y => decide (v = y)) = withinS l m := by
  unfold withinS
  rw [List.all_eq_not_any_not]
set_option maxRecDepth 100000 in
theorem within_any (A A' : Option Addr) (c c' : Nat) (l m : List Vio) (w : World) (hl : Vios w A c l) (hm : Vios w A' c' m) :
    Calls Tryd.prog 19 #[.slice A l.length c, .slice A' m.length c'] w fun e w' => e = .returned (.bool (withinS l m)) ∧ Below w.heap.size w w' := by
  have hmf : ∀ (fn : Fn) (first cap : Array Value) (w : World), (Instr.makeFunc fn first cap).run Tryd.prog w = .ok (.func fn first cap) w := fun _ _ _ _ => rfl
  rw [← within_not]
  have HL := Lib.hid hl
  have HM := Lib.hid hm
  clear hl hm
  go_enter Tryd.func19, Tryd.ntmps19
  go_wp2_with (go_at_call 48; refine (conW_any _ _ _ _ _ l m _ (HL.out.kept (Kept.alloc _ _)) ((blk_new1 _ _ _).cell 0) (HM.out.kept (Kept.alloc _ _))).mono ?_; rintro e w1 ⟨rfl, hb⟩)
  go_ret
  exact ⟨rfl, by (repeat (first | assumption | exact Below.refl _ _ | refine below_next ?_ (by assumption) | refine below_drewN ?_ _ | refine below_alloc ?_ _))⟩
end Go.Proofs.YthgghkicdclinaaDoor
