/- The contract of SameWrong. The contracts of Within, of both texts; the law StateWithin. The contract of the reference's Within; the law StateWithin. -/
import Derived.Test.YtaicidbopgnmfaaGreatDoorSth
import Derived.Test.YtaicidbopgnmfaaGreatDoorStL
import Derived.Laws.StructEq
namespace Go.Proofs.YtaicidbopgnmfaaGreatDoor
set_option linter.unusedSimpArgs false
set_option linter.unusedVariables false
open Go.RowKit

theorem vio_eql (x y : Vio) (w : World) : (binOp .eql 83 (.agg #[.int .i64 x.kind, .string (bs x.name), .bool x.pre, .int .i64 x.i, .string (bs x.other)]) (.agg #[.int .i64 y.kind, .string (bs y.name), .bool y.pre, .int .i64 y.i, .string (bs y.other)])).run Tryz.prog w = .ok (.bool (decide (x = y))) w := by
  have u3 := Tryz.underlying3
  have u4 := Tryz.underlying4
  have u9 := Tryz.underlying9
  have a3 := Tryz.isAgg3
  have z3 := Tryz.sizeOf3
  have a4 := Tryz.isAgg4
  have z4 := Tryz.sizeOf4
  have a9 := Tryz.isAgg9
  have z9 := Tryz.sizeOf9
  have hS : Tryz.prog.underlying 83 = some (.struct (Tryz.prog.fieldsOf 83)) := by kernel_rfl
  have hp : Tryz.prog.stoodInHeld 83 = false := by kernel_rfl
  rw [run_eql_struct, show (10000 : Nat) = 9999 + 1 from rfl, run_equalIn_agg w 9999 83 _ _ hS hp]
  simp only [Program.fieldsOf, Tryz.underlying83]
  go_simp
  obtain ⟨a, b, c, d, e⟩ := x
  obtain ⟨a', b', c', d', e'⟩ := y
  by_cases h1 : a = a' <;> by_cases h2 : b = b' <;> by_cases h3 : c = c' <;> by_cases h4 : d = d' <;> by_cases h5 : e = e' <;> simp [h1, h2, h3, h4, h5]
theorem vio_neq (x y : Vio) (w : World) : (binOp .neq 83 (.agg #[.int .i64 x.kind, .string (bs x.name), .bool x.pre, .int .i64 x.i, .string (bs x.other)]) (.agg #[.int .i64 y.kind, .string (bs y.name), .bool y.pre, .int .i64 y.i, .string (bs y.other)])).run Tryz.prog w = .ok (.bool (!decide (x = y))) w := by
  have h := vio_eql x y w
  rw [run_eql_struct] at h
  rw [run_neq_struct]
  revert h
  generalize (Op.equalIn 10000 83 _ _).run Tryz.prog w = r
  cases r with
  | ok b w' =>
    simp only [Result.andThen_ok]
    intro h
    injection h with h1 h2
    injection h1 with h1
    rw [h1, h2]
  | halt h w' => intro h; cases h
theorem takeV_ext {α : Type} {l m : List α} {k : Nat} {x : α} (hx : l[k]? = some x) (hy : m[k]? = some x) (h : l.take k = m.take k) : l.take (k + 1) = m.take (k + 1) := by
  rw [take_step hx, take_step hy, h]
end Go.Proofs.YtaicidbopgnmfaaGreatDoor
namespace Go.Proofs.YtaicidbopgnmfaaGreatDoor
set_option linter.unusedSimpArgs false
set_option linter.unusedVariables false
open Go.RowKit

def withinS (a b : List Vio) : Bool := a.all fun x => b.any fun y => decide (x = y)
set_option maxRecDepth 100000 in
theorem idxV_any (A : Option Addr) (c : Nat) (l : List Vio) (v : Vio) (w : World) (hl : Vios w A c l) :
    Calls Tryz.prog 149 #[.slice A l.length c, (.agg #[.int .i64 (v).kind, .string (bs (v).name), .bool (v).pre, .int .i64 (v).i, .string (bs (v).other)])] w fun e w' => e = .returned (.int .i64 (idxS (fun y => decide (v = y)) l)) ∧ Below w.heap.size w w' := by
  have hbd := hl.bd
  have HL := Lib.hid hl
  clear hl
  have heql := fun y W => vio_eql v y W
  go_enter Tryz.func149, Tryz.ntmps149
  go_wp2
  go_loopw [8] (fun i wr => ∃ k : Nat, k ≤ l.length ∧ i = .int .i64 k ∧ Below w.heap.size w wr ∧ Blk wr w.heap.size 83 #[.int .i64 v.kind, .string (bs v.name), .bool v.pre, .int .i64 v.i, .string (bs v.other)] ∧ (l.take k).any (fun y => decide (v = y)) = false) (fun i _ => l.length - (intOf i).toNat)
  case atStart => exact ⟨0, Nat.zero_le _, rfl, (Below.refl _ _).alloc (Nat.le_refl _) _, blk_new1 _ _ _, rfl⟩
  case round =>
    obtain ⟨k, hk, rfl, hb, hB, hn⟩ := hrel
    have HB := Lib.hid hb
    have HN := Lib.hid hn
    have HBk := Lib.hid hB
    have c0 := hB.cell 0
    have c1 := hB.cell 1
    have c2 := hB.cell 2
    have c3 := hB.cell 3
    have c4 := hB.cell 4
    simp only [List.getElem?_toArray, List.getElem?_cons_zero, List.getElem?_cons_succ] at c0 c1 c2 c3 c4
    clear hb hn hB
    by_cases hlt : k < l.length
    · obtain ⟨q, b, o, hq, rfl, e0, e1, e2, e3, e4⟩ := HL.out.at_ hlt (Kept.of_below HB.out)
      have HQ := Lib.hid hq
      clear hq
      have hi0 : (0 : Int) ≤ (k : Int) := Int.natCast_nonneg _
      have hi1 : (k : Int) < (l.length : Int) := by omega
      go_wp2
      go_quiet (fail)
      go_wp2
      · have hd : decide (v = q) = true := by first | assumption | exact decide_eq_true (by assumption)
        go_ret
        exact ⟨by rw [idx_at HQ.out hd HN.out]; rfl, by have hb0 := HB.out; (repeat (first | assumption | exact Below.refl _ _ | refine below_next ?_ (by assumption) | refine below_drewN ?_ _ | refine below_alloc ?_ _))⟩
      · have hd : decide (v = q) = false := by first | assumption | exact decide_eq_false (by assumption)
        go_roundw
        case rel => exact ⟨k + 1, by omega, by simp, by have hb0 := HB.out; (repeat (first | assumption | exact Below.refl _ _ | refine below_next ?_ (by assumption) | refine below_drewN ?_ _ | refine below_alloc ?_ _)), HBk.out, any_step HQ.out hd HN.out⟩
        case measure => (try simp only [intOf]); omega
    · go_wp2
      go_ret
      exact ⟨by rw [idx_no (any_end hk hlt HN.out)]; rfl, HB.out⟩
set_option maxRecDepth 100000 in
theorem conV_any (A : Option Addr) (c : Nat) (l : List Vio) (v : Vio) (w : World) (hl : Vios w A c l) :
    Calls Tryz.prog 108 #[.slice A l.length c, (.agg #[.int .i64 (v).kind, .string (bs (v).name), .bool (v).pre, .int .i64 (v).i, .string (bs (v).other)])] w fun e w' => e = .returned (.bool (l.any fun y => decide (v = y))) ∧ Below w.heap.size w w' := by
  have HI := Lib.hid (idx_any (p := fun y => decide (v = y)) (l := l))
  have HL := Lib.hid hl
  clear hl
  go_enter Tryz.func108, Tryz.ntmps108
  go_wp2_with (go_at_call 149; refine (idxV_any _ _ _ v _ (HL.out.kept (Kept.alloc _ _))).mono ?_; rintro e w1 ⟨rfl, hb⟩)
  go_ret
  exact ⟨by rw [← HI.out]; rfl, by (repeat (first | assumption | exact Below.refl _ _ | refine below_next ?_ (by assumption) | refine below_drewN ?_ _ | refine below_alloc ?_ _))⟩
set_option maxRecDepth 100000 in
theorem withc_any (g : Nat) (A : Option Addr) (c : Nat) (l : List Vio) (v : Vio) (w : World) (hg : w.cell? ⟨g, 0, none⟩ = some (.slice A l.length c)) (hl : Vios w A c l) :
    Calls Tryz.prog 107 #[(.agg #[.int .i64 (v).kind, .string (bs (v).name), .bool (v).pre, .int .i64 (v).i, .string (bs (v).other)]), .pointer (some ⟨g, 0, none⟩)] w fun e w' => e = .returned (.bool (!l.any fun y => decide (v = y))) ∧ Below w.heap.size w w' := by
  have hgl : g < w.heap.size := block_lt_of_cell hg
  have HL := Lib.hid hl
  clear hl
  go_enter Tryz.func107, Tryz.ntmps107
  go_wp2_with (go_at_call 108; refine (conV_any _ _ _ v _ (HL.out.kept (Kept.alloc _ _))).mono ?_; rintro e w1 ⟨rfl, hb⟩)
  go_ret
  exact ⟨rfl, by (repeat (first | assumption | exact Below.refl _ _ | refine below_next ?_ (by assumption) | refine below_drewN ?_ _ | refine below_alloc ?_ _))⟩
set_option maxRecDepth 100000 in
theorem idxW_any (g : Nat) (A A' : Option Addr) (c c' : Nat) (l m : List Vio) (w : World) (hl : Vios w A c l) (hg : w.cell? ⟨g, 0, none⟩ = some (.slice A' m.length c')) (hm : Vios w A' c' m) :
    Calls Tryz.prog 148 #[.slice A l.length c, .func (.func 107) #[] #[.pointer (some ⟨g, 0, none⟩)]] w fun e w' => e = .returned (.int .i64 (idxS (fun v => !m.any fun y => decide (v = y)) l)) ∧ Below w.heap.size w w' := by
  have hbd := hl.bd
  have HL := Lib.hid hl
  have HG := Lib.hid hg
  have HM := Lib.hid hm
  clear hl hg hm
  go_enter Tryz.func148, Tryz.ntmps148
  go_wp2
  go_loopw [8] (fun i wr => ∃ k : Nat, k ≤ l.length ∧ i = .int .i64 k ∧ Below w.heap.size w wr ∧ (l.take k).any (fun v => !m.any fun y => decide (v = y)) = false) (fun i _ => l.length - (intOf i).toNat)
  case atStart => exact ⟨0, Nat.zero_le _, rfl, Below.refl _ _, rfl⟩
  case round =>
    obtain ⟨k, hk, rfl, hb, hn⟩ := hrel
    have HB := Lib.hid hb
    have HN := Lib.hid hn
    clear hb hn
    by_cases hlt : k < l.length
    · obtain ⟨q, b, o, hq, rfl, e0, e1, e2, e3, e4⟩ := HL.out.at_ hlt (Kept.of_below HB.out)
      have HGk := Lib.hid (Kept.of_below HB.out _ _ HG.out)
      have HMk := Lib.hid (HM.out.kept (Kept.of_below HB.out))
      have HQ := Lib.hid hq
      clear hq
      go_wp2_with (go_at_call 107; refine (withc_any _ _ _ m q _ HGk.out HMk.out).mono ?_; rintro e w1 ⟨rfl, hb⟩)
      · go_ret
        exact ⟨by rw [idx_at HQ.out (by assumption) HN.out]; rfl, by have hb0 := HB.out; (repeat (first | assumption | exact Below.refl _ _ | refine below_next ?_ (by assumption) | refine below_drewN ?_ _ | refine below_alloc ?_ _))⟩
      · go_roundw
        case rel => exact ⟨k + 1, by omega, by simp, by have hb0 := HB.out; (repeat (first | assumption | exact Below.refl _ _ | refine below_next ?_ (by assumption) | refine below_drewN ?_ _ | refine below_alloc ?_ _)), any_step HQ.out (by assumption) HN.out⟩
        case measure => (try simp only [intOf]); omega
    · go_wp2
      go_ret
      exact ⟨by rw [idx_no (any_end hk hlt HN.out)]; rfl, HB.out⟩
set_option maxRecDepth 100000 in
theorem conW_any (g : Nat) (A A' : Option Addr) (c c' : Nat) (l m : List Vio) (w : World) (hl : Vios w A c l) (hg : w.cell? ⟨g, 0, none⟩ = some (.slice A' m.length c')) (hm : Vios w A' c' m) :
    Calls Tryz.prog 106 #[.slice A l.length c, .func (.func 107) #[] #[.pointer (some ⟨g, 0, none⟩)]] w fun e w' => e = .returned (.bool (l.any fun v => !m.any fun y => decide (v = y))) ∧ Below w.heap.size w w' := by
  have HI := Lib.hid (idx_any (p := fun v => !m.any fun y => decide (v = y)) (l := l))
  go_enter Tryz.func106, Tryz.ntmps106
  go_wp2_with (go_at_call 148; refine (idxW_any _ _ _ _ _ l m _ hl hg hm).mono ?_; rintro e w1 ⟨rfl, hb⟩)
  go_ret
  exact ⟨by rw [← HI.out]; rfl, by (repeat (first | assumption | exact Below.refl _ _ | refine below_next ?_ (by assumption) | refine below_drewN ?_ _ | refine below_alloc ?_ _))⟩
theorem within_not (l m : List Vio) : (!l.any fun v => !m.any fun y => decide (v = y)) = withinS l m := by
  unfold withinS
  rw [List.all_eq_not_any_not]
set_option maxRecDepth 100000 in
theorem within_any (A A' : Option Addr) (c c' : Nat) (l m : List Vio) (w : World) (hl : Vios w A c l) (hm : Vios w A' c' m) :
    Calls Tryz.prog 58 #[.slice A l.length c, .slice A' m.length c'] w fun e w' => e = .returned (.bool (withinS l m)) ∧ Below w.heap.size w w' := by
  have hmf : ∀ (fn : Fn) (first cap : Array Value) (w : World), (Instr.makeFunc fn first cap).run Tryz.prog w = .ok (.func fn first cap) w := fun _ _ _ _ => rfl
  rw [← within_not]
  have HL := Lib.hid hl
  have HM := Lib.hid hm
  clear hl hm
  go_enter Tryz.func58, Tryz.ntmps58
  go_wp2_with (go_at_call 106; refine (conW_any _ _ _ _ _ l m _ (HL.out.kept (Kept.alloc _ _)) ((blk_new1 _ _ _).cell 0) (HM.out.kept (Kept.alloc _ _))).mono ?_; rintro e w1 ⟨rfl, hb⟩)
  go_ret
  exact ⟨rfl, by (repeat (first | assumption | exact Below.refl _ _ | refine below_next ?_ (by assumption) | refine below_drewN ?_ _ | refine below_alloc ?_ _))⟩
end Go.Proofs.YtaicidbopgnmfaaGreatDoor
namespace Go.Proofs.YtaicidbopgnmfaaGreatDoor
set_option linter.unusedSimpArgs false
set_option linter.unusedVariables false
open Go.RowKit

set_option maxRecDepth 100000 in
set_option maxHeartbeats 400000 in
theorem rwithin_any (A A' : Option Addr) (c c' : Nat) (l m : List Vio) (w : World) (hl : Vios w A c l) (hm : Vios w A' c' m) :
    Calls Tryz.prog 22 #[.slice A l.length c, .slice A' m.length c'] w fun e w' => e = .returned (.bool (withinS l m)) ∧ Below w.heap.size w w' := by
  have hbd := hl.bd
  have hbd2 := hm.bd
  have HL := Lib.hid hl
  have HM := Lib.hid hm
  clear hl hm
  go_enter Tryz.func22, Tryz.ntmps22
  go_wp2
  go_loopw [12] (fun i wr => ∃ k : Nat, k ≤ l.length ∧ i = .int .i64 k ∧ Below w.heap.size w wr ∧ withinS (l.take k) m = true) (fun i _ => l.length - (intOf i).toNat)
  case atStart => exact ⟨0, Nat.zero_le _, rfl, Below.refl _ _, rfl⟩
  case round =>
    obtain ⟨k, hk, rfl, hb, hn⟩ := hrel
    obtain ⟨wo, rfl⟩ : ∃ wo : World, wo = wr := ⟨_, rfl⟩
    have HB := Lib.hid hb
    have HN := Lib.hid hn
    clear hb hn
    by_cases hlt : k < l.length
    · obtain ⟨q, b, o, hq, rfl, e0, e1, e2, e3, e4⟩ := HL.out.at_ hlt (Kept.of_below HB.out)
      have HQ := Lib.hid hq
      clear hq
      go_wp2
      clear e0 e1 e2 e3 e4
      go_loopw [7, 18] (fun v i wr => ∃ j : Nat, j ≤ m.length ∧ i = .int .i64 j ∧ v = .bool ((m.take j).any fun y => decide (q = y)) ∧ Below wo.heap.size wo wr ∧ Blk wr wo.heap.size 83 #[.int .i64 q.kind, .string (bs q.name), .bool q.pre, .int .i64 q.i, .string (bs q.other)]) (fun _ i _ => m.length - (intOf i).toNat)
      case atStart => exact ⟨0, Nat.zero_le _, rfl, rfl, (Below.refl _ _).alloc (Nat.le_refl _) _, blk_new1 _ _ _⟩
      case round =>
        obtain ⟨j, hj, rfl, rfl, hb, hB⟩ := hrel
        have HB2 := Lib.hid hb
        have HBk := Lib.hid hB
        have hsz : wo.heap.size < wr.heap.size := hB.lt
        have c0 := hB.cell 0
        have c1 := hB.cell 1
        have c2 := hB.cell 2
        have c3 := hB.cell 3
        have c4 := hB.cell 4
        simp only [List.getElem?_toArray, List.getElem?_cons_zero, List.getElem?_cons_succ] at c0 c1 c2 c3 c4
        clear hb hB
        by_cases hltj : j < m.length
        · obtain ⟨x, b', o', hx, rfl, e0, e1, e2, e3, e4⟩ := HM.out.at_ hltj ((Kept.of_below HB.out).trans (Kept.of_below HB2.out))
          have HX := Lib.hid hx
          clear hx
          have heql := fun W => vio_eql q x W
          rcases hany : (m.take j).any fun y => decide (q = y)
          · have HANY := Lib.hid hany
            clear hany
            go_wp2
            all_goals
              go_roundw
              case rel =>
                refine ⟨j + 1, by omega, by simp, ?_, by have hb0 := HB2.out; (repeat (first | assumption | exact Below.refl _ _ | refine below_next ?_ (by assumption) | refine below_drewN ?_ _ | refine below_alloc ?_ _)), HBk.out.alloc _⟩
                rw [take_step HX.out, List.any_append, HANY.out]
                simp
              case measure => (try simp only [intOf]); omega
          · have HANY := Lib.hid hany
            clear hany
            go_wp2
            all_goals
              go_roundw
              case rel =>
                refine ⟨j + 1, by omega, by simp, ?_, by have hb0 := HB2.out; (repeat (first | assumption | exact Below.refl _ _ | refine below_next ?_ (by assumption) | refine below_drewN ?_ _ | refine below_alloc ?_ _)), HBk.out.alloc _⟩
                rw [take_step HX.out, List.any_append, HANY.out]
                simp
              case measure => (try simp only [intOf]); omega
        · rw [take_end hj hltj]
          rcases hany : m.any fun y => decide (q = y)
          · have HANY := Lib.hid hany
            clear hany
            go_wp2
            go_ret
            refine ⟨?_, below_next HB.out HB2.out⟩
            have : withinS l m = false := all_no HQ.out HANY.out
            rw [this]; rfl
          · have HANY := Lib.hid hany
            clear hany
            go_wp2
            go_roundw
            case rel => exact ⟨k + 1, by omega, by simp, below_next HB.out HB2.out, all_step' HQ.out HANY.out HN.out⟩
            case measure => (try simp only [intOf]); omega
    · go_wp2
      go_ret
      exact ⟨by rw [show withinS l m = true from all_end hk hlt HN.out]; rfl, HB.out⟩
theorem within_self (l : List Vio) : withinS l l = true := by
  unfold withinS
  rw [List.all_eq_true]
  intro x hx
  rw [List.any_eq_true]
  exact ⟨x, hx, by simp⟩
end Go.Proofs.YtaicidbopgnmfaaGreatDoor
