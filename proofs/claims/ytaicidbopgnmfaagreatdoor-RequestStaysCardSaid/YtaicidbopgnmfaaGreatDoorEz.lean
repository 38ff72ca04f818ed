/- state.Sorted: its contract. An entry by its name: the contracts of the reference's Find and of state.Find. The contracts of the reference's SameAtoms, SameProvides, SameClauses. The contract of the reference's Same (packages). The contract of record.Same (packages). Are two rows of entries the same: the contracts of the reference's SameEntries and of state.Same. Packages as a whole: the contracts of state.Whole and of the reference's Whole. A slice over a block that is known whole; one entry as a slice. -/
import Derived.Test.YtaicidbopgnmfaaGreatDoorEwB
import Derived.Test.YtaicidbopgnmfaaGreatDoorEy
import Derived.Test.YtaicidbopgnmfaaGreatDoorSq2
import Derived.Test.YtaicidbopgnmfaaGreatDoorVw
import Derived.Test.YtaicidbopgnmfaaGreatDoorMk
import Derived.Test.YtaicidbopgnmfaaGreatDoorWa
import Derived.Laws.StructEq
import Derived.Deep.RegionHeld3
namespace Go.Proofs.YtaicidbopgnmfaaGreatDoor
set_option linter.unusedSimpArgs false
set_option linter.unusedVariables false
open Go.RowKit
attribute [local go_sem ↓] Go.wp_at_zero Go.wp_at_succ

set_option maxRecDepth 100000 in
theorem ecmp_any (x y : Ent) (r s : Raw) (w : World) :
    Calls Tryz.prog 117 #[(.agg #[.string (bs (x).pkg.name), .string (bs (x).pkg.ver), .slice (r).a1 (x).pkg.pre.length (r).c1, .slice (r).a2 (x).pkg.dep.length (r).c2, .slice (r).a3 (x).pkg.rcm.length (r).c3, .slice (r).a4 (x).pkg.con.length (r).c4, .slice (r).a5 (x).pkg.brk.length (r).c5, .slice (r).a6 (x).pkg.prv.length (r).c6, .bool (x).pkg.ess, .bool (x).conf, .bool (x).hold]), (.agg #[.string (bs (y).pkg.name), .string (bs (y).pkg.ver), .slice (s).a1 (y).pkg.pre.length (s).c1, .slice (s).a2 (y).pkg.dep.length (s).c2, .slice (s).a3 (y).pkg.rcm.length (s).c3, .slice (s).a4 (y).pkg.con.length (s).c4, .slice (s).a5 (y).pkg.brk.length (s).c5, .slice (s).a6 (y).pkg.prv.length (s).c6, .bool (y).pkg.ess, .bool (y).conf, .bool (y).hold])] w fun e w' => e = .returned (.int .i64 (cmpB x.pkg.name y.pkg.name)) ∧ Below w.heap.size w w' := by
  go_enter Tryz.func117, Tryz.ntmps117
  go_wp2_with (go_at_call 70; refine (compareStr_any _ _ _).mono ?_; rintro e w3 ⟨rfl, rfl⟩)
  go_ret
  exact ⟨rfl, by (repeat (first | assumption | exact Below.refl _ _ | refine below_next ?_ (by assumption) | refine below_drewN ?_ _ | refine below_alloc ?_ _))⟩
theorem ecmp_ok (Z : Raw → Ent → Prop) : CmpOkE 117 Z eCmp := fun x y r s W _ _ => ecmp_any x y r s W
/-- what an element of the row is -/
def RZE (w : World) (r : Raw) (x : Ent) : Prop := RP (flt TB w) r x.pkg
theorem RZE.keep {w w' : World} {r : Raw} {x : Ent} (h : RZE w r x) (hk : KeepB (fun t => TB t = true) w w') : RZE w' r x := h.fkeep hk
theorem RKE.mono {Z Z' : Raw → Ent → Prop} (h : ∀ r p, Z r p → Z' r p) : ∀ cs x, RKE Z cs x → RKE Z' cs x := fun _ _ ⟨r, h1, h2⟩ => ⟨r, h1, h _ _ h2⟩
theorem infEnS : (Tryz.prog.info? 45).map (fun i => (i.zero, i.size, i.bytes)) = some (some (.agg #[.string (bs []), .string (bs []), .slice none 0 0, .slice none 0 0, .slice none 0 0, .slice none 0 0, .slice none 0 0, .slice none 0 0, .bool false, .bool false, .bool false]), 11, 192) := by kernel_rfl
theorem ne_own {W w2 : World} {B : Nat} {v : Value} {l : List Ent} (ho : Own W B 45 11 (RKE (RZE W)) v l) (hb2 : Below W.heap.size W w2) (o : Obj) : Own (w2.alloc o) B 45 11 (RKE (RZE (w2.alloc o))) v l :=
  ((ho.next hb2).alloc o).mono (RKE.mono fun _ _ h => h.keep ((KeepB.of_below hb2).trans (KeepB.alloc o)))
theorem ne_alloc {W : World} {B : Nat} {v : Value} {l : List Ent} (ho : Own W B 45 11 (RKE (RZE W)) v l) (o : Obj) : Own (W.alloc o) B 45 11 (RKE (RZE (W.alloc o))) v l :=
  (ho.alloc o).mono (RKE.mono fun _ _ h => h.keep (KeepB.alloc o))
/-- a row of entries in memory of its own -/
def RetEntsF (w : World) (s : List Ent) (e : Ending) (w' : World) : Prop := ∃ v, e = .returned v ∧ Own w' w.heap.size 45 11 (RKE (RZE w')) v s ∧ Below w.heap.size w w'
def RetEnts (w : World) (s : List Ent) (e : Ending) (w' : World) : Prop := ∃ A c, e = .returned (.slice A s.length c) ∧ Ents w' A c s ∧ Below w.heap.size w w'
theorem RetEntsF.ents {w w' : World} {s : List Ent} {e : Ending} (h : RetEntsF w s e w') (hz : s.length * 192 ≤ 140737488351232) : RetEnts w s e w' := by
  obtain ⟨v, rfl, h1, h2⟩ := h
  obtain ⟨A, c, rfl, h3⟩ := h1.slc (z := 192) hz
  exact ⟨A, c, rfl, Slc.mono h3 (Kept.refl _) fun cs x ⟨r, e1, e2⟩ => ⟨r, e1, e2.kept (Kept.flt TB _)⟩, h2⟩
theorem sortedE_row {wo w5 : World} {B g n cap : Nat} {l s : List Ent} (h : Own w5 B 45 11 (RKE (RZE wo)) (.slice (some ⟨g, 0, none⟩) n cap) s) (hk : KeepB (fun t => TB t = true) wo w5) : Own w5 B 45 11 (RKE (RZE w5)) (.slice (some ⟨g, 0, none⟩) n cap) s :=
  h.mono (RKE.mono fun _ _ h => RZE.keep h hk)
set_option maxRecDepth 100000 in
set_option maxHeartbeats 4000000 in
theorem sortedE_any (A : Option Addr) (c : Nat) (l : List Ent) (w : World) (hl : Ents w A c l) (hf : ∀ x ∈ l, fewOE x.pkg) (hn : l.length ≤ 1000) :
    Calls Tryz.prog 63 #[.slice A l.length c] w (RetEntsF w (srt eLt l)) := by
  have hbd := hl.bd
  have HL := Lib.hid hl
  have HF := Lib.hid hf
  clear hl hf
  go_enter Tryz.func63, Tryz.ntmps63
  go_wp2
  go_loopw [3, 8] (fun v i wr => ∃ k : Nat, k ≤ l.length ∧ i = .int .i64 k ∧ Below w.heap.size w wr ∧ Own wr w.heap.size 45 11 (RKE (RZE wr)) v (l.take k)) (fun _ i _ => l.length - (intOf i).toNat)
  case atStart => exact ⟨0, Nat.zero_le _, rfl, Below.refl _ _, Own.nil_ _ _ _ _ _⟩
  case round =>
    obtain ⟨k, hk, rfl, hb, ho⟩ := hrel
    obtain ⟨wo, rfl⟩ : ∃ wo : World, wo = wr := ⟨_, rfl⟩
    have HB := Lib.hid hb
    have HO := Lib.hid ho
    clear hb ho
    by_cases hlt : k < l.length
    · obtain ⟨q, b, o, r, hq, rfl, hr, e0, e1, e2, e3, e4, e5, e6, e7, e8, e9, e10⟩ := HL.out.at_ hlt (Kept.of_below HB.out)
      have HQ := Lib.hid hq
      have HR := Lib.hid hr
      have HFq := Lib.hid (HF.out q (List.mem_of_getElem? hq))
      have HS := Lib.hid (show (l.take k).length = k by simp; omega)
      clear hq hr
      go_wp2_with fail
      have HKW := Lib.hid ((Kept.of_below HB.out).trans (Kept.alloc wo (.cells #[.string (bs (q).pkg.name), .string (bs (q).pkg.ver), .slice (r).a1 (q).pkg.pre.length (r).c1, .slice (r).a2 (q).pkg.dep.length (r).c2, .slice (r).a3 (q).pkg.rcm.length (r).c3, .slice (r).a4 (q).pkg.con.length (r).c4, .slice (r).a5 (q).pkg.brk.length (r).c5, .slice (r).a6 (q).pkg.prv.length (r).c6, .bool (q).pkg.ess, .bool (q).conf, .bool (q).hold] 45)))
      have HBW := Lib.hid (below_alloc HB.out (.cells #[.string (bs (q).pkg.name), .string (bs (q).pkg.ver), .slice (r).a1 (q).pkg.pre.length (r).c1, .slice (r).a2 (q).pkg.dep.length (r).c2, .slice (r).a3 (q).pkg.rcm.length (r).c3, .slice (r).a4 (q).pkg.con.length (r).c4, .slice (r).a5 (q).pkg.brk.length (r).c5, .slice (r).a6 (q).pkg.prv.length (r).c6, .bool (q).pkg.ess, .bool (q).conf, .bool (q).hold] 45))
      have HOW := Lib.hid (ne_alloc HO.out (.cells #[.string (bs (q).pkg.name), .string (bs (q).pkg.ver), .slice (r).a1 (q).pkg.pre.length (r).c1, .slice (r).a2 (q).pkg.dep.length (r).c2, .slice (r).a3 (q).pkg.rcm.length (r).c3, .slice (r).a4 (q).pkg.con.length (r).c4, .slice (r).a5 (q).pkg.brk.length (r).c5, .slice (r).a6 (q).pkg.prv.length (r).c6, .bool (q).pkg.ess, .bool (q).conf, .bool (q).hold] 45))
      clear e0 e1 e2 e3 e4 e5 e6 e7 e8 e9 e10
      refine (ownE_any q r _ (HR.out.kept HKW.out) HFq.out).mono ?_
      rintro e w2 ⟨r2, rfl, hr2, hb2⟩
      have HO2 := Lib.hid (ne_own HOW.out hb2 (.cells #[.string (bs (q).pkg.name), .string (bs (q).pkg.ver), .slice (r2).a1 (q).pkg.pre.length (r2).c1, .slice (r2).a2 (q).pkg.dep.length (r2).c2, .slice (r2).a3 (q).pkg.rcm.length (r2).c3, .slice (r2).a4 (q).pkg.con.length (r2).c4, .slice (r2).a5 (q).pkg.brk.length (r2).c5, .slice (r2).a6 (q).pkg.prv.length (r2).c6, .bool (q).pkg.ess, .bool (q).conf, .bool (q).hold] 45))
      have HZ2 := Lib.hid (show RZE (w2.alloc (.cells #[.string (bs (q).pkg.name), .string (bs (q).pkg.ver), .slice (r2).a1 (q).pkg.pre.length (r2).c1, .slice (r2).a2 (q).pkg.dep.length (r2).c2, .slice (r2).a3 (q).pkg.rcm.length (r2).c3, .slice (r2).a4 (q).pkg.con.length (r2).c4, .slice (r2).a5 (q).pkg.brk.length (r2).c5, .slice (r2).a6 (q).pkg.prv.length (r2).c6, .bool (q).pkg.ess, .bool (q).conf, .bool (q).hold] 45)) r2 q from hr2.fkeep (KeepB.alloc _))
      have HB2 := Lib.hid (below_alloc (below_next HBW.out hb2) (.cells #[.string (bs (q).pkg.name), .string (bs (q).pkg.ver), .slice (r2).a1 (q).pkg.pre.length (r2).c1, .slice (r2).a2 (q).pkg.dep.length (r2).c2, .slice (r2).a3 (q).pkg.rcm.length (r2).c3, .slice (r2).a4 (q).pkg.con.length (r2).c4, .slice (r2).a5 (q).pkg.brk.length (r2).c5, .slice (r2).a6 (q).pkg.prv.length (r2).c6, .bool (q).pkg.ess, .bool (q).conf, .bool (q).hold] 45))
      clear hr2 hb2 HB HO
      go_wp2_with (at_builtin; refine wpList_append_el (by rfl) _ _ 22 (by rfl) w.heap.size 45 _ 11 192 Tryz.underlying22 infEnS rfl (by omega) (RKE (RZE (w2.alloc (.cells #[.string (bs (q).pkg.name), .string (bs (q).pkg.ver), .slice (r2).a1 (q).pkg.pre.length (r2).c1, .slice (r2).a2 (q).pkg.dep.length (r2).c2, .slice (r2).a3 (q).pkg.rcm.length (r2).c3, .slice (r2).a4 (q).pkg.con.length (r2).c4, .slice (r2).a5 (q).pkg.brk.length (r2).c5, .slice (r2).a6 (q).pkg.prv.length (r2).c6, .bool (q).pkg.ess, .bool (q).conf, .bool (q).hold] 45)))) _ _ (by rfl) HO2.out q (encE r2 q) w2.heap.size 1 (by rfl) (blk_new1 _ _ _) ⟨r2, rfl, HZ2.out⟩ rfl (encE_one _ _) (by rw [HS.out]; omega) (by omega) HB2.out.size ?_; intro g cap w4 ho4 hg4)
      have hb4 := HO2.out.below HB2.out HB2.out.size hg4
      have hk4 := HO2.out.keep (T := fun t => TB t = true) hg4 (by decide)
      go_roundw
      case rel => exact ⟨k + 1, by omega, by simp, hb4, by rw [take_step HQ.out]; (try rw [HS.out] at ho4); exact ho4.mono (RKE.mono fun _ _ h => RZE.keep h hk4)⟩
      case measure => (try simp only [intOf]); omega
    · have ho := HO.out
      rw [take_end hk hlt] at ho
      rcases own_form ho with ⟨rfl, hl0⟩ | ⟨g, cap, rfl⟩
      · subst hl0
        clear ho HO
        go_wp2_with (go_at_call 116; refine (sortE_nil _ _).mono ?_; rintro e w5 ⟨rfl, rfl⟩)
        go_ret
        exact ⟨_, rfl, Own.nil_ _ _ _ _ _, HB.out⟩
      · have hst := Lib.hid (sortE_any w.heap.size (RZE wo) eCmp (ecmp_ok _) eSW g cap l.length l wo ho rfl (by omega) (srt eLt l) rfl)
        have HOf := Lib.hid ho
        clear ho HO
        go_wp2_with fail
        refine hst.out.mono ?_
        rintro e w5 ⟨rfl, ho5, hg5⟩
        have hk5 := HOf.out.keep (T := fun t => TB t = true) hg5 (by decide)
        have HB5 := Lib.hid (HOf.out.below HB.out HB.out.size hg5)
        have HR5 := Lib.hid (sortedE_row (l := l) ho5 hk5)
        clear ho5 hg5 hst hk5
        go_wp2
        go_ret
        exact ⟨_, rfl, HR5.out, HB5.out⟩
end Go.Proofs.YtaicidbopgnmfaaGreatDoor
namespace Go.Proofs.YtaicidbopgnmfaaGreatDoor
set_option linter.unusedSimpArgs false
set_option linter.unusedVariables false
open Go.RowKit
def nameE (n : List UInt8) (x : Ent) : Bool := x.pkg.name == n
set_option maxRecDepth 100000 in
theorem rfind_any (A : Option Addr) (c : Nat) (l : List Ent) (n : List UInt8) (w : World) (hl : Ents w A c l) :
    Calls Tryz.prog 24 #[.slice A l.length c, .string (bs n)] w fun e w' => e = .returned (.int .i64 (idxS (nameE n) l)) ∧ Below w.heap.size w w' := by
  have hbd := hl.bd
  have HL := Lib.hid hl
  clear hl
  go_enter Tryz.func24, Tryz.ntmps24
  go_wp2
  go_loopw [9] (fun i wr => ∃ k : Nat, k ≤ l.length ∧ i = .int .i64 k ∧ Below w.heap.size w wr ∧ (l.take k).any (nameE n) = false) (fun i _ => l.length - (intOf i).toNat)
  case atStart => exact ⟨0, Nat.zero_le _, rfl, Below.refl _ _, rfl⟩
  case round =>
    obtain ⟨k, hk, rfl, hb, hn⟩ := hrel
    have HB := Lib.hid hb
    have HN := Lib.hid hn
    clear hb hn
    by_cases hlt : k < l.length
    · obtain ⟨q, b, o, r, hq, rfl, hr, e0, e1, e2, e3, e4, e5, e6, e7, e8, e9, e10⟩ := HL.out.at_ hlt (Kept.of_below HB.out)
      have HQ := Lib.hid hq
      clear hq hr
      go_wp2
      all_goals first
        | (go_ret
           exact ⟨by rw [idx_at HQ.out (by assumption) HN.out]; rfl, by have hb0 := HB.out; (repeat (first | assumption | exact Below.refl _ _ | refine below_next ?_ (by assumption) | refine below_drewN ?_ _ | refine below_alloc ?_ _))⟩)
        | (go_roundw
           case rel => exact ⟨k + 1, by omega, by simp, by have hb0 := HB.out; (repeat (first | assumption | exact Below.refl _ _ | refine below_next ?_ (by assumption) | refine below_drewN ?_ _ | refine below_alloc ?_ _)), any_step HQ.out (by assumption) HN.out⟩
           case measure => (try simp only [intOf]); omega)
    · go_wp2
      go_ret
      exact ⟨by rw [idx_no (any_end hk hlt HN.out)]; rfl, HB.out⟩
theorem any_at {α : Type} {l : List α} {p : α → Bool} {k : Nat} {q : α} (h : l[k]? = some q) (hp : p q = true) : l.any p = true := List.any_eq_true.2 ⟨q, List.mem_of_getElem? h, hp⟩
set_option maxRecDepth 100000 in
theorem sfind_any (A : Option Addr) (c : Nat) (l : List Ent) (n : List UInt8) (w : World) (hl : Ents w A c l) :
    Calls Tryz.prog 102 #[.slice A l.length c, .string (bs n)] w fun e w' => e = .returned (.tuple #[.int .i64 (max 0 (idxS (nameE n) l)), .bool (l.any (nameE n))]) ∧ Below w.heap.size w w' := by
  have hbd := hl.bd
  have HL := Lib.hid hl
  clear hl
  go_enter Tryz.func102, Tryz.ntmps102
  go_wp2
  go_loopw [10] (fun i wr => ∃ k : Nat, k ≤ l.length ∧ i = .int .i64 k ∧ Below w.heap.size w wr ∧ (l.take k).any (nameE n) = false) (fun i _ => l.length - (intOf i).toNat)
  case atStart => exact ⟨0, Nat.zero_le _, rfl, Below.refl _ _, rfl⟩
  case round =>
    obtain ⟨k, hk, rfl, hb, hn⟩ := hrel
    have HB := Lib.hid hb
    have HN := Lib.hid hn
    clear hb hn
    by_cases hlt : k < l.length
    · obtain ⟨q, b, o, r, hq, rfl, hr, e0, e1, e2, e3, e4, e5, e6, e7, e8, e9, e10⟩ := HL.out.at_ hlt (Kept.of_below HB.out)
      have HQ := Lib.hid hq
      clear hq hr
      go_wp2
      all_goals first
        | (go_ret2
           exact ⟨by rw [idx_at HQ.out (by assumption) HN.out, any_at HQ.out (by assumption), Int.max_eq_right (Int.natCast_nonneg _)]; rfl, by have hb0 := HB.out; (repeat (first | assumption | exact Below.refl _ _ | refine below_next ?_ (by assumption) | refine below_drewN ?_ _ | refine below_alloc ?_ _))⟩)
        | (go_roundw
           case rel => exact ⟨k + 1, by omega, by simp, by have hb0 := HB.out; (repeat (first | assumption | exact Below.refl _ _ | refine below_next ?_ (by assumption) | refine below_drewN ?_ _ | refine below_alloc ?_ _)), any_step HQ.out (by assumption) HN.out⟩
           case measure => (try simp only [intOf]); omega)
    · go_wp2
      go_ret2
      exact ⟨by rw [idx_no (any_end hk hlt HN.out), any_end hk hlt HN.out]; rfl, HB.out⟩
end Go.Proofs.YtaicidbopgnmfaaGreatDoor
namespace Go.Proofs.YtaicidbopgnmfaaGreatDoor
set_option linter.unusedSimpArgs false
set_option linter.unusedVariables false
open Go.RowKit

theorem take_ext {α : Type} {l m : List α} {k : Nat} {x : α} (hx : l[k]? = some x) (hy : m[k]? = some x) (h : l.take k = m.take k) : l.take (k + 1) = m.take (k + 1) := by
  rw [take_step hx, take_step hy, h]
theorem atm_neq (x y : Atm) (w : World) : (binOp .neq 72 (.agg #[.string (bs (x).name), .int .i64 (x).rel, .string (bs (x).ver)]) (.agg #[.string (bs (y).name), .int .i64 (y).rel, .string (bs (y).ver)])).run Tryz.prog w = .ok (.bool (!decide (x = y))) w := by
  have u3 := Tryz.underlying3
  have u9 := Tryz.underlying9
  have a3 := Tryz.isAgg3
  have z3 := Tryz.sizeOf3
  have a9 := Tryz.isAgg9
  have z9 := Tryz.sizeOf9
  have hS : Tryz.prog.underlying 72 = some (.struct (Tryz.prog.fieldsOf 72)) := by kernel_rfl
  have hp : Tryz.prog.stoodInHeld 72 = false := by kernel_rfl
  rw [run_neq_struct, show (10000 : Nat) = 9999 + 1 from rfl, run_equalIn_agg w 9999 72 _ _ hS hp]
  simp only [Program.fieldsOf, Tryz.underlying72]
  go_simp
  obtain ⟨a, b, c⟩ := x
  obtain ⟨a', b', c'⟩ := y
  by_cases h1 : a = a' <;> by_cases h2 : b = b' <;> by_cases h3 : c = c' <;> simp [h1, h2, h3]
theorem prv_neq (x y : Prv) (w : World) : (binOp .neq 118 (.agg #[.string (bs (x).name), .string (bs (x).ver)]) (.agg #[.string (bs (y).name), .string (bs (y).ver)])).run Tryz.prog w = .ok (.bool (!decide (x = y))) w := by
  have u9 := Tryz.underlying9
  have a9 := Tryz.isAgg9
  have z9 := Tryz.sizeOf9
  have hS : Tryz.prog.underlying 118 = some (.struct (Tryz.prog.fieldsOf 118)) := by kernel_rfl
  have hp : Tryz.prog.stoodInHeld 118 = false := by kernel_rfl
  rw [run_neq_struct, show (10000 : Nat) = 9999 + 1 from rfl, run_equalIn_agg w 9999 118 _ _ hS hp]
  simp only [Program.fieldsOf, Tryz.underlying118]
  go_simp
  obtain ⟨a, b⟩ := x
  obtain ⟨a', b'⟩ := y
  by_cases h1 : a = a' <;> by_cases h2 : b = b' <;> simp [h1, h2]
set_option maxRecDepth 100000 in
set_option maxHeartbeats 400000 in
theorem sameAtoms_any (A B : Option Addr) (c d : Nat) (l m : List (Atm)) (w : World) (hl : Atms w A c l) (hm : Atms w B d m) :
    Calls Tryz.prog 113 #[.slice A l.length c, .slice B m.length d] w fun e w' => e = .returned (.bool (decide (l = m))) ∧ Below w.heap.size w w' := by
  have hbd := hl.bd
  have hbd2 := hm.bd
  have HL := Lib.hid hl
  have HM := Lib.hid hm
  clear hl hm
  by_cases hlen : l.length = m.length
  · have hlb : ((l.length : Int) != (m.length : Int)) = false := by simp [hlen]
    have hl1 : l.length ≤ m.length := by omega
    have hl2 : m.length ≤ l.length := by omega
    clear hlen
    go_enter Tryz.func113, Tryz.ntmps113
    go_wp2
    go_loopw [13] (fun i wr => ∃ k : Nat, k ≤ l.length ∧ i = .int .i64 k ∧ Below w.heap.size w wr ∧ l.take k = m.take k) (fun i _ => l.length - (intOf i).toNat)
    case atStart => exact ⟨0, Nat.zero_le _, rfl, Below.refl _ _, rfl⟩
    case round =>
      obtain ⟨k, hk, rfl, hb, hn⟩ := hrel
      obtain ⟨wo, rfl⟩ : ∃ wo : World, wo = wr := ⟨_, rfl⟩
      have HB := Lib.hid hb
      have HN := Lib.hid hn
      clear hb hn
      by_cases hlt : k < l.length
      · obtain ⟨x, b, o, hx, rfl, _, e0, e1, e2⟩ := HL.out.at_ hlt (Kept.of_below HB.out)
        obtain ⟨y, b', o', hy, rfl, _, f0, f1, f2⟩ := HM.out.at_ (by omega : k < m.length) (Kept.of_below HB.out)
        have HX := Lib.hid hx
        have HY := Lib.hid hy
        clear hx hy
        have hi0 : (0 : Int) ≤ (k : Int) := Int.natCast_nonneg _
        have hi1 : (k : Int) < (l.length : Int) := by omega
        have hi2 : (k : Int) < (m.length : Int) := by omega
        have hneq := fun W => atm_neq x y W
        go_wp2
        go_quiet (fail)
        go_wp2
        · have hne : x ≠ y := by simpa using (by assumption : (!decide (x = y)) = true)
          go_ret
          have hf : decide (l = m) = false := by
            rw [decide_eq_false_iff_not]
            intro h
            have h1 := HX.out
            rw [h, HY.out] at h1
            exact hne (Option.some.inj h1).symm
          exact ⟨by rw [hf]; rfl, by have hb0 := HB.out; (repeat (first | assumption | exact Below.refl _ _ | refine below_next ?_ (by assumption) | refine below_drewN ?_ _ | refine below_alloc ?_ _))⟩
        · have heq : x = y := by simpa using (by assumption : (!decide (x = y)) = false)
          subst heq
          go_roundw
          case rel => exact ⟨k + 1, by omega, by simp, by have hb0 := HB.out; (repeat (first | assumption | exact Below.refl _ _ | refine below_next ?_ (by assumption) | refine below_drewN ?_ _ | refine below_alloc ?_ _)), take_ext HX.out HY.out HN.out⟩
          case measure => (try simp only [intOf]); omega
      · go_wp2
        go_ret
        have hn := HN.out
        rw [List.take_of_length_le (by omega), List.take_of_length_le (by omega)] at hn
        exact ⟨by simp [hn], HB.out⟩
  · have hlb : ((l.length : Int) != (m.length : Int)) = true := by rw [bne_iff_ne]; omega
    go_enter Tryz.func113, Tryz.ntmps113
    go_wp2
    go_ret
    have hf : decide (l = m) = false := by
      rw [decide_eq_false_iff_not]
      intro h
      exact hlen (by rw [h])
    exact ⟨by rw [hf]; rfl, Below.refl _ _⟩
set_option maxRecDepth 100000 in
set_option maxHeartbeats 400000 in
theorem samePrvs_any (A B : Option Addr) (c d : Nat) (l m : List (Prv)) (w : World) (hl : Prvs w A c l) (hm : Prvs w B d m) :
    Calls Tryz.prog 114 #[.slice A l.length c, .slice B m.length d] w fun e w' => e = .returned (.bool (decide (l = m))) ∧ Below w.heap.size w w' := by
  have hbd := hl.bd
  have hbd2 := hm.bd
  have HL := Lib.hid hl
  have HM := Lib.hid hm
  clear hl hm
  by_cases hlen : l.length = m.length
  · have hlb : ((l.length : Int) != (m.length : Int)) = false := by simp [hlen]
    have hl1 : l.length ≤ m.length := by omega
    have hl2 : m.length ≤ l.length := by omega
    clear hlen
    go_enter Tryz.func114, Tryz.ntmps114
    go_wp2
    go_loopw [13] (fun i wr => ∃ k : Nat, k ≤ l.length ∧ i = .int .i64 k ∧ Below w.heap.size w wr ∧ l.take k = m.take k) (fun i _ => l.length - (intOf i).toNat)
    case atStart => exact ⟨0, Nat.zero_le _, rfl, Below.refl _ _, rfl⟩
    case round =>
      obtain ⟨k, hk, rfl, hb, hn⟩ := hrel
      obtain ⟨wo, rfl⟩ : ∃ wo : World, wo = wr := ⟨_, rfl⟩
      have HB := Lib.hid hb
      have HN := Lib.hid hn
      clear hb hn
      by_cases hlt : k < l.length
      · obtain ⟨x, b, o, hx, rfl, _, e0, e1⟩ := HL.out.at_ hlt (Kept.of_below HB.out)
        obtain ⟨y, b', o', hy, rfl, _, f0, f1⟩ := HM.out.at_ (by omega : k < m.length) (Kept.of_below HB.out)
        have HX := Lib.hid hx
        have HY := Lib.hid hy
        clear hx hy
        have hi0 : (0 : Int) ≤ (k : Int) := Int.natCast_nonneg _
        have hi1 : (k : Int) < (l.length : Int) := by omega
        have hi2 : (k : Int) < (m.length : Int) := by omega
        have hneq := fun W => prv_neq x y W
        go_wp2
        go_quiet (fail)
        go_wp2
        · have hne : x ≠ y := by simpa using (by assumption : (!decide (x = y)) = true)
          go_ret
          have hf : decide (l = m) = false := by
            rw [decide_eq_false_iff_not]
            intro h
            have h1 := HX.out
            rw [h, HY.out] at h1
            exact hne (Option.some.inj h1).symm
          exact ⟨by rw [hf]; rfl, by have hb0 := HB.out; (repeat (first | assumption | exact Below.refl _ _ | refine below_next ?_ (by assumption) | refine below_drewN ?_ _ | refine below_alloc ?_ _))⟩
        · have heq : x = y := by simpa using (by assumption : (!decide (x = y)) = false)
          subst heq
          go_roundw
          case rel => exact ⟨k + 1, by omega, by simp, by have hb0 := HB.out; (repeat (first | assumption | exact Below.refl _ _ | refine below_next ?_ (by assumption) | refine below_drewN ?_ _ | refine below_alloc ?_ _)), take_ext HX.out HY.out HN.out⟩
          case measure => (try simp only [intOf]); omega
      · go_wp2
        go_ret
        have hn := HN.out
        rw [List.take_of_length_le (by omega), List.take_of_length_le (by omega)] at hn
        exact ⟨by simp [hn], HB.out⟩
  · have hlb : ((l.length : Int) != (m.length : Int)) = true := by rw [bne_iff_ne]; omega
    go_enter Tryz.func114, Tryz.ntmps114
    go_wp2
    go_ret
    have hf : decide (l = m) = false := by
      rw [decide_eq_false_iff_not]
      intro h
      exact hlen (by rw [h])
    exact ⟨by rw [hf]; rfl, Below.refl _ _⟩
set_option maxRecDepth 100000 in
set_option maxHeartbeats 400000 in
theorem sameCls_any (A B : Option Addr) (c d : Nat) (l m : List (List Atm)) (w : World) (hl : Clss w A c l) (hm : Clss w B d m) :
    Calls Tryz.prog 112 #[.slice A l.length c, .slice B m.length d] w fun e w' => e = .returned (.bool (decide (l = m))) ∧ Below w.heap.size w w' := by
  have hbd := hl.bd
  have hbd2 := hm.bd
  have HL := Lib.hid hl
  have HM := Lib.hid hm
  clear hl hm
  by_cases hlen : l.length = m.length
  · have hlb : ((l.length : Int) != (m.length : Int)) = false := by simp [hlen]
    have hl1 : l.length ≤ m.length := by omega
    have hl2 : m.length ≤ l.length := by omega
    clear hlen
    go_enter Tryz.func112, Tryz.ntmps112
    go_wp2
    go_loopw [13] (fun i wr => ∃ k : Nat, k ≤ l.length ∧ i = .int .i64 k ∧ Below w.heap.size w wr ∧ l.take k = m.take k) (fun i _ => l.length - (intOf i).toNat)
    case atStart => exact ⟨0, Nat.zero_le _, rfl, Below.refl _ _, rfl⟩
    case round =>
      obtain ⟨k, hk, rfl, hb, hn⟩ := hrel
      obtain ⟨wo, rfl⟩ : ∃ wo : World, wo = wr := ⟨_, rfl⟩
      have HB := Lib.hid hb
      have HN := Lib.hid hn
      clear hb hn
      by_cases hlt : k < l.length
      · obtain ⟨x, b, o, A1, c1, hx, rfl, ha1, e0⟩ := HL.out.at_ hlt (Kept.of_below HB.out)
        obtain ⟨y, b', o', A2, c2, hy, rfl, ha2, f0⟩ := HM.out.at_ (by omega : k < m.length) (Kept.of_below HB.out)
        have HX := Lib.hid hx
        have HY := Lib.hid hy
        clear hx hy
        have hi0 : (0 : Int) ≤ (k : Int) := Int.natCast_nonneg _
        have hi1 : (k : Int) < (l.length : Int) := by omega
        have hi2 : (k : Int) < (m.length : Int) := by omega
        have HA1 := Lib.hid (ha1.kept (Kept.of_below HB.out))
        have HA2 := Lib.hid (ha2.kept (Kept.of_below HB.out))
        clear ha1 ha2
        have p0 := fun p : Be wo => Be.cell e0 p
        have p1 := fun p : Be wo => Be.cell f0 p
        clear e0 f0
        go_wp2
        refine region_be (by kernel_rfl) (by kernel_rfl) ?_
        repeat (quiet_step (first | (go_at_call 113; with_reducible exact Calls.be_of (sameAtoms_any _ _ _ _ x y _ (HA1.out.kept (Be.kept _)) (HA2.out.kept (Be.kept _))))))
        refine wpQuiet_nil ?_
        intro _ hw'
        obtain ⟨pb, hw''⟩ := hw'
        subst hw''
        obtain ⟨W2, hbw⟩ := pb
        dsimp only
        clear p0 p1
        go_wp2
        · have hne : x ≠ y := by simpa using (by assumption : (!decide (x = y)) = true)
          go_ret
          have hf : decide (l = m) = false := by
            rw [decide_eq_false_iff_not]
            intro h
            have h1 := HX.out
            rw [h, HY.out] at h1
            exact hne (Option.some.inj h1).symm
          exact ⟨by rw [hf]; rfl, by have hb0 := HB.out; (repeat (first | assumption | exact Below.refl _ _ | refine below_next ?_ (by assumption) | refine below_drewN ?_ _ | refine below_alloc ?_ _))⟩
        · have heq : x = y := by simpa using (by assumption : (!decide (x = y)) = false)
          subst heq
          go_roundw
          case rel => exact ⟨k + 1, by omega, by simp, by have hb0 := HB.out; (repeat (first | assumption | exact Below.refl _ _ | refine below_next ?_ (by assumption) | refine below_drewN ?_ _ | refine below_alloc ?_ _)), take_ext HX.out HY.out HN.out⟩
          case measure => (try simp only [intOf]); omega
      · go_wp2
        go_ret
        have hn := HN.out
        rw [List.take_of_length_le (by omega), List.take_of_length_le (by omega)] at hn
        exact ⟨by simp [hn], HB.out⟩
  · have hlb : ((l.length : Int) != (m.length : Int)) = true := by rw [bne_iff_ne]; omega
    go_enter Tryz.func112, Tryz.ntmps112
    go_wp2
    go_ret
    have hf : decide (l = m) = false := by
      rw [decide_eq_false_iff_not]
      intro h
      exact hlen (by rw [h])
    exact ⟨by rw [hf]; rfl, Below.refl _ _⟩
end Go.Proofs.YtaicidbopgnmfaaGreatDoor
namespace Go.Proofs.YtaicidbopgnmfaaGreatDoor
set_option linter.unusedSimpArgs false
set_option linter.unusedVariables false
open Go.RowKit

theorem pkg_eq_iff (p q : Pkg) : p = q ↔ p.name = q.name ∧ p.ver = q.ver ∧ p.ess = q.ess ∧ p.pre = q.pre ∧ p.dep = q.dep ∧ p.rcm = q.rcm ∧ p.con = q.con ∧ p.brk = q.brk ∧ p.prv = q.prv := by
  obtain ⟨a, b, c, d, e, f, g, h, i⟩ := p
  obtain ⟨a', b', c', d', e', f', g', h', i'⟩ := q
  simp only [Pkg.mk.injEq]
  constructor
  · rintro ⟨h1, h2, h3, h4, h5, h6, h7, h8, h9⟩; exact ⟨h1, h2, h9, h3, h4, h5, h6, h7, h8⟩
  · rintro ⟨h1, h2, h9, h3, h4, h5, h6, h7, h8⟩; exact ⟨h1, h2, h3, h4, h5, h6, h7, h8, h9⟩
set_option maxRecDepth 100000 in
set_option maxHeartbeats 4000000 in
theorem same_any (p q : Pkg) (r s : Raw) (w : World) (hp : RP w r p) (hq : RP w s q) :
    Calls Tryz.prog 61 #[(.agg #[.string (bs (p).name), .string (bs (p).ver), .slice (r).a1 (p).pre.length (r).c1, .slice (r).a2 (p).dep.length (r).c2, .slice (r).a3 (p).rcm.length (r).c3, .slice (r).a4 (p).con.length (r).c4, .slice (r).a5 (p).brk.length (r).c5, .slice (r).a6 (p).prv.length (r).c6, .bool (p).ess]), (.agg #[.string (bs (q).name), .string (bs (q).ver), .slice (s).a1 (q).pre.length (s).c1, .slice (s).a2 (q).dep.length (s).c2, .slice (s).a3 (q).rcm.length (s).c3, .slice (s).a4 (q).con.length (s).c4, .slice (s).a5 (q).brk.length (s).c5, .slice (s).a6 (q).prv.length (s).c6, .bool (q).ess])] w fun e w' => e = .returned (.bool (decide (p = q))) ∧ Below w.heap.size w w' := by
  have HE := Lib.hid (pkg_eq_iff p q)
  obtain ⟨p1, p2, p3, p4, p5, p6, p7, p8⟩ := hp
  obtain ⟨q1, q2, q3, q4, q5, q6, q7, q8⟩ := hq
  have P3 := Lib.hid p3
  have P4 := Lib.hid p4
  have P5 := Lib.hid p5
  have P6 := Lib.hid p6
  have P7 := Lib.hid p7
  have P8 := Lib.hid p8
  have Q3 := Lib.hid q3
  have Q4 := Lib.hid q4
  have Q5 := Lib.hid q5
  have Q6 := Lib.hid q6
  have Q7 := Lib.hid q7
  have Q8 := Lib.hid q8
  clear p1 p2 p3 p4 p5 p6 p7 p8 q1 q2 q3 q4 q5 q6 q7 q8
  have K1 := Lib.hid (show Blk ((w.alloc (.cells #[.string (bs (p).name), .string (bs (p).ver), .slice (r).a1 (p).pre.length (r).c1, .slice (r).a2 (p).dep.length (r).c2, .slice (r).a3 (p).rcm.length (r).c3, .slice (r).a4 (p).con.length (r).c4, .slice (r).a5 (p).brk.length (r).c5, .slice (r).a6 (p).prv.length (r).c6, .bool (p).ess] 43)).alloc (.cells #[.string (bs (q).name), .string (bs (q).ver), .slice (s).a1 (q).pre.length (s).c1, .slice (s).a2 (q).dep.length (s).c2, .slice (s).a3 (q).rcm.length (s).c3, .slice (s).a4 (q).con.length (s).c4, .slice (s).a5 (q).brk.length (s).c5, .slice (s).a6 (q).prv.length (s).c6, .bool (q).ess] 43)) w.heap.size 43 #[.string (bs (p).name), .string (bs (p).ver), .slice (r).a1 (p).pre.length (r).c1, .slice (r).a2 (p).dep.length (r).c2, .slice (r).a3 (p).rcm.length (r).c3, .slice (r).a4 (p).con.length (r).c4, .slice (r).a5 (p).brk.length (r).c5, .slice (r).a6 (p).prv.length (r).c6, .bool (p).ess] from Blk.alloc (blk_new1 _ _ _) _)
  have K2 := Lib.hid (show Blk ((w.alloc (.cells #[.string (bs (p).name), .string (bs (p).ver), .slice (r).a1 (p).pre.length (r).c1, .slice (r).a2 (p).dep.length (r).c2, .slice (r).a3 (p).rcm.length (r).c3, .slice (r).a4 (p).con.length (r).c4, .slice (r).a5 (p).brk.length (r).c5, .slice (r).a6 (p).prv.length (r).c6, .bool (p).ess] 43)).alloc (.cells #[.string (bs (q).name), .string (bs (q).ver), .slice (s).a1 (q).pre.length (s).c1, .slice (s).a2 (q).dep.length (s).c2, .slice (s).a3 (q).rcm.length (s).c3, .slice (s).a4 (q).con.length (s).c4, .slice (s).a5 (q).brk.length (s).c5, .slice (s).a6 (q).prv.length (s).c6, .bool (q).ess] 43)) (w.heap.size + 1) 43 #[.string (bs (q).name), .string (bs (q).ver), .slice (s).a1 (q).pre.length (s).c1, .slice (s).a2 (q).dep.length (s).c2, .slice (s).a3 (q).rcm.length (s).c3, .slice (s).a4 (q).con.length (s).c4, .slice (s).a5 (q).brk.length (s).c5, .slice (s).a6 (q).prv.length (s).c6, .bool (q).ess] from blk_new2 _ _ _ _)
  have HB := Lib.hid (show Below w.heap.size w ((w.alloc (.cells #[.string (bs (p).name), .string (bs (p).ver), .slice (r).a1 (p).pre.length (r).c1, .slice (r).a2 (p).dep.length (r).c2, .slice (r).a3 (p).rcm.length (r).c3, .slice (r).a4 (p).con.length (r).c4, .slice (r).a5 (p).brk.length (r).c5, .slice (r).a6 (p).prv.length (r).c6, .bool (p).ess] 43)).alloc (.cells #[.string (bs (q).name), .string (bs (q).ver), .slice (s).a1 (q).pre.length (s).c1, .slice (s).a2 (q).dep.length (s).c2, .slice (s).a3 (q).rcm.length (s).c3, .slice (s).a4 (q).con.length (s).c4, .slice (s).a5 (q).brk.length (s).c5, .slice (s).a6 (q).prv.length (s).c6, .bool (q).ess] 43)) from below_alloc (below_alloc (Below.refl _ _) _) _)
  by_cases h1 : p.name = q.name
  case neg =>
    have b1 : (p.name == q.name) = false := by simpa using h1
    go_enter Tryz.func61, Tryz.ntmps61
    go_wp2
    go_ret
    exact ⟨by rw [decide_eq_false (fun h => h1 (by rw [h]))]; rfl, HB.out⟩
  case pos =>
  have b1 : (p.name == q.name) = true := by simpa using h1
  have H1 := Lib.hid h1
  clear h1
  by_cases h2 : p.ver = q.ver
  case neg =>
    have b2 : (p.ver == q.ver) = false := by simpa using h2
    go_enter Tryz.func61, Tryz.ntmps61
    go_wp2
    go_ret
    exact ⟨by rw [decide_eq_false (fun h => h2 (by rw [h]))]; rfl, HB.out⟩
  case pos =>
  have b2 : (p.ver == q.ver) = true := by simpa using h2
  have H2 := Lib.hid h2
  clear h2
  by_cases h3 : p.ess = q.ess
  case neg =>
    have b3 : (p.ess == q.ess) = false := by simpa using h3
    go_enter Tryz.func61, Tryz.ntmps61
    go_wp2
    go_ret
    exact ⟨by rw [decide_eq_false (fun h => h3 (by rw [h]))]; rfl, HB.out⟩
  case pos =>
  have b3 : (p.ess == q.ess) = true := by simpa using h3
  have H3 := Lib.hid h3
  clear h3
  go_enter Tryz.func61, Tryz.ntmps61
  go_wp2_with fail
  refine (sameCls_any _ _ _ _ _ _ _ ((P3).out.kept (Kept.of_below HB.out)) ((Q3).out.kept (Kept.of_below HB.out))).mono ?_
  rintro e w1 ⟨rfl, hb1⟩
  have K1 := Lib.hid (K1.out.next hb1)
  have K2 := Lib.hid (K2.out.next hb1)
  have HB := Lib.hid (below_next HB.out hb1)
  clear hb1
  obtain ⟨c0, c1, c2, c3, c4, c5, c6, c7, c8⟩ := blk9 K1.out
  obtain ⟨d0, d1, d2, d3, d4, d5, d6, d7, d8⟩ := blk9 K2.out
  by_cases hx : p.pre = q.pre
  case neg =>
    have HF := Lib.hid (show decide (p = q) = false from decide_eq_false (fun h => hx (by rw [h])))
    rw [decide_eq_false hx]
    clear hx
    go_wp2
    go_ret
    exact ⟨by rw [HF.out]; rfl, HB.out⟩
  case pos =>
  have X3 := Lib.hid hx
  rw [decide_eq_true hx]
  clear hx
  go_wp2_with fail
  clear c0 c1 c2 c3 c4 c5 c6 c7 c8 d0 d1 d2 d3 d4 d5 d6 d7 d8
  refine (sameCls_any _ _ _ _ _ _ _ ((P4).out.kept (Kept.of_below HB.out)) ((Q4).out.kept (Kept.of_below HB.out))).mono ?_
  rintro e w1 ⟨rfl, hb1⟩
  have K1 := Lib.hid (K1.out.next hb1)
  have K2 := Lib.hid (K2.out.next hb1)
  have HB := Lib.hid (below_next HB.out hb1)
  clear hb1
  obtain ⟨c0, c1, c2, c3, c4, c5, c6, c7, c8⟩ := blk9 K1.out
  obtain ⟨d0, d1, d2, d3, d4, d5, d6, d7, d8⟩ := blk9 K2.out
  by_cases hx : p.dep = q.dep
  case neg =>
    have HF := Lib.hid (show decide (p = q) = false from decide_eq_false (fun h => hx (by rw [h])))
    rw [decide_eq_false hx]
    clear hx
    go_wp2
    go_ret
    exact ⟨by rw [HF.out]; rfl, HB.out⟩
  case pos =>
  have X4 := Lib.hid hx
  rw [decide_eq_true hx]
  clear hx
  go_wp2_with fail
  clear c0 c1 c2 c3 c4 c5 c6 c7 c8 d0 d1 d2 d3 d4 d5 d6 d7 d8
  refine (sameCls_any _ _ _ _ _ _ _ ((P5).out.kept (Kept.of_below HB.out)) ((Q5).out.kept (Kept.of_below HB.out))).mono ?_
  rintro e w1 ⟨rfl, hb1⟩
  have K1 := Lib.hid (K1.out.next hb1)
  have K2 := Lib.hid (K2.out.next hb1)
  have HB := Lib.hid (below_next HB.out hb1)
  clear hb1
  obtain ⟨c0, c1, c2, c3, c4, c5, c6, c7, c8⟩ := blk9 K1.out
  obtain ⟨d0, d1, d2, d3, d4, d5, d6, d7, d8⟩ := blk9 K2.out
  by_cases hx : p.rcm = q.rcm
  case neg =>
    have HF := Lib.hid (show decide (p = q) = false from decide_eq_false (fun h => hx (by rw [h])))
    rw [decide_eq_false hx]
    clear hx
    go_wp2
    go_ret
    exact ⟨by rw [HF.out]; rfl, HB.out⟩
  case pos =>
  have X5 := Lib.hid hx
  rw [decide_eq_true hx]
  clear hx
  go_wp2_with fail
  clear c0 c1 c2 c3 c4 c5 c6 c7 c8 d0 d1 d2 d3 d4 d5 d6 d7 d8
  refine (sameAtoms_any _ _ _ _ _ _ _ ((P6).out.kept (Kept.of_below HB.out)) ((Q6).out.kept (Kept.of_below HB.out))).mono ?_
  rintro e w1 ⟨rfl, hb1⟩
  have K1 := Lib.hid (K1.out.next hb1)
  have K2 := Lib.hid (K2.out.next hb1)
  have HB := Lib.hid (below_next HB.out hb1)
  clear hb1
  obtain ⟨c0, c1, c2, c3, c4, c5, c6, c7, c8⟩ := blk9 K1.out
  obtain ⟨d0, d1, d2, d3, d4, d5, d6, d7, d8⟩ := blk9 K2.out
  by_cases hx : p.con = q.con
  case neg =>
    have HF := Lib.hid (show decide (p = q) = false from decide_eq_false (fun h => hx (by rw [h])))
    rw [decide_eq_false hx]
    clear hx
    go_wp2
    go_ret
    exact ⟨by rw [HF.out]; rfl, HB.out⟩
  case pos =>
  have X6 := Lib.hid hx
  rw [decide_eq_true hx]
  clear hx
  go_wp2_with fail
  clear c0 c1 c2 c3 c4 c5 c6 c7 c8 d0 d1 d2 d3 d4 d5 d6 d7 d8
  refine (sameAtoms_any _ _ _ _ _ _ _ ((P7).out.kept (Kept.of_below HB.out)) ((Q7).out.kept (Kept.of_below HB.out))).mono ?_
  rintro e w1 ⟨rfl, hb1⟩
  have K1 := Lib.hid (K1.out.next hb1)
  have K2 := Lib.hid (K2.out.next hb1)
  have HB := Lib.hid (below_next HB.out hb1)
  clear hb1
  obtain ⟨c0, c1, c2, c3, c4, c5, c6, c7, c8⟩ := blk9 K1.out
  obtain ⟨d0, d1, d2, d3, d4, d5, d6, d7, d8⟩ := blk9 K2.out
  by_cases hx : p.brk = q.brk
  case neg =>
    have HF := Lib.hid (show decide (p = q) = false from decide_eq_false (fun h => hx (by rw [h])))
    rw [decide_eq_false hx]
    clear hx
    go_wp2
    go_ret
    exact ⟨by rw [HF.out]; rfl, HB.out⟩
  case pos =>
  have X7 := Lib.hid hx
  rw [decide_eq_true hx]
  clear hx
  go_wp2_with fail
  clear c0 c1 c2 c3 c4 c5 c6 c7 c8 d0 d1 d2 d3 d4 d5 d6 d7 d8
  refine (samePrvs_any _ _ _ _ _ _ _ (P8.out.kept (Kept.of_below HB.out)) (Q8.out.kept (Kept.of_below HB.out))).mono ?_
  rintro e w1 ⟨rfl, hb1⟩
  have HF := Lib.hid (show decide (p.prv = q.prv) = decide (p = q) by
    rw [decide_eq_decide, HE.out]
    exact ⟨fun h => ⟨H1.out, H2.out, H3.out, X3.out, X4.out, X5.out, X6.out, X7.out, h⟩, fun h => h.2.2.2.2.2.2.2.2⟩)
  rw [HF.out]
  go_wp2
  go_ret
  exact ⟨rfl, below_next HB.out hb1⟩
end Go.Proofs.YtaicidbopgnmfaaGreatDoor
namespace Go.Proofs.YtaicidbopgnmfaaGreatDoor
set_option linter.unusedSimpArgs false
set_option linter.unusedVariables false
open Go.RowKit
end Go.Proofs.YtaicidbopgnmfaaGreatDoor
namespace Go.Proofs.YtaicidbopgnmfaaGreatDoor
set_option linter.unusedSimpArgs false
set_option linter.unusedVariables false
open Go.RowKit
attribute [local irreducible] wpQuiet

theorem ent_eq_iff (x y : Ent) : x = y ↔ x.pkg = y.pkg ∧ x.conf = y.conf ∧ x.hold = y.hold := by
  obtain ⟨a, b, c⟩ := x
  obtain ⟨a', b', c'⟩ := y
  simp only [Ent.mk.injEq]
set_option maxRecDepth 100000 in
set_option maxHeartbeats 1000000 in
theorem sameEnts_any (A B : Option Addr) (c d : Nat) (l m : List Ent) (w : World) (hl : Ents w A c l) (hm : Ents w B d m) :
    Calls Tryz.prog 20 #[.slice A l.length c, .slice B m.length d] w fun e w' => e = .returned (.bool (decide (l = m))) ∧ Below w.heap.size w w' := by
  have hbd := hl.bd
  have hbd2 := hm.bd
  have HL := Lib.hid hl
  have HM := Lib.hid hm
  clear hl hm
  by_cases hlen : l.length = m.length
  · have hlb : ((l.length : Int) != (m.length : Int)) = false := by simp [hlen]
    have hl1 : l.length ≤ m.length := by omega
    have hl2 : m.length ≤ l.length := by omega
    clear hlen
    go_enter Tryz.func20, Tryz.ntmps20
    go_wp2
    go_loopw [13] (fun i wr => ∃ k : Nat, k ≤ l.length ∧ i = .int .i64 k ∧ Below w.heap.size w wr ∧ l.take k = m.take k) (fun i _ => l.length - (intOf i).toNat)
    case atStart => exact ⟨0, Nat.zero_le _, rfl, Below.refl _ _, rfl⟩
    case round =>
      obtain ⟨k, hk, rfl, hb, hn⟩ := hrel
      obtain ⟨wo, rfl⟩ : ∃ wo : World, wo = wr := ⟨_, rfl⟩
      have HB := Lib.hid hb
      have HN := Lib.hid hn
      clear hb hn
      by_cases hlt : k < l.length
      · obtain ⟨x, b, o, r1, hx, rfl, ha1, e0, e1, e2, e3, e4, e5, e6, e7, e8, e9, e10⟩ := HL.out.at_ hlt (Kept.of_below HB.out)
        obtain ⟨y, b', o', r2, hy, rfl, ha2, f0, f1, f2, f3, f4, f5, f6, f7, f8, f9, f10⟩ := HM.out.at_ (by omega : k < m.length) (Kept.of_below HB.out)
        have HX := Lib.hid hx
        have HY := Lib.hid hy
        clear hx hy
        have hi0 : (0 : Int) ≤ (k : Int) := Int.natCast_nonneg _
        have hi1 : (k : Int) < (l.length : Int) := by omega
        have hi2 : (k : Int) < (m.length : Int) := by omega
        have HA1 := Lib.hid (ha1.kept (Kept.of_below HB.out))
        have HA2 := Lib.hid (ha2.kept (Kept.of_below HB.out))
        clear ha1 ha2
        by_cases hp : x.pkg = y.pkg
        · have HSM := Lib.hid (decide_eq_true hp)
          by_cases hc : x.conf = y.conf
          · have hcb : (x.conf == y.conf) = true := by simpa using hc
            have hcn : (x.conf != y.conf) = false := by simpa using hc
            by_cases hh : x.hold = y.hold
            · have hhb : (x.hold == y.hold) = true := by simpa using hh
              have hhn : (x.hold != y.hold) = false := by simpa using hh
              have HEQ := Lib.hid ((ent_eq_iff x y).2 ⟨hp, hc, hh⟩)
              clear hp hc hh
              (have p0 := fun p : Be wo => Be.cell e0 p); (have p1 := fun p : Be wo => Be.cell e1 p); (have p2 := fun p : Be wo => Be.cell e2 p); (have p3 := fun p : Be wo => Be.cell e3 p); (have p4 := fun p : Be wo => Be.cell e4 p); (have p5 := fun p : Be wo => Be.cell e5 p); (have p6 := fun p : Be wo => Be.cell e6 p); (have p7 := fun p : Be wo => Be.cell e7 p); (have p8 := fun p : Be wo => Be.cell e8 p); (have p9 := fun p : Be wo => Be.cell e9 p); (have p10 := fun p : Be wo => Be.cell e10 p)
              (have q0 := fun p : Be wo => Be.cell f0 p); (have q1 := fun p : Be wo => Be.cell f1 p); (have q2 := fun p : Be wo => Be.cell f2 p); (have q3 := fun p : Be wo => Be.cell f3 p); (have q4 := fun p : Be wo => Be.cell f4 p); (have q5 := fun p : Be wo => Be.cell f5 p); (have q6 := fun p : Be wo => Be.cell f6 p); (have q7 := fun p : Be wo => Be.cell f7 p); (have q8 := fun p : Be wo => Be.cell f8 p); (have q9 := fun p : Be wo => Be.cell f9 p); (have q10 := fun p : Be wo => Be.cell f10 p)
              clear e0 e1 e2 e3 e4 e5 e6 e7 e8 e9 e10 f0 f1 f2 f3 f4 f5 f6 f7 f8 f9 f10
              go_wp2
              refine region_be (by kernel_rfl) (by kernel_rfl) ?_
              repeat (quiet_step (first | (go_at_call 61; with_reducible exact Calls.be_of ((same_any x.pkg y.pkg r1 r2 _ (HA1.out.kept (Be.kept _)) (HA2.out.kept (Be.kept _))).mono fun _ _ h => ⟨h.1.trans (congrArg (fun b => Ending.returned (Value.bool b)) HSM.out), h.2⟩))))
              refine wpQuiet_nil ?_
              intro _ hw'
              obtain ⟨pb, hw''⟩ := hw'
              subst hw''
              obtain ⟨W2, hbw⟩ := pb
              dsimp only
              clear p0 p1 p2 p3 p4 p5 p6 p7 p8 p9 p10 q0 q1 q2 q3 q4 q5 q6 q7 q8 q9 q10
              go_wp2
              go_roundw
              case rel => exact ⟨k + 1, by omega, by simp, by have hb0 := HB.out; (repeat (first | assumption | exact Below.refl _ _ | refine below_next ?_ (by assumption) | refine below_drewN ?_ _ | refine below_alloc ?_ _)), take_ext HX.out (by rw [HY.out, HEQ.out]) HN.out⟩
              case measure => (try simp only [intOf]); omega
            · have hhb : (x.hold == y.hold) = false := by simpa using hh
              have hhn : (x.hold != y.hold) = true := by simpa using hh
              have HNE := Lib.hid (show x ≠ y from fun h => hh (by rw [h]))
              clear hp hc hh
              (have p0 := fun p : Be wo => Be.cell e0 p); (have p1 := fun p : Be wo => Be.cell e1 p); (have p2 := fun p : Be wo => Be.cell e2 p); (have p3 := fun p : Be wo => Be.cell e3 p); (have p4 := fun p : Be wo => Be.cell e4 p); (have p5 := fun p : Be wo => Be.cell e5 p); (have p6 := fun p : Be wo => Be.cell e6 p); (have p7 := fun p : Be wo => Be.cell e7 p); (have p8 := fun p : Be wo => Be.cell e8 p); (have p9 := fun p : Be wo => Be.cell e9 p); (have p10 := fun p : Be wo => Be.cell e10 p)
              (have q0 := fun p : Be wo => Be.cell f0 p); (have q1 := fun p : Be wo => Be.cell f1 p); (have q2 := fun p : Be wo => Be.cell f2 p); (have q3 := fun p : Be wo => Be.cell f3 p); (have q4 := fun p : Be wo => Be.cell f4 p); (have q5 := fun p : Be wo => Be.cell f5 p); (have q6 := fun p : Be wo => Be.cell f6 p); (have q7 := fun p : Be wo => Be.cell f7 p); (have q8 := fun p : Be wo => Be.cell f8 p); (have q9 := fun p : Be wo => Be.cell f9 p); (have q10 := fun p : Be wo => Be.cell f10 p)
              clear e0 e1 e2 e3 e4 e5 e6 e7 e8 e9 e10 f0 f1 f2 f3 f4 f5 f6 f7 f8 f9 f10
              go_wp2
              refine region_be (by kernel_rfl) (by kernel_rfl) ?_
              repeat (quiet_step (first | (go_at_call 61; with_reducible exact Calls.be_of ((same_any x.pkg y.pkg r1 r2 _ (HA1.out.kept (Be.kept _)) (HA2.out.kept (Be.kept _))).mono fun _ _ h => ⟨h.1.trans (congrArg (fun b => Ending.returned (Value.bool b)) HSM.out), h.2⟩))))
              refine wpQuiet_nil ?_
              intro _ hw'
              obtain ⟨pb, hw''⟩ := hw'
              subst hw''
              obtain ⟨W2, hbw⟩ := pb
              dsimp only
              clear p0 p1 p2 p3 p4 p5 p6 p7 p8 p9 p10 q0 q1 q2 q3 q4 q5 q6 q7 q8 q9 q10
              go_wp2
              go_ret
              have hf : decide (l = m) = false := by
                rw [decide_eq_false_iff_not]
                intro h
                have h1 := HX.out
                rw [h, HY.out] at h1
                exact HNE.out (Option.some.inj h1).symm
              exact ⟨by rw [hf]; rfl, by have hb0 := HB.out; (repeat (first | assumption | exact Below.refl _ _ | refine below_next ?_ (by assumption) | refine below_drewN ?_ _ | refine below_alloc ?_ _))⟩
          · have hcb : (x.conf == y.conf) = false := by simpa using hc
            have hcn : (x.conf != y.conf) = true := by simpa using hc
            have HNE := Lib.hid (show x ≠ y from fun h => hc (by rw [h]))
            clear hp hc
            (have p0 := fun p : Be wo => Be.cell e0 p); (have p1 := fun p : Be wo => Be.cell e1 p); (have p2 := fun p : Be wo => Be.cell e2 p); (have p3 := fun p : Be wo => Be.cell e3 p); (have p4 := fun p : Be wo => Be.cell e4 p); (have p5 := fun p : Be wo => Be.cell e5 p); (have p6 := fun p : Be wo => Be.cell e6 p); (have p7 := fun p : Be wo => Be.cell e7 p); (have p8 := fun p : Be wo => Be.cell e8 p); (have p9 := fun p : Be wo => Be.cell e9 p); (have p10 := fun p : Be wo => Be.cell e10 p)
            (have q0 := fun p : Be wo => Be.cell f0 p); (have q1 := fun p : Be wo => Be.cell f1 p); (have q2 := fun p : Be wo => Be.cell f2 p); (have q3 := fun p : Be wo => Be.cell f3 p); (have q4 := fun p : Be wo => Be.cell f4 p); (have q5 := fun p : Be wo => Be.cell f5 p); (have q6 := fun p : Be wo => Be.cell f6 p); (have q7 := fun p : Be wo => Be.cell f7 p); (have q8 := fun p : Be wo => Be.cell f8 p); (have q9 := fun p : Be wo => Be.cell f9 p); (have q10 := fun p : Be wo => Be.cell f10 p)
            clear e0 e1 e2 e3 e4 e5 e6 e7 e8 e9 e10 f0 f1 f2 f3 f4 f5 f6 f7 f8 f9 f10
            go_wp2
            refine region_be (by kernel_rfl) (by kernel_rfl) ?_
            repeat (quiet_step (first | (go_at_call 61; with_reducible exact Calls.be_of ((same_any x.pkg y.pkg r1 r2 _ (HA1.out.kept (Be.kept _)) (HA2.out.kept (Be.kept _))).mono fun _ _ h => ⟨h.1.trans (congrArg (fun b => Ending.returned (Value.bool b)) HSM.out), h.2⟩))))
            refine wpQuiet_nil ?_
            intro _ hw'
            obtain ⟨pb, hw''⟩ := hw'
            subst hw''
            obtain ⟨W2, hbw⟩ := pb
            dsimp only
            clear p0 p1 p2 p3 p4 p5 p6 p7 p8 p9 p10 q0 q1 q2 q3 q4 q5 q6 q7 q8 q9 q10
            go_wp2
            go_ret
            have hf : decide (l = m) = false := by
              rw [decide_eq_false_iff_not]
              intro h
              have h1 := HX.out
              rw [h, HY.out] at h1
              exact HNE.out (Option.some.inj h1).symm
            exact ⟨by rw [hf]; rfl, by have hb0 := HB.out; (repeat (first | assumption | exact Below.refl _ _ | refine below_next ?_ (by assumption) | refine below_drewN ?_ _ | refine below_alloc ?_ _))⟩
        · have HSM := Lib.hid (decide_eq_false hp)
          have HNE := Lib.hid (show x ≠ y from fun h => hp (by rw [h]))
          clear hp
          (have p0 := fun p : Be wo => Be.cell e0 p); (have p1 := fun p : Be wo => Be.cell e1 p); (have p2 := fun p : Be wo => Be.cell e2 p); (have p3 := fun p : Be wo => Be.cell e3 p); (have p4 := fun p : Be wo => Be.cell e4 p); (have p5 := fun p : Be wo => Be.cell e5 p); (have p6 := fun p : Be wo => Be.cell e6 p); (have p7 := fun p : Be wo => Be.cell e7 p); (have p8 := fun p : Be wo => Be.cell e8 p); (have p9 := fun p : Be wo => Be.cell e9 p); (have p10 := fun p : Be wo => Be.cell e10 p)
          (have q0 := fun p : Be wo => Be.cell f0 p); (have q1 := fun p : Be wo => Be.cell f1 p); (have q2 := fun p : Be wo => Be.cell f2 p); (have q3 := fun p : Be wo => Be.cell f3 p); (have q4 := fun p : Be wo => Be.cell f4 p); (have q5 := fun p : Be wo => Be.cell f5 p); (have q6 := fun p : Be wo => Be.cell f6 p); (have q7 := fun p : Be wo => Be.cell f7 p); (have q8 := fun p : Be wo => Be.cell f8 p); (have q9 := fun p : Be wo => Be.cell f9 p); (have q10 := fun p : Be wo => Be.cell f10 p)
          clear e0 e1 e2 e3 e4 e5 e6 e7 e8 e9 e10 f0 f1 f2 f3 f4 f5 f6 f7 f8 f9 f10
          go_wp2
          refine region_be (by kernel_rfl) (by kernel_rfl) ?_
          repeat (quiet_step (first | (go_at_call 61; with_reducible exact Calls.be_of ((same_any x.pkg y.pkg r1 r2 _ (HA1.out.kept (Be.kept _)) (HA2.out.kept (Be.kept _))).mono fun _ _ h => ⟨h.1.trans (congrArg (fun b => Ending.returned (Value.bool b)) HSM.out), h.2⟩))))
          refine wpQuiet_nil ?_
          intro _ hw'
          obtain ⟨pb, hw''⟩ := hw'
          subst hw''
          obtain ⟨W2, hbw⟩ := pb
          dsimp only
          clear p0 p1 p2 p3 p4 p5 p6 p7 p8 p9 p10 q0 q1 q2 q3 q4 q5 q6 q7 q8 q9 q10
          go_wp2
          go_ret
          have hf : decide (l = m) = false := by
            rw [decide_eq_false_iff_not]
            intro h
            have h1 := HX.out
            rw [h, HY.out] at h1
            exact HNE.out (Option.some.inj h1).symm
          exact ⟨by rw [hf]; rfl, by have hb0 := HB.out; (repeat (first | assumption | exact Below.refl _ _ | refine below_next ?_ (by assumption) | refine below_drewN ?_ _ | refine below_alloc ?_ _))⟩
      · go_wp2
        go_ret
        have hn := HN.out
        rw [List.take_of_length_le (by omega), List.take_of_length_le (by omega)] at hn
        exact ⟨by simp [hn], HB.out⟩
  · have hlb : ((l.length : Int) != (m.length : Int)) = true := by rw [bne_iff_ne]; omega
    go_enter Tryz.func20, Tryz.ntmps20
    go_wp2
    go_ret
    have hf : decide (l = m) = false := by
      rw [decide_eq_false_iff_not]
      intro h
      exact hlen (by rw [h])
    exact ⟨by rw [hf]; rfl, Below.refl _ _⟩
end Go.Proofs.YtaicidbopgnmfaaGreatDoor
namespace Go.Proofs.YtaicidbopgnmfaaGreatDoor
set_option linter.unusedSimpArgs false
set_option linter.unusedVariables false
open Go.RowKit
theorem idx_casesE {α : Type} (p : α → Bool) (l : List α) : (idxS p l = -1 ∧ l.any p = false) ∨ ∃ (k : Nat) (x : α), idxS p l = k ∧ l[k]? = some x ∧ l.any p = true ∧ p x = true ∧ l.find? p = some x := by
  rcases h : l.findIdx? p with _ | k
  · rw [List.findIdx?_eq_none_iff] at h
    have : l.any p = false := by simpa using h
    exact .inl ⟨idx_no this, this⟩
  · have h2 := h
    rw [List.findIdx?_eq_some_iff_getElem] at h
    obtain ⟨hk, hp, hn⟩ := h
    refine .inr ⟨k, l[k], by simp [idxS, h2], List.getElem?_eq_getElem hk, List.any_eq_true.2 ⟨_, List.getElem_mem hk, hp⟩, hp, ?_⟩
    rw [List.find?_eq_some_iff_getElem]
    exact ⟨hp, k, hk, rfl, fun j hj => by simpa using hn j hj⟩
/-- is the entry of this name held? -/
def holdW (s : List Ent) (n : List UInt8) : Bool := match s.find? (nameE n) with | some x => x.hold | none => false
def wholeF (s : List Ent) (p : Pkg) : Ent := ⟨p, true, holdW s p.name⟩
def wholeS (l : List Pkg) (s : List Ent) : List Ent := l.map (wholeF s)
theorem whole_len (l : List Pkg) (s : List Ent) : (wholeS l s).length = l.length := by simp [wholeS]
theorem whole_pkg {l : List Pkg} {s : List Ent} {x : Ent} (h : x ∈ wholeS l s) : x.pkg ∈ l := by
  obtain ⟨p, hp, rfl⟩ := List.mem_map.1 h
  exact hp
theorem hold_cases (s : List Ent) (n : List UInt8) : (idxS (nameE n) s = -1 ∧ s.any (nameE n) = false ∧ holdW s n = false) ∨ ∃ (k : Nat) (x : Ent), idxS (nameE n) s = k ∧ s[k]? = some x ∧ s.any (nameE n) = true ∧ holdW s n = x.hold := by
  rcases idx_casesE (nameE n) s with ⟨h1, h2⟩ | ⟨k, x, h1, h2, h3, h4, h5⟩
  · refine .inl ⟨h1, h2, ?_⟩
    have : s.find? (nameE n) = none := by rw [List.find?_eq_none]; simpa using h2
    simp [holdW, this]
  · exact .inr ⟨k, x, h1, h2, h3, by simp [holdW, h5]⟩
theorem infEnW : (Tryz.prog.info? 45).map (fun i => (i.zero, i.size, i.bytes)) = some (some (.agg #[.string (bs []), .string (bs []), .slice none 0 0, .slice none 0 0, .slice none 0 0, .slice none 0 0, .slice none 0 0, .slice none 0 0, .bool false, .bool false, .bool false]), 11, 192) := by kernel_rfl
theorem own_entsW {w wr : World} {B : Nat} {v : Value} {l : List Ent} (h : Own wr B 45 11 (REnt w) v l) (hb : Below w.heap.size w wr) (hl : l.length ≤ 1000) : ∃ A c, v = .slice A l.length c ∧ Ents wr A c l := by
  obtain ⟨A, c, rfl, hs⟩ := h.slc (z := 192) (by omega)
  exact ⟨A, c, rfl, Slc.mono hs (Kept.refl _) (fun _ _ h => h.kept (Kept.of_below hb))⟩
end Go.Proofs.YtaicidbopgnmfaaGreatDoor
namespace Go.Proofs.YtaicidbopgnmfaaGreatDoor
set_option linter.unusedSimpArgs false
set_option linter.unusedVariables false
open Go.RowKit
/-- a slice over a block that is known whole -/
theorem slc_blk {α : Type} {w : World} {g t k z n : Nat} {cs : Array Value} {R : List Value → α → Prop} {l : List α} (css : List (List Value)) (hB : Blk w g t cs) (hl : css.length = l.length) (hn : n = l.length)
    (hR : ∀ (i : Nat) (cs : List Value) (x : α), css[i]? = some cs → l[i]? = some x → R cs x ∧ cs.length = k) (hcs : cs.toList = css.flatten) (hz : l.length * z ≤ 140737488351232) (hm : l.length ≤ 1000) (hk : k ≤ 1000) : Slc w k z R (some ⟨g, 0, none⟩) n l := by
  have hlen : css.flatten.length = l.length * k := by
    have h1 := own_lens hl hR
    rw [List.length_flatten, ← hl]
    clear hl hn hR hcs hz hm hB
    induction css with
    | nil => simp
    | cons c css ih =>
      have h2 := h1 c (List.mem_cons_self ..)
      have h3 := ih (fun x hx => h1 x (List.mem_cons_of_mem _ hx))
      simp only [List.map_cons, List.sum_cons, List.length_cons, Nat.succ_mul]
      omega
  have hO : Own w 0 t k R (.slice (some ⟨g, 0, none⟩) l.length l.length) l := ⟨css, hl, hR, hlen, .inr ⟨g, l.length, cs, rfl, Nat.zero_le _, hB, Nat.le_refl _, by unfold maxLen; omega, by
    have : cs.size = cs.toList.length := by simp
    rw [this, hcs, hlen], by rw [hcs, ← hlen, List.take_length]⟩⟩
  obtain ⟨A, c, h1, h2⟩ := hO.slc hz
  injection h1 with h1 h3 h4
  subst h1 h4 hn
  exact h2
theorem ents_one {w : World} {q : Ent} {r : Raw} {g : Nat} (hB : Blk w g 45 #[.string (bs (q).pkg.name), .string (bs (q).pkg.ver), .slice (r).a1 (q).pkg.pre.length (r).c1, .slice (r).a2 (q).pkg.dep.length (r).c2, .slice (r).a3 (q).pkg.rcm.length (r).c3, .slice (r).a4 (q).pkg.con.length (r).c4, .slice (r).a5 (q).pkg.brk.length (r).c5, .slice (r).a6 (q).pkg.prv.length (r).c6, .bool (q).pkg.ess, .bool (q).conf, .bool (q).hold]) (hr : RP w r q.pkg) : Ents w (some ⟨g, 0, none⟩) 1 [q] :=
  slc_blk [encE r q] hB rfl rfl (fun i cs x h1 h2 => by
    rcases i with _ | i
    · simp at h1 h2
      subst h1 h2
      exact ⟨⟨r, rfl, hr⟩, rfl⟩
    · simp at h1) (by simp [encE]) (by show 1 * 192 ≤ _; decide) (by simp) (by decide)
theorem rze_same {w : World} : ∀ r (x y : Ent), x.pkg = y.pkg → RZE w r x → RZE w r y := fun r x y h hz => by
  unfold RZE at hz ⊢
  rwa [← h]
end Go.Proofs.YtaicidbopgnmfaaGreatDoor
