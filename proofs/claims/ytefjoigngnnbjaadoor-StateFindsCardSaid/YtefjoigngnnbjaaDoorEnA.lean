/- state.Sorted: its contract. -/
import Derived.Test.YtefjoigngnnbjaaDoorEwB
import Derived.Test.YtefjoigngnnbjaaDoorEcB
import Derived.Test.YtefjoigngnnbjaaDoorSoQ
import Derived.Test.YtefjoigngnnbjaaDoorSrX
import Derived.Test.YtefjoigngnnbjaaDoorVerE
namespace Go.Proofs.YtefjoigngnnbjaaDoor
set_option linter.unusedSimpArgs false
set_option linter.unusedVariables false
open Go.RowKit
attribute [local go_sem ↓] Go.wp_at_zero Go.wp_at_succ

set_option maxRecDepth 100000 in
theorem ecmp_any (x y : Ent) (r s : Raw) (w : World) :
    Calls Tryd.prog 38 #[(.agg #[.string (bs (x).pkg.name), .string (bs (x).pkg.ver), .slice (r).a1 (x).pkg.pre.length (r).c1, .slice (r).a2 (x).pkg.dep.length (r).c2, .slice (r).a3 (x).pkg.rcm.length (r).c3, .slice (r).a4 (x).pkg.con.length (r).c4, .slice (r).a5 (x).pkg.brk.length (r).c5, .slice (r).a6 (x).pkg.prv.length (r).c6, .bool (x).pkg.ess, .bool (x).conf, .bool (x).hold]), (.agg #[.string (bs (y).pkg.name), .string (bs (y).pkg.ver), .slice (s).a1 (y).pkg.pre.length (s).c1, .slice (s).a2 (y).pkg.dep.length (s).c2, .slice (s).a3 (y).pkg.rcm.length (s).c3, .slice (s).a4 (y).pkg.con.length (s).c4, .slice (s).a5 (y).pkg.brk.length (s).c5, .slice (s).a6 (y).pkg.prv.length (s).c6, .bool (y).pkg.ess, .bool (y).conf, .bool (y).hold])] w fun e w' => e = .returned (.int .i64 (cmpB x.pkg.name y.pkg.name)) ∧ Below w.heap.size w w' := by
  go_enter Tryd.func38, Tryd.ntmps38
  go_wp2_with (go_at_call 39; refine (compareStr_any _ _ _).mono ?_; rintro e w3 ⟨rfl, rfl⟩)
  go_ret
  exact ⟨rfl, by (repeat (first | assumption | exact Below.refl _ _ | refine below_next ?_ (by assumption) | refine below_drewN ?_ _ | refine below_alloc ?_ _))⟩
theorem ecmp_ok (Z : Raw → Ent → Prop) : CmpOkE 38 Z eCmp := fun x y r s W _ _ => ecmp_any x y r s W
/-- what an element of the row is -/
def RZE (w : World) (r : Raw) (x : Ent) : Prop := RP (flt TB w) r x.pkg
theorem RZE.keep {w w' : World} {r : Raw} {x : Ent} (h : RZE w r x) (hk : KeepB (fun t => TB t = true) w w') : RZE w' r x := h.fkeep hk
theorem RKE.mono {Z Z' : Raw → Ent → Prop} (h : ∀ r p, Z r p → Z' r p) : ∀ cs x, RKE Z cs x → RKE Z' cs x := fun _ _ ⟨r, h1, h2⟩ => ⟨r, h1, h _ _ h2⟩
theorem infEnS : (Tryd.prog.info? 50).map (fun i => (i.zero, i.size, i.bytes)) = some (some (.agg #[.string (bs []), .string (bs []), .slice none 0 0, .slice none 0 0, .slice none 0 0, .slice none 0 0, .slice none 0 0, .slice none 0 0, .bool false, .bool false, .bool false]), 11, 192) := by kernel_rfl
theorem ne_own {W w2 : World} {B : Nat} {v : Value} {l : List Ent} (ho : Own W B 50 11 (RKE (RZE W)) v l) (hb2 : Below W.heap.size W w2) (o : Obj) : Own (w2.alloc o) B 50 11 (RKE (RZE (w2.alloc o))) v l :=
  ((ho.next hb2).alloc o).mono (RKE.mono fun _ _ h => h.keep ((KeepB.of_below hb2).trans (KeepB.alloc o)))
theorem ne_alloc {W : World} {B : Nat} {v : Value} {l : List Ent} (ho : Own W B 50 11 (RKE (RZE W)) v l) (o : Obj) : Own (W.alloc o) B 50 11 (RKE (RZE (W.alloc o))) v l :=
  (ho.alloc o).mono (RKE.mono fun _ _ h => h.keep (KeepB.alloc o))
/-- a row of entries in memory of its own -/
def RetEntsF (w : World) (s : List Ent) (e : Ending) (w' : World) : Prop := ∃ v, e = .returned v ∧ Own w' w.heap.size 50 11 (RKE (RZE w')) v s ∧ Below w.heap.size w w'
def RetEnts (w : World) (s : List Ent) (e : Ending) (w' : World) : Prop := ∃ A c, e = .returned (.slice A s.length c) ∧ Ents w' A c s ∧ Below w.heap.size w w'
theorem RetEntsF.ents {w w' : World} {s : List Ent} {e : Ending} (h : RetEntsF w s e w') (hz : s.length * 192 ≤ 140737488351232) : RetEnts w s e w' := by
  obtain ⟨v, rfl, h1, h2⟩ := h
  obtain ⟨A, c, rfl, h3⟩ := h1.slc (z := 192) hz
  exact ⟨A, c, rfl, Slc.mono h3 (Kept.refl _) fun cs x ⟨r, e1, e2⟩ => ⟨r, e1, e2.kept (Kept.flt TB _)⟩, h2⟩
theorem sortedE_row {wo w5 : World} {B g n cap : Nat} {l s : List Ent} (h : Own w5 B 50 11 (RKE (RZE wo)) (.slice (some ⟨g, 0, none⟩) n cap) s) (hk : KeepB (fun t => TB t = true) wo w5) : Own w5 B 50 11 (RKE (RZE w5)) (.slice (some ⟨g, 0, none⟩) n cap) s :=
  h.mono (RKE.mono fun _ _ h => RZE.keep h hk)
set_option maxRecDepth 100000 in
set_option maxHeartbeats 4000000 in
theorem sortedE_any (A : Option Addr) (c : Nat) (l : List Ent) (w : World) (hl : Ents w A c l) (hf : ∀ x ∈ l, fewOE x.pkg) (hn : l.length ≤ 1000) :
    Calls Tryd.prog 18 #[.slice A l.length c] w (RetEntsF w (srt eLt l)) := by
  have hbd := hl.bd
  have HL := Lib.hid hl
  have HF := Lib.hid hf
  clear hl hf
  go_enter Tryd.func18, Tryd.ntmps18
  go_wp2
  go_loopw [3, 8] (fun v i wr => ∃ k : Nat, k ≤ l.length ∧ i = .int .i64 k ∧ Below w.heap.size w wr ∧ Own wr w.heap.size 50 11 (RKE (RZE wr)) v (l.take k)) (fun _ i _ => l.length - (intOf i).toNat)
  case atStart => exact ⟨0, Nat.zero_le _, rfl, Below.refl _ _, Own.nil_ _ _ _ _ _⟩
  case round =>
    obtain ⟨k, hk, rfl, hb, ho⟩ := hrel
    obtain ⟨wo, rfl⟩ : ∃ wo : World, wo = wr := ⟨_, rfl⟩
    have HB := Lib.hid hb
    have HO := Lib.hid ho
    clear hb ho
    by_cases hlt : k < l.length
    · obtain ⟨q, b, o, r, hq, rfl, hr, e0, e1, e2, e3, e4, e5, e6, e7, e8, e9, e10⟩ := HL.out.at_ hlt (Kept.of_below HB.out)
      have HQ := Lib.hid hq
      have HR := Lib.hid hr
      have HFq := Lib.hid (HF.out q (List.mem_of_getElem? hq))
      have HS := Lib.hid (show (l.take k).length = k by simp; omega)
      clear hq hr
      go_wp2_with fail
      have HKW := Lib.hid ((Kept.of_below HB.out).trans (Kept.alloc wo (.cells #[.string (bs (q).pkg.name), .string (bs (q).pkg.ver), .slice (r).a1 (q).pkg.pre.length (r).c1, .slice (r).a2 (q).pkg.dep.length (r).c2, .slice (r).a3 (q).pkg.rcm.length (r).c3, .slice (r).a4 (q).pkg.con.length (r).c4, .slice (r).a5 (q).pkg.brk.length (r).c5, .slice (r).a6 (q).pkg.prv.length (r).c6, .bool (q).pkg.ess, .bool (q).conf, .bool (q).hold] 50)))
      have HBW := Lib.hid (below_alloc HB.out (.cells #[.string (bs (q).pkg.name), .string (bs (q).pkg.ver), .slice (r).a1 (q).pkg.pre.length (r).c1, .slice (r).a2 (q).pkg.dep.length (r).c2, .slice (r).a3 (q).pkg.rcm.length (r).c3, .slice (r).a4 (q).pkg.con.length (r).c4, .slice (r).a5 (q).pkg.brk.length (r).c5, .slice (r).a6 (q).pkg.prv.length (r).c6, .bool (q).pkg.ess, .bool (q).conf, .bool (q).hold] 50))
      have HOW := Lib.hid (ne_alloc HO.out (.cells #[.string (bs (q).pkg.name), .string (bs (q).pkg.ver), .slice (r).a1 (q).pkg.pre.length (r).c1, .slice (r).a2 (q).pkg.dep.length (r).c2, .slice (r).a3 (q).pkg.rcm.length (r).c3, .slice (r).a4 (q).pkg.con.length (r).c4, .slice (r).a5 (q).pkg.brk.length (r).c5, .slice (r).a6 (q).pkg.prv.length (r).c6, .bool (q).pkg.ess, .bool (q).conf, .bool (q).hold] 50))
      clear e0 e1 e2 e3 e4 e5 e6 e7 e8 e9 e10
      refine (ownE_any q r _ (HR.out.kept HKW.out) HFq.out).mono ?_
      rintro e w2 ⟨r2, rfl, hr2, hb2⟩
      have HO2 := Lib.hid (ne_own HOW.out hb2 (.cells #[.string (bs (q).pkg.name), .string (bs (q).pkg.ver), .slice (r2).a1 (q).pkg.pre.length (r2).c1, .slice (r2).a2 (q).pkg.dep.length (r2).c2, .slice (r2).a3 (q).pkg.rcm.length (r2).c3, .slice (r2).a4 (q).pkg.con.length (r2).c4, .slice (r2).a5 (q).pkg.brk.length (r2).c5, .slice (r2).a6 (q).pkg.prv.length (r2).c6, .bool (q).pkg.ess, .bool (q).conf, .bool (q).hold] 50))
      have HZ2 := Lib.hid (show RZE (w2.alloc (.cells #[.string (bs (q).pkg.name), .string (bs (q).pkg.ver), .slice (r2).a1 (q).pkg.pre.length (r2).c1, .slice (r2).a2 (q).pkg.dep.length (r2).c2, .slice (r2).a3 (q).pkg.rcm.length (r2).c3, .slice (r2).a4 (q).pkg.con.length (r2).c4, .slice (r2).a5 (q).pkg.brk.length (r2).c5, .slice (r2).a6 (q).pkg.prv.length (r2).c6, .bool (q).pkg.ess, .bool (q).conf, .bool (q).hold] 50)) r2 q from hr2.fkeep (KeepB.alloc _))
      have HB2 := Lib.hid (below_alloc (below_next HBW.out hb2) (.cells #[.string (bs (q).pkg.name), .string (bs (q).pkg.ver), .slice (r2).a1 (q).pkg.pre.length (r2).c1, .slice (r2).a2 (q).pkg.dep.length (r2).c2, .slice (r2).a3 (q).pkg.rcm.length (r2).c3, .slice (r2).a4 (q).pkg.con.length (r2).c4, .slice (r2).a5 (q).pkg.brk.length (r2).c5, .slice (r2).a6 (q).pkg.prv.length (r2).c6, .bool (q).pkg.ess, .bool (q).conf, .bool (q).hold] 50))
      clear hr2 hb2 HB HO
      go_wp2_with (at_builtin; refine wpList_append_el (by rfl) _ _ 23 (by rfl) w.heap.size 50 _ 11 192 Tryd.underlying23 infEnS rfl (by omega) (RKE (RZE (w2.alloc (.cells #[.string (bs (q).pkg.name), .string (bs (q).pkg.ver), .slice (r2).a1 (q).pkg.pre.length (r2).c1, .slice (r2).a2 (q).pkg.dep.length (r2).c2, .slice (r2).a3 (q).pkg.rcm.length (r2).c3, .slice (r2).a4 (q).pkg.con.length (r2).c4, .slice (r2).a5 (q).pkg.brk.length (r2).c5, .slice (r2).a6 (q).pkg.prv.length (r2).c6, .bool (q).pkg.ess, .bool (q).conf, .bool (q).hold] 50)))) _ _ (by rfl) HO2.out q (encE r2 q) w2.heap.size 1 (by rfl) (blk_new1 _ _ _) ⟨r2, rfl, HZ2.out⟩ rfl (encE_one _ _) (by rw [HS.out]; omega) (by omega) HB2.out.size ?_; intro g cap w4 ho4 hg4)
      have hb4 := HO2.out.below HB2.out HB2.out.size hg4
      have hk4 := HO2.out.keep (T := fun t => TB t = true) hg4 (by decide)
      go_roundw
      case rel => exact ⟨k + 1, by omega, by simp, hb4, by rw [take_step HQ.out]; (try rw [HS.out] at ho4); exact ho4.mono (RKE.mono fun _ _ h => RZE.keep h hk4)⟩
      case measure => (try simp only [intOf]); omega
    · have ho := HO.out
      rw [take_end hk hlt] at ho
      rcases own_form ho with ⟨rfl, hl0⟩ | ⟨g, cap, rfl⟩
      · subst hl0
        clear ho HO
        go_wp2_with (go_at_call 37; refine (sortE_nil _ _).mono ?_; rintro e w5 ⟨rfl, rfl⟩)
        go_ret
        exact ⟨_, rfl, Own.nil_ _ _ _ _ _, HB.out⟩
      · have hst := Lib.hid (sortE_any w.heap.size (RZE wo) eCmp (ecmp_ok _) eSW g cap l.length l wo ho rfl (by omega) (srt eLt l) rfl)
        have HOf := Lib.hid ho
        clear ho HO
        go_wp2_with fail
        refine hst.out.mono ?_
        rintro e w5 ⟨rfl, ho5, hg5⟩
        have hk5 := HOf.out.keep (T := fun t => TB t = true) hg5 (by decide)
        have HB5 := Lib.hid (HOf.out.below HB.out HB.out.size hg5)
        have HR5 := Lib.hid (sortedE_row (l := l) ho5 hk5)
        clear ho5 hg5 hst hk5
        go_wp2
        go_ret
        exact ⟨_, rfl, HR5.out, HB5.out⟩
end Go.Proofs.YtefjoigngnnbjaaDoor
