/- Packages as a whole: the contract of the reference's Whole. -/
import Derived.Test.YtefjoigngnnbjaaDoorEnW
namespace Go.Proofs.YtefjoigngnnbjaaDoor
set_option linter.unusedSimpArgs false
set_option linter.unusedVariables false
open Go.RowKit
theorem own_setE {α : Type} {wr w1 : World} {B : Nat} {e : TypeId} {k : Nat} {R : List Value → α → Prop} {v : Value} {l : List α} {g : Nat} (h : Own wr B e k R v l) (hg : wr.heap.size ≤ g) (hk : Own w1 B e k R v l) (i : Nat) (u : Value) : Own (w1.setCell ⟨g, i, none⟩ u) B e k R v l :=
  hk.same fun g' hg' => by
    obtain ⟨_, _, hc⟩ := h.base hg'
    have := heap_lt hc
    exact Below.heap_setCell w1 ⟨g, i, none⟩ u g' (by show g' ≠ g; omega)
theorem size_setCell (w : World) (p : Addr) (u : Value) : (w.setCell p u).heap.size = w.heap.size := by simp [World.setCell]
set_option maxRecDepth 100000 in
set_option maxHeartbeats 1000000 in
theorem rwhole_any (A A' : Option Addr) (c c' : Nat) (l : List Pkg) (s : List Ent) (w : World) (hl : Pkgs w A c l) (hs : Ents w A' c' s) (hn : l.length ≤ 1000) :
    Calls Tryd.prog 22 #[.slice A l.length c, .slice A' s.length c'] w (RetEnts w (srt eLt (wholeS l s))) := by
  have hbd := hl.bd
  have hbds := hs.bd
  have HL := Lib.hid hl
  have HSs := Lib.hid hs
  clear hl hs
  go_enter Tryd.func22, Tryd.ntmps22
  go_wp2
  go_loopw [5, 12] (fun v i wr => ∃ (k : Nat) (s' : List Ent), k ≤ l.length ∧ i = .int .i64 k ∧ s' = (l.take k).map (wholeF s) ∧ Below w.heap.size w wr ∧ Own wr w.heap.size 50 11 (REnt w) v s') (fun _ i _ => l.length - (intOf i).toNat)
  case atStart => exact ⟨0, [], Nat.zero_le _, rfl, rfl, Below.refl _ _, Own.nil_ _ _ _ _ _⟩
  case round =>
    obtain ⟨k, s', hk, rfl, hm, hb, ho⟩ := hrel
    have HB := Lib.hid hb
    have HO := Lib.hid ho
    have HM := Lib.hid hm
    have hsl : s'.length = k := by rw [hm, List.length_map, List.length_take]; omega
    have HSl := Lib.hid hsl
    clear hb ho hm hsl
    by_cases hlt : k < l.length
    · obtain ⟨q, b, o, r, hq, rfl, hr, e0, e1, e2, e3, e4, e5, e6, e7, e8⟩ := HL.out.at_ hlt (Kept.of_below HB.out)
      have HQ := Lib.hid hq
      have HRq := Lib.hid (show RP w r (Ent.mk q true true).pkg from hr)
      clear hq hr
      go_wp2_with fail
      clear e0 e1 e2 e3 e4 e5 e6 e7 e8
      refine (rfind_any _ _ s q.name _ (HSs.out.kept (((Kept.of_below HB.out).trans (Kept.alloc _ _)).trans (Kept.alloc _ _)))).mono ?_
      rintro e w1 ⟨rfl, hb1⟩
      have KE := Lib.hid ((blk_new2 wr (.cells #[.string (bs (q).name), .string (bs (q).ver), .slice (r).a1 (q).pre.length (r).c1, .slice (r).a2 (q).dep.length (r).c2, .slice (r).a3 (q).rcm.length (r).c3, .slice (r).a4 (q).con.length (r).c4, .slice (r).a5 (q).brk.length (r).c5, .slice (r).a6 (q).prv.length (r).c6, .bool (q).ess] 28) 50 #[.string (bs (q).name), .string (bs (q).ver), .slice (r).a1 (q).pre.length (r).c1, .slice (r).a2 (q).dep.length (r).c2, .slice (r).a3 (q).rcm.length (r).c3, .slice (r).a4 (q).con.length (r).c4, .slice (r).a5 (q).brk.length (r).c5, .slice (r).a6 (q).prv.length (r).c6, .bool (q).ess, .bool true, .bool false]).next hb1)
      have HB1 := Lib.hid (below_next (below_alloc (below_alloc HB.out _) _) hb1)
      have HO1 := Lib.hid (((HO.out.alloc _).alloc _).next hb1)
      clear hb1
      rcases hold_cases s q.name with ⟨h1, h2, h3⟩ | ⟨j, x, h1, hx, h2, h3⟩
      · rw [h1]
        have HHD := Lib.hid h3
        clear h1 h2 h3
        obtain ⟨W, rfl⟩ : ∃ W : World, W = w1 := ⟨_, rfl⟩
        go_upto_region 9 with (fail)
        obtain ⟨f0, f1, f2, f3, f4, f5, f6, f7, f8, f9, f10⟩ := blk11 KE.out
        go_wp2_with (at_builtin; refine wpList_append_el (by rfl) _ _ 23 (by rfl) w.heap.size 50 _ 11 192 Tryd.underlying23 infEnW rfl (by omega) (REnt w) _ s' (by rfl) (HO1.out.alloc _) ⟨q, true, false⟩ (encE r ⟨q, true, false⟩) W.heap.size 1 (by rfl) (blk_new1 _ _ _) ⟨r, rfl, HRq.out⟩ rfl (encE_one _ _) (by rw [HSl.out]; omega) (by omega) (by simp; have := HB1.out.size; omega) ?_; intro g cap w2 ho2 hg2)
        have hb2 := (HO1.out.alloc _).below (below_alloc HB1.out _) (by simp; have := HB1.out.size; omega) hg2
        go_roundw
        case rel => exact ⟨k + 1, s' ++ [⟨q, true, false⟩], by omega, by simp, by rw [take_step HQ.out, List.map_append, ← HM.out, List.map_singleton, show wholeF s q = ⟨q, true, false⟩ from by unfold wholeF; rw [HHD.out]], hb2, by (try rw [HSl.out]); rw [HSl.out] at ho2; simpa [HSl.out] using ho2⟩
        case measure => (try simp only [intOf]); omega
      · rw [h1]
        have HHD := Lib.hid h3
        clear h1 h2 h3
        have hjl : j < s.length := (List.getElem?_eq_some_iff.1 hx).1
        obtain ⟨x', b2, o2, r2, hx', hA2, -, -, -, -, -, -, -, -, -, -, -, hcw⟩ := HSs.out.at_ hjl (Kept.of_below HB1.out)
        obtain rfl : x' = x := Option.some.inj (hx'.symm.trans hx)
        subst hA2
        have hi0 : (0 : Int) ≤ (j : Int) := Int.natCast_nonneg _
        have hjd : (j : Int) < (s.length : Int) := by omega
        have htn : ((j : Int)).toNat = j := Int.toNat_natCast _
        clear hx hx'
        generalize x'.hold = hd at HHD hcw
        obtain ⟨-, -, -, -, -, -, -, -, -, -, hc10⟩ := blk11 KE.out
        have hfr : w1.frozen? ⟨wr.heap.size + 1, 10, none⟩ = false := KE.out.frozen 10
        have hlt1 : wr.heap.size + 1 < w1.heap.size := KE.out.lt
        go_upto_region 9 with (fail)
        generalize hW : World.setCell w1 _ _ = W
        have KE := Lib.hid (show Blk W (wr.heap.size + 1) 50 #[.string (bs (q).name), .string (bs (q).ver), .slice (r).a1 (q).pre.length (r).c1, .slice (r).a2 (q).dep.length (r).c2, .slice (r).a3 (q).rcm.length (r).c3, .slice (r).a4 (q).con.length (r).c4, .slice (r).a5 (q).brk.length (r).c5, .slice (r).a6 (q).prv.length (r).c6, .bool (q).ess, .bool true, .bool hd] from hW ▸ KE.out.set_ 10 (.bool hd))
        have HB1 := Lib.hid (show Below w.heap.size w W from hW ▸ own_below1 (g := wr.heap.size + 1) (i := 10) HB1.out (by have := HB.out.size; omega) (.bool hd))
        have HO1 := Lib.hid (show Own W w.heap.size 50 11 (REnt w) _ s' from hW ▸ own_setE (g := wr.heap.size + 1) HO.out (Nat.le_succ _) HO1.out 10 (.bool hd))
        clear hW hfr hlt1 hcw hc10
        obtain ⟨f0, f1, f2, f3, f4, f5, f6, f7, f8, f9, f10⟩ := blk11 KE.out
        go_wp2_with (at_builtin; refine wpList_append_el (by rfl) _ _ 23 (by rfl) w.heap.size 50 _ 11 192 Tryd.underlying23 infEnW rfl (by omega) (REnt w) _ s' (by rfl) (HO1.out.alloc _) ⟨q, true, hd⟩ (encE r ⟨q, true, hd⟩) W.heap.size 1 (by rfl) (blk_new1 _ _ _) ⟨r, rfl, HRq.out⟩ rfl (encE_one _ _) (by rw [HSl.out]; omega) (by omega) (by simp; have := HB1.out.size; omega) ?_; intro g cap w2 ho2 hg2)
        have hb2 := (HO1.out.alloc _).below (below_alloc HB1.out _) (by simp; have := HB1.out.size; omega) hg2
        go_roundw
        case rel => exact ⟨k + 1, s' ++ [⟨q, true, hd⟩], by omega, by simp, by rw [take_step HQ.out, List.map_append, ← HM.out, List.map_singleton, show wholeF s q = ⟨q, true, hd⟩ from by unfold wholeF; rw [HHD.out]], hb2, by (try rw [HSl.out]); rw [HSl.out] at ho2; simpa [HSl.out] using ho2⟩
        case measure => (try simp only [intOf]); omega
    · have hm := HM.out
      rw [List.take_of_length_le (by omega)] at hm
      obtain ⟨As, cs, rfl, hs⟩ := own_entsW HO.out HB.out (by rw [HSl.out]; omega)
      have HS := Lib.hid hs
      have HSd := Lib.hid (show srt eLt s' = srt eLt (wholeS l s) from by rw [hm]; rfl)
      clear hm hs HO HM
      go_wp2_with fail
      refine (rSortedE_any _ _ s' _ HS.out (by rw [HSl.out]; omega)).mono ?_
      rintro e w5 ⟨A5, c5, rfl, hs5, hb5⟩
      rw [HSd.out] at hs5 ⊢
      have HS5 := Lib.hid hs5
      have HB5 := Lib.hid (below_next HB.out hb5)
      clear hs5 hb5
      go_wp2
      go_ret
      exact ⟨_, _, rfl, HS5.out, HB5.out⟩
end Go.Proofs.YtefjoigngnnbjaaDoor
