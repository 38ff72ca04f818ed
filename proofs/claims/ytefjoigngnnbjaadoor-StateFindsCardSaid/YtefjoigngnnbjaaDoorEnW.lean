/- Packages as a whole: the contracts of state.Whole and of the reference's Whole. -/
import Derived.Test.YtefjoigngnnbjaaDoorEnA
import Derived.Test.YtefjoigngnnbjaaDoorEnB
import Derived.Test.YtefjoigngnnbjaaDoorSrE
import Derived.Deep.RegionHeld3
namespace Go.Proofs.YtefjoigngnnbjaaDoor
set_option linter.unusedSimpArgs false
set_option linter.unusedVariables false
open Go.RowKit
theorem idx_casesE {α : Type} (p : α → Bool) (l : List α) : (idxS p l = -1 ∧ l.any p = false) ∨ ∃ (k : Nat) (x : α), idxS p l = k ∧ l[k]? = some x ∧ l.any p = true ∧ p x = true ∧ l.find? p = some x := by
  rcases h : l.findIdx? p with _ | k
  · rw [List.findIdx?_eq_none_iff] at h
    have : l.any p = false := by simpa using h
    exact .inl ⟨idx_no this, this⟩
  · have h2 := h
    rw [List.findIdx?_eq_some_iff_getElem] at h
    obtain ⟨hk, hp, hn⟩ := h
    refine .inr ⟨k, l[k], by simp [idxS, h2], List.getElem?_eq_getElem hk, List.any_eq_true.2 ⟨_, List.getElem_mem hk, hp⟩, hp, ?_⟩
    rw [List.find?_eq_some_iff_getElem]
    exact ⟨hp, k, hk, rfl, fun j hj => by simpa using hn j hj⟩
/-- is the entry of this name held? -/
def holdW (s : List Ent) (n : List UInt8) : Bool := match s.find? (nameE n) with | some x => x.hold | none => false
def wholeF (s : List Ent) (p : Pkg) : Ent := ⟨p, true, holdW s p.name⟩
def wholeS (l : List Pkg) (s : List Ent) : List Ent := l.map (wholeF s)
theorem whole_len (l : List Pkg) (s : List Ent) : (wholeS l s).length = l.length := by simp [wholeS]
theorem whole_pkg {l : List Pkg} {s : List Ent} {x : Ent} (h : x ∈ wholeS l s) : x.pkg ∈ l := by
  obtain ⟨p, hp, rfl⟩ := List.mem_map.1 h
  exact hp
theorem hold_cases (s : List Ent) (n : List UInt8) : (idxS (nameE n) s = -1 ∧ s.any (nameE n) = false ∧ holdW s n = false) ∨ ∃ (k : Nat) (x : Ent), idxS (nameE n) s = k ∧ s[k]? = some x ∧ s.any (nameE n) = true ∧ holdW s n = x.hold := by
  rcases idx_casesE (nameE n) s with ⟨h1, h2⟩ | ⟨k, x, h1, h2, h3, h4, h5⟩
  · refine .inl ⟨h1, h2, ?_⟩
    have : s.find? (nameE n) = none := by rw [List.find?_eq_none]; simpa using h2
    simp [holdW, this]
  · exact .inr ⟨k, x, h1, h2, h3, by simp [holdW, h5]⟩
theorem infEnW : (Tryd.prog.info? 50).map (fun i => (i.zero, i.size, i.bytes)) = some (some (.agg #[.string (bs []), .string (bs []), .slice none 0 0, .slice none 0 0, .slice none 0 0, .slice none 0 0, .slice none 0 0, .slice none 0 0, .bool false, .bool false, .bool false]), 11, 192) := by kernel_rfl
theorem own_entsW {w wr : World} {B : Nat} {v : Value} {l : List Ent} (h : Own wr B 50 11 (REnt w) v l) (hb : Below w.heap.size w wr) (hl : l.length ≤ 1000) : ∃ A c, v = .slice A l.length c ∧ Ents wr A c l := by
  obtain ⟨A, c, rfl, hs⟩ := h.slc (z := 192) (by omega)
  exact ⟨A, c, rfl, Slc.mono hs (Kept.refl _) (fun _ _ h => h.kept (Kept.of_below hb))⟩
set_option maxRecDepth 100000 in
set_option maxHeartbeats 1000000 in
theorem whole_any (A A' : Option Addr) (c c' : Nat) (l : List Pkg) (s : List Ent) (w : World) (hl : Pkgs w A c l) (hs : Ents w A' c' s) (hf : ∀ p ∈ l, fewOE p) (hn : l.length ≤ 1000) :
    Calls Tryd.prog 21 #[.slice A l.length c, .slice A' s.length c'] w (RetEntsF w (srt eLt (wholeS l s))) := by
  have hbd := hl.bd
  have hbds := hs.bd
  have HL := Lib.hid hl
  have HSs := Lib.hid hs
  have HF := Lib.hid hf
  clear hl hs hf
  go_enter Tryd.func21, Tryd.ntmps21
  go_wp2
  go_loopw [5, 12] (fun v i wr => ∃ (k : Nat) (s' : List Ent), k ≤ l.length ∧ i = .int .i64 k ∧ s' = (l.take k).map (wholeF s) ∧ Below w.heap.size w wr ∧ Own wr w.heap.size 50 11 (REnt w) v s') (fun _ i _ => l.length - (intOf i).toNat)
  case atStart => exact ⟨0, [], Nat.zero_le _, rfl, rfl, Below.refl _ _, Own.nil_ _ _ _ _ _⟩
  case round =>
    obtain ⟨k, s', hk, rfl, hm, hb, ho⟩ := hrel
    obtain ⟨wo, rfl⟩ : ∃ wo : World, wo = wr := ⟨_, rfl⟩
    have HB := Lib.hid hb
    have HO := Lib.hid ho
    have HM := Lib.hid hm
    have hsl : s'.length = k := by rw [hm, List.length_map, List.length_take]; omega
    have HSl := Lib.hid hsl
    clear hb ho hm hsl
    by_cases hlt : k < l.length
    · obtain ⟨q, b, o, r, hq, rfl, hr, e0, e1, e2, e3, e4, e5, e6, e7, e8⟩ := HL.out.at_ hlt (Kept.of_below HB.out)
      have HQ := Lib.hid hq
      have HRq := Lib.hid (show RP w r (Ent.mk q true true).pkg from hr)
      clear hq hr
      go_wp2_with fail
      clear e0 e1 e2 e3 e4 e5 e6 e7 e8
      refine (sfind_any _ _ s q.name _ (HSs.out.kept ((Kept.of_below HB.out).trans (Kept.alloc _ _)))).mono ?_
      rintro e w1 ⟨rfl, hb1⟩
      obtain ⟨wr, rfl⟩ : ∃ wr : World, wr = wo := ⟨_, rfl⟩
      have KB := Lib.hid ((blk_new1 wr 28 #[.string (bs (q).name), .string (bs (q).ver), .slice (r).a1 (q).pre.length (r).c1, .slice (r).a2 (q).dep.length (r).c2, .slice (r).a3 (q).rcm.length (r).c3, .slice (r).a4 (q).con.length (r).c4, .slice (r).a5 (q).brk.length (r).c5, .slice (r).a6 (q).prv.length (r).c6, .bool (q).ess]).next hb1)
      have HB1 := Lib.hid (below_next (below_alloc HB.out _) hb1)
      have HO1 := Lib.hid ((HO.out.alloc _).next hb1)
      clear hb1 HB HO
      rcases hold_cases s q.name with ⟨h1, h2, h3⟩ | ⟨j, x, h1, hx, h2, h3⟩
      · rw [h1, h2]
        have HHD := Lib.hid h3
        clear h1 h2 h3
        go_wp2_with fail
        obtain ⟨g0, g1, g2, g3, g4, g5, g6, g7, g8⟩ := blk9 KB.out
        refine wp_region_any (by kernel_rfl) ?_
        try (change wpAny _ _ _ _ _ _ _ (World.drew _))
        (refine wpAny_take (i := 0) (v := _) rfl (by kernel_rfl) (by kernel_rfl) (by kernel_rfl) (fun _ _ _ h => h) (Or.inl ⟨by kernel_rfl, by (intro w; go_simp; first | done | with_reducible rfl)⟩) ?_; try simp only [Act.put, List.setIfInBounds_toArray, List.set_cons_zero, List.set_cons_succ])
        (refine wpAny_take (i := 2) (v := _) rfl (by kernel_rfl) (by kernel_rfl) (by kernel_rfl) (fun _ _ _ h => h) (Or.inl ⟨by kernel_rfl, by (intro w; go_simp; first | done | with_reducible rfl)⟩) ?_; try simp only [Act.put, List.setIfInBounds_toArray, List.set_cons_zero, List.set_cons_succ])
        (refine wpAny_take (i := 3) (v := .bool false) rfl (by kernel_rfl) (by kernel_rfl) (by kernel_rfl) (fun _ _ _ h => h) (Or.inl ⟨by kernel_rfl, by (intro w; go_simp; first | done | with_reducible rfl)⟩) ?_; try simp only [Act.put, List.setIfInBounds_toArray, List.set_cons_zero, List.set_cons_succ])
        (refine wpAny_take (i := 4) (v := undef) rfl (by kernel_rfl) (by kernel_rfl) (by kernel_rfl) (fun _ _ _ h => h) (Or.inr ⟨by kernel_rfl, rfl⟩) ?_; try simp only [Act.put, List.setIfInBounds_toArray, List.set_cons_zero, List.set_cons_succ])
        (refine wpAny_take (i := 5) (v := undef) rfl (by kernel_rfl) (by kernel_rfl) (by kernel_rfl) (fun _ _ _ h => h) (Or.inr ⟨by kernel_rfl, rfl⟩) ?_; try simp only [Act.put, List.setIfInBounds_toArray, List.set_cons_zero, List.set_cons_succ])
        (refine wpAny_take (i := 6) (v := undef) rfl (by kernel_rfl) (by kernel_rfl) (by kernel_rfl) (fun _ _ _ h => h) (Or.inr ⟨by kernel_rfl, rfl⟩) ?_; try simp only [Act.put, List.setIfInBounds_toArray, List.set_cons_zero, List.set_cons_succ])
        (refine wpAny_take (i := 7) (v := undef) rfl (by kernel_rfl) (by kernel_rfl) (by kernel_rfl) (fun _ _ _ h => h) (Or.inr ⟨by kernel_rfl, rfl⟩) ?_; try simp only [Act.put, List.setIfInBounds_toArray, List.set_cons_zero, List.set_cons_succ])
        (refine wpAny_take (i := 8) (v := undef) rfl (by kernel_rfl) (by kernel_rfl) (by kernel_rfl) (fun _ _ _ h => h) (Or.inr ⟨by kernel_rfl, rfl⟩) ?_; try simp only [Act.put, List.setIfInBounds_toArray, List.set_cons_zero, List.set_cons_succ])
        (refine wpAny_take (i := 9) (v := .bool false) rfl (by kernel_rfl) (by kernel_rfl) (by kernel_rfl) (fun _ _ _ h => h) (Or.inl ⟨by kernel_rfl, by (intro w; go_simp; first | done | with_reducible rfl)⟩) ?_; try simp only [Act.put, List.setIfInBounds_toArray, List.set_cons_zero, List.set_cons_succ])
        (refine wpAny_ready (rs := [1]) (by kernel_rfl) (by simp) ?_; refine AllReady.cons rfl (fun K hK => ?_) AllReady.nil; go_simp; refine hK _ _ ?_; clear hK K; try simp only [Act.put, List.setIfInBounds_toArray, List.set_cons_zero, List.set_cons_succ])
        (refine wpAny_take (i := 10) (v := _) rfl (by kernel_rfl) (by kernel_rfl) (by kernel_rfl) (fun _ _ _ h => h) (Or.inl ⟨by kernel_rfl, by (intro w; go_simp; first | done | with_reducible rfl)⟩) ?_; try simp only [Act.put, List.setIfInBounds_toArray, List.set_cons_zero, List.set_cons_succ])
        (refine wpAny_ready (rs := [11]) (by kernel_rfl) (by simp) ?_; refine AllReady.cons rfl (fun K hK => ?_) AllReady.nil; go_simp; refine hK _ _ ?_; clear hK K; try simp only [Act.put, List.setIfInBounds_toArray, List.set_cons_zero, List.set_cons_succ])
        refine wpAny_ready (rs := [12]) (by kernel_rfl) (by simp) ?_
        refine AllReady.cons rfl (fun K hK => ?_) AllReady.nil
        refine step_append_el (by rfl) _ _ 23 (by rfl) w.heap.size 50 _ 11 192 Tryd.underlying23 infEnW rfl (by omega) (REnt w) _ s' (by rfl) (HO1.out.alloc _).drew ⟨q, true, false⟩ (encE r ⟨q, true, false⟩) w1.heap.size 1 (by rfl) (blk_new1 _ _ _) ⟨r, rfl, HRq.out⟩ rfl (encE_one _ _) (by rw [HSl.out]; omega) (by omega) (by simp; have := HB1.out.size; omega) ?_
        intro g cap w2 ho2 hg2
        refine hK _ _ ?_
        clear hK K
        try simp only [Act.put, List.setIfInBounds_toArray, List.set_cons_zero, List.set_cons_succ]
        (refine wpAny_take (i := 13) (v := _) rfl (by kernel_rfl) (by kernel_rfl) (by kernel_rfl) (fun _ _ _ h => h) (Or.inl ⟨by kernel_rfl, by (intro w; go_simp; first | done | with_reducible rfl)⟩) ?_; try simp only [Act.put, List.setIfInBounds_toArray, List.set_cons_zero, List.set_cons_succ])
        refine wpAny_done (by kernel_rfl) ?_ _
        all_goals
          go_wp2
          have hb2 := ((HO1.out.alloc _).drew).below (below_drewN (below_alloc HB1.out _) 1) (by simp; have := HB1.out.size; omega) hg2
          go_roundw
          case rel => exact ⟨k + 1, s' ++ [⟨q, true, false⟩], by omega, by simp, by rw [take_step HQ.out, List.map_append, ← HM.out, List.map_singleton, show wholeF s q = ⟨q, true, false⟩ from by unfold wholeF; rw [HHD.out]], hb2, by (try rw [HSl.out]); rw [HSl.out] at ho2; simpa [HSl.out] using ho2⟩
          case measure => (try simp only [intOf]); omega
      · rw [h1, h2]
        have HHD := Lib.hid h3
        clear h1 h2 h3
        have hjl : j < s.length := (List.getElem?_eq_some_iff.1 hx).1
        obtain ⟨x', b2, o2, r2, hx', hA2, -, -, -, -, -, -, -, -, -, -, -, hcw⟩ := HSs.out.at_ hjl (Kept.refl _)
        obtain rfl : x' = x := Option.some.inj (hx'.symm.trans hx)
        subst hA2
        have h0 := Kept.of_below HB1.out _ _ hcw
        have hi0 : (0 : Int) ≤ (j : Int) := Int.natCast_nonneg _
        have hmx : max (0 : Int) (j : Int) = (j : Int) := Int.max_eq_right hi0
        have hjd : (j : Int) < (s.length : Int) := by omega
        have htn : ((j : Int)).toNat = j := Int.toNat_natCast _
        rw [hmx]
        clear hx hx' hmx
        go_wp2_with fail
        generalize x'.hold = hd at HHD hcw h0
        obtain ⟨g0, g1, g2, g3, g4, g5, g6, g7, g8⟩ := blk9 KB.out
        go_region_held3 (fun w' => w'.cell? ⟨wr.heap.size, 0, none⟩ = some (.string (bs q.name)) ∧ w'.cell? ⟨wr.heap.size, 1, none⟩ = some (.string (bs q.ver)) ∧ w'.cell? ⟨wr.heap.size, 2, none⟩ = some (.slice r.a1 q.pre.length r.c1) ∧ w'.cell? ⟨wr.heap.size, 3, none⟩ = some (.slice r.a2 q.dep.length r.c2) ∧ w'.cell? ⟨wr.heap.size, 4, none⟩ = some (.slice r.a3 q.rcm.length r.c3) ∧ w'.cell? ⟨wr.heap.size, 5, none⟩ = some (.slice r.a4 q.con.length r.c4) ∧ w'.cell? ⟨wr.heap.size, 6, none⟩ = some (.slice r.a5 q.brk.length r.c5) ∧ w'.cell? ⟨wr.heap.size, 7, none⟩ = some (.slice r.a6 q.prv.length r.c6) ∧ w'.cell? ⟨wr.heap.size, 8, none⟩ = some (.bool q.ess) ∧ Hid (Blk w' wr.heap.size 28 #[.string (bs (q).name), .string (bs (q).ver), .slice (r).a1 (q).pre.length (r).c1, .slice (r).a2 (q).dep.length (r).c2, .slice (r).a3 (q).rcm.length (r).c3, .slice (r).a4 (q).con.length (r).c4, .slice (r).a5 (q).brk.length (r).c5, .slice (r).a6 (q).prv.length (r).c6, .bool (q).ess]) ∧ w'.cell? ⟨b2, o2 + j * 11 + 10, none⟩ = some (.bool hd)) (first | (have kk := ((HO1.out.alloc _).drew).blk (Blk.drewN (Blk.alloc KB.out _) 1) (by decide) hg2; obtain ⟨q0, q1, q2, q3, q4, q5, q6, q7, q8⟩ := blk9 kk; exact ⟨q0, q1, q2, q3, q4, q5, q6, q7, q8, kk, Kept.of_below hb2 _ _ hcw⟩) | (have hHeld := (by assumption : _ ∧ _ ∧ _ ∧ _ ∧ _ ∧ _ ∧ _ ∧ _ ∧ _ ∧ Hid (Blk _ wr.heap.size _ _) ∧ _); obtain ⟨q0, q1, q2, q3, q4, q5, q6, q7, q8, qB, qh⟩ := hHeld; exact ⟨Kept.alloc _ _ _ _ q0, Kept.alloc _ _ _ _ q1, Kept.alloc _ _ _ _ q2, Kept.alloc _ _ _ _ q3, Kept.alloc _ _ _ _ q4, Kept.alloc _ _ _ _ q5, Kept.alloc _ _ _ _ q6, Kept.alloc _ _ _ _ q7, Kept.alloc _ _ _ _ q8, Blk.alloc qB.out _, Kept.alloc _ _ _ _ qh⟩) | exact ⟨g0, g1, g2, g3, g4, g5, g6, g7, g8, Blk.drewN KB.out 1, h0⟩) ((refine step_append_el (by rfl) _ _ 23 (by rfl) w.heap.size 50 _ 11 192 Tryd.underlying23 infEnW rfl (by omega) (REnt w) _ s' (by rfl) (HO1.out.alloc _).drew ⟨q, true, hd⟩ (encE r ⟨q, true, hd⟩) w1.heap.size 1 (by rfl) (blk_new1 _ _ _) ⟨r, rfl, HRq.out⟩ rfl (encE_one _ _) (by rw [HSl.out]; omega) (by omega) (by simp; have := HB1.out.size; omega) ?_; intro g cap w2 ho2 hg2; have hb2 := ((HO1.out.alloc _).drew).below (below_drewN (below_alloc HB1.out _) 1) (by simp; have := HB1.out.size; omega) hg2))
        all_goals
          go_wp2
          go_roundw
          case rel => exact ⟨k + 1, s' ++ [⟨q, true, hd⟩], by omega, by simp, by rw [take_step HQ.out, List.map_append, ← HM.out, List.map_singleton, show wholeF s q = ⟨q, true, hd⟩ from by unfold wholeF; rw [HHD.out]], hb2, by (try rw [HSl.out]); rw [HSl.out] at ho2; simpa [HSl.out] using ho2⟩
          case measure => (try simp only [intOf]); omega
    · have hm := HM.out
      rw [List.take_of_length_le (by omega)] at hm
      obtain ⟨As, cs, rfl, hs⟩ := own_entsW HO.out HB.out (by rw [HSl.out]; omega)
      have HS := Lib.hid hs
      have HF2 := Lib.hid (show ∀ x ∈ s', fewOE x.pkg from fun x hx => HF.out _ (whole_pkg (show x ∈ wholeS l s from by rw [hm] at hx; exact hx)))
      have HSd := Lib.hid (show srt eLt s' = srt eLt (wholeS l s) from by rw [hm]; rfl)
      clear hm hs HO HM
      go_wp2_with fail
      refine (sortedE_any _ _ s' _ HS.out HF2.out (by rw [HSl.out]; omega)).mono ?_
      rintro e w5 ⟨v5, rfl, ho5, hb5⟩
      rw [HSd.out] at ho5
      have HO5 := Lib.hid ho5
      have HB5 := Lib.hid (below_next HB.out hb5)
      have hbs := HB.out.size
      clear ho5 hb5
      go_wp2
      go_ret
      exact ⟨_, rfl, HO5.out.down hbs, HB5.out⟩
end Go.Proofs.YtefjoigngnnbjaaDoor
