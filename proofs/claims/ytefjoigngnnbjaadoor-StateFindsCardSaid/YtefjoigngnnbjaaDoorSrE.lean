/- The contract of the reference's SortedEntries. -/
import Derived.Test.YtefjoigngnnbjaaDoorSrX
import Derived.Test.YtefjoigngnnbjaaDoorSoQ
import Derived.Test.YtefjoigngnnbjaaDoorMk
import Derived.Test.YtefjoigngnnbjaaDoorQk
import Derived.Test.YtefjoigngnnbjaaDoorVerA
import Derived.Deep.RegionLaw
import Derived.Deep.DrawnRows
import Derived.Deep.RegionHeld3
namespace Go.Proofs.YtefjoigngnnbjaaDoor
set_option linter.unusedSimpArgs false
set_option linter.unusedVariables false
open Go.RowKit
attribute [local go_sem ↓] Go.wp_at_zero Go.wp_at_succ
attribute [local irreducible] wpQuiet
theorem infEntE : (Tryd.prog.info? 50).map (fun i => (i.zero, i.size, i.bytes)) = some (some (.agg #[.string (bs []), .string (bs []), .slice none 0 0, .slice none 0 0, .slice none 0 0, .slice none 0 0, .slice none 0 0, .slice none 0 0, .bool false, .bool false, .bool false]), 11, 192) := by kernel_rfl
theorem entE_one {w : World} : ∀ cs y, REnt w cs y → ∀ u ∈ cs, u.oneCell' = true := fun cs y ⟨r, h, _⟩ u hu => by
  subst h
  exact encE_one r y u hu
theorem eLt_bl {p x : Ent} (h : Op.bytesLess x.pkg.name p.pkg.name = true) : eLt p x = false := by
  have h1 : cmpB x.pkg.name p.pkg.name = -1 := by simp [cmpB, h]
  have h2 := cmpB_swap x.pkg.name p.pkg.name
  rw [h1] at h2
  simp [eLt, eCmp, h2]
theorem eLt_ne {p x : Ent} (h : Op.bytesLess x.pkg.name p.pkg.name = false) (hne : x.pkg.name ≠ p.pkg.name) : eLt p x = true := by
  have h1 : cmpB x.pkg.name p.pkg.name = 1 := by simp [cmpB, h, hne]
  have h2 := cmpB_swap x.pkg.name p.pkg.name
  rw [h1] at h2
  simp [eLt, eCmp, h2]
theorem eLt_eq {p x : Ent} (h : x.pkg.name = p.pkg.name) : eLt p x = false := by
  have h1 : cmpB p.pkg.name x.pkg.name = 0 := cmpB_zero.2 h.symm
  simp [eLt, eCmp, h1]
theorem Ents.of_own {w W : World} {B : Nat} {v : Value} {l : List Ent} (h : Own W B 50 11 (REnt w) v l) (hb : Below w.heap.size w W) (hz : l.length * 192 ≤ 140737488351232) : ∃ A c, v = .slice A l.length c ∧ Ents W A c l ∧ ((A = none ∧ c = 0 ∧ l = []) ∨ ∃ g, A = some ⟨g, 0, none⟩) := by
  have hf := own_form h
  obtain ⟨A, c, h1, h2⟩ := h.slc (z := 192) hz
  refine ⟨A, c, h1, Slc.mono h2 (Kept.refl _) fun cs x ⟨r, e1, e2⟩ => ⟨r, e1, e2.kept (Kept.of_below hb)⟩, ?_⟩
  rcases hf with ⟨hf, hl⟩ | ⟨g, cap, hf⟩
  · rw [hf] at h1
    injection h1 with h1 h3 h4
    exact .inl ⟨h1.symm, h4.symm, hl⟩
  · rw [hf] at h1
    injection h1 with h1 h3 h4
    exact .inr ⟨g, h1.symm⟩
set_option maxRecDepth 100000 in
set_option maxHeartbeats 4000000 in
theorem rSortedE_any (A : Option Addr) (c : Nat) (l : List Ent) (w : World) (hl : Ents w A c l) (hn : l.length ≤ 1000) :
    Calls Tryd.prog 19 #[.slice A l.length c] w fun e w' => ∃ B d, e = .returned (.slice B (srt eLt l).length d) ∧ Ents w' B d (srt eLt l) ∧ Below w.heap.size w w' := by
  have hbd := hl.bd
  have HL := Lib.hid hl
  clear hl
  go_enter Tryd.func19, Tryd.ntmps19
  go_wp2
  go_loopw [3, 9] (fun v i wr => ∃ (k : Nat) (s : List Ent), k ≤ l.length ∧ i = .int .i64 k ∧ s = srt eLt (l.take k) ∧ Below w.heap.size w wr ∧ Own wr w.heap.size 50 11 (REnt w) v s) (fun _ i _ => l.length - (intOf i).toNat)
  case atStart => exact ⟨0, [], Nat.zero_le _, rfl, rfl, Below.refl _ _, Own.nil_ _ _ _ _ _⟩
  case round =>
    obtain ⟨k, s, hk, rfl, hs, hb, ho⟩ := hrel
    obtain ⟨wo, rfl⟩ : ∃ wo : World, wo = wr := ⟨_, rfl⟩
    have hsl : s.length ≤ 1000 := by rw [hs, srt_len, List.length_take]; omega
    have hsk : s.length = k := by rw [hs, srt_len, List.length_take]; omega
    have HS := Lib.hid hs
    have HSk := Lib.hid hsk
    have HB := Lib.hid hb
    have HO := Lib.hid ho
    clear hs hsk hb ho
    by_cases hlt : k < l.length
    · obtain ⟨p, b, o, r, hp, rfl, hr, e0, e1, e2, e3, e4, e5, e6, e7, e8, e9, e10⟩ := HL.out.at_ hlt (Kept.of_below HB.out)
      have HP := Lib.hid hp
      have HR := Lib.hid hr
      clear hp hr
      go_wp2
      have K1 := Lib.hid (blk_new1 wo 50 #[.string (bs (p).pkg.name), .string (bs (p).pkg.ver), .slice (r).a1 (p).pkg.pre.length (r).c1, .slice (r).a2 (p).pkg.dep.length (r).c2, .slice (r).a3 (p).pkg.rcm.length (r).c3, .slice (r).a4 (p).pkg.con.length (r).c4, .slice (r).a5 (p).pkg.brk.length (r).c5, .slice (r).a6 (p).pkg.prv.length (r).c6, .bool (p).pkg.ess, .bool (p).conf, .bool (p).hold])
      have HB1 := Lib.hid (below_alloc HB.out (.cells #[.string (bs (p).pkg.name), .string (bs (p).pkg.ver), .slice (r).a1 (p).pkg.pre.length (r).c1, .slice (r).a2 (p).pkg.dep.length (r).c2, .slice (r).a3 (p).pkg.rcm.length (r).c3, .slice (r).a4 (p).pkg.con.length (r).c4, .slice (r).a5 (p).pkg.brk.length (r).c5, .slice (r).a6 (p).pkg.prv.length (r).c6, .bool (p).pkg.ess, .bool (p).conf, .bool (p).hold] 50))
      have HO1 := Lib.hid (HO.out.alloc (.cells #[.string (bs (p).pkg.name), .string (bs (p).pkg.ver), .slice (r).a1 (p).pkg.pre.length (r).c1, .slice (r).a2 (p).pkg.dep.length (r).c2, .slice (r).a3 (p).pkg.rcm.length (r).c3, .slice (r).a4 (p).pkg.con.length (r).c4, .slice (r).a5 (p).pkg.brk.length (r).c5, .slice (r).a6 (p).pkg.prv.length (r).c6, .bool (p).pkg.ess, .bool (p).conf, .bool (p).hold] 50))
      clear e0 e1 e2 e3 e4 e5 e6 e7 e8 e9 e10 HB HO
      generalize World.alloc _ _ = W at K1 HB1 HO1 ⊢
      generalize wo.heap.size = g at K1 ⊢
      obtain ⟨A2, c2, rfl, hps, hA2⟩ := Ents.of_own HO1.out HB1.out (by omega)
      have HA2 := Lib.hid hA2
      clear hA2
      have hbd2 := hps.bd
      have HPS := Lib.hid hps
      clear hps
      go_loopw [6] (fun i wr => ∃ j : Nat, j ≤ s.length ∧ i = .int .i64 j ∧ (∀ x ∈ s.take j, eLt p x = false) ∧ Below W.heap.size W wr) (fun i _ => s.length - (intOf i).toNat)
      case atStart => exact ⟨0, Nat.zero_le _, rfl, fun x hx => by simp at hx, Below.refl _ _⟩
      case round =>
        obtain ⟨j, hj, rfl, hjl, hb⟩ := hrel
        obtain ⟨wi, rfl⟩ : ∃ wi : World, wi = wr := ⟨_, rfl⟩
        have HBi := Lib.hid hb
        have HJ := Lib.hid hjl
        obtain ⟨c0, c1, c2', c3, c4, c5, c6, c7, c8, c9, c10⟩ := blk11 (K1.out.next hb)
        clear hb hjl c1 c2' c3 c4 c5 c6 c7 c8 c9 c10
        have q0 := fun p : Be wi => Be.cell c0 p
        clear c0
        by_cases hjk : j < s.length
        · obtain ⟨x, b', o', t, hx, rfl, ht, f0, f1, f2, f3, f4, f5, f6, f7, f8, f9, f10⟩ := HPS.out.at_ hjk (Kept.of_below HBi.out)
          have HX := Lib.hid hx
          clear hx ht f1 f2 f3 f4 f5 f6 f7 f8 f9 f10
          have u0 := fun p : Be wi => Be.cell f0 p
          clear f0
          have hj0 : (0 : Int) ≤ (j : Int) := Int.natCast_nonneg _
          have hj1 : (j : Int) < (s.length : Int) := by omega
          have hjd : decide ((j : Int) < (s.length : Int)) = true := decide_eq_true hj1
          rcases hbl : Op.bytesLess x.pkg.name p.pkg.name
          · by_cases hne : x.pkg.name = p.pkg.name
            · have hnb : (x.pkg.name == p.pkg.name) = true := by simpa using hne
              have HLT := Lib.hid (eLt_eq hne)
              clear hne
              go_wp2_with fail
              refine region_be (by kernel_rfl) (by kernel_rfl) ?_
              repeat (quiet_step (fail))
              refine wpQuiet_nil ?_
              intro _ hw'
              obtain ⟨pb, hw''⟩ := hw'
              subst hw''
              obtain ⟨W2, hbw⟩ := pb
              dsimp only
              have HB2 := Lib.hid (below_next HBi.out hbw)
              clear hbw
              go_wp2
              go_roundw
              case rel => exact ⟨j + 1, by omega, by simp, fun z hz => (by
                rw [take_step HX.out, List.mem_append, List.mem_singleton] at hz
                rcases hz with hz | rfl
                · exact HJ.out z hz
                · exact HLT.out), HB2.out⟩
              case measure => (try simp only [intOf]); omega
            · have hnb : (x.pkg.name == p.pkg.name) = false := by simpa using hne
              have HEX := Lib.hid (show s.length ≤ j ∨ ∃ x, s[j]? = some x ∧ eLt p x = true from .inr ⟨x, HX.out, eLt_ne hbl hne⟩)
              clear hne
              go_wp2_with fail
              refine region_be (by kernel_rfl) (by kernel_rfl) ?_
              repeat (quiet_step (fail))
              refine wpQuiet_nil ?_
              intro _ hw'
              obtain ⟨pb, hw''⟩ := hw'
              subst hw''
              obtain ⟨W2, hbw⟩ := pb
              dsimp only
              have hj7 : (j : Int) ≤ (c2 : Int) := by omega
              have hj8 : ¬ c2 = j := by omega
              have HIN := Lib.hid (insR_at HJ.out HEX.out)
              have HB2 := Lib.hid (below_next HB1.out (below_next HBi.out hbw))
              have HO2 := Lib.hid (HO1.out.next (below_next HBi.out hbw))
              have K2 := Lib.hid (K1.out.next (below_next HBi.out hbw))
              clear hbw
              have htk : (s.take j).length = j := by rw [List.length_take]; omega
              have HTK := Lib.hid htk
              have HTD := Lib.hid (show (s.drop j).length = (s.length - j) by have h := List.length_drop (i := j) (l := s); omega)
              have HBy1 := Lib.hid (show (([] : List Ent).length + (s.take j).length) * 192 ≤ 140737488355328 by simp; omega)
              have HBy2 := Lib.hid (show ((s.take j).length + 1) * 192 ≤ 140737488355328 by omega)
              have HBy3 := Lib.hid (show ((s.take j ++ [p]).length + (s.drop j).length) * 192 ≤ 140737488355328 by rw [List.length_append, List.length_drop, htk]; simp; omega)
              clear htk
              have HSW := Lib.hid (Own.slcOf (z := 192) HO2.out (by omega))
              have HS1 := Lib.hid (show Slc W2 11 192 (REnt w) (some ⟨b', o', none⟩) c2 (s.take j) from (Slc.take HSW.out j))
              have HS2 := Lib.hid (show Slc W2 11 192 (REnt w) (some ⟨b', o' + j * 11, none⟩) (c2 - j) (s.drop j) from (Slc.drop HSW.out j (by omega)))
              have hjt : ((j : Int)).toNat = j := Int.toNat_natCast _
              have hj5 : (0 : Int) ≤ (j : Int) := Int.natCast_nonneg _
              have hj6 : (j : Int) ≤ (s.length : Int) := by omega
              go_wp2_with fail
              have a0 := fun (w2 : World) (h : Hid (Below W2.heap.size W2 w2)) => (blk11 (K2.out.next h.out)).1
              have a1 := fun (w2 : World) (h : Hid (Below W2.heap.size W2 w2)) => (blk11 (K2.out.next h.out)).2.1
              have a2 := fun (w2 : World) (h : Hid (Below W2.heap.size W2 w2)) => (blk11 (K2.out.next h.out)).2.2.1
              have a3 := fun (w2 : World) (h : Hid (Below W2.heap.size W2 w2)) => (blk11 (K2.out.next h.out)).2.2.2.1
              have a4 := fun (w2 : World) (h : Hid (Below W2.heap.size W2 w2)) => (blk11 (K2.out.next h.out)).2.2.2.2.1
              have a5 := fun (w2 : World) (h : Hid (Below W2.heap.size W2 w2)) => (blk11 (K2.out.next h.out)).2.2.2.2.2.1
              have a6 := fun (w2 : World) (h : Hid (Below W2.heap.size W2 w2)) => (blk11 (K2.out.next h.out)).2.2.2.2.2.2.1
              have a7 := fun (w2 : World) (h : Hid (Below W2.heap.size W2 w2)) => (blk11 (K2.out.next h.out)).2.2.2.2.2.2.2.1
              have a8 := fun (w2 : World) (h : Hid (Below W2.heap.size W2 w2)) => (blk11 (K2.out.next h.out)).2.2.2.2.2.2.2.2.1
              have a9 := fun (w2 : World) (h : Hid (Below W2.heap.size W2 w2)) => (blk11 (K2.out.next h.out)).2.2.2.2.2.2.2.2.2.1
              have a10 := fun (w2 : World) (h : Hid (Below W2.heap.size W2 w2)) => (blk11 (K2.out.next h.out)).2.2.2.2.2.2.2.2.2.2
              go_region_held3 (fun w' => Hid (Below W2.heap.size W2 w')) (first | with_reducible assumption | exact hbC | exact hbB | exact hbA | exact Lib.hid (below_drewN (Below.refl _ _) 1) | (have hh := (by assumption : Hid (Below W2.heap.size W2 _)); exact Lib.hid (below_alloc hh.out _)))
                (first | (have hh := (by assumption : Hid (Below W2.heap.size W2 _)); refine step_append_all (by rfl) _ _ 23 (by rfl) W2.heap.size 50 _ 11 192 192 Tryd.underlying23 infEntE rfl (by omega) (REnt w) _ [] (by rfl) (Own.nil_ _ _ _ _ _) (some ⟨b', o', none⟩) c2 (s.take j) (by rw [HTK.out]; rfl) (Slc.mono HS1.out (Kept.of_below hh.out) fun _ _ h => h) entE_one HBy1.out (by omega) hh.out.size ?_; intro v1 y1 ho1 hg1; have hbA := Lib.hid ((Own.nil_ _ W2.heap.size 50 11 (REnt w)).below hh.out hh.out.size hg1); rw [List.nil_append] at ho1) | (have hh := (by assumption : Hid (Below W2.heap.size W2 _)); refine step_append_el (by rfl) _ _ 23 (by rfl) W2.heap.size 50 _ 11 192 Tryd.underlying23 infEntE rfl (by omega) (REnt w) v1 (s.take j) (by rfl) (by first | exact ho1 | exact ho1.alloc _ | exact ho1.drew | exact (ho1.alloc _).drew | exact (ho1.drew).alloc _) p (encE r p) _ 1 (by rfl) (by first | exact Blk.new _ _ _ | exact blk_grown0 (blk_new1 W2 50 #[.string (bs (p).pkg.name), .string (bs (p).pkg.ver), .slice (r).a1 (p).pkg.pre.length (r).c1, .slice (r).a2 (p).pkg.dep.length (r).c2, .slice (r).a3 (p).pkg.rcm.length (r).c3, .slice (r).a4 (p).pkg.con.length (r).c4, .slice (r).a5 (p).pkg.brk.length (r).c5, .slice (r).a6 (p).pkg.prv.length (r).c6, .bool (p).pkg.ess, .bool (p).conf, .bool (p).hold]) hg1) ⟨r, rfl, HR.out⟩ rfl (encE_one _ _) HBy2.out (by omega) hh.out.size ?_; intro g2 cap2 y2 ho2 hg2; have hbB := Lib.hid (show Below W2.heap.size W2 y2 from by first | exact (ho1.alloc _).below hh.out hh.out.size hg2 | exact ho1.below hh.out hh.out.size hg2)) | (have hh := (by assumption : Hid (Below W2.heap.size W2 _)); refine step_append_all (by rfl) _ _ 23 (by rfl) W2.heap.size 50 _ 11 192 192 Tryd.underlying23 infEntE rfl (by omega) (REnt w) _ (s.take j ++ [p]) (by rfl) ho2 (some ⟨b', o' + j * 11, none⟩) (c2 - j) (s.drop j) (by first | (rw [HTD.out]; rfl) | (rw [show (s.drop j).length = s.length - j from List.length_drop ..]; rfl)) (Slc.mono HS2.out (Kept.of_below hh.out) fun _ _ h => h) entE_one HBy3.out (by omega) hh.out.size ?_; intro v3 y3 ho3 hg3; have hbC := Lib.hid (ho2.below hh.out hh.out.size hg3)))
              clear a0 a1 a2 a3 a4 a5 a6 a7 a8 a9 a10
              all_goals go_wp2_with fail
              all_goals go_roundw
              all_goals first
                | (case rel => exact ⟨k + 1, s.take j ++ p :: s.drop j, by omega, by simp, by rw [take_step HP.out, srt_snoc, ← HS.out, HIN.out], below_next HB2.out hbC.out, (by have h := ho3.down HB2.out.size; rw [List.append_assoc] at h; exact h)⟩)
                | (case measure => (try simp only [intOf]); omega)
          · have HLT := Lib.hid (eLt_bl hbl)
            go_wp2_with fail
            refine region_be (by kernel_rfl) (by kernel_rfl) ?_
            repeat (quiet_step (fail))
            refine wpQuiet_nil ?_
            intro _ hw'
            obtain ⟨pb, hw''⟩ := hw'
            subst hw''
            obtain ⟨W2, hbw⟩ := pb
            dsimp only
            have HB2 := Lib.hid (below_next HBi.out hbw)
            clear hbw
            go_wp2
            go_roundw
            case rel => exact ⟨j + 1, by omega, by simp, fun z hz => (by
              rw [take_step HX.out, List.mem_append, List.mem_singleton] at hz
              rcases hz with hz | rfl
              · exact HJ.out z hz
              · exact HLT.out), HB2.out⟩
            case measure => (try simp only [intOf]); omega
        · have hjd : decide ((j : Int) < (s.length : Int)) = false := decide_eq_false (by omega)
          have HEX := Lib.hid (show s.length ≤ j ∨ ∃ x, s[j]? = some x ∧ eLt p x = true from .inl (by omega))
          go_wp2_with fail
          refine region_be (by kernel_rfl) (by kernel_rfl) ?_
          repeat (quiet_step (fail))
          refine wpQuiet_nil ?_
          intro _ hw'
          obtain ⟨pb, hw''⟩ := hw'
          subst hw''
          obtain ⟨W2, hbw⟩ := pb
          dsimp only
          by_cases hcj : c2 = j
          · cases hcj
            obtain ⟨j, rfl⟩ : ∃ j' : Nat, j' = c2 := ⟨_, rfl⟩
            have hj7 : (j : Int) ≤ (j : Int) := by omega
            rcases A2 with _ | ad
            · have HIN := Lib.hid (insR_at HJ.out HEX.out)
              have HB2 := Lib.hid (below_next HB1.out (below_next HBi.out hbw))
              have HO2 := Lib.hid (HO1.out.next (below_next HBi.out hbw))
              have K2 := Lib.hid (K1.out.next (below_next HBi.out hbw))
              clear hbw
              have htk : (s.take j).length = j := by rw [List.length_take]; omega
              have HTK := Lib.hid htk
              have HTD := Lib.hid (show (s.drop j).length = 0 by have h := List.length_drop (i := j) (l := s); omega)
              have HBy1 := Lib.hid (show (([] : List Ent).length + (s.take j).length) * 192 ≤ 140737488355328 by simp; omega)
              have HBy2 := Lib.hid (show ((s.take j).length + 1) * 192 ≤ 140737488355328 by omega)
              have HBy3 := Lib.hid (show ((s.take j ++ [p]).length + (s.drop j).length) * 192 ≤ 140737488355328 by rw [List.length_append, List.length_drop, htk]; simp; omega)
              clear htk
              have HSW := Lib.hid (Own.slcOf (z := 192) HO2.out (by omega))
              have HS1 := Lib.hid (show Slc W2 11 192 (REnt w) none j (s.take j) from (Slc.take HSW.out j))
              have HS2 := Lib.hid (show Slc W2 11 192 (REnt w) none 0 (s.drop j) from (Slc.dropEnd (by omega) (by omega)))
              have hjt : ((j : Int)).toNat = j := Int.toNat_natCast _
              have hj5 : (0 : Int) ≤ (j : Int) := Int.natCast_nonneg _
              have hj6 : (j : Int) ≤ (s.length : Int) := by omega
              go_wp2_with fail
              have a0 := fun (w2 : World) (h : Hid (Below W2.heap.size W2 w2)) => (blk11 (K2.out.next h.out)).1
              have a1 := fun (w2 : World) (h : Hid (Below W2.heap.size W2 w2)) => (blk11 (K2.out.next h.out)).2.1
              have a2 := fun (w2 : World) (h : Hid (Below W2.heap.size W2 w2)) => (blk11 (K2.out.next h.out)).2.2.1
              have a3 := fun (w2 : World) (h : Hid (Below W2.heap.size W2 w2)) => (blk11 (K2.out.next h.out)).2.2.2.1
              have a4 := fun (w2 : World) (h : Hid (Below W2.heap.size W2 w2)) => (blk11 (K2.out.next h.out)).2.2.2.2.1
              have a5 := fun (w2 : World) (h : Hid (Below W2.heap.size W2 w2)) => (blk11 (K2.out.next h.out)).2.2.2.2.2.1
              have a6 := fun (w2 : World) (h : Hid (Below W2.heap.size W2 w2)) => (blk11 (K2.out.next h.out)).2.2.2.2.2.2.1
              have a7 := fun (w2 : World) (h : Hid (Below W2.heap.size W2 w2)) => (blk11 (K2.out.next h.out)).2.2.2.2.2.2.2.1
              have a8 := fun (w2 : World) (h : Hid (Below W2.heap.size W2 w2)) => (blk11 (K2.out.next h.out)).2.2.2.2.2.2.2.2.1
              have a9 := fun (w2 : World) (h : Hid (Below W2.heap.size W2 w2)) => (blk11 (K2.out.next h.out)).2.2.2.2.2.2.2.2.2.1
              have a10 := fun (w2 : World) (h : Hid (Below W2.heap.size W2 w2)) => (blk11 (K2.out.next h.out)).2.2.2.2.2.2.2.2.2.2
              go_region_held3 (fun w' => Hid (Below W2.heap.size W2 w')) (first | with_reducible assumption | exact hbC | exact hbB | exact hbA | exact Lib.hid (below_drewN (Below.refl _ _) 1) | (have hh := (by assumption : Hid (Below W2.heap.size W2 _)); exact Lib.hid (below_alloc hh.out _)))
                (first | (have hh := (by assumption : Hid (Below W2.heap.size W2 _)); refine step_append_all (by rfl) _ _ 23 (by rfl) W2.heap.size 50 _ 11 192 192 Tryd.underlying23 infEntE rfl (by omega) (REnt w) _ [] (by rfl) (Own.nil_ _ _ _ _ _) none j (s.take j) (by rw [HTK.out]; rfl) (Slc.mono HS1.out (Kept.of_below hh.out) fun _ _ h => h) entE_one HBy1.out (by omega) hh.out.size ?_; intro v1 y1 ho1 hg1; have hbA := Lib.hid ((Own.nil_ _ W2.heap.size 50 11 (REnt w)).below hh.out hh.out.size hg1); rw [List.nil_append] at ho1) | (have hh := (by assumption : Hid (Below W2.heap.size W2 _)); refine step_append_el (by rfl) _ _ 23 (by rfl) W2.heap.size 50 _ 11 192 Tryd.underlying23 infEntE rfl (by omega) (REnt w) v1 (s.take j) (by rfl) (by first | exact ho1 | exact ho1.alloc _ | exact ho1.drew | exact (ho1.alloc _).drew | exact (ho1.drew).alloc _) p (encE r p) _ 1 (by rfl) (by first | exact Blk.new _ _ _ | exact blk_grown0 (blk_new1 W2 50 #[.string (bs (p).pkg.name), .string (bs (p).pkg.ver), .slice (r).a1 (p).pkg.pre.length (r).c1, .slice (r).a2 (p).pkg.dep.length (r).c2, .slice (r).a3 (p).pkg.rcm.length (r).c3, .slice (r).a4 (p).pkg.con.length (r).c4, .slice (r).a5 (p).pkg.brk.length (r).c5, .slice (r).a6 (p).pkg.prv.length (r).c6, .bool (p).pkg.ess, .bool (p).conf, .bool (p).hold]) hg1) ⟨r, rfl, HR.out⟩ rfl (encE_one _ _) HBy2.out (by omega) hh.out.size ?_; intro g2 cap2 y2 ho2 hg2; have hbB := Lib.hid (show Below W2.heap.size W2 y2 from by first | exact (ho1.alloc _).below hh.out hh.out.size hg2 | exact ho1.below hh.out hh.out.size hg2)) | (have hh := (by assumption : Hid (Below W2.heap.size W2 _)); refine step_append_all (by rfl) _ _ 23 (by rfl) W2.heap.size 50 _ 11 192 192 Tryd.underlying23 infEntE rfl (by omega) (REnt w) _ (s.take j ++ [p]) (by rfl) ho2 none 0 (s.drop j) (by first | (rw [HTD.out]; rfl) | (rw [show (s.drop j).length = s.length - j from List.length_drop ..]; rfl)) (Slc.mono HS2.out (Kept.of_below hh.out) fun _ _ h => h) entE_one HBy3.out (by omega) hh.out.size ?_; intro v3 y3 ho3 hg3; have hbC := Lib.hid (ho2.below hh.out hh.out.size hg3)))
              clear a0 a1 a2 a3 a4 a5 a6 a7 a8 a9 a10
              all_goals go_wp2_with fail
              all_goals go_roundw
              all_goals first
                | (case rel => exact ⟨k + 1, s.take j ++ p :: s.drop j, by omega, by simp, by rw [take_step HP.out, srt_snoc, ← HS.out, HIN.out], below_next HB2.out hbC.out, (by have h := ho3.down HB2.out.size; rw [List.append_assoc] at h; exact h)⟩)
                | (case measure => (try simp only [intOf]); omega)
            · have HIN := Lib.hid (insR_at HJ.out HEX.out)
              have HB2 := Lib.hid (below_next HB1.out (below_next HBi.out hbw))
              have HO2 := Lib.hid (HO1.out.next (below_next HBi.out hbw))
              have K2 := Lib.hid (K1.out.next (below_next HBi.out hbw))
              clear hbw
              have htk : (s.take j).length = j := by rw [List.length_take]; omega
              have HTK := Lib.hid htk
              have HTD := Lib.hid (show (s.drop j).length = 0 by have h := List.length_drop (i := j) (l := s); omega)
              have HBy1 := Lib.hid (show (([] : List Ent).length + (s.take j).length) * 192 ≤ 140737488355328 by simp; omega)
              have HBy2 := Lib.hid (show ((s.take j).length + 1) * 192 ≤ 140737488355328 by omega)
              have HBy3 := Lib.hid (show ((s.take j ++ [p]).length + (s.drop j).length) * 192 ≤ 140737488355328 by rw [List.length_append, List.length_drop, htk]; simp; omega)
              clear htk
              have HSW := Lib.hid (Own.slcOf (z := 192) HO2.out (by omega))
              have HS1 := Lib.hid (show Slc W2 11 192 (REnt w) (some ad) j (s.take j) from (Slc.take HSW.out j))
              have HS2 := Lib.hid (show Slc W2 11 192 (REnt w) (some ad) 0 (s.drop j) from (Slc.dropEnd (by omega) (by omega)))
              have hjt : ((j : Int)).toNat = j := Int.toNat_natCast _
              have hj5 : (0 : Int) ≤ (j : Int) := Int.natCast_nonneg _
              have hj6 : (j : Int) ≤ (s.length : Int) := by omega
              go_wp2_with fail
              have a0 := fun (w2 : World) (h : Hid (Below W2.heap.size W2 w2)) => (blk11 (K2.out.next h.out)).1
              have a1 := fun (w2 : World) (h : Hid (Below W2.heap.size W2 w2)) => (blk11 (K2.out.next h.out)).2.1
              have a2 := fun (w2 : World) (h : Hid (Below W2.heap.size W2 w2)) => (blk11 (K2.out.next h.out)).2.2.1
              have a3 := fun (w2 : World) (h : Hid (Below W2.heap.size W2 w2)) => (blk11 (K2.out.next h.out)).2.2.2.1
              have a4 := fun (w2 : World) (h : Hid (Below W2.heap.size W2 w2)) => (blk11 (K2.out.next h.out)).2.2.2.2.1
              have a5 := fun (w2 : World) (h : Hid (Below W2.heap.size W2 w2)) => (blk11 (K2.out.next h.out)).2.2.2.2.2.1
              have a6 := fun (w2 : World) (h : Hid (Below W2.heap.size W2 w2)) => (blk11 (K2.out.next h.out)).2.2.2.2.2.2.1
              have a7 := fun (w2 : World) (h : Hid (Below W2.heap.size W2 w2)) => (blk11 (K2.out.next h.out)).2.2.2.2.2.2.2.1
              have a8 := fun (w2 : World) (h : Hid (Below W2.heap.size W2 w2)) => (blk11 (K2.out.next h.out)).2.2.2.2.2.2.2.2.1
              have a9 := fun (w2 : World) (h : Hid (Below W2.heap.size W2 w2)) => (blk11 (K2.out.next h.out)).2.2.2.2.2.2.2.2.2.1
              have a10 := fun (w2 : World) (h : Hid (Below W2.heap.size W2 w2)) => (blk11 (K2.out.next h.out)).2.2.2.2.2.2.2.2.2.2
              go_region_held3 (fun w' => Hid (Below W2.heap.size W2 w')) (first | with_reducible assumption | exact hbC | exact hbB | exact hbA | exact Lib.hid (below_drewN (Below.refl _ _) 1) | (have hh := (by assumption : Hid (Below W2.heap.size W2 _)); exact Lib.hid (below_alloc hh.out _)))
                (first | (have hh := (by assumption : Hid (Below W2.heap.size W2 _)); refine step_append_all (by rfl) _ _ 23 (by rfl) W2.heap.size 50 _ 11 192 192 Tryd.underlying23 infEntE rfl (by omega) (REnt w) _ [] (by rfl) (Own.nil_ _ _ _ _ _) (some ad) j (s.take j) (by rw [HTK.out]; rfl) (Slc.mono HS1.out (Kept.of_below hh.out) fun _ _ h => h) entE_one HBy1.out (by omega) hh.out.size ?_; intro v1 y1 ho1 hg1; have hbA := Lib.hid ((Own.nil_ _ W2.heap.size 50 11 (REnt w)).below hh.out hh.out.size hg1); rw [List.nil_append] at ho1) | (have hh := (by assumption : Hid (Below W2.heap.size W2 _)); refine step_append_el (by rfl) _ _ 23 (by rfl) W2.heap.size 50 _ 11 192 Tryd.underlying23 infEntE rfl (by omega) (REnt w) v1 (s.take j) (by rfl) (by first | exact ho1 | exact ho1.alloc _ | exact ho1.drew | exact (ho1.alloc _).drew | exact (ho1.drew).alloc _) p (encE r p) _ 1 (by rfl) (by first | exact Blk.new _ _ _ | exact blk_grown0 (blk_new1 W2 50 #[.string (bs (p).pkg.name), .string (bs (p).pkg.ver), .slice (r).a1 (p).pkg.pre.length (r).c1, .slice (r).a2 (p).pkg.dep.length (r).c2, .slice (r).a3 (p).pkg.rcm.length (r).c3, .slice (r).a4 (p).pkg.con.length (r).c4, .slice (r).a5 (p).pkg.brk.length (r).c5, .slice (r).a6 (p).pkg.prv.length (r).c6, .bool (p).pkg.ess, .bool (p).conf, .bool (p).hold]) hg1) ⟨r, rfl, HR.out⟩ rfl (encE_one _ _) HBy2.out (by omega) hh.out.size ?_; intro g2 cap2 y2 ho2 hg2; have hbB := Lib.hid (show Below W2.heap.size W2 y2 from by first | exact (ho1.alloc _).below hh.out hh.out.size hg2 | exact ho1.below hh.out hh.out.size hg2)) | (have hh := (by assumption : Hid (Below W2.heap.size W2 _)); refine step_append_all (by rfl) _ _ 23 (by rfl) W2.heap.size 50 _ 11 192 192 Tryd.underlying23 infEntE rfl (by omega) (REnt w) _ (s.take j ++ [p]) (by rfl) ho2 (some ad) 0 (s.drop j) (by first | (rw [HTD.out]; rfl) | (rw [show (s.drop j).length = s.length - j from List.length_drop ..]; rfl)) (Slc.mono HS2.out (Kept.of_below hh.out) fun _ _ h => h) entE_one HBy3.out (by omega) hh.out.size ?_; intro v3 y3 ho3 hg3; have hbC := Lib.hid (ho2.below hh.out hh.out.size hg3)))
              clear a0 a1 a2 a3 a4 a5 a6 a7 a8 a9 a10
              all_goals go_wp2_with fail
              all_goals go_roundw
              all_goals first
                | (case rel => exact ⟨k + 1, s.take j ++ p :: s.drop j, by omega, by simp, by rw [take_step HP.out, srt_snoc, ← HS.out, HIN.out], below_next HB2.out hbC.out, (by have h := ho3.down HB2.out.size; rw [List.append_assoc] at h; exact h)⟩)
                | (case measure => (try simp only [intOf]); omega)
          · rcases HA2.out with ⟨hA0, hA1, hA3⟩ | ⟨g3, hA0⟩
            · exact absurd (show c2 = j by subst hA3; simp at hj; omega) hcj
            · subst hA0
              have hj7 : (j : Int) ≤ (c2 : Int) := by omega
              have hj8 : ¬ c2 = j := hcj
              clear hcj
              have HIN := Lib.hid (insR_at HJ.out HEX.out)
              have HB2 := Lib.hid (below_next HB1.out (below_next HBi.out hbw))
              have HO2 := Lib.hid (HO1.out.next (below_next HBi.out hbw))
              have K2 := Lib.hid (K1.out.next (below_next HBi.out hbw))
              clear hbw
              have htk : (s.take j).length = j := by rw [List.length_take]; omega
              have HTK := Lib.hid htk
              have HTD := Lib.hid (show (s.drop j).length = 0 by have h := List.length_drop (i := j) (l := s); omega)
              have HBy1 := Lib.hid (show (([] : List Ent).length + (s.take j).length) * 192 ≤ 140737488355328 by simp; omega)
              have HBy2 := Lib.hid (show ((s.take j).length + 1) * 192 ≤ 140737488355328 by omega)
              have HBy3 := Lib.hid (show ((s.take j ++ [p]).length + (s.drop j).length) * 192 ≤ 140737488355328 by rw [List.length_append, List.length_drop, htk]; simp; omega)
              clear htk
              have HSW := Lib.hid (Own.slcOf (z := 192) HO2.out (by omega))
              have HS1 := Lib.hid (show Slc W2 11 192 (REnt w) (some ⟨g3, 0, none⟩) c2 (s.take j) from (Slc.take HSW.out j))
              have HS2 := Lib.hid (show Slc W2 11 192 (REnt w) (some ⟨g3, j * 11, none⟩) (c2 - j) (s.drop j) from (Slc.drop0 HSW.out j (by omega)))
              have hjt : ((j : Int)).toNat = j := Int.toNat_natCast _
              have hj5 : (0 : Int) ≤ (j : Int) := Int.natCast_nonneg _
              have hj6 : (j : Int) ≤ (s.length : Int) := by omega
              go_wp2_with fail
              have a0 := fun (w2 : World) (h : Hid (Below W2.heap.size W2 w2)) => (blk11 (K2.out.next h.out)).1
              have a1 := fun (w2 : World) (h : Hid (Below W2.heap.size W2 w2)) => (blk11 (K2.out.next h.out)).2.1
              have a2 := fun (w2 : World) (h : Hid (Below W2.heap.size W2 w2)) => (blk11 (K2.out.next h.out)).2.2.1
              have a3 := fun (w2 : World) (h : Hid (Below W2.heap.size W2 w2)) => (blk11 (K2.out.next h.out)).2.2.2.1
              have a4 := fun (w2 : World) (h : Hid (Below W2.heap.size W2 w2)) => (blk11 (K2.out.next h.out)).2.2.2.2.1
              have a5 := fun (w2 : World) (h : Hid (Below W2.heap.size W2 w2)) => (blk11 (K2.out.next h.out)).2.2.2.2.2.1
              have a6 := fun (w2 : World) (h : Hid (Below W2.heap.size W2 w2)) => (blk11 (K2.out.next h.out)).2.2.2.2.2.2.1
              have a7 := fun (w2 : World) (h : Hid (Below W2.heap.size W2 w2)) => (blk11 (K2.out.next h.out)).2.2.2.2.2.2.2.1
              have a8 := fun (w2 : World) (h : Hid (Below W2.heap.size W2 w2)) => (blk11 (K2.out.next h.out)).2.2.2.2.2.2.2.2.1
              have a9 := fun (w2 : World) (h : Hid (Below W2.heap.size W2 w2)) => (blk11 (K2.out.next h.out)).2.2.2.2.2.2.2.2.2.1
              have a10 := fun (w2 : World) (h : Hid (Below W2.heap.size W2 w2)) => (blk11 (K2.out.next h.out)).2.2.2.2.2.2.2.2.2.2
              go_region_held3 (fun w' => Hid (Below W2.heap.size W2 w')) (first | with_reducible assumption | exact hbC | exact hbB | exact hbA | exact Lib.hid (below_drewN (Below.refl _ _) 1) | (have hh := (by assumption : Hid (Below W2.heap.size W2 _)); exact Lib.hid (below_alloc hh.out _)))
                (first | (have hh := (by assumption : Hid (Below W2.heap.size W2 _)); refine step_append_all (by rfl) _ _ 23 (by rfl) W2.heap.size 50 _ 11 192 192 Tryd.underlying23 infEntE rfl (by omega) (REnt w) _ [] (by rfl) (Own.nil_ _ _ _ _ _) (some ⟨g3, 0, none⟩) c2 (s.take j) (by rw [HTK.out]; rfl) (Slc.mono HS1.out (Kept.of_below hh.out) fun _ _ h => h) entE_one HBy1.out (by omega) hh.out.size ?_; intro v1 y1 ho1 hg1; have hbA := Lib.hid ((Own.nil_ _ W2.heap.size 50 11 (REnt w)).below hh.out hh.out.size hg1); rw [List.nil_append] at ho1) | (have hh := (by assumption : Hid (Below W2.heap.size W2 _)); refine step_append_el (by rfl) _ _ 23 (by rfl) W2.heap.size 50 _ 11 192 Tryd.underlying23 infEntE rfl (by omega) (REnt w) v1 (s.take j) (by rfl) (by first | exact ho1 | exact ho1.alloc _ | exact ho1.drew | exact (ho1.alloc _).drew | exact (ho1.drew).alloc _) p (encE r p) _ 1 (by rfl) (by first | exact Blk.new _ _ _ | exact blk_grown0 (blk_new1 W2 50 #[.string (bs (p).pkg.name), .string (bs (p).pkg.ver), .slice (r).a1 (p).pkg.pre.length (r).c1, .slice (r).a2 (p).pkg.dep.length (r).c2, .slice (r).a3 (p).pkg.rcm.length (r).c3, .slice (r).a4 (p).pkg.con.length (r).c4, .slice (r).a5 (p).pkg.brk.length (r).c5, .slice (r).a6 (p).pkg.prv.length (r).c6, .bool (p).pkg.ess, .bool (p).conf, .bool (p).hold]) hg1) ⟨r, rfl, HR.out⟩ rfl (encE_one _ _) HBy2.out (by omega) hh.out.size ?_; intro g2 cap2 y2 ho2 hg2; have hbB := Lib.hid (show Below W2.heap.size W2 y2 from by first | exact (ho1.alloc _).below hh.out hh.out.size hg2 | exact ho1.below hh.out hh.out.size hg2)) | (have hh := (by assumption : Hid (Below W2.heap.size W2 _)); refine step_append_all (by rfl) _ _ 23 (by rfl) W2.heap.size 50 _ 11 192 192 Tryd.underlying23 infEntE rfl (by omega) (REnt w) _ (s.take j ++ [p]) (by rfl) ho2 (some ⟨g3, j * 11, none⟩) (c2 - j) (s.drop j) (by first | (rw [HTD.out]; rfl) | (rw [show (s.drop j).length = s.length - j from List.length_drop ..]; rfl)) (Slc.mono HS2.out (Kept.of_below hh.out) fun _ _ h => h) entE_one HBy3.out (by omega) hh.out.size ?_; intro v3 y3 ho3 hg3; have hbC := Lib.hid (ho2.below hh.out hh.out.size hg3)))
              clear a0 a1 a2 a3 a4 a5 a6 a7 a8 a9 a10
              all_goals go_wp2_with fail
              all_goals go_roundw
              all_goals first
                | (case rel => exact ⟨k + 1, s.take j ++ p :: s.drop j, by omega, by simp, by rw [take_step HP.out, srt_snoc, ← HS.out, HIN.out], below_next HB2.out hbC.out, (by have h := ho3.down HB2.out.size; rw [List.append_assoc] at h; exact h)⟩)
                | (case measure => (try simp only [intOf]); omega)
    · have ho := HO.out
      have hs2 := HS.out
      rw [take_end hk hlt] at hs2
      obtain ⟨A2, c2, rfl, hps, _⟩ := Ents.of_own ho HB.out (by omega)
      subst hs2
      have HPS := Lib.hid hps
      clear ho hps HO HS
      go_wp2
      go_ret
      exact ⟨A2, c2, rfl, HPS.out, HB.out⟩
end Go.Proofs.YtefjoigngnnbjaaDoor
