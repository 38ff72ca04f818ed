/- The law StateSound. -/
import Derived.Test.YthgghkicdclinaaDoorSoA
import Derived.Test.YthgghkicdclinaaDoorHeC
import Derived.Test.YthgghkicdclinaaDoorMaE
import Derived.Test.YthgghkicdclinaaDoorStO
import Derived.Test.YthgghkicdclinaaDoorStR
import Derived.Test.YthgghkicdclinaaDoorPb
namespace Go.Proofs.YthgghkicdclinaaDoor
set_option linter.unusedSimpArgs false
set_option linter.unusedVariables false
open Go.RowKit

theorem light_fewH {N K C : Nat} (hN : N ≤ 1000000) (hK : K ≤ 1000000) {l : List Pkg} (h : lightS N K C l = true) : fewH l := by
  simp only [lightS, Bool.and_eq_true, decide_eq_true_eq, List.all_eq_true] at h
  intro p hp
  have := h.2 p hp
  simp only [lgtP, lgtC, Bool.and_eq_true, decide_eq_true_eq] at this
  unfold fewR
  omega
theorem first_no {l : List Pkg} {k : Nat} {q : Pkg} (hq : l[k]? = some q) (h : idxS (nameK q.name) l ≠ (k : Int)) : okAt l k q = false := by
  apply okAt_bad
  rcases ha : (l.take k).any (nameK q.name)
  · exact absurd (idx_at hq (by simp [nameK]) ha) h
  · obtain ⟨x, hx, hn⟩ := List.any_eq_true.1 ha
    refine List.any_eq_true.2 ⟨x, hx, ?_⟩
    have : x.name = q.name := by simpa [nameK] using hn
    simp [badQ, this]
theorem solo_idx {l : List Pkg} (h : ∀ (j : Nat) x, l[j]? = some x → idxS (nameK x.name) l = (j : Int)) : soloN l := fun i j p q hp hq hn => by
  have h1 := h i p hp
  have h2 := h j q hq
  rw [hn, h2] at h1
  omega
theorem ret_ents {w w' : World} {B : TypeId} {v : Value} {l : List Ent} (h : Own w' w.heap.size B 11 (REnt w) v l) (hb : Below w.heap.size w w') (hl : l.length * 192 ≤ 140737488351232) : ∃ A c, v = .slice A l.length c ∧ Ents w' A c l := by
  obtain ⟨A, c, rfl, hs⟩ := h.slc hl
  exact ⟨A, c, rfl, Slc.mono hs (Kept.refl _) (fun _ _ h => h.kept (Kept.of_below hb))⟩
theorem infEnt : (Tryd.prog.info? 38).map (fun i => (i.zero, i.size, i.bytes)) = some (some (.agg #[.string (bs []), .string (bs []), .slice none 0 0, .slice none 0 0, .slice none 0 0, .slice none 0 0, .slice none 0 0, .slice none 0 0, .bool false, .bool false, .bool false]), 11, 192) := by kernel_rfl
set_option maxRecDepth 100000 in
set_option maxHeartbeats 600000 in
theorem law_sound (A : Option Addr) (c : Nat) (l : List Pkg) (A' : Option Addr) (c' : Nat) (hold : List Bool) (w : World) (hl : Pkgs w A c l) (hh : Bols w A' c' hold) :
    Calls Tryd.prog 11 #[.slice A l.length c, .slice A' hold.length c'] w fun e w' => e = .returned (.bool true) ∧ Below w.heap.size w w' := by
  have hbd := hl.bd
  have hbdh := hh.bd
  have HL := Lib.hid hl
  have HHo := Lib.hid hh
  clear hl hh
  rcases hlt0 : lightS 50 20 20 l
  · have HT := Lib.hid hlt0
    clear hlt0
    go_enter Tryd.func11, Tryd.ntmps11
    go_wp2_with fail
    refine (light_any _ _ l _ HL.out).mono ?_
    rintro e w2 ⟨rfl, hb2⟩
    rw [HT.out]
    go_wp2_with fail
    refine (awake_any _).mono ?_
    rintro e w9 ⟨rfl, hb9⟩
    go_wp2
    go_ret
    exact ⟨rfl, below_next hb2 hb9⟩
  · have HFH := Lib.hid (light_fewH (by decide) (by decide) hlt0)
    have hl26 : l.length ≤ 26 := by simp only [lightS, Bool.and_eq_true, decide_eq_true_eq] at hlt0; exact hlt0.1
    have HT := Lib.hid hlt0
    clear hlt0
    go_enter Tryd.func11, Tryd.ntmps11
    go_wp2_with fail
    refine (light_any _ _ l _ HL.out).mono ?_
    rintro e w2 ⟨rfl, hb2⟩
    rw [HT.out]
    have HB2 := Lib.hid hb2
    clear hb2
    go_wp2
    go_loopw [16] (fun i wr => ∃ k : Nat, k ≤ l.length ∧ i = .int .i64 k ∧ Below w.heap.size w wr ∧ ∀ (j : Nat) x, j < k → l[j]? = some x → mayE x = 0 ∧ idxS (nameK x.name) l = (j : Int)) (fun i _ => l.length - (intOf i).toNat)
    case atStart => exact ⟨0, Nat.zero_le _, rfl, HB2.out, fun j x h => by omega⟩
    case round =>
      clear HB2
      obtain ⟨k, hk, rfl, hb, hn⟩ := hrel
      have HB := Lib.hid hb
      have HN := Lib.hid hn
      clear hb hn
      by_cases hlt : k < l.length
      · obtain ⟨q, b, o, r, hq, rfl, hr, e0, e1, e2, e3, e4, e5, e6, e7, e8⟩ := HL.out.at_ hlt (Kept.of_below HB.out)
        have HQ := Lib.hid hq
        have HR := Lib.hid hr
        clear hq hr
        generalize hE : mayE q = E
        generalize hI : idxS (nameK q.name) l = I
        have HE := Lib.hid hE
        have HI := Lib.hid hI
        clear hE hI
        by_cases hE0 : E = 0
        · subst hE0
          by_cases hIk : I = (k : Int)
          · subst hIk
            go_wp2_with fail
            refine (rmay_any q r _ (HR.out.kept ((Kept.of_below HB.out).trans (Kept.alloc _ _)))).mono ?_
            rintro e w3 ⟨rfl, hb3⟩
            rw [HE.out]
            have kP := (blk_new1 wr 36 #[.string (bs (q).name), .string (bs (q).ver), .slice (r).a1 (q).pre.length (r).c1, .slice (r).a2 (q).dep.length (r).c2, .slice (r).a3 (q).rcm.length (r).c3, .slice (r).a4 (q).con.length (r).c4, .slice (r).a5 (q).brk.length (r).c5, .slice (r).a6 (q).prv.length (r).c6, .bool (q).ess]).next hb3
            obtain ⟨g0, g1, g2, g3, g4, g5, g6, g7, g8⟩ := blk9 kP
            have HB3 := Lib.hid (below_next (below_alloc HB.out _) hb3)
            clear e0 e1 e2 e3 e4 e5 e6 e7 e8 hb3 kP
            go_wp2_with fail
            refine (rfindP_any _ _ l q.name _ (HL.out.kept (Kept.of_below HB3.out))).mono ?_
            rintro e w4 ⟨rfl, hb4⟩
            rw [HI.out]
            go_wp2
            go_roundw
            case rel => exact ⟨k + 1, by omega, by simp, below_next HB3.out hb4, fun j x h hx => by
              rcases Nat.lt_or_ge j k with h3 | h3
              · exact HN.out j x h3 hx
              · obtain rfl : j = k := by omega
                obtain rfl : q = x := Option.some.inj (HQ.out.symm.trans hx)
                exact ⟨HE.out, HI.out⟩⟩
            case measure => (try simp only [intOf]); omega
          · have hIb : (I != (k : Int)) = true := by rw [bne_iff_ne]; exact hIk
            have HH := Lib.hid (hlth_no HQ.out (first_no HQ.out (by rw [HI.out]; exact hIk)))
            go_wp2_with fail
            refine (rmay_any q r _ (HR.out.kept ((Kept.of_below HB.out).trans (Kept.alloc _ _)))).mono ?_
            rintro e w3 ⟨rfl, hb3⟩
            rw [HE.out]
            have kP := (blk_new1 wr 36 #[.string (bs (q).name), .string (bs (q).ver), .slice (r).a1 (q).pre.length (r).c1, .slice (r).a2 (q).dep.length (r).c2, .slice (r).a3 (q).rcm.length (r).c3, .slice (r).a4 (q).con.length (r).c4, .slice (r).a5 (q).brk.length (r).c5, .slice (r).a6 (q).prv.length (r).c6, .bool (q).ess]).next hb3
            obtain ⟨g0, g1, g2, g3, g4, g5, g6, g7, g8⟩ := blk9 kP
            have HB3 := Lib.hid (below_next (below_alloc HB.out _) hb3)
            clear e0 e1 e2 e3 e4 e5 e6 e7 e8 hb3 kP
            go_wp2_with fail
            refine (rfindP_any _ _ l q.name _ (HL.out.kept (Kept.of_below HB3.out))).mono ?_
            rintro e w4 ⟨rfl, hb4⟩
            rw [HI.out]
            have hb5 := below_next HB3.out hb4
            clear g0 g1 g2 g3 g4 g5 g6 g7 g8
            go_wp2_with fail
            refine (healthy_any _ _ l _ (HL.out.kept (Kept.of_below hb5)) HFH.out).mono ?_
            rintro e w7 ⟨rfl, hb7⟩
            rw [HH.out]
            have hb8 := below_next hb5 hb7
            go_wp2_with fail
            refine (awake_any _).mono ?_
            rintro e w9 ⟨rfl, hb9⟩
            go_wp2
            go_ret
            exact ⟨rfl, below_next hb8 hb9⟩
        · have hEb : (E != 0) = true := by rw [bne_iff_ne]; exact hE0
          have HH := Lib.hid (hlth_no HQ.out (okAt_may (by rw [HE.out]; exact hE0)))
          go_wp2_with fail
          refine (rmay_any q r _ (HR.out.kept ((Kept.of_below HB.out).trans (Kept.alloc _ _)))).mono ?_
          rintro e w3 ⟨rfl, hb3⟩
          rw [HE.out]
          have hb5 := below_next (below_alloc HB.out _) hb3
          clear e0 e1 e2 e3 e4 e5 e6 e7 e8
          go_wp2_with fail
          refine (healthy_any _ _ l _ (HL.out.kept (Kept.of_below hb5)) HFH.out).mono ?_
          rintro e w7 ⟨rfl, hb7⟩
          rw [HH.out]
          have hb8 := below_next hb5 hb7
          go_wp2_with fail
          refine (awake_any _).mono ?_
          rintro e w9 ⟨rfl, hb9⟩
          go_wp2
          go_ret
          exact ⟨rfl, below_next hb8 hb9⟩
      · have hmay : ∀ p ∈ l, mayE p = 0 := fun p hp => by
          obtain ⟨j, hj, rfl⟩ := List.mem_iff_getElem.1 hp
          exact (HN.out j _ (by omega) (List.getElem?_eq_getElem hj)).1
        have hsolo : soloN l := solo_idx fun j x hx => (HN.out j x (by have := (List.getElem?_eq_some_iff.1 hx).1; omega) hx).2
        have HMY := Lib.hid hmay
        have HSO := Lib.hid hsolo
        clear hmay hsolo HN
        go_wp2
        clear hlt hk
        go_loopw [7, 41] (fun v i wr => ∃ (k : Nat) (s : List Ent), k ≤ l.length ∧ i = .int .i64 k ∧ s.map Ent.pkg = l.take k ∧ (∀ x ∈ s, x.conf = true) ∧ Below w.heap.size w wr ∧ Own wr w.heap.size 38 11 (REnt w) v s) (fun _ i _ => l.length - (intOf i).toNat)
        case atStart => exact ⟨0, [], Nat.zero_le _, rfl, rfl, fun x hx => by simp at hx, HB.out, Own.nil_ _ _ _ _ _⟩
        case round =>
          clear HB
          obtain ⟨k, s, hk, rfl, hm, hc, hb, ho⟩ := hrel
          have HB := Lib.hid hb
          have HO := Lib.hid ho
          have HM := Lib.hid hm
          have HC := Lib.hid hc
          have hsl : s.length = k := by
            have := congrArg List.length hm
            simp at this
            omega
          have HSl := Lib.hid hsl
          clear hb ho hm hc hsl
          by_cases hlt : k < l.length
          · obtain ⟨q, b, o, r, hq, rfl, hr, e0, e1, e2, e3, e4, e5, e6, e7, e8⟩ := HL.out.at_ hlt (Kept.of_below HB.out)
            have HQ := Lib.hid hq
            have HRq := Lib.hid (show RP w r (Ent.mk q true true).pkg from hr)
            clear hq hr
            by_cases hkh : (k : Int) < (hold.length : Int)
            · have hkn : k < hold.length := by omega
              have hkd : decide ((k : Int) < (hold.length : Int)) = true := decide_eq_true hkh
              have hke : decide (k < hold.length) = true := decide_eq_true hkn
              obtain ⟨hd, b2, o2, hhd, hA2, hcw⟩ := HHo.out.at_ (by omega : k < hold.length) (Kept.refl _)
              subst hA2
              have h0 := Kept.of_below HB.out _ _ hcw
              have hi0 : (0 : Int) ≤ (k : Int) := Int.natCast_nonneg _
              have htn : ((k : Int)).toNat = k := Int.toNat_natCast _
              clear hhd
              have kB := blk_new1 wr 36 #[.string (bs (q).name), .string (bs (q).ver), .slice (r).a1 (q).pre.length (r).c1, .slice (r).a2 (q).dep.length (r).c2, .slice (r).a3 (q).rcm.length (r).c3, .slice (r).a4 (q).con.length (r).c4, .slice (r).a5 (q).brk.length (r).c5, .slice (r).a6 (q).prv.length (r).c6, .bool (q).ess]
              obtain ⟨g0, g1, g2, g3, g4, g5, g6, g7, g8⟩ := blk9 kB
              have hc0 := Kept.alloc wr (.cells #[.string (bs (q).name), .string (bs (q).ver), .slice (r).a1 (q).pre.length (r).c1, .slice (r).a2 (q).dep.length (r).c2, .slice (r).a3 (q).rcm.length (r).c3, .slice (r).a4 (q).con.length (r).c4, .slice (r).a5 (q).brk.length (r).c5, .slice (r).a6 (q).prv.length (r).c6, .bool (q).ess] 36) _ _ h0
              have KB := Lib.hid kB
              clear kB
              go_wp2_with fail
              clear e0 e1 e2 e3 e4 e5 e6 e7 e8
              go_region_held3 (fun w' => w'.cell? ⟨wr.heap.size, 0, none⟩ = some (.string (bs q.name)) ∧ w'.cell? ⟨wr.heap.size, 1, none⟩ = some (.string (bs q.ver)) ∧ w'.cell? ⟨wr.heap.size, 2, none⟩ = some (.slice r.a1 q.pre.length r.c1) ∧ w'.cell? ⟨wr.heap.size, 3, none⟩ = some (.slice r.a2 q.dep.length r.c2) ∧ w'.cell? ⟨wr.heap.size, 4, none⟩ = some (.slice r.a3 q.rcm.length r.c3) ∧ w'.cell? ⟨wr.heap.size, 5, none⟩ = some (.slice r.a4 q.con.length r.c4) ∧ w'.cell? ⟨wr.heap.size, 6, none⟩ = some (.slice r.a5 q.brk.length r.c5) ∧ w'.cell? ⟨wr.heap.size, 7, none⟩ = some (.slice r.a6 q.prv.length r.c6) ∧ w'.cell? ⟨wr.heap.size, 8, none⟩ = some (.bool q.ess) ∧ Hid (Blk w' wr.heap.size 36 #[.string (bs (q).name), .string (bs (q).ver), .slice (r).a1 (q).pre.length (r).c1, .slice (r).a2 (q).dep.length (r).c2, .slice (r).a3 (q).rcm.length (r).c3, .slice (r).a4 (q).con.length (r).c4, .slice (r).a5 (q).brk.length (r).c5, .slice (r).a6 (q).prv.length (r).c6, .bool (q).ess]) ∧ w'.cell? ⟨b2, o2 + k, none⟩ = some (.bool hd)) (first | (have kk := (((HO.out.alloc (.cells #[.string (bs (q).name), .string (bs (q).ver), .slice (r).a1 (q).pre.length (r).c1, .slice (r).a2 (q).dep.length (r).c2, .slice (r).a3 (q).rcm.length (r).c3, .slice (r).a4 (q).con.length (r).c4, .slice (r).a5 (q).brk.length (r).c5, .slice (r).a6 (q).prv.length (r).c6, .bool (q).ess] 36)).alloc _).drew).blk (Blk.drewN (Blk.alloc KB.out _) 1) (by decide) hg2; obtain ⟨q0, q1, q2, q3, q4, q5, q6, q7, q8⟩ := blk9 kk; exact ⟨q0, q1, q2, q3, q4, q5, q6, q7, q8, kk, Kept.of_below hb2 _ _ hcw⟩) | (have hHeld := (by assumption : _ ∧ _ ∧ _ ∧ _ ∧ _ ∧ _ ∧ _ ∧ _ ∧ _ ∧ Hid (Blk _ wr.heap.size _ _) ∧ _); obtain ⟨q0, q1, q2, q3, q4, q5, q6, q7, q8, qB, qh⟩ := hHeld; exact ⟨Kept.alloc _ _ _ _ q0, Kept.alloc _ _ _ _ q1, Kept.alloc _ _ _ _ q2, Kept.alloc _ _ _ _ q3, Kept.alloc _ _ _ _ q4, Kept.alloc _ _ _ _ q5, Kept.alloc _ _ _ _ q6, Kept.alloc _ _ _ _ q7, Kept.alloc _ _ _ _ q8, Blk.alloc qB.out _, Kept.alloc _ _ _ _ qh⟩) | exact ⟨g0, g1, g2, g3, g4, g5, g6, g7, g8, Blk.drewN KB.out 1, hc0⟩) ((refine step_append_el (by rfl) _ _ 22 (by rfl) w.heap.size 38 _ 11 192 Tryd.underlying22 infEnt rfl (by omega) (REnt w) _ s (by rfl) ((HO.out.alloc _).alloc _).drew ⟨q, true, hd⟩ (encE r ⟨q, true, hd⟩) (wr.heap.size + 1) 1 (by rfl) (blk_new2 _ _ _ _) ⟨r, rfl, HRq.out⟩ rfl (encE_one _ _) (by rw [HSl.out]; omega) (by omega) (by simp; have := HB.out.size; omega) ?_; intro g cap w2 ho2 hg2; have hb2 := (((HO.out.alloc (.cells #[.string (bs (q).name), .string (bs (q).ver), .slice (r).a1 (q).pre.length (r).c1, .slice (r).a2 (q).dep.length (r).c2, .slice (r).a3 (q).rcm.length (r).c3, .slice (r).a4 (q).con.length (r).c4, .slice (r).a5 (q).brk.length (r).c5, .slice (r).a6 (q).prv.length (r).c6, .bool (q).ess] 36)).alloc _).drew).below (below_drewN (below_alloc (below_alloc HB.out _) _) 1) (by simp; have := HB.out.size; omega) hg2))
              all_goals
                go_wp2
                go_roundw
                case rel => exact ⟨k + 1, s ++ [⟨q, true, hd⟩], by omega, by simp, by rw [take_step HQ.out, List.map_append, HM.out]; rfl, fun x hx => by
                  rcases List.mem_append.1 hx with hx | hx
                  · exact HC.out x hx
                  · rw [List.mem_singleton] at hx
                    rw [hx], hb2, by (try rw [HSl.out]); rw [HSl.out] at ho2; simpa [HSl.out] using ho2⟩
                case measure => (try simp only [intOf]); omega
            · have hkn : ¬ k < hold.length := by omega
              have hkd : decide ((k : Int) < (hold.length : Int)) = false := decide_eq_false hkh
              have hke : decide (k < hold.length) = false := decide_eq_false hkn
              clear hkh
              go_wp2_with fail
              refine wp_region_any (by kernel_rfl) ?_
              try (change wpAny _ _ _ _ _ _ _ (World.drew _))
              (refine wpAny_take (i := 0) (v := _) rfl (by kernel_rfl) (by kernel_rfl) (by kernel_rfl) (fun _ _ _ h => h) (Or.inl ⟨by kernel_rfl, by (intro w; go_simp; first | done | with_reducible rfl)⟩) ?_; try simp only [Act.put, List.setIfInBounds_toArray, List.set_cons_zero, List.set_cons_succ])
              (refine wpAny_take (i := 2) (v := _) rfl (by kernel_rfl) (by kernel_rfl) (by kernel_rfl) (fun _ _ _ h => h) (Or.inl ⟨by kernel_rfl, by (intro w; go_simp; first | done | with_reducible rfl)⟩) ?_; try simp only [Act.put, List.setIfInBounds_toArray, List.set_cons_zero, List.set_cons_succ])
              (refine wpAny_take (i := 3) (v := _) rfl (by kernel_rfl) (by kernel_rfl) (by kernel_rfl) (fun _ _ _ h => h) (Or.inl ⟨by kernel_rfl, by (intro w; go_simp; first | done | with_reducible rfl)⟩) ?_; try simp only [Act.put, List.setIfInBounds_toArray, List.set_cons_zero, List.set_cons_succ])
              (refine wpAny_take (i := 4) (v := _) rfl (by kernel_rfl) (by kernel_rfl) (by kernel_rfl) (fun _ _ _ h => h) (Or.inl ⟨by kernel_rfl, by (intro w; go_simp; first | done | with_reducible rfl)⟩) ?_; try simp only [Act.put, List.setIfInBounds_toArray, List.set_cons_zero, List.set_cons_succ])
              (refine wpAny_take (i := 5) (v := .bool false) rfl (by kernel_rfl) (by kernel_rfl) (by kernel_rfl) (fun _ _ _ h => h) (Or.inl ⟨by kernel_rfl, by (intro w; go_simp; first | done | with_reducible rfl)⟩) ?_; try simp only [Act.put, List.setIfInBounds_toArray, List.set_cons_zero, List.set_cons_succ])
              (refine wpAny_take (i := 6) (v := .bool false) rfl (by kernel_rfl) (by kernel_rfl) (by kernel_rfl) (fun _ _ _ h => h) (Or.inl ⟨by kernel_rfl, by (intro w; go_simp; first | done | with_reducible rfl)⟩) ?_; try simp only [Act.put, List.setIfInBounds_toArray, List.set_cons_zero, List.set_cons_succ])
              (refine wpAny_take (i := 7) (v := undef) rfl (by kernel_rfl) (by kernel_rfl) (by kernel_rfl) (fun _ _ _ h => h) (Or.inr ⟨by kernel_rfl, rfl⟩) ?_; try simp only [Act.put, List.setIfInBounds_toArray, List.set_cons_zero, List.set_cons_succ])
              (refine wpAny_take (i := 8) (v := undef) rfl (by kernel_rfl) (by kernel_rfl) (by kernel_rfl) (fun _ _ _ h => h) (Or.inr ⟨by kernel_rfl, rfl⟩) ?_; try simp only [Act.put, List.setIfInBounds_toArray, List.set_cons_zero, List.set_cons_succ])
              (refine wpAny_take (i := 9) (v := undef) rfl (by kernel_rfl) (by kernel_rfl) (by kernel_rfl) (fun _ _ _ h => h) (Or.inr ⟨by kernel_rfl, rfl⟩) ?_; try simp only [Act.put, List.setIfInBounds_toArray, List.set_cons_zero, List.set_cons_succ])
              (refine wpAny_take (i := 10) (v := undef) rfl (by kernel_rfl) (by kernel_rfl) (by kernel_rfl) (fun _ _ _ h => h) (Or.inr ⟨by kernel_rfl, rfl⟩) ?_; try simp only [Act.put, List.setIfInBounds_toArray, List.set_cons_zero, List.set_cons_succ])
              (refine wpAny_take (i := 11) (v := .bool false) rfl (by kernel_rfl) (by kernel_rfl) (by kernel_rfl) (fun _ _ _ h => h) (Or.inl ⟨by kernel_rfl, by (intro w; go_simp; first | done | with_reducible rfl)⟩) ?_; try simp only [Act.put, List.setIfInBounds_toArray, List.set_cons_zero, List.set_cons_succ])
              (refine wpAny_ready (rs := [1]) (by kernel_rfl) (by simp) ?_; refine AllReady.cons rfl (fun K hK => ?_) AllReady.nil; go_simp; refine hK _ _ ?_; clear hK K; try simp only [Act.put, List.setIfInBounds_toArray, List.set_cons_zero, List.set_cons_succ])
              (refine wpAny_take (i := 12) (v := _) rfl (by kernel_rfl) (by kernel_rfl) (by kernel_rfl) (fun _ _ _ h => h) (Or.inl ⟨by kernel_rfl, by (intro w; go_simp; first | done | with_reducible rfl)⟩) ?_; try simp only [Act.put, List.setIfInBounds_toArray, List.set_cons_zero, List.set_cons_succ])
              (refine wpAny_ready (rs := [13]) (by kernel_rfl) (by simp) ?_; refine AllReady.cons rfl (fun K hK => ?_) AllReady.nil; go_simp; refine hK _ _ ?_; clear hK K; try simp only [Act.put, List.setIfInBounds_toArray, List.set_cons_zero, List.set_cons_succ])
              refine wpAny_ready (rs := [14]) (by kernel_rfl) (by simp) ?_
              refine AllReady.cons rfl (fun K hK => ?_) AllReady.nil
              refine step_append_el (by rfl) _ _ 22 (by rfl) w.heap.size 38 _ 11 192 Tryd.underlying22 infEnt rfl (by omega) (REnt w) _ s (by rfl) ((HO.out.alloc _).alloc _).drew ⟨q, true, false⟩ (encE r ⟨q, true, false⟩) (wr.heap.size + 1) 1 (by rfl) (blk_new2 _ _ _ _) ⟨r, rfl, HRq.out⟩ rfl (encE_one _ _) (by rw [HSl.out]; omega) (by omega) (by simp; have := HB.out.size; omega) ?_
              intro g cap w2 ho2 hg2
              refine hK _ _ ?_
              clear hK K
              try simp only [Act.put, List.setIfInBounds_toArray, List.set_cons_zero, List.set_cons_succ]
              (refine wpAny_take (i := 15) (v := _) rfl (by kernel_rfl) (by kernel_rfl) (by kernel_rfl) (fun _ _ _ h => h) (Or.inl ⟨by kernel_rfl, by (intro w; go_simp; first | done | with_reducible rfl)⟩) ?_; try simp only [Act.put, List.setIfInBounds_toArray, List.set_cons_zero, List.set_cons_succ])
              refine wpAny_done (by kernel_rfl) ?_ _
              all_goals
                go_wp2
                have hb2 := (((HO.out.alloc _).alloc _).drew).below (below_drewN (below_alloc (below_alloc HB.out _) _) 1) (by simp; have := HB.out.size; omega) hg2
                go_roundw
                case rel => exact ⟨k + 1, s ++ [⟨q, true, false⟩], by omega, by simp, by rw [take_step HQ.out, List.map_append, HM.out]; rfl, fun x hx => by
                  rcases List.mem_append.1 hx with hx | hx
                  · exact HC.out x hx
                  · rw [List.mem_singleton] at hx
                    rw [hx], hb2, by (try rw [HSl.out]); rw [HSl.out] at ho2; simpa [HSl.out] using ho2⟩
                case measure => (try simp only [intOf]); omega
          · have hm := HM.out
            rw [List.take_of_length_le (by omega)] at hm
            have HSD := Lib.hid (sound hm HC.out HMY.out HSO.out)
            have HFE := Lib.hid (light_few (N := 50) (K := 20) (C := 20) (by decide) (by decide) (by rw [hm]; exact HT.out))
            obtain ⟨As, cs, rfl, hs⟩ := ret_ents HO.out HB.out (by rw [HSl.out]; omega)
            have HS := Lib.hid hs
            clear hm hs HO HM HC
            generalize hH : hlthS l = H at HSD
            have HH := Lib.hid hH
            clear hH
            generalize hV : wrongS s = V at HSD
            have HV := Lib.hid hV
            clear hV
            go_wp2_with fail
            refine (healthy_any _ _ l _ (HL.out.kept (Kept.of_below HB.out)) HFH.out).mono ?_
            rintro e w5 ⟨rfl, hb5⟩
            rw [HH.out]
            have HB5 := Lib.hid (below_next HB.out hb5)
            go_wp2_with fail
            refine (wrong_any _ _ s _ (HS.out.kept (Kept.of_below hb5)) HFE.out).mono ?_
            rintro e w6 ⟨A6, c6, rfl, -, hb6⟩
            rw [HV.out]
            have HB6 := Lib.hid (below_next HB5.out hb6)
            clear hb5 hb6 hlt
            rcases V with _ | ⟨v0, V⟩
            · have hHt : H = true := by rw [HSD.out]; simp
              subst hHt
              go_wp2_with fail
              refine (awake_any _).mono ?_
              rintro e w9 ⟨rfl, hb9⟩
              go_wp2
              go_ret
              exact ⟨rfl, below_next HB6.out hb9⟩
            · have hHf : H = false := by rw [HSD.out]; simp
              subst hHf
              have z1 : ((V.length : Int) + 1 == 0) = false := by rw [beq_eq_false_iff_ne]; omega
              go_wp2_with fail
              refine (awake_any _).mono ?_
              rintro e w9 ⟨rfl, hb9⟩
              go_wp2
              go_ret
              exact ⟨rfl, below_next HB6.out hb9⟩
end Go.Proofs.YthgghkicdclinaaDoor
