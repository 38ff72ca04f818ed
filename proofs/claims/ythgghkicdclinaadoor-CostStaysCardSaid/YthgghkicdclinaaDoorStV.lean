/- The contract of the reference's Cost. -/
import Derived.Test.YthgghkicdclinaaDoorStT
namespace Go.Proofs.YthgghkicdclinaaDoor
set_option linter.unusedSimpArgs false
set_option linter.unusedVariables false
open Go.RowKit
theorem infStr : (Tryd.prog.info? 9).map (fun i => (i.zero, i.size, i.bytes)) = some (some (.string (bs [])), 1, 16) := by kernel_rfl
def RNm (cs : List Value) (n : List UInt8) : Prop := cs = [.string (bs n)]
theorem fnd_idx (n : List UInt8) (t : List Pkg) : (fndS n t = none ∧ idxS (nameK n) t = -1) ∨ ∃ (i : Nat) (y : Pkg), i < t.length ∧ t[i]? = some y ∧ fndS n t = some y ∧ idxS (nameK n) t = (i : Int) := by
  unfold idxS
  rcases h : t.findIdx? (nameK n) with _ | i
  · left
    rw [List.findIdx?_eq_none_iff] at h
    exact ⟨fnd_no (by rw [List.any_eq_false]; intro x hx; rw [h x hx]; simp), rfl⟩
  · right
    rw [List.findIdx?_eq_some_iff_getElem] at h
    obtain ⟨h1, h2, h3⟩ := h
    refine ⟨i, t[i], h1, List.getElem?_eq_getElem h1, ?_, rfl⟩
    refine fnd_at (List.getElem?_eq_getElem h1) h2 ?_
    rw [List.any_eq_false]
    intro x hx
    obtain ⟨j, hj, rfl⟩ := List.mem_take_iff_getElem.1 hx
    exact h3 j (by omega)
theorem fndI_at {s : List Ent} {k : Nat} {x : Ent} (hx : s[k]? = some x) : fndI x.pkg.name s = idxS (nameE x.pkg.name) s := by
  have h : decide (0 ≤ idxS (nameE x.pkg.name) s) = s.any (nameE x.pkg.name) := idx_any
  have h2 : s.any (nameE x.pkg.name) = true := List.any_eq_true.2 ⟨x, List.mem_of_getElem? hx, by simp [nameE]⟩
  rw [h2, decide_eq_true_eq] at h
  unfold fndI
  rw [if_pos h]
theorem fnd_none_any (n : List UInt8) (l : List Pkg) : (fndS n l).isNone = !l.any (nameK n) := by
  rcases h : l.any (nameK n)
  · rw [fnd_no h]; rfl
  · rcases h2 : fndS n l with _ | y
    · unfold fndS at h2
      rw [List.find?_eq_none] at h2
      rw [List.any_eq_true] at h
      obtain ⟨x, hx, hp⟩ := h
      exact absurd hp (h2 x hx)
    · rfl
theorem below_undrew {w w' : World} (h : Below w.drew.heap.size w.drew w') : Below w.heap.size w w' := (below_drew (Below.refl _ w)).trans h
set_option maxRecDepth 100000 in
set_option maxHeartbeats 4000000 in
theorem rcost_any (A : Option Addr) (c : Nat) (t : List Pkg) (A' : Option Addr) (c' : Nat) (s : List Ent) (A2 : Option Addr) (c2 : Nat) (all : List Pkg) (up : Bool) (w : World) (ht : Pkgs w A c t) (hs : Ents w A' c' s) (hal : Pkgs w A2 c2 all) (hf : fewP t) (hfa : all.length ≤ 1000000) :
    Calls Tryd.prog 29 #[.slice A t.length c, .slice A' s.length c', .slice A2 all.length c2, .bool up] w fun e w' => e = .returned (.agg #[.int .i64 (costS t s all up).a, .int .i64 (costS t s all up).b, .int .i64 (costS t s all up).c, .int .i64 (costS t s all up).d, .int .i64 (costS t s all up).e]) ∧ Below w.heap.size w w' := by
  have hbd := ht.bd
  have hbd2 := hs.bd
  have hbd3 := hal.bd
  have hfl := hf.1
  have HF := Lib.hid hf
  have HT := Lib.hid ht
  have HS := Lib.hid hs
  have HA := Lib.hid hal
  clear ht hs hal hf
  go_enter Tryd.func29, Tryd.ntmps29
  go_wp2
  go_loopw [10, 11, 25] (fun rm ch i wr => ∃ k : Nat, k ≤ s.length ∧ i = .int .i64 k ∧ rm = .int .i64 (upto (remQ t s) k : Nat) ∧ ch = .int .i64 (upto (chgQ t s) k : Nat) ∧ Below w.heap.size w wr ∧ Blk wr w.heap.size 43 #[.int .i64 0, .int .i64 0, .int .i64 0, .int .i64 0, .int .i64 0]) (fun _ _ i _ => s.length - (intOf i).toNat)
  case atStart => exact ⟨0, Nat.zero_le _, rfl, rfl, rfl, (Below.refl _ _).alloc (Nat.le_refl _) _, blk_new1 _ _ _⟩
  case round =>
    obtain ⟨k, hk, rfl, rfl, rfl, hb, hZ⟩ := hrel
    have hu1 := upto_le (remQ t s) k
    have hu2 := upto_le (chgQ t s) k
    by_cases hlt : k < s.length
    · generalize hR : upto (remQ t s) k = R at hu1 ⊢
      generalize hC : upto (chgQ t s) k = C at hu2 ⊢
      have HREM := Lib.hid hR
      have HCHG := Lib.hid hC
      have HB := Lib.hid hb
      have HZ := Lib.hid hZ
      clear hb hZ hR hC
      obtain ⟨x, b, o, r, hx, rfl, hr, e0, e1, e2, e3, e4, e5, e6, e7, e8, e9, e10⟩ := HS.out.at_ hlt (Kept.of_below HB.out)
      have hII := fndI_at hx
      by_cases hI : fndI x.pkg.name s = (k : Int)
      · have HI := Lib.hid (hII.symm.trans hI)
        rcases fnd_idx x.pkg.name t with ⟨hF, hFI⟩ | ⟨i0, y, hil, hy, hF, hFI⟩
        · have HQ1 := Lib.hid (show remQ t s k = true by unfold remQ; rw [hx]; simp [hI, hF])
          have HQ2 := Lib.hid (show chgQ t s k = false by unfold chgQ; rw [hx]; simp [hI, hF])
          have HFI := Lib.hid hFI
          clear hx hr hI hF hFI hII
          go_wp2_with fail
          refine (rfind_any _ _ s x.pkg.name _ (HS.out.kept ((Kept.of_below HB.out).trans (Kept.alloc _ _)))).mono ?_
          rintro e w1 ⟨rfl, hb1⟩
          rw [HI.out]
          have kE := (blk_new1 _ _ _).next hb1
          obtain ⟨d0, d1, _⟩ := blk11 kE
          have hsz1 : wr.heap.size < w1.heap.size := kE.lt
          clear e0 e1 e2 e3 e4 e5 e6 e7 e8 e9 e10
          go_wp2_with fail
          refine (rfindP_any _ _ t x.pkg.name _ (HT.out.kept (((Kept.of_below HB.out).trans (Kept.alloc _ _)).trans (Kept.of_below hb1)))).mono ?_
          rintro e w2 ⟨rfl, hb2⟩
          rw [HFI.out]
          go_wp2
          all_goals
            go_roundw
            case rel =>
              refine ⟨k + 1, by omega, by simp, ?_, ?_, by have hb0 := HB.out; (repeat (first | assumption | exact Below.refl _ _ | refine below_next ?_ (by assumption) | refine below_drewN ?_ _ | refine below_alloc ?_ _)), by have hZ0 := HZ.out; (repeat (first | assumption | exact Blk.next (by assumption) (by assumption) | refine Blk.next ?_ (by assumption) | refine Blk.alloc ?_ _))⟩
              · rw [upto_step, HREM.out, HQ1.out]; simp
              · rw [upto_step, HCHG.out, HQ2.out]; simp
            case measure => (try simp only [intOf]); omega
        · have HFI := Lib.hid hFI
          have HIL := Lib.hid hil
          have HY := Lib.hid hy
          rcases hsv : sameV y.ver x.pkg.ver
          · have HQ1 := Lib.hid (show remQ t s k = false by unfold remQ; rw [hx]; simp [hI, hF])
            have HQ2 := Lib.hid (show chgQ t s k = true by unfold chgQ; rw [hx]; simp [hI, hF, hsv])
            have HSV := Lib.hid hsv
            clear hx hr hI hF hsv hFI hil hy hII
            go_wp2_with fail
            refine (rfind_any _ _ s x.pkg.name _ (HS.out.kept ((Kept.of_below HB.out).trans (Kept.alloc _ _)))).mono ?_
            rintro e w1 ⟨rfl, hb1⟩
            rw [HI.out]
            have kE := (blk_new1 _ _ _).next hb1
            obtain ⟨d0, d1, _⟩ := blk11 kE
            have hsz1 : wr.heap.size < w1.heap.size := kE.lt
            clear e0 e1 e2 e3 e4 e5 e6 e7 e8 e9 e10
            go_wp2_with fail
            refine (rfindP_any _ _ t x.pkg.name _ (HT.out.kept (((Kept.of_below HB.out).trans (Kept.alloc _ _)).trans (Kept.of_below hb1)))).mono ?_
            rintro e w2 ⟨rfl, hb2⟩
            rw [HFI.out]
            have kE2 := kE.next hb2
            obtain ⟨d0, d1, _⟩ := blk11 kE2
            have hsz2 : wr.heap.size < w2.heap.size := kE2.lt
            obtain ⟨y', b', o', r', hy', hA', hr', g0, g1, _⟩ := HT.out.at_ HIL.out ((((Kept.of_below HB.out).trans (Kept.alloc _ _)).trans (Kept.of_below hb1)).trans (Kept.of_below hb2))
            obtain rfl : y' = y := by rw [HY.out] at hy'; exact (Option.some.inj hy').symm
            subst hA'
            have hj0 : (0 : Int) ≤ (i0 : Int) := Int.natCast_nonneg _
            have hj1 : (i0 : Int) < (t.length : Int) := by have := HIL.out; omega
            have hjn : ((i0 : Int)).toNat = i0 := Int.toNat_natCast _
            clear kE hr' hy'
            go_wp2_with fail
            go_region_with (go_at_call 60; refine (rSameVersion_any _ _ _).mono ?_; rintro e w3 ⟨rfl, hb3⟩; rw [HSV.out])
            all_goals
              have hb3 := below_undrew hb3
              go_wp2
              all_goals
                go_roundw
                case rel =>
                  refine ⟨k + 1, by omega, by simp, ?_, ?_, by have hb0 := HB.out; (repeat (first | assumption | exact Below.refl _ _ | refine below_next ?_ (by assumption) | refine below_drewN ?_ _ | refine below_alloc ?_ _)), by have hZ0 := HZ.out; (repeat (first | assumption | exact Blk.next (by assumption) (by assumption) | refine Blk.next ?_ (by assumption) | refine Blk.alloc ?_ _))⟩
                  · rw [upto_step, HREM.out, HQ1.out]; simp
                  · rw [upto_step, HCHG.out, HQ2.out]; simp
                case measure => (try simp only [intOf]); omega
          · have HQ1 := Lib.hid (show remQ t s k = false by unfold remQ; rw [hx]; simp [hI, hF])
            have HQ2 := Lib.hid (show chgQ t s k = false by unfold chgQ; rw [hx]; simp [hI, hF, hsv])
            have HSV := Lib.hid hsv
            clear hx hr hI hF hsv hFI hil hy hII
            go_wp2_with fail
            refine (rfind_any _ _ s x.pkg.name _ (HS.out.kept ((Kept.of_below HB.out).trans (Kept.alloc _ _)))).mono ?_
            rintro e w1 ⟨rfl, hb1⟩
            rw [HI.out]
            have kE := (blk_new1 _ _ _).next hb1
            obtain ⟨d0, d1, _⟩ := blk11 kE
            have hsz1 : wr.heap.size < w1.heap.size := kE.lt
            clear e0 e1 e2 e3 e4 e5 e6 e7 e8 e9 e10
            go_wp2_with fail
            refine (rfindP_any _ _ t x.pkg.name _ (HT.out.kept (((Kept.of_below HB.out).trans (Kept.alloc _ _)).trans (Kept.of_below hb1)))).mono ?_
            rintro e w2 ⟨rfl, hb2⟩
            rw [HFI.out]
            have kE2 := kE.next hb2
            obtain ⟨d0, d1, _⟩ := blk11 kE2
            have hsz2 : wr.heap.size < w2.heap.size := kE2.lt
            obtain ⟨y', b', o', r', hy', hA', hr', g0, g1, _⟩ := HT.out.at_ HIL.out ((((Kept.of_below HB.out).trans (Kept.alloc _ _)).trans (Kept.of_below hb1)).trans (Kept.of_below hb2))
            obtain rfl : y' = y := by rw [HY.out] at hy'; exact (Option.some.inj hy').symm
            subst hA'
            have hj0 : (0 : Int) ≤ (i0 : Int) := Int.natCast_nonneg _
            have hj1 : (i0 : Int) < (t.length : Int) := by have := HIL.out; omega
            have hjn : ((i0 : Int)).toNat = i0 := Int.toNat_natCast _
            clear kE hr' hy'
            go_wp2_with fail
            go_region_with (go_at_call 60; refine (rSameVersion_any _ _ _).mono ?_; rintro e w3 ⟨rfl, hb3⟩; rw [HSV.out])
            all_goals
              have hb3 := below_undrew hb3
              go_wp2
              all_goals
                go_roundw
                case rel =>
                  refine ⟨k + 1, by omega, by simp, ?_, ?_, by have hb0 := HB.out; (repeat (first | assumption | exact Below.refl _ _ | refine below_next ?_ (by assumption) | refine below_drewN ?_ _ | refine below_alloc ?_ _)), by have hZ0 := HZ.out; (repeat (first | assumption | exact Blk.next (by assumption) (by assumption) | refine Blk.next ?_ (by assumption) | refine Blk.alloc ?_ _))⟩
                  · rw [upto_step, HREM.out, HQ1.out]; simp
                  · rw [upto_step, HCHG.out, HQ2.out]; simp
                case measure => (try simp only [intOf]); omega
      · have HQ1 := Lib.hid (show remQ t s k = false by unfold remQ; rw [hx]; simp [hI])
        have HQ2 := Lib.hid (show chgQ t s k = false by unfold chgQ; rw [hx]; simp [hI])
        have hne : (idxS (nameE x.pkg.name) s != (k : Int)) = true := by rw [bne_iff_ne, ← hII]; exact hI
        clear hx hr hII
        go_wp2_with fail
        refine (rfind_any _ _ s x.pkg.name _ (HS.out.kept ((Kept.of_below HB.out).trans (Kept.alloc _ _)))).mono ?_
        rintro e w1 ⟨rfl, hb1⟩
        clear e0 e1 e2 e3 e4 e5 e6 e7 e8 e9 e10
        go_wp2
        all_goals
          go_roundw
          case rel =>
            refine ⟨k + 1, by omega, by simp, ?_, ?_, by have hb0 := HB.out; (repeat (first | assumption | exact Below.refl _ _ | refine below_next ?_ (by assumption) | refine below_drewN ?_ _ | refine below_alloc ?_ _)), by have hZ0 := HZ.out; (repeat (first | assumption | exact Blk.next (by assumption) (by assumption) | refine Blk.next ?_ (by assumption) | refine Blk.alloc ?_ _))⟩
            · rw [upto_step, HREM.out, HQ1.out]; simp
            · rw [upto_step, HCHG.out, HQ2.out]; simp
          case measure => (try simp only [intOf]); omega
    · have hks : k = s.length := by omega
      subst hks
      generalize hR : upto (remQ t s) s.length = R at hu1 ⊢
      generalize hC : upto (chgQ t s) s.length = C at hu2 ⊢
      have HREM := Lib.hid hR
      have HCHG := Lib.hid hC
      clear hR hC hlt
      go_wp2
      clear hk
      go_loopw [9, 12, 13, 61] (fun nv ad la i wr => ∃ (k : Nat) (ns : List (List UInt8)), k ≤ t.length ∧ ns.length ≤ k ∧ i = .int .i64 k ∧ ad = .int .i64 (upto (addQ t s) k : Nat) ∧ la = .int .i64 (lateT t all k : Nat) ∧ (∀ n, ns.any (fun m => m == n) = (t.take k).any (nameK n)) ∧ Below w.heap.size w wr ∧ Blk wr w.heap.size 43 #[.int .i64 0, .int .i64 0, .int .i64 0, .int .i64 0, .int .i64 0] ∧ Own wr w.heap.size 9 1 RNm nv ns) (fun _ _ _ i _ => t.length - (intOf i).toNat)
      case atStart => exact ⟨0, [], Nat.zero_le _, Nat.le_refl _, rfl, rfl, rfl, fun _ => rfl, hb, hZ, Own.nil_ _ _ _ _ _⟩
      case round =>
        clear hb hZ
        obtain ⟨k, ns, hk, hns, rfl, rfl, rfl, hany, hb, hZ, ho⟩ := hrel
        have hu3 := upto_le (addQ t s) k
        have hu4 := lateT_le (t := t) hfa k hk
        by_cases hlt : k < t.length
        · obtain ⟨q, b, o, r, hq, hA0, hr, e0, e1, e2, e3, e4, e5, e6, e7, e8⟩ := HT.out.at_ hlt (Kept.of_below hb)
          obtain ⟨A9, c9, hv9, hsl⟩ := ho.slc (z := 16) (by omega)
          subst hv9 hA0
          have hst := lateT_step (all := all) hq
          generalize hA : upto (addQ t s) k = AD at hu3 ⊢
          generalize hL : lateT t all k = LA at hst hu4 ⊢
          have HADD := Lib.hid hA
          have HST := Lib.hid hst
          have HB := Lib.hid hb
          have HZ := Lib.hid hZ
          have HO := Lib.hid ho
          have HSL := Lib.hid hsl
          have HALL := Lib.hid hany
          have HQ0 := Lib.hid hq
          have hnw := newer_le q all
          have hi0 : (0 : Int) ≤ (k : Int) := Int.natCast_nonneg _
          have hbd9 := hsl.bd
          clear hA hL hst hb hZ ho hsl hany hq hr
          go_wp2_with fail
          refine (rnewer_any q r _ _ all _ (HA.out.kept ((Kept.of_below HB.out).trans (Kept.alloc _ _)))).mono ?_
          rintro e w1 ⟨rfl, hb1⟩
          have kP : Blk w1 wr.heap.size 36 #[.string (bs (q).name), .string (bs (q).ver), .slice (r).a1 (q).pre.length (r).c1, .slice (r).a2 (q).dep.length (r).c2, .slice (r).a3 (q).rcm.length (r).c3, .slice (r).a4 (q).con.length (r).c4, .slice (r).a5 (q).brk.length (r).c5, .slice (r).a6 (q).prv.length (r).c6, .bool (q).ess] := (blk_new1 _ _ _).next hb1
          obtain ⟨c0, _⟩ := blk9 kP
          have hsz1 : wr.heap.size < w1.heap.size := kP.lt
          have KP := Lib.hid kP
          have HB1 := Lib.hid (below_next (below_alloc HB.out _) hb1)
          have KZ1 := Lib.hid ((HZ.out.alloc _).next hb1)
          have HO1 := Lib.hid ((HO.out.alloc _).next hb1)
          have HSL1 := Lib.hid (Slc.mono HSL.out ((Kept.alloc _ _).trans (Kept.of_below hb1)) (fun _ _ h => h))
          clear e0 e1 e2 e3 e4 e5 e6 e7 e8 hb1 kP
          go_wp2
          go_loop [19, 72] (fun v i => ∃ m : Nat, m ≤ ns.length ∧ i = .int .i64 m ∧ v = .bool ((ns.take m).any fun y => y == q.name)) (fun _ i => ns.length - (intOf i).toNat)
          case atStart => exact ⟨0, Nat.zero_le _, rfl, rfl⟩
          case round =>
            obtain ⟨m, hm, rfl, rfl⟩ := hrel
            by_cases hltm : m < ns.length
            · obtain ⟨nm, b9, o9, cs9, hnm, hA9, hcs, hlen9, hrange⟩ := HSL1.out.at_ hltm
              subst hcs hA9
              have g0 : w1.cell? ⟨b9, o9 + m, none⟩ = some (.string (bs nm)) := by have := hrange 0 _ rfl; simpa using this
              have HNM := Lib.hid hnm
              clear hrange hnm
              rcases hany2 : (ns.take m).any fun y => y == q.name
              · have HANY2 := Lib.hid hany2
                clear hany2
                go_wp2
                all_goals
                  go_round
                  case rel =>
                    refine ⟨m + 1, by omega, by simp, ?_⟩
                    rw [take_step HNM.out, List.any_append, HANY2.out]
                    simp
                  case measure => (try simp only [intOf]); omega
              · have HANY2 := Lib.hid hany2
                clear hany2
                go_wp2
                all_goals
                  go_round
                  case rel =>
                    refine ⟨m + 1, by omega, by simp, ?_⟩
                    rw [take_step HNM.out, List.any_append, HANY2.out]
                    simp
                  case measure => (try simp only [intOf]); omega
            · rw [take_end hm hltm, HALL.out q.name]
              rcases hN : (t.take k).any (nameK q.name)
              · have hFN : (fndS q.name (t.take k)).isNone = true := by rw [fnd_none_any, hN]; rfl
                rcases hFB : fndB q.name s
                · have HQ := Lib.hid (show addQ t s k = true by unfold addQ; rw [HQ0.out]; simp only [hFN, hFB]; rfl)
                  have hix : idxS (nameE q.name) s < 0 := by unfold fndB at hFB; simpa using hFB
                  clear hN hFN hFB
                  go_wp2_with (first | (at_builtin; refine wpList_append_el (by rfl) _ _ 88 (by rfl) w.heap.size 9 _ 1 16 Tryd.underlying88 infStr rfl (by omega) RNm _ _ (by rfl) (HO1.out.alloc _) q.name [.string (bs q.name)] w1.heap.size 1 (by rfl) (Blk.new _ _ _) rfl rfl (by simp [Value.oneCell']) (by omega) (by omega) (by simp; have := HB1.out.size; omega) ?_; intro g cap w3 ho3 hg3; have kP3 := (HO1.out.alloc _).blk (KP.out.alloc _) (by decide) hg3; obtain ⟨c0, _⟩ := blk9 kP3; have hsz3 : wr.heap.size < w3.heap.size := kP3.lt; have HB3 := Lib.hid ((HO1.out.alloc _).below (below_alloc HB1.out _) (by simp; have := HB1.out.size; omega) hg3); have KZ3 := Lib.hid ((HO1.out.alloc _).blk (KZ1.out.alloc _) (by decide) hg3); have HO3 := Lib.hid ho3; clear kP3 hg3 ho3) | (go_at_call 33; refine (rfind_any _ _ s q.name _ (HS.out.kept (Kept.of_below HB3.out))).mono ?_; rintro e w4 ⟨rfl, hb4⟩))
                  all_goals
                    go_roundw
                    case rel =>
                      refine ⟨k + 1, ns ++ [q.name], by omega, by simp; omega, by simp, ?_, ?_, fun n => ?_, below_next HB3.out hb4, KZ3.out.next hb4, HO3.out.next hb4⟩
                      · rw [upto_step, HADD.out, HQ.out]; simp
                      · rw [HST.out]; simp
                      · rw [List.any_append, HALL.out, take_step HQ0.out, List.any_append]
                        rfl
                    case measure => (try simp only [intOf]); omega
                · have HQ := Lib.hid (show addQ t s k = false by unfold addQ; rw [HQ0.out]; simp only [hFN, hFB]; rfl)
                  have hix : 0 ≤ idxS (nameE q.name) s := by unfold fndB at hFB; simpa using hFB
                  clear hN hFN hFB
                  go_wp2_with (first | (at_builtin; refine wpList_append_el (by rfl) _ _ 88 (by rfl) w.heap.size 9 _ 1 16 Tryd.underlying88 infStr rfl (by omega) RNm _ _ (by rfl) (HO1.out.alloc _) q.name [.string (bs q.name)] w1.heap.size 1 (by rfl) (Blk.new _ _ _) rfl rfl (by simp [Value.oneCell']) (by omega) (by omega) (by simp; have := HB1.out.size; omega) ?_; intro g cap w3 ho3 hg3; have kP3 := (HO1.out.alloc _).blk (KP.out.alloc _) (by decide) hg3; obtain ⟨c0, _⟩ := blk9 kP3; have hsz3 : wr.heap.size < w3.heap.size := kP3.lt; have HB3 := Lib.hid ((HO1.out.alloc _).below (below_alloc HB1.out _) (by simp; have := HB1.out.size; omega) hg3); have KZ3 := Lib.hid ((HO1.out.alloc _).blk (KZ1.out.alloc _) (by decide) hg3); have HO3 := Lib.hid ho3; clear kP3 hg3 ho3) | (go_at_call 33; refine (rfind_any _ _ s q.name _ (HS.out.kept (Kept.of_below HB3.out))).mono ?_; rintro e w4 ⟨rfl, hb4⟩))
                  all_goals
                    go_roundw
                    case rel =>
                      refine ⟨k + 1, ns ++ [q.name], by omega, by simp; omega, by simp, ?_, ?_, fun n => ?_, below_next HB3.out hb4, KZ3.out.next hb4, HO3.out.next hb4⟩
                      · rw [upto_step, HADD.out, HQ.out]; simp
                      · rw [HST.out]; simp
                      · rw [List.any_append, HALL.out, take_step HQ0.out, List.any_append]
                        rfl
                    case measure => (try simp only [intOf]); omega
              · have HQ := Lib.hid (show addQ t s k = false by unfold addQ; rw [HQ0.out]; simp only [fnd_none_any, hN]; rfl)
                have HN := Lib.hid hN
                clear hN
                go_wp2
                go_roundw
                case rel =>
                  refine ⟨k + 1, ns, by omega, by omega, by simp, ?_, ?_, fun n => ?_, HB1.out, KZ1.out, HO1.out⟩
                  · rw [upto_step, HADD.out, HQ.out]; simp
                  · rw [HST.out]; simp
                  · rw [HALL.out, take_step HQ0.out, List.any_append]
                    by_cases hn : q.name = n
                    · subst hn
                      rw [HN.out]; rfl
                    · simp [nameK, hn]
                case measure => (try simp only [intOf]); omega
        · have hkt : k = t.length := by omega
          subst hkt
          generalize hA : upto (addQ t s) t.length = AD at hu3 ⊢
          generalize hL : lateT t all t.length = LA at hu4 ⊢
          clear ho hany
          cases up
          · go_wp2_with fail
            refine (runmet_any _ _ t _ (HT.out.kept (Kept.of_below hb)) HF.out).mono ?_
            rintro e w1 ⟨rfl, hb1⟩
            have kZ := hZ.next hb1
            have c0 := kZ.cell 0
            have c1 := kZ.cell 1
            have c2 := kZ.cell 2
            have c3 := kZ.cell 3
            have c4 := kZ.cell 4
            simp only [List.getElem?_toArray, List.getElem?_cons_zero, List.getElem?_cons_succ] at c0 c1 c2 c3 c4
            have f0 := kZ.frozen 0
            have f1 := kZ.frozen 1
            have f2 := kZ.frozen 2
            have f3 := kZ.frozen 3
            have f4 := kZ.frozen 4
            have hsz : w.heap.size < w1.heap.size := kZ.lt
            have hb2 := below_next hb hb1
            go_wp2
            refine bodyPost_ret (v := .agg #[.int .i64 R, .int .i64 C, .int .i64 (unmetS t : Nat), .int .i64 AD, .int .i64 LA]) (by simp [results, Tryd.results29, go_sem, c0, c1, c2, c3, c4, hsz]) rfl ?_
            refine ⟨?_, ((((hb2.setCell (Nat.le_refl _) _).setCell (Nat.le_refl _) _).setCell (Nat.le_refl _) _).setCell (Nat.le_refl _) _).setCell (Nat.le_refl _) _⟩
            rw [← HREM.out, ← HCHG.out, ← hA, ← hL]
            rfl
          · go_wp2_with fail
            refine (runmet_any _ _ t _ (HT.out.kept (Kept.of_below hb)) HF.out).mono ?_
            rintro e w1 ⟨rfl, hb1⟩
            have kZ := hZ.next hb1
            have c0 := kZ.cell 0
            have c1 := kZ.cell 1
            have c2 := kZ.cell 2
            have c3 := kZ.cell 3
            have c4 := kZ.cell 4
            simp only [List.getElem?_toArray, List.getElem?_cons_zero, List.getElem?_cons_succ] at c0 c1 c2 c3 c4
            have f0 := kZ.frozen 0
            have f1 := kZ.frozen 1
            have f2 := kZ.frozen 2
            have f3 := kZ.frozen 3
            have f4 := kZ.frozen 4
            have hsz : w.heap.size < w1.heap.size := kZ.lt
            have hb2 := below_next hb hb1
            go_wp2
            refine bodyPost_ret (v := .agg #[.int .i64 LA, .int .i64 R, .int .i64 (unmetS t : Nat), .int .i64 AD, .int .i64 C]) (by simp [results, Tryd.results29, go_sem, c0, c1, c2, c3, c4, hsz]) rfl ?_
            refine ⟨?_, ((((hb2.setCell (Nat.le_refl _) _).setCell (Nat.le_refl _) _).setCell (Nat.le_refl _) _).setCell (Nat.le_refl _) _).setCell (Nat.le_refl _) _⟩
            rw [← HREM.out, ← HCHG.out, ← hA, ← hL]
            rfl
end Go.Proofs.YthgghkicdclinaaDoor
