/- scc.build: the graph of edges: its contract. -/
import Derived.Test.YtodhianmaogfpaaShelf
import Derived.Test.YtodhianmaogfpaaJc
import Derived.Test.YtodhianmaogfpaaTjE
import Derived.Test.YtodhianmaogfpaaFmB
import Derived.Test.YtodhianmaogfpaaBe
import Derived.Test.YtodhianmaogfpaaAp
import Derived.Deep.DrawnRows
import Derived.Deep.LoopGhost
import Derived.Deep.RegionHeld3
namespace Go.Proofs.Ytodhianmaogfpaa
set_option linter.unusedSimpArgs false
set_option linter.unusedVariables false
open Go.RowKit
attribute [local go_sem ↓] Go.wp_at_zero Go.wp_at_succ
def REdge (cs : List Value) (e : Int × Int) : Prop := cs = [.int .i64 e.1, .int .i64 e.2]
def Edges (w : World) (A : Option Addr) (c : Nat) (l : List (Int × Int)) : Prop := Slc w 2 16 REdge A c l
theorem Edges.kept {w w' : World} {A : Option Addr} {c : Nat} {l : List (Int × Int)} (h : Edges w A c l) (hk : Kept w w') : Edges w' A c l := Slc.mono h hk fun _ _ h => h
theorem Edges.at_ {w w' : World} {A : Option Addr} {c : Nat} {l : List (Int × Int)} {i : Nat} (h : Edges w A c l) (hi : i < l.length) (hk : Kept w w') : ∃ x b o, l[i]? = some x ∧ A = some ⟨b, o, none⟩ ∧ w'.cell? ⟨b, o + i * 2, none⟩ = some (.int .i64 x.1) ∧ w'.cell? ⟨b, o + i * 2 + 1, none⟩ = some (.int .i64 x.2) := by
  obtain ⟨x, b, o, cs, h1, h2, rfl, _, h4⟩ := Slc.at_ h hi
  exact ⟨x, b, o, h1, h2, range2 (rangeAt_kept hk h4)⟩
def Ints (w : World) (A : Option Addr) (c : Nat) (l : List Nat) : Prop := Slc w 1 8 RNat A c l
theorem Ints.kept {w w' : World} {A : Option Addr} {c : Nat} {l : List Nat} (h : Ints w A c l) (hk : Kept w w') : Ints w' A c l := Slc.mono h hk fun _ _ h => h
theorem Ints.at_ {w w' : World} {A : Option Addr} {c : Nat} {l : List Nat} {i : Nat} (h : Ints w A c l) (hi : i < l.length) (hk : Kept w w') : ∃ x b o, l[i]? = some x ∧ A = some ⟨b, o, none⟩ ∧ w'.cell? ⟨b, o + i, none⟩ = some (.int .i64 x) := by
  obtain ⟨x, b, o, cs, h1, h2, rfl, _, h4⟩ := Slc.at_ h hi
  exact ⟨x, b, o, h1, h2, by have := rangeAt_kept hk h4 0 _ rfl; simpa using this⟩
/-- a graph: each node's row -/
def Gph (w : World) (g n : Nat) (adj : Nat → List Nat) : Prop := ∃ (A : Nat → Option Addr) (C : Nat → Nat), Blk w g 26 (arrV n fun i => .slice (A i) (adj i).length (C i)) ∧ ∀ i, i < n → Ints w (A i) (C i) (adj i)
theorem infRow : (Try.prog.info? 26).map (fun i => (i.zero, i.size, i.bytes)) = some (some (.slice none 0 0), 1, 24) := by kernel_rfl
theorem adj_snoc (E : List (Nat × Nat)) (a b : Nat) : adjE (E ++ [(a, b)]) = upf (adjE E) a (adjE E a ++ [b]) := by
  funext v
  unfold adjE
  rw [List.filter_append, List.map_append]
  by_cases e : v = a
  · subst e; rw [upf_at]; simp
  · rw [upf_ne e]; simp [Ne.symm e]
theorem adj_len (E : List (Nat × Nat)) (v : Nat) : (adjE E v).length ≤ E.length := by
  unfold adjE
  rw [List.length_map]
  exact List.length_filter_le _ _
theorem inE_bad {N : Nat} {l : List (Int × Int)} {k : Nat} {x : Int × Int} (hx : l[k]? = some x) (h : okE N x = false) : inE N (l.take (k + 1)) = inE N (l.take k) := by
  unfold inE
  rw [take_step hx, List.filter_append]
  simp [h]
theorem inE_ok {N : Nat} {l : List (Int × Int)} {k a b : Nat} {x : Int × Int} (hx : l[k]? = some x) (ha : x.1 = a) (hb : x.2 = b) (hA : a < N) (hB : b < N) : inE N (l.take (k + 1)) = inE N (l.take k) ++ [(a, b)] := by
  unfold inE
  rw [take_step hx, List.filter_append, List.map_append]
  have h : okE N x = true := by simp [okE, ha, hb]; omega
  simp [h, natE, ha, hb]
theorem vE_all {N : Nat} {l : List (Int × Int)} (h : (inE N l).length ≤ 20000) : vE N l = inE N l := List.take_of_length_le h
theorem vE_cut {N : Nat} {l : List (Int × Int)} {k : Nat} (h : (inE N (l.take k)).length = 20000) : vE N l = inE N (l.take k) := by
  have h1 : inE N l = inE N (l.take k) ++ inE N (l.drop k) := by
    unfold inE
    rw [← List.map_append, ← List.filter_append, List.take_append_drop]
  unfold vE
  rw [h1, List.take_append_of_le_length (by omega), List.take_of_length_le (by omega)]
/-- a graph out of rows of the call's own -/
theorem gph_of {w : World} {B g n : Nat} {V : Nat → Value} {adj : Nat → List Nat} (hB : Blk w g 26 (arrV n V)) (hF : Fam w B V adj fun i => i < n) (hl : ∀ i, (adj i).length ≤ 1000000) : Gph w g n adj := by
  have h : ∀ i, ∃ (A : Option Addr) (C : Nat), i < n → V i = .slice A (adj i).length C ∧ Ints w A C (adj i) := by
    intro i
    by_cases hi : i < n
    · obtain ⟨A, C, h1, h2⟩ := (hF.own i hi).slc (z := 8) (by have := hl i; omega)
      exact ⟨A, C, fun _ => ⟨h1, h2⟩⟩
    · exact ⟨none, 0, fun h => absurd h hi⟩
  refine ⟨fun i => Classical.choose (h i), fun i => Classical.choose (Classical.choose_spec (h i)), ?_, fun i hi => (Classical.choose_spec (Classical.choose_spec (h i)) hi).2⟩
  have : arrV n V = arrV n fun i => .slice (Classical.choose (h i)) (adj i).length (Classical.choose (Classical.choose_spec (h i))) := by
    unfold arrV
    congr 1
    apply List.map_congr_left
    intro i hi
    exact (Classical.choose_spec (Classical.choose_spec (h i)) (List.mem_range.1 hi)).1
  rw [← this]
  exact hB
set_option maxRecDepth 100000 in
set_option maxHeartbeats 2000000 in
theorem build_any (n : Int) (A : Option Addr) (c : Nat) (l : List (Int × Int)) (N : Nat) (hN : max 0 (min n 2000) = (N : Int)) (w : World) (hl : Edges w A c l) :
    Calls Try.prog 16 #[.int .i64 n, .slice A l.length c] w fun e w' => ∃ g, e = .returned (.slice (some ⟨g, 0, none⟩) N N) ∧ Gph w' g N (adjE (vE N l)) ∧ w.heap.size ≤ g ∧ Below w.heap.size w w' := by
  have hbd := hl.bd
  have HL := Lib.hid hl
  clear hl
  have hN2 : N ≤ 2000 := by omega
  have hmk := run_make_row' (P := Try.prog) 39 26 (.slice none 0 0) 24 Try.underlying39 infRow rfl .i64 .i64 N (by omega) (by omega)
  go_enter Try.func16, Try.ntmps16
  go_wp2
  clear hmk hN
  go_loopw [6, 15] (fun cn i wr => ∃ (k : Nat) (V : Nat → Value) (E : List (Nat × Nat)), k ≤ l.length ∧ i = .int .i64 k ∧ E = inE N (l.take k) ∧ cn = .int .i64 E.length ∧ E.length ≤ 20000 ∧ Below w.heap.size w wr ∧ Blk wr w.heap.size 26 (arrV N V) ∧ Fam wr w.heap.size V (adjE E) (fun i => i < N)) (fun _ i _ => l.length - (intOf i).toNat)
  case atStart =>
    refine ⟨0, fun _ => .slice none 0 0, [], Nat.zero_le _, rfl, rfl, rfl, Nat.zero_le _, below_alloc (Below.refl _ _) _, by rw [← arr_made]; exact blk_new1 _ _ _, ?_⟩
    exact (fam_nil (J := fun i => i < N) (fam0 _ _ _ _) fun k _ _ => ⟨rfl, rfl⟩).congr (fun k h => .inr h) (fun _ _ => rfl) (fun _ _ => rfl)
  case round =>
    obtain ⟨k, V, E, hk, rfl, hE, rfl, hE2, hb, hK, hF⟩ := hrel
    have HB := Lib.hid hb
    have HE := Lib.hid hE
    have HK := Lib.hid hK
    have HF := Lib.hid hF
    clear hb hE hK hF
    by_cases hlt : k < l.length
    · obtain ⟨x, b, o, hx, rfl, e0, e1⟩ := HL.out.at_ hlt (Kept.of_below HB.out)
      have HX := Lib.hid hx
      clear hx
      by_cases ha : x.1 < 0
      · have hd : decide (x.1 < 0) = true := decide_eq_true ha
        have HBAD := Lib.hid (show okE N x = false by simp [okE]; omega)
        clear ha
        go_wp2_with fail
        go_roundw
        case rel => exact ⟨k + 1, V, E, by omega, by simp, by rw [inE_bad HX.out HBAD.out, ← HE.out], rfl, hE2, below_alloc HB.out _, HK.out.alloc _, HF.out.alloc _⟩
        case measure => (try simp only [intOf]); omega
      · have hd : decide (x.1 < 0) = false := decide_eq_false ha
        by_cases ha2 : (N : Int) ≤ x.1
        · have hd2 : decide ((N : Int) ≤ x.1) = true := decide_eq_true ha2
          have HBAD := Lib.hid (show okE N x = false by simp [okE]; omega)
          clear ha ha2
          go_wp2_with fail
          go_roundw
          case rel => exact ⟨k + 1, V, E, by omega, by simp, by rw [inE_bad HX.out HBAD.out, ← HE.out], rfl, hE2, below_alloc HB.out _, HK.out.alloc _, HF.out.alloc _⟩
          case measure => (try simp only [intOf]); omega
        · have hd2 : decide ((N : Int) ≤ x.1) = false := decide_eq_false ha2
          by_cases hb : x.2 < 0
          · have hd3 : decide (x.2 < 0) = true := decide_eq_true hb
            have HBAD := Lib.hid (show okE N x = false by simp [okE]; omega)
            clear ha ha2 hb
            go_wp2_with fail
            go_roundw
            case rel => exact ⟨k + 1, V, E, by omega, by simp, by rw [inE_bad HX.out HBAD.out, ← HE.out], rfl, hE2, below_alloc HB.out _, HK.out.alloc _, HF.out.alloc _⟩
            case measure => (try simp only [intOf]); omega
          · have hd3 : decide (x.2 < 0) = false := decide_eq_false hb
            by_cases hb2 : (N : Int) ≤ x.2
            · have hd4 : decide ((N : Int) ≤ x.2) = true := decide_eq_true hb2
              have HBAD := Lib.hid (show okE N x = false by simp [okE]; omega)
              clear ha ha2 hb hb2
              go_wp2_with fail
              go_roundw
              case rel => exact ⟨k + 1, V, E, by omega, by simp, by rw [inE_bad HX.out HBAD.out, ← HE.out], rfl, hE2, below_alloc HB.out _, HK.out.alloc _, HF.out.alloc _⟩
              case measure => (try simp only [intOf]); omega
            · obtain ⟨a, hxa⟩ := Int.eq_ofNat_of_zero_le (show 0 ≤ x.1 by omega)
              obtain ⟨b2, hxb⟩ := Int.eq_ofNat_of_zero_le (show 0 ≤ x.2 by omega)
              have hA : a < N := by omega
              have hB : b2 < N := by omega
              have HOK := Lib.hid (inE_ok HX.out hxa hxb hA hB)
              rw [hxa] at e0 hd hd2
              rw [hxb] at e1 hd3
              have hd4 : decide ((N : Int) ≤ (b2 : Int)) = false := decide_eq_false (by omega)
              clear ha ha2 hb hb2 hxa hxb
              by_cases hfull : E.length = 20000
              · have hgt : decide ((20000 : Int) < (E.length : Int) + 1) = true := decide_eq_true (by omega)
                have HV := Lib.hid (show vE N l = E by rw [HE.out]; exact vE_cut (by rw [← HE.out]; exact hfull))
                clear hfull
                go_wp2_with fail
                go_ret
                exact ⟨_, rfl, by rw [HV.out]; exact gph_of (HK.out.alloc _) (HF.out.alloc _) (fun i => by have := adj_len E i; omega), Nat.le_refl _, below_alloc HB.out _⟩
              · have hgt : decide ((20000 : Int) < (E.length : Int) + 1) = false := decide_eq_false (by omega)
                have hA0 : (0 : Int) ≤ (a : Int) := Int.natCast_nonneg _
                have hA1 : (a : Int) < (N : Int) := by omega
                have htn : ((a : Int)).toNat = a := Int.toNat_natCast _
                go_wp2_with fail
                clear e0 e1
                have HC := Lib.hid (show (fun w' : World => w'.cell? ⟨wr.heap.size, 0, none⟩ = some (.int .i64 a) ∧ w'.cell? ⟨wr.heap.size, 1, none⟩ = some (.int .i64 b2) ∧ w'.cell? ⟨w.heap.size, a, none⟩ = some (V a)) ((wr.alloc (.cells #[.int .i64 a, .int .i64 b2] 29)).drew) from ⟨(blk_new1 wr _ _).cell 0, (blk_new1 wr _ _).cell 1, ((HK.out.alloc _).cell a).trans (arr_get hA)⟩)
                refine regionC_l (fun w' : World => w'.cell? ⟨wr.heap.size, 0, none⟩ = some (.int .i64 a) ∧ w'.cell? ⟨wr.heap.size, 1, none⟩ = some (.int .i64 b2) ∧ w'.cell? ⟨w.heap.size, a, none⟩ = some (V a)) (fun j => j != 13) (n := 14) (listed := #[false, false, false, false, false, false, false, false, false, false, false, false, false, false]) (by kernel_rfl) rfl rfl ?_
                (refine pure_l (i := 0) (v := _) rfl (by decide +kernel) (by decide +kernel) (by decide +kernel) (by decide +kernel) (fun _ _ _ h => h) (by kernel_rfl) (by (intro w; go_simp; first | done | with_reducible rfl)) HC.out ?_; try simp only [Act.put, List.setIfInBounds_toArray, List.set_cons_zero, List.set_cons_succ])
                (refine pure_l (i := 1) (v := _) rfl (by decide +kernel) (by decide +kernel) (by decide +kernel) (by decide +kernel) (fun _ _ _ h => h) (by kernel_rfl) (by (intro w; go_simp; first | done | with_reducible rfl)) HC.out ?_; try simp only [Act.put, List.setIfInBounds_toArray, List.set_cons_zero, List.set_cons_succ])
                (refine pure_l (i := 3) (v := _) rfl (by decide +kernel) (by decide +kernel) (by decide +kernel) (by decide +kernel) (fun _ _ _ h => h) (by kernel_rfl) (by (intro w; go_simp; first | done | with_reducible rfl)) HC.out ?_; try simp only [Act.put, List.setIfInBounds_toArray, List.set_cons_zero, List.set_cons_succ])
                (refine pure_l (i := 4) (v := _) rfl (by decide +kernel) (by decide +kernel) (by decide +kernel) (by decide +kernel) (fun _ _ _ h => h) (by kernel_rfl) (by (intro w; go_simp; first | done | with_reducible rfl)) HC.out ?_; try simp only [Act.put, List.setIfInBounds_toArray, List.set_cons_zero, List.set_cons_succ])
                (refine pure_l (i := 8) (v := _) rfl (by decide +kernel) (by decide +kernel) (by decide +kernel) (by decide +kernel) (fun _ _ _ h => h) (by kernel_rfl) (by (intro w; go_simp; first | done | with_reducible rfl)) HC.out ?_; try simp only [Act.put, List.setIfInBounds_toArray, List.set_cons_zero, List.set_cons_succ])
                (refine load_l (i := 2) (v := _) rfl (by decide +kernel) (by decide +kernel) (by decide +kernel) (by decide +kernel) (fun _ _ _ h => h) ⟨by kernel_rfl, by (rintro w ⟨c0, c1, c2⟩; go_simp; first | done | with_reducible rfl)⟩ HC.out ?_; try simp only [Act.put, List.setIfInBounds_toArray, List.set_cons_zero, List.set_cons_succ])
                (refine load_l (i := 5) (v := _) rfl (by decide +kernel) (by decide +kernel) (by decide +kernel) (by decide +kernel) (fun _ _ _ h => h) ⟨by kernel_rfl, by (rintro w ⟨c0, c1, c2⟩; go_simp; first | done | with_reducible rfl)⟩ HC.out ?_; try simp only [Act.put, List.setIfInBounds_toArray, List.set_cons_zero, List.set_cons_succ])
                (refine load_l (i := 9) (v := _) rfl (by decide +kernel) (by decide +kernel) (by decide +kernel) (by decide +kernel) (fun _ _ _ h => h) ⟨by kernel_rfl, by (rintro w ⟨c0, c1, c2⟩; go_simp; first | done | with_reducible rfl)⟩ HC.out ?_; try simp only [Act.put, List.setIfInBounds_toArray, List.set_cons_zero, List.set_cons_succ])
                (refine pure_l (i := 6) (v := _) rfl (by decide +kernel) (by decide +kernel) (by decide +kernel) (by decide +kernel) (fun _ _ _ h => h) (by kernel_rfl) (by (intro w; go_simp; first | done | with_reducible rfl)) HC.out ?_; try simp only [Act.put, List.setIfInBounds_toArray, List.set_cons_zero, List.set_cons_succ])
                (refine load_l (i := 7) (v := _) rfl (by decide +kernel) (by decide +kernel) (by decide +kernel) (by decide +kernel) (fun _ _ _ h => h) ⟨by kernel_rfl, by (rintro w ⟨c0, c1, c2⟩; go_simp; first | done | with_reducible rfl)⟩ HC.out ?_; try simp only [Act.put, List.setIfInBounds_toArray, List.set_cons_zero, List.set_cons_succ])
                (refine one_l (i := 10) (by decide +kernel) rfl (fun K hK => ?_))
                go_simp
                refine hK _ _ (fun _ => ⟨Kept.alloc _ _ _ _ HC.out.1, Kept.alloc _ _ _ _ HC.out.2.1, Kept.alloc _ _ _ _ HC.out.2.2⟩) ?_
                clear hK K HC
                (try simp only [Act.put, List.setIfInBounds_toArray, List.set_cons_zero, List.set_cons_succ])
                have HFW := Lib.hid (((HF.out.alloc (.cells #[.int .i64 a, .int .i64 b2] 29)).drewN 1).alloc (.cells #[.int .i64 b2] 3))
                have HKW := Lib.hid (((HK.out.alloc (.cells #[.int .i64 a, .int .i64 b2] 29)).drewN 1).alloc (.cells #[.int .i64 b2] 3))
                have HXW := Lib.hid (((blk_new1 wr 29 #[.int .i64 a, .int .i64 b2]).drewN 1).alloc (.cells #[.int .i64 b2] 3))
                have HBW := Lib.hid (below_alloc (below_drewN (below_alloc HB.out (.cells #[.int .i64 a, .int .i64 b2] 29)) 1) (.cells #[.int .i64 b2] 3))
                clear HF HK HB
                (refine one_l (i := 11) (by decide +kernel) rfl (fun K hK => ?_))
                refine step_row (by rfl) _ _ 26 (by rfl) Try.underlying26 w.heap.size (V a) (adjE E a) (by rfl) (HFW.out.own a hA) b2 (wr.heap.size + 1) 1 (by rfl) (blk_new2 wr (.cells #[.int .i64 a, .int .i64 b2] 29) 3 #[.int .i64 b2]) (by have := adj_len E a; omega) HBW.out.size ?_
                intro g2 cap w2 ho2 hg2 hat2
                have HK2 := Lib.hid ((HFW.out.own a hA).blk HKW.out (by decide) hg2)
                have HX2 := Lib.hid ((HFW.out.own a hA).blk HXW.out (by decide) hg2)
                have HB2 := Lib.hid ((HFW.out.own a hA).below HBW.out HBW.out.size hg2)
                have HF2 := Lib.hid (HFW.out.app hA ho2 hg2 hat2)
                clear ho2 hg2 hat2 HFW HKW HXW HBW
                have HC := Lib.hid (show (fun w' : World => w'.cell? ⟨wr.heap.size, 0, none⟩ = some (.int .i64 a) ∧ w'.cell? ⟨wr.heap.size, 1, none⟩ = some (.int .i64 b2) ∧ w'.cell? ⟨w.heap.size, a, none⟩ = some (V a)) w2 from ⟨HX2.out.cell 0, HX2.out.cell 1, (HK2.out.cell a).trans (arr_get hA)⟩)
                refine hK _ _ (fun _ => HC.out) ?_
                clear hK K
                (try simp only [Act.put, List.setIfInBounds_toArray, List.set_cons_zero, List.set_cons_succ])
                (refine pure_l (i := 12) (v := _) rfl (by decide +kernel) (by decide +kernel) (by decide +kernel) (by decide +kernel) (fun _ _ _ h => h) (by kernel_rfl) (by (intro w; go_simp; first | done | with_reducible rfl)) HC.out ?_; try simp only [Act.put, List.setIfInBounds_toArray, List.set_cons_zero, List.set_cons_succ])
                have hfr := HK2.out.frozen a
                have hcl := HC.out.2.2
                have hgl := HK2.out.lt
                (refine one_l (i := 13) (by decide +kernel) rfl (fun K hK => ?_))
                go_simp
                refine hK _ _ (fun h => absurd h (by decide)) ?_
                clear hK K hfr hcl hgl HC
                (try simp only [Act.put, List.setIfInBounds_toArray, List.set_cons_zero, List.set_cons_succ])
                refine done_l (by decide +kernel) ?_ _
                go_wp2_with fail
                go_roundw
                case rel => exact ⟨k + 1, upf V a (.slice (some ⟨g2, 0, none⟩) ((adjE E a).length + 1) cap), E ++ [(a, b2)], by omega, by simp, by rw [HOK.out, ← HE.out], by simp, by simp; omega, HB2.out.setCell (Nat.le_refl _) _, by rw [← arr_set]; exact HK2.out.set_ a _, by rw [adj_snoc]; exact HF2.out.other (fun cur h => by rw [HK2.out] at h; injection h with h; injection h with _ h; exact absurd h (by decide)) _⟩
                case measure => (try simp only [intOf]); omega
    · go_wp2
      go_ret
      have hE := HE.out
      rw [List.take_of_length_le (by omega)] at hE
      exact ⟨_, rfl, by rw [vE_all (by rw [← hE]; exact hE2), ← hE]; exact gph_of HK.out HF.out (fun i => by have := adj_len E i; omega), Nat.le_refl _, HB.out⟩
end Go.Proofs.Ytodhianmaogfpaa
