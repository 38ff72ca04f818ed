/- The contracts of slices.Grow and slices.Concat at clauses. -/
import Derived.Test.YtflmocamfedbdaaGreatDoorMaC
import Derived.Test.YtflmocamfedbdaaGreatDoorMk
namespace Go.Proofs.YtflmocamfedbdaaGreatDoor
set_option linter.unusedSimpArgs false
set_option linter.unusedVariables false
open Go.RowKit

set_option maxRecDepth 100000 in
theorem grow_any (n : Nat) (hn : n ≤ 2000000) (w : World) :
    Calls Tryz.prog 129 #[.slice none 0 0, .int .i64 n] w fun e w' => ∃ v, e = .returned v ∧ (∀ wz, Own w' w.heap.size 77 1 (RCls wz) v []) ∧ Below w.heap.size w w' := by
  rcases n with _ | n
  · go_enter Tryz.func129, Tryz.ntmps129
    go_wp2
    go_ret
    exact ⟨_, rfl, fun _ => Own.nil_ _ _ _ _ _, Below.refl _ _⟩
  · obtain ⟨i, hi, hz0, hz1, hz2⟩ := info_parts (P := Tryz.prog) infCls
    have hG := grownCap_le_maxLen w (n + 1) 0 77 (by unfold maxLen; omega)
    have hrz : ∀ ty, (Builtin.append_ #[22, 3] ty #[.slice none 0 0, .int .i64 ((n : Int) + 1)]).run Tryz.prog w = .ok (.slice (some ⟨w.heap.size, 0, none⟩) (n + 1) (grownCap w (n + 1) 0 77)) (w.drew.alloc (.cells (Builtin.zeroCells (Value.slice none 0 0).cells (n + 1) ++ Builtin.zeroCells (Value.slice none 0 0).cells (grownCap w (n + 1) 0 77 - (n + 1))) 77)) := fun ty => by
      have h := Lib.run_append_nil_zeros (P := Tryz.prog) w 22 3 ty 77 i (.slice none 0 0) .i64 .i64 Tryz.underlying22 Tryz.underlying3 hi hz0 (n + 1) (by omega) (by omega) (by omega) (by rw [hz2]; omega)
      exact h
    have hge := grownCap_ge w (n + 1) 0 77
    have hown : (w.drew.alloc (.cells (Builtin.zeroCells (Value.slice none 0 0).cells (n + 1) ++ Builtin.zeroCells (Value.slice none 0 0).cells (grownCap w (n + 1) 0 77 - (n + 1))) 77)).ownsRow w.heap.size 77 1 (.slice (some ⟨w.heap.size, 0, none⟩) 0 (grownCap w (n + 1) 0 77)) 0 [] :=
      World.ownsRow_made w.drew _ _ (Nat.le_refl _) hG (by simp only [Array.size_append, size_zeroCells, Value.cells]; simp; omega)
    have hb : Below w.heap.size w (w.drew.alloc (.cells (Builtin.zeroCells (Value.slice none 0 0).cells (n + 1) ++ Builtin.zeroCells (Value.slice none 0 0).cells (grownCap w (n + 1) 0 77 - (n + 1))) 77)) := below_alloc (below_drewN (Below.refl _ _) 1) _
    have HO := Lib.hid hown
    have HB := Lib.hid hb
    have hG63 : grownCap w (n + 1) 0 77 ≤ 9223372036854775807 := by unfold maxLen at hG; omega
    clear hown hb hG hi hz0 hz1 hz2
    generalize grownCap w (n + 1) 0 77 = G at *
    generalize World.alloc _ _ = W at *
    have HR := Lib.hid hrz
    clear hrz
    go_enter Tryz.func129, Tryz.ntmps129
    go_wp2_with (at_builtin; refine Lib.wpList_append_run _ rfl _ _ _ _ rfl _ _ rfl rfl _ _ (HR.out _) ?_)
    all_goals go_ret
    all_goals exact ⟨_, rfl, fun _ => ⟨[], rfl, fun i cs x h => by simp at h, HO.out⟩, HB.out⟩
def lenT (L : List (List (List Atm))) (k : Nat) : Nat := ((L.take k).map List.length).sum
theorem lenT_step {L : List (List (List Atm))} {k : Nat} {x : List (List Atm)} (hx : L[k]? = some x) : lenT L (k + 1) = lenT L k + x.length := by
  unfold lenT
  rw [take_step hx, List.map_append, List.sum_append]
  simp
theorem lenT_flat (L : List (List (List Atm))) (k : Nat) : (L.take k).flatten.length = lenT L k := by
  unfold lenT
  rw [List.length_flatten]
theorem encCls_one {w : World} : ∀ cs y, RCls w cs y → ∀ u ∈ cs, u.oneCell' = true := fun cs y ⟨A, c, h, _⟩ u hu => by
  subst h
  simp at hu
  subst hu
  rfl
def sumLe (L : List (List (List Atm))) : Prop := ∀ k, k ≤ L.length → lenT L k ≤ 2000000
set_option maxRecDepth 100000 in
set_option maxHeartbeats 400000 in
theorem concat_own (wz : World) (A : Option Addr) (c k0 : Nat) (L : List (List (List Atm))) (hk0 : L.length = k0) (w : World) (hz : Kept wz w) (hl : Slc w 1 24 (RClss wz) A c L) (hs : sumLe L) :
    Calls Tryz.prog 110 #[.slice A k0 c] w fun e w' => ∃ A c, e = .returned (.slice A L.flatten.length c) ∧ Own w' w.heap.size 77 1 (RCls wz) (.slice A L.flatten.length c) L.flatten ∧ Below w.heap.size w w' ∧ L.flatten.length * 24 ≤ 140737488351232 := by
  subst hk0
  have hbd := hl.bd
  have HL := Lib.hid hl
  have HS := Lib.hid hs
  clear hl hs
  go_enter Tryz.func110, Tryz.ntmps110
  go_wp2
  go_loop [3, 11] (fun s i => ∃ k : Nat, k ≤ L.length ∧ i = .int .i64 k ∧ s = .int .i64 (lenT L k : Nat)) (fun _ i => L.length - (intOf i).toNat)
  case atStart => exact ⟨0, Nat.zero_le _, rfl, rfl⟩
  case round =>
    obtain ⟨k, hk, rfl, rfl⟩ := hrel
    by_cases hlt : k < L.length
    · obtain ⟨q, b, o, cs, hq, rfl, ⟨A', c', rfl, hC⟩, _, hr⟩ := HL.out.at_ hlt
      have g0 : w.cell? ⟨b, o + k, none⟩ = some (.slice A' q.length c') := by have := hr 0 _ rfl; simpa using this
      have hst := lenT_step hq
      have hle := HS.out (k + 1) hlt
      have hle0 := HS.out k hk
      generalize hX : lenT L k = X at hst hle0 ⊢
      have HST := Lib.hid hst
      have hq0 : X + q.length ≤ 2000000 := by omega
      have hwr : IntKind.i64.wrap ((X : Int) + (q.length : Int)) = (X : Int) + (q.length : Int) := by rw [IntKind.wrap_i64]; omega
      have hneg : ¬ ((X : Int) + (q.length : Int) < 0) := by omega
      clear hr hC hq hst hle
      go_wp2
      go_round
      case rel => exact ⟨k + 1, by omega, by simp, by rw [HST.out]; simp⟩
      case measure => (try simp only [intOf]); omega
    · have hkl : k = L.length := by omega
      subst hkl
      have hle := HS.out L.length (Nat.le_refl _)
      generalize hX : lenT L L.length = X at hle ⊢
      have HX := Lib.hid hX
      clear hX
      go_wp2_with fail
      refine (grow_any X hle w).mono ?_
      rintro e w1 ⟨v, rfl, ho, hb1⟩
      have HO := Lib.hid (ho wz)
      have HB1 := Lib.hid hb1
      clear ho hb1 hlt
      go_wp2
      go_loopw [6, 27] (fun v i wr => ∃ k : Nat, k ≤ L.length ∧ i = .int .i64 k ∧ Below w.heap.size w wr ∧ Own wr w.heap.size 77 1 (RCls wz) v (L.take k).flatten) (fun _ i _ => L.length - (intOf i).toNat)
      case atStart => exact ⟨0, Nat.zero_le _, rfl, HB1.out, HO.out⟩
      case round =>
        clear HO HB1 hk
        obtain ⟨k, hk, rfl, hb, ho⟩ := hrel
        have HB := Lib.hid hb
        have HO := Lib.hid ho
        clear hb ho
        by_cases hlt : k < L.length
        · obtain ⟨q, b, o, cs, hq, rfl, ⟨A', c', rfl, hC⟩, _, hr⟩ := HL.out.at_ hlt
          have g0 : wr.cell? ⟨b, o + k, none⟩ = some (.slice A' q.length c') := by have := Kept.of_below HB.out _ _ (hr 0 _ rfl); simpa using this
          have HC := Lib.hid (show Slc wr 1 24 (RCls wz) A' c' q from Slc.mono hC (hz.trans (Kept.of_below HB.out)) fun _ _ h => h)
          have hst := lenT_step hq
          have hle := HS.out (k + 1) hlt
          have hfl := lenT_flat L k
          have HQ := Lib.hid hq
          have HN := Lib.hid (show ((L.take k).flatten.length + q.length) * 24 ≤ 140737488355328 by rw [hfl]; omega)
          clear hr hC hq hst hle hfl
          go_wp2_with (at_builtin; refine wpList_append_all (by rfl) _ _ 22 (by rfl) w.heap.size 77 _ 1 24 24 Tryz.underlying22 infCls rfl (by omega) (RCls wz) _ _ (by rfl) HO.out A' c' q (by rfl) HC.out encCls_one HN.out (by omega) HB.out.size ?_; intro v2 w2 ho2 hg2)
          have hb2 := HO.out.below HB.out HB.out.size hg2
          go_roundw
          case rel => exact ⟨k + 1, by omega, by simp, hb2, by rw [take_step HQ.out, List.flatten_append]; simpa using ho2⟩
          case measure => (try simp only [intOf]); omega
        · have ho := HO.out
          rw [take_end hk hlt] at ho
          have hfl := lenT_flat L L.length
          rw [List.take_length, HX.out] at hfl
          obtain ⟨A2, c2, rfl, hs2⟩ := ho.slc (z := 24) (by rw [hfl]; omega)
          have HS2 := Lib.hid ho
          have HF2 := Lib.hid (show L.flatten.length * 24 ≤ 140737488351232 by rw [hfl]; omega)
          clear ho hs2 hfl
          generalize hF : L.flatten = F at HS2 HF2 ⊢
          have HF := Lib.hid hF
          clear hF
          go_wp2
          go_ret
          rw [HF.out]
          exact ⟨A2, c2, rfl, HS2.out, HB.out, HF2.out⟩
theorem concat_any (A : Option Addr) (c k0 : Nat) (L : List (List (List Atm))) (hk0 : L.length = k0) (w : World) (hl : Slc w 1 24 (RClss w) A c L) (hs : sumLe L) :
    Calls Tryz.prog 110 #[.slice A k0 c] w (RetClss w L.flatten) :=
  (concat_own w A c k0 L hk0 w (Kept.refl _) hl hs).mono fun e w' ⟨A, c, h1, h2, h3, h4⟩ => by
    obtain ⟨A', c', h5, h6⟩ := h2.slc (z := 24) h4
    injection h5 with h5 h7 h8
    subst h5 h8
    exact ⟨A, c, h1, Slc.mono h6 (Kept.refl _) fun _ _ h => h.kept (Kept.of_below h3), h3⟩
end Go.Proofs.YtflmocamfedbdaaGreatDoor
