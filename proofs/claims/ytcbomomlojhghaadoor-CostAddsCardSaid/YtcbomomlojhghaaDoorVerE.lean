/- The contracts of version.Part and of what it calls. -/
import Derived.Test.YtcbomomlojhghaaDoorVerB
import Derived.Test.YtcbomomlojhghaaDoorVp
import Derived.Test.YtcbomomlojhghaaDoorMem
import Derived.RegionTactic
import Derived.ChangeAlike
import Derived.BigRegion
namespace Go.Proofs.YtcbomomlojhghaaDoor
set_option linter.unusedSimpArgs false
set_option linter.unusedVariables false
open Go.RowKit

theorem compareInt_any (x y : Int) (w : World) :
    Calls Tryd.prog 107 #[.int .i64 x, .int .i64 y] w fun e w' => e = .returned (.int .i64 (Lib.compareInt x y)) ∧ w = w' :=
  (Tryd.cmp_Compare_int x y w).mono fun _ _ h => ⟨h.1, h.2.symm⟩

theorem isNaN_str (l : List UInt8) (w : World) :
    Calls Tryd.prog 118 #[.string (bs l)] w fun e w' => e = .returned (.bool false) ∧ w = w' := by
  go_enter Tryd.func118, Tryd.ntmps118
  go_wp2
  go_ret
  simp
theorem compareStr_any (a b : List UInt8) (w : World) :
    Calls Tryd.prog 109 #[.string (bs a), .string (bs b)] w fun e w' => e = .returned (.int .i64 (cmpB a b)) ∧ w = w' := by
  go_enter Tryd.func109, Tryd.ntmps109
  go_wp2_with (go_at_call 118; refine (isNaN_str _ _).mono ?_; rintro e w' ⟨rfl, rfl⟩)
  all_goals go_ret
  all_goals (refine ⟨?_, rfl⟩; go_tidy; simp [cmpB]; grind)

theorem signs_stop {a b : List UInt8} (h1 : rankS a = rankS b) (h2 : rankS b = 0) : signsS a b = (0, a, b) := by
  rcases a with _ | ⟨x, a⟩
  · simp [signsS, h2, Lib.compareInt]
  · simp [signsS, h1, h2]
theorem signs_part {a b : List UInt8} (h1 : ¬ rankS a = rankS b) : signsS a b = (Lib.compareInt (rankS a) (rankS b), a, b) := by
  rcases a with _ | ⟨x, a⟩
  · simp [signsS, rankS]
  · simp [signsS, h1]
theorem signs_go {x y : UInt8} {a b : List UInt8} (h1 : rankS (x :: a) = rankS (y :: b)) (h2 : ¬ rankS (y :: b) = 0) : signsS (x :: a) (y :: b) = signsS a b := by
  simp [signsS, h1, h2]
theorem rank_quiet (l : List UInt8) (w : World) :
    Calls Tryd.prog 106 #[.string (bs l)] w fun e w' => e = .returned (.int .i64 (rankS l)) ∧ w' = w :=
  (rank_any l w).mono fun _ _ h => ⟨h.1, h.2.symm⟩
set_option maxRecDepth 100000 in
theorem signs_any (g : Nat) (a b : List UInt8) (w : World) (hl : a.length + b.length ≤ 4194304) (hB : Blk w g 136 #[.string (bs a), .string (bs b)]) :
    Calls Tryd.prog 94 #[.pointer (some ⟨g, 0, none⟩)] w fun e w' => e = .returned (.int .i64 (signsS a b).1) ∧ Blk w' g 136 #[.string (bs (signsS a b).2.1), .string (bs (signsS a b).2.2)] ∧ w.grownBy w' (some g) := by
  go_enter Tryd.func94, Tryd.ntmps94
  go_wp2
  go_loopw [3] (fun _ wr => ∃ a' b', Blk wr g 136 #[.string (bs a'), .string (bs b')] ∧ w.grownBy wr (some g) ∧ signsS a' b' = signsS a b) (fun _ wr => strAt wr ⟨g, 0, none⟩)
  case atStart => exact ⟨a, b, hB, World.grownBy.refl w _, rfl⟩
  case round =>
    obtain ⟨a', b', hB', hg', heq⟩ := hrel
    have HB := Lib.hid hB'
    have HG := Lib.hid hg'
    have HE := Lib.hid heq
    have c0 : wr.cell? ⟨g, 0, none⟩ = some (.string (bs a')) := hB'.cell 0
    have c1 : wr.cell? ⟨g, 1, none⟩ = some (.string (bs b')) := hB'.cell 1
    have f0 := hB'.frozen 0
    have f1 := hB'.frozen 1
    clear hB' hg' heq hB
    by_cases h1 : rankS a' = rankS b'
    · by_cases h2 : rankS b' = 0
      · have hz : (rankS a' == 0) = true := by rw [h1, h2]; rfl
        have hn : (rankS a' != rankS b') = false := by simp [h1]
        have H1 := Lib.hid h1
        have H2 := Lib.hid h2
        clear h1 h2
        go_wp2_with fail
        go_quiet ((go_at_call 106; exact Calls.quiet_of_same (rank_quiet _ _)))
        go_wp2
        go_ret
        exact ⟨by rw [← HE.out, signs_stop H1.out H2.out]; rfl, by rw [← HE.out, signs_stop H1.out H2.out]; exact HB.out, only_drewN HG.out _⟩
      · rcases a' with _ | ⟨x, a'⟩
        · exact absurd h1.symm h2
        rcases b' with _ | ⟨y, b'⟩
        · exact absurd rfl h2
        have hz : (rankS (x :: a') == 0) = false := by rw [h1]; simpa using h2
        have hn : (rankS (x :: a') != rankS (y :: b')) = false := by simp [h1]
        have H1 := Lib.hid h1
        have H2 := Lib.hid h2
        clear h1 h2
        go_wp2_with fail
        go_quiet ((go_at_call 106; exact Calls.quiet_of_same (rank_quiet _ _)))
        go_wp2
        go_region
        go_wp2
        go_roundw
        case rel => exact ⟨a', b', (HB.out.set_ 0 _).set_ 1 _, only_setCell (only_setCell (only_drewN HG.out _) (.inl rfl) _) (.inl rfl) _, by rw [← signs_go H1.out H2.out]; exact HE.out⟩
        case measure =>
          refine Nat.lt_of_le_of_lt (Nat.le_of_eq (strAt_of (s := bs a') ?_)) ?_
          · exact (((HB.out.drewN (nq + 1)).set_ 0 _).set_ 1 (.string (bs b'))).cell 0
          · rw [strAt_of c0]
            simp [bs_size]

    · go_wp2_with fail
      go_quiet ((go_at_call 106; exact Calls.quiet_of_same (rank_quiet _ _)))
      go_wp2_with (go_at_call 107; refine (compareInt_any _ _ _).mono ?_; rintro e w' ⟨rfl, rfl⟩)
      go_ret
      exact ⟨by rw [← HE.out, signs_part h1]; rfl, by rw [← HE.out, signs_part h1]; exact HB.out, only_drewN HG.out _⟩

set_option maxRecDepth 100000 in
set_option maxHeartbeats 800000 in
theorem numbers_any (g : Nat) (a b : List UInt8) (w : World) (hl : a.length ≤ 1048576) (hl2 : b.length ≤ 1048576) (hB : Blk w g 136 #[.string (bs a), .string (bs b)]) :
    Calls Tryd.prog 95 #[.pointer (some ⟨g, 0, none⟩)] w fun e w' => e = .returned (.int .i64 (numsS a b)) ∧ Blk w' g 136 #[.string (bs (digitsS a).2), .string (bs (digitsS b).2)] ∧ w.grownBy w' (some g) := by
  have HB := Lib.hid hB
  have c0 : w.cell? ⟨g, 0, none⟩ = some (.string (bs a)) := hB.cell 0
  have c1 : w.cell? ⟨g, 1, none⟩ = some (.string (bs b)) := hB.cell 1
  clear hB
  have hd1 := digits_len a
  have hd2 := digits_len b
  go_enter Tryd.func95, Tryd.ntmps95
  go_wp2_with fail
  refine (digits_any a hl _).mono ?_
  rintro e w1 ⟨rfl, hb1⟩
  have HB1 := Lib.hid (HB.out.next hb1)
  have d1 : w1.cell? ⟨g, 1, none⟩ = some (.string (bs b)) := HB1.out.cell 1
  go_wp2_with fail
  refine (digits_any b hl2 _).mono ?_
  rintro e w2 ⟨rfl, hb2⟩
  have HB2 := Lib.hid (HB1.out.next hb2)
  have e0 : w2.cell? ⟨g, 0, none⟩ = some (.string (bs a)) := HB2.out.cell 0
  have e1 : w2.cell? ⟨g, 1, none⟩ = some (.string (bs b)) := HB2.out.cell 1
  have g0 := HB2.out.frozen 0
  have g1 := HB2.out.frozen 1
  go_wp2_with (first | (go_at_call 107; refine (compareInt_any _ _ _).mono ?_; rintro e w' ⟨rfl, rfl⟩) | (go_at_call 109; refine (compareStr_any _ _ _).mono ?_; rintro e w' ⟨rfl, rfl⟩))
  all_goals go_ret
  all_goals refine ⟨?_, (HB2.out.set_ 0 _).set_ 1 _, only_set (only_set (only_next (only_of_below hb1 _) hb2) _ _) _ _⟩
  all_goals (go_tidy; simp [numsS]; grind)

theorem partS_step {a b : List UInt8} (hne : ¬ (a = [] ∧ b = [])) (h1 : (signsS a b).1 = 0) (h2 : numsS (signsS a b).2.1 (signsS a b).2.2 = 0) :
    partS a b = partS (digitsS (signsS a b).2.1).2 (digitsS (signsS a b).2.2).2 := by
  rw [partS_round hne, if_neg (by simp [h1]), if_neg (by simp [h2])]
theorem partS_signs {a b : List UInt8} (hne : ¬ (a = [] ∧ b = [])) (h1 : ¬ (signsS a b).1 = 0) : partS a b = (signsS a b).1 := by
  rw [partS_round hne, if_pos h1]
theorem partS_nums {a b : List UInt8} (hne : ¬ (a = [] ∧ b = [])) (h1 : (signsS a b).1 = 0) (h2 : ¬ numsS (signsS a b).2.1 (signsS a b).2.2 = 0) :
    partS a b = numsS (signsS a b).2.1 (signsS a b).2.2 := by
  rw [partS_round hne, if_neg (by simp [h1]), if_pos h2]
set_option maxRecDepth 100000 in
theorem part_any (a b : List UInt8) (w : World) (hl : a.length ≤ 1048576) (hl2 : b.length ≤ 1048576) :
    Calls Tryd.prog 78 #[.string (bs a), .string (bs b)] w fun e w' => e = .returned (.int .i64 (partS a b)) ∧ Below w.heap.size w w' := by
  go_enter Tryd.func78, Tryd.ntmps78
  go_wp2
  go_loopw [6] (fun _ wr => ∃ a' b', Blk wr w.heap.size 136 #[.string (bs a'), .string (bs b')] ∧ Below w.heap.size w wr ∧ partS a' b' = partS a b ∧ a'.length ≤ 1048576 ∧ b'.length ≤ 1048576) (fun _ wr => strAt wr ⟨w.heap.size, 0, none⟩ + strAt wr ⟨w.heap.size, 1, none⟩)
  case atStart => exact ⟨a, b, Blk.new _ _ _, (Below.refl _ _).alloc (Nat.le_refl _) _, rfl, hl, hl2⟩
  case round =>
    obtain ⟨a', b', hB', hg', heq, hl1, hl3⟩ := hrel
    have HB := Lib.hid hB'
    have HG := Lib.hid hg'
    have HE := Lib.hid heq
    have c0 : wr.cell? ⟨w.heap.size, 0, none⟩ = some (.string (bs a')) := hB'.cell 0
    have c1 : wr.cell? ⟨w.heap.size, 1, none⟩ = some (.string (bs b')) := hB'.cell 1
    clear hB' hg' heq
    rcases a' with _ | ⟨x, a'⟩
    · rcases b' with _ | ⟨y, b'⟩
      · go_wp2
        go_ret
        exact ⟨by rw [← HE.out]; rfl, HG.out⟩
      · have hs := signs_len [] (y :: b')
        have hd1 := digits_len (signsS [] (y :: b')).2.1
        have hd2 := digits_len (signsS [] (y :: b')).2.2
        go_wp2_with (first | (go_at_call 94; refine (signs_any _ [] (y :: b') _ (by omega) HB.out).mono ?_; rintro e w1 ⟨rfl, hB1, hg1⟩; have HB1 := Lib.hid hB1; clear hB1) | (go_at_call 95; refine (numbers_any _ _ _ _ (by omega) (by omega) HB1.out).mono ?_; rintro e w2 ⟨rfl, hB2, hg2⟩; have HB2 := Lib.hid hB2; clear hB2))
        all_goals first
          | (go_ret
             exact ⟨by rw [← HE.out, partS_signs (by simp) (by go_tidy; grind)]; rfl, below_only HG.out hg1 (Nat.le_refl _)⟩)
          | (go_ret
             exact ⟨by rw [← HE.out, partS_nums (by simp) (by go_tidy; grind) (by go_tidy; grind)]; rfl, below_only (below_only HG.out hg1 (Nat.le_refl _)) hg2 (Nat.le_refl _)⟩)
          | (go_roundw
             case rel => exact ⟨_, _, HB2.out, below_only (below_only HG.out hg1 (Nat.le_refl _)) hg2 (Nat.le_refl _), (partS_step (a := []) (b := (y :: b')) (by simp) (by go_tidy; grind) (by go_tidy; grind)).symm.trans HE.out, by omega, by omega⟩
             case measure =>
               have m0 := strAt_of (show w2.cell? ⟨w.heap.size, 0, none⟩ = some (.string (bs _)) from HB2.out.cell 0)
               have m1 := strAt_of (show w2.cell? ⟨w.heap.size, 1, none⟩ = some (.string (bs _)) from HB2.out.cell 1)
               rw [m0, m1, strAt_of c0, strAt_of c1]
               simp only [bs_size]
               exact round_len (by simp) (by go_tidy; grind))
    · have hs := signs_len (x :: a') b'
      have hd1 := digits_len (signsS (x :: a') b').2.1
      have hd2 := digits_len (signsS (x :: a') b').2.2
      go_wp2_with (first | (go_at_call 94; refine (signs_any _ (x :: a') b' _ (by omega) HB.out).mono ?_; rintro e w1 ⟨rfl, hB1, hg1⟩; have HB1 := Lib.hid hB1; clear hB1) | (go_at_call 95; refine (numbers_any _ _ _ _ (by omega) (by omega) HB1.out).mono ?_; rintro e w2 ⟨rfl, hB2, hg2⟩; have HB2 := Lib.hid hB2; clear hB2))
      all_goals first
        | (go_ret
           exact ⟨by rw [← HE.out, partS_signs (by simp) (by go_tidy; grind)]; rfl, below_only HG.out hg1 (Nat.le_refl _)⟩)
        | (go_ret
           exact ⟨by rw [← HE.out, partS_nums (by simp) (by go_tidy; grind) (by go_tidy; grind)]; rfl, below_only (below_only HG.out hg1 (Nat.le_refl _)) hg2 (Nat.le_refl _)⟩)
        | (go_roundw
           case rel => exact ⟨_, _, HB2.out, below_only (below_only HG.out hg1 (Nat.le_refl _)) hg2 (Nat.le_refl _), (partS_step (a := (x :: a')) (b := b') (by simp) (by go_tidy; grind) (by go_tidy; grind)).symm.trans HE.out, by omega, by omega⟩
           case measure =>
             have m0 := strAt_of (show w2.cell? ⟨w.heap.size, 0, none⟩ = some (.string (bs _)) from HB2.out.cell 0)
             have m1 := strAt_of (show w2.cell? ⟨w.heap.size, 1, none⟩ = some (.string (bs _)) from HB2.out.cell 1)
             rw [m0, m1, strAt_of c0, strAt_of c1]
             simp only [bs_size]
             exact round_len (by simp) (by go_tidy; grind))
end Go.Proofs.YtcbomomlojhghaaDoor
