/- The contracts of the reference's Part and of what it calls. The contracts of version.Part and of what it calls. The contract of the reference's Part. The contract of the reference's Version, joined. The contracts of Compare, Same, Holds: the program's and the reference's. The contracts of Compare, Same, Holds, Sign, Rel: the program's and the reference's. -/
import Derived.Test.YtcbomomlojhghaaDoorVerC
import Derived.Test.YtcbomomlojhghaaDoorVq
import Derived.Test.YtcbomomlojhghaaDoorWa
import Derived.Test.YtcbomomlojhghaaDoorVb
import Derived.Test.YtcbomomlojhghaaDoorMem
import Derived.RegionTactic
import Derived.ChangeAlike
import Derived.BigRegion
import Derived.Lib.SmallJoins
namespace Go.Proofs.YtcbomomlojhghaaDoor
set_option linter.unusedSimpArgs false
set_option linter.unusedVariables false
open Go.RowKit

end Go.Proofs.YtcbomomlojhghaaDoor
namespace Go.Proofs.YtcbomomlojhghaaDoor
set_option linter.unusedSimpArgs false
set_option linter.unusedVariables false
open Go.RowKit

theorem compareInt_any (x y : Int) (w : World) :
    Calls Tryd.prog 107 #[.int .i64 x, .int .i64 y] w fun e w' => e = .returned (.int .i64 (Lib.compareInt x y)) ∧ w = w' :=
  (Tryd.cmp_Compare_int x y w).mono fun _ _ h => ⟨h.1, h.2.symm⟩

theorem isNaN_str (l : List UInt8) (w : World) :
    Calls Tryd.prog 118 #[.string (bs l)] w fun e w' => e = .returned (.bool false) ∧ w = w' := by
  go_enter Tryd.func118, Tryd.ntmps118
  go_wp2
  go_ret
  simp
theorem compareStr_any (a b : List UInt8) (w : World) :
    Calls Tryd.prog 109 #[.string (bs a), .string (bs b)] w fun e w' => e = .returned (.int .i64 (cmpB a b)) ∧ w = w' := by
  go_enter Tryd.func109, Tryd.ntmps109
  go_wp2_with (go_at_call 118; refine (isNaN_str _ _).mono ?_; rintro e w' ⟨rfl, rfl⟩)
  all_goals go_ret
  all_goals (refine ⟨?_, rfl⟩; go_tidy; simp [cmpB]; grind)

theorem signs_stop {a b : List UInt8} (h1 : rankS a = rankS b) (h2 : rankS b = 0) : signsS a b = (0, a, b) := by
  rcases a with _ | ⟨x, a⟩
  · simp [signsS, h2, Lib.compareInt]
  · simp [signsS, h1, h2]
theorem signs_part {a b : List UInt8} (h1 : ¬ rankS a = rankS b) : signsS a b = (Lib.compareInt (rankS a) (rankS b), a, b) := by
  rcases a with _ | ⟨x, a⟩
  · simp [signsS, rankS]
  · simp [signsS, h1]
theorem signs_go {x y : UInt8} {a b : List UInt8} (h1 : rankS (x :: a) = rankS (y :: b)) (h2 : ¬ rankS (y :: b) = 0) : signsS (x :: a) (y :: b) = signsS a b := by
  simp [signsS, h1, h2]
theorem rank_quiet (l : List UInt8) (w : World) :
    Calls Tryd.prog 106 #[.string (bs l)] w fun e w' => e = .returned (.int .i64 (rankS l)) ∧ w' = w :=
  (rank_any l w).mono fun _ _ h => ⟨h.1, h.2.symm⟩
set_option maxRecDepth 100000 in
theorem signs_any (g : Nat) (a b : List UInt8) (w : World) (hl : a.length + b.length ≤ 4194304) (hB : Blk w g 136 #[.string (bs a), .string (bs b)]) :
    Calls Tryd.prog 94 #[.pointer (some ⟨g, 0, none⟩)] w fun e w' => e = .returned (.int .i64 (signsS a b).1) ∧ Blk w' g 136 #[.string (bs (signsS a b).2.1), .string (bs (signsS a b).2.2)] ∧ w.grownBy w' (some g) := by
  go_enter Tryd.func94, Tryd.ntmps94
  go_wp2
  go_loopw [3] (fun _ wr => ∃ a' b', Blk wr g 136 #[.string (bs a'), .string (bs b')] ∧ w.grownBy wr (some g) ∧ signsS a' b' = signsS a b) (fun _ wr => strAt wr ⟨g, 0, none⟩)
  case atStart => exact ⟨a, b, hB, World.grownBy.refl w _, rfl⟩
  case round =>
    obtain ⟨a', b', hB', hg', heq⟩ := hrel
    have HB := Lib.hid hB'
    have HG := Lib.hid hg'
    have HE := Lib.hid heq
    have c0 : wr.cell? ⟨g, 0, none⟩ = some (.string (bs a')) := hB'.cell 0
    have c1 : wr.cell? ⟨g, 1, none⟩ = some (.string (bs b')) := hB'.cell 1
    have f0 := hB'.frozen 0
    have f1 := hB'.frozen 1
    clear hB' hg' heq hB
    by_cases h1 : rankS a' = rankS b'
    · by_cases h2 : rankS b' = 0
      · have hz : (rankS a' == 0) = true := by rw [h1, h2]; rfl
        have hn : (rankS a' != rankS b') = false := by simp [h1]
        have H1 := Lib.hid h1
        have H2 := Lib.hid h2
        clear h1 h2
        go_wp2_with fail
        go_quiet ((go_at_call 106; exact Calls.quiet_of_same (rank_quiet _ _)))
        go_wp2
        go_ret
        exact ⟨by rw [← HE.out, signs_stop H1.out H2.out]; rfl, by rw [← HE.out, signs_stop H1.out H2.out]; exact HB.out, only_drewN HG.out _⟩
      · rcases a' with _ | ⟨x, a'⟩
        · exact absurd h1.symm h2
        rcases b' with _ | ⟨y, b'⟩
        · exact absurd rfl h2
        have hz : (rankS (x :: a') == 0) = false := by rw [h1]; simpa using h2
        have hn : (rankS (x :: a') != rankS (y :: b')) = false := by simp [h1]
        have H1 := Lib.hid h1
        have H2 := Lib.hid h2
        clear h1 h2
        go_wp2_with fail
        go_quiet ((go_at_call 106; exact Calls.quiet_of_same (rank_quiet _ _)))
        go_wp2
        go_region
        go_wp2
        go_roundw
        case rel => exact ⟨a', b', (HB.out.set_ 0 _).set_ 1 _, only_setCell (only_setCell (only_drewN HG.out _) (.inl rfl) _) (.inl rfl) _, by rw [← signs_go H1.out H2.out]; exact HE.out⟩
        case measure =>
          refine Nat.lt_of_le_of_lt (Nat.le_of_eq (strAt_of (s := bs a') ?_)) ?_
          · exact (((HB.out.drewN (nq + 1)).set_ 0 _).set_ 1 (.string (bs b'))).cell 0
          · rw [strAt_of c0]
            simp [bs_size]

    · go_wp2_with fail
      go_quiet ((go_at_call 106; exact Calls.quiet_of_same (rank_quiet _ _)))
      go_wp2_with (go_at_call 107; refine (compareInt_any _ _ _).mono ?_; rintro e w' ⟨rfl, rfl⟩)
      go_ret
      exact ⟨by rw [← HE.out, signs_part h1]; rfl, by rw [← HE.out, signs_part h1]; exact HB.out, only_drewN HG.out _⟩

set_option maxRecDepth 100000 in
set_option maxHeartbeats 800000 in
theorem numbers_any (g : Nat) (a b : List UInt8) (w : World) (hl : a.length ≤ 1048576) (hl2 : b.length ≤ 1048576) (hB : Blk w g 136 #[.string (bs a), .string (bs b)]) :
    Calls Tryd.prog 95 #[.pointer (some ⟨g, 0, none⟩)] w fun e w' => e = .returned (.int .i64 (numsS a b)) ∧ Blk w' g 136 #[.string (bs (digitsS a).2), .string (bs (digitsS b).2)] ∧ w.grownBy w' (some g) := by
  have HB := Lib.hid hB
  have c0 : w.cell? ⟨g, 0, none⟩ = some (.string (bs a)) := hB.cell 0
  have c1 : w.cell? ⟨g, 1, none⟩ = some (.string (bs b)) := hB.cell 1
  clear hB
  have hd1 := digits_len a
  have hd2 := digits_len b
  go_enter Tryd.func95, Tryd.ntmps95
  go_wp2_with fail
  refine (digits_any a hl _).mono ?_
  rintro e w1 ⟨rfl, hb1⟩
  have HB1 := Lib.hid (HB.out.next hb1)
  have d1 : w1.cell? ⟨g, 1, none⟩ = some (.string (bs b)) := HB1.out.cell 1
  go_wp2_with fail
  refine (digits_any b hl2 _).mono ?_
  rintro e w2 ⟨rfl, hb2⟩
  have HB2 := Lib.hid (HB1.out.next hb2)
  have e0 : w2.cell? ⟨g, 0, none⟩ = some (.string (bs a)) := HB2.out.cell 0
  have e1 : w2.cell? ⟨g, 1, none⟩ = some (.string (bs b)) := HB2.out.cell 1
  have g0 := HB2.out.frozen 0
  have g1 := HB2.out.frozen 1
  go_wp2_with (first | (go_at_call 107; refine (compareInt_any _ _ _).mono ?_; rintro e w' ⟨rfl, rfl⟩) | (go_at_call 109; refine (compareStr_any _ _ _).mono ?_; rintro e w' ⟨rfl, rfl⟩))
  all_goals go_ret
  all_goals refine ⟨?_, (HB2.out.set_ 0 _).set_ 1 _, only_set (only_set (only_next (only_of_below hb1 _) hb2) _ _) _ _⟩
  all_goals (go_tidy; simp [numsS]; grind)

theorem partS_step {a b : List UInt8} (hne : ¬ (a = [] ∧ b = [])) (h1 : (signsS a b).1 = 0) (h2 : numsS (signsS a b).2.1 (signsS a b).2.2 = 0) :
    partS a b = partS (digitsS (signsS a b).2.1).2 (digitsS (signsS a b).2.2).2 := by
  rw [partS_round hne, if_neg (by simp [h1]), if_neg (by simp [h2])]
theorem partS_signs {a b : List UInt8} (hne : ¬ (a = [] ∧ b = [])) (h1 : ¬ (signsS a b).1 = 0) : partS a b = (signsS a b).1 := by
  rw [partS_round hne, if_pos h1]
theorem partS_nums {a b : List UInt8} (hne : ¬ (a = [] ∧ b = [])) (h1 : (signsS a b).1 = 0) (h2 : ¬ numsS (signsS a b).2.1 (signsS a b).2.2 = 0) :
    partS a b = numsS (signsS a b).2.1 (signsS a b).2.2 := by
  rw [partS_round hne, if_neg (by simp [h1]), if_pos h2]
set_option maxRecDepth 100000 in
theorem part_any (a b : List UInt8) (w : World) (hl : a.length ≤ 1048576) (hl2 : b.length ≤ 1048576) :
    Calls Tryd.prog 78 #[.string (bs a), .string (bs b)] w fun e w' => e = .returned (.int .i64 (partS a b)) ∧ Below w.heap.size w w' := by
  go_enter Tryd.func78, Tryd.ntmps78
  go_wp2
  go_loopw [6] (fun _ wr => ∃ a' b', Blk wr w.heap.size 136 #[.string (bs a'), .string (bs b')] ∧ Below w.heap.size w wr ∧ partS a' b' = partS a b ∧ a'.length ≤ 1048576 ∧ b'.length ≤ 1048576) (fun _ wr => strAt wr ⟨w.heap.size, 0, none⟩ + strAt wr ⟨w.heap.size, 1, none⟩)
  case atStart => exact ⟨a, b, Blk.new _ _ _, (Below.refl _ _).alloc (Nat.le_refl _) _, rfl, hl, hl2⟩
  case round =>
    obtain ⟨a', b', hB', hg', heq, hl1, hl3⟩ := hrel
    have HB := Lib.hid hB'
    have HG := Lib.hid hg'
    have HE := Lib.hid heq
    have c0 : wr.cell? ⟨w.heap.size, 0, none⟩ = some (.string (bs a')) := hB'.cell 0
    have c1 : wr.cell? ⟨w.heap.size, 1, none⟩ = some (.string (bs b')) := hB'.cell 1
    clear hB' hg' heq
    rcases a' with _ | ⟨x, a'⟩
    · rcases b' with _ | ⟨y, b'⟩
      · go_wp2
        go_ret
        exact ⟨by rw [← HE.out]; rfl, HG.out⟩
      · have hs := signs_len [] (y :: b')
        have hd1 := digits_len (signsS [] (y :: b')).2.1
        have hd2 := digits_len (signsS [] (y :: b')).2.2
        go_wp2_with (first | (go_at_call 94; refine (signs_any _ [] (y :: b') _ (by omega) HB.out).mono ?_; rintro e w1 ⟨rfl, hB1, hg1⟩; have HB1 := Lib.hid hB1; clear hB1) | (go_at_call 95; refine (numbers_any _ _ _ _ (by omega) (by omega) HB1.out).mono ?_; rintro e w2 ⟨rfl, hB2, hg2⟩; have HB2 := Lib.hid hB2; clear hB2))
        all_goals first
          | (go_ret
             exact ⟨by rw [← HE.out, partS_signs (by simp) (by go_tidy; grind)]; rfl, below_only HG.out hg1 (Nat.le_refl _)⟩)
          | (go_ret
             exact ⟨by rw [← HE.out, partS_nums (by simp) (by go_tidy; grind) (by go_tidy; grind)]; rfl, below_only (below_only HG.out hg1 (Nat.le_refl _)) hg2 (Nat.le_refl _)⟩)
          | (go_roundw
             case rel => exact ⟨_, _, HB2.out, below_only (below_only HG.out hg1 (Nat.le_refl _)) hg2 (Nat.le_refl _), (partS_step (a := []) (b := (y :: b')) (by simp) (by go_tidy; grind) (by go_tidy; grind)).symm.trans HE.out, by omega, by omega⟩
             case measure =>
               have m0 := strAt_of (show w2.cell? ⟨w.heap.size, 0, none⟩ = some (.string (bs _)) from HB2.out.cell 0)
               have m1 := strAt_of (show w2.cell? ⟨w.heap.size, 1, none⟩ = some (.string (bs _)) from HB2.out.cell 1)
               rw [m0, m1, strAt_of c0, strAt_of c1]
               simp only [bs_size]
               exact round_len (by simp) (by go_tidy; grind))
    · have hs := signs_len (x :: a') b'
      have hd1 := digits_len (signsS (x :: a') b').2.1
      have hd2 := digits_len (signsS (x :: a') b').2.2
      go_wp2_with (first | (go_at_call 94; refine (signs_any _ (x :: a') b' _ (by omega) HB.out).mono ?_; rintro e w1 ⟨rfl, hB1, hg1⟩; have HB1 := Lib.hid hB1; clear hB1) | (go_at_call 95; refine (numbers_any _ _ _ _ (by omega) (by omega) HB1.out).mono ?_; rintro e w2 ⟨rfl, hB2, hg2⟩; have HB2 := Lib.hid hB2; clear hB2))
      all_goals first
        | (go_ret
           exact ⟨by rw [← HE.out, partS_signs (by simp) (by go_tidy; grind)]; rfl, below_only HG.out hg1 (Nat.le_refl _)⟩)
        | (go_ret
           exact ⟨by rw [← HE.out, partS_nums (by simp) (by go_tidy; grind) (by go_tidy; grind)]; rfl, below_only (below_only HG.out hg1 (Nat.le_refl _)) hg2 (Nat.le_refl _)⟩)
        | (go_roundw
           case rel => exact ⟨_, _, HB2.out, below_only (below_only HG.out hg1 (Nat.le_refl _)) hg2 (Nat.le_refl _), (partS_step (a := (x :: a')) (b := b') (by simp) (by go_tidy; grind) (by go_tidy; grind)).symm.trans HE.out, by omega, by omega⟩
           case measure =>
             have m0 := strAt_of (show w2.cell? ⟨w.heap.size, 0, none⟩ = some (.string (bs _)) from HB2.out.cell 0)
             have m1 := strAt_of (show w2.cell? ⟨w.heap.size, 1, none⟩ = some (.string (bs _)) from HB2.out.cell 1)
             rw [m0, m1, strAt_of c0, strAt_of c1]
             simp only [bs_size]
             exact round_len (by simp) (by go_tidy; grind))
end Go.Proofs.YtcbomomlojhghaaDoor
namespace Go.Proofs.YtcbomomlojhghaaDoor
set_option linter.unusedSimpArgs false
set_option linter.unusedVariables false
open Go.RowKit

def NotBoth (a b : List UInt8) : Prop := ¬ (a = [] ∧ b = [])
theorem skip_len (l : List UInt8) : (skipS l).length ≤ l.length := by
  unfold skipS
  have h1 := (List.dropWhile_suffix (l := l.dropWhile (fun c => !digB c)) (· == 48)).length_le
  have h2 := (List.dropWhile_suffix (l := l) (fun c => !digB c)).length_le
  omega
theorem sgn_stop {a b : List UInt8} {k : Nat} (hs : signsS (a.drop k) (b.drop k) = signsS a b) (h1 : rrankS (a.drop k) = 0) (h2 : rrankS (b.drop k) = 0) : (signsS a b).1 = 0 := by
  rw [← hs, signs_stop (by rw [(rrank_zero _).1 h1, (rrank_zero _).1 h2]) ((rrank_zero _).1 h2)]
theorem sgn_part {a b : List UInt8} {k : Nat} (hs : signsS (a.drop k) (b.drop k) = signsS a b) (h1 : ¬ Lib.compareInt (rrankS (a.drop k)) (rrankS (b.drop k)) = 0) :
    (signsS a b).1 = Lib.compareInt (rrankS (a.drop k)) (rrankS (b.drop k)) := by
  rw [rrank_cmp] at h1 ⊢
  rw [← hs, signs_part (fun h => h1 ((compareInt_zero _ _).2 h))]
end Go.Proofs.YtcbomomlojhghaaDoor
namespace Go.Proofs.YtcbomomlojhghaaDoor
set_option linter.unusedSimpArgs false
set_option linter.unusedVariables false
open Go.RowKit
set_option maxRecDepth 100000 in
theorem rversion_any (l : List UInt8) (w : World) :
    Calls Tryd.prog 53 #[.string (bs l)] w fun e w' => e = .returned (verW l) ∧ Below w.heap.size w w' := by
  by_cases h1 : l.length = 0 ∨ 48 < l.length
  · have HV := Lib.hid (verW_short h1)
    by_cases h0 : l = []
    · subst h0
      go_enter Tryd.func53, Tryd.ntmps53
      go_wp2
      (refine bodyPost_ret (results_tmp4 rfl _ _ _) rfl ?_)
      exact ⟨by rw [HV.out]; rfl, Below.refl _ _⟩
    · have hne : l.length ≠ 0 := fun h => h0 (List.eq_nil_of_length_eq_zero h)
      have h48 : 48 < l.length := by omega
      clear h1
      have hz : ((l.length : Int) == 0) = false := by rw [beq_eq_false_iff_ne]; omega
      clear h0 hne
      go_enter Tryd.func53, Tryd.ntmps53
      go_wp2_with fail
      all_goals go_ways
      (refine bodyPost_ret (results_tmp4 rfl _ _ _) rfl ?_)
      exact ⟨by rw [HV.out]; rfl, Below.refl _ _⟩
  · exact rversion_long l h1 w
end Go.Proofs.YtcbomomlojhghaaDoor
namespace Go.Proofs.YtcbomomlojhghaaDoor
set_option linter.unusedSimpArgs false
set_option linter.unusedVariables false
open Go.RowKit

theorem cut_lens (l : List UInt8) : (cutE l).1.length ≤ l.length + 1 ∧ (cutE l).2.length ≤ l.length ∧ (cutR l).1.length ≤ l.length ∧ (cutR l).2.length ≤ l.length := by
  unfold cutE cutR
  refine ⟨?_, ?_, ?_, ?_⟩ <;> split <;> simp <;> omega
theorem verS_len {l e u v : List UInt8} (h : verS l = some (e, u, v)) : e.length ≤ 49 ∧ u.length ≤ 48 ∧ v.length ≤ 48 := by
  unfold verS at h
  split at h
  · cases h
  · split at h
    · cases h
    · split at h
      · simp only [Option.some.injEq, Prod.mk.injEq] at h
        obtain ⟨rfl, rfl, rfl⟩ := h
        have h1 := cut_lens l
        have h2 := cut_lens (cutE l).2
        omega
      · cases h
theorem verW_none {l : List UInt8} (h : verS l = none) : verW l = .tuple #[.string (bs []), .string (bs []), .string (bs []), .bool false] := by simp [verW, h]
theorem verW_some {l a b c : List UInt8} (h : verS l = some (a, b, c)) : verW l = .tuple #[.string (bs a), .string (bs b), .string (bs c), .bool true] := by simp [verW, h]

set_option maxRecDepth 100000 in
theorem or3_any (g : Nat) (x y z : Int) (w : World) (h0 : w.cell? ⟨g, 0, none⟩ = some (.int .i64 x)) (h1 : w.cell? ⟨g, 1, none⟩ = some (.int .i64 y)) (h2 : w.cell? ⟨g, 2, none⟩ = some (.int .i64 z)) :
    Calls Tryd.prog 77 #[.slice (some ⟨g, 0, none⟩) 3 3] w fun e w' => e = .returned (.int .i64 (orS x y z)) ∧ w = w' := by
  go_enter Tryd.func77, Tryd.ntmps77
  go_wp2
  go_loop [8] (fun i => i = .int .i64 0 ∨ (i = .int .i64 1 ∧ x = 0) ∨ (i = .int .i64 2 ∧ x = 0 ∧ y = 0) ∨ (i = .int .i64 3 ∧ x = 0 ∧ y = 0 ∧ z = 0)) (fun i => 3 - (intOf i).toNat)
  case atStart => exact .inl rfl
  case round =>
    rcases hrel with rfl | ⟨rfl, hx⟩ | ⟨rfl, hx, hy⟩ | ⟨rfl, hx, hy, hz⟩
    all_goals go_wp2
    all_goals first
      | (go_round
         case rel => (go_tidy; simp; grind)
         case measure => simp [intOf])
      | (go_ret
         refine ⟨?_, rfl⟩
         go_tidy
         simp [orS]
         try grind)
theorem compare_any (a b : List UInt8) (w : World) :
    Calls Tryd.prog 55 #[.string (bs a), .string (bs b)] w fun e w' => e = .returned (.tuple #[.int .i64 (cmpV a b).1, .bool (cmpV a b).2]) ∧ Below w.heap.size w w' := by
  rcases ha : verS a with _ | ⟨e, u, r⟩
  · have HA := Lib.hid (verV_none ha)
    have HC := Lib.hid (show cmpV a b = (0, false) by simp [cmpV, ha])
    clear ha
    rcases hb : verS b with _ | ⟨f, v, s⟩
    · have HB := Lib.hid (verV_none hb)
      clear hb
      go_enter Tryd.func55, Tryd.ntmps55
      go_wp2_with fail
      refine (parse_any a _).mono ?_
      rintro e1 w1 ⟨rfl, hd1⟩
      rw [HA.out]
      go_wp2_with fail
      refine (parse_any b _).mono ?_
      rintro e2 w2 ⟨rfl, hd2⟩
      rw [HB.out]
      go_wp2_with fail
      go_ret2
      exact ⟨by rw [HC.out]; rfl, below_next hd1 hd2⟩
    · have HB := Lib.hid (verV_some hb)
      clear hb
      go_enter Tryd.func55, Tryd.ntmps55
      go_wp2_with fail
      refine (parse_any a _).mono ?_
      rintro e1 w1 ⟨rfl, hd1⟩
      rw [HA.out]
      go_wp2_with fail
      refine (parse_any b _).mono ?_
      rintro e2 w2 ⟨rfl, hd2⟩
      rw [HB.out]
      go_wp2_with fail
      go_ret2
      exact ⟨by rw [HC.out]; rfl, below_next hd1 hd2⟩
  · have HA := Lib.hid (verV_some ha)
    have hla := verS_len ha
    rcases hb : verS b with _ | ⟨f, v, s⟩
    · have HB := Lib.hid (verV_none hb)
      have HC := Lib.hid (show cmpV a b = (0, false) by simp [cmpV, ha, hb])
      clear ha
      clear hb
      go_enter Tryd.func55, Tryd.ntmps55
      go_wp2_with fail
      refine (parse_any a _).mono ?_
      rintro e1 w1 ⟨rfl, hd1⟩
      rw [HA.out]
      go_wp2_with fail
      refine (parse_any b _).mono ?_
      rintro e2 w2 ⟨rfl, hd2⟩
      rw [HB.out]
      go_wp2_with fail
      go_ret2
      exact ⟨by rw [HC.out]; rfl, below_next hd1 hd2⟩
    · have HB := Lib.hid (verV_some hb)
      have hlb := verS_len hb
      have HC := Lib.hid (show cmpV a b = (orS (partS e f) (partS u v) (partS r s), true) by simp [cmpV, ha, hb])
      clear ha hb
      obtain ⟨ha1, ha2, ha3⟩ := hla
      obtain ⟨hb1, hb2, hb3⟩ := hlb
      go_enter Tryd.func55, Tryd.ntmps55
      go_wp2_with fail
      refine (parse_any a _).mono ?_
      rintro e1 w1 ⟨rfl, hd1⟩
      rw [HA.out]
      go_wp2_with fail
      refine (parse_any b _).mono ?_
      rintro e2 w2 ⟨rfl, hd2⟩
      rw [HB.out]
      go_wp2_with fail
      refine (part_any e f _ (by omega) (by omega)).mono ?_
      rintro e3 w3 ⟨rfl, hc1⟩
      go_wp2_with fail
      refine (part_any u v _ (by omega) (by omega)).mono ?_
      rintro e4 w4 ⟨rfl, hc2⟩
      go_wp2_with fail
      refine (part_any r s _ (by omega) (by omega)).mono ?_
      rintro e5 w5 ⟨rfl, hc3⟩
      go_wp2_with fail
      refine (or3_any _ (partS e f) (partS u v) (partS r s) _ ((Blk.new _ _ _).cell 0) ((Blk.new _ _ _).cell 1) ((Blk.new _ _ _).cell 2)).mono ?_
      rintro e6 w6 ⟨rfl, rfl⟩
      go_wp2
      go_ret2
      exact ⟨by rw [HC.out]; rfl, (below_next (below_next (below_next (below_next hd1 hd2) hc1) hc2) hc3).alloc (by exact (below_next (below_next (below_next (below_next hd1 hd2) hc1) hc2) hc3).size) _⟩
end Go.Proofs.YtcbomomlojhghaaDoor
namespace Go.Proofs.YtcbomomlojhghaaDoor
set_option linter.unusedSimpArgs false
set_option linter.unusedVariables false
open Go.RowKit

theorem Compare_any (a b : List UInt8) (w : World) :
    Calls Tryd.prog 37 #[.string (bs a), .string (bs b)] w fun e w' => e = .returned (.int .i64 (cmpV a b).1) ∧ Below w.heap.size w w' := by
  go_enter Tryd.func37, Tryd.ntmps37
  go_wp2_with (go_at_call 55; refine (compare_any _ _ _).mono ?_; rintro e w1 ⟨rfl, hb⟩)
  go_ret
  exact ⟨rfl, hb⟩
def sameV (a b : List UInt8) : Bool := (cmpV a b).2 && decide ((cmpV a b).1 = 0)
theorem Same_any (a b : List UInt8) (w : World) :
    Calls Tryd.prog 35 #[.string (bs a), .string (bs b)] w fun e w' => e = .returned (.bool (sameV a b)) ∧ Below w.heap.size w w' := by
  go_enter Tryd.func35, Tryd.ntmps35
  go_wp2_with (go_at_call 55; refine (compare_any _ _ _).mono ?_; rintro e w1 ⟨rfl, hb⟩)
  all_goals go_ret
  all_goals refine ⟨?_, hb⟩
  all_goals (go_tidy; simp [sameV]; try grind)
set_option maxRecDepth 100000 in
set_option maxHeartbeats 400000 in
theorem Holds_any (rel : Int) (a b : List UInt8) (w : World) :
    Calls Tryd.prog 82 #[.int .i64 rel, .string (bs a), .string (bs b)] w fun e w' => e = .returned (.bool (holdsS rel a b)) ∧ Below w.heap.size w w' := by
  by_cases h0 : rel = 0
  · subst h0
    rcases ha : verS a with _ | ⟨e, u, r⟩
    · have HA := Lib.hid (verV_none ha)
      have HH := Lib.hid (show holdsS 0 a b = false by simp [holdsS, isV, ha])
      clear ha
      go_enter Tryd.func82, Tryd.ntmps82
      go_wp2_with (go_at_call 76; refine (parse_any _ _).mono ?_; rintro e w1 ⟨rfl, hb⟩; rw [HA.out])
      go_ret
      exact ⟨by rw [HH.out]; rfl, hb⟩
    · have HA := Lib.hid (verV_some ha)
      have HH := Lib.hid (show holdsS 0 a b = true by simp [holdsS, isV, ha])
      clear ha
      go_enter Tryd.func82, Tryd.ntmps82
      go_wp2_with (go_at_call 76; refine (parse_any _ _).mono ?_; rintro e w1 ⟨rfl, hb⟩; rw [HA.out])
      go_ret
      exact ⟨by rw [HH.out]; rfl, hb⟩
  · have hz : (rel == 0) = false := by simpa using h0
    go_enter Tryd.func82, Tryd.ntmps82
    go_wp2_with (go_at_call 55; refine (compare_any _ _ _).mono ?_; rintro e w1 ⟨rfl, hb⟩)
    all_goals go_ret
    all_goals refine ⟨?_, hb⟩
    all_goals (go_tidy; simp [holdsS]; try grind)
/- the reference's -/
theorem rIs_any (a : List UInt8) (w : World) :
    Calls Tryd.prog 27 #[.string (bs a)] w fun e w' => e = .returned (.bool (isV a)) ∧ Below w.heap.size w w' := by
  rcases ha : verS a with _ | ⟨e, u, r⟩
  · have HI := Lib.hid (show isV a = false by simp [isV, ha])
    have HA := Lib.hid (verW_none ha)
    clear ha
    go_enter Tryd.func27, Tryd.ntmps27
    go_wp2_with (go_at_call 53; refine (rversion_any _ _).mono ?_; rintro e w1 ⟨rfl, hb⟩; rw [HA.out])
    go_ret
    exact ⟨by rw [HI.out]; rfl, hb⟩
  · have HI := Lib.hid (show isV a = true by simp [isV, ha])
    have HA := Lib.hid (verW_some ha)
    clear ha
    go_enter Tryd.func27, Tryd.ntmps27
    go_wp2_with (go_at_call 53; refine (rversion_any _ _).mono ?_; rintro e w1 ⟨rfl, hb⟩; rw [HA.out])
    go_ret
    exact ⟨by rw [HI.out]; rfl, hb⟩
end Go.Proofs.YtcbomomlojhghaaDoor
