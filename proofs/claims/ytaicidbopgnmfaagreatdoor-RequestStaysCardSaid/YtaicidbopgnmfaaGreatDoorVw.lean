/- The contracts of the reference's Part and of what it calls. The contracts of version.Part and of what it calls. The contract of the reference's Part. The contract of the reference's Version, joined. The contracts of Compare, Same, Holds: the program's and the reference's. The contracts of Compare, Same, Holds, Sign, Rel: the program's and the reference's. -/
import Derived.Test.YtaicidbopgnmfaaGreatDoorVerC
import Derived.Test.YtaicidbopgnmfaaGreatDoorMk
import Derived.Test.YtaicidbopgnmfaaGreatDoorWa
import Derived.Test.YtaicidbopgnmfaaGreatDoorVb
import Derived.RegionTactic
import Derived.ChangeAlike
import Derived.BigRegion
import Derived.Lib.SmallJoins
namespace Go.Proofs.YtaicidbopgnmfaaGreatDoor
set_option linter.unusedSimpArgs false
set_option linter.unusedVariables false
open Go.RowKit

set_option maxRecDepth 100000 in
theorem rrank_any (l : List UInt8) (k : Nat) (hl : l.length ≤ 1048576) (hk : k ≤ 1048577) (w : World) :
    Calls Tryz.prog 168 #[.string (bs l), .int .i64 k] w fun e w' => e = .returned (.int .i64 (rrankS (l.drop k))) ∧ w = w' := by
  by_cases hp : k < l.length
  · have hd : l.drop k = l[k] :: l.drop (k + 1) := List.drop_eq_getElem_cons hp
    have HD := Lib.hid hd
    clear hd
    have hc := l[k].toNat_lt
    go_enter Tryz.func168, Tryz.ntmps168
    go_wp2_with (first | (go_at_call 128; refine (rdigit_any _ _).mono ?_; rintro e w' ⟨rfl, rfl⟩) | (go_at_call 167; refine (rletter_any _ _).mono ?_; rintro e w' ⟨rfl, rfl⟩))
    all_goals go_ret
    all_goals (refine ⟨?_, rfl⟩; rw [HD.out]; go_tidy; simp [rrankS]; grind [wrap64_of, UInt8.toNat_lt])
  · have HD := Lib.hid (show rrankS (l.drop k) = 0 by rw [List.drop_eq_nil_of_le (by omega)]; rfl)
    go_enter Tryz.func168, Tryz.ntmps168
    go_wp2
    go_ret
    exact ⟨by rw [HD.out]; rfl, rfl⟩
theorem rsign_any (x y : Int) (w : World) :
    Calls Tryz.prog 169 #[.int .i64 x, .int .i64 y] w fun e w' => e = .returned (.int .i64 (Lib.compareInt x y)) ∧ w = w' := by
  go_enter Tryz.func169, Tryz.ntmps169
  go_wp2
  all_goals go_ret
  all_goals (refine ⟨?_, rfl⟩; go_tidy; simp [Lib.compareInt]; grind)
set_option maxRecDepth 100000 in
theorem rrun_any (l : List UInt8) (hl : l.length ≤ 1048576) (w : World) :
    Calls Tryz.prog 171 #[.string (bs l)] w fun e w' => e = .returned (.int .i64 (l.takeWhile digB).length) ∧ w = w' := by
  go_enter Tryz.func171, Tryz.ntmps171
  go_wp2
  go_loop [3] (fun n => ∃ k : Nat, k ≤ l.length ∧ n = .int .i64 k ∧ (l.take k).all digB = true) (fun n => l.length - (intOf n).toNat)
  case atStart => exact ⟨0, Nat.zero_le _, rfl, rfl⟩
  case round =>
    obtain ⟨k, hk, rfl, hok⟩ := hrel
    have HK := Lib.hid hok
    clear hok
    by_cases hp : k < l.length
    · go_wp2_with (go_at_call 128; refine (rdigit_any _ _).mono ?_; rintro e w' ⟨rfl, rfl⟩)
      · go_round
        case rel => exact ⟨k + 1, by omega, by go_num, all_step (List.getElem?_eq_getElem hp) HK.out (by assumption)⟩
        case measure => simp [intOf]; omega
      · have hd : digB l[k] = false := by assumption
        have HD := Lib.hid (takeWhile_of HK.out (fun c hc => by rw [List.getElem?_eq_getElem hp] at hc; injection hc with hc; rw [← hc]; exact hd) hk)
        go_ret
        exact ⟨by rw [HD.out.1, List.length_take_of_le hk]; rfl, rfl⟩
    · have HD := Lib.hid (takeWhile_of HK.out (fun c hc => by rw [List.getElem?_eq_none (by omega)] at hc; cases hc) hk)
      go_wp2
      go_ret
      exact ⟨by rw [HD.out.1, List.length_take_of_le hk]; rfl, rfl⟩
set_option maxRecDepth 100000 in
theorem rskip_any (l : List UInt8) (hl : l.length ≤ 1048576) (w : World) :
    Calls Tryz.prog 170 #[.string (bs l)] w fun e w' => e = .returned (.string (bs (skipS l))) ∧ w = w' := by
  go_enter Tryz.func170, Tryz.ntmps170
  go_wp2
  go_loop [0] (fun s => ∃ m : List UInt8, s = .string (bs m) ∧ m.length ≤ 1048576 ∧ m.dropWhile (fun c => !digB c) = l.dropWhile (fun c => !digB c)) (fun s => strLen s)
  case atStart => exact ⟨l, rfl, hl, rfl⟩
  case round =>
    obtain ⟨m, rfl, hm, he⟩ := hrel
    have HE := Lib.hid he
    clear he
    rcases m with _ | ⟨c, m⟩
    · have H2 : Hid (([] : List UInt8).dropWhile (· == 48) = skipS l) := by show _ = skipS l; unfold skipS; rw [← HE.out]; rfl
      go_wp2
      go_loop [0] (fun s => ∃ q : List UInt8, s = .string (bs q) ∧ q.length ≤ 1048576 ∧ q.dropWhile (· == 48) = skipS l) (fun s => strLen s)
      case atStart => exact ⟨[], rfl, hm, H2.out⟩
      case round =>
        obtain ⟨q, rfl, hq, he2⟩ := hrel
        have HE2 := Lib.hid he2
        clear he2
        rcases q with _ | ⟨d, q⟩
        · go_wp2
          go_ret
          exact ⟨by rw [← HE2.out]; rfl, rfl⟩
        · go_wp2
          · go_round
            case rel =>
              have hd : (d == 48) = true := by rw [u8_beq]; go_tidy; grind
              exact ⟨q, rfl, by simp at hq; omega, by rw [← HE2.out, List.dropWhile_cons, if_pos hd]⟩
            case measure => simp [strLen_bs]
          · go_ret
            refine ⟨?_, rfl⟩
            have hd : (d == 48) = false := by rw [u8_beq]; go_tidy; grind
            rw [← HE2.out, List.dropWhile_cons, if_neg (by rw [hd]; exact Bool.false_ne_true)]
            rfl
    · go_wp2_with (go_at_call 128; refine (rdigit_any _ _).mono ?_; rintro e w' ⟨rfl, rfl⟩)
      · go_round
        case rel =>
          have hc : digB c = false := by go_tidy; grind
          exact ⟨m, rfl, by simp at hm; omega, by rw [← HE.out, List.dropWhile_cons, if_pos (by rw [hc]; rfl)]⟩
        case measure => simp [strLen_bs]
      · have H2 : Hid ((c :: m).dropWhile (· == 48) = skipS l) := by
          have hc : digB c = true := by go_tidy; grind
          show _ = skipS l; unfold skipS; rw [← HE.out, List.dropWhile_cons (p := fun c => !digB c), if_neg (by rw [hc]; exact Bool.false_ne_true)]
        go_loop [0] (fun s => ∃ q : List UInt8, s = .string (bs q) ∧ q.length ≤ 1048576 ∧ q.dropWhile (· == 48) = skipS l) (fun s => strLen s)
        case atStart => exact ⟨(c :: m), rfl, hm, H2.out⟩
        case round =>
          obtain ⟨q, rfl, hq, he2⟩ := hrel
          have HE2 := Lib.hid he2
          clear he2
          rcases q with _ | ⟨d, q⟩
          · go_wp2
            go_ret
            exact ⟨by rw [← HE2.out]; rfl, rfl⟩
          · go_wp2
            · go_round
              case rel =>
                have hd : (d == 48) = true := by rw [u8_beq]; go_tidy; grind
                exact ⟨q, rfl, by simp at hq; omega, by rw [← HE2.out, List.dropWhile_cons, if_pos hd]⟩
              case measure => simp [strLen_bs]
            · go_ret
              refine ⟨?_, rfl⟩
              have hd : (d == 48) = false := by rw [u8_beq]; go_tidy; grind
              rw [← HE2.out, List.dropWhile_cons, if_neg (by rw [hd]; exact Bool.false_ne_true)]
              rfl
end Go.Proofs.YtaicidbopgnmfaaGreatDoor
namespace Go.Proofs.YtaicidbopgnmfaaGreatDoor
set_option linter.unusedSimpArgs false
set_option linter.unusedVariables false
open Go.RowKit

theorem compareInt_any (x y : Int) (w : World) :
    Calls Tryz.prog 69 #[.int .i64 x, .int .i64 y] w fun e w' => e = .returned (.int .i64 (Lib.compareInt x y)) ∧ w = w' :=
  (Tryz.cmp_Compare_int x y w).mono fun _ _ h => ⟨h.1, h.2.symm⟩

theorem isNaN_str (l : List UInt8) (w : World) :
    Calls Tryz.prog 120 #[.string (bs l)] w fun e w' => e = .returned (.bool false) ∧ w = w' := by
  go_enter Tryz.func120, Tryz.ntmps120
  go_wp2
  go_ret
  simp
theorem compareStr_any (a b : List UInt8) (w : World) :
    Calls Tryz.prog 70 #[.string (bs a), .string (bs b)] w fun e w' => e = .returned (.int .i64 (cmpB a b)) ∧ w = w' := by
  go_enter Tryz.func70, Tryz.ntmps70
  go_wp2_with (go_at_call 120; refine (isNaN_str _ _).mono ?_; rintro e w' ⟨rfl, rfl⟩)
  all_goals go_ret
  all_goals (refine ⟨?_, rfl⟩; go_tidy; simp [cmpB]; grind)

theorem signs_stop {a b : List UInt8} (h1 : rankS a = rankS b) (h2 : rankS b = 0) : signsS a b = (0, a, b) := by
  rcases a with _ | ⟨x, a⟩
  · simp [signsS, h2, Lib.compareInt]
  · simp [signsS, h1, h2]
theorem signs_part {a b : List UInt8} (h1 : ¬ rankS a = rankS b) : signsS a b = (Lib.compareInt (rankS a) (rankS b), a, b) := by
  rcases a with _ | ⟨x, a⟩
  · simp [signsS, rankS]
  · simp [signsS, h1]
theorem signs_go {x y : UInt8} {a b : List UInt8} (h1 : rankS (x :: a) = rankS (y :: b)) (h2 : ¬ rankS (y :: b) = 0) : signsS (x :: a) (y :: b) = signsS a b := by
  simp [signsS, h1, h2]
theorem rank_quiet (l : List UInt8) (w : World) :
    Calls Tryz.prog 201 #[.string (bs l)] w fun e w' => e = .returned (.int .i64 (rankS l)) ∧ w' = w :=
  (rank_any l w).mono fun _ _ h => ⟨h.1, h.2.symm⟩
set_option maxRecDepth 100000 in
theorem signs_any (g : Nat) (a b : List UInt8) (w : World) (hl : a.length + b.length ≤ 4194304) (hB : Blk w g 198 #[.string (bs a), .string (bs b)]) :
    Calls Tryz.prog 188 #[.pointer (some ⟨g, 0, none⟩)] w fun e w' => e = .returned (.int .i64 (signsS a b).1) ∧ Blk w' g 198 #[.string (bs (signsS a b).2.1), .string (bs (signsS a b).2.2)] ∧ w.grownBy w' (some g) := by
  go_enter Tryz.func188, Tryz.ntmps188
  go_wp2
  go_loopw [3] (fun _ wr => ∃ a' b', Blk wr g 198 #[.string (bs a'), .string (bs b')] ∧ w.grownBy wr (some g) ∧ signsS a' b' = signsS a b) (fun _ wr => strAt wr ⟨g, 0, none⟩)
  case atStart => exact ⟨a, b, hB, World.grownBy.refl w _, rfl⟩
  case round =>
    obtain ⟨a', b', hB', hg', heq⟩ := hrel
    have HB := Lib.hid hB'
    have HG := Lib.hid hg'
    have HE := Lib.hid heq
    have c0 : wr.cell? ⟨g, 0, none⟩ = some (.string (bs a')) := hB'.cell 0
    have c1 : wr.cell? ⟨g, 1, none⟩ = some (.string (bs b')) := hB'.cell 1
    have f0 := hB'.frozen 0
    have f1 := hB'.frozen 1
    clear hB' hg' heq hB
    by_cases h1 : rankS a' = rankS b'
    · by_cases h2 : rankS b' = 0
      · have hz : (rankS a' == 0) = true := by rw [h1, h2]; rfl
        have hn : (rankS a' != rankS b') = false := by simp [h1]
        have H1 := Lib.hid h1
        have H2 := Lib.hid h2
        clear h1 h2
        go_wp2_with fail
        go_quiet ((go_at_call 201; exact Calls.quiet_of_same (rank_quiet _ _)))
        go_wp2
        go_ret
        exact ⟨by rw [← HE.out, signs_stop H1.out H2.out]; rfl, by rw [← HE.out, signs_stop H1.out H2.out]; exact HB.out, only_drewN HG.out _⟩
      · rcases a' with _ | ⟨x, a'⟩
        · exact absurd h1.symm h2
        rcases b' with _ | ⟨y, b'⟩
        · exact absurd rfl h2
        have hz : (rankS (x :: a') == 0) = false := by rw [h1]; simpa using h2
        have hn : (rankS (x :: a') != rankS (y :: b')) = false := by simp [h1]
        have H1 := Lib.hid h1
        have H2 := Lib.hid h2
        clear h1 h2
        go_wp2_with fail
        go_quiet ((go_at_call 201; exact Calls.quiet_of_same (rank_quiet _ _)))
        go_wp2
        go_region
        go_wp2
        go_roundw
        case rel => exact ⟨a', b', (HB.out.set_ 0 _).set_ 1 _, only_setCell (only_setCell (only_drewN HG.out _) (.inl rfl) _) (.inl rfl) _, by rw [← signs_go H1.out H2.out]; exact HE.out⟩
        case measure =>
          refine Nat.lt_of_le_of_lt (Nat.le_of_eq (strAt_of (s := bs a') ?_)) ?_
          · exact (((HB.out.drewN (nq + 1)).set_ 0 _).set_ 1 (.string (bs b'))).cell 0
          · rw [strAt_of c0]
            simp [bs_size]

    · go_wp2_with fail
      go_quiet ((go_at_call 201; exact Calls.quiet_of_same (rank_quiet _ _)))
      go_wp2_with (go_at_call 69; refine (compareInt_any _ _ _).mono ?_; rintro e w' ⟨rfl, rfl⟩)
      go_ret
      exact ⟨by rw [← HE.out, signs_part h1]; rfl, by rw [← HE.out, signs_part h1]; exact HB.out, only_drewN HG.out _⟩

set_option maxRecDepth 100000 in
set_option maxHeartbeats 800000 in
theorem numbers_any (g : Nat) (a b : List UInt8) (w : World) (hl : a.length ≤ 1048576) (hl2 : b.length ≤ 1048576) (hB : Blk w g 198 #[.string (bs a), .string (bs b)]) :
    Calls Tryz.prog 189 #[.pointer (some ⟨g, 0, none⟩)] w fun e w' => e = .returned (.int .i64 (numsS a b)) ∧ Blk w' g 198 #[.string (bs (digitsS a).2), .string (bs (digitsS b).2)] ∧ w.grownBy w' (some g) := by
  have HB := Lib.hid hB
  have c0 : w.cell? ⟨g, 0, none⟩ = some (.string (bs a)) := hB.cell 0
  have c1 : w.cell? ⟨g, 1, none⟩ = some (.string (bs b)) := hB.cell 1
  clear hB
  have hd1 := digits_len a
  have hd2 := digits_len b
  go_enter Tryz.func189, Tryz.ntmps189
  go_wp2_with fail
  refine (digits_any a hl _).mono ?_
  rintro e w1 ⟨rfl, hb1⟩
  have HB1 := Lib.hid (HB.out.next hb1)
  have d1 : w1.cell? ⟨g, 1, none⟩ = some (.string (bs b)) := HB1.out.cell 1
  go_wp2_with fail
  refine (digits_any b hl2 _).mono ?_
  rintro e w2 ⟨rfl, hb2⟩
  have HB2 := Lib.hid (HB1.out.next hb2)
  have e0 : w2.cell? ⟨g, 0, none⟩ = some (.string (bs a)) := HB2.out.cell 0
  have e1 : w2.cell? ⟨g, 1, none⟩ = some (.string (bs b)) := HB2.out.cell 1
  have g0 := HB2.out.frozen 0
  have g1 := HB2.out.frozen 1
  go_wp2_with (first | (go_at_call 69; refine (compareInt_any _ _ _).mono ?_; rintro e w' ⟨rfl, rfl⟩) | (go_at_call 70; refine (compareStr_any _ _ _).mono ?_; rintro e w' ⟨rfl, rfl⟩))
  all_goals go_ret
  all_goals refine ⟨?_, (HB2.out.set_ 0 _).set_ 1 _, only_set (only_set (only_next (only_of_below hb1 _) hb2) _ _) _ _⟩
  all_goals (go_tidy; simp [numsS]; grind)

theorem partS_step {a b : List UInt8} (hne : ¬ (a = [] ∧ b = [])) (h1 : (signsS a b).1 = 0) (h2 : numsS (signsS a b).2.1 (signsS a b).2.2 = 0) :
    partS a b = partS (digitsS (signsS a b).2.1).2 (digitsS (signsS a b).2.2).2 := by
  rw [partS_round hne, if_neg (by simp [h1]), if_neg (by simp [h2])]
theorem partS_signs {a b : List UInt8} (hne : ¬ (a = [] ∧ b = [])) (h1 : ¬ (signsS a b).1 = 0) : partS a b = (signsS a b).1 := by
  rw [partS_round hne, if_pos h1]
theorem partS_nums {a b : List UInt8} (hne : ¬ (a = [] ∧ b = [])) (h1 : (signsS a b).1 = 0) (h2 : ¬ numsS (signsS a b).2.1 (signsS a b).2.2 = 0) :
    partS a b = numsS (signsS a b).2.1 (signsS a b).2.2 := by
  rw [partS_round hne, if_neg (by simp [h1]), if_pos h2]
set_option maxRecDepth 100000 in
theorem part_any (a b : List UInt8) (w : World) (hl : a.length ≤ 1048576) (hl2 : b.length ≤ 1048576) :
    Calls Tryz.prog 159 #[.string (bs a), .string (bs b)] w fun e w' => e = .returned (.int .i64 (partS a b)) ∧ Below w.heap.size w w' := by
  go_enter Tryz.func159, Tryz.ntmps159
  go_wp2
  go_loopw [6] (fun _ wr => ∃ a' b', Blk wr w.heap.size 198 #[.string (bs a'), .string (bs b')] ∧ Below w.heap.size w wr ∧ partS a' b' = partS a b ∧ a'.length ≤ 1048576 ∧ b'.length ≤ 1048576) (fun _ wr => strAt wr ⟨w.heap.size, 0, none⟩ + strAt wr ⟨w.heap.size, 1, none⟩)
  case atStart => exact ⟨a, b, Blk.new _ _ _, (Below.refl _ _).alloc (Nat.le_refl _) _, rfl, hl, hl2⟩
  case round =>
    obtain ⟨a', b', hB', hg', heq, hl1, hl3⟩ := hrel
    have HB := Lib.hid hB'
    have HG := Lib.hid hg'
    have HE := Lib.hid heq
    have c0 : wr.cell? ⟨w.heap.size, 0, none⟩ = some (.string (bs a')) := hB'.cell 0
    have c1 : wr.cell? ⟨w.heap.size, 1, none⟩ = some (.string (bs b')) := hB'.cell 1
    clear hB' hg' heq
    rcases a' with _ | ⟨x, a'⟩
    · rcases b' with _ | ⟨y, b'⟩
      · go_wp2
        go_ret
        exact ⟨by rw [← HE.out]; rfl, HG.out⟩
      · have hs := signs_len [] (y :: b')
        have hd1 := digits_len (signsS [] (y :: b')).2.1
        have hd2 := digits_len (signsS [] (y :: b')).2.2
        go_wp2_with (first | (go_at_call 188; refine (signs_any _ [] (y :: b') _ (by omega) HB.out).mono ?_; rintro e w1 ⟨rfl, hB1, hg1⟩; have HB1 := Lib.hid hB1; clear hB1) | (go_at_call 189; refine (numbers_any _ _ _ _ (by omega) (by omega) HB1.out).mono ?_; rintro e w2 ⟨rfl, hB2, hg2⟩; have HB2 := Lib.hid hB2; clear hB2))
        all_goals first
          | (go_ret
             exact ⟨by rw [← HE.out, partS_signs (by simp) (by go_tidy; grind)]; rfl, below_only HG.out hg1 (Nat.le_refl _)⟩)
          | (go_ret
             exact ⟨by rw [← HE.out, partS_nums (by simp) (by go_tidy; grind) (by go_tidy; grind)]; rfl, below_only (below_only HG.out hg1 (Nat.le_refl _)) hg2 (Nat.le_refl _)⟩)
          | (go_roundw
             case rel => exact ⟨_, _, HB2.out, below_only (below_only HG.out hg1 (Nat.le_refl _)) hg2 (Nat.le_refl _), (partS_step (a := []) (b := (y :: b')) (by simp) (by go_tidy; grind) (by go_tidy; grind)).symm.trans HE.out, by omega, by omega⟩
             case measure =>
               have m0 := strAt_of (show w2.cell? ⟨w.heap.size, 0, none⟩ = some (.string (bs _)) from HB2.out.cell 0)
               have m1 := strAt_of (show w2.cell? ⟨w.heap.size, 1, none⟩ = some (.string (bs _)) from HB2.out.cell 1)
               rw [m0, m1, strAt_of c0, strAt_of c1]
               simp only [bs_size]
               exact round_len (by simp) (by go_tidy; grind))
    · have hs := signs_len (x :: a') b'
      have hd1 := digits_len (signsS (x :: a') b').2.1
      have hd2 := digits_len (signsS (x :: a') b').2.2
      go_wp2_with (first | (go_at_call 188; refine (signs_any _ (x :: a') b' _ (by omega) HB.out).mono ?_; rintro e w1 ⟨rfl, hB1, hg1⟩; have HB1 := Lib.hid hB1; clear hB1) | (go_at_call 189; refine (numbers_any _ _ _ _ (by omega) (by omega) HB1.out).mono ?_; rintro e w2 ⟨rfl, hB2, hg2⟩; have HB2 := Lib.hid hB2; clear hB2))
      all_goals first
        | (go_ret
           exact ⟨by rw [← HE.out, partS_signs (by simp) (by go_tidy; grind)]; rfl, below_only HG.out hg1 (Nat.le_refl _)⟩)
        | (go_ret
           exact ⟨by rw [← HE.out, partS_nums (by simp) (by go_tidy; grind) (by go_tidy; grind)]; rfl, below_only (below_only HG.out hg1 (Nat.le_refl _)) hg2 (Nat.le_refl _)⟩)
        | (go_roundw
           case rel => exact ⟨_, _, HB2.out, below_only (below_only HG.out hg1 (Nat.le_refl _)) hg2 (Nat.le_refl _), (partS_step (a := (x :: a')) (b := b') (by simp) (by go_tidy; grind) (by go_tidy; grind)).symm.trans HE.out, by omega, by omega⟩
           case measure =>
             have m0 := strAt_of (show w2.cell? ⟨w.heap.size, 0, none⟩ = some (.string (bs _)) from HB2.out.cell 0)
             have m1 := strAt_of (show w2.cell? ⟨w.heap.size, 1, none⟩ = some (.string (bs _)) from HB2.out.cell 1)
             rw [m0, m1, strAt_of c0, strAt_of c1]
             simp only [bs_size]
             exact round_len (by simp) (by go_tidy; grind))
end Go.Proofs.YtaicidbopgnmfaaGreatDoor
namespace Go.Proofs.YtaicidbopgnmfaaGreatDoor
set_option linter.unusedSimpArgs false
set_option linter.unusedVariables false
open Go.RowKit

theorem rsign_quiet (x y : Int) (w : World) :
    Calls Tryz.prog 169 #[.int .i64 x, .int .i64 y] w fun e w' => e = .returned (.int .i64 (Lib.compareInt x y)) ∧ w' = w :=
  (rsign_any x y w).mono fun _ _ h => ⟨h.1, h.2.symm⟩
def NotBoth (a b : List UInt8) : Prop := ¬ (a = [] ∧ b = [])
theorem skip_len (l : List UInt8) : (skipS l).length ≤ l.length := by
  unfold skipS
  have h1 := (List.dropWhile_suffix (l := l.dropWhile (fun c => !digB c)) (· == 48)).length_le
  have h2 := (List.dropWhile_suffix (l := l) (fun c => !digB c)).length_le
  omega
theorem sgn_stop {a b : List UInt8} {k : Nat} (hs : signsS (a.drop k) (b.drop k) = signsS a b) (h1 : rrankS (a.drop k) = 0) (h2 : rrankS (b.drop k) = 0) : (signsS a b).1 = 0 := by
  rw [← hs, signs_stop (by rw [(rrank_zero _).1 h1, (rrank_zero _).1 h2]) ((rrank_zero _).1 h2)]
theorem sgn_part {a b : List UInt8} {k : Nat} (hs : signsS (a.drop k) (b.drop k) = signsS a b) (h1 : ¬ Lib.compareInt (rrankS (a.drop k)) (rrankS (b.drop k)) = 0) :
    (signsS a b).1 = Lib.compareInt (rrankS (a.drop k)) (rrankS (b.drop k)) := by
  rw [rrank_cmp] at h1 ⊢
  rw [← hs, signs_part (fun h => h1 ((compareInt_zero _ _).2 h))]
theorem sgn_go {a b : List UInt8} {k : Nat} (hs : signsS (a.drop k) (b.drop k) = signsS a b) (h1 : Lib.compareInt (rrankS (a.drop k)) (rrankS (b.drop k)) = 0) (h2 : ¬ (rrankS (a.drop k) = 0 ∧ rrankS (b.drop k) = 0)) :
    k + 1 ≤ a.length ∧ k + 1 ≤ b.length ∧ signsS (a.drop (k + 1)) (b.drop (k + 1)) = signsS a b := by
  rw [rrank_cmp, compareInt_zero] at h1
  have hb : ¬ rankS (b.drop k) = 0 := fun h => h2 ⟨(rrank_zero _).2 (by rw [h1]; exact h), (rrank_zero _).2 h⟩
  have ha : ¬ rankS (a.drop k) = 0 := by rw [h1]; exact hb
  have hka : k < a.length := by
    rcases Nat.lt_or_ge k a.length with h | h
    · exact h
    · rw [List.drop_eq_nil_of_le h] at ha; exact absurd rfl ha
  have hkb : k < b.length := by
    rcases Nat.lt_or_ge k b.length with h | h
    · exact h
    · rw [List.drop_eq_nil_of_le h] at hb; exact absurd rfl hb
  refine ⟨hka, hkb, ?_⟩
  rw [← hs]
  have ea := List.drop_eq_getElem_cons hka
  have eb := List.drop_eq_getElem_cons hkb
  rw [ea, eb] at h1
  rw [eb] at hb
  rw [show signsS (a.drop k) (b.drop k) = signsS (a[k] :: a.drop (k + 1)) (b[k] :: b.drop (k + 1)) by rw [← ea, ← eb]]
  exact (signs_go h1 hb).symm

set_option maxRecDepth 100000 in
set_option maxHeartbeats 800000 in
theorem rpart_any (a b : List UInt8) (w : World) (hl : a.length ≤ 1048576) (hl2 : b.length ≤ 1048576) :
    Calls Tryz.prog 130 #[.string (bs a), .string (bs b)] w fun e w' => e = .returned (.int .i64 (partS a b)) ∧ Below w.heap.size w w' := by
  go_enter Tryz.func130, Tryz.ntmps130
  go_wp2
  go_loopw [0, 1] (fun u v wr => ∃ a' b', u = .string (bs a') ∧ v = .string (bs b') ∧ Below w.heap.size w wr ∧ partS a' b' = partS a b ∧ a'.length ≤ 1048576 ∧ b'.length ≤ 1048576) (fun u v _ => strLen u + strLen v)
  case atStart => exact ⟨a, b, rfl, rfl, Below.refl _ _, rfl, hl, hl2⟩
  case round =>
    obtain ⟨a', b', rfl, rfl, hg', heq, hl1, hl3⟩ := hrel
    have HG := Lib.hid hg'
    have HE := Lib.hid heq
    clear hg' heq
    rcases a' with _ | ⟨x, a'⟩
    · rcases b' with _ | ⟨y, b'⟩
      · go_wp2
        go_ret
        exact ⟨by rw [← HE.out]; rfl, HG.out⟩
      · have HNE : NotBoth ([] : List UInt8) (y :: b') := by simp [NotBoth]
        have hla : (([] : List UInt8)).length ≤ 1048576 := hl1
        have hlb : ((y :: b')).length ≤ 1048576 := hl3
        go_wp2
        go_loop [5] (fun i => ∃ k : Nat, i = .int .i64 k ∧ k ≤ (([] : List UInt8)).length ∧ k ≤ ((y :: b')).length ∧ signsS ((([] : List UInt8)).drop k) (((y :: b')).drop k) = signsS ([] : List UInt8) (y :: b')) (fun i => (([] : List UInt8)).length - (intOf i).toNat)
        case atStart => exact ⟨0, rfl, Nat.zero_le _, Nat.zero_le _, rfl⟩
        case round =>
          obtain ⟨k, rfl, hka, hkb, hsg⟩ := hrel
          have HS := Lib.hid hsg
          clear hsg
          go_wp2_with (first | (go_at_call 168; refine (rrank_any _ k (by omega) (by omega) _).mono ?_; rintro e w' ⟨rfl, rfl⟩) | (go_at_call 169; refine (rsign_any _ _ _).mono ?_; rintro e w' ⟨rfl, rfl⟩))
          · have hq : (signsS ([] : List UInt8) (y :: b')).1 = Lib.compareInt (rrankS (List.drop k ([] : List UInt8))) (rrankS (List.drop k (y :: b'))) := sgn_part HS.out (by go_tidy; grind)
            have hp : partS a b = (signsS ([] : List UInt8) (y :: b')).1 := by rw [← HE.out, partS_signs HNE (by rw [hq]; go_tidy; grind)]
            rw [hq] at hp
            have HP := Lib.hid hp
            clear hq hp
            go_ret
            refine ⟨?_, HG.out⟩
            rw [HP.out]
            try (go_tidy; simp; try grind)
          · have hgo := sgn_go HS.out (by go_tidy; grind) (by go_tidy; grind)
            have HGO := Lib.hid hgo
            clear hgo
            go_round
            case rel => exact ⟨k + 1, by go_num, HGO.out⟩
            case measure => have := HGO.out.1; simp only [intOf]; omega
          · have hstop : (signsS ([] : List UInt8) (y :: b')).1 = 0 := sgn_stop HS.out (by go_tidy; grind) (by go_tidy; grind)
            have hsk := skip_parts hstop
            have hsl := signs_len ([] : List UInt8) (y :: b')
            have hd1 := digits_len (signsS ([] : List UInt8) (y :: b')).2.1
            have hd2 := digits_len (signsS ([] : List UInt8) (y :: b')).2.2
            have hr1 := run_parts (signsS ([] : List UInt8) (y :: b')).2.1
            have hr2 := run_parts (signsS ([] : List UInt8) (y :: b')).2.2
            have hstep := partS_step HNE hstop
            have hnums := partS_nums HNE hstop
            have hrl := round_len HNE hstop
            unfold numsS at hstep hnums
            generalize (digitsS (signsS ([] : List UInt8) (y :: b')).2.1).1 = p at hsk hd1 hr1 hstep hnums
            generalize (digitsS (signsS ([] : List UInt8) (y :: b')).2.2).1 = q at hsk hd2 hr2 hstep hnums
            generalize (digitsS (signsS ([] : List UInt8) (y :: b')).2.1).2 = A2 at hsk hd1 hr1 hstep hrl
            generalize (digitsS (signsS ([] : List UInt8) (y :: b')).2.2).2 = B2 at hsk hd2 hr2 hstep hrl
            have hpl := skip_len ([] : List UInt8)
            have hql := skip_len (y :: b')
            rw [hsk.1, List.length_append] at hpl
            rw [hsk.2, List.length_append] at hql
            have HP := Lib.hid hsk.1
            have HQ := Lib.hid hsk.2
            have hPk : ∀ k, k < p.length → (p ++ A2)[k]? = p[k]? := fun k h => List.getElem?_append_left h
            have hQk : ∀ k, k < q.length → (q ++ B2)[k]? = q[k]? := fun k h => List.getElem?_append_left h
            have hPd : (p ++ A2).drop p.length = A2 := List.drop_left
            have hQd : (q ++ B2).drop q.length = B2 := List.drop_left
            have hPl : p.length ≤ (p ++ A2).length := by simp
            have hQl : q.length ≤ (q ++ B2).length := by simp
            have hPn : (p ++ A2).length ≤ 1048576 := by simp; omega
            have hQn : (q ++ B2).length ≤ 1048576 := by simp; omega
            generalize p ++ A2 = P at HP hr1 hPk hPd hPl hPn
            generalize q ++ B2 = Q at HQ hr2 hQk hQd hQl hQn
            have HPK := Lib.hid hPk
            have HQK := Lib.hid hQk
            have HPD := Lib.hid hPd
            have HQD := Lib.hid hQd
            clear hPk hQk hPd hQd
            have HR1 := Lib.hid hr1
            have HR2 := Lib.hid hr2
            have HST := Lib.hid hstep
            have HNU := Lib.hid hnums
            clear hsk hr1 hr2 hstep hnums hstop
            go_wp2_with fail
            refine (rskip_any _ hla _).mono ?_
            rintro e w' ⟨rfl, rfl⟩
            rw [HP.out]
            go_wp2_with fail
            refine (rskip_any _ hlb _).mono ?_
            rintro e w' ⟨rfl, rfl⟩
            rw [HQ.out]
            by_cases hpq : p.length = q.length
            · rw [if_pos hpq] at HST HNU
              have HL := Lib.hid hpq
              have hlq : p.length ≤ q.length := by omega
              clear hpq
              go_wp2_with fail
              refine (rrun_any _ (by omega) _).mono ?_
              rintro e w' ⟨rfl, rfl⟩
              rw [HR1.out]
              go_wp2_with fail
              refine (rrun_any _ (by omega) _).mono ?_
              rintro e w' ⟨rfl, rfl⟩
              rw [HR2.out, ← HL.out]
              go_wp2_with fail
              obtain ⟨wo, hwo⟩ : ∃ wo : World, wo = wr := ⟨_, rfl⟩
              go_loopw [54] (fun i w3 => ∃ k : Nat, i = .int .i64 k ∧ k ≤ p.length ∧ p.take k = q.take k ∧ Below w.heap.size w w3) (fun i _ => p.length - (intOf i).toNat)
              case atStart => exact ⟨0, rfl, Nat.zero_le _, rfl, HG.out⟩
              case round =>
                obtain ⟨k3, rfl, hk3, htk, hb3⟩ := hrel
                have HT := Lib.hid htk
                have HB3 := Lib.hid hb3
                clear htk hb3
                by_cases hp3 : k3 < p.length
                · have hq3 : k3 < q.length := by rw [← HL.out]; exact hp3
                  have hP3 : (k3 : Int) < P.length := by omega
                  have hQ3 : (k3 : Int) < Q.length := by omega
                  go_wp2_with fail
                  go_quiet ((go_at_call 169; exact Calls.quiet_of_same (rsign_quiet _ _ _)))
                  go_wp2
                  · have hx : p[k3]? = some P[k3] := by rw [← HPK.out k3 hp3]; exact List.getElem?_eq_getElem _
                    have hy : q[k3]? = some Q[k3] := by rw [← HQK.out k3 hq3]; exact List.getElem?_eq_getElem _
                    have hc : ¬ Lib.compareInt P[k3].toNat Q[k3].toNat = 0 := by go_tidy; grind
                    have hb := cmpB_diff HT.out hx hy (fun h => hc ((compareInt_zero _ _).2 (by omega)))
                    have HF := Lib.hid (HNU.out (by rw [hb]; exact hc))
                    have HBB := Lib.hid hb
                    clear hb hx hy hc
                    go_ret
                    exact ⟨by rw [← HE.out, HF.out, HBB.out]; rfl, below_drewN HB3.out _⟩
                  · have hx : p[k3]? = some P[k3] := by rw [← HPK.out k3 hp3]; exact List.getElem?_eq_getElem _
                    have hy : q[k3]? = some Q[k3] := by rw [← HQK.out k3 hq3]; exact List.getElem?_eq_getElem _
                    have hc : Lib.compareInt P[k3].toNat Q[k3].toNat = 0 := by go_tidy; grind
                    have he : P[k3] = Q[k3] := UInt8.toNat_inj.1 (by have := (compareInt_zero _ _).1 hc; omega)
                    have ht : p.take (k3 + 1) = q.take (k3 + 1) := by
                      rw [List.take_add_one, List.take_add_one, hx, hy, he, HT.out]
                    have HTT := Lib.hid ht
                    clear hx hy hc he ht
                    go_roundw
                    case rel => exact ⟨k3 + 1, by go_num, by omega, HTT.out, below_drewN HB3.out _⟩
                    case measure => simp only [intOf]; omega
                · have hd1 := HPD.out
                  have hd2 : Q.drop p.length = B2 := by rw [HL.out]; exact HQD.out
                  have hd3 : List.take (P.length - p.length) A2 = A2 := by rw [← hd1]; exact take_rest P _
                  have hd4 : List.take (Q.length - p.length) B2 = B2 := by rw [← hd2]; exact take_rest Q _
                  have hd5 : p.length ≤ Q.length := by omega
                  go_wp2_with fail
                  have hpe : p = q := by
                    have := HT.out
                    rw [List.take_of_length_le (by omega), List.take_of_length_le (by have := HL.out; omega)] at this
                    exact this
                  have HF := Lib.hid (HST.out (by rw [hpe]; exact cmpB_same q))
                  clear hpe
                  go_quiet (fail)
                  go_wp2
                  go_roundw
                  case rel => exact ⟨A2, B2, rfl, rfl, below_drewN HB3.out _, HF.out.symm.trans HE.out, by omega, by omega⟩
                  case measure => simp only [strLen_bs]; omega
            · rw [if_neg hpq] at HST HNU
              go_wp2_with fail
              refine (rrun_any _ (by omega) _).mono ?_
              rintro e w' ⟨rfl, rfl⟩
              rw [HR1.out]
              go_wp2_with fail
              refine (rrun_any _ (by omega) _).mono ?_
              rintro e w' ⟨rfl, rfl⟩
              rw [HR2.out]
              go_wp2_with (go_at_call 169; refine (rsign_any _ _ _).mono ?_; rintro e w' ⟨rfl, rfl⟩)
              go_ret
              exact ⟨by rw [← HE.out, HNU.out (fun h => hpq (by rw [compareInt_zero] at h; omega))]; rfl, HG.out⟩
    · have HNE : NotBoth (x :: a') b' := by simp [NotBoth]
      have hla : ((x :: a')).length ≤ 1048576 := hl1
      have hlb : (b').length ≤ 1048576 := hl3
      go_wp2
      go_loop [5] (fun i => ∃ k : Nat, i = .int .i64 k ∧ k ≤ ((x :: a')).length ∧ k ≤ (b').length ∧ signsS (((x :: a')).drop k) ((b').drop k) = signsS (x :: a') b') (fun i => ((x :: a')).length - (intOf i).toNat)
      case atStart => exact ⟨0, rfl, Nat.zero_le _, Nat.zero_le _, rfl⟩
      case round =>
        obtain ⟨k, rfl, hka, hkb, hsg⟩ := hrel
        have HS := Lib.hid hsg
        clear hsg
        go_wp2_with (first | (go_at_call 168; refine (rrank_any _ k (by omega) (by omega) _).mono ?_; rintro e w' ⟨rfl, rfl⟩) | (go_at_call 169; refine (rsign_any _ _ _).mono ?_; rintro e w' ⟨rfl, rfl⟩))
        · have hq : (signsS (x :: a') b').1 = Lib.compareInt (rrankS (List.drop k (x :: a'))) (rrankS (List.drop k b')) := sgn_part HS.out (by go_tidy; grind)
          have hp : partS a b = (signsS (x :: a') b').1 := by rw [← HE.out, partS_signs HNE (by rw [hq]; go_tidy; grind)]
          rw [hq] at hp
          have HP := Lib.hid hp
          clear hq hp
          go_ret
          refine ⟨?_, HG.out⟩
          rw [HP.out]
          try (go_tidy; simp; try grind)
        · have hgo := sgn_go HS.out (by go_tidy; grind) (by go_tidy; grind)
          have HGO := Lib.hid hgo
          clear hgo
          go_round
          case rel => exact ⟨k + 1, by go_num, HGO.out⟩
          case measure => have := HGO.out.1; simp only [intOf]; omega
        · have hstop : (signsS (x :: a') b').1 = 0 := sgn_stop HS.out (by go_tidy; grind) (by go_tidy; grind)
          have hsk := skip_parts hstop
          have hsl := signs_len (x :: a') b'
          have hd1 := digits_len (signsS (x :: a') b').2.1
          have hd2 := digits_len (signsS (x :: a') b').2.2
          have hr1 := run_parts (signsS (x :: a') b').2.1
          have hr2 := run_parts (signsS (x :: a') b').2.2
          have hstep := partS_step HNE hstop
          have hnums := partS_nums HNE hstop
          have hrl := round_len HNE hstop
          unfold numsS at hstep hnums
          generalize (digitsS (signsS (x :: a') b').2.1).1 = p at hsk hd1 hr1 hstep hnums
          generalize (digitsS (signsS (x :: a') b').2.2).1 = q at hsk hd2 hr2 hstep hnums
          generalize (digitsS (signsS (x :: a') b').2.1).2 = A2 at hsk hd1 hr1 hstep hrl
          generalize (digitsS (signsS (x :: a') b').2.2).2 = B2 at hsk hd2 hr2 hstep hrl
          have hpl := skip_len (x :: a')
          have hql := skip_len b'
          rw [hsk.1, List.length_append] at hpl
          rw [hsk.2, List.length_append] at hql
          have HP := Lib.hid hsk.1
          have HQ := Lib.hid hsk.2
          have hPk : ∀ k, k < p.length → (p ++ A2)[k]? = p[k]? := fun k h => List.getElem?_append_left h
          have hQk : ∀ k, k < q.length → (q ++ B2)[k]? = q[k]? := fun k h => List.getElem?_append_left h
          have hPd : (p ++ A2).drop p.length = A2 := List.drop_left
          have hQd : (q ++ B2).drop q.length = B2 := List.drop_left
          have hPl : p.length ≤ (p ++ A2).length := by simp
          have hQl : q.length ≤ (q ++ B2).length := by simp
          have hPn : (p ++ A2).length ≤ 1048576 := by simp; omega
          have hQn : (q ++ B2).length ≤ 1048576 := by simp; omega
          generalize p ++ A2 = P at HP hr1 hPk hPd hPl hPn
          generalize q ++ B2 = Q at HQ hr2 hQk hQd hQl hQn
          have HPK := Lib.hid hPk
          have HQK := Lib.hid hQk
          have HPD := Lib.hid hPd
          have HQD := Lib.hid hQd
          clear hPk hQk hPd hQd
          have HR1 := Lib.hid hr1
          have HR2 := Lib.hid hr2
          have HST := Lib.hid hstep
          have HNU := Lib.hid hnums
          clear hsk hr1 hr2 hstep hnums hstop
          go_wp2_with fail
          refine (rskip_any _ hla _).mono ?_
          rintro e w' ⟨rfl, rfl⟩
          rw [HP.out]
          go_wp2_with fail
          refine (rskip_any _ hlb _).mono ?_
          rintro e w' ⟨rfl, rfl⟩
          rw [HQ.out]
          by_cases hpq : p.length = q.length
          · rw [if_pos hpq] at HST HNU
            have HL := Lib.hid hpq
            have hlq : p.length ≤ q.length := by omega
            clear hpq
            go_wp2_with fail
            refine (rrun_any _ (by omega) _).mono ?_
            rintro e w' ⟨rfl, rfl⟩
            rw [HR1.out]
            go_wp2_with fail
            refine (rrun_any _ (by omega) _).mono ?_
            rintro e w' ⟨rfl, rfl⟩
            rw [HR2.out, ← HL.out]
            go_wp2_with fail
            obtain ⟨wo, hwo⟩ : ∃ wo : World, wo = wr := ⟨_, rfl⟩
            go_loopw [54] (fun i w3 => ∃ k : Nat, i = .int .i64 k ∧ k ≤ p.length ∧ p.take k = q.take k ∧ Below w.heap.size w w3) (fun i _ => p.length - (intOf i).toNat)
            case atStart => exact ⟨0, rfl, Nat.zero_le _, rfl, HG.out⟩
            case round =>
              obtain ⟨k3, rfl, hk3, htk, hb3⟩ := hrel
              have HT := Lib.hid htk
              have HB3 := Lib.hid hb3
              clear htk hb3
              by_cases hp3 : k3 < p.length
              · have hq3 : k3 < q.length := by rw [← HL.out]; exact hp3
                have hP3 : (k3 : Int) < P.length := by omega
                have hQ3 : (k3 : Int) < Q.length := by omega
                go_wp2_with fail
                go_quiet ((go_at_call 169; exact Calls.quiet_of_same (rsign_quiet _ _ _)))
                go_wp2
                · have hx : p[k3]? = some P[k3] := by rw [← HPK.out k3 hp3]; exact List.getElem?_eq_getElem _
                  have hy : q[k3]? = some Q[k3] := by rw [← HQK.out k3 hq3]; exact List.getElem?_eq_getElem _
                  have hc : ¬ Lib.compareInt P[k3].toNat Q[k3].toNat = 0 := by go_tidy; grind
                  have hb := cmpB_diff HT.out hx hy (fun h => hc ((compareInt_zero _ _).2 (by omega)))
                  have HF := Lib.hid (HNU.out (by rw [hb]; exact hc))
                  have HBB := Lib.hid hb
                  clear hb hx hy hc
                  go_ret
                  exact ⟨by rw [← HE.out, HF.out, HBB.out]; rfl, below_drewN HB3.out _⟩
                · have hx : p[k3]? = some P[k3] := by rw [← HPK.out k3 hp3]; exact List.getElem?_eq_getElem _
                  have hy : q[k3]? = some Q[k3] := by rw [← HQK.out k3 hq3]; exact List.getElem?_eq_getElem _
                  have hc : Lib.compareInt P[k3].toNat Q[k3].toNat = 0 := by go_tidy; grind
                  have he : P[k3] = Q[k3] := UInt8.toNat_inj.1 (by have := (compareInt_zero _ _).1 hc; omega)
                  have ht : p.take (k3 + 1) = q.take (k3 + 1) := by
                    rw [List.take_add_one, List.take_add_one, hx, hy, he, HT.out]
                  have HTT := Lib.hid ht
                  clear hx hy hc he ht
                  go_roundw
                  case rel => exact ⟨k3 + 1, by go_num, by omega, HTT.out, below_drewN HB3.out _⟩
                  case measure => simp only [intOf]; omega
              · have hd1 := HPD.out
                have hd2 : Q.drop p.length = B2 := by rw [HL.out]; exact HQD.out
                have hd3 : List.take (P.length - p.length) A2 = A2 := by rw [← hd1]; exact take_rest P _
                have hd4 : List.take (Q.length - p.length) B2 = B2 := by rw [← hd2]; exact take_rest Q _
                have hd5 : p.length ≤ Q.length := by omega
                go_wp2_with fail
                have hpe : p = q := by
                  have := HT.out
                  rw [List.take_of_length_le (by omega), List.take_of_length_le (by have := HL.out; omega)] at this
                  exact this
                have HF := Lib.hid (HST.out (by rw [hpe]; exact cmpB_same q))
                clear hpe
                go_quiet (fail)
                go_wp2
                go_roundw
                case rel => exact ⟨A2, B2, rfl, rfl, below_drewN HB3.out _, HF.out.symm.trans HE.out, by omega, by omega⟩
                case measure => simp only [strLen_bs]; omega
          · rw [if_neg hpq] at HST HNU
            go_wp2_with fail
            refine (rrun_any _ (by omega) _).mono ?_
            rintro e w' ⟨rfl, rfl⟩
            rw [HR1.out]
            go_wp2_with fail
            refine (rrun_any _ (by omega) _).mono ?_
            rintro e w' ⟨rfl, rfl⟩
            rw [HR2.out]
            go_wp2_with (go_at_call 169; refine (rsign_any _ _ _).mono ?_; rintro e w' ⟨rfl, rfl⟩)
            go_ret
            exact ⟨by rw [← HE.out, HNU.out (fun h => hpq (by rw [compareInt_zero] at h; omega))]; rfl, HG.out⟩
        · have hq : (signsS (x :: a') b').1 = Lib.compareInt (rrankS (List.drop k (x :: a'))) (rrankS (List.drop k b')) := sgn_part HS.out (by go_tidy; grind)
          have hp : partS a b = (signsS (x :: a') b').1 := by rw [← HE.out, partS_signs HNE (by rw [hq]; go_tidy; grind)]
          rw [hq] at hp
          have HP := Lib.hid hp
          clear hq hp
          go_ret
          refine ⟨?_, HG.out⟩
          rw [HP.out]
          try (go_tidy; simp; try grind)
        · have hgo := sgn_go HS.out (by go_tidy; grind) (by go_tidy; grind)
          have HGO := Lib.hid hgo
          clear hgo
          go_round
          case rel => exact ⟨k + 1, by go_num, HGO.out⟩
          case measure => have := HGO.out.1; simp only [intOf]; omega
end Go.Proofs.YtaicidbopgnmfaaGreatDoor
namespace Go.Proofs.YtaicidbopgnmfaaGreatDoor
set_option linter.unusedSimpArgs false
set_option linter.unusedVariables false
open Go.RowKit
set_option maxRecDepth 100000 in
theorem rversion_any (l : List UInt8) (w : World) :
    Calls Tryz.prog 129 #[.string (bs l)] w fun e w' => e = .returned (verW l) ∧ Below w.heap.size w w' := by
  by_cases h1 : l.length = 0 ∨ 48 < l.length
  · have HV := Lib.hid (verW_short h1)
    by_cases h0 : l = []
    · subst h0
      go_enter Tryz.func129, Tryz.ntmps129
      go_wp2
      (refine bodyPost_ret (results_tmp4 rfl _ _ _) rfl ?_)
      exact ⟨by rw [HV.out]; rfl, Below.refl _ _⟩
    · have hne : l.length ≠ 0 := fun h => h0 (List.eq_nil_of_length_eq_zero h)
      have h48 : 48 < l.length := by omega
      clear h1
      have hz : ((l.length : Int) == 0) = false := by rw [beq_eq_false_iff_ne]; omega
      clear h0 hne
      go_enter Tryz.func129, Tryz.ntmps129
      go_wp2_with fail
      all_goals go_ways
      (refine bodyPost_ret (results_tmp4 rfl _ _ _) rfl ?_)
      exact ⟨by rw [HV.out]; rfl, Below.refl _ _⟩
  · exact rversion_long l h1 w
end Go.Proofs.YtaicidbopgnmfaaGreatDoor
namespace Go.Proofs.YtaicidbopgnmfaaGreatDoor
set_option linter.unusedSimpArgs false
set_option linter.unusedVariables false
open Go.RowKit

theorem cut_lens (l : List UInt8) : (cutE l).1.length ≤ l.length + 1 ∧ (cutE l).2.length ≤ l.length ∧ (cutR l).1.length ≤ l.length ∧ (cutR l).2.length ≤ l.length := by
  unfold cutE cutR
  refine ⟨?_, ?_, ?_, ?_⟩ <;> split <;> simp <;> omega
theorem verS_len {l e u v : List UInt8} (h : verS l = some (e, u, v)) : e.length ≤ 49 ∧ u.length ≤ 48 ∧ v.length ≤ 48 := by
  unfold verS at h
  split at h
  · cases h
  · split at h
    · cases h
    · split at h
      · simp only [Option.some.injEq, Prod.mk.injEq] at h
        obtain ⟨rfl, rfl, rfl⟩ := h
        have h1 := cut_lens l
        have h2 := cut_lens (cutE l).2
        omega
      · cases h
theorem verW_none {l : List UInt8} (h : verS l = none) : verW l = .tuple #[.string (bs []), .string (bs []), .string (bs []), .bool false] := by simp [verW, h]
theorem verW_some {l a b c : List UInt8} (h : verS l = some (a, b, c)) : verW l = .tuple #[.string (bs a), .string (bs b), .string (bs c), .bool true] := by simp [verW, h]

set_option maxRecDepth 100000 in
theorem or3_any (g : Nat) (x y z : Int) (w : World) (h0 : w.cell? ⟨g, 0, none⟩ = some (.int .i64 x)) (h1 : w.cell? ⟨g, 1, none⟩ = some (.int .i64 y)) (h2 : w.cell? ⟨g, 2, none⟩ = some (.int .i64 z)) :
    Calls Tryz.prog 68 #[.slice (some ⟨g, 0, none⟩) 3 3] w fun e w' => e = .returned (.int .i64 (orS x y z)) ∧ w = w' := by
  go_enter Tryz.func68, Tryz.ntmps68
  go_wp2
  go_loop [8] (fun i => i = .int .i64 0 ∨ (i = .int .i64 1 ∧ x = 0) ∨ (i = .int .i64 2 ∧ x = 0 ∧ y = 0) ∨ (i = .int .i64 3 ∧ x = 0 ∧ y = 0 ∧ z = 0)) (fun i => 3 - (intOf i).toNat)
  case atStart => exact .inl rfl
  case round =>
    rcases hrel with rfl | ⟨rfl, hx⟩ | ⟨rfl, hx, hy⟩ | ⟨rfl, hx, hy, hz⟩
    all_goals go_wp2
    all_goals first
      | (go_round
         case rel => (go_tidy; simp; grind)
         case measure => simp [intOf])
      | (go_ret
         refine ⟨?_, rfl⟩
         go_tidy
         simp [orS]
         try grind)
theorem compare_any (a b : List UInt8) (w : World) :
    Calls Tryz.prog 121 #[.string (bs a), .string (bs b)] w fun e w' => e = .returned (.tuple #[.int .i64 (cmpV a b).1, .bool (cmpV a b).2]) ∧ Below w.heap.size w w' := by
  rcases ha : verS a with _ | ⟨e, u, r⟩
  · have HA := Lib.hid (verV_none ha)
    have HC := Lib.hid (show cmpV a b = (0, false) by simp [cmpV, ha])
    clear ha
    rcases hb : verS b with _ | ⟨f, v, s⟩
    · have HB := Lib.hid (verV_none hb)
      clear hb
      go_enter Tryz.func121, Tryz.ntmps121
      go_wp2_with fail
      refine (parse_any a _).mono ?_
      rintro e1 w1 ⟨rfl, hd1⟩
      rw [HA.out]
      go_wp2_with fail
      refine (parse_any b _).mono ?_
      rintro e2 w2 ⟨rfl, hd2⟩
      rw [HB.out]
      go_wp2_with fail
      go_ret2
      exact ⟨by rw [HC.out]; rfl, below_next hd1 hd2⟩
    · have HB := Lib.hid (verV_some hb)
      clear hb
      go_enter Tryz.func121, Tryz.ntmps121
      go_wp2_with fail
      refine (parse_any a _).mono ?_
      rintro e1 w1 ⟨rfl, hd1⟩
      rw [HA.out]
      go_wp2_with fail
      refine (parse_any b _).mono ?_
      rintro e2 w2 ⟨rfl, hd2⟩
      rw [HB.out]
      go_wp2_with fail
      go_ret2
      exact ⟨by rw [HC.out]; rfl, below_next hd1 hd2⟩
  · have HA := Lib.hid (verV_some ha)
    have hla := verS_len ha
    rcases hb : verS b with _ | ⟨f, v, s⟩
    · have HB := Lib.hid (verV_none hb)
      have HC := Lib.hid (show cmpV a b = (0, false) by simp [cmpV, ha, hb])
      clear ha
      clear hb
      go_enter Tryz.func121, Tryz.ntmps121
      go_wp2_with fail
      refine (parse_any a _).mono ?_
      rintro e1 w1 ⟨rfl, hd1⟩
      rw [HA.out]
      go_wp2_with fail
      refine (parse_any b _).mono ?_
      rintro e2 w2 ⟨rfl, hd2⟩
      rw [HB.out]
      go_wp2_with fail
      go_ret2
      exact ⟨by rw [HC.out]; rfl, below_next hd1 hd2⟩
    · have HB := Lib.hid (verV_some hb)
      have hlb := verS_len hb
      have HC := Lib.hid (show cmpV a b = (orS (partS e f) (partS u v) (partS r s), true) by simp [cmpV, ha, hb])
      clear ha hb
      obtain ⟨ha1, ha2, ha3⟩ := hla
      obtain ⟨hb1, hb2, hb3⟩ := hlb
      go_enter Tryz.func121, Tryz.ntmps121
      go_wp2_with fail
      refine (parse_any a _).mono ?_
      rintro e1 w1 ⟨rfl, hd1⟩
      rw [HA.out]
      go_wp2_with fail
      refine (parse_any b _).mono ?_
      rintro e2 w2 ⟨rfl, hd2⟩
      rw [HB.out]
      go_wp2_with fail
      refine (part_any e f _ (by omega) (by omega)).mono ?_
      rintro e3 w3 ⟨rfl, hc1⟩
      go_wp2_with fail
      refine (part_any u v _ (by omega) (by omega)).mono ?_
      rintro e4 w4 ⟨rfl, hc2⟩
      go_wp2_with fail
      refine (part_any r s _ (by omega) (by omega)).mono ?_
      rintro e5 w5 ⟨rfl, hc3⟩
      go_wp2_with fail
      refine (or3_any _ (partS e f) (partS u v) (partS r s) _ ((Blk.new _ _ _).cell 0) ((Blk.new _ _ _).cell 1) ((Blk.new _ _ _).cell 2)).mono ?_
      rintro e6 w6 ⟨rfl, rfl⟩
      go_wp2
      go_ret2
      exact ⟨by rw [HC.out]; rfl, (below_next (below_next (below_next (below_next hd1 hd2) hc1) hc2) hc3).alloc (by exact (below_next (below_next (below_next (below_next hd1 hd2) hc1) hc2) hc3).size) _⟩
end Go.Proofs.YtaicidbopgnmfaaGreatDoor
namespace Go.Proofs.YtaicidbopgnmfaaGreatDoor
set_option linter.unusedSimpArgs false
set_option linter.unusedVariables false
open Go.RowKit

theorem Compare_any (a b : List UInt8) (w : World) :
    Calls Tryz.prog 71 #[.string (bs a), .string (bs b)] w fun e w' => e = .returned (.int .i64 (cmpV a b).1) ∧ Below w.heap.size w w' := by
  go_enter Tryz.func71, Tryz.ntmps71
  go_wp2_with (go_at_call 121; refine (compare_any _ _ _).mono ?_; rintro e w1 ⟨rfl, hb⟩)
  go_ret
  exact ⟨rfl, hb⟩
def sameV (a b : List UInt8) : Bool := (cmpV a b).2 && decide ((cmpV a b).1 = 0)
theorem Same_any (a b : List UInt8) (w : World) :
    Calls Tryz.prog 100 #[.string (bs a), .string (bs b)] w fun e w' => e = .returned (.bool (sameV a b)) ∧ Below w.heap.size w w' := by
  go_enter Tryz.func100, Tryz.ntmps100
  go_wp2_with (go_at_call 121; refine (compare_any _ _ _).mono ?_; rintro e w1 ⟨rfl, hb⟩)
  all_goals go_ret
  all_goals refine ⟨?_, hb⟩
  all_goals (go_tidy; simp [sameV]; try grind)
set_option maxRecDepth 100000 in
set_option maxHeartbeats 400000 in
theorem Holds_any (rel : Int) (a b : List UInt8) (w : World) :
    Calls Tryz.prog 182 #[.int .i64 rel, .string (bs a), .string (bs b)] w fun e w' => e = .returned (.bool (holdsS rel a b)) ∧ Below w.heap.size w w' := by
  by_cases h0 : rel = 0
  · subst h0
    rcases ha : verS a with _ | ⟨e, u, r⟩
    · have HA := Lib.hid (verV_none ha)
      have HH := Lib.hid (show holdsS 0 a b = false by simp [holdsS, isV, ha])
      clear ha
      go_enter Tryz.func182, Tryz.ntmps182
      go_wp2_with (go_at_call 125; refine (parse_any _ _).mono ?_; rintro e w1 ⟨rfl, hb⟩; rw [HA.out])
      go_ret
      exact ⟨by rw [HH.out]; rfl, hb⟩
    · have HA := Lib.hid (verV_some ha)
      have HH := Lib.hid (show holdsS 0 a b = true by simp [holdsS, isV, ha])
      clear ha
      go_enter Tryz.func182, Tryz.ntmps182
      go_wp2_with (go_at_call 125; refine (parse_any _ _).mono ?_; rintro e w1 ⟨rfl, hb⟩; rw [HA.out])
      go_ret
      exact ⟨by rw [HH.out]; rfl, hb⟩
  · have hz : (rel == 0) = false := by simpa using h0
    go_enter Tryz.func182, Tryz.ntmps182
    go_wp2_with (go_at_call 121; refine (compare_any _ _ _).mono ?_; rintro e w1 ⟨rfl, hb⟩)
    all_goals go_ret
    all_goals refine ⟨?_, hb⟩
    all_goals (go_tidy; simp [holdsS]; try grind)
/- the reference's -/
theorem rIs_any (a : List UInt8) (w : World) :
    Calls Tryz.prog 76 #[.string (bs a)] w fun e w' => e = .returned (.bool (isV a)) ∧ Below w.heap.size w w' := by
  rcases ha : verS a with _ | ⟨e, u, r⟩
  · have HI := Lib.hid (show isV a = false by simp [isV, ha])
    have HA := Lib.hid (verW_none ha)
    clear ha
    go_enter Tryz.func76, Tryz.ntmps76
    go_wp2_with (go_at_call 129; refine (rversion_any _ _).mono ?_; rintro e w1 ⟨rfl, hb⟩; rw [HA.out])
    go_ret
    exact ⟨by rw [HI.out]; rfl, hb⟩
  · have HI := Lib.hid (show isV a = true by simp [isV, ha])
    have HA := Lib.hid (verW_some ha)
    clear ha
    go_enter Tryz.func76, Tryz.ntmps76
    go_wp2_with (go_at_call 129; refine (rversion_any _ _).mono ?_; rintro e w1 ⟨rfl, hb⟩; rw [HA.out])
    go_ret
    exact ⟨by rw [HI.out]; rfl, hb⟩
set_option maxRecDepth 100000 in
set_option maxHeartbeats 800000 in
theorem rCompare_any (a b : List UInt8) (w : World) :
    Calls Tryz.prog 77 #[.string (bs a), .string (bs b)] w fun e w' => e = .returned (.int .i64 (cmpV a b).1) ∧ Below w.heap.size w w' := by
  rcases ha : verS a with _ | ⟨e, u, r⟩
  · have HA := Lib.hid (verW_none ha)
    have HC := Lib.hid (show cmpV a b = (0, false) by simp [cmpV, ha])
    clear ha
    rcases hb : verS b with _ | ⟨f, v, s⟩
    · have HB := Lib.hid (verW_none hb)
      clear hb
      go_enter Tryz.func77, Tryz.ntmps77
      go_wp2_with fail
      refine (rversion_any a _).mono ?_
      rintro e1 w1 ⟨rfl, hd1⟩
      rw [HA.out]
      go_wp2_with fail
      refine (rversion_any b _).mono ?_
      rintro e2 w2 ⟨rfl, hd2⟩
      rw [HB.out]
      go_wp2_with fail
      go_ret
      exact ⟨by rw [HC.out]; rfl, below_next hd1 hd2⟩
    · have HB := Lib.hid (verW_some hb)
      clear hb
      go_enter Tryz.func77, Tryz.ntmps77
      go_wp2_with fail
      refine (rversion_any a _).mono ?_
      rintro e1 w1 ⟨rfl, hd1⟩
      rw [HA.out]
      go_wp2_with fail
      refine (rversion_any b _).mono ?_
      rintro e2 w2 ⟨rfl, hd2⟩
      rw [HB.out]
      go_wp2_with fail
      go_ret
      exact ⟨by rw [HC.out]; rfl, below_next hd1 hd2⟩
  · have HA := Lib.hid (verW_some ha)
    have hla := verS_len ha
    rcases hb : verS b with _ | ⟨f, v, s⟩
    · have HB := Lib.hid (verW_none hb)
      have HC := Lib.hid (show cmpV a b = (0, false) by simp [cmpV, ha, hb])
      clear ha
      clear hb
      go_enter Tryz.func77, Tryz.ntmps77
      go_wp2_with fail
      refine (rversion_any a _).mono ?_
      rintro e1 w1 ⟨rfl, hd1⟩
      rw [HA.out]
      go_wp2_with fail
      refine (rversion_any b _).mono ?_
      rintro e2 w2 ⟨rfl, hd2⟩
      rw [HB.out]
      go_wp2_with fail
      go_ret
      exact ⟨by rw [HC.out]; rfl, below_next hd1 hd2⟩
    · have HB := Lib.hid (verW_some hb)
      have hlb := verS_len hb
      have HC := Lib.hid (show cmpV a b = (orS (partS e f) (partS u v) (partS r s), true) by simp [cmpV, ha, hb])
      clear ha hb
      obtain ⟨ha1, ha2, ha3⟩ := hla
      obtain ⟨hb1, hb2, hb3⟩ := hlb
      go_enter Tryz.func77, Tryz.ntmps77
      go_wp2_with fail
      refine (rversion_any a _).mono ?_
      rintro e1 w1 ⟨rfl, hd1⟩
      rw [HA.out]
      go_wp2_with fail
      refine (rversion_any b _).mono ?_
      rintro e2 w2 ⟨rfl, hd2⟩
      rw [HB.out]
      have i0 : ∀ w, (Instr.index 153 (.agg #[.string (bs e), .string (bs f), .string (bs u), .string (bs v), .string (bs r), .string (bs s)]) (.int .i64 0)).run Tryz.prog w = .ok (.agg #[.string (bs e), .string (bs f)]) w := fun _ => by kernel_rfl
      have i1 : ∀ w, (Instr.index 153 (.agg #[.string (bs e), .string (bs f), .string (bs u), .string (bs v), .string (bs r), .string (bs s)]) (.int .i64 1)).run Tryz.prog w = .ok (.agg #[.string (bs u), .string (bs v)]) w := fun _ => by kernel_rfl
      have i2 : ∀ w, (Instr.index 153 (.agg #[.string (bs e), .string (bs f), .string (bs u), .string (bs v), .string (bs r), .string (bs s)]) (.int .i64 2)).run Tryz.prog w = .ok (.agg #[.string (bs r), .string (bs s)]) w := fun _ => by kernel_rfl
      go_wp2_with fail
      go_loopw [46] (fun i wr => Below w.heap.size w wr ∧ (i = .int .i64 0 ∨ (i = .int .i64 1 ∧ partS e f = 0) ∨ (i = .int .i64 2 ∧ partS e f = 0 ∧ partS u v = 0) ∨ (i = .int .i64 3 ∧ partS e f = 0 ∧ partS u v = 0 ∧ partS r s = 0))) (fun i _ => 3 - (intOf i).toNat)
      case atStart => exact ⟨below_next hd1 hd2, .inl rfl⟩
      case round =>
        obtain ⟨hbr, hrel⟩ := hrel
        have HBR := Lib.hid hbr
        clear hbr
        rcases hrel with rfl | ⟨rfl, hx⟩ | ⟨rfl, hx, hy⟩ | ⟨rfl, hx, hy, hz⟩
        all_goals go_wp2_with (go_at_call 130; refine (rpart_any _ _ _ (by omega) (by omega)).mono ?_; rintro e3 w3 ⟨rfl, hc1⟩)
        · have HF : Hid (Below w.heap.size w w3) := Lib.hid (below_next (HBR.out.alloc HBR.out.size _) hc1)
          go_ret
          refine ⟨?_, HF.out⟩
          rw [HC.out]
          try (go_tidy; simp [orS]; try grind)
        · have HF : Hid (Below w.heap.size w w3) := Lib.hid (below_next (HBR.out.alloc HBR.out.size _) hc1)
          go_roundw
          case rel => exact ⟨HF.out, by go_tidy; simp; try grind⟩
          case measure => simp [intOf]
        · have HF : Hid (Below w.heap.size w w3) := Lib.hid (below_next (HBR.out.alloc HBR.out.size _) hc1)
          go_ret
          refine ⟨?_, HF.out⟩
          rw [HC.out]
          try (go_tidy; simp [orS]; try grind)
        · have HF : Hid (Below w.heap.size w w3) := Lib.hid (below_next (HBR.out.alloc HBR.out.size _) hc1)
          go_roundw
          case rel => exact ⟨HF.out, by go_tidy; simp; try grind⟩
          case measure => simp [intOf]
        · have HF : Hid (Below w.heap.size w w3) := Lib.hid (below_next (HBR.out.alloc HBR.out.size _) hc1)
          go_ret
          refine ⟨?_, HF.out⟩
          rw [HC.out]
          try (go_tidy; simp [orS]; try grind)
        · have HF : Hid (Below w.heap.size w w3) := Lib.hid (below_next (HBR.out.alloc HBR.out.size _) hc1)
          go_roundw
          case rel => exact ⟨HF.out, by go_tidy; simp; try grind⟩
          case measure => simp [intOf]
        · go_ret
          refine ⟨?_, HBR.out⟩
          rw [HC.out]
          try (go_tidy; simp [orS]; try grind)
theorem rSameVersion_any (a b : List UInt8) (w : World) :
    Calls Tryz.prog 67 #[.string (bs a), .string (bs b)] w fun e w' => e = .returned (.bool (sameV a b)) ∧ Below w.heap.size w w' := by
  have hs : sameV a b = (isV a && isV b && decide ((cmpV a b).1 = 0)) := by
    unfold sameV cmpV isV
    rcases verS a with _ | ⟨e, u, r⟩ <;> rcases verS b with _ | ⟨f, v, s⟩ <;> simp
  have HS := Lib.hid hs
  clear hs
  go_enter Tryz.func67, Tryz.ntmps67
  go_wp2_with fail
  refine (rIs_any a _).mono ?_
  rintro e1 w1 ⟨rfl, hd1⟩
  go_wp2_with (first | (go_at_call 76; refine (rIs_any b _).mono ?_; rintro e1 w2 ⟨rfl, hd2⟩) | (go_at_call 77; refine (rCompare_any a b _).mono ?_; rintro e1 w3 ⟨rfl, hd3⟩))
  all_goals go_ret
  all_goals refine ⟨?_, by (repeat (first | assumption | exact Below.refl _ _ | refine below_next ?_ (by assumption) | refine below_drewN ?_ _ | refine below_alloc ?_ _))⟩
  all_goals (rw [HS.out]; go_tidy; simp; try grind)
set_option maxRecDepth 100000 in
set_option maxHeartbeats 400000 in
theorem rHolds_any (rel : Int) (a b : List UInt8) (w : World) :
    Calls Tryz.prog 96 #[.int .i64 rel, .string (bs a), .string (bs b)] w fun e w' => e = .returned (.bool (holdsS rel a b)) ∧ Below w.heap.size w w' := by
  have hs : (cmpV a b).2 = (isV a && isV b) := by
    unfold cmpV isV
    rcases verS a with _ | ⟨e, u, r⟩ <;> rcases verS b with _ | ⟨f, v, s⟩ <;> simp
  have HS := Lib.hid hs
  clear hs
  by_cases h0 : rel = 0
  · subst h0
    go_enter Tryz.func96, Tryz.ntmps96
    go_wp2_with (go_at_call 76; refine (rIs_any a _).mono ?_; rintro e1 w1 ⟨rfl, hd1⟩)
    go_ret
    exact ⟨rfl, hd1⟩
  · have hz : (rel == 0) = false := by simpa using h0
    go_enter Tryz.func96, Tryz.ntmps96
    go_wp2_with fail
    refine (rIs_any a _).mono ?_
    rintro e1 w1 ⟨rfl, hd1⟩
    go_wp2_with (first | (go_at_call 76; refine (rIs_any b _).mono ?_; rintro e1 w2 ⟨rfl, hd2⟩) | (go_at_call 77; refine (rCompare_any a b _).mono ?_; rintro e1 w3 ⟨rfl, hd3⟩))
    all_goals go_ret
    all_goals refine ⟨?_, by (repeat (first | assumption | exact Below.refl _ _ | refine below_next ?_ (by assumption) | refine below_drewN ?_ _ | refine below_alloc ?_ _))⟩
    all_goals (have hq := HS.out; go_tidy; simp [holdsS]; grind)
end Go.Proofs.YtaicidbopgnmfaaGreatDoor
