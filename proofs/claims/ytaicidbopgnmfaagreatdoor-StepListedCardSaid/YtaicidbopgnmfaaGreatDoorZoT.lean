/- The stable sort of slices: the functions on stretches, at steps. -/
import Derived.Test.YtaicidbopgnmfaaGreatDoorZoS
import Derived.BigQuiet
namespace Go.Proofs.YtaicidbopgnmfaaGreatDoor
set_option linter.unusedSimpArgs false
set_option linter.unusedVariables false
open Go.RowKit

/-- a comparison of two packages -/
def CmpOkS (G : FuncId) (Z : Raw → Stp → Prop) (c : Stp → Stp → Int) : Prop :=
  ∀ (x y : Stp) (r s : Raw) (W : World), Z r x → Z s y → Calls Tryz.prog G #[(.agg #[.int .i64 (x).kind, .string (bs (x).name), .string (bs (x).ver)]), (.agg #[.int .i64 (y).kind, .string (bs (y).name), .string (bs (y).ver)])] W fun e w' => e = .returned (.int .i64 (c x y)) ∧ Below W.heap.size W w'
theorem CmpOkS.call {G : FuncId} {Z : Raw → Stp → Prop} {c : Stp → Stp → Int} (h : CmpOkS G Z c) (x y : Stp) (r s : Raw) (W : World) (hx : Z r x) (hy : Z s y) : Calls Tryz.prog G #[(.agg #[.int .i64 (x).kind, .string (bs (x).name), .string (bs (x).ver)]), (.agg #[.int .i64 (y).kind, .string (bs (y).name), .string (bs (y).ver)])] W fun e w' => e = .returned (.int .i64 (c x y)) ∧ Below W.heap.size W w' := h x y r s W hx hy
set_option maxRecDepth 100000 in
set_option maxHeartbeats 400000 in
theorem rotateS_any (B : Nat) (Z : Raw → Stp → Prop) (fv : Value) (g cap : Nat) (l : List Stp) (a m b : Nat) (w : World) (ho : Own w B 24 3 (RKS Z) (.slice (some ⟨g, 0, none⟩) l.length cap) (l))
    (h1 : a < m) (h2 : m < b) (h3 : b ≤ l.length) (hs : l.length ≤ 1000) :
    Calls Tryz.prog 187 #[(.slice (some ⟨g, 0, none⟩) l.length cap), .int .i64 a, .int .i64 m, .int .i64 b, fv] w (RetRow w B 24 3 (RKS Z) g l.length cap (rotF l m (b + 1) (m - a) (b - m))) := by
  have HO := Lib.hid ho
  clear ho
  generalize hF : rotF l m (b + 1) (m - a) (b - m) = F
  have HF := Lib.hid hF
  clear hF
  go_enter Tryz.func187, Tryz.ntmps187
  go_wp2
  go_loopw [10, 11] (fun vi vj wr => ∃ (f i j : Nat) (q : List Stp), vi = .int .i64 i ∧ vj = .int .i64 j ∧ 0 < i ∧ 0 < j ∧ i + j < f ∧ i ≤ m ∧ m + j ≤ l.length ∧ q.length = l.length ∧ rotF q m f i j = F ∧ Own wr B 24 3 (RKS Z) (.slice (some ⟨g, 0, none⟩) l.length cap) (q) ∧ w.grownBy wr (some g)) (fun vi vj _ => (intOf vi).toNat + (intOf vj).toNat)
  case atStart => exact ⟨b + 1, m - a, b - m, l, by congr 1; omega, by congr 1; omega, by omega, by omega, by omega, by omega, by omega, rfl, HF.out, HO.out, grown_refl _ _⟩
  case round =>
    clear HO HF h1 h2
    obtain ⟨f, i, j, q, rfl, rfl, hi, hj, hf, him, hjm, hq, hF, ho, hg⟩ := hrel
    obtain ⟨wo, rfl⟩ : ∃ wo : World, wo = wr := ⟨_, rfl⟩
    have HQ := Lib.hid hq
    have HF := Lib.hid hF
    have HG := Lib.hid hg
    rw [← hq] at ho
    have HO := Lib.hid ho
    clear hq hF hg ho
    obtain ⟨f, rfl⟩ : ∃ f', f = f' + 1 := ⟨f - 1, by omega⟩
    obtain ⟨d, hd⟩ : ∃ d : Nat, d = m - i := ⟨_, rfl⟩
    have hd1 : d + i ≤ m := by omega
    have hd2 : m ≤ d + i := by omega
    have HD := Lib.hid hd
    have hw3 : IntKind.i64.wrap ((m : Int) - i) = (d : Int) := by rw [IntKind.wrap_i64]; omega
    clear hd
    by_cases hij : i = j
    · subst hij
      go_wp2_with fail
      rw [← HQ.out]
      refine (swapRangeS_any B Z fv g cap q d m i wo HO.out (by omega) (by rw [HQ.out]; omega) (by rw [HQ.out]; omega)).mono ?_
      rintro e w1 ⟨rfl, ho1, hg1⟩
      clear hw3
      go_wp2
      go_end0
      exact ⟨rfl, by rw [← HF.out, rotF_same, ← HQ.out, ← HD.out]; exact ho1, grown_trans HG.out hg1⟩
    · by_cases hlt : j < i
      · obtain ⟨n, hn⟩ : ∃ n : Nat, n = i - j := ⟨_, rfl⟩
        have hn1 : n + j ≤ i := by omega
        have hn2 : i ≤ n + j := by omega
        have HN := Lib.hid hn
        clear hn
        go_wp2_with fail
        rw [← HQ.out]
        refine (swapRangeS_any B Z fv g cap q d m j wo HO.out (by omega) (by rw [HQ.out]; omega) (by rw [HQ.out]; omega)).mono ?_
        rintro e w1 ⟨rfl, ho1, hg1⟩
        rw [HQ.out] at ho1 ⊢
        have HO1 := Lib.hid ho1
        have HG1 := Lib.hid hg1
        have hw4 : IntKind.i64.wrap ((i : Int) - j) = (n : Int) := by rw [IntKind.wrap_i64]; omega
        clear hw3 ho1 hg1
        go_wp2
        go_roundw
        case rel => exact ⟨f, n, j, _, rfl, rfl, by omega, hj, by omega, by omega, hjm, by rw [swpN_len]; exact HQ.out, by rw [HN.out, HD.out, ← rotF_gt hlt]; exact HF.out, HO1.out, grown_trans HG.out HG1.out⟩
        case measure => (try simp only [intOf]); omega
      · obtain ⟨n, hn⟩ : ∃ n : Nat, n = j - i := ⟨_, rfl⟩
        have hn1 : n + i ≤ j := by omega
        have hn2 : j ≤ n + i := by omega
        have HN := Lib.hid hn
        obtain ⟨t, ht⟩ : ∃ t : Nat, t = m + j - i := ⟨_, rfl⟩
        have ht1 : t + i ≤ m + j := by omega
        have ht2 : m + j ≤ t + i := by omega
        have HT := Lib.hid ht
        have hw5 : IntKind.i64.wrap ((m : Int) + j - i) = (t : Int) := by rw [IntKind.wrap_i64]; omega
        clear hn ht
        go_wp2_with fail
        rw [← HQ.out]
        refine (swapRangeS_any B Z fv g cap q d t i wo HO.out (by omega) (by rw [HQ.out]; omega) (by rw [HQ.out]; omega)).mono ?_
        rintro e w1 ⟨rfl, ho1, hg1⟩
        rw [HQ.out] at ho1 ⊢
        have HO1 := Lib.hid ho1
        have HG1 := Lib.hid hg1
        have hw4 : IntKind.i64.wrap ((j : Int) - i) = (n : Int) := by rw [IntKind.wrap_i64]; omega
        clear hw3 hw5 ho1 hg1
        go_wp2
        go_roundw
        case rel => exact ⟨f, i, n, _, rfl, rfl, hi, by omega, by omega, him, by omega, by rw [swpN_len]; exact HQ.out, by rw [HN.out, HT.out, HD.out, ← rotF_lt (by omega)]; exact HF.out, HO1.out, grown_trans HG.out HG1.out⟩
        case measure => (try simp only [intOf]); omega
set_option maxRecDepth 100000 in
set_option maxHeartbeats 400000 in
theorem insS_any (B : Nat) (Z : Raw → Stp → Prop) (c : Stp → Stp → Int) (hc : CmpOkS 65 Z c) (g cap : Nat) (l : List Stp) (a b : Nat) (w : World) (ho : Own w B 24 3 (RKS Z) (.slice (some ⟨g, 0, none⟩) l.length cap) (l))
    (h1 : a ≤ b) (h3 : b ≤ l.length) (hs : l.length ≤ 1000) :
    Calls Tryz.prog 157 #[(.slice (some ⟨g, 0, none⟩) l.length cap), .int .i64 a, .int .i64 b, .func (.func 65) #[] #[]] w (RetRow w B 24 3 (RKS Z) g l.length cap (insO (fun x y => decide (c x y < 0)) a (b - (a + 1)) (a + 1) l)) := by
  have HO := Lib.hid ho
  clear ho
  generalize hF : insO (fun x y => decide (c x y < 0)) a (b - (a + 1)) (a + 1) l = F
  have HF := Lib.hid hF
  clear hF
  go_enter Tryz.func157, Tryz.ntmps157
  go_wp2
  go_loopw [8] (fun vi wr => ∃ (i : Nat) (q : List Stp), vi = .int .i64 i ∧ a < i ∧ i ≤ b + 1 ∧ q.length = l.length ∧ insO (fun x y => decide (c x y < 0)) a (b - i) i q = F ∧ Own wr B 24 3 (RKS Z) (.slice (some ⟨g, 0, none⟩) l.length cap) (q) ∧ w.grownBy wr (some g)) (fun vi _ => b + 1 - (intOf vi).toNat)
  case atStart => exact ⟨a + 1, l, by simp, by omega, by omega, rfl, HF.out, HO.out, grown_refl _ _⟩
  case round =>
    clear HO HF
    obtain ⟨i, q, rfl, hi, hib, hq, hF, ho, hg⟩ := hrel
    obtain ⟨wo, rfl⟩ : ∃ wo : World, wo = wr := ⟨_, rfl⟩
    have HQ := Lib.hid hq
    have HF := Lib.hid hF
    have HG := Lib.hid hg
    have HO := Lib.hid ho
    clear hq hF hg ho
    by_cases hlt : i < b
    · generalize hT : insA (fun x y => decide (c x y < 0)) a (i - a) q = T
      have HT := Lib.hid hT
      clear hT
      go_wp2
      go_loopw [9] (fun vj wr => ∃ (d : Nat) (q : List Stp), vj = .int .i64 (a + d : Nat) ∧ a + d ≤ i ∧ q.length = l.length ∧ insA (fun x y => decide (c x y < 0)) a d q = T ∧ Own wr B 24 3 (RKS Z) (.slice (some ⟨g, 0, none⟩) l.length cap) (q) ∧ w.grownBy wr (some g)) (fun vj _ => (intOf vj).toNat)
      case atStart => exact ⟨i - a, q, by rw [show a + (i - a) = i by omega], by omega, HQ.out, HT.out, HO.out, HG.out⟩
      case round =>
        have HTT := Lib.hid (show insO (fun x y => decide (c x y < 0)) a (b - (i + 1)) (i + 1) T = F by
          rw [← HF.out, show b - i = (b - (i + 1)) + 1 by omega, insO, HT.out])
        clear HO HG HT HQ HF
        obtain ⟨d, q, rfl, hd, hq, hT, ho, hg⟩ := hrel
        obtain ⟨wo, rfl⟩ : ∃ wo : World, wo = wr := ⟨_, rfl⟩
        have HQ := Lib.hid hq
        have HT := Lib.hid hT
        have HG := Lib.hid hg
        have HO := Lib.hid ho
        clear hT hg
        rcases d with _ | d
        · have hdd : decide ((a : Int) < (a : Int)) = false := decide_eq_false (by omega)
          clear ho hq
          rw [Nat.add_zero]
          go_wp2_with fail
          go_quiet (fail)
          go_wp2
          go_roundw
          case rel => exact ⟨i + 1, q, by simp, by omega, by omega, HQ.out, by rw [show q = T by have := HT.out; simpa [insA] using this]; exact HTT.out, HO.out.drewN _, only_drewN HG.out _⟩
          case measure => (try simp only [intOf]); omega
        · obtain ⟨j, hj⟩ : ∃ j : Nat, j = a + d := ⟨_, rfl⟩
          have HJ := Lib.hid hj
          rw [show a + (d + 1) = j + 1 by omega]
          have hjd : a ≤ j := by omega
          have hji : j + 1 ≤ i := by omega
          have hjl : j + 1 < l.length := by omega
          obtain ⟨x, r, hx, hr, e0, e1, e2⟩ := ho.atKS (i := j + 1) (by omega) (by omega)
          obtain ⟨y, s, hy, hz, f0, f1, f2⟩ := ho.atKS (i := j) (by omega) (by omega)
          have HX := Lib.hid hx
          have HY := Lib.hid hy
          have HR := Lib.hid hr
          have HZ := Lib.hid hz
          clear hx hy hr hz hd hj ho hq
          (have s0 := fun p : Be wo => Be.cell e0 p); (have s1 := fun p : Be wo => Be.cell e1 p); (have s2 := fun p : Be wo => Be.cell e2 p)
          (have t0 := fun p : Be wo => Be.cell f0 p); (have t1 := fun p : Be wo => Be.cell f1 p); (have t2 := fun p : Be wo => Be.cell f2 p)
          clear e0 e1 e2 f0 f1 f2
          have hdd : decide ((a : Int) < (j : Int) + 1) = true := decide_eq_true (by omega)
          have hw1 : IntKind.i64.wrap ((j : Int) + 1 - 1) = (j : Int) := by rw [IntKind.wrap_i64]; omega
          have hw2 : IntKind.i64.wrap (j : Int) = (j : Int) := by rw [IntKind.wrap_i64]; omega
          have hj0 : (0 : Int) ≤ (j : Int) + 1 := by omega
          have hjt : ((j : Int) + 1).toNat = j + 1 := by omega
          have hj1 : (j : Int) + 1 < (l.length : Int) := by omega
          have hj2 : (j : Int) < (l.length : Int) := by omega
          have hj3 : (0 : Int) ≤ (j : Int) := by omega
          generalize hcv : c x y = v
          have HCV := Lib.hid hcv
          clear hcv
          go_wp2_with fail
          refine region_be (by kernel_rfl) (by kernel_rfl) ?_
          repeat (quiet_step (first | (go_at_call 65; with_reducible exact Calls.be_of ((hc.call x y r s _ HR.out HZ.out).mono fun _ _ h => ⟨h.1.trans (congrArg (fun b => Ending.returned (Value.int .i64 b)) HCV.out), h.2⟩))))
          refine wpQuiet_nil ?_
          intro _ hw'
          obtain ⟨pb, hw''⟩ := hw'
          subst hw''
          obtain ⟨W2, hbw⟩ := pb
          dsimp only
          clear s0 s1 s2 t0 t1 t2
          have ho := HO.out.next hbw
          have HG2 := Lib.hid (only_next HG.out hbw)
          clear hbw
          obtain ⟨x', r', hx, hr, e0, e1, e2⟩ := ho.atKS (i := j + 1) (by rw [HQ.out]; omega) (by rw [HQ.out]; omega)
          obtain ⟨y', s', hy, hz, f0, f1, f2⟩ := ho.atKS (i := j) (by rw [HQ.out]; omega) (by rw [HQ.out]; omega)
          obtain rfl : x' = x := Option.some.inj (hx.symm.trans HX.out)
          obtain rfl : y' = y := Option.some.inj (hy.symm.trans HY.out)
          have HR' := Lib.hid hr
          have HZ' := Lib.hid hz
          have hfz := ho.frz
          have HO2 := Lib.hid ho
          clear hx hy hr hz ho
          by_cases hv : v < 0
          · have hvd : decide (v < 0) = true := decide_eq_true hv
            have HL := Lib.hid (show decide (c x' y' < 0) = true by rw [HCV.out]; exact hvd)
            go_wp2
            go_region
            go_wp2
            go_roundw
            case rel =>
              have hsw := swapKS HO2.out (j + 1) j HX.out HY.out HR'.out HZ'.out HG2.out
              exact ⟨d, swp q (j + 1) j, by rw [HJ.out], by have := HJ.out; omega, by rw [swp_len]; exact HQ.out, by
                have h1 := insA_go (lt := fun x y => decide (c x y < 0)) (a := a) (d := d) (l := q) (x := x') (y := y') (by have := HX.out; rw [HJ.out] at this; exact this) (by have := HY.out; rw [HJ.out] at this; exact this) HL.out
                rw [← HT.out, h1, HJ.out], hsw.1, hsw.2⟩
            case measure => (try simp only [intOf]); omega
          · have hvd : decide (v < 0) = false := decide_eq_false hv
            have HL := Lib.hid (show decide (c x' y' < 0) = false by rw [HCV.out]; exact hvd)
            go_wp2
            go_roundw
            case rel =>
              have h1 := insA_stop (lt := fun x y => decide (c x y < 0)) (a := a) (d := d) (l := q) (x := x') (y := y') (by have := HX.out; rw [HJ.out] at this; exact this) (by have := HY.out; rw [HJ.out] at this; exact this) HL.out
              exact ⟨i + 1, q, by simp, by omega, by omega, HQ.out, by rw [show q = T by rw [← HT.out]; exact h1.symm]; exact HTT.out, HO2.out, HG2.out⟩
            case measure => (try simp only [intOf]); omega
    · go_wp2
      go_end0
      exact ⟨rfl, by have := HF.out; rw [show b - i = 0 by omega] at this; rw [← this]; exact HO.out, HG.out⟩
end Go.Proofs.YtaicidbopgnmfaaGreatDoor
