/- The stable sort of slices: the merge in place, at steps. -/
import Derived.Test.YtaicidbopgnmfaaGreatDoorZoT
import Derived.Test.YtaicidbopgnmfaaGreatDoorSp
namespace Go.Proofs.YtaicidbopgnmfaaGreatDoor
set_option linter.unusedSimpArgs false
set_option linter.unusedVariables false
open Go.RowKit
set_option maxRecDepth 100000 in
set_option maxHeartbeats 400000 in
theorem symS_one_any (B : Nat) (Z : Raw → Stp → Prop) (c : Stp → Stp → Int) (hc : CmpOkS 65 Z c) (hsw : SW fun x y => decide (c x y < 0)) (g cap n a m b : Nat) (X R Y q : List Stp) (x : Stp) (hq : q = X ++ [x] ++ R ++ Y) (w : World) (ho : Own w B 24 3 (RKS Z) (.slice (some ⟨g, 0, none⟩) n cap) (q))
    (hn : q.length = n) (hm : X.length = a) (ham : a + 1 = m) (hb : m + R.length = b) (hR : Ris (fun x y => decide (c x y < 0)) R) (h0 : 0 < R.length) (hs : n ≤ 1000) (F : List Stp) (hF : X ++ mrg (fun x y => decide (c x y < 0)) [x] R ++ Y = F) :
    Calls Tryz.prog 158 #[(.slice (some ⟨g, 0, none⟩) n cap), .int .i64 a, .int .i64 m, .int .i64 b, .func (.func 65) #[] #[]] w (RetRow w B 24 3 (RKS Z) g n cap F) := by
  have hbn : b ≤ n := by rw [← hn, hq]; simp; omega
  have t1 : (((m : Int) - a) == 1) = true := by simp; omega
  have HO := Lib.hid ho
  have HQ := Lib.hid hq
  have HN := Lib.hid hn
  have HM := Lib.hid hm
  have HBR := Lib.hid hb
  have HRR := Lib.hid hR
  have ham1 : a + 1 ≤ m := by omega
  have ham2 : m ≤ a + 1 := by omega
  have hmb : m < b := by omega
  have HAM := Lib.hid ham
  have HF := Lib.hid hF
  clear hF ho hq hn hm hb hR ham
  go_enter Tryz.func158, Tryz.ntmps158
  go_wp2
  go_loopw [10, 11] (fun vi vj wr => ∃ i j : Nat, vi = .int .i64 i ∧ vj = .int .i64 j ∧ Bd (bdR (fun x y => decide (c x y < 0)) R m x) m b i j ∧ Own wr B 24 3 (RKS Z) (.slice (some ⟨g, 0, none⟩) n cap) (q) ∧ w.grownBy wr (some g)) (fun vi vj _ => (intOf vj).toNat - (intOf vi).toNat)
  case atStart => exact ⟨m, b, rfl, rfl, Bd.start (by omega), HO.out, grown_refl _ _⟩
  case round =>
    clear HO
    obtain ⟨i, j, rfl, rfl, hB, ho, hg⟩ := hrel
    obtain ⟨wo, rfl⟩ : ∃ wo : World, wo = wr := ⟨_, rfl⟩
    have hbd := hB
    obtain ⟨k1, k2, k3, _, _⟩ := hbd
    have HB := Lib.hid hB
    have HG := Lib.hid hg
    have HO := Lib.hid ho
    clear hB hg
    by_cases hlt : i < j
    · obtain ⟨h, hh⟩ : ∃ h : Nat, h = (i + j) / 2 := ⟨_, rfl⟩
      have hh0 : ((i : Int) + j) / 2 = (h : Int) := by omega
      have k4 : i ≤ h := by omega
      have k5 : h < j := by omega
      clear hh
      obtain ⟨y, s, hy, hz, f0, f1, f2⟩ := ho.atKS (i := h) (by rw [HN.out]; omega) (by rw [HN.out]; omega)
      obtain ⟨x', r, hx, hr, e0, e1, e2⟩ := ho.atKS (i := a) (by rw [HN.out]; omega) (by rw [HN.out]; omega)
      have hx' := hx
      rw [HQ.out, look_L (L := [x]) (a := a) (m := m) HM.out HAM.out (by omega) (by omega)] at hx'
      obtain rfl : x' = x := by simpa using hx'.symm
      have hy' := hy
      rw [HQ.out, look_R (L := [x']) (a := a) (m := m) HM.out HAM.out (by omega) (by rw [HBR.out]; omega)] at hy'
      have HY := Lib.hid hy'
      have HR := Lib.hid hr
      have HZ := Lib.hid hz
      clear hx hy hx' hy' hr hz ho
      (have t0 := fun p : Be wo => Be.cell f0 p); (have t1 := fun p : Be wo => Be.cell f1 p); (have t2 := fun p : Be wo => Be.cell f2 p)
      (have s0 := fun p : Be wo => Be.cell e0 p); (have s1 := fun p : Be wo => Be.cell e1 p); (have s2 := fun p : Be wo => Be.cell e2 p)
      clear e0 e1 e2 f0 f1 f2
      have hj1 : (h : Int) < (n : Int) := by omega
      have hj2 : (a : Int) < (n : Int) := by omega
      have hj3 : (0 : Int) ≤ (h : Int) := by omega
      generalize hcv : c y x' = v
      have HCV := Lib.hid hcv
      clear hcv
      go_wp2_with fail
      refine region_be (by kernel_rfl) (by kernel_rfl) ?_
      repeat (quiet_step (first | (go_at_call 65; with_reducible exact Calls.be_of ((hc.call y x' s r _ HZ.out HR.out).mono fun _ _ h => ⟨h.1.trans (congrArg (fun b => Ending.returned (Value.int .i64 b)) HCV.out), h.2⟩))))
      refine wpQuiet_nil ?_
      intro _ hw'
      obtain ⟨pb, hw''⟩ := hw'
      subst hw''
      obtain ⟨W2, hbw⟩ := pb
      dsimp only
      clear s0 s1 s2 t0 t1 t2
      have HO2 := Lib.hid (HO.out.next hbw)
      have HG2 := Lib.hid (only_next HG.out hbw)
      clear hbw
      by_cases hv : v < 0
      · have hvd : decide (v < 0) = true := decide_eq_true hv
        have HL := Lib.hid (show bdR (fun x y => decide (c x y < 0)) R m x' h = true by
          rw [bdR_of HY.out, HCV.out]
          exact hvd)
        go_wp2
        go_roundw
        case rel => exact ⟨h + 1, j, by simp, rfl, HB.out.up k4 k5 HL.out, HO2.out, HG2.out⟩
        case measure => (try simp only [intOf]); omega
      · have hvd : decide (v < 0) = false := decide_eq_false hv
        have HL := Lib.hid (show bdR (fun x y => decide (c x y < 0)) R m x' h = false by
          rw [bdR_of HY.out, HCV.out]
          exact hvd)
        go_wp2
        go_roundw
        case rel => exact ⟨i, h, rfl, rfl, HB.out.down k4 k5 HL.out, HO2.out, HG2.out⟩
        case measure => (try simp only [intOf]); omega
    · obtain rfl : i = j := by omega
      clear ho hlt
      have k6 : a + 1 ≤ i := by omega
      go_wp2
      go_loopw [13] (fun vk wr => ∃ k : Nat, vk = .int .i64 (a + k : Nat) ∧ a + k + 1 ≤ i ∧ Own wr B 24 3 (RKS Z) (.slice (some ⟨g, 0, none⟩) n cap) (mvR q a k) ∧ w.grownBy wr (some g)) (fun vk _ => i - (intOf vk).toNat)
      case atStart => exact ⟨0, by simp, by omega, HO.out, HG.out⟩
      case round =>
        clear HO HG
        obtain ⟨k, rfl, hk, ho, hg⟩ := hrel
        obtain ⟨wo, rfl⟩ : ∃ wo : World, wo = wr := ⟨_, rfl⟩
        have hml := mvR_len q a k
        rw [HN.out] at hml
        obtain ⟨d, hd⟩ : ∃ d : Nat, d = a + k := ⟨_, rfl⟩
        have HD := Lib.hid hd
        have hw1 : IntKind.i64.wrap ((i : Int) - 1) = (i : Int) - 1 := by rw [IntKind.wrap_i64]; omega
        rw [show a + k = d from hd.symm] at hk ⊢
        clear hd
        by_cases hlt2 : d + 1 < i
        · have hdd : ((d : Int) < (i : Int) - 1) := by omega
          obtain ⟨x1, r, hx, hr, e0, e1, e2⟩ := ho.atKS (i := d) (by omega) (by omega)
          obtain ⟨y, s, hy, hz, f0, f1, f2⟩ := ho.atKS (i := d + 1) (by omega) (by omega)
          have HX := Lib.hid hx
          have HY := Lib.hid hy
          have HR := Lib.hid hr
          have HZ := Lib.hid hz
          have hfz := ho.frz
          have HO := Lib.hid ho
          have HG := Lib.hid hg
          have hd1 : (d : Int) + 1 < (n : Int) := by omega
          have hd2 : (d : Int) < (n : Int) := by omega
          have hd3 : ((d : Int) + 1).toNat = d + 1 := by omega
          have hd4 : (0 : Int) ≤ (d : Int) + 1 := by omega
          clear hx hy hr hz ho hg hml
          go_wp2_with fail
          go_region
          go_wp2
          go_roundw
          case rel =>
            have hsw := swapKS HO.out d (d + 1) HX.out HY.out HR.out HZ.out HG.out
            exact ⟨k + 1, by rw [HD.out]; simp; omega, by have := HD.out; omega, by rw [mvR, ← HD.out]; exact hsw.1, hsw.2⟩
          case measure => (try simp only [intOf]); omega
        · have hdd : ¬ ((d : Int) < (i : Int) - 1) := by omega
          go_wp2
          go_end0
          exact ⟨rfl, by
            rw [← HF.out, ← sym_one hsw X R Y x (by rw [HM.out]; exact HAM.out) HBR.out HRR.out HB.out, ← HQ.out, show m - 1 = a by omega, show i - m = k by have := HD.out; omega]
            exact ho, hg⟩
set_option maxRecDepth 100000 in
set_option maxHeartbeats 400000 in
theorem symS_last_any (B : Nat) (Z : Raw → Stp → Prop) (c : Stp → Stp → Int) (hc : CmpOkS 65 Z c) (hsw : SW fun x y => decide (c x y < 0)) (g cap n a m b : Nat) (X L Y q : List Stp) (y : Stp) (hq : q = X ++ L ++ [y] ++ Y) (w : World) (ho : Own w B 24 3 (RKS Z) (.slice (some ⟨g, 0, none⟩) n cap) (q))
    (hn : q.length = n) (ha : X.length = a) (hm : a + L.length = m) (hmb : m + 1 = b) (hL : Ris (fun x y => decide (c x y < 0)) L) (h0 : 1 < L.length) (hs : n ≤ 1000) (F : List Stp) (hF : X ++ mrg (fun x y => decide (c x y < 0)) L [y] ++ Y = F) :
    Calls Tryz.prog 158 #[(.slice (some ⟨g, 0, none⟩) n cap), .int .i64 a, .int .i64 m, .int .i64 b, .func (.func 65) #[] #[]] w (RetRow w B 24 3 (RKS Z) g n cap F) := by
  have hbn : b ≤ n := by rw [← hn, hq]; simp; omega
  have t1 : (((m : Int) - a) == 1) = false := by simp; omega
  have t2 : (((b : Int) - m) == 1) = true := by simp; omega
  have HO := Lib.hid ho
  have HQ := Lib.hid hq
  have HN := Lib.hid hn
  have HA := Lib.hid ha
  have HM := Lib.hid hm
  have HLL := Lib.hid hL
  have HF := Lib.hid hF
  have ham : a + 1 < m := by omega
  have hb1 : m + 1 ≤ b := by omega
  have hb2 : b ≤ m + 1 := by omega
  clear hF ho hq hn ha hm hL hmb
  go_enter Tryz.func158, Tryz.ntmps158
  go_wp2
  go_loopw [14, 15] (fun vi vj wr => ∃ i j : Nat, vi = .int .i64 i ∧ vj = .int .i64 j ∧ Bd (bdL (fun x y => decide (c x y < 0)) L a y) a m i j ∧ Own wr B 24 3 (RKS Z) (.slice (some ⟨g, 0, none⟩) n cap) (q) ∧ w.grownBy wr (some g)) (fun vi vj _ => (intOf vj).toNat - (intOf vi).toNat)
  case atStart => exact ⟨a, m, rfl, rfl, Bd.start (by omega), HO.out, grown_refl _ _⟩
  case round =>
    clear HO
    obtain ⟨i, j, rfl, rfl, hB, ho, hg⟩ := hrel
    obtain ⟨wo, rfl⟩ : ∃ wo : World, wo = wr := ⟨_, rfl⟩
    have hbd := hB
    obtain ⟨k1, k2, k3, _, _⟩ := hbd
    have HB := Lib.hid hB
    have HG := Lib.hid hg
    have HO := Lib.hid ho
    clear hB hg
    by_cases hlt : i < j
    · obtain ⟨h, hh⟩ : ∃ h : Nat, h = (i + j) / 2 := ⟨_, rfl⟩
      have hh0 : ((i : Int) + j) / 2 = (h : Int) := by omega
      have k4 : i ≤ h := by omega
      have k5 : h < j := by omega
      clear hh
      obtain ⟨x, s, hx, hz, f0, f1, f2⟩ := ho.atKS (i := h) (by rw [HN.out]; omega) (by rw [HN.out]; omega)
      obtain ⟨y', r, hy, hr, e0, e1, e2⟩ := ho.atKS (i := m) (by rw [HN.out]; omega) (by rw [HN.out]; omega)
      have hy' := hy
      rw [HQ.out, look_R (R := [y]) (a := a) (m := m) HA.out HM.out (Nat.le_refl _) (by simp)] at hy'
      obtain rfl : y' = y := by simpa using hy'.symm
      have hx' := hx
      rw [HQ.out, look_L (a := a) (m := m) HA.out HM.out (by omega) (by omega)] at hx'
      have HX := Lib.hid hx'
      have HR := Lib.hid hr
      have HZ := Lib.hid hz
      clear hx hy hx' hy' hr hz ho
      (have t0 := fun p : Be wo => Be.cell f0 p); (have t1 := fun p : Be wo => Be.cell f1 p); (have t2 := fun p : Be wo => Be.cell f2 p)
      (have s0 := fun p : Be wo => Be.cell e0 p); (have s1 := fun p : Be wo => Be.cell e1 p); (have s2 := fun p : Be wo => Be.cell e2 p)
      clear e0 e1 e2 f0 f1 f2
      have hj1 : (h : Int) < (n : Int) := by omega
      have hj2 : (m : Int) < (n : Int) := by omega
      have hj3 : (0 : Int) ≤ (h : Int) := by omega
      generalize hcv : c y' x = v
      have HCV := Lib.hid hcv
      clear hcv
      go_wp2_with fail
      refine region_be (by kernel_rfl) (by kernel_rfl) ?_
      repeat (quiet_step (first | (go_at_call 65; with_reducible exact Calls.be_of ((hc.call y' x r s _ HR.out HZ.out).mono fun _ _ h => ⟨h.1.trans (congrArg (fun b => Ending.returned (Value.int .i64 b)) HCV.out), h.2⟩))))
      refine wpQuiet_nil ?_
      intro _ hw'
      obtain ⟨pb, hw''⟩ := hw'
      subst hw''
      obtain ⟨W2, hbw⟩ := pb
      dsimp only
      clear s0 s1 s2 t0 t1 t2
      have HO2 := Lib.hid (HO.out.next hbw)
      have HG2 := Lib.hid (only_next HG.out hbw)
      clear hbw
      by_cases hv : v < 0
      · have hvd : decide (v < 0) = true := decide_eq_true hv
        have hvd2 : (!decide (v < 0)) = false := by rw [hvd]; rfl
        have HL := Lib.hid (show bdL (fun x y => decide (c x y < 0)) L a y' h = false by
          rw [bdL_of HX.out, HCV.out, hvd]; rfl)
        rw [hvd2]
        go_wp2
        go_roundw
        case rel => exact ⟨i, h, rfl, rfl, HB.out.down k4 k5 HL.out, HO2.out, HG2.out⟩
        case measure => (try simp only [intOf]); omega
      · have hvd : decide (v < 0) = false := decide_eq_false hv
        have hvd2 : (!decide (v < 0)) = true := by rw [hvd]; rfl
        have HL := Lib.hid (show bdL (fun x y => decide (c x y < 0)) L a y' h = true by
          rw [bdL_of HX.out, HCV.out, hvd]; rfl)
        rw [hvd2]
        go_wp2
        go_roundw
        case rel => exact ⟨h + 1, j, by simp, rfl, HB.out.up k4 k5 HL.out, HO2.out, HG2.out⟩
        case measure => (try simp only [intOf]); omega
    · obtain rfl : i = j := by omega
      clear ho hlt
      go_wp2
      go_loopw [17] (fun vk wr => ∃ k d : Nat, vk = .int .i64 d ∧ d + k = m ∧ i ≤ d ∧ Own wr B 24 3 (RKS Z) (.slice (some ⟨g, 0, none⟩) n cap) (mvL q m k) ∧ w.grownBy wr (some g)) (fun vk _ => (intOf vk).toNat)
      case atStart => exact ⟨0, m, rfl, rfl, by omega, HO.out, HG.out⟩
      case round =>
        clear HO HG
        obtain ⟨k, d, rfl, hdk, hk, ho, hg⟩ := hrel
        obtain ⟨wo, rfl⟩ : ∃ wo : World, wo = wr := ⟨_, rfl⟩
        have hml := mvL_len q m k
        rw [HN.out] at hml
        have HD := Lib.hid hdk
        have hdm : d ≤ m := by omega
        clear hdk
        by_cases hlt2 : i < d
        · obtain ⟨d, rfl⟩ : ∃ d', d = d' + 1 := ⟨d - 1, by omega⟩
          obtain ⟨x1, r, hx, hr, e0, e1, e2⟩ := ho.atKS (i := d + 1) (by omega) (by omega)
          obtain ⟨y1, s, hy, hz, f0, f1, f2⟩ := ho.atKS (i := d) (by omega) (by omega)
          have HX := Lib.hid hx
          have HY := Lib.hid hy
          have HR := Lib.hid hr
          have HZ := Lib.hid hz
          have hfz := ho.frz
          have HO := Lib.hid ho
          have HG := Lib.hid hg
          have hdd : ((i : Int) < (d : Int) + 1) := by omega
          have hd1 : (d : Int) + 1 < (n : Int) := by omega
          have hd2 : (d : Int) < (n : Int) := by omega
          have hd3 : ((d : Int) + 1).toNat = d + 1 := by omega
          have hd4 : (0 : Int) ≤ (d : Int) + 1 := by omega
          have hw1 : IntKind.i64.wrap ((d : Int) + 1 - 1) = (d : Int) := by rw [IntKind.wrap_i64]; omega
          have hw2 : IntKind.i64.wrap (d : Int) = (d : Int) := by rw [IntKind.wrap_i64]; omega
          clear hx hy hr hz ho hg hml
          go_wp2_with fail
          go_region
          go_wp2
          go_roundw
          case rel =>
            have hsw := swapKS HO.out (d + 1) d HX.out HY.out HR.out HZ.out HG.out
            exact ⟨k + 1, d, by simp, by have := HD.out; omega, by omega, by rw [mvL, show m - k = d + 1 by have := HD.out; omega]; exact hsw.1, hsw.2⟩
          case measure => (try simp only [intOf]); omega
        · have hdd : ¬ ((i : Int) < (d : Int)) := by omega
          go_wp2
          go_end0
          exact ⟨rfl, by
            rw [← HF.out, ← sym_last hsw X L Y y HA.out HM.out HLL.out HB.out, ← HQ.out, show m - i = k by have := HD.out; omega]
            exact ho, hg⟩
end Go.Proofs.YtaicidbopgnmfaaGreatDoor
