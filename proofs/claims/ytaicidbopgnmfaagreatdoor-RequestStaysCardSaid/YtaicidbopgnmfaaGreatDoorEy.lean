/- The stable sort of slices: the merge in place, at packages. The stable sort of slices: the merge in place of any two rows, at packages. The stable sort of slices of packages: its contract. slices.SortStableFunc at packages: its contract. -/
import Derived.Test.YtaicidbopgnmfaaGreatDoorEx
import Derived.Test.YtaicidbopgnmfaaGreatDoorSp
namespace Go.Proofs.YtaicidbopgnmfaaGreatDoor
set_option linter.unusedSimpArgs false
set_option linter.unusedVariables false
open Go.RowKit
set_option maxRecDepth 100000 in
set_option maxHeartbeats 400000 in
theorem symE_one_any (B : Nat) (Z : Raw → Ent → Prop) (c : Ent → Ent → Int) (hc : CmpOkE 117 Z c) (hsw : SW fun x y => decide (c x y < 0)) (g cap n a m b : Nat) (X R Y q : List Ent) (x : Ent) (hq : q = X ++ [x] ++ R ++ Y) (w : World) (ho : Own w B 45 11 (RKE Z) (.slice (some ⟨g, 0, none⟩) n cap) (q))
    (hn : q.length = n) (hm : X.length = a) (ham : a + 1 = m) (hb : m + R.length = b) (hR : Ris (fun x y => decide (c x y < 0)) R) (h0 : 0 < R.length) (hs : n ≤ 1000) (F : List Ent) (hF : X ++ mrg (fun x y => decide (c x y < 0)) [x] R ++ Y = F) :
    Calls Tryz.prog 186 #[(.slice (some ⟨g, 0, none⟩) n cap), .int .i64 a, .int .i64 m, .int .i64 b, .func (.func 117) #[] #[]] w (RetRow w B 45 11 (RKE Z) g n cap F) := by
  have hbn : b ≤ n := by rw [← hn, hq]; simp; omega
  have t1 : (((m : Int) - a) == 1) = true := by simp; omega
  have HO := Lib.hid ho
  have HQ := Lib.hid hq
  have HN := Lib.hid hn
  have HM := Lib.hid hm
  have HBR := Lib.hid hb
  have HRR := Lib.hid hR
  have ham1 : a + 1 ≤ m := by omega
  have ham2 : m ≤ a + 1 := by omega
  have hmb : m < b := by omega
  have HAM := Lib.hid ham
  have HF := Lib.hid hF
  clear hF ho hq hn hm hb hR ham
  go_enter Tryz.func186, Tryz.ntmps186
  go_wp2
  go_loopw [10, 11] (fun vi vj wr => ∃ i j : Nat, vi = .int .i64 i ∧ vj = .int .i64 j ∧ Bd (bdR (fun x y => decide (c x y < 0)) R m x) m b i j ∧ Own wr B 45 11 (RKE Z) (.slice (some ⟨g, 0, none⟩) n cap) (q) ∧ w.grownBy wr (some g)) (fun vi vj _ => (intOf vj).toNat - (intOf vi).toNat)
  case atStart => exact ⟨m, b, rfl, rfl, Bd.start (by omega), HO.out, grown_refl _ _⟩
  case round =>
    clear HO
    obtain ⟨i, j, rfl, rfl, hB, ho, hg⟩ := hrel
    obtain ⟨wo, rfl⟩ : ∃ wo : World, wo = wr := ⟨_, rfl⟩
    have hbd := hB
    obtain ⟨k1, k2, k3, _, _⟩ := hbd
    have HB := Lib.hid hB
    have HG := Lib.hid hg
    have HO := Lib.hid ho
    clear hB hg
    by_cases hlt : i < j
    · obtain ⟨h, hh⟩ : ∃ h : Nat, h = (i + j) / 2 := ⟨_, rfl⟩
      have hh0 : ((i : Int) + j) / 2 = (h : Int) := by omega
      have k4 : i ≤ h := by omega
      have k5 : h < j := by omega
      clear hh
      obtain ⟨y, s, hy, hz, f0, f1, f2, f3, f4, f5, f6, f7, f8, f9, f10⟩ := ho.atKE (i := h) (by rw [HN.out]; omega) (by rw [HN.out]; omega)
      obtain ⟨x', r, hx, hr, e0, e1, e2, e3, e4, e5, e6, e7, e8, e9, e10⟩ := ho.atKE (i := a) (by rw [HN.out]; omega) (by rw [HN.out]; omega)
      have hx' := hx
      rw [HQ.out, look_L (L := [x]) (a := a) (m := m) HM.out HAM.out (by omega) (by omega)] at hx'
      obtain rfl : x' = x := by simpa using hx'.symm
      have hy' := hy
      rw [HQ.out, look_R (L := [x']) (a := a) (m := m) HM.out HAM.out (by omega) (by rw [HBR.out]; omega)] at hy'
      have HY := Lib.hid hy'
      have HR := Lib.hid hr
      have HZ := Lib.hid hz
      clear hx hy hx' hy' hr hz ho
      (have t0 := fun p : Be wo => Be.cell f0 p); (have t1 := fun p : Be wo => Be.cell f1 p); (have t2 := fun p : Be wo => Be.cell f2 p); (have t3 := fun p : Be wo => Be.cell f3 p); (have t4 := fun p : Be wo => Be.cell f4 p); (have t5 := fun p : Be wo => Be.cell f5 p); (have t6 := fun p : Be wo => Be.cell f6 p); (have t7 := fun p : Be wo => Be.cell f7 p); (have t8 := fun p : Be wo => Be.cell f8 p); (have t9 := fun p : Be wo => Be.cell f9 p); (have t10 := fun p : Be wo => Be.cell f10 p)
      (have s0 := fun p : Be wo => Be.cell e0 p); (have s1 := fun p : Be wo => Be.cell e1 p); (have s2 := fun p : Be wo => Be.cell e2 p); (have s3 := fun p : Be wo => Be.cell e3 p); (have s4 := fun p : Be wo => Be.cell e4 p); (have s5 := fun p : Be wo => Be.cell e5 p); (have s6 := fun p : Be wo => Be.cell e6 p); (have s7 := fun p : Be wo => Be.cell e7 p); (have s8 := fun p : Be wo => Be.cell e8 p); (have s9 := fun p : Be wo => Be.cell e9 p); (have s10 := fun p : Be wo => Be.cell e10 p)
      clear e0 e1 e2 e3 e4 e5 e6 e7 e8 e9 e10 f0 f1 f2 f3 f4 f5 f6 f7 f8 f9 f10
      have hj1 : (h : Int) < (n : Int) := by omega
      have hj2 : (a : Int) < (n : Int) := by omega
      have hj3 : (0 : Int) ≤ (h : Int) := by omega
      generalize hcv : c y x' = v
      have HCV := Lib.hid hcv
      clear hcv
      go_wp2_with fail
      refine region_be (by kernel_rfl) (by kernel_rfl) ?_
      repeat (quiet_step (first | (go_at_call 117; with_reducible exact Calls.be_of ((hc.call y x' s r _ HZ.out HR.out).mono fun _ _ h => ⟨h.1.trans (congrArg (fun b => Ending.returned (Value.int .i64 b)) HCV.out), h.2⟩))))
      refine wpQuiet_nil ?_
      intro _ hw'
      obtain ⟨pb, hw''⟩ := hw'
      subst hw''
      obtain ⟨W2, hbw⟩ := pb
      dsimp only
      clear s0 s1 s2 s3 s4 s5 s6 s7 s8 s9 s10 t0 t1 t2 t3 t4 t5 t6 t7 t8 t9 t10
      have HO2 := Lib.hid (HO.out.next hbw)
      have HG2 := Lib.hid (only_next HG.out hbw)
      clear hbw
      by_cases hv : v < 0
      · have hvd : decide (v < 0) = true := decide_eq_true hv
        have HL := Lib.hid (show bdR (fun x y => decide (c x y < 0)) R m x' h = true by
          rw [bdR_of HY.out, HCV.out]
          exact hvd)
        go_wp2
        go_roundw
        case rel => exact ⟨h + 1, j, by simp, rfl, HB.out.up k4 k5 HL.out, HO2.out, HG2.out⟩
        case measure => (try simp only [intOf]); omega
      · have hvd : decide (v < 0) = false := decide_eq_false hv
        have HL := Lib.hid (show bdR (fun x y => decide (c x y < 0)) R m x' h = false by
          rw [bdR_of HY.out, HCV.out]
          exact hvd)
        go_wp2
        go_roundw
        case rel => exact ⟨i, h, rfl, rfl, HB.out.down k4 k5 HL.out, HO2.out, HG2.out⟩
        case measure => (try simp only [intOf]); omega
    · obtain rfl : i = j := by omega
      clear ho hlt
      have k6 : a + 1 ≤ i := by omega
      go_wp2
      go_loopw [13] (fun vk wr => ∃ k : Nat, vk = .int .i64 (a + k : Nat) ∧ a + k + 1 ≤ i ∧ Own wr B 45 11 (RKE Z) (.slice (some ⟨g, 0, none⟩) n cap) (mvR q a k) ∧ w.grownBy wr (some g)) (fun vk _ => i - (intOf vk).toNat)
      case atStart => exact ⟨0, by simp, by omega, HO.out, HG.out⟩
      case round =>
        clear HO HG
        obtain ⟨k, rfl, hk, ho, hg⟩ := hrel
        obtain ⟨wo, rfl⟩ : ∃ wo : World, wo = wr := ⟨_, rfl⟩
        have hml := mvR_len q a k
        rw [HN.out] at hml
        obtain ⟨d, hd⟩ : ∃ d : Nat, d = a + k := ⟨_, rfl⟩
        have HD := Lib.hid hd
        have hw1 : IntKind.i64.wrap ((i : Int) - 1) = (i : Int) - 1 := by rw [IntKind.wrap_i64]; omega
        rw [show a + k = d from hd.symm] at hk ⊢
        clear hd
        by_cases hlt2 : d + 1 < i
        · have hdd : ((d : Int) < (i : Int) - 1) := by omega
          obtain ⟨x1, r, hx, hr, e0, e1, e2, e3, e4, e5, e6, e7, e8, e9, e10⟩ := ho.atKE (i := d) (by omega) (by omega)
          obtain ⟨y, s, hy, hz, f0, f1, f2, f3, f4, f5, f6, f7, f8, f9, f10⟩ := ho.atKE (i := d + 1) (by omega) (by omega)
          have HX := Lib.hid hx
          have HY := Lib.hid hy
          have HR := Lib.hid hr
          have HZ := Lib.hid hz
          have hfz := ho.frz
          have HO := Lib.hid ho
          have HG := Lib.hid hg
          have hd1 : (d : Int) + 1 < (n : Int) := by omega
          have hd2 : (d : Int) < (n : Int) := by omega
          have hd3 : ((d : Int) + 1).toNat = d + 1 := by omega
          have hd4 : (0 : Int) ≤ (d : Int) + 1 := by omega
          clear hx hy hr hz ho hg hml
          go_wp2_with fail
          go_region
          go_wp2
          go_roundw
          case rel =>
            have hsw := swapKE HO.out d (d + 1) HX.out HY.out HR.out HZ.out HG.out
            exact ⟨k + 1, by rw [HD.out]; simp; omega, by have := HD.out; omega, by rw [mvR, ← HD.out]; exact hsw.1, hsw.2⟩
          case measure => (try simp only [intOf]); omega
        · have hdd : ¬ ((d : Int) < (i : Int) - 1) := by omega
          go_wp2
          go_end0
          exact ⟨rfl, by
            rw [← HF.out, ← sym_one hsw X R Y x (by rw [HM.out]; exact HAM.out) HBR.out HRR.out HB.out, ← HQ.out, show m - 1 = a by omega, show i - m = k by have := HD.out; omega]
            exact ho, hg⟩
set_option maxRecDepth 100000 in
set_option maxHeartbeats 400000 in
theorem symE_last_any (B : Nat) (Z : Raw → Ent → Prop) (c : Ent → Ent → Int) (hc : CmpOkE 117 Z c) (hsw : SW fun x y => decide (c x y < 0)) (g cap n a m b : Nat) (X L Y q : List Ent) (y : Ent) (hq : q = X ++ L ++ [y] ++ Y) (w : World) (ho : Own w B 45 11 (RKE Z) (.slice (some ⟨g, 0, none⟩) n cap) (q))
    (hn : q.length = n) (ha : X.length = a) (hm : a + L.length = m) (hmb : m + 1 = b) (hL : Ris (fun x y => decide (c x y < 0)) L) (h0 : 1 < L.length) (hs : n ≤ 1000) (F : List Ent) (hF : X ++ mrg (fun x y => decide (c x y < 0)) L [y] ++ Y = F) :
    Calls Tryz.prog 186 #[(.slice (some ⟨g, 0, none⟩) n cap), .int .i64 a, .int .i64 m, .int .i64 b, .func (.func 117) #[] #[]] w (RetRow w B 45 11 (RKE Z) g n cap F) := by
  have hbn : b ≤ n := by rw [← hn, hq]; simp; omega
  have t1 : (((m : Int) - a) == 1) = false := by simp; omega
  have t2 : (((b : Int) - m) == 1) = true := by simp; omega
  have HO := Lib.hid ho
  have HQ := Lib.hid hq
  have HN := Lib.hid hn
  have HA := Lib.hid ha
  have HM := Lib.hid hm
  have HLL := Lib.hid hL
  have HF := Lib.hid hF
  have ham : a + 1 < m := by omega
  have hb1 : m + 1 ≤ b := by omega
  have hb2 : b ≤ m + 1 := by omega
  clear hF ho hq hn ha hm hL hmb
  go_enter Tryz.func186, Tryz.ntmps186
  go_wp2
  go_loopw [14, 15] (fun vi vj wr => ∃ i j : Nat, vi = .int .i64 i ∧ vj = .int .i64 j ∧ Bd (bdL (fun x y => decide (c x y < 0)) L a y) a m i j ∧ Own wr B 45 11 (RKE Z) (.slice (some ⟨g, 0, none⟩) n cap) (q) ∧ w.grownBy wr (some g)) (fun vi vj _ => (intOf vj).toNat - (intOf vi).toNat)
  case atStart => exact ⟨a, m, rfl, rfl, Bd.start (by omega), HO.out, grown_refl _ _⟩
  case round =>
    clear HO
    obtain ⟨i, j, rfl, rfl, hB, ho, hg⟩ := hrel
    obtain ⟨wo, rfl⟩ : ∃ wo : World, wo = wr := ⟨_, rfl⟩
    have hbd := hB
    obtain ⟨k1, k2, k3, _, _⟩ := hbd
    have HB := Lib.hid hB
    have HG := Lib.hid hg
    have HO := Lib.hid ho
    clear hB hg
    by_cases hlt : i < j
    · obtain ⟨h, hh⟩ : ∃ h : Nat, h = (i + j) / 2 := ⟨_, rfl⟩
      have hh0 : ((i : Int) + j) / 2 = (h : Int) := by omega
      have k4 : i ≤ h := by omega
      have k5 : h < j := by omega
      clear hh
      obtain ⟨x, s, hx, hz, f0, f1, f2, f3, f4, f5, f6, f7, f8, f9, f10⟩ := ho.atKE (i := h) (by rw [HN.out]; omega) (by rw [HN.out]; omega)
      obtain ⟨y', r, hy, hr, e0, e1, e2, e3, e4, e5, e6, e7, e8, e9, e10⟩ := ho.atKE (i := m) (by rw [HN.out]; omega) (by rw [HN.out]; omega)
      have hy' := hy
      rw [HQ.out, look_R (R := [y]) (a := a) (m := m) HA.out HM.out (Nat.le_refl _) (by simp)] at hy'
      obtain rfl : y' = y := by simpa using hy'.symm
      have hx' := hx
      rw [HQ.out, look_L (a := a) (m := m) HA.out HM.out (by omega) (by omega)] at hx'
      have HX := Lib.hid hx'
      have HR := Lib.hid hr
      have HZ := Lib.hid hz
      clear hx hy hx' hy' hr hz ho
      (have t0 := fun p : Be wo => Be.cell f0 p); (have t1 := fun p : Be wo => Be.cell f1 p); (have t2 := fun p : Be wo => Be.cell f2 p); (have t3 := fun p : Be wo => Be.cell f3 p); (have t4 := fun p : Be wo => Be.cell f4 p); (have t5 := fun p : Be wo => Be.cell f5 p); (have t6 := fun p : Be wo => Be.cell f6 p); (have t7 := fun p : Be wo => Be.cell f7 p); (have t8 := fun p : Be wo => Be.cell f8 p); (have t9 := fun p : Be wo => Be.cell f9 p); (have t10 := fun p : Be wo => Be.cell f10 p)
      (have s0 := fun p : Be wo => Be.cell e0 p); (have s1 := fun p : Be wo => Be.cell e1 p); (have s2 := fun p : Be wo => Be.cell e2 p); (have s3 := fun p : Be wo => Be.cell e3 p); (have s4 := fun p : Be wo => Be.cell e4 p); (have s5 := fun p : Be wo => Be.cell e5 p); (have s6 := fun p : Be wo => Be.cell e6 p); (have s7 := fun p : Be wo => Be.cell e7 p); (have s8 := fun p : Be wo => Be.cell e8 p); (have s9 := fun p : Be wo => Be.cell e9 p); (have s10 := fun p : Be wo => Be.cell e10 p)
      clear e0 e1 e2 e3 e4 e5 e6 e7 e8 e9 e10 f0 f1 f2 f3 f4 f5 f6 f7 f8 f9 f10
      have hj1 : (h : Int) < (n : Int) := by omega
      have hj2 : (m : Int) < (n : Int) := by omega
      have hj3 : (0 : Int) ≤ (h : Int) := by omega
      generalize hcv : c y' x = v
      have HCV := Lib.hid hcv
      clear hcv
      go_wp2_with fail
      refine region_be (by kernel_rfl) (by kernel_rfl) ?_
      repeat (quiet_step (first | (go_at_call 117; with_reducible exact Calls.be_of ((hc.call y' x r s _ HR.out HZ.out).mono fun _ _ h => ⟨h.1.trans (congrArg (fun b => Ending.returned (Value.int .i64 b)) HCV.out), h.2⟩))))
      refine wpQuiet_nil ?_
      intro _ hw'
      obtain ⟨pb, hw''⟩ := hw'
      subst hw''
      obtain ⟨W2, hbw⟩ := pb
      dsimp only
      clear s0 s1 s2 s3 s4 s5 s6 s7 s8 s9 s10 t0 t1 t2 t3 t4 t5 t6 t7 t8 t9 t10
      have HO2 := Lib.hid (HO.out.next hbw)
      have HG2 := Lib.hid (only_next HG.out hbw)
      clear hbw
      by_cases hv : v < 0
      · have hvd : decide (v < 0) = true := decide_eq_true hv
        have hvd2 : (!decide (v < 0)) = false := by rw [hvd]; rfl
        have HL := Lib.hid (show bdL (fun x y => decide (c x y < 0)) L a y' h = false by
          rw [bdL_of HX.out, HCV.out, hvd]; rfl)
        rw [hvd2]
        go_wp2
        go_roundw
        case rel => exact ⟨i, h, rfl, rfl, HB.out.down k4 k5 HL.out, HO2.out, HG2.out⟩
        case measure => (try simp only [intOf]); omega
      · have hvd : decide (v < 0) = false := decide_eq_false hv
        have hvd2 : (!decide (v < 0)) = true := by rw [hvd]; rfl
        have HL := Lib.hid (show bdL (fun x y => decide (c x y < 0)) L a y' h = true by
          rw [bdL_of HX.out, HCV.out, hvd]; rfl)
        rw [hvd2]
        go_wp2
        go_roundw
        case rel => exact ⟨h + 1, j, by simp, rfl, HB.out.up k4 k5 HL.out, HO2.out, HG2.out⟩
        case measure => (try simp only [intOf]); omega
    · obtain rfl : i = j := by omega
      clear ho hlt
      go_wp2
      go_loopw [17] (fun vk wr => ∃ k d : Nat, vk = .int .i64 d ∧ d + k = m ∧ i ≤ d ∧ Own wr B 45 11 (RKE Z) (.slice (some ⟨g, 0, none⟩) n cap) (mvL q m k) ∧ w.grownBy wr (some g)) (fun vk _ => (intOf vk).toNat)
      case atStart => exact ⟨0, m, rfl, rfl, by omega, HO.out, HG.out⟩
      case round =>
        clear HO HG
        obtain ⟨k, d, rfl, hdk, hk, ho, hg⟩ := hrel
        obtain ⟨wo, rfl⟩ : ∃ wo : World, wo = wr := ⟨_, rfl⟩
        have hml := mvL_len q m k
        rw [HN.out] at hml
        have HD := Lib.hid hdk
        have hdm : d ≤ m := by omega
        clear hdk
        by_cases hlt2 : i < d
        · obtain ⟨d, rfl⟩ : ∃ d', d = d' + 1 := ⟨d - 1, by omega⟩
          obtain ⟨x1, r, hx, hr, e0, e1, e2, e3, e4, e5, e6, e7, e8, e9, e10⟩ := ho.atKE (i := d + 1) (by omega) (by omega)
          obtain ⟨y1, s, hy, hz, f0, f1, f2, f3, f4, f5, f6, f7, f8, f9, f10⟩ := ho.atKE (i := d) (by omega) (by omega)
          have HX := Lib.hid hx
          have HY := Lib.hid hy
          have HR := Lib.hid hr
          have HZ := Lib.hid hz
          have hfz := ho.frz
          have HO := Lib.hid ho
          have HG := Lib.hid hg
          have hdd : ((i : Int) < (d : Int) + 1) := by omega
          have hd1 : (d : Int) + 1 < (n : Int) := by omega
          have hd2 : (d : Int) < (n : Int) := by omega
          have hd3 : ((d : Int) + 1).toNat = d + 1 := by omega
          have hd4 : (0 : Int) ≤ (d : Int) + 1 := by omega
          have hw1 : IntKind.i64.wrap ((d : Int) + 1 - 1) = (d : Int) := by rw [IntKind.wrap_i64]; omega
          have hw2 : IntKind.i64.wrap (d : Int) = (d : Int) := by rw [IntKind.wrap_i64]; omega
          clear hx hy hr hz ho hg hml
          go_wp2_with fail
          go_region
          go_wp2
          go_roundw
          case rel =>
            have hsw := swapKE HO.out (d + 1) d HX.out HY.out HR.out HZ.out HG.out
            exact ⟨k + 1, d, by simp, by have := HD.out; omega, by omega, by rw [mvL, show m - k = d + 1 by have := HD.out; omega]; exact hsw.1, hsw.2⟩
          case measure => (try simp only [intOf]); omega
        · have hdd : ¬ ((i : Int) < (d : Int)) := by omega
          go_wp2
          go_end0
          exact ⟨rfl, by
            rw [← HF.out, ← sym_last hsw X L Y y HA.out HM.out HLL.out HB.out, ← HQ.out, show m - i = k by have := HD.out; omega]
            exact ho, hg⟩
end Go.Proofs.YtaicidbopgnmfaaGreatDoor
namespace Go.Proofs.YtaicidbopgnmfaaGreatDoor
set_option linter.unusedSimpArgs false
set_option linter.unusedVariables false
open Go.RowKit
/-- the merge's contract, of stretches of N places -/
def SymCE (B : Nat) (Z : Raw → Ent → Prop) (c : Ent → Ent → Int) (g cap n N : Nat) : Prop :=
  ∀ (a m b : Nat) (X L R Y q : List Ent) (w : World) (F : List Ent), b ≤ a + N → q = X ++ L ++ R ++ Y → Own w B 45 11 (RKE Z) (.slice (some ⟨g, 0, none⟩) n cap) (q) → q.length = n → X.length = a → a + L.length = m → m + R.length = b → Ris (fun x y => decide (c x y < 0)) L → Ris (fun x y => decide (c x y < 0)) R → 0 < L.length → 0 < R.length → X ++ mrg (fun x y => decide (c x y < 0)) L R ++ Y = F →
    Calls Tryz.prog 186 #[(.slice (some ⟨g, 0, none⟩) n cap), .int .i64 a, .int .i64 m, .int .i64 b, .func (.func 117) #[] #[]] w (RetRow w B 45 11 (RKE Z) g n cap F)
theorem SymCE.call {B : Nat} {Z : Raw → Ent → Prop} {c : Ent → Ent → Int} {g cap n N : Nat} (h : SymCE B Z c g cap n N) (a m b : Nat) (X L R Y q : List Ent) (w : World) (F : List Ent) (h1 : b ≤ a + N) (h2 : q = X ++ L ++ R ++ Y) (h3 : Own w B 45 11 (RKE Z) (.slice (some ⟨g, 0, none⟩) n cap) (q)) (h4 : q.length = n) (h5 : X.length = a) (h6 : a + L.length = m) (h7 : m + R.length = b) (h8 : Ris (fun x y => decide (c x y < 0)) L) (h9 : Ris (fun x y => decide (c x y < 0)) R) (h10 : 0 < L.length) (h11 : 0 < R.length) (h12 : X ++ mrg (fun x y => decide (c x y < 0)) L R ++ Y = F) :
    Calls Tryz.prog 186 #[(.slice (some ⟨g, 0, none⟩) n cap), .int .i64 a, .int .i64 m, .int .i64 b, .func (.func 117) #[] #[]] w (RetRow w B 45 11 (RKE Z) g n cap F) := h a m b X L R Y q w F h1 h2 h3 h4 h5 h6 h7 h8 h9 h10 h11 h12
set_option maxRecDepth 100000 in
set_option maxHeartbeats 4000000 in
theorem symE_gen (B : Nat) (Z : Raw → Ent → Prop) (c : Ent → Ent → Int) (hc : CmpOkE 117 Z c) (hsw : SW (fun x y => decide (c x y < 0))) (g cap n N : Nat) (hI : SymCE B Z c g cap n N) (a m b : Nat) (X L R Y q : List Ent) (hq : q = X ++ L ++ R ++ Y) (w : World) (ho : Own w B 45 11 (RKE Z) (.slice (some ⟨g, 0, none⟩) n cap) (q))
    (hN : b ≤ a + N + 1) (hn : q.length = n) (ha : X.length = a) (hm : a + L.length = m) (hb : m + R.length = b) (hL : Ris (fun x y => decide (c x y < 0)) L) (hR : Ris (fun x y => decide (c x y < 0)) R) (g0 : 1 < L.length) (g1 : 1 < R.length) (hs : n ≤ 1000) (F : List Ent) (hF : X ++ mrg (fun x y => decide (c x y < 0)) L R ++ Y = F) :
    Calls Tryz.prog 186 #[(.slice (some ⟨g, 0, none⟩) n cap), .int .i64 a, .int .i64 m, .int .i64 b, .func (.func 117) #[] #[]] w (RetRow w B 45 11 (RKE Z) g n cap F) := by
  have hbn : b ≤ n := by rw [← hn, hq]; simp; omega
  have t1 : (((m : Int) - a) == 1) = false := by simp; omega
  have t2 : (((b : Int) - m) == 1) = false := by simp; omega
  have HO := Lib.hid ho
  have HQ := Lib.hid hq
  have HN := Lib.hid hn
  have HA := Lib.hid ha
  have HM := Lib.hid hm
  have HBR := Lib.hid hb
  have HLL := Lib.hid hL
  have HRR := Lib.hid hR
  have HF := Lib.hid hF
  have ham : a + 1 < m := by omega
  have hmb : m + 1 < b := by omega
  have h0 : 0 < L.length := by omega
  have h1 : 0 < R.length := by omega
  obtain ⟨M, hM⟩ : ∃ M : Nat, M = (a + b) / 2 := ⟨_, rfl⟩
  have hM0 : ((a : Int) + b) / 2 = (M : Int) := by omega
  have hM1 : 2 * M ≤ a + b := by omega
  have hM2 : a + b ≤ 2 * M + 1 := by omega
  obtain ⟨P, hP⟩ : ∃ P : Nat, P + 1 = M + m := ⟨M + m - 1, by omega⟩
  clear hF ho hq hn ha hm hL hb hR hM g0 g1
  by_cases hA : M < m
  · obtain ⟨lo, hlo1⟩ : ∃ lo : Nat, lo + b = M + m := ⟨M + m - b, by omega⟩
    obtain ⟨hi, hhi⟩ : ∃ hi : Nat, hi = M := ⟨_, rfl⟩
    have hlo : m > M ∧ lo + b = M + m ∧ hi = M ∨ m ≤ M ∧ lo = a ∧ hi = m := .inl ⟨hA, hlo1, hhi⟩
    have hw2 : IntKind.i64.wrap ((M : Int) + m - b) = (lo : Int) := by rw [IntKind.wrap_i64]; omega
    go_enter Tryz.func186, Tryz.ntmps186
    go_wp2
    go_loopw [20, 21] (fun vi vj wr => ∃ i j : Nat, vi = .int .i64 i ∧ vj = .int .i64 j ∧ Bd (bdQ (fun x y => decide (c x y < 0)) L R a m P) lo hi i j ∧ Own wr B 45 11 (RKE Z) (.slice (some ⟨g, 0, none⟩) n cap) (q) ∧ w.grownBy wr (some g)) (fun vi vj _ => (intOf vj).toNat - (intOf vi).toNat)
    case atStart => exact ⟨lo, hi, by first | rfl | (congr 1; omega), by first | rfl | (congr 1; omega), Bd.start (by omega), HO.out, grown_refl _ _⟩
    case round =>
      clear HO
      obtain ⟨i, j, rfl, rfl, hB, ho, hg⟩ := hrel
      obtain ⟨wo, rfl⟩ : ∃ wo : World, wo = wr := ⟨_, rfl⟩
      have hbd := hB
      obtain ⟨k1, k2, k3, _, _⟩ := hbd
      have HB := Lib.hid hB
      have HG := Lib.hid hg
      have HO := Lib.hid ho
      clear hB hg
      by_cases hlt : i < j
      · obtain ⟨h, hh⟩ : ∃ h : Nat, h = (i + j) / 2 := ⟨_, rfl⟩
        have hh0 : ((i : Int) + j) / 2 = (h : Int) := by omega
        have k4 : i ≤ h := by omega
        have k5 : h < j := by omega
        obtain ⟨u, hu⟩ : ∃ u : Nat, u = P - h := ⟨_, rfl⟩
        have hu1 : u + h = P := by omega
        have ha1 : a ≤ h := by omega
        have ha2 : h < m := by omega
        have ha3 : m ≤ u := by omega
        have ha4 : u < b := by omega
        have hw3 : IntKind.i64.wrap ((M : Int) + m - 1 - h) = (u : Int) := by rw [IntKind.wrap_i64]; omega
        have HU := Lib.hid hu
        clear hh hu hu1
        obtain ⟨x, s, hx, hz, f0, f1, f2, f3, f4, f5, f6, f7, f8, f9, f10⟩ := ho.atKE (i := h) (by rw [HN.out]; omega) (by rw [HN.out]; omega)
        obtain ⟨y, r, hy, hr, e0, e1, e2, e3, e4, e5, e6, e7, e8, e9, e10⟩ := ho.atKE (i := u) (by rw [HN.out]; omega) (by rw [HN.out]; omega)
        have hy' := hy
        rw [HQ.out, look_R (a := a) (m := m) HA.out HM.out ha3 (by rw [HBR.out]; exact ha4)] at hy'
        have hx' := hx
        rw [HQ.out, look_L (a := a) (m := m) HA.out HM.out ha1 ha2] at hx'
        have HX := Lib.hid hx'
        have HY := Lib.hid hy'
        have HR := Lib.hid hr
        have HZ := Lib.hid hz
        clear hx hy hx' hy' hr hz ho
        (have t0 := fun p : Be wo => Be.cell f0 p); (have t1 := fun p : Be wo => Be.cell f1 p); (have t2 := fun p : Be wo => Be.cell f2 p); (have t3 := fun p : Be wo => Be.cell f3 p); (have t4 := fun p : Be wo => Be.cell f4 p); (have t5 := fun p : Be wo => Be.cell f5 p); (have t6 := fun p : Be wo => Be.cell f6 p); (have t7 := fun p : Be wo => Be.cell f7 p); (have t8 := fun p : Be wo => Be.cell f8 p); (have t9 := fun p : Be wo => Be.cell f9 p); (have t10 := fun p : Be wo => Be.cell f10 p)
        (have s0 := fun p : Be wo => Be.cell e0 p); (have s1 := fun p : Be wo => Be.cell e1 p); (have s2 := fun p : Be wo => Be.cell e2 p); (have s3 := fun p : Be wo => Be.cell e3 p); (have s4 := fun p : Be wo => Be.cell e4 p); (have s5 := fun p : Be wo => Be.cell e5 p); (have s6 := fun p : Be wo => Be.cell e6 p); (have s7 := fun p : Be wo => Be.cell e7 p); (have s8 := fun p : Be wo => Be.cell e8 p); (have s9 := fun p : Be wo => Be.cell e9 p); (have s10 := fun p : Be wo => Be.cell e10 p)
        clear e0 e1 e2 e3 e4 e5 e6 e7 e8 e9 e10 f0 f1 f2 f3 f4 f5 f6 f7 f8 f9 f10
        have hj1 : (h : Int) < (n : Int) := by omega
        have hj2 : (u : Int) < (n : Int) := by omega
        have hj3 : (0 : Int) ≤ (h : Int) := by omega
        have hj4 : (0 : Int) ≤ (u : Int) := by omega
        generalize hcv : c y x = v
        have HCV := Lib.hid hcv
        clear hcv
        go_wp2_with fail
        refine region_be (by kernel_rfl) (by kernel_rfl) ?_
        repeat (quiet_step (first | (go_at_call 117; with_reducible exact Calls.be_of ((hc.call y x r s _ HR.out HZ.out).mono fun _ _ h => ⟨h.1.trans (congrArg (fun b => Ending.returned (Value.int .i64 b)) HCV.out), h.2⟩))))
        refine wpQuiet_nil ?_
        intro _ hw'
        obtain ⟨pb, hw''⟩ := hw'
        subst hw''
        obtain ⟨W2, hbw⟩ := pb
        dsimp only
        clear s0 s1 s2 s3 s4 s5 s6 s7 s8 s9 s10 t0 t1 t2 t3 t4 t5 t6 t7 t8 t9 t10 hw3
        have HO2 := Lib.hid (HO.out.next hbw)
        have HG2 := Lib.hid (only_next HG.out hbw)
        clear hbw
        by_cases hv : v < 0
        · have hvd : decide (v < 0) = true := decide_eq_true hv
          have hvd2 : (!decide (v < 0)) = false := by rw [hvd]; rfl
          have HL := Lib.hid (show bdQ (fun x y => decide (c x y < 0)) L R a m P h = false by
            rw [bdQ_of HX.out (by rw [← HU.out]; exact HY.out), HCV.out, hvd]; rfl)
          rw [hvd2]
          go_wp2
          go_roundw
          case rel => exact ⟨i, h, rfl, rfl, HB.out.down k4 k5 HL.out, HO2.out, HG2.out⟩
          case measure => (try simp only [intOf]); omega
        · have hvd : decide (v < 0) = false := decide_eq_false hv
          have hvd2 : (!decide (v < 0)) = true := by rw [hvd]; rfl
          have HL := Lib.hid (show bdQ (fun x y => decide (c x y < 0)) L R a m P h = true by
            rw [bdQ_of HX.out (by rw [← HU.out]; exact HY.out), HCV.out, hvd]; rfl)
          rw [hvd2]
          go_wp2
          go_roundw
          case rel => exact ⟨h + 1, j, by simp, rfl, HB.out.up k4 k5 HL.out, HO2.out, HG2.out⟩
          case measure => (try simp only [intOf]); omega
      · obtain rfl : i = j := by omega
        clear ho hlt hw2
        obtain ⟨e, he⟩ : ∃ e : Nat, e = M + m - i := ⟨_, rfl⟩
        have he1 : e + i = M + m := by omega
        have hwe : IntKind.i64.wrap ((M : Int) + m - i) = (e : Int) := by rw [IntKind.wrap_i64]; omega
        obtain ⟨q1, q2, q3, q4, L1, L2, R1, R2, hL12, hR12, hl1, hr1, rl1, rl2, rr1, rr2, hmm⟩ := sym_split hsw HM.out HBR.out HLL.out HRR.out h0 h1 hM1 hM2 hP he1 hlo HB.out
        have hl2 : i + L2.length = m := by have := HM.out; rw [hL12, List.length_append] at this; omega
        have hr2 : e + R2.length = b := by have := HBR.out; rw [hR12, List.length_append] at this; omega
        have HE := Lib.hid he1
        have HL12 := Lib.hid hL12
        have HR12 := Lib.hid hR12
        have HL1 := Lib.hid hl1
        have HR1 := Lib.hid hr1
        have HL2 := Lib.hid hl2
        have HR2 := Lib.hid hr2
        have HMM := Lib.hid hmm
        have RL1 := Lib.hid rl1
        have RL2 := Lib.hid rl2
        have RR1 := Lib.hid rr1
        have RR2 := Lib.hid rr2
        have hei : e + i ≤ M + m := by omega
        have hei2 : M + m ≤ e + i := by omega
        clear he he1 hL12 hR12 hl1 hr1 hl2 hr2 hmm rl1 rl2 rr1 rr2 hlo hP
        by_cases c1 : i < m
        · by_cases c2 : m < e
          · have i1 : (i : Int) < (m : Int) := by omega
            have i2 : (m : Int) < (e : Int) := by omega
            go_wp2_with fail
            rw [← HN.out]
            refine (rotateE_any B Z _ g cap q i m e wo (by rw [HN.out]; exact HO.out) c1 c2 (by rw [HN.out]; omega) (by rw [HN.out]; omega)).mono ?_
            rintro e' w1 ⟨rfl, ho1, hg1⟩
            have hrot : rotF q m (e + 1) (m - i) (e - m) = X ++ L1 ++ R1 ++ L2 ++ (R2 ++ Y) := by
              have := rotF_eq (m := m) (e + 1) (m - i) (e - m) (by omega) (by omega) (by omega) (X ++ L1) L2 R1 (R2 ++ Y) (by have := HA.out; have := HL1.out; simp; omega) (by have := HL2.out; omega) (by have := HR1.out; omega)
              rw [← this, HQ.out, HL12.out, HR12.out]
              simp only [List.append_assoc]
            rw [hrot, HN.out] at ho1
            rw [HN.out]
            have HO1 := Lib.hid ho1
            have HG1 := Lib.hid (grown_trans HG.out hg1)
            have HN1 := Lib.hid (show (X ++ L1 ++ R1 ++ L2 ++ (R2 ++ Y)).length = n by rw [← HN.out, HQ.out, HL12.out, HR12.out]; simp; omega)
            clear ho1 hg1 hrot
            by_cases c3 : a < i
            · have i3 : (a : Int) < (i : Int) := by omega
              have i4 : (i : Int) < (M : Int) := by omega
              go_wp2_with fail
              refine (hI.call a i M X L1 R1 (L2 ++ (R2 ++ Y)) _ _ (X ++ mrg (fun x y => decide (c x y < 0)) L1 R1 ++ (L2 ++ (R2 ++ Y))) (by omega) (by simp only [List.append_assoc]) HO1.out HN1.out HA.out HL1.out (by have := HR1.out; omega) RL1.out RR1.out (by have := HL1.out; omega) (by have := HR1.out; omega) rfl).mono ?_
              rintro e' w2 ⟨rfl, ho2, hg2⟩
              have HO2 := Lib.hid ho2
              have HG2 := Lib.hid (grown_trans HG1.out hg2)
              clear ho2 hg2
              by_cases c4 : e < b
              · have i5 : (M : Int) < (e : Int) := by omega
                have i6 : (e : Int) < (b : Int) := by omega
                go_wp2_with fail
                refine (hI.call M e b (X ++ mrg (fun x y => decide (c x y < 0)) L1 R1) L2 R2 Y _ _ F (by omega) (by simp only [List.append_assoc]) HO2.out (by have := HN1.out; simp [mrg_len] at this ⊢; omega) (by have := HA.out; have := HL1.out; have := HR1.out; simp [mrg_len]; omega) (by have := HL2.out; omega) HR2.out RL2.out RR2.out (by have := HL2.out; omega) (by have := HR2.out; omega) (by rw [← HF.out, HMM.out]; simp only [List.append_assoc])).mono ?_
                rintro e' w3 ⟨rfl, ho3, hg3⟩
                go_wp2
                go_end0
                exact ⟨rfl, ho3, grown_trans HG2.out hg3⟩
              · have i5 : (M : Int) < (e : Int) := by omega
                have i6 : decide ((e : Int) < (b : Int)) = false := decide_eq_false (by omega)
                go_wp2
                go_end0
                have hz : R2 = [] := List.eq_nil_of_length_eq_zero (by have := HR2.out; omega)
                refine ⟨rfl, ?_, HG2.out⟩
                rw [← HF.out, HMM.out, hz, mrg_nil, show X ++ (mrg (fun x y => decide (c x y < 0)) L1 R1 ++ L2) ++ Y = X ++ mrg (fun x y => decide (c x y < 0)) L1 R1 ++ (L2 ++ (R2 ++ Y)) by rw [hz]; simp only [List.append_assoc, List.nil_append]]
                exact HO2.out
            · have i3 : decide ((a : Int) < (i : Int)) = false := decide_eq_false (by omega)
              have hz : L1 = [] := List.eq_nil_of_length_eq_zero (by have := HL1.out; omega)
              have HZ1 := Lib.hid hz
              clear hz
              by_cases c4 : e < b
              · have i5 : (M : Int) < (e : Int) := by omega
                have i6 : (e : Int) < (b : Int) := by omega
                go_wp2_with fail
                refine (hI.call M e b (X ++ R1) L2 R2 Y _ _ F (by omega) (by rw [HZ1.out]; simp only [List.append_assoc, List.append_nil]) HO1.out HN1.out (by have := HA.out; have := HL1.out; have := HR1.out; simp; omega) (by have := HL2.out; omega) HR2.out RL2.out RR2.out (by have := HL2.out; omega) (by have := HR2.out; omega) (by rw [← HF.out, HMM.out, HZ1.out, mrg_nil_left hsw RR1.out]; simp only [List.append_assoc])).mono ?_
                rintro e' w3 ⟨rfl, ho3, hg3⟩
                go_wp2
                go_end0
                exact ⟨rfl, ho3, grown_trans HG1.out hg3⟩
              · have i5 : (M : Int) < (e : Int) := by omega
                have i6 : decide ((e : Int) < (b : Int)) = false := decide_eq_false (by omega)
                go_wp2
                go_end0
                have hz : R2 = [] := List.eq_nil_of_length_eq_zero (by have := HR2.out; omega)
                refine ⟨rfl, ?_, HG1.out⟩
                rw [← HF.out, HMM.out, hz, mrg_nil, HZ1.out, mrg_nil_left hsw RR1.out, show X ++ (R1 ++ L2) ++ Y = X ++ L1 ++ R1 ++ L2 ++ (R2 ++ Y) by rw [hz, HZ1.out]; simp only [List.append_assoc, List.nil_append, List.append_nil]]
                exact HO1.out
          · have i1 : (i : Int) < (m : Int) := by omega
            have i2 : decide ((m : Int) < (e : Int)) = false := decide_eq_false (by omega)
            have hz : R1 = [] := List.eq_nil_of_length_eq_zero (by have := HR1.out; omega)
            have HZ1 := Lib.hid hz
            have i4 : decide ((i : Int) < (M : Int)) = false := decide_eq_false (by omega)
            have i5 : (M : Int) < (e : Int) := by omega
            have i6 : (e : Int) < (b : Int) := by have := HR12.out; have := HBR.out; omega
            clear hz
            by_cases c3 : a < i
            · have i3 : (a : Int) < (i : Int) := by omega
              go_wp2_with fail
              refine (hI.call M e b (X ++ L1) L2 R2 Y q _ F (by omega) (by rw [HQ.out, HL12.out, HR12.out, HZ1.out]; simp only [List.append_assoc, List.nil_append]) HO.out HN.out (by have := HA.out; have := HL1.out; simp; omega) (by have := HL2.out; omega) HR2.out RL2.out RR2.out (by have := HL2.out; omega) (by have := HR2.out; omega) (by rw [← HF.out, HMM.out, HZ1.out, mrg_nil]; simp only [List.append_assoc])).mono ?_
              rintro e' w3 ⟨rfl, ho3, hg3⟩
              go_wp2
              go_end0
              exact ⟨rfl, ho3, grown_trans HG.out hg3⟩
            · exfalso
              have := HL1.out
              omega
        · exfalso
          omega
  · obtain ⟨lo, hlo1⟩ : ∃ lo : Nat, lo = a := ⟨_, rfl⟩
    obtain ⟨hi, hhi⟩ : ∃ hi : Nat, hi = m := ⟨_, rfl⟩
    have hlo : m > M ∧ lo + b = M + m ∧ hi = M ∨ m ≤ M ∧ lo = a ∧ hi = m := .inr ⟨by omega, hlo1, hhi⟩
    have hw2 : True := trivial
    go_enter Tryz.func186, Tryz.ntmps186
    go_wp2
    go_loopw [20, 21] (fun vi vj wr => ∃ i j : Nat, vi = .int .i64 i ∧ vj = .int .i64 j ∧ Bd (bdQ (fun x y => decide (c x y < 0)) L R a m P) lo hi i j ∧ Own wr B 45 11 (RKE Z) (.slice (some ⟨g, 0, none⟩) n cap) (q) ∧ w.grownBy wr (some g)) (fun vi vj _ => (intOf vj).toNat - (intOf vi).toNat)
    case atStart => exact ⟨lo, hi, by first | rfl | (congr 1; omega), by first | rfl | (congr 1; omega), Bd.start (by omega), HO.out, grown_refl _ _⟩
    case round =>
      clear HO
      obtain ⟨i, j, rfl, rfl, hB, ho, hg⟩ := hrel
      obtain ⟨wo, rfl⟩ : ∃ wo : World, wo = wr := ⟨_, rfl⟩
      have hbd := hB
      obtain ⟨k1, k2, k3, _, _⟩ := hbd
      have HB := Lib.hid hB
      have HG := Lib.hid hg
      have HO := Lib.hid ho
      clear hB hg
      by_cases hlt : i < j
      · obtain ⟨h, hh⟩ : ∃ h : Nat, h = (i + j) / 2 := ⟨_, rfl⟩
        have hh0 : ((i : Int) + j) / 2 = (h : Int) := by omega
        have k4 : i ≤ h := by omega
        have k5 : h < j := by omega
        obtain ⟨u, hu⟩ : ∃ u : Nat, u = P - h := ⟨_, rfl⟩
        have hu1 : u + h = P := by omega
        have ha1 : a ≤ h := by omega
        have ha2 : h < m := by omega
        have ha3 : m ≤ u := by omega
        have ha4 : u < b := by omega
        have hw3 : IntKind.i64.wrap ((M : Int) + m - 1 - h) = (u : Int) := by rw [IntKind.wrap_i64]; omega
        have HU := Lib.hid hu
        clear hh hu hu1
        obtain ⟨x, s, hx, hz, f0, f1, f2, f3, f4, f5, f6, f7, f8, f9, f10⟩ := ho.atKE (i := h) (by rw [HN.out]; omega) (by rw [HN.out]; omega)
        obtain ⟨y, r, hy, hr, e0, e1, e2, e3, e4, e5, e6, e7, e8, e9, e10⟩ := ho.atKE (i := u) (by rw [HN.out]; omega) (by rw [HN.out]; omega)
        have hy' := hy
        rw [HQ.out, look_R (a := a) (m := m) HA.out HM.out ha3 (by rw [HBR.out]; exact ha4)] at hy'
        have hx' := hx
        rw [HQ.out, look_L (a := a) (m := m) HA.out HM.out ha1 ha2] at hx'
        have HX := Lib.hid hx'
        have HY := Lib.hid hy'
        have HR := Lib.hid hr
        have HZ := Lib.hid hz
        clear hx hy hx' hy' hr hz ho
        (have t0 := fun p : Be wo => Be.cell f0 p); (have t1 := fun p : Be wo => Be.cell f1 p); (have t2 := fun p : Be wo => Be.cell f2 p); (have t3 := fun p : Be wo => Be.cell f3 p); (have t4 := fun p : Be wo => Be.cell f4 p); (have t5 := fun p : Be wo => Be.cell f5 p); (have t6 := fun p : Be wo => Be.cell f6 p); (have t7 := fun p : Be wo => Be.cell f7 p); (have t8 := fun p : Be wo => Be.cell f8 p); (have t9 := fun p : Be wo => Be.cell f9 p); (have t10 := fun p : Be wo => Be.cell f10 p)
        (have s0 := fun p : Be wo => Be.cell e0 p); (have s1 := fun p : Be wo => Be.cell e1 p); (have s2 := fun p : Be wo => Be.cell e2 p); (have s3 := fun p : Be wo => Be.cell e3 p); (have s4 := fun p : Be wo => Be.cell e4 p); (have s5 := fun p : Be wo => Be.cell e5 p); (have s6 := fun p : Be wo => Be.cell e6 p); (have s7 := fun p : Be wo => Be.cell e7 p); (have s8 := fun p : Be wo => Be.cell e8 p); (have s9 := fun p : Be wo => Be.cell e9 p); (have s10 := fun p : Be wo => Be.cell e10 p)
        clear e0 e1 e2 e3 e4 e5 e6 e7 e8 e9 e10 f0 f1 f2 f3 f4 f5 f6 f7 f8 f9 f10
        have hj1 : (h : Int) < (n : Int) := by omega
        have hj2 : (u : Int) < (n : Int) := by omega
        have hj3 : (0 : Int) ≤ (h : Int) := by omega
        have hj4 : (0 : Int) ≤ (u : Int) := by omega
        generalize hcv : c y x = v
        have HCV := Lib.hid hcv
        clear hcv
        go_wp2_with fail
        refine region_be (by kernel_rfl) (by kernel_rfl) ?_
        repeat (quiet_step (first | (go_at_call 117; with_reducible exact Calls.be_of ((hc.call y x r s _ HR.out HZ.out).mono fun _ _ h => ⟨h.1.trans (congrArg (fun b => Ending.returned (Value.int .i64 b)) HCV.out), h.2⟩))))
        refine wpQuiet_nil ?_
        intro _ hw'
        obtain ⟨pb, hw''⟩ := hw'
        subst hw''
        obtain ⟨W2, hbw⟩ := pb
        dsimp only
        clear s0 s1 s2 s3 s4 s5 s6 s7 s8 s9 s10 t0 t1 t2 t3 t4 t5 t6 t7 t8 t9 t10 hw3
        have HO2 := Lib.hid (HO.out.next hbw)
        have HG2 := Lib.hid (only_next HG.out hbw)
        clear hbw
        by_cases hv : v < 0
        · have hvd : decide (v < 0) = true := decide_eq_true hv
          have hvd2 : (!decide (v < 0)) = false := by rw [hvd]; rfl
          have HL := Lib.hid (show bdQ (fun x y => decide (c x y < 0)) L R a m P h = false by
            rw [bdQ_of HX.out (by rw [← HU.out]; exact HY.out), HCV.out, hvd]; rfl)
          rw [hvd2]
          go_wp2
          go_roundw
          case rel => exact ⟨i, h, rfl, rfl, HB.out.down k4 k5 HL.out, HO2.out, HG2.out⟩
          case measure => (try simp only [intOf]); omega
        · have hvd : decide (v < 0) = false := decide_eq_false hv
          have hvd2 : (!decide (v < 0)) = true := by rw [hvd]; rfl
          have HL := Lib.hid (show bdQ (fun x y => decide (c x y < 0)) L R a m P h = true by
            rw [bdQ_of HX.out (by rw [← HU.out]; exact HY.out), HCV.out, hvd]; rfl)
          rw [hvd2]
          go_wp2
          go_roundw
          case rel => exact ⟨h + 1, j, by simp, rfl, HB.out.up k4 k5 HL.out, HO2.out, HG2.out⟩
          case measure => (try simp only [intOf]); omega
      · obtain rfl : i = j := by omega
        clear ho hlt hw2
        obtain ⟨e, he⟩ : ∃ e : Nat, e = M + m - i := ⟨_, rfl⟩
        have he1 : e + i = M + m := by omega
        have hwe : IntKind.i64.wrap ((M : Int) + m - i) = (e : Int) := by rw [IntKind.wrap_i64]; omega
        obtain ⟨q1, q2, q3, q4, L1, L2, R1, R2, hL12, hR12, hl1, hr1, rl1, rl2, rr1, rr2, hmm⟩ := sym_split hsw HM.out HBR.out HLL.out HRR.out h0 h1 hM1 hM2 hP he1 hlo HB.out
        have hl2 : i + L2.length = m := by have := HM.out; rw [hL12, List.length_append] at this; omega
        have hr2 : e + R2.length = b := by have := HBR.out; rw [hR12, List.length_append] at this; omega
        have HE := Lib.hid he1
        have HL12 := Lib.hid hL12
        have HR12 := Lib.hid hR12
        have HL1 := Lib.hid hl1
        have HR1 := Lib.hid hr1
        have HL2 := Lib.hid hl2
        have HR2 := Lib.hid hr2
        have HMM := Lib.hid hmm
        have RL1 := Lib.hid rl1
        have RL2 := Lib.hid rl2
        have RR1 := Lib.hid rr1
        have RR2 := Lib.hid rr2
        have hei : e + i ≤ M + m := by omega
        have hei2 : M + m ≤ e + i := by omega
        clear he he1 hL12 hR12 hl1 hr1 hl2 hr2 hmm rl1 rl2 rr1 rr2 hlo hP
        by_cases c1 : i < m
        · by_cases c2 : m < e
          · have i1 : (i : Int) < (m : Int) := by omega
            have i2 : (m : Int) < (e : Int) := by omega
            go_wp2_with fail
            rw [← HN.out]
            refine (rotateE_any B Z _ g cap q i m e wo (by rw [HN.out]; exact HO.out) c1 c2 (by rw [HN.out]; omega) (by rw [HN.out]; omega)).mono ?_
            rintro e' w1 ⟨rfl, ho1, hg1⟩
            have hrot : rotF q m (e + 1) (m - i) (e - m) = X ++ L1 ++ R1 ++ L2 ++ (R2 ++ Y) := by
              have := rotF_eq (m := m) (e + 1) (m - i) (e - m) (by omega) (by omega) (by omega) (X ++ L1) L2 R1 (R2 ++ Y) (by have := HA.out; have := HL1.out; simp; omega) (by have := HL2.out; omega) (by have := HR1.out; omega)
              rw [← this, HQ.out, HL12.out, HR12.out]
              simp only [List.append_assoc]
            rw [hrot, HN.out] at ho1
            rw [HN.out]
            have HO1 := Lib.hid ho1
            have HG1 := Lib.hid (grown_trans HG.out hg1)
            have HN1 := Lib.hid (show (X ++ L1 ++ R1 ++ L2 ++ (R2 ++ Y)).length = n by rw [← HN.out, HQ.out, HL12.out, HR12.out]; simp; omega)
            clear ho1 hg1 hrot
            by_cases c3 : a < i
            · have i3 : (a : Int) < (i : Int) := by omega
              have i4 : (i : Int) < (M : Int) := by omega
              go_wp2_with fail
              refine (hI.call a i M X L1 R1 (L2 ++ (R2 ++ Y)) _ _ (X ++ mrg (fun x y => decide (c x y < 0)) L1 R1 ++ (L2 ++ (R2 ++ Y))) (by omega) (by simp only [List.append_assoc]) HO1.out HN1.out HA.out HL1.out (by have := HR1.out; omega) RL1.out RR1.out (by have := HL1.out; omega) (by have := HR1.out; omega) rfl).mono ?_
              rintro e' w2 ⟨rfl, ho2, hg2⟩
              have HO2 := Lib.hid ho2
              have HG2 := Lib.hid (grown_trans HG1.out hg2)
              clear ho2 hg2
              by_cases c4 : e < b
              · have i5 : (M : Int) < (e : Int) := by omega
                have i6 : (e : Int) < (b : Int) := by omega
                go_wp2_with fail
                refine (hI.call M e b (X ++ mrg (fun x y => decide (c x y < 0)) L1 R1) L2 R2 Y _ _ F (by omega) (by simp only [List.append_assoc]) HO2.out (by have := HN1.out; simp [mrg_len] at this ⊢; omega) (by have := HA.out; have := HL1.out; have := HR1.out; simp [mrg_len]; omega) (by have := HL2.out; omega) HR2.out RL2.out RR2.out (by have := HL2.out; omega) (by have := HR2.out; omega) (by rw [← HF.out, HMM.out]; simp only [List.append_assoc])).mono ?_
                rintro e' w3 ⟨rfl, ho3, hg3⟩
                go_wp2
                go_end0
                exact ⟨rfl, ho3, grown_trans HG2.out hg3⟩
              · have i5 : (M : Int) < (e : Int) := by omega
                have i6 : decide ((e : Int) < (b : Int)) = false := decide_eq_false (by omega)
                go_wp2
                go_end0
                have hz : R2 = [] := List.eq_nil_of_length_eq_zero (by have := HR2.out; omega)
                refine ⟨rfl, ?_, HG2.out⟩
                rw [← HF.out, HMM.out, hz, mrg_nil, show X ++ (mrg (fun x y => decide (c x y < 0)) L1 R1 ++ L2) ++ Y = X ++ mrg (fun x y => decide (c x y < 0)) L1 R1 ++ (L2 ++ (R2 ++ Y)) by rw [hz]; simp only [List.append_assoc, List.nil_append]]
                exact HO2.out
            · have i3 : decide ((a : Int) < (i : Int)) = false := decide_eq_false (by omega)
              have hz : L1 = [] := List.eq_nil_of_length_eq_zero (by have := HL1.out; omega)
              have HZ1 := Lib.hid hz
              clear hz
              by_cases c4 : e < b
              · have i5 : (M : Int) < (e : Int) := by omega
                have i6 : (e : Int) < (b : Int) := by omega
                go_wp2_with fail
                refine (hI.call M e b (X ++ R1) L2 R2 Y _ _ F (by omega) (by rw [HZ1.out]; simp only [List.append_assoc, List.append_nil]) HO1.out HN1.out (by have := HA.out; have := HL1.out; have := HR1.out; simp; omega) (by have := HL2.out; omega) HR2.out RL2.out RR2.out (by have := HL2.out; omega) (by have := HR2.out; omega) (by rw [← HF.out, HMM.out, HZ1.out, mrg_nil_left hsw RR1.out]; simp only [List.append_assoc])).mono ?_
                rintro e' w3 ⟨rfl, ho3, hg3⟩
                go_wp2
                go_end0
                exact ⟨rfl, ho3, grown_trans HG1.out hg3⟩
              · have i5 : (M : Int) < (e : Int) := by omega
                have i6 : decide ((e : Int) < (b : Int)) = false := decide_eq_false (by omega)
                go_wp2
                go_end0
                have hz : R2 = [] := List.eq_nil_of_length_eq_zero (by have := HR2.out; omega)
                refine ⟨rfl, ?_, HG1.out⟩
                rw [← HF.out, HMM.out, hz, mrg_nil, HZ1.out, mrg_nil_left hsw RR1.out, show X ++ (R1 ++ L2) ++ Y = X ++ L1 ++ R1 ++ L2 ++ (R2 ++ Y) by rw [hz, HZ1.out]; simp only [List.append_assoc, List.nil_append, List.append_nil]]
                exact HO1.out
          · exfalso
            omega
        · have i1 : decide ((i : Int) < (m : Int)) = false := decide_eq_false (by omega)
          have hz : L2 = [] := List.eq_nil_of_length_eq_zero (by have := HL2.out; omega)
          have HZ1 := Lib.hid hz
          have i3 : (a : Int) < (i : Int) := by have := HM.out; omega
          have i5 : decide ((M : Int) < (e : Int)) = false := decide_eq_false (by omega)
          clear hz
          by_cases c4 : i < M
          · have i4 : (i : Int) < (M : Int) := by omega
            go_wp2_with fail
            refine (hI.call a i M X L1 R1 (R2 ++ Y) q _ F (by omega) (by rw [HQ.out, HL12.out, HR12.out, HZ1.out]; simp only [List.append_assoc, List.append_nil]) HO.out HN.out HA.out HL1.out (by have := HR1.out; omega) RL1.out RR1.out (by have := HL1.out; omega) (by have := HR1.out; omega) (by rw [← HF.out, HMM.out, HZ1.out, mrg_nil_left hsw RR2.out]; simp only [List.append_assoc])).mono ?_
            rintro e' w3 ⟨rfl, ho3, hg3⟩
            go_wp2
            go_end0
            exact ⟨rfl, ho3, grown_trans HG.out hg3⟩
          · have i4 : decide ((i : Int) < (M : Int)) = false := decide_eq_false (by omega)
            have hz2 : R1 = [] := List.eq_nil_of_length_eq_zero (by have := HR1.out; omega)
            go_wp2
            go_end0
            refine ⟨rfl, ?_, HG.out⟩
            rw [← HF.out, HMM.out, HZ1.out, hz2, mrg_nil, mrg_nil_left hsw RR2.out, show X ++ (L1 ++ R2) ++ Y = q by rw [HQ.out, HL12.out, HR12.out, HZ1.out, hz2]; simp only [List.append_assoc, List.nil_append, List.append_nil]]
            exact HO.out
end Go.Proofs.YtaicidbopgnmfaaGreatDoor
namespace Go.Proofs.YtaicidbopgnmfaaGreatDoor
set_option linter.unusedSimpArgs false
set_option linter.unusedVariables false
open Go.RowKit
theorem insE_seg (B : Nat) (Z : Raw → Ent → Prop) (c : Ent → Ent → Int) (hc : CmpOkE 117 Z c) (hsw : SW (fun x y => decide (c x y < 0))) (g cap n a b : Nat) (X M Y q : List Ent) (w : World) (F : List Ent) (hq : q = X ++ M ++ Y) (ho : Own w B 45 11 (RKE Z) (.slice (some ⟨g, 0, none⟩) n cap) (q)) (hn : q.length = n) (ha : X.length = a) (hb : a + M.length = b) (hs : n ≤ 1000) (hF : X ++ srt (fun x y => decide (c x y < 0)) M ++ Y = F) :
    Calls Tryz.prog 185 #[(.slice (some ⟨g, 0, none⟩) n cap), .int .i64 a, .int .i64 b, .func (.func 117) #[] #[]] w (RetRow w B 45 11 (RKE Z) g n cap F) := by
  subst hn
  have := insE_any B Z c hc g cap q a b w ho (by omega) (by rw [hq]; simp; omega) hs
  have e := insO_srt hsw X M Y ha hb
  rw [← hq, hF] at e
  rw [e] at this
  exact this
theorem symE_all (B : Nat) (Z : Raw → Ent → Prop) (c : Ent → Ent → Int) (hc : CmpOkE 117 Z c) (hsw : SW (fun x y => decide (c x y < 0))) (g cap n : Nat) (hs : n ≤ 1000) : ∀ N, SymCE B Z c g cap n N
  | 0 => fun a m b X L R Y q w F h1 h2 h3 h4 h5 h6 h7 h8 h9 h10 h11 h12 => by omega
  | N + 1 => fun a m b X L R Y q w F h1 h2 h3 h4 h5 h6 h7 h8 h9 h10 h11 h12 => by
    by_cases hL : L.length = 1
    · obtain ⟨x, rfl⟩ : ∃ x, L = [x] := by
        match L, hL with
        | [x], _ => exact ⟨x, rfl⟩
      exact symE_one_any B Z c hc hsw g cap n a m b X R Y q x h2 w h3 h4 h5 (by simpa using h6) h7 h9 h11 hs F h12
    · by_cases hR : R.length = 1
      · obtain ⟨y, rfl⟩ : ∃ y, R = [y] := by
          match R, hR with
          | [y], _ => exact ⟨y, rfl⟩
        exact symE_last_any B Z c hc hsw g cap n a m b X L Y q y h2 w h3 h4 h5 h6 (by simpa using h7) h8 (by omega) hs F h12
      · exact symE_gen B Z c hc hsw g cap n N (symE_all B Z c hc hsw g cap n hs N) a m b X L R Y q h2 w h3 h1 h4 h5 h6 h7 h8 h9 (by omega) (by omega) hs F h12
set_option maxRecDepth 100000 in
set_option maxHeartbeats 1000000 in
theorem stableE_any (B : Nat) (Z : Raw → Ent → Prop) (c : Ent → Ent → Int) (hc : CmpOkE 117 Z c) (hsw : SW (fun x y => decide (c x y < 0))) (g cap n : Nat) (l : List Ent) (w : World) (ho : Own w B 45 11 (RKE Z) (.slice (some ⟨g, 0, none⟩) n cap) (l)) (hn : l.length = n) (hs : n ≤ 1000) (F : List Ent) (hF : srt (fun x y => decide (c x y < 0)) l = F) :
    Calls Tryz.prog 156 #[(.slice (some ⟨g, 0, none⟩) n cap), .int .i64 n, .func (.func 117) #[] #[]] w (RetRow w B 45 11 (RKE Z) g n cap F) := by
  have HO := Lib.hid ho
  have HN := Lib.hid hn
  have HF := Lib.hid hF
  have HS := Lib.hid (symE_all B Z c hc hsw g cap n hs)
  clear ho hn hF
  go_enter Tryz.func156, Tryz.ntmps156
  go_wp2
  go_loopw [7, 8] (fun va vb wr => ∃ (a : Nat) (A0 A D : List Ent), va = .int .i64 a ∧ vb = .int .i64 (a + 20 : Nat) ∧ l = A0 ++ D ∧ A0.length = a ∧ PreP (fun x y => decide (c x y < 0)) 20 A0 A ∧ Own wr B 45 11 (RKE Z) (.slice (some ⟨g, 0, none⟩) n cap) (A ++ D) ∧ w.grownBy wr (some g)) (fun va _ _ => n + 20 - (intOf va).toNat)
  case atStart => exact ⟨0, [], [], l, rfl, rfl, rfl, rfl, .nil, HO.out, grown_refl _ _⟩
  case round =>
    clear HO
    obtain ⟨a, A0, A, D, rfl, rfl, hl, ha, hp, ho, hg⟩ := hrel
    obtain ⟨wo, rfl⟩ : ∃ wo : World, wo = wr := ⟨_, rfl⟩
    have HL := Lib.hid hl
    have HA := Lib.hid ha
    have HP := Lib.hid hp
    have HO := Lib.hid ho
    have HG := Lib.hid hg
    have hD : a + D.length = n := by rw [← HN.out, hl, List.length_append, ha]
    have HAL := Lib.hid (show A.length = a by rw [hp.len, ha])
    clear hl ha hp ho hg
    by_cases hlt : a + 20 ≤ n
    · have hd : ((a : Int) + 20 ≤ (n : Int)) := by omega
      go_wp2_with fail
      rw [show ((a : Int) + 20) = ((a + 20 : Nat) : Int) by simp]
      refine (insE_seg B Z c hc hsw g cap n a (a + 20) A (D.take 20) (D.drop 20) (A ++ D) _ (A ++ srt (fun x y => decide (c x y < 0)) (D.take 20) ++ D.drop 20) (by rw [List.append_assoc, List.take_append_drop]) HO.out (by rw [List.length_append, HAL.out]; exact hD) HAL.out (by simp; omega) hs rfl).mono ?_
      rintro e w1 ⟨rfl, ho1, hg1⟩
      have HO1 := Lib.hid ho1
      have HG1 := Lib.hid (grown_trans HG.out hg1)
      clear ho1 hg1
      go_wp2
      go_roundw
      case rel => exact ⟨a + 20, A0 ++ D.take 20, A ++ srt (fun x y => decide (c x y < 0)) (D.take 20), D.drop 20, by simp, by simp, by rw [HL.out, List.append_assoc, List.take_append_drop], by simp [HA.out]; omega, .snoc _ _ _ HP.out (by simp; omega), HO1.out, HG1.out⟩
      case measure => (try simp only [intOf]); omega
    · have hd : ¬ ((a : Int) + 20 ≤ (n : Int)) := by omega
      go_wp2_with fail
      refine (insE_seg B Z c hc hsw g cap n a n A D [] (A ++ D) _ (A ++ srt (fun x y => decide (c x y < 0)) D) (by simp) HO.out (by rw [List.length_append, HAL.out]; exact hD) HAL.out hD hs (by simp)).mono ?_
      rintro e w1 ⟨rfl, ho1, hg1⟩
      have HO1 := Lib.hid ho1
      have HG1 := Lib.hid (grown_trans HG.out hg1)
      have HBk := Lib.hid (show BlkP (fun x y => decide (c x y < 0)) 20 l (A ++ srt (fun x y => decide (c x y < 0)) D) by rw [HL.out]; exact HP.out.app (.last D (by omega)))
      generalize A ++ srt (fun x y => decide (c x y < 0)) D = q at HBk HO1
      clear ho1 hg1 HO HG HL HP HA HAL hD hd hlt
      go_wp2
      go_loopw [6, 7, 8, 9] (fun vs va vb vm wr => ∃ (s : Nat) (q : List Ent), vs = .int .i64 s ∧ 20 ≤ s ∧ s ≤ 4000 ∧ BlkP (fun x y => decide (c x y < 0)) s l q ∧ Own wr B 45 11 (RKE Z) (.slice (some ⟨g, 0, none⟩) n cap) (q) ∧ w.grownBy wr (some g)) (fun vs _ _ _ _ => 5000 - (intOf vs).toNat)
      case atStart => exact ⟨20, q, rfl, by omega, by omega, HBk.out, HO1.out, HG1.out⟩
      case round =>
        clear HO1 HBk HG1
        obtain ⟨s, q, rfl, hs20, hs4, hbk, ho, hg⟩ := hrel
        obtain ⟨wo, rfl⟩ : ∃ wo : World, wo = wr := ⟨_, rfl⟩
        have HBk := Lib.hid hbk
        have HO := Lib.hid ho
        have HG := Lib.hid hg
        clear hbk ho hg
        by_cases hsn : s < n
        · go_wp2
          go_loopw [7, 8] (fun va vb wr => ∃ (a : Nat) (A0 A D E : List Ent), va = .int .i64 a ∧ vb = .int .i64 (a + 2 * s : Nat) ∧ l = A0 ++ D ∧ A0.length = a ∧ PreP (fun x y => decide (c x y < 0)) (2 * s) A0 A ∧ BlkP (fun x y => decide (c x y < 0)) s D E ∧ Own wr B 45 11 (RKE Z) (.slice (some ⟨g, 0, none⟩) n cap) (A ++ E) ∧ w.grownBy wr (some g)) (fun va _ _ => n + 5000 - (intOf va).toNat)
          case atStart => exact ⟨0, [], [], l, q, rfl, by congr 1; omega, rfl, rfl, .nil, HBk.out, HO.out, HG.out⟩
          case round =>
            clear HO HBk HG
            obtain ⟨a, A0, A, D, E, rfl, rfl, hl, ha, hp, hbk, ho, hg⟩ := hrel
            obtain ⟨wo, rfl⟩ : ∃ wo : World, wo = wr := ⟨_, rfl⟩
            have HL := Lib.hid hl
            have HA := Lib.hid ha
            have HP := Lib.hid hp
            have HBk := Lib.hid hbk
            have HO := Lib.hid ho
            have HG := Lib.hid hg
            have hD : a + D.length = n := by rw [← HN.out, hl, List.length_append, ha]
            have HAL := Lib.hid (show A.length = a by rw [hp.len, ha])
            have HEL := Lib.hid hbk.len
            clear hl ha hp hbk ho hg
            obtain ⟨t, ht⟩ : ∃ t : Nat, t = a + 2 * s := ⟨_, rfl⟩
            obtain ⟨m, hm⟩ : ∃ m : Nat, m = a + s := ⟨_, rfl⟩
            have ht1 : t ≤ a + 2 * s := by omega
            have ht2 : a + 2 * s ≤ t := by omega
            have hm1 : m ≤ a + s := by omega
            have hm2 : a + s ≤ m := by omega
            rw [← ht]
            have HT := Lib.hid ht
            have HM := Lib.hid hm
            have hwm : IntKind.i64.wrap ((a : Int) + s) = (m : Int) := by rw [IntKind.wrap_i64]; omega
            have hwm2 : ((a : Int) + s) = (m : Int) := by omega
            clear ht hm
            by_cases hlt : t ≤ n
            · obtain ⟨u, hu⟩ : ∃ u : Nat, u = t + 2 * s := ⟨_, rfl⟩
              have hwu : ((t : Int) + 2 * s) = (u : Int) := by omega
              have HU := Lib.hid hu
              clear hu
              obtain ⟨l1, l2, D', E', hD', hE', e1, e2, hb'⟩ := HBk.out.two (by omega) (by omega)
              have HD' := Lib.hid hD'
              have HE' := Lib.hid hE'
              have HE1 := Lib.hid e1
              have HE2 := Lib.hid e2
              have HB' := Lib.hid hb'
              clear hD' hE' e1 e2 hb'
              go_wp2_with fail
              refine ((HS.out (2 * s)).call a m t A (srt (fun x y => decide (c x y < 0)) l1) (srt (fun x y => decide (c x y < 0)) l2) E' (A ++ E) _ (A ++ srt (fun x y => decide (c x y < 0)) (l1 ++ l2) ++ E') (by omega) (by rw [HE'.out]; simp only [List.append_assoc]) HO.out (by rw [List.length_append, HAL.out, HEL.out]; exact hD) HAL.out (by rw [srt_len, HE1.out]; omega) (by rw [srt_len, HE2.out]; omega) (srt_ris hsw _) (srt_ris hsw _) (by rw [srt_len, HE1.out]; omega) (by rw [srt_len, HE2.out]; omega) (by rw [srt_app hsw])).mono ?_
              rintro e w2 ⟨rfl, ho2, hg2⟩
              have HO2 := Lib.hid ho2
              have HG2 := Lib.hid (grown_trans HG.out hg2)
              clear ho2 hg2 hwm hwm2
              go_wp2
              go_roundw
              case rel => exact ⟨t, A0 ++ (l1 ++ l2), A ++ srt (fun x y => decide (c x y < 0)) (l1 ++ l2), D', E', rfl, by rw [← HU.out], by rw [HL.out, HD'.out]; simp only [List.append_assoc], by rw [List.length_append, List.length_append, HA.out, HE1.out, HE2.out]; omega, .snoc _ _ _ HP.out (by rw [List.length_append, HE1.out, HE2.out]; omega), HB'.out, HO2.out, HG2.out⟩
              case measure => (try simp only [intOf]); omega
            · have hws : IntKind.i64.wrap ((s : Int) * 2) = (s : Int) * 2 := by rw [IntKind.wrap_i64]; omega
              by_cases hmn : m < n
              · obtain ⟨l1, l2, hD', hE', e1, e2, e3⟩ := HBk.out.rest (by omega) (by omega) (by omega)
                have HD' := Lib.hid hD'
                have HE' := Lib.hid hE'
                have HE1 := Lib.hid e1
                have hl2 : m + l2.length = n := by rw [hD', List.length_append, e1] at hD; omega
                have HL2 := Lib.hid hl2
                clear hD' hE' e1 hl2
                go_wp2_with fail
                refine ((HS.out (2 * s)).call a m n A (srt (fun x y => decide (c x y < 0)) l1) (srt (fun x y => decide (c x y < 0)) l2) [] (A ++ E) _ (A ++ srt (fun x y => decide (c x y < 0)) D) (by omega) (by rw [HE'.out]; simp only [List.append_assoc, List.append_nil]) HO.out (by rw [List.length_append, HAL.out, HEL.out]; exact hD) HAL.out (by rw [srt_len, HE1.out]; omega) (by rw [srt_len]; exact HL2.out) (srt_ris hsw _) (srt_ris hsw _) (by rw [srt_len, HE1.out]; omega) (by rw [srt_len]; exact e2) (by rw [srt_app hsw, HD'.out, List.append_nil])).mono ?_
                rintro e w2 ⟨rfl, ho2, hg2⟩
                have HO2 := Lib.hid ho2
                have HG2 := Lib.hid (grown_trans HG.out hg2)
                clear ho2 hg2 hwm hwm2
                go_wp2
                go_roundw
                case rel => exact ⟨s * 2, A ++ srt (fun x y => decide (c x y < 0)) D, by simp, by omega, by omega, by rw [HL.out, Nat.mul_comm]; exact HP.out.app (.last D (by omega)), HO2.out, HG2.out⟩
                case measure => (try simp only [intOf]); omega
              · have hE := HBk.out.short (by omega) (by omega)
                have HE := Lib.hid hE
                clear hE
                go_wp2
                go_roundw
                case rel => exact ⟨s * 2, A ++ srt (fun x y => decide (c x y < 0)) D, by simp, by omega, by omega, by rw [HL.out, Nat.mul_comm]; exact HP.out.app (.last D (by omega)), by rw [← HE.out]; exact HO.out, HG.out⟩
                case measure => (try simp only [intOf]); omega
        · have hE := HBk.out.short (by rw [HN.out]; omega) (by omega)
          have HE := Lib.hid hE
          clear hE
          go_wp2
          go_end0
          exact ⟨rfl, by rw [← HF.out, ← HE.out]; exact HO.out, HG.out⟩
end Go.Proofs.YtaicidbopgnmfaaGreatDoor
namespace Go.Proofs.YtaicidbopgnmfaaGreatDoor
set_option linter.unusedSimpArgs false
set_option linter.unusedVariables false
open Go.RowKit
set_option maxRecDepth 100000 in
theorem sortE_any (B : Nat) (Z : Raw → Ent → Prop) (c : Ent → Ent → Int) (hc : CmpOkE 117 Z c) (hsw : SW (fun x y => decide (c x y < 0))) (g cap n : Nat) (l : List Ent) (w : World) (ho : Own w B 45 11 (RKE Z) (.slice (some ⟨g, 0, none⟩) n cap) l) (hn : l.length = n) (hs : n ≤ 1000) (F : List Ent) (hF : srt (fun x y => decide (c x y < 0)) l = F) :
    Calls Tryz.prog 116 #[.slice (some ⟨g, 0, none⟩) n cap, .func (.func 117) #[] #[]] w (RetRow w B 45 11 (RKE Z) g n cap F) := by
  have hst := Lib.hid (stableE_any B Z c hc hsw g cap n l w ho hn hs F hF)
  clear ho hn hF
  go_enter Tryz.func116, Tryz.ntmps116
  go_wp2_with fail
  refine hst.out.mono ?_
  rintro e w1 ⟨rfl, ho1, hg1⟩
  go_wp2
  go_end0
  exact ⟨rfl, ho1, hg1⟩
theorem insE_nil (fv : Value) (w : World) : Calls Tryz.prog 185 #[.slice none 0 0, .int .i64 0, .int .i64 0, fv] w fun e w' => e = .returned (.tuple #[]) ∧ w = w' := by
  go_enter Tryz.func185, Tryz.ntmps185
  go_wp2
  refine wp_loop_rounds 1 ?_
  rw [rounds_succ]
  go_wp2
  go_end0
  exact ⟨rfl, rfl⟩
theorem stableE_nil (fv : Value) (w : World) : Calls Tryz.prog 156 #[.slice none 0 0, .int .i64 0, fv] w fun e w' => e = .returned (.tuple #[]) ∧ w = w' := by
  go_enter Tryz.func156, Tryz.ntmps156
  go_wp2
  refine wp_loop_rounds 1 ?_
  rw [rounds_succ]
  go_wp2_with fail
  refine (insE_nil _ _).mono ?_
  rintro e w1 ⟨rfl, rfl⟩
  go_wp2
  refine wp_loop_rounds 1 ?_
  rw [rounds_succ]
  go_wp2
  go_end0
  exact ⟨rfl, rfl⟩
theorem sortE_nil (fv : Value) (w : World) : Calls Tryz.prog 116 #[.slice none 0 0, fv] w fun e w' => e = .returned (.tuple #[]) ∧ w = w' := by
  go_enter Tryz.func116, Tryz.ntmps116
  go_wp2_with fail
  refine (stableE_nil _ _).mono ?_
  rintro e w1 ⟨rfl, rfl⟩
  go_wp2
  go_end0
  exact ⟨rfl, rfl⟩
end Go.Proofs.YtaicidbopgnmfaaGreatDoor
