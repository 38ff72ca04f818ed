/- The stable sort of slices: the merge in place of any two rows, at steps. -/
import Derived.Test.YtaicidbopgnmfaaGreatDoorZoU
import Derived.Test.YtaicidbopgnmfaaGreatDoorSp
namespace Go.Proofs.YtaicidbopgnmfaaGreatDoor
set_option linter.unusedSimpArgs false
set_option linter.unusedVariables false
open Go.RowKit
/-- the merge's contract, of stretches of N places -/
def SymCS (B : Nat) (Z : Raw → Stp → Prop) (c : Stp → Stp → Int) (g cap n N : Nat) : Prop :=
  ∀ (a m b : Nat) (X L R Y q : List Stp) (w : World) (F : List Stp), b ≤ a + N → q = X ++ L ++ R ++ Y → Own w B 24 3 (RKS Z) (.slice (some ⟨g, 0, none⟩) n cap) (q) → q.length = n → X.length = a → a + L.length = m → m + R.length = b → Ris (fun x y => decide (c x y < 0)) L → Ris (fun x y => decide (c x y < 0)) R → 0 < L.length → 0 < R.length → X ++ mrg (fun x y => decide (c x y < 0)) L R ++ Y = F →
    Calls Tryz.prog 158 #[(.slice (some ⟨g, 0, none⟩) n cap), .int .i64 a, .int .i64 m, .int .i64 b, .func (.func 65) #[] #[]] w (RetRow w B 24 3 (RKS Z) g n cap F)
theorem SymCS.call {B : Nat} {Z : Raw → Stp → Prop} {c : Stp → Stp → Int} {g cap n N : Nat} (h : SymCS B Z c g cap n N) (a m b : Nat) (X L R Y q : List Stp) (w : World) (F : List Stp) (h1 : b ≤ a + N) (h2 : q = X ++ L ++ R ++ Y) (h3 : Own w B 24 3 (RKS Z) (.slice (some ⟨g, 0, none⟩) n cap) (q)) (h4 : q.length = n) (h5 : X.length = a) (h6 : a + L.length = m) (h7 : m + R.length = b) (h8 : Ris (fun x y => decide (c x y < 0)) L) (h9 : Ris (fun x y => decide (c x y < 0)) R) (h10 : 0 < L.length) (h11 : 0 < R.length) (h12 : X ++ mrg (fun x y => decide (c x y < 0)) L R ++ Y = F) :
    Calls Tryz.prog 158 #[(.slice (some ⟨g, 0, none⟩) n cap), .int .i64 a, .int .i64 m, .int .i64 b, .func (.func 65) #[] #[]] w (RetRow w B 24 3 (RKS Z) g n cap F) := h a m b X L R Y q w F h1 h2 h3 h4 h5 h6 h7 h8 h9 h10 h11 h12
set_option maxRecDepth 100000 in
set_option maxHeartbeats 4000000 in
theorem symS_gen (B : Nat) (Z : Raw → Stp → Prop) (c : Stp → Stp → Int) (hc : CmpOkS 65 Z c) (hsw : SW (fun x y => decide (c x y < 0))) (g cap n N : Nat) (hI : SymCS B Z c g cap n N) (a m b : Nat) (X L R Y q : List Stp) (hq : q = X ++ L ++ R ++ Y) (w : World) (ho : Own w B 24 3 (RKS Z) (.slice (some ⟨g, 0, none⟩) n cap) (q))
    (hN : b ≤ a + N + 1) (hn : q.length = n) (ha : X.length = a) (hm : a + L.length = m) (hb : m + R.length = b) (hL : Ris (fun x y => decide (c x y < 0)) L) (hR : Ris (fun x y => decide (c x y < 0)) R) (g0 : 1 < L.length) (g1 : 1 < R.length) (hs : n ≤ 1000) (F : List Stp) (hF : X ++ mrg (fun x y => decide (c x y < 0)) L R ++ Y = F) :
    Calls Tryz.prog 158 #[(.slice (some ⟨g, 0, none⟩) n cap), .int .i64 a, .int .i64 m, .int .i64 b, .func (.func 65) #[] #[]] w (RetRow w B 24 3 (RKS Z) g n cap F) := by
  have hbn : b ≤ n := by rw [← hn, hq]; simp; omega
  have t1 : (((m : Int) - a) == 1) = false := by simp; omega
  have t2 : (((b : Int) - m) == 1) = false := by simp; omega
  have HO := Lib.hid ho
  have HQ := Lib.hid hq
  have HN := Lib.hid hn
  have HA := Lib.hid ha
  have HM := Lib.hid hm
  have HBR := Lib.hid hb
  have HLL := Lib.hid hL
  have HRR := Lib.hid hR
  have HF := Lib.hid hF
  have ham : a + 1 < m := by omega
  have hmb : m + 1 < b := by omega
  have h0 : 0 < L.length := by omega
  have h1 : 0 < R.length := by omega
  obtain ⟨M, hM⟩ : ∃ M : Nat, M = (a + b) / 2 := ⟨_, rfl⟩
  have hM0 : ((a : Int) + b) / 2 = (M : Int) := by omega
  have hM1 : 2 * M ≤ a + b := by omega
  have hM2 : a + b ≤ 2 * M + 1 := by omega
  obtain ⟨P, hP⟩ : ∃ P : Nat, P + 1 = M + m := ⟨M + m - 1, by omega⟩
  clear hF ho hq hn ha hm hL hb hR hM g0 g1
  by_cases hA : M < m
  · obtain ⟨lo, hlo1⟩ : ∃ lo : Nat, lo + b = M + m := ⟨M + m - b, by omega⟩
    obtain ⟨hi, hhi⟩ : ∃ hi : Nat, hi = M := ⟨_, rfl⟩
    have hlo : m > M ∧ lo + b = M + m ∧ hi = M ∨ m ≤ M ∧ lo = a ∧ hi = m := .inl ⟨hA, hlo1, hhi⟩
    have hw2 : IntKind.i64.wrap ((M : Int) + m - b) = (lo : Int) := by rw [IntKind.wrap_i64]; omega
    go_enter Tryz.func158, Tryz.ntmps158
    go_wp2
    go_loopw [20, 21] (fun vi vj wr => ∃ i j : Nat, vi = .int .i64 i ∧ vj = .int .i64 j ∧ Bd (bdQ (fun x y => decide (c x y < 0)) L R a m P) lo hi i j ∧ Own wr B 24 3 (RKS Z) (.slice (some ⟨g, 0, none⟩) n cap) (q) ∧ w.grownBy wr (some g)) (fun vi vj _ => (intOf vj).toNat - (intOf vi).toNat)
    case atStart => exact ⟨lo, hi, by first | rfl | (congr 1; omega), by first | rfl | (congr 1; omega), Bd.start (by omega), HO.out, grown_refl _ _⟩
    case round =>
      clear HO
      obtain ⟨i, j, rfl, rfl, hB, ho, hg⟩ := hrel
      obtain ⟨wo, rfl⟩ : ∃ wo : World, wo = wr := ⟨_, rfl⟩
      have hbd := hB
      obtain ⟨k1, k2, k3, _, _⟩ := hbd
      have HB := Lib.hid hB
      have HG := Lib.hid hg
      have HO := Lib.hid ho
      clear hB hg
      by_cases hlt : i < j
      · obtain ⟨h, hh⟩ : ∃ h : Nat, h = (i + j) / 2 := ⟨_, rfl⟩
        have hh0 : ((i : Int) + j) / 2 = (h : Int) := by omega
        have k4 : i ≤ h := by omega
        have k5 : h < j := by omega
        obtain ⟨u, hu⟩ : ∃ u : Nat, u = P - h := ⟨_, rfl⟩
        have hu1 : u + h = P := by omega
        have ha1 : a ≤ h := by omega
        have ha2 : h < m := by omega
        have ha3 : m ≤ u := by omega
        have ha4 : u < b := by omega
        have hw3 : IntKind.i64.wrap ((M : Int) + m - 1 - h) = (u : Int) := by rw [IntKind.wrap_i64]; omega
        have HU := Lib.hid hu
        clear hh hu hu1
        obtain ⟨x, s, hx, hz, f0, f1, f2⟩ := ho.atKS (i := h) (by rw [HN.out]; omega) (by rw [HN.out]; omega)
        obtain ⟨y, r, hy, hr, e0, e1, e2⟩ := ho.atKS (i := u) (by rw [HN.out]; omega) (by rw [HN.out]; omega)
        have hy' := hy
        rw [HQ.out, look_R (a := a) (m := m) HA.out HM.out ha3 (by rw [HBR.out]; exact ha4)] at hy'
        have hx' := hx
        rw [HQ.out, look_L (a := a) (m := m) HA.out HM.out ha1 ha2] at hx'
        have HX := Lib.hid hx'
        have HY := Lib.hid hy'
        have HR := Lib.hid hr
        have HZ := Lib.hid hz
        clear hx hy hx' hy' hr hz ho
        (have t0 := fun p : Be wo => Be.cell f0 p); (have t1 := fun p : Be wo => Be.cell f1 p); (have t2 := fun p : Be wo => Be.cell f2 p)
        (have s0 := fun p : Be wo => Be.cell e0 p); (have s1 := fun p : Be wo => Be.cell e1 p); (have s2 := fun p : Be wo => Be.cell e2 p)
        clear e0 e1 e2 f0 f1 f2
        have hj1 : (h : Int) < (n : Int) := by omega
        have hj2 : (u : Int) < (n : Int) := by omega
        have hj3 : (0 : Int) ≤ (h : Int) := by omega
        have hj4 : (0 : Int) ≤ (u : Int) := by omega
        generalize hcv : c y x = v
        have HCV := Lib.hid hcv
        clear hcv
        go_wp2_with fail
        refine region_be (by kernel_rfl) (by kernel_rfl) ?_
        repeat (quiet_step (first | (go_at_call 65; with_reducible exact Calls.be_of ((hc.call y x r s _ HR.out HZ.out).mono fun _ _ h => ⟨h.1.trans (congrArg (fun b => Ending.returned (Value.int .i64 b)) HCV.out), h.2⟩))))
        refine wpQuiet_nil ?_
        intro _ hw'
        obtain ⟨pb, hw''⟩ := hw'
        subst hw''
        obtain ⟨W2, hbw⟩ := pb
        dsimp only
        clear s0 s1 s2 t0 t1 t2 hw3
        have HO2 := Lib.hid (HO.out.next hbw)
        have HG2 := Lib.hid (only_next HG.out hbw)
        clear hbw
        by_cases hv : v < 0
        · have hvd : decide (v < 0) = true := decide_eq_true hv
          have hvd2 : (!decide (v < 0)) = false := by rw [hvd]; rfl
          have HL := Lib.hid (show bdQ (fun x y => decide (c x y < 0)) L R a m P h = false by
            rw [bdQ_of HX.out (by rw [← HU.out]; exact HY.out), HCV.out, hvd]; rfl)
          rw [hvd2]
          go_wp2
          go_roundw
          case rel => exact ⟨i, h, rfl, rfl, HB.out.down k4 k5 HL.out, HO2.out, HG2.out⟩
          case measure => (try simp only [intOf]); omega
        · have hvd : decide (v < 0) = false := decide_eq_false hv
          have hvd2 : (!decide (v < 0)) = true := by rw [hvd]; rfl
          have HL := Lib.hid (show bdQ (fun x y => decide (c x y < 0)) L R a m P h = true by
            rw [bdQ_of HX.out (by rw [← HU.out]; exact HY.out), HCV.out, hvd]; rfl)
          rw [hvd2]
          go_wp2
          go_roundw
          case rel => exact ⟨h + 1, j, by simp, rfl, HB.out.up k4 k5 HL.out, HO2.out, HG2.out⟩
          case measure => (try simp only [intOf]); omega
      · obtain rfl : i = j := by omega
        clear ho hlt hw2
        obtain ⟨e, he⟩ : ∃ e : Nat, e = M + m - i := ⟨_, rfl⟩
        have he1 : e + i = M + m := by omega
        have hwe : IntKind.i64.wrap ((M : Int) + m - i) = (e : Int) := by rw [IntKind.wrap_i64]; omega
        obtain ⟨q1, q2, q3, q4, L1, L2, R1, R2, hL12, hR12, hl1, hr1, rl1, rl2, rr1, rr2, hmm⟩ := sym_split hsw HM.out HBR.out HLL.out HRR.out h0 h1 hM1 hM2 hP he1 hlo HB.out
        have hl2 : i + L2.length = m := by have := HM.out; rw [hL12, List.length_append] at this; omega
        have hr2 : e + R2.length = b := by have := HBR.out; rw [hR12, List.length_append] at this; omega
        have HE := Lib.hid he1
        have HL12 := Lib.hid hL12
        have HR12 := Lib.hid hR12
        have HL1 := Lib.hid hl1
        have HR1 := Lib.hid hr1
        have HL2 := Lib.hid hl2
        have HR2 := Lib.hid hr2
        have HMM := Lib.hid hmm
        have RL1 := Lib.hid rl1
        have RL2 := Lib.hid rl2
        have RR1 := Lib.hid rr1
        have RR2 := Lib.hid rr2
        have hei : e + i ≤ M + m := by omega
        have hei2 : M + m ≤ e + i := by omega
        clear he he1 hL12 hR12 hl1 hr1 hl2 hr2 hmm rl1 rl2 rr1 rr2 hlo hP
        by_cases c1 : i < m
        · by_cases c2 : m < e
          · have i1 : (i : Int) < (m : Int) := by omega
            have i2 : (m : Int) < (e : Int) := by omega
            go_wp2_with fail
            rw [← HN.out]
            refine (rotateS_any B Z _ g cap q i m e wo (by rw [HN.out]; exact HO.out) c1 c2 (by rw [HN.out]; omega) (by rw [HN.out]; omega)).mono ?_
            rintro e' w1 ⟨rfl, ho1, hg1⟩
            have hrot : rotF q m (e + 1) (m - i) (e - m) = X ++ L1 ++ R1 ++ L2 ++ (R2 ++ Y) := by
              have := rotF_eq (m := m) (e + 1) (m - i) (e - m) (by omega) (by omega) (by omega) (X ++ L1) L2 R1 (R2 ++ Y) (by have := HA.out; have := HL1.out; simp; omega) (by have := HL2.out; omega) (by have := HR1.out; omega)
              rw [← this, HQ.out, HL12.out, HR12.out]
              simp only [List.append_assoc]
            rw [hrot, HN.out] at ho1
            rw [HN.out]
            have HO1 := Lib.hid ho1
            have HG1 := Lib.hid (grown_trans HG.out hg1)
            have HN1 := Lib.hid (show (X ++ L1 ++ R1 ++ L2 ++ (R2 ++ Y)).length = n by rw [← HN.out, HQ.out, HL12.out, HR12.out]; simp; omega)
            clear ho1 hg1 hrot
            by_cases c3 : a < i
            · have i3 : (a : Int) < (i : Int) := by omega
              have i4 : (i : Int) < (M : Int) := by omega
              go_wp2_with fail
              refine (hI.call a i M X L1 R1 (L2 ++ (R2 ++ Y)) _ _ (X ++ mrg (fun x y => decide (c x y < 0)) L1 R1 ++ (L2 ++ (R2 ++ Y))) (by omega) (by simp only [List.append_assoc]) HO1.out HN1.out HA.out HL1.out (by have := HR1.out; omega) RL1.out RR1.out (by have := HL1.out; omega) (by have := HR1.out; omega) rfl).mono ?_
              rintro e' w2 ⟨rfl, ho2, hg2⟩
              have HO2 := Lib.hid ho2
              have HG2 := Lib.hid (grown_trans HG1.out hg2)
              clear ho2 hg2
              by_cases c4 : e < b
              · have i5 : (M : Int) < (e : Int) := by omega
                have i6 : (e : Int) < (b : Int) := by omega
                go_wp2_with fail
                refine (hI.call M e b (X ++ mrg (fun x y => decide (c x y < 0)) L1 R1) L2 R2 Y _ _ F (by omega) (by simp only [List.append_assoc]) HO2.out (by have := HN1.out; simp [mrg_len] at this ⊢; omega) (by have := HA.out; have := HL1.out; have := HR1.out; simp [mrg_len]; omega) (by have := HL2.out; omega) HR2.out RL2.out RR2.out (by have := HL2.out; omega) (by have := HR2.out; omega) (by rw [← HF.out, HMM.out]; simp only [List.append_assoc])).mono ?_
                rintro e' w3 ⟨rfl, ho3, hg3⟩
                go_wp2
                go_end0
                exact ⟨rfl, ho3, grown_trans HG2.out hg3⟩
              · have i5 : (M : Int) < (e : Int) := by omega
                have i6 : decide ((e : Int) < (b : Int)) = false := decide_eq_false (by omega)
                go_wp2
                go_end0
                have hz : R2 = [] := List.eq_nil_of_length_eq_zero (by have := HR2.out; omega)
                refine ⟨rfl, ?_, HG2.out⟩
                rw [← HF.out, HMM.out, hz, mrg_nil, show X ++ (mrg (fun x y => decide (c x y < 0)) L1 R1 ++ L2) ++ Y = X ++ mrg (fun x y => decide (c x y < 0)) L1 R1 ++ (L2 ++ (R2 ++ Y)) by rw [hz]; simp only [List.append_assoc, List.nil_append]]
                exact HO2.out
            · have i3 : decide ((a : Int) < (i : Int)) = false := decide_eq_false (by omega)
              have hz : L1 = [] := List.eq_nil_of_length_eq_zero (by have := HL1.out; omega)
              have HZ1 := Lib.hid hz
              clear hz
              by_cases c4 : e < b
              · have i5 : (M : Int) < (e : Int) := by omega
                have i6 : (e : Int) < (b : Int) := by omega
                go_wp2_with fail
                refine (hI.call M e b (X ++ R1) L2 R2 Y _ _ F (by omega) (by rw [HZ1.out]; simp only [List.append_assoc, List.append_nil]) HO1.out HN1.out (by have := HA.out; have := HL1.out; have := HR1.out; simp; omega) (by have := HL2.out; omega) HR2.out RL2.out RR2.out (by have := HL2.out; omega) (by have := HR2.out; omega) (by rw [← HF.out, HMM.out, HZ1.out, mrg_nil_left hsw RR1.out]; simp only [List.append_assoc])).mono ?_
                rintro e' w3 ⟨rfl, ho3, hg3⟩
                go_wp2
                go_end0
                exact ⟨rfl, ho3, grown_trans HG1.out hg3⟩
              · have i5 : (M : Int) < (e : Int) := by omega
                have i6 : decide ((e : Int) < (b : Int)) = false := decide_eq_false (by omega)
                go_wp2
                go_end0
                have hz : R2 = [] := List.eq_nil_of_length_eq_zero (by have := HR2.out; omega)
                refine ⟨rfl, ?_, HG1.out⟩
                rw [← HF.out, HMM.out, hz, mrg_nil, HZ1.out, mrg_nil_left hsw RR1.out, show X ++ (R1 ++ L2) ++ Y = X ++ L1 ++ R1 ++ L2 ++ (R2 ++ Y) by rw [hz, HZ1.out]; simp only [List.append_assoc, List.nil_append, List.append_nil]]
                exact HO1.out
          · have i1 : (i : Int) < (m : Int) := by omega
            have i2 : decide ((m : Int) < (e : Int)) = false := decide_eq_false (by omega)
            have hz : R1 = [] := List.eq_nil_of_length_eq_zero (by have := HR1.out; omega)
            have HZ1 := Lib.hid hz
            have i4 : decide ((i : Int) < (M : Int)) = false := decide_eq_false (by omega)
            have i5 : (M : Int) < (e : Int) := by omega
            have i6 : (e : Int) < (b : Int) := by have := HR12.out; have := HBR.out; omega
            clear hz
            by_cases c3 : a < i
            · have i3 : (a : Int) < (i : Int) := by omega
              go_wp2_with fail
              refine (hI.call M e b (X ++ L1) L2 R2 Y q _ F (by omega) (by rw [HQ.out, HL12.out, HR12.out, HZ1.out]; simp only [List.append_assoc, List.nil_append]) HO.out HN.out (by have := HA.out; have := HL1.out; simp; omega) (by have := HL2.out; omega) HR2.out RL2.out RR2.out (by have := HL2.out; omega) (by have := HR2.out; omega) (by rw [← HF.out, HMM.out, HZ1.out, mrg_nil]; simp only [List.append_assoc])).mono ?_
              rintro e' w3 ⟨rfl, ho3, hg3⟩
              go_wp2
              go_end0
              exact ⟨rfl, ho3, grown_trans HG.out hg3⟩
            · exfalso
              have := HL1.out
              omega
        · exfalso
          omega
  · obtain ⟨lo, hlo1⟩ : ∃ lo : Nat, lo = a := ⟨_, rfl⟩
    obtain ⟨hi, hhi⟩ : ∃ hi : Nat, hi = m := ⟨_, rfl⟩
    have hlo : m > M ∧ lo + b = M + m ∧ hi = M ∨ m ≤ M ∧ lo = a ∧ hi = m := .inr ⟨by omega, hlo1, hhi⟩
    have hw2 : True := trivial
    go_enter Tryz.func158, Tryz.ntmps158
    go_wp2
    go_loopw [20, 21] (fun vi vj wr => ∃ i j : Nat, vi = .int .i64 i ∧ vj = .int .i64 j ∧ Bd (bdQ (fun x y => decide (c x y < 0)) L R a m P) lo hi i j ∧ Own wr B 24 3 (RKS Z) (.slice (some ⟨g, 0, none⟩) n cap) (q) ∧ w.grownBy wr (some g)) (fun vi vj _ => (intOf vj).toNat - (intOf vi).toNat)
    case atStart => exact ⟨lo, hi, by first | rfl | (congr 1; omega), by first | rfl | (congr 1; omega), Bd.start (by omega), HO.out, grown_refl _ _⟩
    case round =>
      clear HO
      obtain ⟨i, j, rfl, rfl, hB, ho, hg⟩ := hrel
      obtain ⟨wo, rfl⟩ : ∃ wo : World, wo = wr := ⟨_, rfl⟩
      have hbd := hB
      obtain ⟨k1, k2, k3, _, _⟩ := hbd
      have HB := Lib.hid hB
      have HG := Lib.hid hg
      have HO := Lib.hid ho
      clear hB hg
      by_cases hlt : i < j
      · obtain ⟨h, hh⟩ : ∃ h : Nat, h = (i + j) / 2 := ⟨_, rfl⟩
        have hh0 : ((i : Int) + j) / 2 = (h : Int) := by omega
        have k4 : i ≤ h := by omega
        have k5 : h < j := by omega
        obtain ⟨u, hu⟩ : ∃ u : Nat, u = P - h := ⟨_, rfl⟩
        have hu1 : u + h = P := by omega
        have ha1 : a ≤ h := by omega
        have ha2 : h < m := by omega
        have ha3 : m ≤ u := by omega
        have ha4 : u < b := by omega
        have hw3 : IntKind.i64.wrap ((M : Int) + m - 1 - h) = (u : Int) := by rw [IntKind.wrap_i64]; omega
        have HU := Lib.hid hu
        clear hh hu hu1
        obtain ⟨x, s, hx, hz, f0, f1, f2⟩ := ho.atKS (i := h) (by rw [HN.out]; omega) (by rw [HN.out]; omega)
        obtain ⟨y, r, hy, hr, e0, e1, e2⟩ := ho.atKS (i := u) (by rw [HN.out]; omega) (by rw [HN.out]; omega)
        have hy' := hy
        rw [HQ.out, look_R (a := a) (m := m) HA.out HM.out ha3 (by rw [HBR.out]; exact ha4)] at hy'
        have hx' := hx
        rw [HQ.out, look_L (a := a) (m := m) HA.out HM.out ha1 ha2] at hx'
        have HX := Lib.hid hx'
        have HY := Lib.hid hy'
        have HR := Lib.hid hr
        have HZ := Lib.hid hz
        clear hx hy hx' hy' hr hz ho
        (have t0 := fun p : Be wo => Be.cell f0 p); (have t1 := fun p : Be wo => Be.cell f1 p); (have t2 := fun p : Be wo => Be.cell f2 p)
        (have s0 := fun p : Be wo => Be.cell e0 p); (have s1 := fun p : Be wo => Be.cell e1 p); (have s2 := fun p : Be wo => Be.cell e2 p)
        clear e0 e1 e2 f0 f1 f2
        have hj1 : (h : Int) < (n : Int) := by omega
        have hj2 : (u : Int) < (n : Int) := by omega
        have hj3 : (0 : Int) ≤ (h : Int) := by omega
        have hj4 : (0 : Int) ≤ (u : Int) := by omega
        generalize hcv : c y x = v
        have HCV := Lib.hid hcv
        clear hcv
        go_wp2_with fail
        refine region_be (by kernel_rfl) (by kernel_rfl) ?_
        repeat (quiet_step (first | (go_at_call 65; with_reducible exact Calls.be_of ((hc.call y x r s _ HR.out HZ.out).mono fun _ _ h => ⟨h.1.trans (congrArg (fun b => Ending.returned (Value.int .i64 b)) HCV.out), h.2⟩))))
        refine wpQuiet_nil ?_
        intro _ hw'
        obtain ⟨pb, hw''⟩ := hw'
        subst hw''
        obtain ⟨W2, hbw⟩ := pb
        dsimp only
        clear s0 s1 s2 t0 t1 t2 hw3
        have HO2 := Lib.hid (HO.out.next hbw)
        have HG2 := Lib.hid (only_next HG.out hbw)
        clear hbw
        by_cases hv : v < 0
        · have hvd : decide (v < 0) = true := decide_eq_true hv
          have hvd2 : (!decide (v < 0)) = false := by rw [hvd]; rfl
          have HL := Lib.hid (show bdQ (fun x y => decide (c x y < 0)) L R a m P h = false by
            rw [bdQ_of HX.out (by rw [← HU.out]; exact HY.out), HCV.out, hvd]; rfl)
          rw [hvd2]
          go_wp2
          go_roundw
          case rel => exact ⟨i, h, rfl, rfl, HB.out.down k4 k5 HL.out, HO2.out, HG2.out⟩
          case measure => (try simp only [intOf]); omega
        · have hvd : decide (v < 0) = false := decide_eq_false hv
          have hvd2 : (!decide (v < 0)) = true := by rw [hvd]; rfl
          have HL := Lib.hid (show bdQ (fun x y => decide (c x y < 0)) L R a m P h = true by
            rw [bdQ_of HX.out (by rw [← HU.out]; exact HY.out), HCV.out, hvd]; rfl)
          rw [hvd2]
          go_wp2
          go_roundw
          case rel => exact ⟨h + 1, j, by simp, rfl, HB.out.up k4 k5 HL.out, HO2.out, HG2.out⟩
          case measure => (try simp only [intOf]); omega
      · obtain rfl : i = j := by omega
        clear ho hlt hw2
        obtain ⟨e, he⟩ : ∃ e : Nat, e = M + m - i := ⟨_, rfl⟩
        have he1 : e + i = M + m := by omega
        have hwe : IntKind.i64.wrap ((M : Int) + m - i) = (e : Int) := by rw [IntKind.wrap_i64]; omega
        obtain ⟨q1, q2, q3, q4, L1, L2, R1, R2, hL12, hR12, hl1, hr1, rl1, rl2, rr1, rr2, hmm⟩ := sym_split hsw HM.out HBR.out HLL.out HRR.out h0 h1 hM1 hM2 hP he1 hlo HB.out
        have hl2 : i + L2.length = m := by have := HM.out; rw [hL12, List.length_append] at this; omega
        have hr2 : e + R2.length = b := by have := HBR.out; rw [hR12, List.length_append] at this; omega
        have HE := Lib.hid he1
        have HL12 := Lib.hid hL12
        have HR12 := Lib.hid hR12
        have HL1 := Lib.hid hl1
        have HR1 := Lib.hid hr1
        have HL2 := Lib.hid hl2
        have HR2 := Lib.hid hr2
        have HMM := Lib.hid hmm
        have RL1 := Lib.hid rl1
        have RL2 := Lib.hid rl2
        have RR1 := Lib.hid rr1
        have RR2 := Lib.hid rr2
        have hei : e + i ≤ M + m := by omega
        have hei2 : M + m ≤ e + i := by omega
        clear he he1 hL12 hR12 hl1 hr1 hl2 hr2 hmm rl1 rl2 rr1 rr2 hlo hP
        by_cases c1 : i < m
        · by_cases c2 : m < e
          · have i1 : (i : Int) < (m : Int) := by omega
            have i2 : (m : Int) < (e : Int) := by omega
            go_wp2_with fail
            rw [← HN.out]
            refine (rotateS_any B Z _ g cap q i m e wo (by rw [HN.out]; exact HO.out) c1 c2 (by rw [HN.out]; omega) (by rw [HN.out]; omega)).mono ?_
            rintro e' w1 ⟨rfl, ho1, hg1⟩
            have hrot : rotF q m (e + 1) (m - i) (e - m) = X ++ L1 ++ R1 ++ L2 ++ (R2 ++ Y) := by
              have := rotF_eq (m := m) (e + 1) (m - i) (e - m) (by omega) (by omega) (by omega) (X ++ L1) L2 R1 (R2 ++ Y) (by have := HA.out; have := HL1.out; simp; omega) (by have := HL2.out; omega) (by have := HR1.out; omega)
              rw [← this, HQ.out, HL12.out, HR12.out]
              simp only [List.append_assoc]
            rw [hrot, HN.out] at ho1
            rw [HN.out]
            have HO1 := Lib.hid ho1
            have HG1 := Lib.hid (grown_trans HG.out hg1)
            have HN1 := Lib.hid (show (X ++ L1 ++ R1 ++ L2 ++ (R2 ++ Y)).length = n by rw [← HN.out, HQ.out, HL12.out, HR12.out]; simp; omega)
            clear ho1 hg1 hrot
            by_cases c3 : a < i
            · have i3 : (a : Int) < (i : Int) := by omega
              have i4 : (i : Int) < (M : Int) := by omega
              go_wp2_with fail
              refine (hI.call a i M X L1 R1 (L2 ++ (R2 ++ Y)) _ _ (X ++ mrg (fun x y => decide (c x y < 0)) L1 R1 ++ (L2 ++ (R2 ++ Y))) (by omega) (by simp only [List.append_assoc]) HO1.out HN1.out HA.out HL1.out (by have := HR1.out; omega) RL1.out RR1.out (by have := HL1.out; omega) (by have := HR1.out; omega) rfl).mono ?_
              rintro e' w2 ⟨rfl, ho2, hg2⟩
              have HO2 := Lib.hid ho2
              have HG2 := Lib.hid (grown_trans HG1.out hg2)
              clear ho2 hg2
              by_cases c4 : e < b
              · have i5 : (M : Int) < (e : Int) := by omega
                have i6 : (e : Int) < (b : Int) := by omega
                go_wp2_with fail
                refine (hI.call M e b (X ++ mrg (fun x y => decide (c x y < 0)) L1 R1) L2 R2 Y _ _ F (by omega) (by simp only [List.append_assoc]) HO2.out (by have := HN1.out; simp [mrg_len] at this ⊢; omega) (by have := HA.out; have := HL1.out; have := HR1.out; simp [mrg_len]; omega) (by have := HL2.out; omega) HR2.out RL2.out RR2.out (by have := HL2.out; omega) (by have := HR2.out; omega) (by rw [← HF.out, HMM.out]; simp only [List.append_assoc])).mono ?_
                rintro e' w3 ⟨rfl, ho3, hg3⟩
                go_wp2
                go_end0
                exact ⟨rfl, ho3, grown_trans HG2.out hg3⟩
              · have i5 : (M : Int) < (e : Int) := by omega
                have i6 : decide ((e : Int) < (b : Int)) = false := decide_eq_false (by omega)
                go_wp2
                go_end0
                have hz : R2 = [] := List.eq_nil_of_length_eq_zero (by have := HR2.out; omega)
                refine ⟨rfl, ?_, HG2.out⟩
                rw [← HF.out, HMM.out, hz, mrg_nil, show X ++ (mrg (fun x y => decide (c x y < 0)) L1 R1 ++ L2) ++ Y = X ++ mrg (fun x y => decide (c x y < 0)) L1 R1 ++ (L2 ++ (R2 ++ Y)) by rw [hz]; simp only [List.append_assoc, List.nil_append]]
                exact HO2.out
            · have i3 : decide ((a : Int) < (i : Int)) = false := decide_eq_false (by omega)
              have hz : L1 = [] := List.eq_nil_of_length_eq_zero (by have := HL1.out; omega)
              have HZ1 := Lib.hid hz
              clear hz
              by_cases c4 : e < b
              · have i5 : (M : Int) < (e : Int) := by omega
                have i6 : (e : Int) < (b : Int) := by omega
                go_wp2_with fail
                refine (hI.call M e b (X ++ R1) L2 R2 Y _ _ F (by omega) (by rw [HZ1.out]; simp only [List.append_assoc, List.append_nil]) HO1.out HN1.out (by have := HA.out; have := HL1.out; have := HR1.out; simp; omega) (by have := HL2.out; omega) HR2.out RL2.out RR2.out (by have := HL2.out; omega) (by have := HR2.out; omega) (by rw [← HF.out, HMM.out, HZ1.out, mrg_nil_left hsw RR1.out]; simp only [List.append_assoc])).mono ?_
                rintro e' w3 ⟨rfl, ho3, hg3⟩
                go_wp2
                go_end0
                exact ⟨rfl, ho3, grown_trans HG1.out hg3⟩
              · have i5 : (M : Int) < (e : Int) := by omega
                have i6 : decide ((e : Int) < (b : Int)) = false := decide_eq_false (by omega)
                go_wp2
                go_end0
                have hz : R2 = [] := List.eq_nil_of_length_eq_zero (by have := HR2.out; omega)
                refine ⟨rfl, ?_, HG1.out⟩
                rw [← HF.out, HMM.out, hz, mrg_nil, HZ1.out, mrg_nil_left hsw RR1.out, show X ++ (R1 ++ L2) ++ Y = X ++ L1 ++ R1 ++ L2 ++ (R2 ++ Y) by rw [hz, HZ1.out]; simp only [List.append_assoc, List.nil_append, List.append_nil]]
                exact HO1.out
          · exfalso
            omega
        · have i1 : decide ((i : Int) < (m : Int)) = false := decide_eq_false (by omega)
          have hz : L2 = [] := List.eq_nil_of_length_eq_zero (by have := HL2.out; omega)
          have HZ1 := Lib.hid hz
          have i3 : (a : Int) < (i : Int) := by have := HM.out; omega
          have i5 : decide ((M : Int) < (e : Int)) = false := decide_eq_false (by omega)
          clear hz
          by_cases c4 : i < M
          · have i4 : (i : Int) < (M : Int) := by omega
            go_wp2_with fail
            refine (hI.call a i M X L1 R1 (R2 ++ Y) q _ F (by omega) (by rw [HQ.out, HL12.out, HR12.out, HZ1.out]; simp only [List.append_assoc, List.append_nil]) HO.out HN.out HA.out HL1.out (by have := HR1.out; omega) RL1.out RR1.out (by have := HL1.out; omega) (by have := HR1.out; omega) (by rw [← HF.out, HMM.out, HZ1.out, mrg_nil_left hsw RR2.out]; simp only [List.append_assoc])).mono ?_
            rintro e' w3 ⟨rfl, ho3, hg3⟩
            go_wp2
            go_end0
            exact ⟨rfl, ho3, grown_trans HG.out hg3⟩
          · have i4 : decide ((i : Int) < (M : Int)) = false := decide_eq_false (by omega)
            have hz2 : R1 = [] := List.eq_nil_of_length_eq_zero (by have := HR1.out; omega)
            go_wp2
            go_end0
            refine ⟨rfl, ?_, HG.out⟩
            rw [← HF.out, HMM.out, HZ1.out, hz2, mrg_nil, mrg_nil_left hsw RR2.out, show X ++ (L1 ++ R2) ++ Y = q by rw [HQ.out, HL12.out, HR12.out, HZ1.out, hz2]; simp only [List.append_assoc, List.nil_append, List.append_nil]]
            exact HO.out
end Go.Proofs.YtaicidbopgnmfaaGreatDoor
