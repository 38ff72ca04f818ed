/- The contract of the reference's size. -/
import Derived.Test.YtcbomomlojhghaaDoorRgA
namespace Go.Proofs.YtcbomomlojhghaaDoor
set_option linter.unusedSimpArgs false
set_option linter.unusedVariables false
open Go.RowKit
theorem ix_str (l : List UInt8) (p : Nat) (hl : p < l.length) (W : World) : (Instr.index 9 (.string (bs l)) (.int .i64 p)).run Tryd.prog W = .ok (.int .u8 l[p].toNat) W := by
  have h9 := Tryd.underlying9
  have hsz : (bs l).size = l.length := rfl
  go_simp
  rfl
theorem ix_first (l : List UInt8) (hl : 0 < l.length) (W : World) : (Instr.index 9 (.string (bs l)) (.int .i64 0)).run Tryd.prog W = .ok (.int .u8 l[0].toNat) W := by
  have h9 := Tryd.underlying9
  have hsz : (bs l).size = l.length := rfl
  go_simp
  rfl
set_option maxRecDepth 100000 in
set_option maxHeartbeats 4000000 in
theorem rsize_at (l : List UInt8) (hl : 0 < l.length) (c0 : UInt8) (hc : l[0] = c0) (w : World) : Calls Tryd.prog 88 #[.string (bs l)] w fun e w' => e = .returned (.int .i64 (sizeS l)) ∧ w = w' := by
  have hsz : (bs l).size = l.length := rfl
  have hl0 : (0 : Int) < (l.length : Int) := by omega
  have ix : ∀ W : World, (Instr.index 9 (.string (bs l)) (.int .i64 0)).run Tryd.prog W = .ok (.int .u8 c0.toNat) W := fun W => by rw [ix_first l hl W, hc]
  have q0 : ∀ w : World, Calls Tryd.prog 102 #[.string (bs l), .int .i64 1, .int .u8 128, .int .u8 191] w fun e w' => e = .returned (.bool (atB l 1 128 191)) ∧ w = w' := fun w => rat_any l 1 128 191 w
  have q1 : ∀ w : World, Calls Tryd.prog 102 #[.string (bs l), .int .i64 1, .int .u8 160, .int .u8 191] w fun e w' => e = .returned (.bool (atB l 1 160 191)) ∧ w = w' := fun w => rat_any l 1 160 191 w
  have q2 : ∀ w : World, Calls Tryd.prog 102 #[.string (bs l), .int .i64 2, .int .u8 128, .int .u8 191] w fun e w' => e = .returned (.bool (atB l 2 128 191)) ∧ w = w' := fun w => rat_any l 2 128 191 w
  have q3 : ∀ w : World, Calls Tryd.prog 102 #[.string (bs l), .int .i64 1, .int .u8 128, .int .u8 159] w fun e w' => e = .returned (.bool (atB l 1 128 159)) ∧ w = w' := fun w => rat_any l 1 128 159 w
  have q4 : ∀ w : World, Calls Tryd.prog 102 #[.string (bs l), .int .i64 1, .int .u8 144, .int .u8 191] w fun e w' => e = .returned (.bool (atB l 1 144 191)) ∧ w = w' := fun w => rat_any l 1 144 191 w
  have q5 : ∀ w : World, Calls Tryd.prog 102 #[.string (bs l), .int .i64 3, .int .u8 128, .int .u8 191] w fun e w' => e = .returned (.bool (atB l 3 128 191)) ∧ w = w' := fun w => rat_any l 3 128 191 w
  have q6 : ∀ w : World, Calls Tryd.prog 102 #[.string (bs l), .int .i64 1, .int .u8 128, .int .u8 143] w fun e w' => e = .returned (.bool (atB l 1 128 143)) ∧ w = w' := fun w => rat_any l 1 128 143 w
  have HSZ : sizeS l = sizeF c0.toNat (atB l 1 128 191) (atB l 1 160 191) (atB l 2 128 191) (atB l 1 128 159) (atB l 1 144 191) (atB l 3 128 191) (atB l 1 128 143) := by unfold sizeS; rw [show l.getD 0 0 = c0 by rw [List.getD_eq_getElem?_getD, List.getElem?_eq_getElem hl, hc]; rfl]
  generalize atB l 1 128 191 = b0 at q0 HSZ
  generalize atB l 1 160 191 = b1 at q1 HSZ
  generalize atB l 2 128 191 = b2 at q2 HSZ
  generalize atB l 1 128 159 = b3 at q3 HSZ
  generalize atB l 1 144 191 = b4 at q4 HSZ
  generalize atB l 3 128 191 = b5 at q5 HSZ
  generalize atB l 1 128 143 = b6 at q6 HSZ
  obtain ⟨S, hS⟩ : ∃ S, S = sizeS l := ⟨_, rfl⟩
  rw [← hS] at HSZ ⊢
  have HS := Lib.hid HSZ
  have Q0 := Lib.hid q0
  have Q1 := Lib.hid q1
  have Q2 := Lib.hid q2
  have Q3 := Lib.hid q3
  have Q4 := Lib.hid q4
  have Q5 := Lib.hid q5
  have Q6 := Lib.hid q6
  clear HSZ hS q0 q1 q2 q3 q4 q5 q6
  have hlt := c0.toNat_lt
  clear hc hl hl0 hsz
  have hcl : (0 ≤ c0.toNat ∧ c0.toNat ≤ 127) ∨ (128 ≤ c0.toNat ∧ c0.toNat ≤ 193) ∨ (194 ≤ c0.toNat ∧ c0.toNat ≤ 223) ∨ (224 ≤ c0.toNat ∧ c0.toNat ≤ 224) ∨ (225 ≤ c0.toNat ∧ c0.toNat ≤ 236) ∨ (237 ≤ c0.toNat ∧ c0.toNat ≤ 237) ∨ (238 ≤ c0.toNat ∧ c0.toNat ≤ 239) ∨ (240 ≤ c0.toNat ∧ c0.toNat ≤ 240) ∨ (241 ≤ c0.toNat ∧ c0.toNat ≤ 243) ∨ (244 ≤ c0.toNat ∧ c0.toNat ≤ 244) ∨ (245 ≤ c0.toNat ∧ c0.toNat ≤ 255) := by omega
  rcases hcl with ⟨h1, h2⟩ | ⟨h1, h2⟩ | ⟨h1, h2⟩ | ⟨h1, h2⟩ | ⟨h1, h2⟩ | ⟨h1, h2⟩ | ⟨h1, h2⟩ | ⟨h1, h2⟩ | ⟨h1, h2⟩ | ⟨h1, h2⟩ | ⟨h1, h2⟩
  · have d0 : decide ((c0.toNat : Int) < 128) = true := decide_eq_true (by omega)
    have d1 : decide (194 ≤ (c0.toNat : Int)) = false := decide_eq_false (by omega)
    have d2 : decide ((c0.toNat : Int) ≤ 223) = true := decide_eq_true (by omega)
    have d3 : decide (225 ≤ (c0.toNat : Int)) = false := decide_eq_false (by omega)
    have d4 : decide ((c0.toNat : Int) ≤ 239) = true := decide_eq_true (by omega)
    have d5 : decide (241 ≤ (c0.toNat : Int)) = false := decide_eq_false (by omega)
    have d6 : decide ((c0.toNat : Int) ≤ 243) = true := decide_eq_true (by omega)
    have e0 : decide ((c0.toNat : Int) = 224) = false := decide_eq_false (by omega)
    have g0 : ((c0.toNat : Int) == 224) = false := by rw [beq_eq_false_iff_ne]; omega
    have e1 : decide ((c0.toNat : Int) = 237) = false := decide_eq_false (by omega)
    have g1 : ((c0.toNat : Int) == 237) = false := by rw [beq_eq_false_iff_ne]; omega
    have e2 : decide ((c0.toNat : Int) = 240) = false := decide_eq_false (by omega)
    have g2 : ((c0.toNat : Int) == 240) = false := by rw [beq_eq_false_iff_ne]; omega
    have e3 : decide ((c0.toNat : Int) = 244) = false := decide_eq_false (by omega)
    have g3 : ((c0.toNat : Int) == 244) = false := by rw [beq_eq_false_iff_ne]; omega
    have g9 : ((c0.toNat : Int) != 237) = true := by rw [bne_iff_ne]; omega
    have HV := Lib.hid (show S = 1 from by
      have hs := HS.out
      clear d0 d1 d2 d3 d4 d5 d6 e0 e1 e2 e3 g0 g1 g2 g3 g9 hlt
      generalize c0.toNat = cc at h1 h2 hs
      rw [hs]
      simp only [sizeF, (eq_true (by omega) : (cc < 128) = True), (eq_false (by omega) : (194 ≤ cc) = False), (eq_true (by omega) : (cc ≤ 223) = True), (eq_false (by omega) : (cc = 224) = False), (eq_false (by omega) : (cc = 237) = False), (eq_false (by omega) : (225 ≤ cc) = False), (eq_true (by omega) : (cc ≤ 239) = True), (eq_true (by omega) : (cc ≠ 237) = True), (eq_false (by omega) : (cc = 240) = False), (eq_false (by omega) : (cc = 244) = False), (eq_false (by omega) : (241 ≤ cc) = False), (eq_true (by omega) : (cc ≤ 243) = True), true_and, false_and, and_true, and_false, if_true, if_false])
    clear hlt h1 h2 HS
    have HV := Lib.hid (HV.out.trans (show _ = 1 from rfl))
    go_enter Tryd.func88, Tryd.ntmps88
    go_wp2
    go_ret
    exact ⟨by rw [HV.out]; rfl, rfl⟩
  · have d0 : decide ((c0.toNat : Int) < 128) = false := decide_eq_false (by omega)
    have d1 : decide (194 ≤ (c0.toNat : Int)) = false := decide_eq_false (by omega)
    have d2 : decide ((c0.toNat : Int) ≤ 223) = true := decide_eq_true (by omega)
    have d3 : decide (225 ≤ (c0.toNat : Int)) = false := decide_eq_false (by omega)
    have d4 : decide ((c0.toNat : Int) ≤ 239) = true := decide_eq_true (by omega)
    have d5 : decide (241 ≤ (c0.toNat : Int)) = false := decide_eq_false (by omega)
    have d6 : decide ((c0.toNat : Int) ≤ 243) = true := decide_eq_true (by omega)
    have e0 : decide ((c0.toNat : Int) = 224) = false := decide_eq_false (by omega)
    have g0 : ((c0.toNat : Int) == 224) = false := by rw [beq_eq_false_iff_ne]; omega
    have e1 : decide ((c0.toNat : Int) = 237) = false := decide_eq_false (by omega)
    have g1 : ((c0.toNat : Int) == 237) = false := by rw [beq_eq_false_iff_ne]; omega
    have e2 : decide ((c0.toNat : Int) = 240) = false := decide_eq_false (by omega)
    have g2 : ((c0.toNat : Int) == 240) = false := by rw [beq_eq_false_iff_ne]; omega
    have e3 : decide ((c0.toNat : Int) = 244) = false := decide_eq_false (by omega)
    have g3 : ((c0.toNat : Int) == 244) = false := by rw [beq_eq_false_iff_ne]; omega
    have g9 : ((c0.toNat : Int) != 237) = true := by rw [bne_iff_ne]; omega
    have HV := Lib.hid (show S = 0 from by
      have hs := HS.out
      clear d0 d1 d2 d3 d4 d5 d6 e0 e1 e2 e3 g0 g1 g2 g3 g9 hlt
      generalize c0.toNat = cc at h1 h2 hs
      rw [hs]
      simp only [sizeF, (eq_false (by omega) : (cc < 128) = False), (eq_false (by omega) : (194 ≤ cc) = False), (eq_true (by omega) : (cc ≤ 223) = True), (eq_false (by omega) : (cc = 224) = False), (eq_false (by omega) : (cc = 237) = False), (eq_false (by omega) : (225 ≤ cc) = False), (eq_true (by omega) : (cc ≤ 239) = True), (eq_true (by omega) : (cc ≠ 237) = True), (eq_false (by omega) : (cc = 240) = False), (eq_false (by omega) : (cc = 244) = False), (eq_false (by omega) : (241 ≤ cc) = False), (eq_true (by omega) : (cc ≤ 243) = True), true_and, false_and, and_true, and_false, if_true, if_false])
    clear hlt h1 h2 HS
    have HV := Lib.hid (HV.out.trans (show _ = 0 from rfl))
    go_enter Tryd.func88, Tryd.ntmps88
    go_wp2
    go_ret
    exact ⟨by rw [HV.out]; rfl, rfl⟩
  · have d0 : decide ((c0.toNat : Int) < 128) = false := decide_eq_false (by omega)
    have d1 : decide (194 ≤ (c0.toNat : Int)) = true := decide_eq_true (by omega)
    have d2 : decide ((c0.toNat : Int) ≤ 223) = true := decide_eq_true (by omega)
    have d3 : decide (225 ≤ (c0.toNat : Int)) = false := decide_eq_false (by omega)
    have d4 : decide ((c0.toNat : Int) ≤ 239) = true := decide_eq_true (by omega)
    have d5 : decide (241 ≤ (c0.toNat : Int)) = false := decide_eq_false (by omega)
    have d6 : decide ((c0.toNat : Int) ≤ 243) = true := decide_eq_true (by omega)
    have e0 : decide ((c0.toNat : Int) = 224) = false := decide_eq_false (by omega)
    have g0 : ((c0.toNat : Int) == 224) = false := by rw [beq_eq_false_iff_ne]; omega
    have e1 : decide ((c0.toNat : Int) = 237) = false := decide_eq_false (by omega)
    have g1 : ((c0.toNat : Int) == 237) = false := by rw [beq_eq_false_iff_ne]; omega
    have e2 : decide ((c0.toNat : Int) = 240) = false := decide_eq_false (by omega)
    have g2 : ((c0.toNat : Int) == 240) = false := by rw [beq_eq_false_iff_ne]; omega
    have e3 : decide ((c0.toNat : Int) = 244) = false := decide_eq_false (by omega)
    have g3 : ((c0.toNat : Int) == 244) = false := by rw [beq_eq_false_iff_ne]; omega
    have g9 : ((c0.toNat : Int) != 237) = true := by rw [bne_iff_ne]; omega
    have HV := Lib.hid (show S = (if b0 = true then 2 else 0) from by
      have hs := HS.out
      clear d0 d1 d2 d3 d4 d5 d6 e0 e1 e2 e3 g0 g1 g2 g3 g9 hlt
      generalize c0.toNat = cc at h1 h2 hs
      rw [hs]
      simp only [sizeF, (eq_false (by omega) : (cc < 128) = False), (eq_true (by omega) : (194 ≤ cc) = True), (eq_true (by omega) : (cc ≤ 223) = True), (eq_false (by omega) : (cc = 224) = False), (eq_false (by omega) : (cc = 237) = False), (eq_false (by omega) : (225 ≤ cc) = False), (eq_true (by omega) : (cc ≤ 239) = True), (eq_true (by omega) : (cc ≠ 237) = True), (eq_false (by omega) : (cc = 240) = False), (eq_false (by omega) : (cc = 244) = False), (eq_false (by omega) : (241 ≤ cc) = False), (eq_true (by omega) : (cc ≤ 243) = True), true_and, false_and, and_true, and_false, if_true, if_false])
    clear hlt h1 h2 HS
    rcases b0 with _ | _
    · skip
      have HV := Lib.hid (HV.out.trans (show _ = 0 from rfl))
      go_enter Tryd.func88, Tryd.ntmps88
      go_wp2_with (go_at_call 102; first | (with_reducible refine (Q0.out _).mono ?_; rintro e w' ⟨rfl, rfl⟩))
      go_ret
      exact ⟨by rw [HV.out]; rfl, rfl⟩
    · skip
      have HV := Lib.hid (HV.out.trans (show _ = 2 from rfl))
      go_enter Tryd.func88, Tryd.ntmps88
      go_wp2_with (go_at_call 102; first | (with_reducible refine (Q0.out _).mono ?_; rintro e w' ⟨rfl, rfl⟩))
      go_ret
      exact ⟨by rw [HV.out]; rfl, rfl⟩
  · have d0 : decide ((c0.toNat : Int) < 128) = false := decide_eq_false (by omega)
    have d1 : decide (194 ≤ (c0.toNat : Int)) = true := decide_eq_true (by omega)
    have d2 : decide ((c0.toNat : Int) ≤ 223) = false := decide_eq_false (by omega)
    have d3 : decide (225 ≤ (c0.toNat : Int)) = false := decide_eq_false (by omega)
    have d4 : decide ((c0.toNat : Int) ≤ 239) = true := decide_eq_true (by omega)
    have d5 : decide (241 ≤ (c0.toNat : Int)) = false := decide_eq_false (by omega)
    have d6 : decide ((c0.toNat : Int) ≤ 243) = true := decide_eq_true (by omega)
    have e0 : decide ((c0.toNat : Int) = 224) = true := decide_eq_true (by omega)
    have g0 : ((c0.toNat : Int) == 224) = true := by rw [beq_iff_eq]; omega
    have e1 : decide ((c0.toNat : Int) = 237) = false := decide_eq_false (by omega)
    have g1 : ((c0.toNat : Int) == 237) = false := by rw [beq_eq_false_iff_ne]; omega
    have e2 : decide ((c0.toNat : Int) = 240) = false := decide_eq_false (by omega)
    have g2 : ((c0.toNat : Int) == 240) = false := by rw [beq_eq_false_iff_ne]; omega
    have e3 : decide ((c0.toNat : Int) = 244) = false := decide_eq_false (by omega)
    have g3 : ((c0.toNat : Int) == 244) = false := by rw [beq_eq_false_iff_ne]; omega
    have g9 : ((c0.toNat : Int) != 237) = true := by rw [bne_iff_ne]; omega
    have HV := Lib.hid (show S = (if b1 = true ∧ b2 = true then 3 else 0) from by
      have hs := HS.out
      clear d0 d1 d2 d3 d4 d5 d6 e0 e1 e2 e3 g0 g1 g2 g3 g9 hlt
      generalize c0.toNat = cc at h1 h2 hs
      rw [hs]
      simp only [sizeF, (eq_false (by omega) : (cc < 128) = False), (eq_true (by omega) : (194 ≤ cc) = True), (eq_false (by omega) : (cc ≤ 223) = False), (eq_true (by omega) : (cc = 224) = True), (eq_false (by omega) : (cc = 237) = False), (eq_false (by omega) : (225 ≤ cc) = False), (eq_true (by omega) : (cc ≤ 239) = True), (eq_true (by omega) : (cc ≠ 237) = True), (eq_false (by omega) : (cc = 240) = False), (eq_false (by omega) : (cc = 244) = False), (eq_false (by omega) : (241 ≤ cc) = False), (eq_true (by omega) : (cc ≤ 243) = True), true_and, false_and, and_true, and_false, if_true, if_false])
    clear hlt h1 h2 HS
    rcases b1 with _ | _
    · skip
      have HV := Lib.hid (HV.out.trans (show _ = 0 from rfl))
      go_enter Tryd.func88, Tryd.ntmps88
      go_wp2_with (go_at_call 102; first | (with_reducible refine (Q1.out _).mono ?_; rintro e w' ⟨rfl, rfl⟩))
      go_ret
      exact ⟨by rw [HV.out]; rfl, rfl⟩
    · skip
      rcases b2 with _ | _
      · skip
        have HV := Lib.hid (HV.out.trans (show _ = 0 from rfl))
        go_enter Tryd.func88, Tryd.ntmps88
        go_wp2_with (go_at_call 102; first | (with_reducible refine (Q1.out _).mono ?_; rintro e w' ⟨rfl, rfl⟩) | (with_reducible refine (Q2.out _).mono ?_; rintro e w' ⟨rfl, rfl⟩))
        go_ret
        exact ⟨by rw [HV.out]; rfl, rfl⟩
      · skip
        have HV := Lib.hid (HV.out.trans (show _ = 3 from rfl))
        go_enter Tryd.func88, Tryd.ntmps88
        go_wp2_with (go_at_call 102; first | (with_reducible refine (Q1.out _).mono ?_; rintro e w' ⟨rfl, rfl⟩) | (with_reducible refine (Q2.out _).mono ?_; rintro e w' ⟨rfl, rfl⟩))
        go_ret
        exact ⟨by rw [HV.out]; rfl, rfl⟩
  · have d0 : decide ((c0.toNat : Int) < 128) = false := decide_eq_false (by omega)
    have d1 : decide (194 ≤ (c0.toNat : Int)) = true := decide_eq_true (by omega)
    have d2 : decide ((c0.toNat : Int) ≤ 223) = false := decide_eq_false (by omega)
    have d3 : decide (225 ≤ (c0.toNat : Int)) = true := decide_eq_true (by omega)
    have d4 : decide ((c0.toNat : Int) ≤ 239) = true := decide_eq_true (by omega)
    have d5 : decide (241 ≤ (c0.toNat : Int)) = false := decide_eq_false (by omega)
    have d6 : decide ((c0.toNat : Int) ≤ 243) = true := decide_eq_true (by omega)
    have e0 : decide ((c0.toNat : Int) = 224) = false := decide_eq_false (by omega)
    have g0 : ((c0.toNat : Int) == 224) = false := by rw [beq_eq_false_iff_ne]; omega
    have e1 : decide ((c0.toNat : Int) = 237) = false := decide_eq_false (by omega)
    have g1 : ((c0.toNat : Int) == 237) = false := by rw [beq_eq_false_iff_ne]; omega
    have e2 : decide ((c0.toNat : Int) = 240) = false := decide_eq_false (by omega)
    have g2 : ((c0.toNat : Int) == 240) = false := by rw [beq_eq_false_iff_ne]; omega
    have e3 : decide ((c0.toNat : Int) = 244) = false := decide_eq_false (by omega)
    have g3 : ((c0.toNat : Int) == 244) = false := by rw [beq_eq_false_iff_ne]; omega
    have g9 : ((c0.toNat : Int) != 237) = true := by rw [bne_iff_ne]; omega
    have HV := Lib.hid (show S = (if b0 = true ∧ b2 = true then 3 else 0) from by
      have hs := HS.out
      clear d0 d1 d2 d3 d4 d5 d6 e0 e1 e2 e3 g0 g1 g2 g3 g9 hlt
      generalize c0.toNat = cc at h1 h2 hs
      rw [hs]
      simp only [sizeF, (eq_false (by omega) : (cc < 128) = False), (eq_true (by omega) : (194 ≤ cc) = True), (eq_false (by omega) : (cc ≤ 223) = False), (eq_false (by omega) : (cc = 224) = False), (eq_false (by omega) : (cc = 237) = False), (eq_true (by omega) : (225 ≤ cc) = True), (eq_true (by omega) : (cc ≤ 239) = True), (eq_true (by omega) : (cc ≠ 237) = True), (eq_false (by omega) : (cc = 240) = False), (eq_false (by omega) : (cc = 244) = False), (eq_false (by omega) : (241 ≤ cc) = False), (eq_true (by omega) : (cc ≤ 243) = True), true_and, false_and, and_true, and_false, if_true, if_false])
    clear hlt h1 h2 HS
    rcases b0 with _ | _
    · skip
      have HV := Lib.hid (HV.out.trans (show _ = 0 from rfl))
      go_enter Tryd.func88, Tryd.ntmps88
      go_wp2_with (go_at_call 102; first | (with_reducible refine (Q0.out _).mono ?_; rintro e w' ⟨rfl, rfl⟩))
      go_ret
      exact ⟨by rw [HV.out]; rfl, rfl⟩
    · skip
      rcases b2 with _ | _
      · skip
        have HV := Lib.hid (HV.out.trans (show _ = 0 from rfl))
        go_enter Tryd.func88, Tryd.ntmps88
        go_wp2_with (go_at_call 102; first | (with_reducible refine (Q0.out _).mono ?_; rintro e w' ⟨rfl, rfl⟩) | (with_reducible refine (Q2.out _).mono ?_; rintro e w' ⟨rfl, rfl⟩))
        go_ret
        exact ⟨by rw [HV.out]; rfl, rfl⟩
      · skip
        have HV := Lib.hid (HV.out.trans (show _ = 3 from rfl))
        go_enter Tryd.func88, Tryd.ntmps88
        go_wp2_with (go_at_call 102; first | (with_reducible refine (Q0.out _).mono ?_; rintro e w' ⟨rfl, rfl⟩) | (with_reducible refine (Q2.out _).mono ?_; rintro e w' ⟨rfl, rfl⟩))
        go_ret
        exact ⟨by rw [HV.out]; rfl, rfl⟩
  · have d0 : decide ((c0.toNat : Int) < 128) = false := decide_eq_false (by omega)
    have d1 : decide (194 ≤ (c0.toNat : Int)) = true := decide_eq_true (by omega)
    have d2 : decide ((c0.toNat : Int) ≤ 223) = false := decide_eq_false (by omega)
    have d3 : decide (225 ≤ (c0.toNat : Int)) = true := decide_eq_true (by omega)
    have d4 : decide ((c0.toNat : Int) ≤ 239) = true := decide_eq_true (by omega)
    have d5 : decide (241 ≤ (c0.toNat : Int)) = false := decide_eq_false (by omega)
    have d6 : decide ((c0.toNat : Int) ≤ 243) = true := decide_eq_true (by omega)
    have e0 : decide ((c0.toNat : Int) = 224) = false := decide_eq_false (by omega)
    have g0 : ((c0.toNat : Int) == 224) = false := by rw [beq_eq_false_iff_ne]; omega
    have e1 : decide ((c0.toNat : Int) = 237) = true := decide_eq_true (by omega)
    have g1 : ((c0.toNat : Int) == 237) = true := by rw [beq_iff_eq]; omega
    have e2 : decide ((c0.toNat : Int) = 240) = false := decide_eq_false (by omega)
    have g2 : ((c0.toNat : Int) == 240) = false := by rw [beq_eq_false_iff_ne]; omega
    have e3 : decide ((c0.toNat : Int) = 244) = false := decide_eq_false (by omega)
    have g3 : ((c0.toNat : Int) == 244) = false := by rw [beq_eq_false_iff_ne]; omega
    have g9 : ((c0.toNat : Int) != 237) = false := by rw [show (c0.toNat : Int) = 237 by omega]; rfl
    have HV := Lib.hid (show S = (if b3 = true ∧ b2 = true then 3 else 0) from by
      have hs := HS.out
      clear d0 d1 d2 d3 d4 d5 d6 e0 e1 e2 e3 g0 g1 g2 g3 g9 hlt
      generalize c0.toNat = cc at h1 h2 hs
      rw [hs]
      simp only [sizeF, (eq_false (by omega) : (cc < 128) = False), (eq_true (by omega) : (194 ≤ cc) = True), (eq_false (by omega) : (cc ≤ 223) = False), (eq_false (by omega) : (cc = 224) = False), (eq_true (by omega) : (cc = 237) = True), (eq_true (by omega) : (225 ≤ cc) = True), (eq_true (by omega) : (cc ≤ 239) = True), (eq_false (by omega) : (cc ≠ 237) = False), (eq_false (by omega) : (cc = 240) = False), (eq_false (by omega) : (cc = 244) = False), (eq_false (by omega) : (241 ≤ cc) = False), (eq_true (by omega) : (cc ≤ 243) = True), true_and, false_and, and_true, and_false, if_true, if_false])
    clear hlt h1 h2 HS
    rcases b3 with _ | _
    · skip
      have HV := Lib.hid (HV.out.trans (show _ = 0 from rfl))
      go_enter Tryd.func88, Tryd.ntmps88
      go_wp2_with (go_at_call 102; first | (with_reducible refine (Q3.out _).mono ?_; rintro e w' ⟨rfl, rfl⟩))
      go_ret
      exact ⟨by rw [HV.out]; rfl, rfl⟩
    · skip
      rcases b2 with _ | _
      · skip
        have HV := Lib.hid (HV.out.trans (show _ = 0 from rfl))
        go_enter Tryd.func88, Tryd.ntmps88
        go_wp2_with (go_at_call 102; first | (with_reducible refine (Q3.out _).mono ?_; rintro e w' ⟨rfl, rfl⟩) | (with_reducible refine (Q2.out _).mono ?_; rintro e w' ⟨rfl, rfl⟩))
        go_ret
        exact ⟨by rw [HV.out]; rfl, rfl⟩
      · skip
        have HV := Lib.hid (HV.out.trans (show _ = 3 from rfl))
        go_enter Tryd.func88, Tryd.ntmps88
        go_wp2_with (go_at_call 102; first | (with_reducible refine (Q3.out _).mono ?_; rintro e w' ⟨rfl, rfl⟩) | (with_reducible refine (Q2.out _).mono ?_; rintro e w' ⟨rfl, rfl⟩))
        go_ret
        exact ⟨by rw [HV.out]; rfl, rfl⟩
  · have d0 : decide ((c0.toNat : Int) < 128) = false := decide_eq_false (by omega)
    have d1 : decide (194 ≤ (c0.toNat : Int)) = true := decide_eq_true (by omega)
    have d2 : decide ((c0.toNat : Int) ≤ 223) = false := decide_eq_false (by omega)
    have d3 : decide (225 ≤ (c0.toNat : Int)) = true := decide_eq_true (by omega)
    have d4 : decide ((c0.toNat : Int) ≤ 239) = true := decide_eq_true (by omega)
    have d5 : decide (241 ≤ (c0.toNat : Int)) = false := decide_eq_false (by omega)
    have d6 : decide ((c0.toNat : Int) ≤ 243) = true := decide_eq_true (by omega)
    have e0 : decide ((c0.toNat : Int) = 224) = false := decide_eq_false (by omega)
    have g0 : ((c0.toNat : Int) == 224) = false := by rw [beq_eq_false_iff_ne]; omega
    have e1 : decide ((c0.toNat : Int) = 237) = false := decide_eq_false (by omega)
    have g1 : ((c0.toNat : Int) == 237) = false := by rw [beq_eq_false_iff_ne]; omega
    have e2 : decide ((c0.toNat : Int) = 240) = false := decide_eq_false (by omega)
    have g2 : ((c0.toNat : Int) == 240) = false := by rw [beq_eq_false_iff_ne]; omega
    have e3 : decide ((c0.toNat : Int) = 244) = false := decide_eq_false (by omega)
    have g3 : ((c0.toNat : Int) == 244) = false := by rw [beq_eq_false_iff_ne]; omega
    have g9 : ((c0.toNat : Int) != 237) = true := by rw [bne_iff_ne]; omega
    have HV := Lib.hid (show S = (if b0 = true ∧ b2 = true then 3 else 0) from by
      have hs := HS.out
      clear d0 d1 d2 d3 d4 d5 d6 e0 e1 e2 e3 g0 g1 g2 g3 g9 hlt
      generalize c0.toNat = cc at h1 h2 hs
      rw [hs]
      simp only [sizeF, (eq_false (by omega) : (cc < 128) = False), (eq_true (by omega) : (194 ≤ cc) = True), (eq_false (by omega) : (cc ≤ 223) = False), (eq_false (by omega) : (cc = 224) = False), (eq_false (by omega) : (cc = 237) = False), (eq_true (by omega) : (225 ≤ cc) = True), (eq_true (by omega) : (cc ≤ 239) = True), (eq_true (by omega) : (cc ≠ 237) = True), (eq_false (by omega) : (cc = 240) = False), (eq_false (by omega) : (cc = 244) = False), (eq_false (by omega) : (241 ≤ cc) = False), (eq_true (by omega) : (cc ≤ 243) = True), true_and, false_and, and_true, and_false, if_true, if_false])
    clear hlt h1 h2 HS
    rcases b0 with _ | _
    · skip
      have HV := Lib.hid (HV.out.trans (show _ = 0 from rfl))
      go_enter Tryd.func88, Tryd.ntmps88
      go_wp2_with (go_at_call 102; first | (with_reducible refine (Q0.out _).mono ?_; rintro e w' ⟨rfl, rfl⟩))
      go_ret
      exact ⟨by rw [HV.out]; rfl, rfl⟩
    · skip
      rcases b2 with _ | _
      · skip
        have HV := Lib.hid (HV.out.trans (show _ = 0 from rfl))
        go_enter Tryd.func88, Tryd.ntmps88
        go_wp2_with (go_at_call 102; first | (with_reducible refine (Q0.out _).mono ?_; rintro e w' ⟨rfl, rfl⟩) | (with_reducible refine (Q2.out _).mono ?_; rintro e w' ⟨rfl, rfl⟩))
        go_ret
        exact ⟨by rw [HV.out]; rfl, rfl⟩
      · skip
        have HV := Lib.hid (HV.out.trans (show _ = 3 from rfl))
        go_enter Tryd.func88, Tryd.ntmps88
        go_wp2_with (go_at_call 102; first | (with_reducible refine (Q0.out _).mono ?_; rintro e w' ⟨rfl, rfl⟩) | (with_reducible refine (Q2.out _).mono ?_; rintro e w' ⟨rfl, rfl⟩))
        go_ret
        exact ⟨by rw [HV.out]; rfl, rfl⟩
  · have d0 : decide ((c0.toNat : Int) < 128) = false := decide_eq_false (by omega)
    have d1 : decide (194 ≤ (c0.toNat : Int)) = true := decide_eq_true (by omega)
    have d2 : decide ((c0.toNat : Int) ≤ 223) = false := decide_eq_false (by omega)
    have d3 : decide (225 ≤ (c0.toNat : Int)) = true := decide_eq_true (by omega)
    have d4 : decide ((c0.toNat : Int) ≤ 239) = false := decide_eq_false (by omega)
    have d5 : decide (241 ≤ (c0.toNat : Int)) = false := decide_eq_false (by omega)
    have d6 : decide ((c0.toNat : Int) ≤ 243) = true := decide_eq_true (by omega)
    have e0 : decide ((c0.toNat : Int) = 224) = false := decide_eq_false (by omega)
    have g0 : ((c0.toNat : Int) == 224) = false := by rw [beq_eq_false_iff_ne]; omega
    have e1 : decide ((c0.toNat : Int) = 237) = false := decide_eq_false (by omega)
    have g1 : ((c0.toNat : Int) == 237) = false := by rw [beq_eq_false_iff_ne]; omega
    have e2 : decide ((c0.toNat : Int) = 240) = true := decide_eq_true (by omega)
    have g2 : ((c0.toNat : Int) == 240) = true := by rw [beq_iff_eq]; omega
    have e3 : decide ((c0.toNat : Int) = 244) = false := decide_eq_false (by omega)
    have g3 : ((c0.toNat : Int) == 244) = false := by rw [beq_eq_false_iff_ne]; omega
    have g9 : ((c0.toNat : Int) != 237) = true := by rw [bne_iff_ne]; omega
    have HV := Lib.hid (show S = (if b4 = true ∧ b2 = true ∧ b5 = true then 4 else 0) from by
      have hs := HS.out
      clear d0 d1 d2 d3 d4 d5 d6 e0 e1 e2 e3 g0 g1 g2 g3 g9 hlt
      generalize c0.toNat = cc at h1 h2 hs
      rw [hs]
      simp only [sizeF, (eq_false (by omega) : (cc < 128) = False), (eq_true (by omega) : (194 ≤ cc) = True), (eq_false (by omega) : (cc ≤ 223) = False), (eq_false (by omega) : (cc = 224) = False), (eq_false (by omega) : (cc = 237) = False), (eq_true (by omega) : (225 ≤ cc) = True), (eq_false (by omega) : (cc ≤ 239) = False), (eq_true (by omega) : (cc ≠ 237) = True), (eq_true (by omega) : (cc = 240) = True), (eq_false (by omega) : (cc = 244) = False), (eq_false (by omega) : (241 ≤ cc) = False), (eq_true (by omega) : (cc ≤ 243) = True), true_and, false_and, and_true, and_false, if_true, if_false])
    clear hlt h1 h2 HS
    rcases b4 with _ | _
    · skip
      have HV := Lib.hid (HV.out.trans (show _ = 0 from rfl))
      go_enter Tryd.func88, Tryd.ntmps88
      go_wp2_with (go_at_call 102; first | (with_reducible refine (Q4.out _).mono ?_; rintro e w' ⟨rfl, rfl⟩))
      go_ret
      exact ⟨by rw [HV.out]; rfl, rfl⟩
    · skip
      rcases b2 with _ | _
      · skip
        have HV := Lib.hid (HV.out.trans (show _ = 0 from rfl))
        go_enter Tryd.func88, Tryd.ntmps88
        go_wp2_with (go_at_call 102; first | (with_reducible refine (Q4.out _).mono ?_; rintro e w' ⟨rfl, rfl⟩) | (with_reducible refine (Q2.out _).mono ?_; rintro e w' ⟨rfl, rfl⟩))
        go_ret
        exact ⟨by rw [HV.out]; rfl, rfl⟩
      · skip
        rcases b5 with _ | _
        · skip
          have HV := Lib.hid (HV.out.trans (show _ = 0 from rfl))
          go_enter Tryd.func88, Tryd.ntmps88
          go_wp2_with (go_at_call 102; first | (with_reducible refine (Q4.out _).mono ?_; rintro e w' ⟨rfl, rfl⟩) | (with_reducible refine (Q2.out _).mono ?_; rintro e w' ⟨rfl, rfl⟩) | (with_reducible refine (Q5.out _).mono ?_; rintro e w' ⟨rfl, rfl⟩))
          go_ret
          exact ⟨by rw [HV.out]; rfl, rfl⟩
        · skip
          have HV := Lib.hid (HV.out.trans (show _ = 4 from rfl))
          go_enter Tryd.func88, Tryd.ntmps88
          go_wp2_with (go_at_call 102; first | (with_reducible refine (Q4.out _).mono ?_; rintro e w' ⟨rfl, rfl⟩) | (with_reducible refine (Q2.out _).mono ?_; rintro e w' ⟨rfl, rfl⟩) | (with_reducible refine (Q5.out _).mono ?_; rintro e w' ⟨rfl, rfl⟩))
          go_ret
          exact ⟨by rw [HV.out]; rfl, rfl⟩
  · have d0 : decide ((c0.toNat : Int) < 128) = false := decide_eq_false (by omega)
    have d1 : decide (194 ≤ (c0.toNat : Int)) = true := decide_eq_true (by omega)
    have d2 : decide ((c0.toNat : Int) ≤ 223) = false := decide_eq_false (by omega)
    have d3 : decide (225 ≤ (c0.toNat : Int)) = true := decide_eq_true (by omega)
    have d4 : decide ((c0.toNat : Int) ≤ 239) = false := decide_eq_false (by omega)
    have d5 : decide (241 ≤ (c0.toNat : Int)) = true := decide_eq_true (by omega)
    have d6 : decide ((c0.toNat : Int) ≤ 243) = true := decide_eq_true (by omega)
    have e0 : decide ((c0.toNat : Int) = 224) = false := decide_eq_false (by omega)
    have g0 : ((c0.toNat : Int) == 224) = false := by rw [beq_eq_false_iff_ne]; omega
    have e1 : decide ((c0.toNat : Int) = 237) = false := decide_eq_false (by omega)
    have g1 : ((c0.toNat : Int) == 237) = false := by rw [beq_eq_false_iff_ne]; omega
    have e2 : decide ((c0.toNat : Int) = 240) = false := decide_eq_false (by omega)
    have g2 : ((c0.toNat : Int) == 240) = false := by rw [beq_eq_false_iff_ne]; omega
    have e3 : decide ((c0.toNat : Int) = 244) = false := decide_eq_false (by omega)
    have g3 : ((c0.toNat : Int) == 244) = false := by rw [beq_eq_false_iff_ne]; omega
    have g9 : ((c0.toNat : Int) != 237) = true := by rw [bne_iff_ne]; omega
    have HV := Lib.hid (show S = (if b0 = true ∧ b2 = true ∧ b5 = true then 4 else 0) from by
      have hs := HS.out
      clear d0 d1 d2 d3 d4 d5 d6 e0 e1 e2 e3 g0 g1 g2 g3 g9 hlt
      generalize c0.toNat = cc at h1 h2 hs
      rw [hs]
      simp only [sizeF, (eq_false (by omega) : (cc < 128) = False), (eq_true (by omega) : (194 ≤ cc) = True), (eq_false (by omega) : (cc ≤ 223) = False), (eq_false (by omega) : (cc = 224) = False), (eq_false (by omega) : (cc = 237) = False), (eq_true (by omega) : (225 ≤ cc) = True), (eq_false (by omega) : (cc ≤ 239) = False), (eq_true (by omega) : (cc ≠ 237) = True), (eq_false (by omega) : (cc = 240) = False), (eq_false (by omega) : (cc = 244) = False), (eq_true (by omega) : (241 ≤ cc) = True), (eq_true (by omega) : (cc ≤ 243) = True), true_and, false_and, and_true, and_false, if_true, if_false])
    clear hlt h1 h2 HS
    rcases b0 with _ | _
    · skip
      have HV := Lib.hid (HV.out.trans (show _ = 0 from rfl))
      go_enter Tryd.func88, Tryd.ntmps88
      go_wp2_with (go_at_call 102; first | (with_reducible refine (Q0.out _).mono ?_; rintro e w' ⟨rfl, rfl⟩))
      go_ret
      exact ⟨by rw [HV.out]; rfl, rfl⟩
    · skip
      rcases b2 with _ | _
      · skip
        have HV := Lib.hid (HV.out.trans (show _ = 0 from rfl))
        go_enter Tryd.func88, Tryd.ntmps88
        go_wp2_with (go_at_call 102; first | (with_reducible refine (Q0.out _).mono ?_; rintro e w' ⟨rfl, rfl⟩) | (with_reducible refine (Q2.out _).mono ?_; rintro e w' ⟨rfl, rfl⟩))
        go_ret
        exact ⟨by rw [HV.out]; rfl, rfl⟩
      · skip
        rcases b5 with _ | _
        · skip
          have HV := Lib.hid (HV.out.trans (show _ = 0 from rfl))
          go_enter Tryd.func88, Tryd.ntmps88
          go_wp2_with (go_at_call 102; first | (with_reducible refine (Q0.out _).mono ?_; rintro e w' ⟨rfl, rfl⟩) | (with_reducible refine (Q2.out _).mono ?_; rintro e w' ⟨rfl, rfl⟩) | (with_reducible refine (Q5.out _).mono ?_; rintro e w' ⟨rfl, rfl⟩))
          go_ret
          exact ⟨by rw [HV.out]; rfl, rfl⟩
        · skip
          have HV := Lib.hid (HV.out.trans (show _ = 4 from rfl))
          go_enter Tryd.func88, Tryd.ntmps88
          go_wp2_with (go_at_call 102; first | (with_reducible refine (Q0.out _).mono ?_; rintro e w' ⟨rfl, rfl⟩) | (with_reducible refine (Q2.out _).mono ?_; rintro e w' ⟨rfl, rfl⟩) | (with_reducible refine (Q5.out _).mono ?_; rintro e w' ⟨rfl, rfl⟩))
          go_ret
          exact ⟨by rw [HV.out]; rfl, rfl⟩
  · have d0 : decide ((c0.toNat : Int) < 128) = false := decide_eq_false (by omega)
    have d1 : decide (194 ≤ (c0.toNat : Int)) = true := decide_eq_true (by omega)
    have d2 : decide ((c0.toNat : Int) ≤ 223) = false := decide_eq_false (by omega)
    have d3 : decide (225 ≤ (c0.toNat : Int)) = true := decide_eq_true (by omega)
    have d4 : decide ((c0.toNat : Int) ≤ 239) = false := decide_eq_false (by omega)
    have d5 : decide (241 ≤ (c0.toNat : Int)) = true := decide_eq_true (by omega)
    have d6 : decide ((c0.toNat : Int) ≤ 243) = false := decide_eq_false (by omega)
    have e0 : decide ((c0.toNat : Int) = 224) = false := decide_eq_false (by omega)
    have g0 : ((c0.toNat : Int) == 224) = false := by rw [beq_eq_false_iff_ne]; omega
    have e1 : decide ((c0.toNat : Int) = 237) = false := decide_eq_false (by omega)
    have g1 : ((c0.toNat : Int) == 237) = false := by rw [beq_eq_false_iff_ne]; omega
    have e2 : decide ((c0.toNat : Int) = 240) = false := decide_eq_false (by omega)
    have g2 : ((c0.toNat : Int) == 240) = false := by rw [beq_eq_false_iff_ne]; omega
    have e3 : decide ((c0.toNat : Int) = 244) = true := decide_eq_true (by omega)
    have g3 : ((c0.toNat : Int) == 244) = true := by rw [beq_iff_eq]; omega
    have g9 : ((c0.toNat : Int) != 237) = true := by rw [bne_iff_ne]; omega
    have HV := Lib.hid (show S = (if b6 = true ∧ b2 = true ∧ b5 = true then 4 else 0) from by
      have hs := HS.out
      clear d0 d1 d2 d3 d4 d5 d6 e0 e1 e2 e3 g0 g1 g2 g3 g9 hlt
      generalize c0.toNat = cc at h1 h2 hs
      rw [hs]
      simp only [sizeF, (eq_false (by omega) : (cc < 128) = False), (eq_true (by omega) : (194 ≤ cc) = True), (eq_false (by omega) : (cc ≤ 223) = False), (eq_false (by omega) : (cc = 224) = False), (eq_false (by omega) : (cc = 237) = False), (eq_true (by omega) : (225 ≤ cc) = True), (eq_false (by omega) : (cc ≤ 239) = False), (eq_true (by omega) : (cc ≠ 237) = True), (eq_false (by omega) : (cc = 240) = False), (eq_true (by omega) : (cc = 244) = True), (eq_true (by omega) : (241 ≤ cc) = True), (eq_false (by omega) : (cc ≤ 243) = False), true_and, false_and, and_true, and_false, if_true, if_false])
    clear hlt h1 h2 HS
    rcases b6 with _ | _
    · skip
      have HV := Lib.hid (HV.out.trans (show _ = 0 from rfl))
      go_enter Tryd.func88, Tryd.ntmps88
      go_wp2_with (go_at_call 102; first | (with_reducible refine (Q6.out _).mono ?_; rintro e w' ⟨rfl, rfl⟩))
      go_ret
      exact ⟨by rw [HV.out]; rfl, rfl⟩
    · skip
      rcases b2 with _ | _
      · skip
        have HV := Lib.hid (HV.out.trans (show _ = 0 from rfl))
        go_enter Tryd.func88, Tryd.ntmps88
        go_wp2_with (go_at_call 102; first | (with_reducible refine (Q6.out _).mono ?_; rintro e w' ⟨rfl, rfl⟩) | (with_reducible refine (Q2.out _).mono ?_; rintro e w' ⟨rfl, rfl⟩))
        go_ret
        exact ⟨by rw [HV.out]; rfl, rfl⟩
      · skip
        rcases b5 with _ | _
        · skip
          have HV := Lib.hid (HV.out.trans (show _ = 0 from rfl))
          go_enter Tryd.func88, Tryd.ntmps88
          go_wp2_with (go_at_call 102; first | (with_reducible refine (Q6.out _).mono ?_; rintro e w' ⟨rfl, rfl⟩) | (with_reducible refine (Q2.out _).mono ?_; rintro e w' ⟨rfl, rfl⟩) | (with_reducible refine (Q5.out _).mono ?_; rintro e w' ⟨rfl, rfl⟩))
          go_ret
          exact ⟨by rw [HV.out]; rfl, rfl⟩
        · skip
          have HV := Lib.hid (HV.out.trans (show _ = 4 from rfl))
          go_enter Tryd.func88, Tryd.ntmps88
          go_wp2_with (go_at_call 102; first | (with_reducible refine (Q6.out _).mono ?_; rintro e w' ⟨rfl, rfl⟩) | (with_reducible refine (Q2.out _).mono ?_; rintro e w' ⟨rfl, rfl⟩) | (with_reducible refine (Q5.out _).mono ?_; rintro e w' ⟨rfl, rfl⟩))
          go_ret
          exact ⟨by rw [HV.out]; rfl, rfl⟩
  · have d0 : decide ((c0.toNat : Int) < 128) = false := decide_eq_false (by omega)
    have d1 : decide (194 ≤ (c0.toNat : Int)) = true := decide_eq_true (by omega)
    have d2 : decide ((c0.toNat : Int) ≤ 223) = false := decide_eq_false (by omega)
    have d3 : decide (225 ≤ (c0.toNat : Int)) = true := decide_eq_true (by omega)
    have d4 : decide ((c0.toNat : Int) ≤ 239) = false := decide_eq_false (by omega)
    have d5 : decide (241 ≤ (c0.toNat : Int)) = true := decide_eq_true (by omega)
    have d6 : decide ((c0.toNat : Int) ≤ 243) = false := decide_eq_false (by omega)
    have e0 : decide ((c0.toNat : Int) = 224) = false := decide_eq_false (by omega)
    have g0 : ((c0.toNat : Int) == 224) = false := by rw [beq_eq_false_iff_ne]; omega
    have e1 : decide ((c0.toNat : Int) = 237) = false := decide_eq_false (by omega)
    have g1 : ((c0.toNat : Int) == 237) = false := by rw [beq_eq_false_iff_ne]; omega
    have e2 : decide ((c0.toNat : Int) = 240) = false := decide_eq_false (by omega)
    have g2 : ((c0.toNat : Int) == 240) = false := by rw [beq_eq_false_iff_ne]; omega
    have e3 : decide ((c0.toNat : Int) = 244) = false := decide_eq_false (by omega)
    have g3 : ((c0.toNat : Int) == 244) = false := by rw [beq_eq_false_iff_ne]; omega
    have g9 : ((c0.toNat : Int) != 237) = true := by rw [bne_iff_ne]; omega
    have HV := Lib.hid (show S = 0 from by
      have hs := HS.out
      clear d0 d1 d2 d3 d4 d5 d6 e0 e1 e2 e3 g0 g1 g2 g3 g9 hlt
      generalize c0.toNat = cc at h1 h2 hs
      rw [hs]
      simp only [sizeF, (eq_false (by omega) : (cc < 128) = False), (eq_true (by omega) : (194 ≤ cc) = True), (eq_false (by omega) : (cc ≤ 223) = False), (eq_false (by omega) : (cc = 224) = False), (eq_false (by omega) : (cc = 237) = False), (eq_true (by omega) : (225 ≤ cc) = True), (eq_false (by omega) : (cc ≤ 239) = False), (eq_true (by omega) : (cc ≠ 237) = True), (eq_false (by omega) : (cc = 240) = False), (eq_false (by omega) : (cc = 244) = False), (eq_true (by omega) : (241 ≤ cc) = True), (eq_false (by omega) : (cc ≤ 243) = False), true_and, false_and, and_true, and_false, if_true, if_false])
    clear hlt h1 h2 HS
    have HV := Lib.hid (HV.out.trans (show _ = 0 from rfl))
    go_enter Tryd.func88, Tryd.ntmps88
    go_wp2
    go_ret
    exact ⟨by rw [HV.out]; rfl, rfl⟩
theorem rsize_any (x : UInt8) (l : List UInt8) (w : World) : Calls Tryd.prog 88 #[.string (bs (x :: l))] w fun e w' => e = .returned (.int .i64 (sizeS (x :: l))) ∧ w = w' := rsize_at (x :: l) (by simp) x rfl w
end Go.Proofs.YtcbomomlojhghaaDoor
