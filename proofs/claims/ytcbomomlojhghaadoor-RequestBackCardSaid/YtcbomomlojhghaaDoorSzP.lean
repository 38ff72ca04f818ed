/- The size of the character at the beginning, plainly: the reference's and the decoder's. -/
import Derived.Test.YtcbomomlojhghaaDoorGoB
import Derived.Test.YtcbomomlojhghaaDoorRgA
namespace Go.Proofs.YtcbomomlojhghaaDoor
set_option linter.unusedSimpArgs false
set_option linter.unusedVariables false
open Go.RowKit
set_option maxHeartbeats 4000000 in
theorem size_dec (n c b1 b2 b3 : Nat) (hc : c < 256) (h1 : b1 < 256) (h2 : b2 < 256) (h3 : b3 < 256) :
    let s := sizeF c (decide (1 < n) && (decide (128 ≤ b1) && decide (b1 ≤ 191))) (decide (1 < n) && (decide (160 ≤ b1) && decide (b1 ≤ 191))) (decide (2 < n) && (decide (128 ≤ b2) && decide (b2 ≤ 191))) (decide (1 < n) && (decide (128 ≤ b1) && decide (b1 ≤ 159))) (decide (1 < n) && (decide (144 ≤ b1) && decide (b1 ≤ 191))) (decide (3 < n) && (decide (128 ≤ b3) && decide (b3 ≤ 191))) (decide (1 < n) && (decide (128 ≤ b1) && decide (b1 ≤ 143)))
    let d := Lib.decodeN n c b1 b2 b3
    (s = 0 ∧ d.1 = 65533 ∧ d.2 = 1) ∨ (s = d.2 ∧ s ≠ 0 ∧ ¬ (d.1 = 65533 ∧ d.2 = 1)) := by
  have e1 : (b1 / 64 = 2) = (128 ≤ b1 ∧ b1 ≤ 191) := propext ⟨fun h => by omega, fun h => by omega⟩
  have e2 : (b2 / 64 = 2) = (128 ≤ b2 ∧ b2 ≤ 191) := propext ⟨fun h => by omega, fun h => by omega⟩
  have e3 : (b3 / 64 = 2) = (128 ≤ b3 ∧ b3 ≤ 191) := propext ⟨fun h => by omega, fun h => by omega⟩
  simp only [sizeF, Lib.decodeN, Bool.and_eq_true, decide_eq_true_eq, e1, e2, e3, ge_iff_le]
  rcases (by omega : (0 ≤ c ∧ c ≤ 127) ∨ (128 ≤ c ∧ c ≤ 193) ∨ (194 ≤ c ∧ c ≤ 223) ∨ (224 ≤ c ∧ c ≤ 224) ∨ (225 ≤ c ∧ c ≤ 236) ∨ (237 ≤ c ∧ c ≤ 237) ∨ (238 ≤ c ∧ c ≤ 239) ∨ (240 ≤ c ∧ c ≤ 240) ∨ (241 ≤ c ∧ c ≤ 243) ∨ (244 ≤ c ∧ c ≤ 244) ∨ (245 ≤ c ∧ c ≤ 255)) with hk | hk | hk | hk | hk | hk | hk | hk | hk | hk | hk
  · have h := hk
    simp only [(eq_true (by omega) : (c < 128) = True), (eq_false (by omega) : (194 ≤ c) = False), (eq_true (by omega) : (c ≤ 223) = True), (eq_false (by omega) : (c = 224) = False), (eq_false (by omega) : (c = 237) = False), (eq_false (by omega) : (225 ≤ c) = False), (eq_true (by omega) : (c ≤ 239) = True), (eq_true (by omega) : (c ≠ 237) = True), (eq_false (by omega) : (c = 240) = False), (eq_false (by omega) : (c = 244) = False), (eq_false (by omega) : (241 ≤ c) = False), (eq_true (by omega) : (c ≤ 243) = True), (eq_false (by omega) : (c / 32 = 6) = False), (eq_false (by omega) : (c / 16 = 14) = False), (eq_false (by omega) : (c / 8 = 30) = False), true_and, false_and, and_true, and_false, if_true, if_false]
    all_goals repeat' split
    all_goals first | (exfalso; omega) | ((try dsimp only); omega)
  · have h := hk
    simp only [(eq_false (by omega) : (c < 128) = False), (eq_false (by omega) : (194 ≤ c) = False), (eq_true (by omega) : (c ≤ 223) = True), (eq_false (by omega) : (c = 224) = False), (eq_false (by omega) : (c = 237) = False), (eq_false (by omega) : (225 ≤ c) = False), (eq_true (by omega) : (c ≤ 239) = True), (eq_true (by omega) : (c ≠ 237) = True), (eq_false (by omega) : (c = 240) = False), (eq_false (by omega) : (c = 244) = False), (eq_false (by omega) : (241 ≤ c) = False), (eq_true (by omega) : (c ≤ 243) = True), (eq_false (by omega) : (c / 16 = 14) = False), (eq_false (by omega) : (c / 8 = 30) = False), true_and, false_and, and_true, and_false, if_true, if_false]
    all_goals repeat' split
    all_goals first | (exfalso; omega) | ((try dsimp only); omega)
  · have h := hk
    simp only [(eq_false (by omega) : (c < 128) = False), (eq_true (by omega) : (194 ≤ c) = True), (eq_true (by omega) : (c ≤ 223) = True), (eq_false (by omega) : (c = 224) = False), (eq_false (by omega) : (c = 237) = False), (eq_false (by omega) : (225 ≤ c) = False), (eq_true (by omega) : (c ≤ 239) = True), (eq_true (by omega) : (c ≠ 237) = True), (eq_false (by omega) : (c = 240) = False), (eq_false (by omega) : (c = 244) = False), (eq_false (by omega) : (241 ≤ c) = False), (eq_true (by omega) : (c ≤ 243) = True), (eq_true (by omega) : (c / 32 = 6) = True), (eq_false (by omega) : (c / 16 = 14) = False), (eq_false (by omega) : (c / 8 = 30) = False), true_and, false_and, and_true, and_false, if_true, if_false]
    all_goals repeat' split
    all_goals first | (exfalso; omega) | ((try dsimp only); omega)
  · have h := hk
    simp only [(eq_false (by omega) : (c < 128) = False), (eq_true (by omega) : (194 ≤ c) = True), (eq_false (by omega) : (c ≤ 223) = False), (eq_true (by omega) : (c = 224) = True), (eq_false (by omega) : (c = 237) = False), (eq_false (by omega) : (225 ≤ c) = False), (eq_true (by omega) : (c ≤ 239) = True), (eq_true (by omega) : (c ≠ 237) = True), (eq_false (by omega) : (c = 240) = False), (eq_false (by omega) : (c = 244) = False), (eq_false (by omega) : (241 ≤ c) = False), (eq_true (by omega) : (c ≤ 243) = True), (eq_false (by omega) : (c / 32 = 6) = False), (eq_true (by omega) : (c / 16 = 14) = True), (eq_false (by omega) : (c / 8 = 30) = False), true_and, false_and, and_true, and_false, if_true, if_false]
    all_goals repeat' split
    all_goals first | (exfalso; omega) | ((try dsimp only); omega)
  · have h := hk
    simp only [(eq_false (by omega) : (c < 128) = False), (eq_true (by omega) : (194 ≤ c) = True), (eq_false (by omega) : (c ≤ 223) = False), (eq_false (by omega) : (c = 224) = False), (eq_false (by omega) : (c = 237) = False), (eq_true (by omega) : (225 ≤ c) = True), (eq_true (by omega) : (c ≤ 239) = True), (eq_true (by omega) : (c ≠ 237) = True), (eq_false (by omega) : (c = 240) = False), (eq_false (by omega) : (c = 244) = False), (eq_false (by omega) : (241 ≤ c) = False), (eq_true (by omega) : (c ≤ 243) = True), (eq_false (by omega) : (c / 32 = 6) = False), (eq_true (by omega) : (c / 16 = 14) = True), (eq_false (by omega) : (c / 8 = 30) = False), true_and, false_and, and_true, and_false, if_true, if_false]
    all_goals repeat' split
    all_goals first | (exfalso; omega) | ((try dsimp only); omega)
  · have h := hk
    simp only [(eq_false (by omega) : (c < 128) = False), (eq_true (by omega) : (194 ≤ c) = True), (eq_false (by omega) : (c ≤ 223) = False), (eq_false (by omega) : (c = 224) = False), (eq_true (by omega) : (c = 237) = True), (eq_true (by omega) : (225 ≤ c) = True), (eq_true (by omega) : (c ≤ 239) = True), (eq_false (by omega) : (c ≠ 237) = False), (eq_false (by omega) : (c = 240) = False), (eq_false (by omega) : (c = 244) = False), (eq_false (by omega) : (241 ≤ c) = False), (eq_true (by omega) : (c ≤ 243) = True), (eq_false (by omega) : (c / 32 = 6) = False), (eq_true (by omega) : (c / 16 = 14) = True), (eq_false (by omega) : (c / 8 = 30) = False), true_and, false_and, and_true, and_false, if_true, if_false]
    all_goals repeat' split
    all_goals first | (exfalso; omega) | ((try dsimp only); omega)
  · have h := hk
    simp only [(eq_false (by omega) : (c < 128) = False), (eq_true (by omega) : (194 ≤ c) = True), (eq_false (by omega) : (c ≤ 223) = False), (eq_false (by omega) : (c = 224) = False), (eq_false (by omega) : (c = 237) = False), (eq_true (by omega) : (225 ≤ c) = True), (eq_true (by omega) : (c ≤ 239) = True), (eq_true (by omega) : (c ≠ 237) = True), (eq_false (by omega) : (c = 240) = False), (eq_false (by omega) : (c = 244) = False), (eq_false (by omega) : (241 ≤ c) = False), (eq_true (by omega) : (c ≤ 243) = True), (eq_false (by omega) : (c / 32 = 6) = False), (eq_true (by omega) : (c / 16 = 14) = True), (eq_false (by omega) : (c / 8 = 30) = False), true_and, false_and, and_true, and_false, if_true, if_false]
    all_goals repeat' split
    all_goals first | (exfalso; omega) | ((try dsimp only); omega)
  · have h := hk
    simp only [(eq_false (by omega) : (c < 128) = False), (eq_true (by omega) : (194 ≤ c) = True), (eq_false (by omega) : (c ≤ 223) = False), (eq_false (by omega) : (c = 224) = False), (eq_false (by omega) : (c = 237) = False), (eq_true (by omega) : (225 ≤ c) = True), (eq_false (by omega) : (c ≤ 239) = False), (eq_true (by omega) : (c ≠ 237) = True), (eq_true (by omega) : (c = 240) = True), (eq_false (by omega) : (c = 244) = False), (eq_false (by omega) : (241 ≤ c) = False), (eq_true (by omega) : (c ≤ 243) = True), (eq_false (by omega) : (c / 32 = 6) = False), (eq_false (by omega) : (c / 16 = 14) = False), (eq_true (by omega) : (c / 8 = 30) = True), true_and, false_and, and_true, and_false, if_true, if_false]
    all_goals repeat' split
    all_goals first | (exfalso; omega) | ((try dsimp only); omega)
  · have h := hk
    simp only [(eq_false (by omega) : (c < 128) = False), (eq_true (by omega) : (194 ≤ c) = True), (eq_false (by omega) : (c ≤ 223) = False), (eq_false (by omega) : (c = 224) = False), (eq_false (by omega) : (c = 237) = False), (eq_true (by omega) : (225 ≤ c) = True), (eq_false (by omega) : (c ≤ 239) = False), (eq_true (by omega) : (c ≠ 237) = True), (eq_false (by omega) : (c = 240) = False), (eq_false (by omega) : (c = 244) = False), (eq_true (by omega) : (241 ≤ c) = True), (eq_true (by omega) : (c ≤ 243) = True), (eq_false (by omega) : (c / 32 = 6) = False), (eq_false (by omega) : (c / 16 = 14) = False), (eq_true (by omega) : (c / 8 = 30) = True), true_and, false_and, and_true, and_false, if_true, if_false]
    all_goals repeat' split
    all_goals first | (exfalso; omega) | ((try dsimp only); omega)
  · have h := hk
    simp only [(eq_false (by omega) : (c < 128) = False), (eq_true (by omega) : (194 ≤ c) = True), (eq_false (by omega) : (c ≤ 223) = False), (eq_false (by omega) : (c = 224) = False), (eq_false (by omega) : (c = 237) = False), (eq_true (by omega) : (225 ≤ c) = True), (eq_false (by omega) : (c ≤ 239) = False), (eq_true (by omega) : (c ≠ 237) = True), (eq_false (by omega) : (c = 240) = False), (eq_true (by omega) : (c = 244) = True), (eq_true (by omega) : (241 ≤ c) = True), (eq_false (by omega) : (c ≤ 243) = False), (eq_false (by omega) : (c / 32 = 6) = False), (eq_false (by omega) : (c / 16 = 14) = False), (eq_true (by omega) : (c / 8 = 30) = True), true_and, false_and, and_true, and_false, if_true, if_false]
    all_goals repeat' split
    all_goals first | (exfalso; omega) | ((try dsimp only); omega)
  · have h := hk
    simp only [(eq_false (by omega) : (c < 128) = False), (eq_true (by omega) : (194 ≤ c) = True), (eq_false (by omega) : (c ≤ 223) = False), (eq_false (by omega) : (c = 224) = False), (eq_false (by omega) : (c = 237) = False), (eq_true (by omega) : (225 ≤ c) = True), (eq_false (by omega) : (c ≤ 239) = False), (eq_true (by omega) : (c ≠ 237) = True), (eq_false (by omega) : (c = 240) = False), (eq_false (by omega) : (c = 244) = False), (eq_true (by omega) : (241 ≤ c) = True), (eq_false (by omega) : (c ≤ 243) = False), (eq_false (by omega) : (c / 32 = 6) = False), (eq_false (by omega) : (c / 16 = 14) = False), true_and, false_and, and_true, and_false, if_true, if_false]
    all_goals repeat' split
    all_goals first | (exfalso; omega) | ((try dsimp only); omega)
theorem toNat_getD (l : List UInt8) (i : Nat) : (l.getD i 0).toNat < 256 := (l.getD i 0).toNat_lt
/-- the reference's test of a place is the program's -/
theorem size_bad {l : List UInt8} {p : Nat} (hp : p < l.length) :
    badR (decA l p) = (decide (sizeS (l.drop p) = 0) || (decide ((l.getD p 0).toNat < 32) && !decide ((l.getD p 0).toNat = 9)) || decide ((l.getD p 0).toNat = 127)) ∧ (sizeS (l.drop p) ≠ 0 → sizeS (l.drop p) = (decA l p).2) := by
  have hd := size_dec (l.length - p) (l.getD p 0).toNat (l.getD (p + 1) 0).toNat (l.getD (p + 2) 0).toNat (l.getD (p + 3) 0).toNat (toNat_getD _ _) (toNat_getD _ _) (toNat_getD _ _) (toNat_getD _ _)
  have hc := Lib.decodeN_cases (l.length - p) (l.getD p 0).toNat (l.getD (p + 1) 0).toNat (l.getD (p + 2) 0).toNat (l.getD (p + 3) 0).toNat
  have ha : (l.getD p 0).toNat < 128 → Lib.decodeN (l.length - p) (l.getD p 0).toNat (l.getD (p + 1) 0).toNat (l.getD (p + 2) 0).toNat (l.getD (p + 3) 0).toNat = ((l.getD p 0).toNat, 1) := fun h => by rw [Lib.decodeN, if_pos h]
  have hs : sizeS (l.drop p) = sizeF (l.getD p 0).toNat (decide (1 < l.length - p) && (decide (128 ≤ (l.getD (p + 1) 0).toNat) && decide ((l.getD (p + 1) 0).toNat ≤ 191))) (decide (1 < l.length - p) && (decide (160 ≤ (l.getD (p + 1) 0).toNat) && decide ((l.getD (p + 1) 0).toNat ≤ 191))) (decide (2 < l.length - p) && (decide (128 ≤ (l.getD (p + 2) 0).toNat) && decide ((l.getD (p + 2) 0).toNat ≤ 191))) (decide (1 < l.length - p) && (decide (128 ≤ (l.getD (p + 1) 0).toNat) && decide ((l.getD (p + 1) 0).toNat ≤ 159))) (decide (1 < l.length - p) && (decide (144 ≤ (l.getD (p + 1) 0).toNat) && decide ((l.getD (p + 1) 0).toNat ≤ 191))) (decide (3 < l.length - p) && (decide (128 ≤ (l.getD (p + 3) 0).toNat) && decide ((l.getD (p + 3) 0).toNat ≤ 191))) (decide (1 < l.length - p) && (decide (128 ≤ (l.getD (p + 1) 0).toNat) && decide ((l.getD (p + 1) 0).toNat ≤ 143))) := by
    unfold sizeS atB
    simp only [List.length_drop, getD_drop, Nat.add_zero]
  dsimp only at hd
  rw [← hs] at hd
  rw [show decA l p = Lib.decodeN (l.length - p) (l.getD p 0).toNat (l.getD (p + 1) 0).toNat (l.getD (p + 2) 0).toNat (l.getD (p + 3) 0).toNat from decode_bs l p]
  have hge : 128 ≤ (l.getD p 0).toNat → 128 ≤ (Lib.decodeN (l.length - p) (l.getD p 0).toNat (l.getD (p + 1) 0).toNat (l.getD (p + 2) 0).toNat (l.getD (p + 3) 0).toNat).1 := fun h => by
    rcases hc with ⟨h1, h2⟩ | ⟨_, _, _, h1, h2⟩ | ⟨_, _, _, _, h1, h2⟩ | ⟨h1, _⟩ | h2
    · omega
    · rw [h2]; exact h1
    · rw [h2]; dsimp only; omega
    · omega
    · rw [h2]; decide
  clear hc hs
  generalize sizeS (l.drop p) = s at *
  generalize (l.getD p 0).toNat = c at *
  generalize Lib.decodeN (l.length - p) c (l.getD (p + 1) 0).toNat (l.getD (p + 2) 0).toNat (l.getD (p + 3) 0).toNat = d at *
  obtain ⟨r, m⟩ := d
  dsimp only at *
  refine ⟨?_, fun h => by omega⟩
  unfold badR
  rw [Bool.eq_iff_iff]
  simp only [Bool.or_eq_true, Bool.and_eq_true, beq_iff_eq, decide_eq_true_eq, Bool.not_eq_true', beq_eq_false_iff_ne, decide_eq_false_iff_not]
  by_cases hlt : c < 128
  · have h0 := ha hlt
    injection h0 with h0 h1
    omega
  · have h0 := hge (by omega)
    omega
end Go.Proofs.YtcbomomlojhghaaDoor
