/- For all runs of digits that begin with no nought: they are held against each other by their lengths, then by their digits from the left. -/
import Derived.Test.YtlhnmafnioaojaaDoorVt
namespace Go.Proofs.YtlhnmafnioaojaaDoor
set_option linter.unusedSimpArgs false
set_option linter.unusedVariables false
open Go.RowKit

theorem run_self {X : List UInt8} (hX : X.all digB = true) : X.takeWhile digB = X ∧ X.dropWhile digB = [] := by
  induction X with
  | nil => simp
  | cons x X ih =>
    simp only [List.all_cons, Bool.and_eq_true] at hX
    have := ih hX.2
    simp [hX.1, this]
theorem key_all {l : List UInt8} (h : l.all digB = true) : keyS (49 :: l) = 0 :: ((l.length : Int) + 1) :: 49 :: l.map (fun d => (d.toNat : Int)) := by
  have hd : headDig (49 :: l) = true := (by decide : digB 49 = true)
  have hall : (49 :: l).all digB = true := by rw [List.all_cons, h]; decide
  have hs := run_self hall
  have e : digitsS (49 :: l) = (49 :: l, []) := by
    unfold digitsS
    rw [hs.1, hs.2]
    rfl
  rw [keyS_dig hd, e]
  simp [keyS_nil]
theorem lexZ_pre (k a b : List Int) : lexZ (k ++ a) (k ++ b) = lexZ a b := by
  induction k with
  | nil => rfl
  | cons x k ih => simp [lexZ, ih]
def longL (j x : Nat) : List UInt8 := 49 :: (List.replicate j 55 ++ [48 + UInt8.ofNat x])
theorem dig_nat {x : Nat} (h : x < 10) : ((48 + UInt8.ofNat x : UInt8).toNat : Int) = 48 + x ∧ digB (48 + UInt8.ofNat x) = true := by
  have : x = 0 ∨ x = 1 ∨ x = 2 ∨ x = 3 ∨ x = 4 ∨ x = 5 ∨ x = 6 ∨ x = 7 ∨ x = 8 ∨ x = 9 := by omega
  rcases this with rfl | rfl | rfl | rfl | rfl | rfl | rfl | rfl | rfl | rfl <;> decide
theorem long_all {j x : Nat} (h : x < 10) (t : List UInt8) (ht : t.all digB = true) : (List.replicate j (55 : UInt8) ++ (48 + UInt8.ofNat x) :: t).all digB = true := by
  rw [List.all_append, List.all_cons, (dig_nat h).2, ht]
  simp [digB]
theorem long_part {j x y : Nat} (hx : x < 10) (hy : y < 10) : partS (49 :: (List.replicate j 55 ++ [48 + UInt8.ofNat x])) (49 :: (List.replicate j 55 ++ [48 + UInt8.ofNat y])) = Lib.compareInt x y := by
  rw [partS_lex, key_all (long_all hx [] rfl), key_all (long_all hy [] rfl)]
  simp only [List.length_append, List.length_replicate, List.length_cons, List.length_nil, lexZ, if_true, List.map_append, lexZ_pre, List.map_cons, List.map_nil, (dig_nat hx).1, (dig_nat hy).1]
  simp only [cI_val]
  grind
theorem long_more {j x : Nat} (hx : x < 10) : partS (49 :: (List.replicate j 55 ++ [48 + UInt8.ofNat x])) (49 :: (List.replicate j 55 ++ [48 + UInt8.ofNat x, 48])) = -1 := by
  rw [partS_lex, key_all (long_all hx [] rfl), key_all (long_all hx [48] (by decide))]
  simp only [List.length_append, List.length_replicate, List.length_cons, List.length_nil, lexZ, if_true]
  simp only [cI_val]
  grind
theorem long_tilde {j x : Nat} : partS (49 :: (List.replicate j 55 ++ [48 + UInt8.ofNat x, 126])) (49 :: (List.replicate j 55 ++ [48 + UInt8.ofNat x])) = -1 := by
  have := part_app (c := 126) (by decide) (by decide) (49 :: (List.replicate j 55 ++ [48 + UInt8.ofNat x])) []
  have e : (49 :: (List.replicate j (55 : UInt8) ++ [48 + UInt8.ofNat x])) ++ [126] = 49 :: (List.replicate j 55 ++ [48 + UInt8.ofNat x, 126]) := by simp
  rw [e] at this
  rw [this]
  decide
end Go.Proofs.YtlhnmafnioaojaaDoor
