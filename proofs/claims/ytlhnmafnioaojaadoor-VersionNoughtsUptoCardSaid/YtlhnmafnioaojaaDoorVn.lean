/- For all texts: noughts put ahead of each run of digits leave the list of numbers by which parts are held against each other as it was. -/
import Derived.Test.YtlhnmafnioaojaaDoorVo
namespace Go.Proofs.YtlhnmafnioaojaaDoor
set_option linter.unusedSimpArgs false
set_option linter.unusedVariables false
open Go.RowKit

/-- m noughts ahead of each run of digits; pd: is the sign ahead a digit? -/
def insN (m : Nat) : Bool → List UInt8 → List UInt8
  | _, [] => []
  | pd, c :: l => (if digB c && !pd then List.replicate m 48 else []) ++ c :: insN m (digB c) l
theorem insN_true (m : Nat) (l : List UInt8) : insN m true l = l.takeWhile digB ++ insN m false (l.dropWhile digB) := by
  induction l with
  | nil => rfl
  | cons c l ih =>
    simp only [insN, List.takeWhile_cons, List.dropWhile_cons]
    cases h : digB c
    · simp [insN, h]
    · simp [ih]
theorem run_split {X Y : List UInt8} (hX : X.all digB = true) (hY : headDig Y = false) : (X ++ Y).takeWhile digB = X ∧ (X ++ Y).dropWhile digB = Y := by
  induction X with
  | nil =>
    rcases Y with _ | ⟨y, Y⟩
    · simp
    · have : digB y = false := hY
      simp [this]
  | cons x X ih =>
    simp only [List.all_cons, Bool.and_eq_true] at hX
    have := ih hX.2
    simp [hX.1, this]
theorem drop_head (l : List UInt8) : headDig (l.dropWhile digB) = false := by
  induction l with
  | nil => rfl
  | cons c l ih =>
    simp only [List.dropWhile_cons]
    cases h : digB c
    · simpa [headDig] using h
    · simpa using ih
theorem insN_head {m : Nat} {l : List UInt8} (h : headDig l = false) : headDig (insN m false l) = false := by
  rcases l with _ | ⟨c, l⟩
  · rfl
  · have : digB c = false := h
    simp [insN, this, headDig]
theorem take_all (l : List UInt8) : (l.takeWhile digB).all digB = true := by
  induction l with
  | nil => rfl
  | cons c l ih =>
    simp only [List.takeWhile_cons]
    cases h : digB c <;> simp [h, ih]
theorem noughts_drop (m : Nat) (Y : List UInt8) : (List.replicate m (48 : UInt8) ++ Y).dropWhile (· == 48) = Y.dropWhile (· == 48) := by
  induction m with
  | zero => rfl
  | succ m ih => simp [List.replicate_succ, ih]
theorem ins_digits {m : Nat} {d : UInt8} {l : List UInt8} (h : digB d = true) : digitsS (insN m false (d :: l)) = ((digitsS (d :: l)).1, insN m false (digitsS (d :: l)).2) := by
  have e : insN m false (d :: l) = (List.replicate m 48 ++ d :: l.takeWhile digB) ++ insN m false (l.dropWhile digB) := by
    simp [insN, h, insN_true]
  have hall : (List.replicate m (48 : UInt8) ++ d :: l.takeWhile digB).all digB = true := by
    rw [List.all_append, List.all_cons, h, take_all]
    simp [digB]
  have hs := run_split hall (insN_head (m := m) (drop_head l))
  unfold digitsS
  rw [e, hs.1, hs.2, noughts_drop]
  simp [h]
theorem key_ins_le (m n : Nat) : ∀ l : List UInt8, l.length ≤ n → keyS (insN m false l) = keyS l := by
  induction n with
  | zero =>
    intro l hl
    obtain rfl : l = [] := List.eq_nil_of_length_eq_zero (by omega)
    rfl
  | succ n ih =>
    intro l hl
    rcases l with _ | ⟨c, l⟩
    · rfl
    · simp only [List.length_cons] at hl
      by_cases hc : digB c = true
      · have h1 : headDig (c :: l) = true := hc
        have h2 : headDig (insN m false (c :: l)) = true := by
          simp only [insN, hc]
          rcases m with _ | m
          · simpa [headDig] using hc
          · simp [List.replicate_succ, headDig, digB]
        rw [keyS_dig h1, keyS_dig h2, ins_digits hc]
        have hlen : (digitsS (c :: l)).2.length ≤ n := by
          have := (List.dropWhile_suffix (l := l) digB).length_le
          simp only [digitsS, List.dropWhile_cons, hc, if_true]
          omega
        simp only
        rw [ih _ hlen]
      · have hc' : digB c = false := by simpa using hc
        have e : insN m false (c :: l) = c :: insN m false l := by simp [insN, hc']
        rw [e, keyS_sign hc', keyS_sign hc', ih l (by omega)]
        rfl
theorem key_ins (m : Nat) (l : List UInt8) : keyS (insN m false l) = keyS l := key_ins_le m _ l (Nat.le_refl _)
theorem part_ins (m : Nat) (a b : List UInt8) : partS a (insN m false a) = 0 ∧ partS (insN m false a) b = partS a b := by
  constructor
  · rw [partS_lex, key_ins, lexZ_self]
  · rw [partS_lex, key_ins, partS_lex]
/-- is the sign ahead of place k a digit? -/
def aheadDig (a : List UInt8) : Nat → Bool
  | 0 => false
  | k + 1 => match a[k]? with | some c => digB c | none => false
theorem ins_step {m : Nat} {a q : List UInt8} {k : Nat} {c : UInt8} (hc : a[k]? = some c) (h : q ++ insN m (aheadDig a k) (a.drop k) = insN m false a) :
    (q ++ (if digB c && !aheadDig a k then List.replicate m 48 else []) ++ [c]) ++ insN m (aheadDig a (k + 1)) (a.drop (k + 1)) = insN m false a := by
  obtain ⟨hk, rfl⟩ := List.getElem?_eq_some_iff.1 hc
  rw [← h, List.drop_eq_getElem_cons hk]
  simp [insN, aheadDig, hk]
end Go.Proofs.YtlhnmafnioaojaaDoor
