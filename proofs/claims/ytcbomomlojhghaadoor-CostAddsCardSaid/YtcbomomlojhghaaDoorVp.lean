/- Parts of versions held against each other: the plain functions. -/
import Derived.Test.YtcbomomlojhghaaDoorVs
namespace Go.Proofs.YtcbomomlojhghaaDoor
set_option linter.unusedSimpArgs false
set_option linter.unusedVariables false
open Go.RowKit

/-- signs: what is no digit at both beginnings; what is left -/
def signsS : List UInt8 → List UInt8 → Int × List UInt8 × List UInt8
  | [], b => (Lib.compareInt 0 (rankS b), [], b)
  | x :: a, b => if rankS (x :: a) = rankS b then (if rankS (x :: a) = 0 then (0, x :: a, b) else signsS a b.tail) else (Lib.compareInt (rankS (x :: a)) (rankS b), x :: a, b)
def numsS (a b : List UInt8) : Int := if (digitsS a).1.length = (digitsS b).1.length then cmpB (digitsS a).1 (digitsS b).1 else Lib.compareInt (digitsS a).1.length (digitsS b).1.length
def partF : Nat → List UInt8 → List UInt8 → Int
  | 0, _, _ => 0
  | n + 1, a, b =>
    if a = [] ∧ b = [] then 0
    else if (signsS a b).1 ≠ 0 then (signsS a b).1
    else if numsS (signsS a b).2.1 (signsS a b).2.2 ≠ 0 then numsS (signsS a b).2.1 (signsS a b).2.2
    else partF n (digitsS (signsS a b).2.1).2 (digitsS (signsS a b).2.2).2
def partS (a b : List UInt8) : Int := partF (a.length + b.length) a b

theorem compareInt_zero (x y : Int) : Lib.compareInt x y = 0 ↔ x = y := by unfold Lib.compareInt; grind
theorem rank_zero (l : List UInt8) : rankS l = 0 ↔ l = [] ∨ headDig l = true := by
  rcases l with _ | ⟨c, l⟩
  · simp [rankS]
  · simp only [rankS, headDig]
    have := c.toNat_lt
    by_cases h : digB c = true
    · simp [h]
    · simp only [h]
      by_cases h2 : letB c = true
      · have : 65 ≤ c.toNat := by simp [letB] at h2; omega
        simp; grind
      · simp; grind
theorem signs_len (a b : List UInt8) : (signsS a b).2.1.length ≤ a.length ∧ (signsS a b).2.2.length ≤ b.length := by
  induction a generalizing b with
  | nil => simp [signsS]
  | cons x a ih =>
    simp only [signsS]
    split
    · split
      · simp
      · have := ih b.tail
        simp at this ⊢
        omega
    · simp
/-- signs that are alike: both are at a digit or at their end -/
theorem signs_same {a b : List UInt8} (h : (signsS a b).1 = 0) : rankS (signsS a b).2.1 = 0 ∧ rankS (signsS a b).2.2 = 0 := by
  induction a generalizing b with
  | nil =>
    simp only [signsS, compareInt_zero] at h ⊢
    exact ⟨rfl, h.symm⟩
  | cons x a ih =>
    simp only [signsS] at h ⊢
    by_cases h1 : rankS (x :: a) = rankS b
    · rw [if_pos h1] at h ⊢
      by_cases h2 : rankS (x :: a) = 0
      · rw [if_pos h2] at h ⊢
        exact ⟨h2, by rw [← h1]; exact h2⟩
      · rw [if_neg h2] at h ⊢
        exact ih h
    · rw [if_neg h1] at h
      exact absurd ((compareInt_zero _ _).1 h) h1
theorem digits_len (a : List UInt8) : (digitsS a).1.length ≤ a.length ∧ (digitsS a).2.length ≤ a.length := by
  unfold digitsS
  have h1 := List.takeWhile_append_dropWhile (p := digB) (l := a)
  have h2 := congrArg List.length h1
  simp only [List.length_append] at h2
  have h3 := (List.dropWhile_suffix (l := a.takeWhile digB) (· == 48)).length_le
  simp only
  omega
/-- a round takes something away -/
theorem round_len {a b : List UInt8} (hne : ¬ (a = [] ∧ b = [])) (h : (signsS a b).1 = 0) :
    (digitsS (signsS a b).2.1).2.length + (digitsS (signsS a b).2.2).2.length < a.length + b.length := by
  have hs := signs_len a b
  have hz := signs_same h
  have hd1 := digits_len (signsS a b).2.1
  have hd2 := digits_len (signsS a b).2.2
  have key : ∀ l : List UInt8, rankS l = 0 → l ≠ [] → (digitsS l).2.length < l.length := by
    intro l hl hn
    rcases l with _ | ⟨c, l⟩
    · exact absurd rfl hn
    · have hc : digB c = true := by
        rcases (rank_zero _).1 hl with h | h
        · cases h
        · exact h
      have := (List.dropWhile_suffix (l := l) digB).length_le
      simp only [digitsS, List.dropWhile_cons, hc, if_true, List.length_cons]
      omega
  by_cases ha : (signsS a b).2.1.length < a.length
  · omega
  · by_cases hb : (signsS a b).2.2.length < b.length
    · omega
    · by_cases hna : (signsS a b).2.1 = []
      · have hbn : (signsS a b).2.2 ≠ [] := by
          intro e
          rw [hna] at hs ha
          rw [e] at hs hb
          apply hne
          constructor
          · apply List.eq_nil_of_length_eq_zero; simp only [List.length_nil] at ha; omega
          · apply List.eq_nil_of_length_eq_zero; simp only [List.length_nil] at hb; omega
        have := key _ hz.2 hbn
        omega
      · have := key _ hz.1 hna
        omega
theorem partF_more (n : Nat) : ∀ (m : Nat) (a b : List UInt8), a.length + b.length ≤ n → n ≤ m → partF m a b = partF n a b := by
  induction n with
  | zero =>
    intro m a b h _
    have ha : a = [] := List.eq_nil_of_length_eq_zero (by omega)
    have hb : b = [] := List.eq_nil_of_length_eq_zero (by omega)
    subst ha; subst hb
    cases m <;> simp [partF]
  | succ n ih =>
    intro m a b h hm
    obtain ⟨m, rfl⟩ : ∃ k, m = k + 1 := ⟨m - 1, by omega⟩
    simp only [partF]
    by_cases hne : a = [] ∧ b = []
    · rw [if_pos hne, if_pos hne]
    · rw [if_neg hne, if_neg hne]
      by_cases hs : (signsS a b).1 ≠ 0
      · rw [if_pos hs, if_pos hs]
      · rw [if_neg hs, if_neg hs]
        have := round_len hne (by simpa using hs)
        rw [ih m _ _ (by omega) (by omega)]
theorem partS_nil : partS [] [] = 0 := rfl
/-- a round of Part -/
theorem partS_round {a b : List UInt8} (hne : ¬ (a = [] ∧ b = [])) :
    partS a b = if (signsS a b).1 ≠ 0 then (signsS a b).1
      else if numsS (signsS a b).2.1 (signsS a b).2.2 ≠ 0 then numsS (signsS a b).2.1 (signsS a b).2.2
      else partS (digitsS (signsS a b).2.1).2 (digitsS (signsS a b).2.2).2 := by
  have hpos : 0 < a.length + b.length := by
    rcases a with _ | ⟨x, a⟩
    · rcases b with _ | ⟨y, b⟩
      · exact absurd ⟨rfl, rfl⟩ hne
      · simp
    · simp; omega
  unfold partS
  obtain ⟨n, hn⟩ : ∃ n, a.length + b.length = n + 1 := ⟨a.length + b.length - 1, by omega⟩
  rw [hn]
  simp only [partF]
  rw [if_neg hne]
  by_cases hs : (signsS a b).1 ≠ 0
  · rw [if_pos hs, if_pos hs]
  · rw [if_neg hs, if_neg hs]
    have := round_len hne (by simpa using hs)
    rw [partF_more _ n _ _ (Nat.le_refl _) (by omega)]
def orS (x y z : Int) : Int := if x ≠ 0 then x else if y ≠ 0 then y else z
/-- compare: of two versions; and whether both are -/
def cmpV (a b : List UInt8) : Int × Bool := match verS a, verS b with
  | some (e, u, r), some (f, v, s) => (orS (partS e f) (partS u v) (partS r s), true)
  | _, _ => (0, false)
/-- is it a version? -/
def isV (l : List UInt8) : Bool := (verS l).isSome
def holdsS (rel : Int) (a b : List UInt8) : Bool :=
  if rel = 0 then isV a else (cmpV a b).2 &&
    (if rel = 1 then decide ((cmpV a b).1 < 0) else if rel = 2 then decide ((cmpV a b).1 ≤ 0) else if rel = 3 then decide ((cmpV a b).1 = 0) else if rel = 4 then decide (0 ≤ (cmpV a b).1) else if rel = 5 then decide (0 < (cmpV a b).1) else false)
end Go.Proofs.YtcbomomlojhghaaDoor
