/- Parts held against each other as the reference does it: the plain side. -/
import Derived.Test.YtcbomomlojhghaaDoorVb
import Derived.Test.YtcbomomlojhghaaDoorMem
namespace Go.Proofs.YtcbomomlojhghaaDoor
set_option linter.unusedSimpArgs false
set_option linter.unusedVariables false
open Go.RowKit

def rrankS : List UInt8 → Int
  | [] => 0
  | c :: _ => if digB c then 0 else if c.toNat = 126 then -1 else if letB c then 1 + c.toNat else 300 + c.toNat
theorem rrank_zero (l : List UInt8) : rrankS l = 0 ↔ rankS l = 0 := by
  rcases l with _ | ⟨c, l⟩
  · simp [rrankS, rankS]
  · simp only [rrankS, rankS]
    by_cases h : digB c = true
    · simp [h]
    · by_cases h2 : letB c = true
      · have : 65 ≤ c.toNat := by simp [letB] at h2; omega
        simp only [h, h2]; grind
      · simp only [h, h2]; grind
theorem rrank_cmp (a b : List UInt8) : Lib.compareInt (rrankS a) (rrankS b) = Lib.compareInt (rankS a) (rankS b) := by
  have key : ∀ c : UInt8, letB c = true → 65 ≤ c.toNat ∧ c.toNat ≤ 122 := by intro c h; simp [letB] at h; omega
  rcases a with _ | ⟨x, a⟩ <;> rcases b with _ | ⟨y, b⟩ <;> simp only [rrankS, rankS]
  · have := key y; have := y.toNat_lt; unfold Lib.compareInt; grind
  · have := key x; have := x.toNat_lt; unfold Lib.compareInt; grind
  · have := key x; have := x.toNat_lt; have := key y; have := y.toNat_lt; unfold Lib.compareInt; grind
def skipS (l : List UInt8) : List UInt8 := (l.dropWhile (fun c => !digB c)).dropWhile (· == 48)
theorem signs_skip {a b : List UInt8} (h : (signsS a b).1 = 0) : a.dropWhile (fun c => !digB c) = (signsS a b).2.1 ∧ b.dropWhile (fun c => !digB c) = (signsS a b).2.2 := by
  have base : ∀ l : List UInt8, rankS l = 0 → l.dropWhile (fun c => !digB c) = l := by
    intro l hl
    rcases l with _ | ⟨c, l⟩
    · rfl
    · rcases (rank_zero _).1 hl with h | h
      · cases h
      · have : digB c = true := h
        simp [this]
  have hd : ∀ (c : UInt8) (l : List UInt8), rankS (c :: l) ≠ 0 → digB c = false := by
    intro c l hl
    cases hc : digB c
    · rfl
    · exact absurd ((rank_zero (c :: l)).2 (.inr hc)) hl
  induction a generalizing b with
  | nil =>
    simp only [signsS, compareInt_zero] at h ⊢
    exact ⟨rfl, base b h.symm⟩
  | cons x a ih =>
    simp only [signsS] at h ⊢
    by_cases h1 : rankS (x :: a) = rankS b
    · rw [if_pos h1] at h ⊢
      by_cases h2 : rankS (x :: a) = 0
      · rw [if_pos h2] at h ⊢
        exact ⟨base _ h2, base _ (by rw [← h1]; exact h2)⟩
      · rw [if_neg h2] at h ⊢
        have hb : rankS b ≠ 0 := by rw [← h1]; exact h2
        rcases b with _ | ⟨y, b⟩
        · exact absurd rfl hb
        have hx := hd x a h2
        have hy := hd y b hb
        have := ih h
        simp only [List.dropWhile_cons, hx, hy, Bool.not_false, if_true]
        exact this
    · rw [if_neg h1] at h
      exact absurd ((compareInt_zero _ _).1 h) h1
theorem dropNought {A : List UInt8} (h : rankS A = 0) : A.dropWhile (· == 48) = (digitsS A).1 ++ (digitsS A).2 := by
  unfold digitsS
  induction A with
  | nil => rfl
  | cons x A ih =>
    have hx : digB x = true := by
      rcases (rank_zero _).1 h with h | h
      · cases h
      · exact h
    by_cases h48 : x = 48
    · subst h48
      simp only [List.dropWhile_cons, List.takeWhile_cons, hx, if_true, beq_self_eq_true]
      by_cases hA : rankS A = 0
      · exact ih hA
      · have hn : ∀ y B, A = y :: B → digB y = false := by
          intro y B e
          cases hy : digB y
          · rfl
          · exact absurd ((rank_zero A).2 (.inr (by rw [e]; exact hy))) hA
        rcases A with _ | ⟨y, B⟩
        · rfl
        · have hy := hn y B rfl
          have h4 : (y == 48) = false := by
            rw [beq_eq_false_iff_ne]
            rintro rfl
            cases hy
          simp [List.takeWhile_cons, hy, h4]
    · have h4 : (x == 48) = false := by simpa using h48
      simp only [List.dropWhile_cons, List.takeWhile_cons, hx, if_true, h4]
      simp [List.takeWhile_append_dropWhile]
theorem skip_parts {a b : List UInt8} (h : (signsS a b).1 = 0) :
    skipS a = (digitsS (signsS a b).2.1).1 ++ (digitsS (signsS a b).2.1).2 ∧ skipS b = (digitsS (signsS a b).2.2).1 ++ (digitsS (signsS a b).2.2).2 := by
  have hs := signs_skip h
  have hz := signs_same h
  unfold skipS
  rw [hs.1, hs.2]
  exact ⟨dropNought hz.1, dropNought hz.2⟩
theorem mem_takeWhile_ {p : UInt8 → Bool} {c : UInt8} : ∀ {l : List UInt8}, c ∈ l.takeWhile p → p c = true
  | [], h => by simp at h
  | x :: l, h => by
    simp only [List.takeWhile_cons] at h
    split at h
    · rcases List.mem_cons.1 h with rfl | h
      · assumption
      · exact mem_takeWhile_ h
    · cases h
theorem takeWhile_dropWhile_ {p : UInt8 → Bool} : ∀ l : List UInt8, (l.dropWhile p).takeWhile p = []
  | [] => rfl
  | x :: l => by
    simp only [List.dropWhile_cons]
    split
    · exact takeWhile_dropWhile_ l
    · rename_i hx; simp [hx]
theorem run_parts (A : List UInt8) : ((digitsS A).1 ++ (digitsS A).2).takeWhile digB = (digitsS A).1 := by
  have h1 : ∀ c ∈ (digitsS A).1, digB c = true := fun c hc => mem_takeWhile_ ((List.dropWhile_suffix (l := A.takeWhile digB) (· == 48)).subset hc)
  rw [List.takeWhile_append_of_pos h1, show (digitsS A).2.takeWhile digB = [] from takeWhile_dropWhile_ A, List.append_nil]
theorem bytesLess_same (a : List UInt8) : Op.bytesLess a a = false := by
  induction a with
  | nil => rfl
  | cons x a ih => simp [Op.bytesLess, ih]
theorem cmpB_same (a : List UInt8) : cmpB a a = 0 := by simp [cmpB, bytesLess_same]
theorem cmpB_diff {p q : List UInt8} {i : Nat} {x y : UInt8} (h : p.take i = q.take i) (hx : p[i]? = some x) (hy : q[i]? = some y) (hne : x.toNat ≠ y.toNat) : cmpB p q = Lib.compareInt x.toNat y.toNat := by
  induction p generalizing q i with
  | nil => simp at hx
  | cons a p ih =>
    rcases q with _ | ⟨b, q⟩
    · simp at hy
    rcases i with _ | i
    · simp at hx hy
      subst hx; subst hy
      have hab : ¬ a = b := fun e => hne (by rw [e])
      have hlt : decide (a < b) = decide ((a.toNat : Int) < b.toNat) := by
        rw [Bool.eq_iff_iff]; simp [UInt8.lt_iff_toNat_lt]
      have hbe : (a == b) = false := by simpa using hab
      have hb : Op.bytesLess (a :: p) (b :: q) = decide ((a.toNat : Int) < b.toNat) := by simp only [Op.bytesLess, hlt, hbe, Bool.false_and, Bool.or_false]
      unfold cmpB Lib.compareInt
      rw [hb]
      simp only [decide_eq_true_eq, List.cons.injEq, hab, false_and, if_false]
      split
      · rfl
      · rw [if_pos (by omega)]
    · simp only [List.take_succ_cons, List.cons.injEq] at h
      obtain ⟨rfl, h⟩ := h
      have := ih (q := q) (i := i) h (by simpa using hx) (by simpa using hy)
      rw [← this]
      simp [cmpB, Op.bytesLess]
end Go.Proofs.YtcbomomlojhghaaDoor
