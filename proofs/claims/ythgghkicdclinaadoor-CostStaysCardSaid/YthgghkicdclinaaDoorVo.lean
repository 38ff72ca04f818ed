/- For all texts: holding two parts of versions against each other is a comparison, sign by sign, of two lists of numbers behind which stand noughts without end. So it is an order. -/
import Derived.Test.YthgghkicdclinaaDoorVq
namespace Go.Proofs.YthgghkicdclinaaDoor
set_option linter.unusedSimpArgs false
set_option linter.unusedVariables false
open Go.RowKit

def sgn (x : Int) : Int := Lib.compareInt x 0
/-- two lists of numbers, noughts behind them, from the left -/
def lexZ : List Int → List Int → Int
  | [], [] => 0
  | [], y :: b => if 0 = y then lexZ [] b else Lib.compareInt 0 y
  | x :: a, [] => if x = 0 then lexZ a [] else Lib.compareInt x 0
  | x :: a, y :: b => if x = y then lexZ a b else Lib.compareInt x y
theorem cI_val (x y : Int) : Lib.compareInt x y = if x < y then -1 else if y < x then 1 else 0 := by unfold Lib.compareInt; grind
theorem lexZ_self (a : List Int) : lexZ a a = 0 := by induction a <;> simp [lexZ, *]
theorem lexZ_val (a b : List Int) : lexZ a b = -1 ∨ lexZ a b = 0 ∨ lexZ a b = 1 := by
  fun_induction lexZ a b <;> grind [cI_val]
theorem lexZ_swap (a b : List Int) : lexZ b a = - lexZ a b := by
  fun_induction lexZ a b <;> simp only [lexZ] <;> grind [cI_val, lexZ]
/-- the three laws of an order, of which one holds whatever the signs -/
def ord (x y z : Int) : Prop := (x ≤ 0 ∧ y ≤ 0 → z ≤ 0) ∧ (x < 0 ∧ y ≤ 0 → z < 0) ∧ (x ≤ 0 ∧ y < 0 → z < 0) ∧ (0 ≤ x ∧ 0 ≤ y → 0 ≤ z) ∧ (0 < x ∧ 0 ≤ y → 0 < z) ∧ (0 ≤ x ∧ 0 < y → 0 < z) ∧ (x = 0 → z = y) ∧ (y = 0 → z = x)
theorem step_ord {x y z t u v : Int} (h : ord t u v) : ord (if x = y then t else Lib.compareInt x y) (if y = z then u else Lib.compareInt y z) (if x = z then v else Lib.compareInt x z) := by
  unfold ord at *
  simp only [cI_val]
  by_cases h1 : x = y <;> by_cases h2 : y = z <;> by_cases h3 : x = z <;> simp only [h1, h2, h3, if_true, if_false] <;> grind
theorem lexZ_ord (a b c : List Int) : ord (lexZ a b) (lexZ b c) (lexZ a c) := by
  induction a generalizing b c with
  | nil =>
    induction b generalizing c with
    | nil => unfold ord; simp [lexZ]
    | cons y b ih =>
      cases c with
      | nil =>
        have := step_ord (x := 0) (y := y) (z := 0) (ih [])
        simp only [lexZ, if_true] at *
        exact this
      | cons z c => simpa only [lexZ] using step_ord (x := 0) (y := y) (z := z) (ih c)
  | cons x a ih =>
    cases b with
    | nil =>
      cases c with
      | nil =>
        have := step_ord (x := x) (y := 0) (z := 0) (ih [] [])
        simp only [lexZ, if_true] at *
        exact this
      | cons z c => simpa only [lexZ] using step_ord (x := x) (y := 0) (z := z) (ih [] c)
    | cons y b =>
      cases c with
      | nil => simpa only [lexZ] using step_ord (x := x) (y := y) (z := 0) (ih b [])
      | cons z c => simpa only [lexZ] using step_ord (x := x) (y := y) (z := z) (ih b c)

/-- a part of a version as such a list: a sign that is no digit by its rank; digits by a nought, how many they are, and each of them -/
def keyF : Nat → List UInt8 → List Int
  | 0, _ => []
  | _, [] => []
  | n + 1, c :: l => if digB c then 0 :: ((digitsS (c :: l)).1.length : Int) :: ((digitsS (c :: l)).1.map (fun d => (d.toNat : Int)) ++ keyF n (digitsS (c :: l)).2) else rankS (c :: l) :: keyF n l
def keyS (l : List UInt8) : List Int := keyF l.length l
theorem keyF_more (n : Nat) : ∀ (m : Nat) (l : List UInt8), l.length ≤ n → n ≤ m → keyF m l = keyF n l := by
  induction n with
  | zero =>
    intro m l h _
    obtain rfl : l = [] := List.eq_nil_of_length_eq_zero (by omega)
    cases m <;> simp [keyF]
  | succ n ih =>
    intro m l h hm
    obtain ⟨m, rfl⟩ : ∃ k, m = k + 1 := ⟨m - 1, by omega⟩
    rcases l with _ | ⟨c, l⟩
    · simp [keyF]
    · simp only [keyF]
      simp only [List.length_cons] at h
      by_cases hc : digB c = true
      · rw [if_pos hc, if_pos hc]
        have : (digitsS (c :: l)).2.length ≤ l.length := by
          have := (List.dropWhile_suffix (l := l) digB).length_le
          simp only [digitsS, List.dropWhile_cons, hc, if_true]
          omega
        rw [ih m _ (by omega) (by omega)]
      · rw [if_neg hc, if_neg hc, ih m _ (by omega) (by omega)]
theorem keyS_nil : keyS [] = [] := rfl
theorem keyS_sign {c : UInt8} {l : List UInt8} (h : digB c = false) : keyS (c :: l) = rankS (c :: l) :: keyS l := by
  unfold keyS
  simp only [List.length_cons, keyF, h]
  simp
theorem keyS_dig {l : List UInt8} (h : headDig l = true) : keyS l = 0 :: ((digitsS l).1.length : Int) :: ((digitsS l).1.map (fun d => (d.toNat : Int)) ++ keyS (digitsS l).2) := by
  rcases l with _ | ⟨c, l⟩
  · simp [headDig] at h
  · simp only [headDig] at h
    unfold keyS
    simp only [List.length_cons, keyF, h, if_true]
    have : (digitsS (c :: l)).2.length ≤ l.length := by
      have := (List.dropWhile_suffix (l := l) digB).length_le
      simp only [digitsS, List.dropWhile_cons, h, if_true]
      omega
    rw [keyF_more _ l.length _ (Nat.le_refl _) this]
/-- at a digit or at the end, noughts aside, the key reads alike -/
theorem lexZ_nil_zero (a : List Int) : lexZ [] (0 :: 0 :: a) = lexZ [] a ∧ lexZ (0 :: 0 :: a) [] = lexZ a [] := by simp [lexZ]
theorem cmpB_lex : ∀ (a b : List UInt8), a.length = b.length → ∀ k m : List Int, lexZ (a.map (fun d => (d.toNat : Int)) ++ k) (b.map (fun d => (d.toNat : Int)) ++ m) = if cmpB a b ≠ 0 then cmpB a b else lexZ k m
  | [], [], _, k, m => by simp [cmpB, Op.bytesLess]
  | [], y :: b, h, _, _ => by simp at h
  | x :: a, [], h, _, _ => by simp at h
  | x :: a, y :: b, h, k, m => by
    have ih := cmpB_lex a b (by simpa using h) k m
    simp only [List.map_cons, List.cons_append, lexZ]
    by_cases hxy : x = y
    · subst hxy
      have : cmpB (x :: a) (x :: b) = cmpB a b := by simp [cmpB, Op.bytesLess]
      rw [if_pos rfl, ih, this]
    · have hn : x.toNat ≠ y.toNat := fun e => hxy (UInt8.toNat_inj.1 e)
      have : cmpB (x :: a) (y :: b) = Lib.compareInt x.toNat y.toNat := by
        simp [cmpB, Op.bytesLess, cI_val, hxy, UInt8.lt_iff_toNat_lt]
        grind
      rw [if_neg (by omega), this, if_pos]
      rw [cI_val]; grind
theorem nums_lex {a b : List UInt8} (ha : rankS a = 0) (hb : rankS b = 0) : lexZ (keyS a) (keyS b) = if numsS a b ≠ 0 then numsS a b else lexZ (keyS (digitsS a).2) (keyS (digitsS b).2) := by
  have hl : lexZ (0 :: ((digitsS a).1.length : Int) :: ((digitsS a).1.map (fun d => (d.toNat : Int)) ++ keyS (digitsS a).2)) (0 :: ((digitsS b).1.length : Int) :: ((digitsS b).1.map (fun d => (d.toNat : Int)) ++ keyS (digitsS b).2)) = if numsS a b ≠ 0 then numsS a b else lexZ (keyS (digitsS a).2) (keyS (digitsS b).2) := by
    simp only [lexZ, if_true]
    unfold numsS
    by_cases h : (digitsS a).1.length = (digitsS b).1.length
    · rw [if_pos (by omega), if_pos h, cmpB_lex _ _ h]
    · rw [if_neg (by omega), if_neg h, if_pos]
      rw [cI_val]; grind
  rcases (rank_zero a).1 ha with rfl | ha
  · rcases (rank_zero b).1 hb with rfl | hb
    · rfl
    · rw [keyS_dig hb, ← hl]
      simp [digitsS, keyS_nil, lexZ]
  · rcases (rank_zero b).1 hb with rfl | hb
    · rw [keyS_dig ha, ← hl]
      simp [digitsS, keyS_nil, lexZ]
    · rw [keyS_dig ha, keyS_dig hb, hl]
theorem key_head {l : List UInt8} : ∃ r, (l = [] ∧ keyS l = []) ∨ keyS l = rankS l :: r := by
  rcases l with _ | ⟨c, l⟩
  · exact ⟨[], .inl ⟨rfl, rfl⟩⟩
  · by_cases h : digB c = true
    · exact ⟨_, .inr (by rw [keyS_dig (l := c :: l) (by simpa [headDig] using h)]; simp [rankS, h]; rfl)⟩
    · exact ⟨_, .inr (keyS_sign (by simpa using h))⟩
theorem rank_nil : rankS [] = 0 := rfl
theorem lex_head {a b : List UInt8} (h : rankS a ≠ rankS b) : lexZ (keyS a) (keyS b) = Lib.compareInt (rankS a) (rankS b) := by
  obtain ⟨r, ⟨rfl, ha⟩ | ha⟩ := key_head (l := a) <;> obtain ⟨q, ⟨rfl, hb⟩ | hb⟩ := key_head (l := b)
  · exact absurd rfl h
  · rw [rank_nil] at h ⊢; rw [hb]; simp only [keyS_nil, lexZ]; rw [if_neg h]
  · rw [rank_nil] at h ⊢; rw [ha]; simp only [keyS_nil, lexZ]; rw [if_neg h]
  · rw [ha, hb]; simp only [lexZ]; rw [if_neg h]
def sel (x y : Int) : Int := if x = 0 then y else x
theorem sel_zero (y : Int) : sel 0 y = y := rfl
theorem sel_not {x : Int} (y : Int) (h : x ≠ 0) : sel x y = x := by simp [sel, h]
theorem signs_lex (a b : List UInt8) : lexZ (keyS a) (keyS b) = sel (signsS a b).1 (lexZ (keyS (signsS a b).2.1) (keyS (signsS a b).2.2)) := by
  induction a generalizing b with
  | nil =>
    have e : signsS [] b = (Lib.compareInt 0 (rankS b), [], b) := rfl
    rw [e]
    by_cases h : rankS [] = rankS b
    · rw [rank_nil] at h
      rw [(compareInt_zero _ _).2 h, sel_zero]
    · rw [lex_head h]
      rw [rank_nil] at h ⊢
      exact (sel_not _ (fun e => h ((compareInt_zero _ _).1 e))).symm
  | cons x a ih =>
    by_cases h : rankS (x :: a) = rankS b
    · by_cases h0 : rankS (x :: a) = 0
      · have e : signsS (x :: a) b = (0, x :: a, b) := by simp only [signsS]; rw [if_pos h, if_pos h0]
        rw [e, sel_zero]
      · have e : signsS (x :: a) b = signsS a b.tail := by simp only [signsS]; rw [if_pos h, if_neg h0]
        rw [e, ← ih b.tail]
        have hx : digB x = false := Bool.not_eq_true _ ▸ fun (e : digB x = true) => h0 (by simp [rankS, e])
        rcases b with _ | ⟨y, b⟩
        · exact absurd (h.trans rank_nil) h0
        · have hy : digB y = false := Bool.not_eq_true _ ▸ fun (e : digB y = true) => h0 (by rw [h]; simp [rankS, e])
          rw [keyS_sign hx, keyS_sign hy]
          simp only [lexZ, List.tail_cons]
          rw [if_pos h]
    · have e : signsS (x :: a) b = (Lib.compareInt (rankS (x :: a)) (rankS b), x :: a, b) := by simp only [signsS]; rw [if_neg h]
      rw [e, lex_head h]
      exact (sel_not _ (fun e => h ((compareInt_zero _ _).1 e))).symm
theorem partF_lex (n : Nat) : ∀ a b : List UInt8, a.length + b.length ≤ n → partS a b = lexZ (keyS a) (keyS b) := by
  induction n with
  | zero =>
    intro a b h
    obtain rfl : a = [] := List.eq_nil_of_length_eq_zero (by omega)
    obtain rfl : b = [] := List.eq_nil_of_length_eq_zero (by omega)
    simp [partS_nil, keyS_nil, lexZ]
  | succ n ih =>
    intro a b h
    by_cases hne : a = [] ∧ b = []
    · obtain ⟨rfl, rfl⟩ := hne; simp [partS_nil, keyS_nil, lexZ]
    · rw [partS_round hne, signs_lex]
      by_cases hs : (signsS a b).1 ≠ 0
      · rw [if_pos hs, sel_not _ hs]
      · rw [if_neg hs]
        have hs' : (signsS a b).1 = 0 := by simpa using hs
        have hr := round_len hne hs'
        have hz := signs_same hs'
        rw [nums_lex hz.1 hz.2, ih _ _ (by omega), hs', sel_zero]
theorem partS_lex (a b : List UInt8) : partS a b = lexZ (keyS a) (keyS b) := partF_lex _ a b (Nat.le_refl _)
theorem partS_self (a : List UInt8) : partS a a = 0 := by rw [partS_lex, lexZ_self]
theorem partS_swap (a b : List UInt8) : partS b a = - partS a b := by rw [partS_lex, partS_lex, lexZ_swap]
theorem partS_val (a b : List UInt8) : partS a b = -1 ∨ partS a b = 0 ∨ partS a b = 1 := by rw [partS_lex]; exact lexZ_val _ _
theorem partS_ord (a b c : List UInt8) : ord (partS a b) (partS b c) (partS a c) := by rw [partS_lex, partS_lex, partS_lex]; exact lexZ_ord _ _ _
theorem orS_swap (x y z : Int) : orS (-x) (-y) (-z) = - orS x y z := by unfold orS; grind
theorem orS_ord {x y z x' y' z' x2 y2 z2 : Int} (h : ord x y z) (h' : ord x' y' z') (h2 : ord x2 y2 z2) : ord (orS x x' x2) (orS y y' y2) (orS z z' z2) := by
  unfold ord orS at *
  grind
theorem cmpV_some {a b e u r f v s : List UInt8} (ha : verS a = some (e, u, r)) (hb : verS b = some (f, v, s)) : cmpV a b = (orS (partS e f) (partS u v) (partS r s), true) := by simp [cmpV, ha, hb]
theorem cmpV_self (a : List UInt8) : (cmpV a a).1 = 0 := by
  rcases h : verS a with _ | ⟨e, u, r⟩
  · simp [cmpV, h]
  · simp [cmpV, h, partS_self, orS]
theorem cmpV_swap (a b : List UInt8) : (cmpV b a).1 = - (cmpV a b).1 := by
  rcases ha : verS a with _ | ⟨e, u, r⟩ <;> rcases hb : verS b with _ | ⟨f, v, s⟩
  · simp [cmpV, ha, hb]
  · simp [cmpV, ha, hb]
  · simp [cmpV, ha, hb]
  · rw [cmpV_some ha hb, cmpV_some hb ha, partS_swap e f, partS_swap u v, partS_swap r s]
    exact orS_swap _ _ _
theorem cmpV_ord {a b c : List UInt8} (ha : isV a = true) (hb : isV b = true) (hc : isV c = true) : ord (cmpV a b).1 (cmpV b c).1 (cmpV a c).1 := by
  unfold isV at ha hb hc
  rcases ha' : verS a with _ | ⟨e, u, r⟩
  · rw [ha'] at ha; cases ha
  · rcases hb' : verS b with _ | ⟨f, v, s⟩
    · rw [hb'] at hb; cases hb
    · rcases hc' : verS c with _ | ⟨g, w, t⟩
      · rw [hc'] at hc; cases hc
      · rw [cmpV_some ha' hb', cmpV_some hb' hc', cmpV_some ha' hc']
        exact orS_ord (partS_ord _ _ _) (partS_ord _ _ _) (partS_ord _ _ _)
end Go.Proofs.YthgghkicdclinaaDoor
