/- For all texts: what stands behind a version, if it begins with no digit and holds neither a colon nor a hyphen, makes it earlier or later by its first sign alone. -/
import Derived.Test.YtlhnmafnioaojaaDoorVo
namespace Go.Proofs.YtlhnmafnioaojaaDoor
set_option linter.unusedSimpArgs false
set_option linter.unusedVariables false
open Go.RowKit

@[go_sem] theorem bs_add (l : List UInt8) (a : Array UInt8) : bs l ++ (ByteArray.mk a) = bs (l ++ a.toList) := by
  rcases a with ⟨a⟩
  exact bs_append l a
theorem takeWhile_app {p : UInt8 → Bool} {c : UInt8} (h : p c = false) (l t : List UInt8) : (l ++ c :: t).takeWhile p = l.takeWhile p ∧ (l ++ c :: t).dropWhile p = l.dropWhile p ++ c :: t := by
  induction l with
  | nil => simp [h]
  | cons x l ih => simp only [List.cons_append, List.takeWhile_cons, List.dropWhile_cons]; cases p x <;> simp [ih]
theorem digits_app {c : UInt8} (h : digB c = false) (l t : List UInt8) : digitsS (l ++ c :: t) = ((digitsS l).1, (digitsS l).2 ++ c :: t) := by
  have := takeWhile_app h l t
  simp [digitsS, this.1, this.2]
theorem key_app_le {c : UInt8} (h : digB c = false) (t : List UInt8) (n : Nat) : ∀ l : List UInt8, l.length ≤ n → keyS (l ++ c :: t) = keyS l ++ rankS (c :: t) :: keyS t := by
  induction n with
  | zero =>
    intro l hl
    obtain rfl : l = [] := List.eq_nil_of_length_eq_zero (by omega)
    exact keyS_sign h
  | succ n ih =>
    intro l hl
    rcases l with _ | ⟨d, l⟩
    · exact keyS_sign h
    · simp only [List.length_cons] at hl
      by_cases hd : digB d = true
      · have h1 : headDig (d :: l) = true := hd
        have h2 : headDig (d :: l ++ c :: t) = true := hd
        rw [keyS_dig h1, keyS_dig h2, digits_app h]
        have hlen : (digitsS (d :: l)).2.length ≤ n := by
          have := (List.dropWhile_suffix (l := l) digB).length_le
          simp only [digitsS, List.dropWhile_cons, hd, if_true]
          omega
        simp only [List.cons_append, List.append_assoc]
        rw [ih _ hlen]
      · have hd' : digB d = false := by simpa using hd
        rw [keyS_sign (l := l) hd']
        have e := keyS_sign (l := l ++ c :: t) hd'
        have e2 : rankS (d :: (l ++ c :: t)) = rankS (d :: l) := rfl
        rw [e2] at e
        rw [List.cons_append, e, ih l (by omega)]
        rfl
theorem key_app {c : UInt8} (h : digB c = false) (l t : List UInt8) : keyS (l ++ c :: t) = keyS l ++ rankS (c :: t) :: keyS t := key_app_le h t _ l (Nat.le_refl _)
theorem lexZ_app (k m : List Int) (x : Int) (hx : x ≠ 0) : lexZ (k ++ x :: m) k = Lib.compareInt x 0 := by
  induction k with
  | nil => simp [lexZ, hx]
  | cons y k ih => simp [lexZ, ih]
theorem part_app {c : UInt8} (h : digB c = false) (hr : rankS [c] ≠ 0) (l t : List UInt8) : partS (l ++ c :: t) l = Lib.compareInt (rankS [c]) 0 := by
  rw [partS_lex, key_app h]
  exact lexZ_app _ _ _ hr
theorem indexByte_app {c : UInt8} {x : List UInt8} (h : c ∉ x) (l : List UInt8) : Lib.indexByte (l ++ x) c = Lib.indexByte l c := by
  induction l with
  | nil =>
    have h1 := indexByte_mem x c
    have h2 : ¬ 0 ≤ Lib.indexByte x c := fun hh => h (h1.2.1 hh)
    have h3 : Lib.indexByte x c = -1 := by omega
    simpa [Lib.indexByte] using h3
  | cons y l ih => simp only [List.cons_append, Lib.indexByte, ih]
theorem lastB_app {c : UInt8} {x : List UInt8} (h : c ∉ x) (l : List UInt8) : lastB (l ++ x) c = lastB l c := by
  induction l with
  | nil => simpa [lastB] using lastB_none h
  | cons y l ih => simp only [List.cons_append, lastB, ih]
theorem cutE_app {x : List UInt8} (h : (58 : UInt8) ∉ x) (l : List UInt8) : cutE (l ++ x) = ((cutE l).1, (cutE l).2 ++ x) := by
  have hb := indexByte_lt l 58
  unfold cutE
  rw [indexByte_app h]
  split
  · rw [List.take_append_of_le_length (by omega), List.drop_append_of_le_length (by omega)]
  · rfl
theorem cutR_app {x : List UInt8} (h : (45 : UInt8) ∉ x) (l : List UInt8) : cutR (l ++ x) = if 0 ≤ lastB l 45 then ((cutR l).1, (cutR l).2 ++ x) else ((cutR l).1 ++ x, (cutR l).2) := by
  have hb := lastB_ge l 45
  unfold cutR
  rw [lastB_app h]
  split
  · rw [List.take_append_of_le_length (by omega), List.drop_append_of_le_length (by omega)]
  · rfl
theorem verS_parts {l e u r : List UInt8} (h : verS l = some (e, u, r)) : e = (cutE l).1 ∧ u = (cutR (cutE l).2).1 ∧ r = (cutR (cutE l).2).2 := by
  unfold verS at h
  split at h
  · cases h
  · split at h
    · cases h
    · split at h
      · simp only [Option.some.injEq, Prod.mk.injEq] at h
        exact ⟨h.1.symm, h.2.1.symm, h.2.2.symm⟩
      · cases h
theorem orS_zero (x : Int) : orS 0 0 x = x ∧ orS 0 x 0 = x := by unfold orS; grind
theorem cmpV_app {s t e u r e2 u2 r2 : List UInt8} {c : UInt8} (hc : digB c = false) (hr : rankS [c] ≠ 0) (h58 : (58 : UInt8) ∉ c :: t) (h45 : (45 : UInt8) ∉ c :: t)
    (hs : verS s = some (e, u, r)) (hx : verS (s ++ c :: t) = some (e2, u2, r2)) : (cmpV (s ++ c :: t) s).1 = Lib.compareInt (rankS [c]) 0 := by
  rw [cmpV_some hx hs]
  obtain ⟨rfl, rfl, rfl⟩ := verS_parts hs
  obtain ⟨rfl, rfl, rfl⟩ := verS_parts hx
  rw [cutE_app h58, cutR_app h45, partS_self]
  by_cases h0 : 0 ≤ lastB (cutE s).2 45
  · rw [if_pos h0]
    simp only [partS_self, part_app hc hr]
    exact (orS_zero _).1
  · rw [if_neg h0]
    simp only [partS_self, part_app hc hr]
    exact (orS_zero _).2
theorem cmpV_tilde {s t e u r e2 u2 r2 : List UInt8} (h58 : (58 : UInt8) ∉ t) (h45 : (45 : UInt8) ∉ t)
    (hs : verS s = some (e, u, r)) (hx : verS (s ++ 126 :: t) = some (e2, u2, r2)) : (cmpV (s ++ 126 :: t) s).1 = -1 := by
  have := cmpV_app (c := 126) (by decide) (by decide) (by simp [h58]) (by simp [h45]) hs hx
  rw [this]
  decide
theorem cmpV_plus {s t e u r e2 u2 r2 : List UInt8} (h58 : (58 : UInt8) ∉ t) (h45 : (45 : UInt8) ∉ t)
    (hs : verS s = some (e, u, r)) (hx : verS (s ++ 43 :: t) = some (e2, u2, r2)) : (cmpV (s ++ 43 :: t) s).1 = 1 := by
  have := cmpV_app (c := 43) (by decide) (by decide) (by simp [h58]) (by simp [h45]) hs hx
  rw [this]
  decide
theorem rev_len {s e u r : List UInt8} (h : verS s = some (e, u, r)) : r.length ≤ s.length := by
  obtain ⟨_, _, rfl⟩ := verS_parts h
  have h1 : (cutE s).2.length ≤ s.length := by unfold cutE; split <;> simp <;> omega
  have h2 : (cutR (cutE s).2).2.length ≤ (cutE s).2.length := by unfold cutR; split <;> simp <;> omega
  omega
theorem not_mem_of {t : List UInt8} {c : UInt8} (h : ∀ j, j < t.length → t[j]? ≠ some c) : c ∉ t := fun hm => by
  obtain ⟨j, hj⟩ := List.getElem?_of_mem hm
  exact h j (List.getElem?_eq_some_iff.1 hj).1 hj
end Go.Proofs.YtlhnmafnioaojaaDoor
