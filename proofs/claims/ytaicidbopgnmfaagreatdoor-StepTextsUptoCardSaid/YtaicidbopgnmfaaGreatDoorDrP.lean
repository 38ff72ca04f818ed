/- Plainly: the words of what is written; a step's text is read as it was. -/
import Derived.Test.YtaicidbopgnmfaaGreatDoorDrB
import Derived.Test.YtaicidbopgnmfaaGreatDoorWdP
namespace Go.Proofs.YtaicidbopgnmfaaGreatDoor
set_option linter.unusedSimpArgs false
set_option linter.unusedVariables false
theorem ixB_at : ∀ {l : List UInt8} {c : UInt8}, 0 ≤ Lib.indexByte l c → l[(Lib.indexByte l c).toNat]? = some c
  | [], c, h => by simp [Lib.indexByte] at h
  | x :: l, c, h => by
    have ih := @ixB_at l c
    have hg := (indexByte_lt l c).1
    by_cases hx : x = c
    · have : Lib.indexByte (x :: l) c = 0 := by simp [Lib.indexByte, hx]
      rw [this]; simp [hx]
    · have h2 : Lib.indexByte (x :: l) c = if 0 ≤ Lib.indexByte l c then Lib.indexByte l c + 1 else -1 := by simp only [Lib.indexByte]; grind
      rw [h2] at h ⊢
      by_cases h0 : 0 ≤ Lib.indexByte l c
      · rw [if_pos h0, show (Lib.indexByte l c + 1).toNat = (Lib.indexByte l c).toNat + 1 by omega, List.getElem?_cons_succ]
        exact ih h0
      · rw [if_neg h0] at h; omega
theorem lsB_at : ∀ {l : List UInt8} {c : UInt8}, 0 ≤ lastB l c → l[(lastB l c).toNat]? = some c
  | [], c, h => by simp [lastB] at h
  | x :: l, c, h => by
    have ih := @lsB_at l c
    unfold lastB at h ⊢
    by_cases h0 : 0 ≤ lastB l c
    · rw [if_pos h0, show (lastB l c + 1).toNat = (lastB l c).toNat + 1 by omega, List.getElem?_cons_succ]
      exact ih h0
    · rw [if_neg h0] at h ⊢
      by_cases hx : x = c
      · rw [if_pos hx]; simp [hx]
      · rw [if_neg hx] at h; omega
theorem mem_cut {l : List UInt8} {i : Nat} {d c : UInt8} (hd : l[i]? = some d) (h : c ∈ l) : c ∈ l.take i ∨ c = d ∨ c ∈ l.drop (i + 1) := by
  obtain ⟨hi, rfl⟩ := List.getElem?_eq_some_iff.1 hd
  rw [← List.take_append_drop i l, List.drop_eq_getElem_cons hi] at h
  rcases List.mem_append.1 h with h | h
  · exact .inl h
  · rcases List.mem_cons.1 h with h | h
    · exact .inr (.inl h)
    · exact .inr (.inr h)
theorem dig_black {c : UInt8} (h : digB c = true) : whB c = false := by
  rcases hw : whB c
  · rfl
  · unfold whB at hw
    simp only [Bool.or_eq_true, beq_iff_eq] at hw
    rcases hw with rfl | rfl <;> simp [digB] at h
theorem ok_black {b l : List UInt8} (h : okS b l = true) (hb : b.all (fun c => !whB c) = true) {c : UInt8} (hc : c ∈ l) : whB c = false := by
  have h1 := List.all_eq_true.1 h c hc
  simp only [Bool.or_eq_true] at h1
  rcases h1 with (h1 | h1) | h1
  · exact dig_black h1
  · rcases hw : whB c
    · rfl
    · unfold whB at hw
      simp only [Bool.or_eq_true, beq_iff_eq] at hw
      rcases hw with rfl | rfl <;> simp [letB] at h1
  · have := List.all_eq_true.1 hb c (by simpa using h1)
    simpa using this
/-- a version has no white space -/
theorem ver_black {l : List UInt8} (h : isV l = true) : l ≠ [] ∧ ∀ c ∈ l, whB c = false := by
  unfold isV verS at h
  by_cases h1 : l.length = 0 ∨ 48 < l.length
  · rw [if_pos h1] at h; cases h
  rw [if_neg h1] at h
  refine ⟨fun e => h1 (.inl (by rw [e]; rfl)), fun c hc => ?_⟩
  by_cases h2 : 0 ≤ lastB (cutE l).2 45 ∧ (cutR (cutE l).2).2 = []
  · rw [if_pos h2] at h; cases h
  rw [if_neg h2] at h
  rcases h3 : verOk (cutE l).1 (cutR (cutE l).2).1 (cutR (cutE l).2).2
  · rw [h3] at h; cases h
  unfold verOk at h3
  simp only [Bool.and_eq_true] at h3
  obtain ⟨⟨⟨⟨he, hv⟩, _⟩, _⟩, hu⟩ := h3
  have hru : ∀ x ∈ (cutE l).2, whB x = false := fun x hx => by
    unfold cutR at hu hv
    by_cases h0 : 0 ≤ lastB (cutE l).2 45
    · rw [if_pos h0] at hu hv
      rcases mem_cut (lsB_at h0) hx with h4 | h4 | h4
      · exact ok_black hu (by decide) h4
      · rw [h4]; decide
      · exact ok_black hv (by decide) h4
    · rw [if_neg h0] at hu
      exact ok_black hu (by decide) hx
  unfold epochS at he
  simp only [Bool.and_eq_true] at he
  unfold cutE at he hru
  by_cases h0 : 0 ≤ Lib.indexByte l 58
  · rw [if_pos h0] at he hru
    rcases mem_cut (ixB_at h0) hc with h4 | h4 | h4
    · exact dig_black (List.all_eq_true.1 he.2 c h4)
    · rw [h4]; decide
    · exact hru c h4
  · rw [if_neg h0] at hru
    exact hru c hc
theorem name_black {l : List UInt8} (h : nameS l = true) : l ≠ [] ∧ ∀ c ∈ l, whB c = false := by
  unfold nameS at h
  simp only [Bool.and_eq_true, decide_eq_true_eq] at h
  refine ⟨fun e => by rw [e] at h; simp at h, fun c hc => ?_⟩
  have hC : nmC c = true := by
    rcases l with _ | ⟨d, l⟩
    · cases hc
    · have h2 := h.2
      unfold nmOk at h2
      rw [Bool.and_eq_true] at h2
      rcases List.mem_cons.1 hc with rfl | hc
      · exact nmB_C h2.1
      · exact List.all_eq_true.1 h2.2 c hc
  rcases hw : whB c
  · rfl
  · unfold whB at hw
    simp only [Bool.or_eq_true, beq_iff_eq] at hw
    rcases hw with rfl | rfl <;> simp [nmC, nmB, smlB, digB] at hC
theorem word_black (k : Int) : ∀ c ∈ wordS k, whB c = false := by
  unfold wordS
  repeat' split
  all_goals decide
theorem words_one {u v : List UInt8} (h0 : u ≠ []) (h : ∀ c ∈ u, whB c = false) : wordsS (u ++ 32 :: v) = u :: wordsS v := by
  unfold wordsS
  rw [wsA_run u _ [] h, List.nil_append, wsA, if_pos (by decide), if_neg h0]
theorem words_end {u : List UInt8} (h0 : u ≠ []) (h : ∀ c ∈ u, whB c = false) : wordsS u = [u] := by
  have := wsA_run u [] [] h
  rw [List.append_nil, List.nil_append] at this
  unfold wordsS
  rw [this, wsA, if_neg h0]
/-- the kind of a word: the last below k -/
def kwS : Nat → List UInt8 → Int
  | 0, _ => 0
  | k + 1, a => if wordS (k : Int) = a then (k : Int) else kwS k a
def kindW (x : List UInt8) : Int := kwS 5 x
def parseW : List (List UInt8) → Stp × Int
  | [a, b] => if mayT ⟨kindW a, b, []⟩ then (⟨kindW a, b, []⟩, 0) else (⟨0, [], []⟩, 3)
  | [a, b, v] => if mayT ⟨kindW a, b, v⟩ then (⟨kindW a, b, v⟩, 0) else (⟨0, [], []⟩, 3)
  | _ => (⟨0, [], []⟩, 3)
def parseT (s : List UInt8) : Stp × Int := parseW (wordsS s)
theorem kw_one (a : List UInt8) : kwS 1 a = 0 := by
  unfold kwS
  split <;> rfl
theorem mayT_kind {st : Stp} (h : mayT st = true) : 1 ≤ st.kind ∧ st.kind ≤ 4 := by
  unfold mayT at h
  simp only [Bool.and_eq_true] at h
  have h1 := h.1.1
  refine Classical.not_not.1 fun hn => ?_
  rw [(word_nil st.kind).2 hn] at h1
  cases h1
theorem kindW_word {k : Int} (h : 1 ≤ k ∧ k ≤ 4) : kindW (wordS k) = k := by
  obtain rfl | rfl | rfl | rfl : k = 1 ∨ k = 2 ∨ k = 3 ∨ k = 4 := by omega
  all_goals decide
theorem text_parse {st : Stp} (h : mayT st = true) : parseT (textT st) = (st, 0) := by
  have hk := mayT_kind h
  have hm := h
  unfold mayT at hm
  simp only [Bool.and_eq_true] at hm
  obtain ⟨⟨h1, h2⟩, h3⟩ := hm
  obtain ⟨n0, nb⟩ := name_black h2
  have w0 : wordS st.kind ≠ [] := fun e => (word_nil st.kind).1 e hk
  obtain ⟨k, n, v⟩ := st
  dsimp only at *
  unfold textT
  rw [h, if_pos rfl]
  dsimp only
  by_cases k3 : k = 3
  · rw [if_pos k3] at h3 ⊢
    obtain ⟨v0, vb⟩ := ver_black h3
    have : wordsS (wordS k ++ [32] ++ n ++ ([32] ++ v)) = [wordS k, n, v] := by
      rw [show wordS k ++ [32] ++ n ++ ([32] ++ v) = wordS k ++ 32 :: (n ++ 32 :: v) by simp, words_one w0 (word_black k), words_one n0 nb, words_end v0 vb]
    unfold parseT
    rw [this]
    unfold parseW
    dsimp only
    rw [kindW_word hk, h, if_pos rfl]
  · rw [if_neg k3] at h3 ⊢
    obtain rfl : v = [] := by simpa using h3
    have : wordsS (wordS k ++ [32] ++ n ++ []) = [wordS k, n] := by
      rw [show wordS k ++ [32] ++ n ++ [] = wordS k ++ 32 :: n by simp, words_one w0 (word_black k), words_end n0 nb]
    unfold parseT
    rw [this]
    unfold parseW
    dsimp only
    rw [kindW_word hk, h, if_pos rfl]
theorem textT_nil (st : Stp) : textT st = [] ↔ mayT st = false := by
  unfold textT
  rcases h : mayT st
  · simp
  · simp
end Go.Proofs.YtaicidbopgnmfaaGreatDoor
