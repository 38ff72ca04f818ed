/- Plainly: what is printed, and what is made of it with gaps and remarks, is read as it was. -/
import Derived.Test.YtcbomomlojhghaaDoorRbP
namespace Go.Proofs.YtcbomomlojhghaaDoor
set_option linter.unusedSimpArgs false
set_option linter.unusedVariables false
theorem white_one : whiteL [32] := fun c hc => by
  rw [List.mem_singleton.1 hc]
  decide
theorem lin_print : ∀ {l : List Stp}, l.all mayQ = true → linS (printQ l) = l.map (bodyG [32])
  | [], _ => linS_nil
  | q :: l, h => by
    simp only [List.all_cons, Bool.and_eq_true] at h
    show linS (lineQ q ++ printQ l) = _
    rw [line_body h.1, List.append_assoc, List.singleton_append, linS_app (body_ok h.1 white_one).2.2, lin_print h.2]
    rfl
theorem reads_print : ∀ {l : List Stp}, l.all mayQ = true → Reads (l.map (bodyG [32])) l
  | [], _ => .nil
  | q :: l, h => by
    simp only [List.all_cons, Bool.and_eq_true] at h
    have h1 := body_rest (T := []) h.1 white_one (by simp) (fun c hc => by cases hc)
    have h2 := words_body (T := []) h.1 white_one (by simp) (fun c hc => by cases hc)
    rw [List.append_nil] at h1 h2
    exact .ask h1 (by rw [h2]; exact parse_body h.1) (reads_print h.2)
theorem parse_print {l : List Stp} (hm : mayQs l = 0) : parseR (printQ l) = (l, 0, 0) := by
  obtain ⟨_, h6, ha, _⟩ := mayQs_ok hm
  have hl := printQ_len ha
  refine parse_reads (by omega) (fun s hs => ?_) (by rw [lin_print ha]; exact reads_print ha) hm
  rw [lin_print ha] at hs
  obtain ⟨q, hq, rfl⟩ := List.mem_map.1 hs
  have := body_ok (List.all_eq_true.1 ha q hq) white_one
  exact ⟨Nat.le_trans this.2.1 (by simp), this.1⟩
/-- a sign in the other text -/
def wideC (G : List UInt8) (c : UInt8) : List UInt8 := if c = 32 then G else if c = 10 then G ++ 10 :: (G ++ [10, 35, 10]) else [c]
def wideB (G b : List UInt8) : List UInt8 := b.flatMap (wideC G)
theorem wide_app (G a b : List UInt8) : wideB G (a ++ b) = wideB G a ++ wideB G b := List.flatMap_append
theorem wide_ink (G : List UInt8) : ∀ {u : List UInt8}, (∀ c ∈ u, ink c = true) → wideB G u = u
  | [], _ => rfl
  | c :: u, h => by
    have hn := ink_ne (h c (by simp))
    show wideC G c ++ wideB G u = _
    rw [wide_ink G fun d hd => h d (by simp [hd]), wideC, if_neg hn.2, if_neg hn.1]
    rfl
theorem wide_body (G : List UInt8) {q : Stp} (h : mayQ q = true) : wideB G (bodyG [32] q) = bodyG G q := by
  unfold bodyG
  by_cases hn : q.name = []
  · rw [if_pos hn, if_pos hn, wide_ink G (word_ink _)]
  · rw [if_neg hn, if_neg hn, wide_app, wide_ink G (word_ink _), wide_app, wide_ink G (arg_ink h hn).2]
    congr 2
    show wideC G 32 ++ [] = G
    rw [List.append_nil, wideC, if_pos rfl]
theorem wide_line (G : List UInt8) {q : Stp} (h : mayQ q = true) : wideB G (lineQ q) = (bodyG G q ++ G) ++ 10 :: (G ++ 10 :: ([35] ++ 10 :: [])) := by
  rw [line_body h, wide_app, wide_body G h]
  show _ ++ (wideC G 10 ++ []) = _
  rw [List.append_nil, wideC, if_neg (by decide), if_pos rfl]
  simp
theorem white_no {G : List UInt8} (h : whiteL G) : ∀ c ∈ G, c ≠ 10 := fun c hc => by
  have := h c hc
  rintro rfl
  revert this
  decide
theorem lin_wide {G : List UInt8} (hG : whiteL G) : ∀ {l : List Stp}, l.all mayQ = true → linS (wideB G (printQ l)) = l.flatMap fun q => [bodyG G q ++ G, G, [35]]
  | [], _ => linS_nil
  | q :: l, h => by
    simp only [List.all_cons, Bool.and_eq_true] at h
    have h10 : ∀ c ∈ bodyG G q ++ G, c ≠ 10 := fun c hc => by
      rcases List.mem_append.1 hc with hc | hc
      · exact (body_ok h.1 hG).2.2 c hc
      · exact white_no hG c hc
    show linS (wideB G (lineQ q ++ printQ l)) = [bodyG G q ++ G, G, [35]] ++ _
    have e : ∀ X : List UInt8, ((bodyG G q ++ G) ++ 10 :: (G ++ 10 :: ([35] ++ 10 :: []))) ++ X = (bodyG G q ++ G) ++ 10 :: (G ++ 10 :: ([35] ++ 10 :: X)) := fun X => by simp
    rw [wide_app, wide_line G h.1, e, linS_app h10, linS_app (white_no hG), linS_app (by decide), lin_wide hG h.2]
    rfl
theorem rest_white {G : List UInt8} (h : whiteL G) : restL G = true := by
  unfold restL
  rw [words_white h]
  rfl
theorem reads_wide {G : List UInt8} (hG : whiteL G) (hG0 : G ≠ []) : ∀ {l : List Stp}, l.all mayQ = true → Reads (l.flatMap fun q => [bodyG G q ++ G, G, [35]]) l
  | [], _ => .nil
  | q :: l, h => by
    simp only [List.all_cons, Bool.and_eq_true] at h
    exact .ask (body_rest h.1 hG hG0 hG) (by rw [words_body h.1 hG hG0 hG]; exact parse_body h.1) (.rest (rest_white hG) (.rest (by decide +kernel) (reads_wide hG hG0 h.2)))
theorem wide_len {G : List UInt8} (hG : G.length ≤ 8) : ∀ b : List UInt8, (wideB G b).length ≤ 20 * b.length
  | [] => Nat.le_refl _
  | c :: b => by
    have ih := wide_len hG b
    show (wideC G c ++ wideB G b).length ≤ _
    have h1 : (wideC G c).length ≤ 20 := by
      unfold wideC
      split
      · omega
      · split
        · simp; omega
        · simp
    rw [List.length_append, List.length_cons]
    omega
def headW : List UInt8 := [35, 32, 120, 10, 10]
theorem parse_wide {G : List UInt8} (hG : whiteL G) (hG0 : G ≠ []) (hGl : G.length ≤ 8) {l : List Stp} (hm : mayQs l = 0) : parseR (headW ++ wideB G (printQ l)) = (l, 0, 0) ∧ (headW ++ wideB G (printQ l)).length ≤ 20000 := by
  obtain ⟨_, h6, ha, _⟩ := mayQs_ok hm
  have hl := printQ_len ha
  have hwl := wide_len hGl (printQ l)
  have htot : (headW ++ wideB G (printQ l)).length ≤ 20000 := by
    rw [List.length_append]
    have : headW.length = 5 := rfl
    omega
  have hlin : linS (headW ++ wideB G (printQ l)) = [35, 32, 120] :: [] :: (l.flatMap fun q => [bodyG G q ++ G, G, [35]]) := by
    rw [← lin_wide hG ha]
    rw [show headW ++ wideB G (printQ l) = [35, 32, 120] ++ 10 :: ([] ++ 10 :: wideB G (printQ l)) from rfl, linS_app (by decide), linS_app (fun c hc => by cases hc)]
  have hGa : G.all okC = true := List.all_eq_true.2 fun c hc => by unfold okC; rw [hG c hc, Bool.or_true]
  refine ⟨parse_reads (by omega) (fun s hs => ?_) (by rw [hlin]; exact .rest (by decide +kernel) (.rest (by decide +kernel) (reads_wide hG hG0 ha))) hm, htot⟩
  rw [hlin] at hs
  rcases List.mem_cons.1 hs with rfl | hs
  · exact ⟨by decide, by decide⟩
  rcases List.mem_cons.1 hs with rfl | hs
  · exact ⟨by decide, by decide⟩
  obtain ⟨q, hq, hs⟩ := List.mem_flatMap.1 hs
  have hb := body_ok (List.all_eq_true.1 ha q hq) hG
  simp only [List.mem_cons, List.not_mem_nil, or_false] at hs
  rcases hs with rfl | rfl | rfl
  · refine ⟨by rw [List.length_append]; omega, ?_⟩
    rw [List.all_append, hb.1, hGa]
    rfl
  · exact ⟨by omega, hGa⟩
  · exact ⟨by decide, by decide⟩
/-- the gap -/
def gapN : Nat → List UInt8
  | 0 => [32]
  | m + 1 => gapN m ++ [9, 32]
theorem gapN_is : ∀ m, whiteL (gapN m) ∧ gapN m ≠ [] ∧ (gapN m).length = 1 + 2 * m
  | 0 => ⟨white_one, by simp [gapN], rfl⟩
  | m + 1 => by
    obtain ⟨h1, _, h3⟩ := gapN_is m
    refine ⟨fun c hc => ?_, by simp [gapN], by rw [gapN, List.length_append, h3]; simp; omega⟩
    rcases List.mem_append.1 hc with hc | hc
    · exact h1 c hc
    · simp only [List.mem_cons, List.not_mem_nil, or_false] at hc
      rcases hc with rfl | rfl <;> decide
theorem wide_step {G b : List UInt8} {k : Nat} {c : UInt8} (h : b[k]? = some c) : wideB G (b.take (k + 1)) = wideB G (b.take k) ++ wideC G c := by
  rw [take_step h, wide_app]
  congr 1
  show wideC G c ++ [] = _
  rw [List.append_nil]
end Go.Proofs.YtcbomomlojhghaaDoor
