/- Plainly: a request that was printed is read as it was, with other gaps and with remarks, too. -/
import Derived.Test.YtcbomomlojhghaaDoorRgE
import Derived.Test.YtcbomomlojhghaaDoorSb
import Derived.Test.YtcbomomlojhghaaDoorPqB
import Derived.Test.YtcbomomlojhghaaDoorPrP
namespace Go.Proofs.YtcbomomlojhghaaDoor
set_option linter.unusedSimpArgs false
set_option linter.unusedVariables false
open Go.RowKit
/-- a sign that leaves ink -/
def ink (c : UInt8) : Bool := decide (33 ≤ c.toNat) && decide (c.toNat ≤ 126)
theorem ink_black {c : UInt8} (h : ink c = true) : whB c = false := by
  rcases hw : whB c
  · rfl
  · unfold whB at hw
    simp only [Bool.or_eq_true, beq_iff_eq] at hw
    rcases hw with rfl | rfl <;> simp [ink] at h
theorem ink_ne {c : UInt8} (h : ink c = true) : c ≠ 10 ∧ c ≠ 32 := by
  refine ⟨?_, ?_⟩ <;> (rintro rfl; simp [ink] at h)
theorem dig_ink {c : UInt8} (h : digB c = true) : ink c = true := by
  unfold digB at h
  unfold ink
  simp only [Bool.and_eq_true, decide_eq_true_eq] at h ⊢
  omega
theorem let_ink {c : UInt8} (h : letB c = true) : ink c = true := by
  unfold letB at h
  unfold ink
  simp only [Bool.and_eq_true, Bool.or_eq_true, decide_eq_true_eq] at h ⊢
  omega
theorem ok_ink {b l : List UInt8} (h : okS b l = true) (hb : b.all ink = true) {c : UInt8} (hc : c ∈ l) : ink c = true := by
  have h1 := List.all_eq_true.1 h c hc
  simp only [Bool.or_eq_true] at h1
  rcases h1 with (h1 | h1) | h1
  · exact dig_ink h1
  · exact let_ink h1
  · exact List.all_eq_true.1 hb c (by simpa using h1)
theorem ixB_is : ∀ {l : List UInt8} {c : UInt8}, 0 ≤ Lib.indexByte l c → l[(Lib.indexByte l c).toNat]? = some c
  | [], c, h => by simp [Lib.indexByte] at h
  | x :: l, c, h => by
    have ih := @ixB_is l c
    have hg := (indexByte_lt l c).1
    by_cases hx : x = c
    · have : Lib.indexByte (x :: l) c = 0 := by simp [Lib.indexByte, hx]
      rw [this]; simp [hx]
    · have h2 : Lib.indexByte (x :: l) c = if 0 ≤ Lib.indexByte l c then Lib.indexByte l c + 1 else -1 := by simp only [Lib.indexByte]; grind
      rw [h2] at h ⊢
      by_cases h0 : 0 ≤ Lib.indexByte l c
      · rw [if_pos h0, show (Lib.indexByte l c + 1).toNat = (Lib.indexByte l c).toNat + 1 by omega, List.getElem?_cons_succ]
        exact ih h0
      · rw [if_neg h0] at h; omega
theorem lsB_is : ∀ {l : List UInt8} {c : UInt8}, 0 ≤ lastB l c → l[(lastB l c).toNat]? = some c
  | [], c, h => by simp [lastB] at h
  | x :: l, c, h => by
    have ih := @lsB_is l c
    unfold lastB at h ⊢
    by_cases h0 : 0 ≤ lastB l c
    · rw [if_pos h0, show (lastB l c + 1).toNat = (lastB l c).toNat + 1 by omega, List.getElem?_cons_succ]
      exact ih h0
    · rw [if_neg h0] at h ⊢
      by_cases hx : x = c
      · rw [if_pos hx]; simp [hx]
      · rw [if_neg hx] at h; omega
theorem mem_part {l : List UInt8} {i : Nat} {d c : UInt8} (hd : l[i]? = some d) (h : c ∈ l) : c ∈ l.take i ∨ c = d ∨ c ∈ l.drop (i + 1) := by
  obtain ⟨hi, rfl⟩ := List.getElem?_eq_some_iff.1 hd
  rw [← List.take_append_drop i l, List.drop_eq_getElem_cons hi] at h
  rcases List.mem_append.1 h with h | h
  · exact .inl h
  · rcases List.mem_cons.1 h with h | h
    · exact .inr (.inl h)
    · exact .inr (.inr h)
theorem ver_ink {l : List UInt8} (h : isV l = true) : l ≠ [] ∧ ∀ c ∈ l, ink c = true := by
  unfold isV verS at h
  by_cases h1 : l.length = 0 ∨ 48 < l.length
  · rw [if_pos h1] at h; cases h
  rw [if_neg h1] at h
  refine ⟨fun e => h1 (.inl (by rw [e]; rfl)), fun c hc => ?_⟩
  by_cases h2 : 0 ≤ lastB (cutE l).2 45 ∧ (cutR (cutE l).2).2 = []
  · rw [if_pos h2] at h; cases h
  rw [if_neg h2] at h
  rcases h3 : verOk (cutE l).1 (cutR (cutE l).2).1 (cutR (cutE l).2).2
  · rw [h3] at h; cases h
  unfold verOk at h3
  simp only [Bool.and_eq_true] at h3
  obtain ⟨⟨⟨⟨he, hv⟩, _⟩, _⟩, hu⟩ := h3
  have hru : ∀ x ∈ (cutE l).2, ink x = true := fun x hx => by
    unfold cutR at hu hv
    by_cases h0 : 0 ≤ lastB (cutE l).2 45
    · rw [if_pos h0] at hu hv
      rcases mem_part (lsB_is h0) hx with h4 | h4 | h4
      · exact ok_ink hu (by decide) h4
      · rw [h4]; decide
      · exact ok_ink hv (by decide) h4
    · rw [if_neg h0] at hu
      exact ok_ink hu (by decide) hx
  unfold epochS at he
  simp only [Bool.and_eq_true] at he
  unfold cutE at he hru
  by_cases h0 : 0 ≤ Lib.indexByte l 58
  · rw [if_pos h0] at he hru
    rcases mem_part (ixB_is h0) hc with h4 | h4 | h4
    · exact dig_ink (List.all_eq_true.1 he.2 c h4)
    · rw [h4]; decide
    · exact hru c h4
  · rw [if_neg h0] at hru
    exact hru c hc
theorem nmC_ink {c : UInt8} (h : nmC c = true) : ink c = true ∧ c ≠ 61 := by
  unfold nmC nmB smlB digB at h
  simp only [Bool.or_eq_true, decide_eq_true_eq, Bool.and_eq_true] at h
  refine ⟨?_, ?_⟩
  · unfold ink
    simp only [Bool.and_eq_true, decide_eq_true_eq]
    omega
  · rintro rfl
    revert h
    decide
theorem name_ink {l : List UInt8} (h : nameS l = true) : l ≠ [] ∧ ∀ c ∈ l, ink c = true ∧ c ≠ 61 := by
  refine ⟨(name_black h).1, fun c hc => nmC_ink ?_⟩
  unfold nameS at h
  simp only [Bool.and_eq_true, decide_eq_true_eq] at h
  rcases l with _ | ⟨d, l⟩
  · cases hc
  · have h2 := h.2
    unfold nmOk at h2
    rw [Bool.and_eq_true] at h2
    rcases List.mem_cons.1 hc with rfl | hc
    · exact nmB_C h2.1
    · exact List.all_eq_true.1 h2.2 c hc
theorem word_ink (k : Int) : ∀ c ∈ wordQ k, ink c = true := by
  unfold wordQ
  repeat' split
  all_goals decide
/-- what stands behind the word -/
def argQ (q : Stp) : List UInt8 := q.name ++ (if q.ver = [] then [] else 61 :: q.ver)
/-- a line without its end, the gap given -/
def bodyG (G : List UInt8) (q : Stp) : List UInt8 := if q.name = [] then wordQ q.kind else wordQ q.kind ++ (G ++ argQ q)
theorem may_parts {q : Stp} (h : mayQ q = true) : wordQ q.kind ≠ [] ∧ 1 ≤ q.kind ∧ q.kind ≤ 7 ∧ ((q.name = [] ∧ q.ver = [] ∧ namQ q.kind = false) ∨ (nameS q.name = true ∧ namQ q.kind = true ∧ (q.ver = [] ∨ q.kind = 1 ∧ isV q.ver = true))) := by
  obtain ⟨k, n, v⟩ := q
  unfold mayQ at h
  simp only [Bool.and_eq_true, Bool.or_eq_true] at h
  obtain ⟨⟨h0, h1⟩, h2⟩ := h
  dsimp only at *
  have hw : wordQ k ≠ [] := by simpa using h0
  have hk : 1 ≤ k ∧ k ≤ 7 := Classical.not_not.1 fun hn => hw ((wordQ_nil _).2 hn)
  refine ⟨hw, hk.1, hk.2, ?_⟩
  rcases hn : namQ k
  · rw [hn] at h1
    refine .inl ⟨by simpa using h1, ?_, rfl⟩
    rcases h2 with h2 | ⟨h2, _⟩
    · simpa using h2
    · exfalso
      have : k = 1 := by simpa [verQ] using h2
      rw [this] at hn
      cases hn
  · rw [hn] at h1
    refine .inr ⟨h1, rfl, ?_⟩
    rcases h2 with h2 | ⟨h2, h3⟩
    · exact .inl (by simpa using h2)
    · exact .inr ⟨by simpa [verQ] using h2, h3⟩
theorem line_body {q : Stp} (h : mayQ q = true) : lineQ q = bodyG [32] q ++ [10] := by
  obtain ⟨_, _, _, h1⟩ := may_parts h
  unfold lineQ bodyG argQ
  rcases h1 with ⟨h1, h2, _⟩ | ⟨h1, _, _⟩
  · rw [if_pos h1, if_pos h1, if_pos h2]
    simp
  · rw [if_neg (name_black h1).1, if_neg (name_black h1).1]
    simp
theorem arg_ink {q : Stp} (h : mayQ q = true) (hn : q.name ≠ []) : argQ q ≠ [] ∧ ∀ c ∈ argQ q, ink c = true := by
  obtain ⟨_, _, _, h1⟩ := may_parts h
  rcases h1 with ⟨h1, _, _⟩ | ⟨h1, _, h2⟩
  · exact absurd h1 hn
  · unfold argQ
    refine ⟨fun e => hn (List.append_eq_nil_iff.1 e).1, fun c hc => ?_⟩
    rcases List.mem_append.1 hc with hc | hc
    · exact ((name_ink h1).2 c hc).1
    · split at hc
      · cases hc
      · rename_i hv
        rcases h2 with h2 | ⟨_, h2⟩
        · exact absurd h2 hv
        · rcases List.mem_cons.1 hc with rfl | hc
          · decide
          · exact (ver_ink h2).2 c hc
/-- white space and nothing else -/
def whiteL (G : List UInt8) : Prop := ∀ c ∈ G, whB c = true
theorem ws_white0 : ∀ {G v : List UInt8}, whiteL G → wsA (G ++ v) [] = wsA v []
  | [], v, _ => rfl
  | c :: G, v, h => by
    rw [List.cons_append, wsA, if_pos (h c (by simp)), if_pos rfl]
    exact ws_white0 fun d hd => h d (by simp [hd])
theorem ws_gap {G v cur : List UInt8} (h : whiteL G) (h0 : G ≠ []) (hc : cur ≠ []) : wsA (G ++ v) cur = cur :: wsA v [] := by
  rcases G with _ | ⟨c, G⟩
  · exact absurd rfl h0
  · rw [List.cons_append, wsA, if_pos (h c (by simp)), if_neg hc, ws_white0 fun d hd => h d (by simp [hd])]
theorem ws_last {T cur : List UInt8} (h : whiteL T) (hc : cur ≠ []) : wsA T cur = [cur] := by
  rcases T with _ | ⟨c, T⟩
  · rw [wsA, if_neg hc]
  · have := ws_gap (v := []) h (by simp) hc
    rw [List.append_nil] at this
    rw [this]
    rfl
theorem words_white {G : List UInt8} (h : whiteL G) : wordsS G = [] := by
  have := ws_white0 (v := []) h
  rw [List.append_nil] at this
  exact this
theorem words_body {G T : List UInt8} {q : Stp} (h : mayQ q = true) (hG : whiteL G) (hG0 : G ≠ []) (hT : whiteL T) : wordsS (bodyG G q ++ T) = if q.name = [] then [wordQ q.kind] else [wordQ q.kind, argQ q] := by
  have hw := (may_parts h).1
  have hb : ∀ c ∈ wordQ q.kind, whB c = false := fun c hc => ink_black (word_ink _ c hc)
  unfold wordsS bodyG
  by_cases hn : q.name = []
  · rw [if_pos hn, if_pos hn, wsA_run _ _ _ hb, List.nil_append, ws_last hT hw]
  · obtain ⟨ha, hi⟩ := arg_ink h hn
    rw [if_neg hn, if_neg hn, List.append_assoc, wsA_run _ _ _ hb, List.nil_append, List.append_assoc, ws_gap hG hG0 hw, wsA_run _ _ _ fun c hc => ink_black (hi c hc), List.nil_append, ws_last hT ha]
theorem parse_body {q : Stp} (h : mayQ q = true) : parseQ (if q.name = [] then [wordQ q.kind] else [wordQ q.kind, argQ q]) = (q, true) := by
  obtain ⟨hw, h1, h7, h2⟩ := may_parts h
  obtain ⟨k, n, v⟩ := q
  dsimp only at *
  rcases h2 with ⟨rfl, rfl, hk⟩ | ⟨hn, hk, hv⟩
  · rw [if_pos rfl, pq_all h1 h7 hk]
    rfl
  · have hni := name_ink hn
    rw [if_neg hni.1, pq_two h1 h7 hk]
    unfold argQ
    dsimp only
    rcases hv with rfl | ⟨rfl, hv⟩
    · rw [if_pos rfl, List.append_nil]
      by_cases hk1 : k = 1
      · subst hk1
        rw [parse2_no fun c hc => (hni.2 c hc).2, hn]
      · have hk2 : k = 2 ∨ k = 5 ∨ k = 6 := by
          unfold namQ at hk
          simp only [Bool.or_eq_true, beq_iff_eq] at hk
          omega
        rw [parse2_oth hk2, hn]
    · have hvi := ver_ink hv
      rw [if_neg hvi.1]
      have hat : (n ++ 61 :: v)[n.length]? = some 61 := by simp
      have htk : (n ++ 61 :: v).take n.length = n := by simp
      have hdr : (n ++ 61 :: v).drop (n.length + 1) = v := by
        rw [List.drop_append]
        simp
      have hp := (parse2_at hat (by rw [htk]; exact fun c hc => (hni.2 c hc).2)).2
      rw [htk, hdr] at hp
      rw [hp hv, hn]
/-- lines that read as these asks -/
inductive Reads : List (List UInt8) → List Stp → Prop
  | nil : Reads [] []
  | rest {s : List UInt8} {L : List (List UInt8)} {l : List Stp} : restL s = true → Reads L l → Reads (s :: L) l
  | ask {s : List UInt8} {q : Stp} {L : List (List UInt8)} {l : List Stp} : restL s = false → parseQ (wordsS s) = (q, true) → Reads L l → Reads (s :: L) (q :: l)
theorem Reads.par {L : List (List UInt8)} {l : List Stp} (h : Reads L l) : ∀ (i : Nat) (acc : List Stp), parL i L acc = if mayQs (acc ++ l) = 0 then (acc ++ l, 0, 0) else ([], mayQs (acc ++ l), 0) := by
  induction h with
  | nil => intro i acc; rw [parL, List.append_nil]
  | rest h1 _ ih => intro i acc; rw [parL, if_pos h1]; exact ih _ _
  | ask h1 h2 _ ih =>
    intro i acc
    rw [parL, h1, h2]
    simp only [Bool.false_eq_true, if_false, if_true]
    rw [ih, List.append_assoc]
    rfl
/-- a sign of a line -/
def okC (c : UInt8) : Bool := ink c || whB c
theorem good_ok {l : List UInt8} (h : l.all okC = true) : goodI l = -1 := by
  have all : ∀ (f p : Nat), goodN l f p = -1 := by
    intro f
    induction f with
    | zero => intro p; rfl
    | succ f ih =>
      intro p
      rw [goodN]
      split
      · rfl
      · rename_i hp
        have hp : p < l.length := by omega
        have hc : okC (l[p]) = true := List.all_eq_true.1 h _ (List.getElem_mem hp)
        have hn : (9 = l[p].toNat ∨ 32 ≤ l[p].toNat) ∧ l[p].toNat ≤ 126 := by
          unfold okC ink at hc
          simp only [Bool.or_eq_true, Bool.and_eq_true, decide_eq_true_eq] at hc
          rcases hc with hc | hc
          · omega
          · unfold whB at hc
            simp only [Bool.or_eq_true, beq_iff_eq] at hc
            rcases hc with hc | hc <;> (rw [hc]; decide)
        have hd : decA l p = (l[p].toNat, 1) := by
          unfold decA
          rw [decode_bs, show l.getD p 0 = l[p] by rw [List.getD_eq_getElem?_getD, List.getElem?_eq_getElem hp]; rfl, Lib.decodeN_ascii _ _ _ _ _ (by omega)]
        rw [hd, show badR (l[p].toNat, 1) = false by
          unfold badR
          simp only [Bool.or_eq_false_iff, Bool.and_eq_false_iff, beq_eq_false_iff_ne, decide_eq_false_iff_not, Bool.not_eq_false', beq_iff_eq]
          omega]
        exact ih _
  exact all _ _
theorem lineF_ok : ∀ (L : List (List UInt8)) (i : Nat), (∀ s ∈ L, s.length ≤ 1000 ∧ s.all okC = true) → lineF i L = (0, 0)
  | [], _, _ => rfl
  | s :: L, i, h => by
    obtain ⟨h1, h2⟩ := h s (by simp)
    rw [lineF, if_neg (by omega), good_ok h2, if_neg (by omega)]
    exact lineF_ok L (i + 1) fun t ht => h t (by simp [ht])
/-- a text whose lines read so is read so -/
theorem parse_reads {b : List UInt8} {l : List Stp} (hb : b.length ≤ 65536) (hL : ∀ s ∈ linS b, s.length ≤ 1000 ∧ s.all okC = true) (hr : Reads (linS b) l) (hm : mayQs l = 0) : parseR b = (l, 0, 0) := by
  have h1 : linesR b = (linS b, 0, 0) := by
    unfold linesR
    rw [if_neg (by omega), lineF_ok _ 0 hL]
    rfl
  unfold parseR
  rw [h1, if_pos rfl, hr.par, List.nil_append, if_pos hm]
theorem body_ok {G : List UInt8} {q : Stp} (h : mayQ q = true) (hG : whiteL G) : (bodyG G q).all okC = true ∧ (bodyG G q).length ≤ 90 + G.length ∧ ∀ c ∈ bodyG G q, c ≠ 10 := by
  have hw := word_ink q.kind
  have hl := wordQ_len q.kind
  have hq := mayQ_len h
  have hgn : ∀ c ∈ G, okC c = true ∧ c ≠ 10 := fun c hc => by
    have := hG c hc
    refine ⟨by unfold okC; rw [this, Bool.or_true], ?_⟩
    rintro rfl
    revert this
    decide
  have hwn : ∀ c ∈ wordQ q.kind, okC c = true ∧ c ≠ 10 := fun c hc => ⟨by unfold okC; rw [hw c hc]; rfl, (ink_ne (hw c hc)).1⟩
  unfold bodyG
  by_cases hn : q.name = []
  · rw [if_pos hn]
    exact ⟨List.all_eq_true.2 fun c hc => (hwn c hc).1, by omega, fun c hc => (hwn c hc).2⟩
  · rw [if_neg hn]
    have ha := (arg_ink h hn).2
    have hal : (argQ q).length ≤ 73 := by
      unfold argQ
      rw [List.length_append]
      split
      · simp; omega
      · simp; omega
    refine ⟨List.all_eq_true.2 fun c hc => ?_, by simp only [List.length_append]; omega, fun c hc => ?_⟩
    · rcases List.mem_append.1 hc with hc | hc
      · exact (hwn c hc).1
      · rcases List.mem_append.1 hc with hc | hc
        · exact (hgn c hc).1
        · unfold okC; rw [ha c hc]; rfl
    · rcases List.mem_append.1 hc with hc | hc
      · exact (hwn c hc).2
      · rcases List.mem_append.1 hc with hc | hc
        · exact (hgn c hc).2
        · exact (ink_ne (ha c hc)).1
theorem body_rest {G T : List UInt8} {q : Stp} (h : mayQ q = true) (hG : whiteL G) (hG0 : G ≠ []) (hT : whiteL T) : restL (bodyG G q ++ T) = false := by
  unfold restL
  rw [words_body h hG hG0 hT]
  obtain ⟨hw, h1, h7, _⟩ := may_parts h
  have hh : (bodyG G q ++ T).head? = (wordQ q.kind).head? := by
    unfold bodyG
    rcases hW : wordQ q.kind with _ | ⟨x, r⟩
    · exact absurd hW hw
    · split <;> rfl
  rw [hh]
  have hk : ((wordQ q.kind).head? == some 35) = false := by
    obtain h | h | h | h | h | h | h : q.kind = 1 ∨ q.kind = 2 ∨ q.kind = 3 ∨ q.kind = 4 ∨ q.kind = 5 ∨ q.kind = 6 ∨ q.kind = 7 := by omega
    all_goals (rw [h]; decide +kernel)
  rw [hk, Bool.or_false]
  split <;> simp
end Go.Proofs.YtcbomomlojhghaaDoor
