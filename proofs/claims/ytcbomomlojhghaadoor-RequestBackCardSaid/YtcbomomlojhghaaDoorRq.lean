/- Asks and requests, plainly: which may be. Plainly: the ask of a line's words, the request of lines. The contracts of request's small functions. The contracts of request.of, whole, mayAsk, asks. The contracts of request.May, request.asks. The contracts of the reference's MayAsks, Has. -/
import Derived.Test.YtcbomomlojhghaaDoorStq
import Derived.Test.YtcbomomlojhghaaDoorNb
import Derived.Test.YtcbomomlojhghaaDoorVb
import Derived.Test.YtcbomomlojhghaaDoorWd
import Derived.Test.YtcbomomlojhghaaDoorReqA
import Derived.Test.YtcbomomlojhghaaDoorVw
import Derived.Deep.DrawnRows
import Derived.Test.YtcbomomlojhghaaDoorFi
namespace Go.Proofs.YtcbomomlojhghaaDoor
set_option linter.unusedSimpArgs false
set_option linter.unusedVariables false
/-- a kind's word -/
def wordQ (k : Int) : List UInt8 := if k = 1 then [105, 110, 115, 116, 97, 108, 108] else if k = 2 then [114, 101, 109, 111, 118, 101] else if k = 3 then [117, 112, 103, 114, 97, 100, 101] else if k = 4 then [100, 105, 115, 116, 45, 117, 112, 103, 114, 97, 100, 101] else if k = 5 then [104, 111, 108, 100] else if k = 6 then [117, 110, 104, 111, 108, 100] else if k = 7 then [102, 105, 120, 45, 98, 114, 111, 107, 101, 110] else []
def namQ (k : Int) : Bool := k == 1 || k == 2 || k == 5 || k == 6
def verQ (k : Int) : Bool := k == 1
def wholeQ (a : Stp) : Bool := a.kind == 3 || a.kind == 4 || a.kind == 7
/-- may an ask be? -/
def mayQ (a : Stp) : Bool := !(wordQ a.kind == []) && (if namQ a.kind then nameS a.name else a.name == []) && (a.ver == [] || verQ a.kind && isV a.ver)
theorem wordQ_nil (k : Int) : wordQ k = [] ↔ ¬ (1 ≤ k ∧ k ≤ 7) := by
  unfold wordQ
  repeat' split
  all_goals (simp; try omega)
def twiceB (a b : Stp) : Bool := !(a.name == []) && (a.name == b.name) || wholeQ a && wholeQ b
/-- does one stand twice, behind these? -/
def twF (p : Stp → Stp → Bool) : List Stp → List Stp → Bool
  | _, [] => false
  | pre, a :: l => pre.any (p a) || twF p (pre ++ [a]) l
theorem twF_step {p : Stp → Stp → Bool} {l : List Stp} {i : Nat} {a : Stp} (h : l[i]? = some a) : twF p (l.take i) (l.drop i) = ((l.take i).any (p a) || twF p (l.take (i + 1)) (l.drop (i + 1))) := by
  obtain ⟨hi, rfl⟩ := List.getElem?_eq_some_iff.1 h
  rw [List.drop_eq_getElem_cons hi, twF, take_step (List.getElem?_eq_getElem hi)]
theorem twF_end {p : Stp → Stp → Bool} {l : List Stp} {i : Nat} (h : l.length ≤ i) : twF p (l.take i) (l.drop i) = false := by
  rw [List.drop_eq_nil_of_le h, twF]
/-- may a request be? -/
def mayQs (l : List Stp) : Int := if l.length = 0 ∨ 6 < l.length then 12 else if l.all mayQ then (if twF twiceB [] l then 4 else 0) else 3
theorem mayQs_len {l : List Stp} (h : l.length = 0 ∨ 6 < l.length) : mayQs l = 12 := if_pos h
theorem mayQs_form {l : List Stp} {k : Nat} {a : Stp} (h : ¬ (l.length = 0 ∨ 6 < l.length)) (ha : l[k]? = some a) (hn : mayQ a = false) : mayQs l = 3 := by
  have : l.all mayQ = false := List.all_eq_false.2 ⟨a, List.mem_of_getElem? ha, by simp [hn]⟩
  unfold mayQs
  rw [if_neg h, this]
  rfl
theorem mayQs_all {l : List Stp} (h : ¬ (l.length = 0 ∨ 6 < l.length)) (ha : l.all mayQ = true) : mayQs l = if twF twiceB [] l then 4 else 0 := by
  unfold mayQs
  rw [if_neg h, ha]
  rfl
/-- by names, and by how many have none -/
def sameN (a b : Stp) : Bool := !(a.name == []) && (a.name == b.name)
def cntE (l : List Stp) : Nat := (l.filter fun a => a.name == []).length
theorem mayQ_whole {a : Stp} (h : mayQ a = true) : wholeQ a = (a.name == []) := by
  unfold mayQ at h
  simp only [Bool.and_eq_true] at h
  obtain ⟨⟨h1, h2⟩, _⟩ := h
  have hk : 1 ≤ a.kind ∧ a.kind ≤ 7 := Classical.not_not.1 fun hn => by rw [(wordQ_nil _).2 hn] at h1; cases h1
  obtain ⟨k, n, v⟩ := a
  dsimp only at *
  have named : nameS n = true → (n == []) = false := fun hn => by
    have := (name_black hn).1
    simpa using this
  obtain rfl | rfl | rfl | rfl | rfl | rfl | rfl : k = 1 ∨ k = 2 ∨ k = 3 ∨ k = 4 ∨ k = 5 ∨ k = 6 ∨ k = 7 := by omega
  all_goals simp only [namQ, wholeQ] at h2 ⊢
  · exact (named h2).symm
  · exact (named h2).symm
  · exact h2.symm
  · exact h2.symm
  · exact (named h2).symm
  · exact (named h2).symm
  · exact h2.symm
theorem any_cnt {l : List Stp} : (l.any fun a => a.name == []) = decide (0 < cntE l) := by
  unfold cntE
  rw [Bool.eq_iff_iff, List.any_eq_true, decide_eq_true_eq, List.length_pos_iff_exists_mem]
  simp [List.mem_filter]
theorem twF_cnt : ∀ (l pre : List Stp), (∀ a ∈ pre, mayQ a = true) → (∀ a ∈ l, mayQ a = true) → cntE pre ≤ 1 → twF twiceB pre l = (twF sameN pre l || decide (1 < cntE pre + cntE l)) := fun l => by
  induction l with
  | nil => intro pre _ _ h; simp [twF, cntE] at h ⊢; omega
  | cons a l ih =>
    intro pre hp hl hc
    have ha := hl a (by simp)
    have hw := mayQ_whole ha
    have hrest : ∀ x ∈ l, mayQ x = true := fun x hx => hl x (by simp [hx])
    have hpre : ∀ x ∈ pre ++ [a], mayQ x = true := fun x hx => by
      rcases List.mem_append.1 hx with hx | hx
      · exact hp x hx
      · rw [List.mem_singleton.1 hx]; exact ha
    have hca : cntE (a :: l) = (if a.name == [] then 1 else 0) + cntE l := by
      unfold cntE
      rw [List.filter_cons]
      split <;> simp; omega
    have hcp : cntE (pre ++ [a]) = cntE pre + (if a.name == [] then 1 else 0) := by
      unfold cntE
      rw [List.filter_append, List.length_append, List.filter_cons]
      split <;> simp
    unfold twF
    rcases hn : (a.name == [])
    · have h1 : pre.any (twiceB a) = pre.any (sameN a) := by
        congr 1
        funext b
        simp [twiceB, sameN, hw, hn]
      rw [hn] at hca hcp
      simp only [Bool.false_eq_true, if_false] at hca hcp
      rw [h1, ih _ hpre hrest (by omega), hcp, hca, Bool.or_assoc]
      simp
    · have h1 : pre.any (twiceB a) = decide (0 < cntE pre) := by
        rw [← any_cnt]
        rw [Bool.eq_iff_iff, List.any_eq_true, List.any_eq_true]
        constructor
        · rintro ⟨b, hb, h⟩
          refine ⟨b, hb, ?_⟩
          rw [← mayQ_whole (hp b hb)]
          simpa [twiceB, hw, hn] using h
        · rintro ⟨b, hb, h⟩
          refine ⟨b, hb, ?_⟩
          rw [← mayQ_whole (hp b hb)] at h
          simp [twiceB, hw, hn, h]
      have h2 : pre.any (sameN a) = false := by
        rw [List.any_eq_false]
        intro b _
        simp [sameN, hn]
      rw [hn] at hca hcp
      simp only [if_true] at hca hcp
      rw [h1, h2, Bool.false_or]
      by_cases h0 : cntE pre = 0
      · rw [ih _ hpre hrest (by omega), hcp, hca, h0]
        simp
      · have : decide (0 < cntE pre) = true := decide_eq_true (by omega)
        have h3 : decide (1 < cntE pre + cntE (a :: l)) = true := decide_eq_true (by omega)
        rw [this, h3]
        simp
theorem mayQs_cnt {l : List Stp} (h : ¬ (l.length = 0 ∨ 6 < l.length)) (ha : l.all mayQ = true) : mayQs l = if twF sameN [] l || decide (1 < cntE l) then 4 else 0 := by
  rw [mayQs_all h ha, twF_cnt l [] (by simp) (fun a hm => List.all_eq_true.1 ha a hm) (by simp [cntE])]
  simp [cntE]
end Go.Proofs.YtcbomomlojhghaaDoor
namespace Go.Proofs.YtcbomomlojhghaaDoor
set_option linter.unusedSimpArgs false
set_option linter.unusedVariables false
open Go.RowKit
/-- the kind of a word; 0: none -/
def kindN (a : List UInt8) : Int := if a = wordQ 1 then 1 else if a = wordQ 2 then 2 else if a = wordQ 3 then 3 else if a = wordQ 4 then 4 else if a = wordQ 5 then 5 else if a = wordQ 6 then 6 else if a = wordQ 7 then 7 else 0
theorem kindN_at {k : Int} (h1 : 1 ≤ k) (h7 : k ≤ 7) : kindN (wordQ k) = k := by
  obtain rfl | rfl | rfl | rfl | rfl | rfl | rfl : k = 1 ∨ k = 2 ∨ k = 3 ∨ k = 4 ∨ k = 5 ∨ k = 6 ∨ k = 7 := by omega
  all_goals decide +kernel
theorem kindN_no {a : List UInt8} (h : ∀ k : Int, 1 ≤ k → k ≤ 7 → wordQ k ≠ a) : kindN a = 0 := by
  unfold kindN
  rw [if_neg (fun e => h 1 (by omega) (by omega) e.symm), if_neg (fun e => h 2 (by omega) (by omega) e.symm), if_neg (fun e => h 3 (by omega) (by omega) e.symm), if_neg (fun e => h 4 (by omega) (by omega) e.symm), if_neg (fun e => h 5 (by omega) (by omega) e.symm), if_neg (fun e => h 6 (by omega) (by omega) e.symm), if_neg (fun e => h 7 (by omega) (by omega) e.symm)]
/-- the ask of two words, its kind known -/
def parse2 (k : Int) (n : List UInt8) : Stp × Bool :=
  if (cutS n 61).2.2 && verQ k then (if (cutS n 61).2.1 = [] then (⟨0, [], []⟩, false) else (⟨k, (cutS n 61).1, (cutS n 61).2.1⟩, mayQ ⟨k, (cutS n 61).1, (cutS n 61).2.1⟩)) else (⟨k, n, []⟩, mayQ ⟨k, n, []⟩)
/-- the ask of words -/
def parseQ (ws : List (List UInt8)) : Stp × Bool :=
  let k := kindN (ws.headD [])
  if k = 0 then (⟨0, [], []⟩, false) else if namQ k then (match ws with | [_, n] => parse2 k n | _ => (⟨0, [], []⟩, false)) else (⟨k, [], []⟩, ws.length == 1)
theorem pq_none {a : List UInt8} {ws : List (List UInt8)} (h : ∀ k : Int, 1 ≤ k → k ≤ 7 → wordQ k ≠ a) : parseQ (a :: ws) = (⟨0, [], []⟩, false) := by
  unfold parseQ
  dsimp only [List.headD_cons]
  rw [if_pos (kindN_no h)]
theorem pq_all {k : Int} {ws : List (List UInt8)} (h1 : 1 ≤ k) (h7 : k ≤ 7) (hn : namQ k = false) : parseQ (wordQ k :: ws) = (⟨k, [], []⟩, (wordQ k :: ws).length == 1) := by
  unfold parseQ
  dsimp only [List.headD_cons]
  rw [kindN_at h1 h7, if_neg (by omega), hn]
  rfl
theorem pq_two {k : Int} {n : List UInt8} (h1 : 1 ≤ k) (h7 : k ≤ 7) (hn : namQ k = true) : parseQ [wordQ k, n] = parse2 k n := by
  unfold parseQ
  dsimp only [List.headD_cons]
  rw [kindN_at h1 h7, if_neg (by omega), hn, if_pos rfl]
theorem pq_bad {k : Int} {ws : List (List UInt8)} (h1 : 1 ≤ k) (h7 : k ≤ 7) (hn : namQ k = true) (hl : (wordQ k :: ws).length ≠ 2) : parseQ (wordQ k :: ws) = (⟨0, [], []⟩, false) := by
  unfold parseQ
  dsimp only [List.headD_cons]
  rw [kindN_at h1 h7, if_neg (by omega), hn, if_pos rfl]
  match ws, hl with
  | [], _ => rfl
  | [_], h => exact absurd rfl h
  | _ :: _ :: _, _ => rfl
/-- is a line a remark or empty? -/
def restL (s : List UInt8) : Bool := decide (wordsS s = []) || s.head? == some 35
/-- the request of lines, from the ith on, behind what was read: asks, an error, its line -/
def parL : Nat → List (List UInt8) → List Stp → List Stp × Int × Int
  | _, [], acc => if mayQs acc = 0 then (acc, 0, 0) else ([], mayQs acc, 0)
  | i, s :: ls, acc => if restL s then parL (i + 1) ls acc else if (parseQ (wordsS s)).2 then parL (i + 1) ls (acc ++ [(parseQ (wordsS s)).1]) else ([], 3, (i : Int) + 1)
theorem par_rest {L : List (List UInt8)} {i : Nat} {s : List UInt8} {acc : List Stp} (h : L[i]? = some s) (hr : restL s = true) : parL i (L.drop i) acc = parL (i + 1) (L.drop (i + 1)) acc := by
  obtain ⟨hi, rfl⟩ := List.getElem?_eq_some_iff.1 h
  rw [List.drop_eq_getElem_cons hi, parL, if_pos hr]
theorem par_bad {L : List (List UInt8)} {i : Nat} {s : List UInt8} {acc : List Stp} (h : L[i]? = some s) (hr : restL s = false) (hp : (parseQ (wordsS s)).2 = false) : parL i (L.drop i) acc = ([], 3, (i : Int) + 1) := by
  obtain ⟨hi, rfl⟩ := List.getElem?_eq_some_iff.1 h
  rw [List.drop_eq_getElem_cons hi, parL, hr, hp]
  rfl
theorem par_step {L : List (List UInt8)} {i : Nat} {s : List UInt8} {acc : List Stp} (h : L[i]? = some s) (hr : restL s = false) (hp : (parseQ (wordsS s)).2 = true) : parL i (L.drop i) acc = parL (i + 1) (L.drop (i + 1)) (acc ++ [(parseQ (wordsS s)).1]) := by
  obtain ⟨hi, rfl⟩ := List.getElem?_eq_some_iff.1 h
  rw [List.drop_eq_getElem_cons hi, parL, hr, hp]
  rfl
theorem par_end {L : List (List UInt8)} {i : Nat} {acc : List Stp} (h : L.length ≤ i) : parL i (L.drop i) acc = if mayQs acc = 0 then (acc, 0, 0) else ([], mayQs acc, 0) := by
  rw [List.drop_eq_nil_of_le h, parL]
end Go.Proofs.YtcbomomlojhghaaDoor
namespace Go.Proofs.YtcbomomlojhghaaDoor
set_option linter.unusedSimpArgs false
set_option linter.unusedVariables false
open Go.RowKit

theorem mayVersion_any (l : List UInt8) (w : World) : Calls Tryd.prog 71 #[.string (bs l)] w fun e w' => e = .returned (.bool (isV l)) ∧ Below w.heap.size w w' := by
  rcases h : verS l with _ | ⟨a, b, c⟩
  · have HV := Lib.hid (verV_none h)
    have HI := Lib.hid (show isV l = false by simp [isV, h])
    clear h
    go_enter Tryd.func71, Tryd.ntmps71
    go_wp2_with (go_at_call 76; refine (parse_any _ _).mono ?_; rintro e w1 ⟨rfl, hb⟩; rw [HV.out])
    go_ret
    exact ⟨by simp [HI.out], hb⟩
  · have HV := Lib.hid (verV_some h)
    have HI := Lib.hid (show isV l = true by simp [isV, h])
    clear h
    go_enter Tryd.func71, Tryd.ntmps71
    go_wp2_with (go_at_call 76; refine (parse_any _ _).mono ?_; rintro e w1 ⟨rfl, hb⟩; rw [HV.out])
    go_ret
    exact ⟨by simp [HI.out], hb⟩
end Go.Proofs.YtcbomomlojhghaaDoor
namespace Go.Proofs.YtcbomomlojhghaaDoor
set_option linter.unusedSimpArgs false
set_option linter.unusedVariables false
open Go.RowKit
attribute [local go_sem ↓] Go.wp_at_zero Go.wp_at_succ
set_option maxRecDepth 100000 in
theorem qof_any (k : Int) (w : World) : Calls Tryd.prog 46 #[.int .i64 k] w fun e w' => e = .returned (.agg #[.string (bs (wordQ k)), .bool (namQ k), .bool (verQ k)]) ∧ Below w.heap.size w w' := by
  by_cases hk : 1 ≤ k ∧ k ≤ 7
  · obtain rfl | rfl | rfl | rfl | rfl | rfl | rfl : k = 1 ∨ k = 2 ∨ k = 3 ∨ k = 4 ∨ k = 5 ∨ k = 6 ∨ k = 7 := by omega
    · go_enter Tryd.func46, Tryd.ntmps46
      go_wp2
      exact bodyPost_ret (v := .agg #[.string (bs (wordQ 1)), .bool (namQ 1), .bool (verQ 1)]) (by simp [results, Tryd.results46, go_sem]; first | done | rfl | exact ⟨rfl, rfl, rfl⟩) rfl ⟨rfl, below_alloc (Below.refl _ _) _⟩
    · go_enter Tryd.func46, Tryd.ntmps46
      go_wp2
      exact bodyPost_ret (v := .agg #[.string (bs (wordQ 2)), .bool (namQ 2), .bool (verQ 2)]) (by simp [results, Tryd.results46, go_sem]; first | done | rfl | exact ⟨rfl, rfl, rfl⟩) rfl ⟨rfl, below_alloc (Below.refl _ _) _⟩
    · go_enter Tryd.func46, Tryd.ntmps46
      go_wp2
      exact bodyPost_ret (v := .agg #[.string (bs (wordQ 3)), .bool (namQ 3), .bool (verQ 3)]) (by simp [results, Tryd.results46, go_sem]; first | done | rfl | exact ⟨rfl, rfl, rfl⟩) rfl ⟨rfl, below_alloc (Below.refl _ _) _⟩
    · go_enter Tryd.func46, Tryd.ntmps46
      go_wp2
      exact bodyPost_ret (v := .agg #[.string (bs (wordQ 4)), .bool (namQ 4), .bool (verQ 4)]) (by simp [results, Tryd.results46, go_sem]; first | done | rfl | exact ⟨rfl, rfl, rfl⟩) rfl ⟨rfl, below_alloc (Below.refl _ _) _⟩
    · go_enter Tryd.func46, Tryd.ntmps46
      go_wp2
      exact bodyPost_ret (v := .agg #[.string (bs (wordQ 5)), .bool (namQ 5), .bool (verQ 5)]) (by simp [results, Tryd.results46, go_sem]; first | done | rfl | exact ⟨rfl, rfl, rfl⟩) rfl ⟨rfl, below_alloc (Below.refl _ _) _⟩
    · go_enter Tryd.func46, Tryd.ntmps46
      go_wp2
      exact bodyPost_ret (v := .agg #[.string (bs (wordQ 6)), .bool (namQ 6), .bool (verQ 6)]) (by simp [results, Tryd.results46, go_sem]; first | done | rfl | exact ⟨rfl, rfl, rfl⟩) rfl ⟨rfl, below_alloc (Below.refl _ _) _⟩
    · go_enter Tryd.func46, Tryd.ntmps46
      go_wp2
      exact bodyPost_ret (v := .agg #[.string (bs (wordQ 7)), .bool (namQ 7), .bool (verQ 7)]) (by simp [results, Tryd.results46, go_sem]; first | done | rfl | exact ⟨rfl, rfl, rfl⟩) rfl ⟨rfl, below_alloc (Below.refl _ _) _⟩
  · have HW := Lib.hid (show wordQ k = [] from (wordQ_nil k).2 hk)
    have k1 : (k == 1) = false := by rw [beq_eq_false_iff_ne]; omega
    have k2 : (k == 2) = false := by rw [beq_eq_false_iff_ne]; omega
    have k3 : (k == 3) = false := by rw [beq_eq_false_iff_ne]; omega
    have k4 : (k == 4) = false := by rw [beq_eq_false_iff_ne]; omega
    have k5 : (k == 5) = false := by rw [beq_eq_false_iff_ne]; omega
    have k6 : (k == 6) = false := by rw [beq_eq_false_iff_ne]; omega
    have k7 : (k == 7) = false := by rw [beq_eq_false_iff_ne]; omega
    have HN := Lib.hid (show namQ k = false by simp [namQ, k1, k2, k5, k6])
    have HV := Lib.hid (show verQ k = false by simp [verQ, k1])
    clear hk
    go_enter Tryd.func46, Tryd.ntmps46
    go_wp2
    exact bodyPost_ret (v := .agg #[.string (bs []), .bool false, .bool false]) (by simp [results, Tryd.results46, go_sem]; try rfl) rfl ⟨by rw [HW.out, HN.out, HV.out], below_alloc (Below.refl _ _) _⟩
set_option maxRecDepth 100000 in
theorem whole_any (k : Int) (n v : List UInt8) (w : World) : Calls Tryd.prog 49 #[.agg #[.int .i64 k, .string (bs n), .string (bs v)]] w fun e w' => e = .returned (.bool (wholeQ ⟨k, n, v⟩)) ∧ Below w.heap.size w w' := by
  go_enter Tryd.func49, Tryd.ntmps49
  go_wp2
  all_goals go_ret
  all_goals exact ⟨by simp [wholeQ, *], below_alloc (Below.refl _ _) _⟩
set_option maxRecDepth 100000 in
set_option maxHeartbeats 1000000 in
theorem mayAsk_any (k : Int) (n v : List UInt8) (w : World) (hn : short n) : Calls Tryd.prog 48 #[.agg #[.int .i64 k, .string (bs n), .string (bs v)]] w fun e w' => e = .returned (.bool (mayQ ⟨k, n, v⟩)) ∧ Below w.heap.size w w' := by
  obtain ⟨G, hG⟩ : ∃ G, G = mayQ ⟨k, n, v⟩ := ⟨_, rfl⟩
  rw [← hG]
  obtain ⟨W0, hW⟩ : ∃ W0, wordQ k = W0 := ⟨_, rfl⟩
  obtain ⟨N0, hN⟩ : ∃ N0, namQ k = N0 := ⟨_, rfl⟩
  obtain ⟨V0, hV⟩ : ∃ V0, verQ k = V0 := ⟨_, rfl⟩
  have hG' : G = (!(W0 == []) && (if N0 then nameS n else n == []) && (v == [] || V0 && isV v)) := by rw [hG, mayQ, hW, hN, hV]
  have HW := Lib.hid hW
  have HN := Lib.hid hN
  have HV := Lib.hid hV
  clear hG hW hN hV
  by_cases hw0 : W0 = []
  · subst hw0
    have HG := Lib.hid (show G = false by rw [hG']; rfl)
    clear hG'
    go_enter Tryd.func48, Tryd.ntmps48
    have K1 := Lib.hid (blk_new1 w 78 #[.int .i64 k, .string (bs n), .string (bs v)])
    have HB := Lib.hid (below_alloc (Below.refl w.heap.size w) (.cells #[.int .i64 k, .string (bs n), .string (bs v)] 78))
    go_wp2_with fail
    refine (qof_any k _).mono ?_
    rintro e w1 ⟨rfl, hb1⟩
    rw [HW.out, HN.out, HV.out]
    have K1 := Lib.hid (K1.out.next hb1)
    have HB := Lib.hid (below_next HB.out hb1)
    clear hb1
    have a1 := fun (o : Obj) => (K1.out.alloc o).cell 1
    have a2 := fun (o : Obj) => (K1.out.alloc o).cell 2
    simp only [List.getElem?_toArray, List.getElem?_cons_zero, List.getElem?_cons_succ] at a1 a2
    go_wp2
    go_ret
    exact ⟨by rw [HG.out]; (try rfl), below_alloc HB.out _⟩
  · have hwb : W0.isEmpty = false := by simpa using hw0
    have hwb2 : (W0 == []) = false := by simpa using hw0
    rcases N0 with _ | _
    · by_cases hn0 : n = []
      · have hnb : n.isEmpty = true := by simpa using hn0
        by_cases hv0 : v = []
        · have hvb : v.isEmpty = true := by simpa using hv0
          have HG := Lib.hid (show G = true by rw [hG']; simp [hw0, hn0, hv0, hwb])
          clear hG' hw0 hwb2 hn0 hv0
          go_enter Tryd.func48, Tryd.ntmps48
          have K1 := Lib.hid (blk_new1 w 78 #[.int .i64 k, .string (bs n), .string (bs v)])
          have HB := Lib.hid (below_alloc (Below.refl w.heap.size w) (.cells #[.int .i64 k, .string (bs n), .string (bs v)] 78))
          go_wp2_with fail
          refine (qof_any k _).mono ?_
          rintro e w1 ⟨rfl, hb1⟩
          rw [HW.out, HN.out, HV.out]
          have K1 := Lib.hid (K1.out.next hb1)
          have HB := Lib.hid (below_next HB.out hb1)
          clear hb1
          have a1 := fun (o : Obj) => (K1.out.alloc o).cell 1
          have a2 := fun (o : Obj) => (K1.out.alloc o).cell 2
          simp only [List.getElem?_toArray, List.getElem?_cons_zero, List.getElem?_cons_succ] at a1 a2
          go_wp2
          go_ret
          exact ⟨by rw [HG.out]; (try rfl), below_alloc HB.out _⟩
        · have hvb : v.isEmpty = false := by simpa using hv0
          rcases V0 with _ | _
          · have HG := Lib.hid (show G = false by rw [hG']; simp [hv0])
            clear hG' hw0 hwb2 hn0 hv0
            go_enter Tryd.func48, Tryd.ntmps48
            have K1 := Lib.hid (blk_new1 w 78 #[.int .i64 k, .string (bs n), .string (bs v)])
            have HB := Lib.hid (below_alloc (Below.refl w.heap.size w) (.cells #[.int .i64 k, .string (bs n), .string (bs v)] 78))
            go_wp2_with fail
            refine (qof_any k _).mono ?_
            rintro e w1 ⟨rfl, hb1⟩
            rw [HW.out, HN.out, HV.out]
            have K1 := Lib.hid (K1.out.next hb1)
            have HB := Lib.hid (below_next HB.out hb1)
            clear hb1
            have a1 := fun (o : Obj) => (K1.out.alloc o).cell 1
            have a2 := fun (o : Obj) => (K1.out.alloc o).cell 2
            simp only [List.getElem?_toArray, List.getElem?_cons_zero, List.getElem?_cons_succ] at a1 a2
            go_wp2
            go_ret
            exact ⟨by rw [HG.out]; (try rfl), below_alloc HB.out _⟩
          · have HG := Lib.hid (show G = isV v by rw [hG']; simp [hw0, hn0, hv0, hwb, hvb])
            clear hG' hw0 hwb2 hn0 hv0
            go_enter Tryd.func48, Tryd.ntmps48
            have K1 := Lib.hid (blk_new1 w 78 #[.int .i64 k, .string (bs n), .string (bs v)])
            have HB := Lib.hid (below_alloc (Below.refl w.heap.size w) (.cells #[.int .i64 k, .string (bs n), .string (bs v)] 78))
            go_wp2_with fail
            refine (qof_any k _).mono ?_
            rintro e w1 ⟨rfl, hb1⟩
            rw [HW.out, HN.out, HV.out]
            have K1 := Lib.hid (K1.out.next hb1)
            have HB := Lib.hid (below_next HB.out hb1)
            clear hb1
            have a1 := fun (o : Obj) => (K1.out.alloc o).cell 1
            have a2 := fun (o : Obj) => (K1.out.alloc o).cell 2
            simp only [List.getElem?_toArray, List.getElem?_cons_zero, List.getElem?_cons_succ] at a1 a2
            have HB := Lib.hid (below_alloc HB.out (.cells #[.string (bs W0), .bool false, .bool true] 90))
            go_wp2_with fail
            refine (mayVersion_any v _).mono ?_
            rintro e w3 ⟨rfl, hb3⟩
            have HB := Lib.hid (below_next HB.out hb3)
            clear hb3
            go_wp2
            go_ret
            exact ⟨by rw [HG.out]; (try rfl), HB.out⟩
      · have hnb : n.isEmpty = false := by simpa using hn0
        have HG := Lib.hid (show G = false by rw [hG']; simp [hn0])
        clear hG' hw0 hwb2 hn0
        go_enter Tryd.func48, Tryd.ntmps48
        have K1 := Lib.hid (blk_new1 w 78 #[.int .i64 k, .string (bs n), .string (bs v)])
        have HB := Lib.hid (below_alloc (Below.refl w.heap.size w) (.cells #[.int .i64 k, .string (bs n), .string (bs v)] 78))
        go_wp2_with fail
        refine (qof_any k _).mono ?_
        rintro e w1 ⟨rfl, hb1⟩
        rw [HW.out, HN.out, HV.out]
        have K1 := Lib.hid (K1.out.next hb1)
        have HB := Lib.hid (below_next HB.out hb1)
        clear hb1
        have a1 := fun (o : Obj) => (K1.out.alloc o).cell 1
        have a2 := fun (o : Obj) => (K1.out.alloc o).cell 2
        simp only [List.getElem?_toArray, List.getElem?_cons_zero, List.getElem?_cons_succ] at a1 a2
        go_wp2
        go_ret
        exact ⟨by rw [HG.out]; (try rfl), below_alloc HB.out _⟩
    · rcases hnm : nameS n
      · have HNM := Lib.hid hnm
        have HG := Lib.hid (show G = false by rw [hG']; simp [hnm])
        clear hG' hw0 hwb2 hnm
        go_enter Tryd.func48, Tryd.ntmps48
        have K1 := Lib.hid (blk_new1 w 78 #[.int .i64 k, .string (bs n), .string (bs v)])
        have HB := Lib.hid (below_alloc (Below.refl w.heap.size w) (.cells #[.int .i64 k, .string (bs n), .string (bs v)] 78))
        go_wp2_with fail
        refine (qof_any k _).mono ?_
        rintro e w1 ⟨rfl, hb1⟩
        rw [HW.out, HN.out, HV.out]
        have K1 := Lib.hid (K1.out.next hb1)
        have HB := Lib.hid (below_next HB.out hb1)
        clear hb1
        have a1 := fun (o : Obj) => (K1.out.alloc o).cell 1
        have a2 := fun (o : Obj) => (K1.out.alloc o).cell 2
        simp only [List.getElem?_toArray, List.getElem?_cons_zero, List.getElem?_cons_succ] at a1 a2
        go_wp2_with fail
        refine (name_any n (by unfold short at hn; omega) _).mono ?_
        rintro e w2 ⟨rfl, hb2⟩
        rw [HNM.out]
        have K2 := Lib.hid ((K1.out.alloc (.cells #[.string (bs W0), .bool true, .bool V0] 90)).next hb2)
        have KH := Lib.hid ((blk_new1 w1 90 #[.string (bs W0), .bool true, .bool V0]).next hb2)
        have HB := Lib.hid (below_next (below_alloc HB.out (.cells #[.string (bs W0), .bool true, .bool V0] 90)) hb2)
        clear hb2 a1 a2
        have a1 := K2.out.cell 1
        have a2 := K2.out.cell 2
        have b1 := KH.out.cell 1
        have b2 := KH.out.cell 2
        simp only [List.getElem?_toArray, List.getElem?_cons_zero, List.getElem?_cons_succ] at a1 a2 b1 b2
        go_wp2
        go_ret
        exact ⟨by rw [HG.out]; (try rfl), HB.out⟩
      · have HNM := Lib.hid hnm
        by_cases hv0 : v = []
        · have hvb : v.isEmpty = true := by simpa using hv0
          have HG := Lib.hid (show G = true by rw [hG']; simp [hw0, hnm, hv0, hwb])
          clear hG' hw0 hwb2 hnm hv0
          go_enter Tryd.func48, Tryd.ntmps48
          have K1 := Lib.hid (blk_new1 w 78 #[.int .i64 k, .string (bs n), .string (bs v)])
          have HB := Lib.hid (below_alloc (Below.refl w.heap.size w) (.cells #[.int .i64 k, .string (bs n), .string (bs v)] 78))
          go_wp2_with fail
          refine (qof_any k _).mono ?_
          rintro e w1 ⟨rfl, hb1⟩
          rw [HW.out, HN.out, HV.out]
          have K1 := Lib.hid (K1.out.next hb1)
          have HB := Lib.hid (below_next HB.out hb1)
          clear hb1
          have a1 := fun (o : Obj) => (K1.out.alloc o).cell 1
          have a2 := fun (o : Obj) => (K1.out.alloc o).cell 2
          simp only [List.getElem?_toArray, List.getElem?_cons_zero, List.getElem?_cons_succ] at a1 a2
          go_wp2_with fail
          refine (name_any n (by unfold short at hn; omega) _).mono ?_
          rintro e w2 ⟨rfl, hb2⟩
          rw [HNM.out]
          have K2 := Lib.hid ((K1.out.alloc (.cells #[.string (bs W0), .bool true, .bool V0] 90)).next hb2)
          have KH := Lib.hid ((blk_new1 w1 90 #[.string (bs W0), .bool true, .bool V0]).next hb2)
          have HB := Lib.hid (below_next (below_alloc HB.out (.cells #[.string (bs W0), .bool true, .bool V0] 90)) hb2)
          clear hb2 a1 a2
          have a1 := K2.out.cell 1
          have a2 := K2.out.cell 2
          have b1 := KH.out.cell 1
          have b2 := KH.out.cell 2
          simp only [List.getElem?_toArray, List.getElem?_cons_zero, List.getElem?_cons_succ] at a1 a2 b1 b2
          go_wp2
          go_ret
          exact ⟨by rw [HG.out]; (try rfl), HB.out⟩
        · have hvb : v.isEmpty = false := by simpa using hv0
          rcases V0 with _ | _
          · have HG := Lib.hid (show G = false by rw [hG']; simp [hv0])
            clear hG' hw0 hwb2 hnm hv0
            go_enter Tryd.func48, Tryd.ntmps48
            have K1 := Lib.hid (blk_new1 w 78 #[.int .i64 k, .string (bs n), .string (bs v)])
            have HB := Lib.hid (below_alloc (Below.refl w.heap.size w) (.cells #[.int .i64 k, .string (bs n), .string (bs v)] 78))
            go_wp2_with fail
            refine (qof_any k _).mono ?_
            rintro e w1 ⟨rfl, hb1⟩
            rw [HW.out, HN.out, HV.out]
            have K1 := Lib.hid (K1.out.next hb1)
            have HB := Lib.hid (below_next HB.out hb1)
            clear hb1
            have a1 := fun (o : Obj) => (K1.out.alloc o).cell 1
            have a2 := fun (o : Obj) => (K1.out.alloc o).cell 2
            simp only [List.getElem?_toArray, List.getElem?_cons_zero, List.getElem?_cons_succ] at a1 a2
            go_wp2_with fail
            refine (name_any n (by unfold short at hn; omega) _).mono ?_
            rintro e w2 ⟨rfl, hb2⟩
            rw [HNM.out]
            have K2 := Lib.hid ((K1.out.alloc (.cells #[.string (bs W0), .bool true, .bool false] 90)).next hb2)
            have KH := Lib.hid ((blk_new1 w1 90 #[.string (bs W0), .bool true, .bool false]).next hb2)
            have HB := Lib.hid (below_next (below_alloc HB.out (.cells #[.string (bs W0), .bool true, .bool false] 90)) hb2)
            clear hb2 a1 a2
            have a1 := K2.out.cell 1
            have a2 := K2.out.cell 2
            have b1 := KH.out.cell 1
            have b2 := KH.out.cell 2
            simp only [List.getElem?_toArray, List.getElem?_cons_zero, List.getElem?_cons_succ] at a1 a2 b1 b2
            go_wp2
            go_ret
            exact ⟨by rw [HG.out]; (try rfl), HB.out⟩
          · have HG := Lib.hid (show G = isV v by rw [hG']; simp [hw0, hnm, hv0, hwb, hvb])
            clear hG' hw0 hwb2 hnm hv0
            go_enter Tryd.func48, Tryd.ntmps48
            have K1 := Lib.hid (blk_new1 w 78 #[.int .i64 k, .string (bs n), .string (bs v)])
            have HB := Lib.hid (below_alloc (Below.refl w.heap.size w) (.cells #[.int .i64 k, .string (bs n), .string (bs v)] 78))
            go_wp2_with fail
            refine (qof_any k _).mono ?_
            rintro e w1 ⟨rfl, hb1⟩
            rw [HW.out, HN.out, HV.out]
            have K1 := Lib.hid (K1.out.next hb1)
            have HB := Lib.hid (below_next HB.out hb1)
            clear hb1
            have a1 := fun (o : Obj) => (K1.out.alloc o).cell 1
            have a2 := fun (o : Obj) => (K1.out.alloc o).cell 2
            simp only [List.getElem?_toArray, List.getElem?_cons_zero, List.getElem?_cons_succ] at a1 a2
            go_wp2_with fail
            refine (name_any n (by unfold short at hn; omega) _).mono ?_
            rintro e w2 ⟨rfl, hb2⟩
            rw [HNM.out]
            have K2 := Lib.hid ((K1.out.alloc (.cells #[.string (bs W0), .bool true, .bool true] 90)).next hb2)
            have KH := Lib.hid ((blk_new1 w1 90 #[.string (bs W0), .bool true, .bool true]).next hb2)
            have HB := Lib.hid (below_next (below_alloc HB.out (.cells #[.string (bs W0), .bool true, .bool true] 90)) hb2)
            clear hb2 a1 a2
            have a1 := K2.out.cell 1
            have a2 := K2.out.cell 2
            have b1 := KH.out.cell 1
            have b2 := KH.out.cell 2
            simp only [List.getElem?_toArray, List.getElem?_cons_zero, List.getElem?_cons_succ] at a1 a2 b1 b2
            go_wp2_with fail
            refine (mayVersion_any v _).mono ?_
            rintro e w3 ⟨rfl, hb3⟩
            have HB := Lib.hid (below_next HB.out hb3)
            clear hb3
            go_wp2
            go_ret
            exact ⟨by rw [HG.out]; (try rfl), HB.out⟩
end Go.Proofs.YtcbomomlojhghaaDoor
namespace Go.Proofs.YtcbomomlojhghaaDoor
set_option linter.unusedSimpArgs false
set_option linter.unusedVariables false
open Go.RowKit
attribute [local go_sem ↓] Go.wp_at_zero Go.wp_at_succ
theorem qall_step {l : List Stp} {k : Nat} {a : Stp} (h : l[k]? = some a) (hn : (l.take k).all mayQ = true) (ha : mayQ a = true) : (l.take (k + 1)).all mayQ = true := by rw [take_step h, List.all_append, hn]; simp [ha]
set_option maxRecDepth 100000 in
set_option maxHeartbeats 1000000 in
theorem qmay_any (l : List Stp) (A : Option Addr) (c : Nat) (w : World) (hl : Stps w A c l) (hs : ∀ a ∈ l, short a.name) :
    Calls Tryd.prog 20 #[.slice A l.length c] w fun e w' => e = .returned (.int .i64 (mayQs l)) ∧ Below w.heap.size w w' := by
  have HL := Lib.hid hl
  have HSH := Lib.hid hs
  have hbl := Slc.bd hl
  clear hl hs
  obtain ⟨G, hG⟩ : ∃ G, G = mayQs l := ⟨_, rfl⟩
  rw [← hG]
  by_cases h0 : l.length = 0 ∨ 6 < l.length
  · have HG := Lib.hid (show G = 12 from hG.trans (mayQs_len h0))
    clear hG
    by_cases hz : l.length = 0
    · have hzb : ((l.length : Int) == 0) = true := by rw [beq_iff_eq]; omega
      clear hz h0
      go_enter Tryd.func20, Tryd.ntmps20
      go_wp2
      go_ret
      exact ⟨by rw [HG.out]; rfl, Below.refl _ _⟩
    · have hzb : ((l.length : Int) == 0) = false := by rw [beq_eq_false_iff_ne]; omega
      have h6 : decide ((6 : Int) < (l.length : Int)) = true := decide_eq_true (by omega)
      clear hz h0
      go_enter Tryd.func20, Tryd.ntmps20
      go_wp2
      go_ret
      exact ⟨by rw [HG.out]; rfl, Below.refl _ _⟩
  · have hzb : ((l.length : Int) == 0) = false := by rw [beq_eq_false_iff_ne]; omega
    have h6 : decide ((6 : Int) < (l.length : Int)) = false := decide_eq_false (by omega)
    have HN := Lib.hid h0
    have HG := Lib.hid hG
    have hle : l.length ≤ 6 := by omega
    clear h0 hG
    go_enter Tryd.func20, Tryd.ntmps20
    go_wp2
    go_loopw [19] (fun i wr => ∃ k : Nat, k ≤ l.length ∧ i = .int .i64 k ∧ (l.take k).all mayQ = true ∧ Below w.heap.size w wr) (fun i _ => l.length - (intOf i).toNat)
    case atStart => exact ⟨0, Nat.zero_le _, rfl, rfl, Below.refl _ _⟩
    case round =>
      obtain ⟨k, hk, rfl, hn, hb⟩ := hrel
      have HA := Lib.hid hn
      have HB := Lib.hid hb
      clear hn hb
      by_cases hlt : k < l.length
      · obtain ⟨⟨kd, nm, vr⟩, b, o, hst, rfl, e0, e1, e2⟩ := HL.out.at_ hlt (Kept.of_below HB.out)
        have HST := Lib.hid hst
        have HSN := Lib.hid (show short nm from HSH.out _ (List.mem_of_getElem? hst))
        dsimp only at e0 e1 e2
        clear hst
        go_wp2_with fail
        clear e0 e1 e2
        have HB1 := Lib.hid (below_alloc HB.out (.cells #[.int .i64 kd, .string (bs nm), .string (bs vr)] 78))
        have HQ := Lib.hid (mayAsk_any kd nm vr (wr.alloc (.cells #[.int .i64 kd, .string (bs nm), .string (bs vr)] 78)) HSN.out)
        refine HQ.out.mono ?_
        rintro e w2 ⟨rfl, hb2⟩
        have HB2 := Lib.hid (below_next HB1.out hb2)
        clear hb2 HQ
        rcases hm : mayQ ⟨kd, nm, vr⟩
        · have HG := Lib.hid (HG.out.trans (mayQs_form HN.out HST.out hm))
          clear hm
          go_wp2
          go_ret
          exact ⟨by rw [HG.out]; rfl, HB2.out⟩
        · have HM := Lib.hid hm
          clear hm
          go_wp2
          go_roundw
          case rel => exact ⟨k + 1, by omega, by simp, qall_step HST.out HA.out HM.out, HB2.out⟩
          case measure => (try simp only [intOf]); omega
      · have ha := HA.out
        rw [take_end hk hlt] at ha
        have HG := Lib.hid (show G = if twF twiceB [] l then 4 else 0 from HG.out.trans (mayQs_all HN.out ha))
        have HB0 := Lib.hid HB.out
        clear ha HA
        go_wp2
        clear hk hlt HB
        go_loopw [29] (fun i wr => ∃ k : Nat, k ≤ l.length ∧ i = .int .i64 k ∧ twF twiceB [] l = twF twiceB (l.take k) (l.drop k) ∧ Below w.heap.size w wr) (fun i _ => l.length - (intOf i).toNat)
        case atStart => exact ⟨0, Nat.zero_le _, rfl, rfl, HB0.out⟩
        case round =>
          clear HB0
          obtain ⟨k, hk, rfl, ht, hb⟩ := hrel
          have HT := Lib.hid ht
          have HB := Lib.hid hb
          clear ht hb
          by_cases hlt : k < l.length
          · obtain ⟨⟨kd, nm, vr⟩, b, o, hst, rfl, e0, e1, e2⟩ := HL.out.at_ hlt (Kept.of_below HB.out)
            have HST := Lib.hid hst
            have HT := Lib.hid (HT.out.trans (twF_step hst))
            dsimp only at e0 e1 e2
            clear hst
            have hkc : (k : Int) ≤ (c : Int) := by omega
            go_wp2_with fail
            clear e0 e1 e2
            have K1 := Lib.hid (blk_new1 wr 78 #[.int .i64 kd, .string (bs nm), .string (bs vr)])
            have HB1 := Lib.hid (below_alloc HB.out (.cells #[.int .i64 kd, .string (bs nm), .string (bs vr)] 78))
            generalize wr.alloc (.cells #[.int .i64 kd, .string (bs nm), .string (bs vr)] 78) = W at K1 HB1 ⊢
            generalize wr.heap.size = g at K1 ⊢
            go_loopw [38] (fun i w2 => ∃ j : Nat, j ≤ k ∧ i = .int .i64 j ∧ (l.take j).any (twiceB ⟨kd, nm, vr⟩) = false ∧ Below W.heap.size W w2) (fun i _ => k - (intOf i).toNat)
            case atStart => exact ⟨0, Nat.zero_le _, rfl, rfl, Below.refl _ _⟩
            case round =>
              obtain ⟨j, hj, rfl, hn, hb⟩ := hrel
              have HJ := Lib.hid hn
              have HBj := Lib.hid hb
              have K2 := Lib.hid (K1.out.next hb)
              clear hn hb
              by_cases hjk : j < k
              · obtain ⟨⟨kb, nb, vb⟩, b2, o2, hsb, hA2, d0, d1, d2⟩ := HL.out.at_ (show j < l.length by omega) (Kept.of_below (below_next HB1.out HBj.out))
                obtain ⟨rfl, rfl⟩ : b = b2 ∧ o = o2 := by injection hA2 with hA; injection hA with h1 h2; exact ⟨h1, h2⟩
                have HSB := Lib.hid hsb
                have HAN := Lib.hid (fun (h : twiceB ⟨kd, nm, vr⟩ ⟨kb, nb, vb⟩ = true) => show G = 4 by
                  rw [HG.out, HT.out, List.any_eq_true.2 ⟨_, List.mem_of_getElem? (show (l.take k)[j]? = some ⟨kb, nb, vb⟩ by rw [List.getElem?_take, if_pos hjk]; exact hsb), h⟩]
                  rfl)
                dsimp only at d0 d1 d2
                have KB := Lib.hid (blk_new1 wr 78 #[.int .i64 kb, .string (bs nb), .string (bs vb)])
                have KA := Lib.hid (K2.out.alloc (.cells #[.int .i64 kb, .string (bs nb), .string (bs vb)] 78))
                have HBB := Lib.hid (below_next HB1.out (below_alloc HBj.out (.cells #[.int .i64 kb, .string (bs nb), .string (bs vb)] 78)))
                have HBI := Lib.hid (below_alloc HBj.out (.cells #[.int .i64 kb, .string (bs nb), .string (bs vb)] 78))
                have p0 := fun (o : Obj) => (K2.out.alloc o).cell 0
                have p1 := fun (o : Obj) => (K2.out.alloc o).cell 1
                have p2 := fun (o : Obj) => (K2.out.alloc o).cell 2
                simp only [List.getElem?_toArray, List.getElem?_cons_zero, List.getElem?_cons_succ] at p0 p1 p2
                clear hsb hA2
                by_cases hnn : nm ≠ [] ∧ nm = nb
                · have h1 : nm.isEmpty = false := by simpa using hnn.1
                  have h2 : (nm == nb) = true := by simpa using hnn.2
                  have HG := Lib.hid (HAN.out (by unfold twiceB; dsimp only; rw [show (nm == []) = false by simpa using hnn.1, show (nm == nb) = true by simpa using hnn.2]; rfl))
                  clear hnn
                  go_wp2
                  go_ret
                  exact ⟨by rw [HG.out]; rfl, HBB.out⟩
                · have hfst : (!nm.isEmpty && nm == nb) = false := by
                    rw [Bool.eq_false_iff]
                    intro h
                    simp only [Bool.and_eq_true, Bool.not_eq_true', beq_iff_eq] at h
                    exact hnn ⟨by simpa using h.1, h.2⟩
                  have HTB := Lib.hid (show twiceB ⟨kd, nm, vr⟩ ⟨kb, nb, vb⟩ = (wholeQ ⟨kd, nm, vr⟩ && wholeQ ⟨kb, nb, vb⟩) by
                    unfold twiceB
                    rw [show (!(nm == []) && nm == nb) = false by
                      rw [Bool.eq_false_iff]
                      intro h
                      simp only [Bool.and_eq_true, Bool.not_eq_true', beq_iff_eq, beq_eq_false_iff_ne] at h
                      exact hnn ⟨h.1, h.2⟩]
                    rfl)
                  have hcase : nm.isEmpty = true ∨ nm.isEmpty = false ∧ (nm == nb) = false := by
                    rcases h : nm.isEmpty
                    · exact .inr ⟨rfl, by rw [h] at hfst; simpa using hfst⟩
                    · exact .inl rfl
                  clear hnn hfst
                  rcases hcase with h1 | ⟨h1, h2⟩
                  · go_wp2_with fail
                    clear d0 d1 d2 p0 p1 p2
                    have HQ := Lib.hid (whole_any kd nm vr (wr.alloc (.cells #[.int .i64 kb, .string (bs nb), .string (bs vb)] 78)))
                    refine HQ.out.mono ?_
                    rintro e w3 ⟨rfl, hb3⟩
                    have KA3 := Lib.hid (KA.out.next hb3)
                    have KB3 := Lib.hid (KB.out.next hb3)
                    have HBB3 := Lib.hid (below_next HBB.out hb3)
                    have HBI3 := Lib.hid (below_next HBI.out hb3)
                    clear hb3 HQ
                    rcases hwa : wholeQ ⟨kd, nm, vr⟩
                    · have HP := Lib.hid (show twiceB ⟨kd, nm, vr⟩ ⟨kb, nb, vb⟩ = false by rw [HTB.out, hwa]; rfl)
                      clear hwa
                      go_wp2
                      go_roundw
                      case rel => exact ⟨j + 1, by omega, by simp, any_step HSB.out HP.out HJ.out, HBI3.out⟩
                      case measure => (try simp only [intOf]); omega
                    · have q0 := KB3.out.cell 0
                      have q1 := KB3.out.cell 1
                      have q2 := KB3.out.cell 2
                      simp only [List.getElem?_toArray, List.getElem?_cons_zero, List.getElem?_cons_succ] at q0 q1 q2
                      have HWA := Lib.hid hwa
                      clear hwa
                      go_wp2_with fail
                      have HQ := Lib.hid (whole_any kb nb vb w3)
                      refine HQ.out.mono ?_
                      rintro e w4 ⟨rfl, hb4⟩
                      have HBB4 := Lib.hid (below_next HBB3.out hb4)
                      have HBI4 := Lib.hid (below_next HBI3.out hb4)
                      clear hb4 HQ q0 q1 q2
                      rcases hwb : wholeQ ⟨kb, nb, vb⟩
                      · have HP := Lib.hid (show twiceB ⟨kd, nm, vr⟩ ⟨kb, nb, vb⟩ = false by rw [HTB.out, hwb, Bool.and_false])
                        clear hwb
                        go_wp2
                        go_roundw
                        case rel => exact ⟨j + 1, by omega, by simp, any_step HSB.out HP.out HJ.out, HBI4.out⟩
                        case measure => (try simp only [intOf]); omega
                      · have HG := Lib.hid (HAN.out (by rw [HTB.out, HWA.out, hwb]; rfl))
                        clear hwb
                        go_wp2
                        go_ret
                        exact ⟨by rw [HG.out]; rfl, HBB4.out⟩
                  · go_wp2_with fail
                    clear d0 d1 d2 p0 p1 p2
                    have HQ := Lib.hid (whole_any kd nm vr (wr.alloc (.cells #[.int .i64 kb, .string (bs nb), .string (bs vb)] 78)))
                    refine HQ.out.mono ?_
                    rintro e w3 ⟨rfl, hb3⟩
                    have KA3 := Lib.hid (KA.out.next hb3)
                    have KB3 := Lib.hid (KB.out.next hb3)
                    have HBB3 := Lib.hid (below_next HBB.out hb3)
                    have HBI3 := Lib.hid (below_next HBI.out hb3)
                    clear hb3 HQ
                    rcases hwa : wholeQ ⟨kd, nm, vr⟩
                    · have HP := Lib.hid (show twiceB ⟨kd, nm, vr⟩ ⟨kb, nb, vb⟩ = false by rw [HTB.out, hwa]; rfl)
                      clear hwa
                      go_wp2
                      go_roundw
                      case rel => exact ⟨j + 1, by omega, by simp, any_step HSB.out HP.out HJ.out, HBI3.out⟩
                      case measure => (try simp only [intOf]); omega
                    · have q0 := KB3.out.cell 0
                      have q1 := KB3.out.cell 1
                      have q2 := KB3.out.cell 2
                      simp only [List.getElem?_toArray, List.getElem?_cons_zero, List.getElem?_cons_succ] at q0 q1 q2
                      have HWA := Lib.hid hwa
                      clear hwa
                      go_wp2_with fail
                      have HQ := Lib.hid (whole_any kb nb vb w3)
                      refine HQ.out.mono ?_
                      rintro e w4 ⟨rfl, hb4⟩
                      have HBB4 := Lib.hid (below_next HBB3.out hb4)
                      have HBI4 := Lib.hid (below_next HBI3.out hb4)
                      clear hb4 HQ q0 q1 q2
                      rcases hwb : wholeQ ⟨kb, nb, vb⟩
                      · have HP := Lib.hid (show twiceB ⟨kd, nm, vr⟩ ⟨kb, nb, vb⟩ = false by rw [HTB.out, hwb, Bool.and_false])
                        clear hwb
                        go_wp2
                        go_roundw
                        case rel => exact ⟨j + 1, by omega, by simp, any_step HSB.out HP.out HJ.out, HBI4.out⟩
                        case measure => (try simp only [intOf]); omega
                      · have HG := Lib.hid (HAN.out (by rw [HTB.out, HWA.out, hwb]; rfl))
                        clear hwb
                        go_wp2
                        go_ret
                        exact ⟨by rw [HG.out]; rfl, HBB4.out⟩
              · obtain rfl : j = k := by omega
                have HT := Lib.hid (show twF twiceB [] l = twF twiceB (l.take (j + 1)) (l.drop (j + 1)) by rw [HT.out, HJ.out]; rfl)
                go_wp2
                go_roundw
                case rel => exact ⟨j + 1, by omega, by simp, HT.out, below_next HB1.out HBj.out⟩
                case measure => (try simp only [intOf]); omega
          · have ht := HT.out.trans (twF_end (by omega))
            rw [ht] at HG
            have HG := Lib.hid (show G = 0 from HG.out)
            go_wp2
            go_ret
            exact ⟨by rw [HG.out]; rfl, HB.out⟩
set_option maxRecDepth 100000 in
theorem asks_any (l : List Stp) (A : Option Addr) (c : Nat) (kd : Int) (w : World) (hl : Stps w A c l) :
    Calls Tryd.prog 50 #[.slice A l.length c, .int .i64 kd] w fun e w' => e = .returned (.bool (l.any fun a => a.kind == kd)) ∧ Below w.heap.size w w' := by
  have HL := Lib.hid hl
  have hbl := Slc.bd hl
  clear hl
  obtain ⟨p, hp⟩ : ∃ p : Stp → Bool, p = fun a => a.kind == kd := ⟨_, rfl⟩
  rw [← hp]
  have HP := Lib.hid hp
  clear hp
  go_enter Tryd.func50, Tryd.ntmps50
  go_wp2
  go_loopw [9] (fun i wr => ∃ k : Nat, k ≤ l.length ∧ i = .int .i64 k ∧ (l.take k).any p = false ∧ Below w.heap.size w wr) (fun i _ => l.length - (intOf i).toNat)
  case atStart => exact ⟨0, Nat.zero_le _, rfl, rfl, Below.refl _ _⟩
  case round =>
    obtain ⟨k, hk, rfl, hn, hb⟩ := hrel
    have HN := Lib.hid hn
    have HB := Lib.hid hb
    clear hn hb
    by_cases hlt : k < l.length
    · obtain ⟨⟨ka, nm, vr⟩, b, o, hst, rfl, e0, e1, e2⟩ := HL.out.at_ hlt (Kept.of_below HB.out)
      have HST := Lib.hid hst
      dsimp only at e0 e1 e2
      clear hst
      by_cases hk2 : ka = kd
      · have hkb : (ka == kd) = true := by simpa using hk2
        have HA := Lib.hid (show l.any p = true from List.any_eq_true.2 ⟨_, List.mem_of_getElem? HST.out, by rw [HP.out]; simpa using hk2⟩)
        clear hk2
        go_wp2
        go_ret
        exact ⟨by rw [HA.out]; rfl, below_alloc HB.out _⟩
      · have hkb : (ka == kd) = false := by simpa using hk2
        have HA := Lib.hid (show p ⟨ka, nm, vr⟩ = false by rw [HP.out]; simpa using hk2)
        clear hk2
        go_wp2
        go_roundw
        case rel => exact ⟨k + 1, by omega, by simp, any_step HST.out HA.out HN.out, below_alloc HB.out _⟩
        case measure => (try simp only [intOf]); omega
    · have hn := HN.out
      rw [take_end hk hlt] at hn
      have HN := Lib.hid hn
      clear hn
      go_wp2
      go_ret
      exact ⟨by rw [HN.out]; rfl, HB.out⟩
end Go.Proofs.YtcbomomlojhghaaDoor
namespace Go.Proofs.YtcbomomlojhghaaDoor
set_option linter.unusedSimpArgs false
set_option linter.unusedVariables false
open Go.RowKit
attribute [local go_sem ↓] Go.wp_at_zero Go.wp_at_succ
theorem cntE_step {l : List Stp} {k : Nat} {a : Stp} (h : l[k]? = some a) : cntE (l.take (k + 1)) = cntE (l.take k) + (if a.name == [] then 1 else 0) := by
  unfold cntE
  rw [take_step h, List.filter_append, List.length_append, List.filter_cons]
  split <;> simp
theorem cntE_le (l : List Stp) : cntE l ≤ l.length := List.length_filter_le ..
set_option maxRecDepth 100000 in
set_option maxHeartbeats 2000000 in
theorem rmayAsks_any (l : List Stp) (A : Option Addr) (c : Nat) (w : World) (hl : Stps w A c l) (hs : ∀ a ∈ l, short a.name) :
    Calls Tryd.prog 22 #[.slice A l.length c] w fun e w' => e = .returned (.int .i64 (mayQs l)) ∧ Below w.heap.size w w' := by
  have HL := Lib.hid hl
  have HSH := Lib.hid hs
  have hbl := Slc.bd hl
  clear hl hs
  obtain ⟨G, hG⟩ : ∃ G, G = mayQs l := ⟨_, rfl⟩
  rw [← hG]
  by_cases h0 : l.length = 0 ∨ 6 < l.length
  · have HG := Lib.hid (show G = 12 from hG.trans (mayQs_len h0))
    clear hG
    by_cases hz : l.length = 0
    · have hzb : ((l.length : Int) == 0) = true := by rw [beq_iff_eq]; omega
      clear hz h0
      go_enter Tryd.func22, Tryd.ntmps22
      go_wp2
      go_ret
      exact ⟨by rw [HG.out]; rfl, Below.refl _ _⟩
    · have hzb : ((l.length : Int) == 0) = false := by rw [beq_eq_false_iff_ne]; omega
      have h6 : decide ((6 : Int) < (l.length : Int)) = true := decide_eq_true (by omega)
      clear hz h0
      go_enter Tryd.func22, Tryd.ntmps22
      go_wp2
      go_ret
      exact ⟨by rw [HG.out]; rfl, Below.refl _ _⟩
  · have hzb : ((l.length : Int) == 0) = false := by rw [beq_eq_false_iff_ne]; omega
    have h6 : decide ((6 : Int) < (l.length : Int)) = false := decide_eq_false (by omega)
    have HN := Lib.hid h0
    have HG := Lib.hid hG
    have hle : l.length ≤ 6 := by omega
    clear h0 hG
    go_enter Tryd.func22, Tryd.ntmps22
    go_wp2
    go_loopw [21] (fun i wr => ∃ k : Nat, k ≤ l.length ∧ i = .int .i64 k ∧ (l.take k).all mayQ = true ∧ Below w.heap.size w wr) (fun i _ => l.length - (intOf i).toNat)
    case atStart => exact ⟨0, Nat.zero_le _, rfl, rfl, Below.refl _ _⟩
    case round =>
      obtain ⟨k, hk, rfl, hn, hb⟩ := hrel
      have HA := Lib.hid hn
      have HB := Lib.hid hb
      clear hn hb
      by_cases hlt : k < l.length
      · obtain ⟨⟨kd, nm, vr⟩, b, o, hst, rfl, e0, e1, e2⟩ := HL.out.at_ hlt (Kept.of_below HB.out)
        have HST := Lib.hid hst
        have HSN := Lib.hid (show short nm from HSH.out _ (List.mem_of_getElem? hst))
        dsimp only at e0 e1 e2
        have HB1 := Lib.hid (below_alloc HB.out (.cells #[.int .i64 kd, .string (bs nm), .string (bs vr)] 78))
        clear hst
        by_cases hk7 : 1 ≤ kd ∧ kd ≤ 7
        · obtain rfl | rfl | rfl | rfl | rfl | rfl | rfl : kd = 1 ∨ kd = 2 ∨ kd = 3 ∨ kd = 4 ∨ kd = 5 ∨ kd = 6 ∨ kd = 7 := by omega
          · rcases hnm : nameS nm
            · have HNM := Lib.hid hnm
              have HMF := Lib.hid (show mayQ ⟨1, nm, vr⟩ = false by simp [mayQ, namQ, hnm])
              clear hnm
              go_wp2_with fail
              refine (rname_any nm HSN.out _).mono ?_
              rintro e w2 ⟨rfl, hw2⟩
              subst hw2
              rw [HNM.out]
              have HG := Lib.hid (HG.out.trans (mayQs_form HN.out HST.out HMF.out))
              go_wp2
              go_ret
              exact ⟨by rw [HG.out]; rfl, HB1.out⟩
            · have HNM := Lib.hid hnm
              by_cases hv0 : vr = []
              · have hvb : vr.isEmpty = true := by simpa using hv0
                have HMT := Lib.hid (show mayQ ⟨1, nm, vr⟩ = true by simp [mayQ, namQ, hnm, hv0, wordQ])
                clear hnm hv0
                go_wp2_with fail
                refine (rname_any nm HSN.out _).mono ?_
                rintro e w2 ⟨rfl, hw2⟩
                subst hw2
                rw [HNM.out]
                go_wp2
                go_roundw
                case rel => exact ⟨k + 1, by omega, by simp, qall_step HST.out HA.out HMT.out, HB1.out⟩
                case measure => (try simp only [intOf]); omega
              · have hvb : vr.isEmpty = false := by simpa using hv0
                rcases hiv : isV vr
                · have HIV := Lib.hid hiv
                  have HMF := Lib.hid (show mayQ ⟨1, nm, vr⟩ = false by simp [mayQ, namQ, hnm, hv0, verQ, hiv])
                  clear hnm hv0 hiv
                  go_wp2_with fail
                  refine (rname_any nm HSN.out _).mono ?_
                  rintro e w2 ⟨rfl, hw2⟩
                  subst hw2
                  rw [HNM.out]
                  go_wp2_with fail
                  refine (rIs_any vr _).mono ?_
                  rintro e w3 ⟨rfl, hb3⟩
                  rw [HIV.out]
                  have HB3 := Lib.hid (below_next HB1.out hb3)
                  clear hb3
                  have HG := Lib.hid (HG.out.trans (mayQs_form HN.out HST.out HMF.out))
                  go_wp2
                  go_ret
                  exact ⟨by rw [HG.out]; rfl, HB3.out⟩
                · have HIV := Lib.hid hiv
                  have HMT := Lib.hid (show mayQ ⟨1, nm, vr⟩ = true by simp [mayQ, namQ, hnm, hv0, verQ, hiv, wordQ])
                  clear hnm hv0 hiv
                  go_wp2_with fail
                  refine (rname_any nm HSN.out _).mono ?_
                  rintro e w2 ⟨rfl, hw2⟩
                  subst hw2
                  rw [HNM.out]
                  go_wp2_with fail
                  refine (rIs_any vr _).mono ?_
                  rintro e w3 ⟨rfl, hb3⟩
                  rw [HIV.out]
                  have HB3 := Lib.hid (below_next HB1.out hb3)
                  clear hb3
                  go_wp2
                  go_roundw
                  case rel => exact ⟨k + 1, by omega, by simp, qall_step HST.out HA.out HMT.out, HB3.out⟩
                  case measure => (try simp only [intOf]); omega
          · rcases hnm : nameS nm
            · have HNM := Lib.hid hnm
              have HMF := Lib.hid (show mayQ ⟨2, nm, vr⟩ = false by simp [mayQ, namQ, hnm])
              clear hnm
              go_wp2_with fail
              refine (rname_any nm HSN.out _).mono ?_
              rintro e w2 ⟨rfl, hw2⟩
              subst hw2
              rw [HNM.out]
              have HG := Lib.hid (HG.out.trans (mayQs_form HN.out HST.out HMF.out))
              go_wp2
              go_ret
              exact ⟨by rw [HG.out]; rfl, HB1.out⟩
            · have HNM := Lib.hid hnm
              by_cases hv0 : vr = []
              · have hvb : vr.isEmpty = true := by simpa using hv0
                have HMT := Lib.hid (show mayQ ⟨2, nm, vr⟩ = true by simp [mayQ, namQ, hnm, hv0, wordQ])
                clear hnm hv0
                go_wp2_with fail
                refine (rname_any nm HSN.out _).mono ?_
                rintro e w2 ⟨rfl, hw2⟩
                subst hw2
                rw [HNM.out]
                go_wp2
                go_roundw
                case rel => exact ⟨k + 1, by omega, by simp, qall_step HST.out HA.out HMT.out, HB1.out⟩
                case measure => (try simp only [intOf]); omega
              · have hvb : vr.isEmpty = false := by simpa using hv0
                have HMF := Lib.hid (show mayQ ⟨2, nm, vr⟩ = false by simp [mayQ, namQ, hnm, hv0, verQ])
                clear hnm hv0
                go_wp2_with fail
                refine (rname_any nm HSN.out _).mono ?_
                rintro e w2 ⟨rfl, hw2⟩
                subst hw2
                rw [HNM.out]
                have HG := Lib.hid (HG.out.trans (mayQs_form HN.out HST.out HMF.out))
                go_wp2
                go_ret
                exact ⟨by rw [HG.out]; rfl, HB1.out⟩
          · by_cases hn0 : nm = []
            · have hnb : nm.isEmpty = true := by simpa using hn0
              by_cases hv0 : vr = []
              · have hvb : vr.isEmpty = true := by simpa using hv0
                have HMT := Lib.hid (show mayQ ⟨3, nm, vr⟩ = true by simp [mayQ, namQ, hn0, hv0, wordQ])
                clear hn0 hv0
                go_wp2
                go_roundw
                case rel => exact ⟨k + 1, by omega, by simp, qall_step HST.out HA.out HMT.out, HB1.out⟩
                case measure => (try simp only [intOf]); omega
              · have hvb : vr.isEmpty = false := by simpa using hv0
                have HMF := Lib.hid (show mayQ ⟨3, nm, vr⟩ = false by simp [mayQ, namQ, hv0, verQ])
                clear hn0 hv0
                have HG := Lib.hid (HG.out.trans (mayQs_form HN.out HST.out HMF.out))
                go_wp2
                go_ret
                exact ⟨by rw [HG.out]; rfl, HB1.out⟩
            · have hnb : nm.isEmpty = false := by simpa using hn0
              have HMF := Lib.hid (show mayQ ⟨3, nm, vr⟩ = false by simp [mayQ, namQ, hn0])
              clear hn0
              have HG := Lib.hid (HG.out.trans (mayQs_form HN.out HST.out HMF.out))
              go_wp2
              go_ret
              exact ⟨by rw [HG.out]; rfl, HB1.out⟩
          · by_cases hn0 : nm = []
            · have hnb : nm.isEmpty = true := by simpa using hn0
              by_cases hv0 : vr = []
              · have hvb : vr.isEmpty = true := by simpa using hv0
                have HMT := Lib.hid (show mayQ ⟨4, nm, vr⟩ = true by simp [mayQ, namQ, hn0, hv0, wordQ])
                clear hn0 hv0
                go_wp2
                go_roundw
                case rel => exact ⟨k + 1, by omega, by simp, qall_step HST.out HA.out HMT.out, HB1.out⟩
                case measure => (try simp only [intOf]); omega
              · have hvb : vr.isEmpty = false := by simpa using hv0
                have HMF := Lib.hid (show mayQ ⟨4, nm, vr⟩ = false by simp [mayQ, namQ, hv0, verQ])
                clear hn0 hv0
                have HG := Lib.hid (HG.out.trans (mayQs_form HN.out HST.out HMF.out))
                go_wp2
                go_ret
                exact ⟨by rw [HG.out]; rfl, HB1.out⟩
            · have hnb : nm.isEmpty = false := by simpa using hn0
              have HMF := Lib.hid (show mayQ ⟨4, nm, vr⟩ = false by simp [mayQ, namQ, hn0])
              clear hn0
              have HG := Lib.hid (HG.out.trans (mayQs_form HN.out HST.out HMF.out))
              go_wp2
              go_ret
              exact ⟨by rw [HG.out]; rfl, HB1.out⟩
          · rcases hnm : nameS nm
            · have HNM := Lib.hid hnm
              have HMF := Lib.hid (show mayQ ⟨5, nm, vr⟩ = false by simp [mayQ, namQ, hnm])
              clear hnm
              go_wp2_with fail
              refine (rname_any nm HSN.out _).mono ?_
              rintro e w2 ⟨rfl, hw2⟩
              subst hw2
              rw [HNM.out]
              have HG := Lib.hid (HG.out.trans (mayQs_form HN.out HST.out HMF.out))
              go_wp2
              go_ret
              exact ⟨by rw [HG.out]; rfl, HB1.out⟩
            · have HNM := Lib.hid hnm
              by_cases hv0 : vr = []
              · have hvb : vr.isEmpty = true := by simpa using hv0
                have HMT := Lib.hid (show mayQ ⟨5, nm, vr⟩ = true by simp [mayQ, namQ, hnm, hv0, wordQ])
                clear hnm hv0
                go_wp2_with fail
                refine (rname_any nm HSN.out _).mono ?_
                rintro e w2 ⟨rfl, hw2⟩
                subst hw2
                rw [HNM.out]
                go_wp2
                go_roundw
                case rel => exact ⟨k + 1, by omega, by simp, qall_step HST.out HA.out HMT.out, HB1.out⟩
                case measure => (try simp only [intOf]); omega
              · have hvb : vr.isEmpty = false := by simpa using hv0
                have HMF := Lib.hid (show mayQ ⟨5, nm, vr⟩ = false by simp [mayQ, namQ, hnm, hv0, verQ])
                clear hnm hv0
                go_wp2_with fail
                refine (rname_any nm HSN.out _).mono ?_
                rintro e w2 ⟨rfl, hw2⟩
                subst hw2
                rw [HNM.out]
                have HG := Lib.hid (HG.out.trans (mayQs_form HN.out HST.out HMF.out))
                go_wp2
                go_ret
                exact ⟨by rw [HG.out]; rfl, HB1.out⟩
          · rcases hnm : nameS nm
            · have HNM := Lib.hid hnm
              have HMF := Lib.hid (show mayQ ⟨6, nm, vr⟩ = false by simp [mayQ, namQ, hnm])
              clear hnm
              go_wp2_with fail
              refine (rname_any nm HSN.out _).mono ?_
              rintro e w2 ⟨rfl, hw2⟩
              subst hw2
              rw [HNM.out]
              have HG := Lib.hid (HG.out.trans (mayQs_form HN.out HST.out HMF.out))
              go_wp2
              go_ret
              exact ⟨by rw [HG.out]; rfl, HB1.out⟩
            · have HNM := Lib.hid hnm
              by_cases hv0 : vr = []
              · have hvb : vr.isEmpty = true := by simpa using hv0
                have HMT := Lib.hid (show mayQ ⟨6, nm, vr⟩ = true by simp [mayQ, namQ, hnm, hv0, wordQ])
                clear hnm hv0
                go_wp2_with fail
                refine (rname_any nm HSN.out _).mono ?_
                rintro e w2 ⟨rfl, hw2⟩
                subst hw2
                rw [HNM.out]
                go_wp2
                go_roundw
                case rel => exact ⟨k + 1, by omega, by simp, qall_step HST.out HA.out HMT.out, HB1.out⟩
                case measure => (try simp only [intOf]); omega
              · have hvb : vr.isEmpty = false := by simpa using hv0
                have HMF := Lib.hid (show mayQ ⟨6, nm, vr⟩ = false by simp [mayQ, namQ, hnm, hv0, verQ])
                clear hnm hv0
                go_wp2_with fail
                refine (rname_any nm HSN.out _).mono ?_
                rintro e w2 ⟨rfl, hw2⟩
                subst hw2
                rw [HNM.out]
                have HG := Lib.hid (HG.out.trans (mayQs_form HN.out HST.out HMF.out))
                go_wp2
                go_ret
                exact ⟨by rw [HG.out]; rfl, HB1.out⟩
          · by_cases hn0 : nm = []
            · have hnb : nm.isEmpty = true := by simpa using hn0
              by_cases hv0 : vr = []
              · have hvb : vr.isEmpty = true := by simpa using hv0
                have HMT := Lib.hid (show mayQ ⟨7, nm, vr⟩ = true by simp [mayQ, namQ, hn0, hv0, wordQ])
                clear hn0 hv0
                go_wp2
                go_roundw
                case rel => exact ⟨k + 1, by omega, by simp, qall_step HST.out HA.out HMT.out, HB1.out⟩
                case measure => (try simp only [intOf]); omega
              · have hvb : vr.isEmpty = false := by simpa using hv0
                have HMF := Lib.hid (show mayQ ⟨7, nm, vr⟩ = false by simp [mayQ, namQ, hv0, verQ])
                clear hn0 hv0
                have HG := Lib.hid (HG.out.trans (mayQs_form HN.out HST.out HMF.out))
                go_wp2
                go_ret
                exact ⟨by rw [HG.out]; rfl, HB1.out⟩
            · have hnb : nm.isEmpty = false := by simpa using hn0
              have HMF := Lib.hid (show mayQ ⟨7, nm, vr⟩ = false by simp [mayQ, namQ, hn0])
              clear hn0
              have HG := Lib.hid (HG.out.trans (mayQs_form HN.out HST.out HMF.out))
              go_wp2
              go_ret
              exact ⟨by rw [HG.out]; rfl, HB1.out⟩
        · have HMF := Lib.hid (show mayQ ⟨kd, nm, vr⟩ = false by unfold mayQ; dsimp only; rw [(wordQ_nil kd).2 hk7]; rfl)
          have k1 : (kd == 1) = false := by rw [beq_eq_false_iff_ne]; omega
          have k2 : (kd == 2) = false := by rw [beq_eq_false_iff_ne]; omega
          have k5 : (kd == 5) = false := by rw [beq_eq_false_iff_ne]; omega
          have k6 : (kd == 6) = false := by rw [beq_eq_false_iff_ne]; omega
          by_cases h1 : kd < 1
          · have h1 : decide (kd < 1) = true := decide_eq_true h1
            clear hk7
            have HG := Lib.hid (HG.out.trans (mayQs_form HN.out HST.out HMF.out))
            go_wp2
            go_ret
            exact ⟨by rw [HG.out]; rfl, HB1.out⟩
          · have h7 : decide (7 < kd) = true := decide_eq_true (by omega)
            have h1 : decide (kd < 1) = false := decide_eq_false h1
            clear hk7
            have HG := Lib.hid (HG.out.trans (mayQs_form HN.out HST.out HMF.out))
            go_wp2
            go_ret
            exact ⟨by rw [HG.out]; rfl, HB1.out⟩
      · have ha := HA.out
        rw [take_end hk hlt] at ha
        have HG := Lib.hid (show G = if twF sameN [] l || decide (1 < cntE l) then 4 else 0 from HG.out.trans (mayQs_cnt HN.out ha))
        have HB0 := Lib.hid HB.out
        clear ha HA
        go_wp2
        clear hk hlt HB
        go_loopw [6, 84] (fun cv i wr => ∃ k n : Nat, k ≤ l.length ∧ i = .int .i64 k ∧ cv = .int .i64 n ∧ n = cntE (l.take k) ∧ twF sameN [] l = twF sameN (l.take k) (l.drop k) ∧ Below w.heap.size w wr) (fun _ i _ => l.length - (intOf i).toNat)
        case atStart => exact ⟨0, 0, Nat.zero_le _, rfl, rfl, rfl, rfl, HB0.out⟩
        case round =>
          clear HB0
          obtain ⟨k, n, hk, rfl, rfl, hc, ht, hb⟩ := hrel
          have HT := Lib.hid ht
          have HC := Lib.hid hc
          have HB := Lib.hid hb
          have hn6 : n ≤ 6 := by rw [hc]; exact Nat.le_trans (cntE_le _) (by rw [List.length_take]; omega)
          clear ht hb hc
          by_cases hlt : k < l.length
          · obtain ⟨⟨kd, nm, vr⟩, b, o, hst, rfl, e0, e1, e2⟩ := HL.out.at_ hlt (Kept.of_below HB.out)
            have HST := Lib.hid hst
            have HT := Lib.hid (HT.out.trans (twF_step hst))
            have HCS := Lib.hid (cntE_step hst)
            dsimp only at e0 e1 e2
            clear hst
            have hkc : (k : Int) ≤ (c : Int) := by omega
            rcases hne : nm.isEmpty
            · have HC1 := Lib.hid (show n = cntE (l.take (k + 1)) by rw [HCS.out, ← HC.out, show (nm == []) = false by simpa using hne]; rfl)
              go_wp2_with fail
              clear e0 e1 e2
              have K1 := Lib.hid (blk_new1 wr 78 #[.int .i64 kd, .string (bs nm), .string (bs vr)])
              have HB1 := Lib.hid (below_alloc HB.out (.cells #[.int .i64 kd, .string (bs nm), .string (bs vr)] 78))
              generalize wr.alloc (.cells #[.int .i64 kd, .string (bs nm), .string (bs vr)] 78) = W at K1 HB1 ⊢
              generalize wr.heap.size = g at K1 ⊢
              go_loopw [98] (fun i w2 => ∃ j : Nat, j ≤ k ∧ i = .int .i64 j ∧ (l.take j).any (sameN ⟨kd, nm, vr⟩) = false ∧ Below W.heap.size W w2) (fun i _ => k - (intOf i).toNat)
              case atStart => exact ⟨0, Nat.zero_le _, rfl, rfl, Below.refl _ _⟩
              case round =>
                obtain ⟨j, hj, rfl, hn, hb⟩ := hrel
                have HJ := Lib.hid hn
                have HBj := Lib.hid hb
                have K2 := Lib.hid (K1.out.next hb)
                clear hn hb
                by_cases hjk : j < k
                · obtain ⟨⟨kb, nb, vb⟩, b2, o2, hsb, hA2, d0, d1, d2⟩ := HL.out.at_ (show j < l.length by omega) (Kept.of_below (below_next HB1.out HBj.out))
                  obtain ⟨rfl, rfl⟩ : b = b2 ∧ o = o2 := by injection hA2 with hA; injection hA with h1 h2; exact ⟨h1, h2⟩
                  have HSB := Lib.hid hsb
                  have HAN := Lib.hid (fun (h : sameN ⟨kd, nm, vr⟩ ⟨kb, nb, vb⟩ = true) => show G = 4 by
                    rw [HG.out, HT.out, List.any_eq_true.2 ⟨_, List.mem_of_getElem? (show (l.take k)[j]? = some ⟨kb, nb, vb⟩ by rw [List.getElem?_take, if_pos hjk]; exact hsb), h⟩]
                    rfl)
                  dsimp only at d0 d1 d2
                  have HBB := Lib.hid (below_next HB1.out (below_alloc HBj.out (.cells #[.int .i64 kb, .string (bs nb), .string (bs vb)] 78)))
                  have HBI := Lib.hid (below_alloc HBj.out (.cells #[.int .i64 kb, .string (bs nb), .string (bs vb)] 78))
                  have p0 := fun (o : Obj) => (K2.out.alloc o).cell 0
                  have p1 := fun (o : Obj) => (K2.out.alloc o).cell 1
                  have p2 := fun (o : Obj) => (K2.out.alloc o).cell 2
                  simp only [List.getElem?_toArray, List.getElem?_cons_zero, List.getElem?_cons_succ] at p0 p1 p2
                  clear hsb hA2
                  by_cases hq : nm = nb
                  · have hqb : (nb == nm) = true := by simpa using hq.symm
                    have HG := Lib.hid (HAN.out (by unfold sameN; dsimp only; rw [show (nm == []) = false by simpa using hne, show (nm == nb) = true by simpa using hq]; rfl))
                    clear hq
                    go_wp2
                    go_ret
                    exact ⟨by rw [HG.out]; rfl, HBB.out⟩
                  · have hqb : (nb == nm) = false := by simpa using fun h => hq h.symm
                    have HP := Lib.hid (show sameN ⟨kd, nm, vr⟩ ⟨kb, nb, vb⟩ = false by simp [sameN, hq])
                    clear hq
                    go_wp2
                    go_roundw
                    case rel => exact ⟨j + 1, by omega, by simp, any_step HSB.out HP.out HJ.out, HBI.out⟩
                    case measure => (try simp only [intOf]); omega
                · obtain rfl : j = k := by omega
                  have HT := Lib.hid (show twF sameN [] l = twF sameN (l.take (j + 1)) (l.drop (j + 1)) by rw [HT.out, HJ.out]; rfl)
                  go_wp2
                  go_roundw
                  case rel => exact ⟨j + 1, n, by omega, by simp, by first | rfl | simp, HC1.out, HT.out, below_next HB1.out HBj.out⟩
                  case measure => (try simp only [intOf]); omega
            · have HC1 := Lib.hid (show n + 1 = cntE (l.take (k + 1)) by rw [HCS.out, ← HC.out, show (nm == []) = true by simpa using hne]; rfl)
              go_wp2_with fail
              clear e0 e1 e2
              have K1 := Lib.hid (blk_new1 wr 78 #[.int .i64 kd, .string (bs nm), .string (bs vr)])
              have HB1 := Lib.hid (below_alloc HB.out (.cells #[.int .i64 kd, .string (bs nm), .string (bs vr)] 78))
              generalize wr.alloc (.cells #[.int .i64 kd, .string (bs nm), .string (bs vr)] 78) = W at K1 HB1 ⊢
              generalize wr.heap.size = g at K1 ⊢
              go_loopw [98] (fun i w2 => ∃ j : Nat, j ≤ k ∧ i = .int .i64 j ∧ (l.take j).any (sameN ⟨kd, nm, vr⟩) = false ∧ Below W.heap.size W w2) (fun i _ => k - (intOf i).toNat)
              case atStart => exact ⟨0, Nat.zero_le _, rfl, rfl, Below.refl _ _⟩
              case round =>
                obtain ⟨j, hj, rfl, hn, hb⟩ := hrel
                have HJ := Lib.hid hn
                have HBj := Lib.hid hb
                have K2 := Lib.hid (K1.out.next hb)
                clear hn hb
                by_cases hjk : j < k
                · obtain ⟨⟨kb, nb, vb⟩, b2, o2, hsb, hA2, d0, d1, d2⟩ := HL.out.at_ (show j < l.length by omega) (Kept.of_below (below_next HB1.out HBj.out))
                  obtain ⟨rfl, rfl⟩ : b = b2 ∧ o = o2 := by injection hA2 with hA; injection hA with h1 h2; exact ⟨h1, h2⟩
                  have HSB := Lib.hid hsb
                  have HAN := Lib.hid (fun (h : sameN ⟨kd, nm, vr⟩ ⟨kb, nb, vb⟩ = true) => show G = 4 by
                    rw [HG.out, HT.out, List.any_eq_true.2 ⟨_, List.mem_of_getElem? (show (l.take k)[j]? = some ⟨kb, nb, vb⟩ by rw [List.getElem?_take, if_pos hjk]; exact hsb), h⟩]
                    rfl)
                  dsimp only at d0 d1 d2
                  have HBB := Lib.hid (below_next HB1.out (below_alloc HBj.out (.cells #[.int .i64 kb, .string (bs nb), .string (bs vb)] 78)))
                  have HBI := Lib.hid (below_alloc HBj.out (.cells #[.int .i64 kb, .string (bs nb), .string (bs vb)] 78))
                  have p0 := fun (o : Obj) => (K2.out.alloc o).cell 0
                  have p1 := fun (o : Obj) => (K2.out.alloc o).cell 1
                  have p2 := fun (o : Obj) => (K2.out.alloc o).cell 2
                  simp only [List.getElem?_toArray, List.getElem?_cons_zero, List.getElem?_cons_succ] at p0 p1 p2
                  clear hsb hA2
                  have HP := Lib.hid (show sameN ⟨kd, nm, vr⟩ ⟨kb, nb, vb⟩ = false by simp [sameN, show nm = [] by simpa using hne])
                  go_wp2
                  go_roundw
                  case rel => exact ⟨j + 1, by omega, by simp, any_step HSB.out HP.out HJ.out, HBI.out⟩
                  case measure => (try simp only [intOf]); omega
                · obtain rfl : j = k := by omega
                  have HT := Lib.hid (show twF sameN [] l = twF sameN (l.take (j + 1)) (l.drop (j + 1)) by rw [HT.out, HJ.out]; rfl)
                  go_wp2
                  go_roundw
                  case rel => exact ⟨j + 1, n + 1, by omega, by simp, by first | rfl | simp, HC1.out, HT.out, below_next HB1.out HBj.out⟩
                  case measure => (try simp only [intOf]); omega
          · have ht := HT.out.trans (twF_end (by omega))
            have hc := HC.out
            rw [take_end hk hlt] at hc
            rw [ht, ← hc] at HG
            by_cases h1 : 1 < n
            · have HG := Lib.hid (show G = 4 by rw [HG.out, decide_eq_true h1]; rfl)
              have h1a : decide ((1 : Int) < (n : Int)) = true := decide_eq_true (by omega)
              have h1b : decide (1 < n) = true := decide_eq_true h1
              go_wp2
              go_ret
              exact ⟨by rw [HG.out]; rfl, HB.out⟩
            · have HG := Lib.hid (show G = 0 by rw [HG.out, decide_eq_false h1]; rfl)
              have h1a : decide ((1 : Int) < (n : Int)) = false := decide_eq_false (by omega)
              have h1b : decide (1 < n) = false := decide_eq_false h1
              go_wp2
              go_ret
              exact ⟨by rw [HG.out]; rfl, HB.out⟩
set_option maxRecDepth 100000 in
theorem rhas_any (l : List Stp) (A : Option Addr) (c : Nat) (kd : Int) (w : World) (hl : Stps w A c l) :
    Calls Tryd.prog 24 #[.slice A l.length c, .int .i64 kd] w fun e w' => e = .returned (.bool (l.any fun a => a.kind == kd)) ∧ Below w.heap.size w w' := by
  have HL := Lib.hid hl
  have hbl := Slc.bd hl
  clear hl
  obtain ⟨p, hp⟩ : ∃ p : Stp → Bool, p = fun a => a.kind == kd := ⟨_, rfl⟩
  rw [← hp]
  have HP := Lib.hid hp
  clear hp
  go_enter Tryd.func24, Tryd.ntmps24
  go_wp2
  go_loopw [9] (fun i wr => ∃ k : Nat, k ≤ l.length ∧ i = .int .i64 k ∧ (l.take k).any p = false ∧ Below w.heap.size w wr) (fun i _ => l.length - (intOf i).toNat)
  case atStart => exact ⟨0, Nat.zero_le _, rfl, rfl, Below.refl _ _⟩
  case round =>
    obtain ⟨k, hk, rfl, hn, hb⟩ := hrel
    have HN := Lib.hid hn
    have HB := Lib.hid hb
    clear hn hb
    by_cases hlt : k < l.length
    · obtain ⟨⟨ka, nm, vr⟩, b, o, hst, rfl, e0, e1, e2⟩ := HL.out.at_ hlt (Kept.of_below HB.out)
      have HST := Lib.hid hst
      dsimp only at e0 e1 e2
      clear hst
      by_cases hk2 : ka = kd
      · have hkb : (ka == kd) = true := by simpa using hk2
        have HA := Lib.hid (show l.any p = true from List.any_eq_true.2 ⟨_, List.mem_of_getElem? HST.out, by rw [HP.out]; simpa using hk2⟩)
        clear hk2
        go_wp2
        go_ret
        exact ⟨by rw [HA.out]; rfl, below_alloc HB.out _⟩
      · have hkb : (ka == kd) = false := by simpa using hk2
        have HA := Lib.hid (show p ⟨ka, nm, vr⟩ = false by rw [HP.out]; simpa using hk2)
        clear hk2
        go_wp2
        go_roundw
        case rel => exact ⟨k + 1, by omega, by simp, any_step HST.out HA.out HN.out, below_alloc HB.out _⟩
        case measure => (try simp only [intOf]); omega
    · have hn := HN.out
      rw [take_end hk hlt] at hn
      have HN := Lib.hid hn
      clear hn
      go_wp2
      go_ret
      exact ⟨by rw [HN.out]; rfl, HB.out⟩
end Go.Proofs.YtcbomomlojhghaaDoor
