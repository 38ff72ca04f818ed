/- Plainly: the ask of a line's words, the request of lines. -/
import Derived.Test.YtaicidbopgnmfaaGreatDoorRp
import Derived.Test.YtaicidbopgnmfaaGreatDoorDr
namespace Go.Proofs.YtaicidbopgnmfaaGreatDoor
set_option linter.unusedSimpArgs false
set_option linter.unusedVariables false
open Go.RowKit
/-- the kind of a word; 0: none -/
def kindN (a : List UInt8) : Int := if a = wordQ 1 then 1 else if a = wordQ 2 then 2 else if a = wordQ 3 then 3 else if a = wordQ 4 then 4 else if a = wordQ 5 then 5 else if a = wordQ 6 then 6 else if a = wordQ 7 then 7 else 0
theorem kindN_at {k : Int} (h1 : 1 ≤ k) (h7 : k ≤ 7) : kindN (wordQ k) = k := by
  obtain rfl | rfl | rfl | rfl | rfl | rfl | rfl : k = 1 ∨ k = 2 ∨ k = 3 ∨ k = 4 ∨ k = 5 ∨ k = 6 ∨ k = 7 := by omega
  all_goals decide +kernel
theorem kindN_no {a : List UInt8} (h : ∀ k : Int, 1 ≤ k → k ≤ 7 → wordQ k ≠ a) : kindN a = 0 := by
  unfold kindN
  rw [if_neg (fun e => h 1 (by omega) (by omega) e.symm), if_neg (fun e => h 2 (by omega) (by omega) e.symm), if_neg (fun e => h 3 (by omega) (by omega) e.symm), if_neg (fun e => h 4 (by omega) (by omega) e.symm), if_neg (fun e => h 5 (by omega) (by omega) e.symm), if_neg (fun e => h 6 (by omega) (by omega) e.symm), if_neg (fun e => h 7 (by omega) (by omega) e.symm)]
/-- the ask of two words, its kind known -/
def parse2 (k : Int) (n : List UInt8) : Stp × Bool :=
  if (cutS n 61).2.2 && verQ k then (if (cutS n 61).2.1 = [] then (⟨0, [], []⟩, false) else (⟨k, (cutS n 61).1, (cutS n 61).2.1⟩, mayQ ⟨k, (cutS n 61).1, (cutS n 61).2.1⟩)) else (⟨k, n, []⟩, mayQ ⟨k, n, []⟩)
/-- the ask of words -/
def parseQ (ws : List (List UInt8)) : Stp × Bool :=
  let k := kindN (ws.headD [])
  if k = 0 then (⟨0, [], []⟩, false) else if namQ k then (match ws with | [_, n] => parse2 k n | _ => (⟨0, [], []⟩, false)) else (⟨k, [], []⟩, ws.length == 1)
theorem pq_none {a : List UInt8} {ws : List (List UInt8)} (h : ∀ k : Int, 1 ≤ k → k ≤ 7 → wordQ k ≠ a) : parseQ (a :: ws) = (⟨0, [], []⟩, false) := by
  unfold parseQ
  dsimp only [List.headD_cons]
  rw [if_pos (kindN_no h)]
theorem pq_all {k : Int} {ws : List (List UInt8)} (h1 : 1 ≤ k) (h7 : k ≤ 7) (hn : namQ k = false) : parseQ (wordQ k :: ws) = (⟨k, [], []⟩, (wordQ k :: ws).length == 1) := by
  unfold parseQ
  dsimp only [List.headD_cons]
  rw [kindN_at h1 h7, if_neg (by omega), hn]
  rfl
theorem pq_two {k : Int} {n : List UInt8} (h1 : 1 ≤ k) (h7 : k ≤ 7) (hn : namQ k = true) : parseQ [wordQ k, n] = parse2 k n := by
  unfold parseQ
  dsimp only [List.headD_cons]
  rw [kindN_at h1 h7, if_neg (by omega), hn, if_pos rfl]
theorem pq_bad {k : Int} {ws : List (List UInt8)} (h1 : 1 ≤ k) (h7 : k ≤ 7) (hn : namQ k = true) (hl : (wordQ k :: ws).length ≠ 2) : parseQ (wordQ k :: ws) = (⟨0, [], []⟩, false) := by
  unfold parseQ
  dsimp only [List.headD_cons]
  rw [kindN_at h1 h7, if_neg (by omega), hn, if_pos rfl]
  match ws, hl with
  | [], _ => rfl
  | [_], h => exact absurd rfl h
  | _ :: _ :: _, _ => rfl
/-- is a line a remark or empty? -/
def restL (s : List UInt8) : Bool := decide (wordsS s = []) || s.head? == some 35
/-- the request of lines, from the ith on, behind what was read: asks, an error, its line -/
def parL : Nat → List (List UInt8) → List Stp → List Stp × Int × Int
  | _, [], acc => if mayQs acc = 0 then (acc, 0, 0) else ([], mayQs acc, 0)
  | i, s :: ls, acc => if restL s then parL (i + 1) ls acc else if (parseQ (wordsS s)).2 then parL (i + 1) ls (acc ++ [(parseQ (wordsS s)).1]) else ([], 3, (i : Int) + 1)
theorem par_rest {L : List (List UInt8)} {i : Nat} {s : List UInt8} {acc : List Stp} (h : L[i]? = some s) (hr : restL s = true) : parL i (L.drop i) acc = parL (i + 1) (L.drop (i + 1)) acc := by
  obtain ⟨hi, rfl⟩ := List.getElem?_eq_some_iff.1 h
  rw [List.drop_eq_getElem_cons hi, parL, if_pos hr]
theorem par_bad {L : List (List UInt8)} {i : Nat} {s : List UInt8} {acc : List Stp} (h : L[i]? = some s) (hr : restL s = false) (hp : (parseQ (wordsS s)).2 = false) : parL i (L.drop i) acc = ([], 3, (i : Int) + 1) := by
  obtain ⟨hi, rfl⟩ := List.getElem?_eq_some_iff.1 h
  rw [List.drop_eq_getElem_cons hi, parL, hr, hp]
  rfl
theorem par_step {L : List (List UInt8)} {i : Nat} {s : List UInt8} {acc : List Stp} (h : L[i]? = some s) (hr : restL s = false) (hp : (parseQ (wordsS s)).2 = true) : parL i (L.drop i) acc = parL (i + 1) (L.drop (i + 1)) (acc ++ [(parseQ (wordsS s)).1]) := by
  obtain ⟨hi, rfl⟩ := List.getElem?_eq_some_iff.1 h
  rw [List.drop_eq_getElem_cons hi, parL, hr, hp]
  rfl
theorem par_end {L : List (List UInt8)} {i : Nat} {acc : List Stp} (h : L.length ≤ i) : parL i (L.drop i) acc = if mayQs acc = 0 then (acc, 0, 0) else ([], mayQs acc, 0) := by
  rw [List.drop_eq_nil_of_le h, parL]
end Go.Proofs.YtaicidbopgnmfaaGreatDoor
