/- What the loops of scc gather, plainly. -/
import Derived.Test.YtodhianmaogfpaaTjD
import Derived.Test.YtodhianmaogfpaaFmA
namespace Go.Proofs.Ytodhianmaogfpaa
set_option linter.unusedSimpArgs false
set_option linter.unusedVariables false
theorem prt_zero (of : Nat → Nat) (c : Nat) : prtC 0 of c = [] := rfl
theorem prt_succ (v : Nat) (of : Nat → Nat) : (fun c => prtC (v + 1) of c) = upf (fun c => prtC v of c) (of v) (prtC v of (of v) ++ [v]) := by
  funext c
  unfold prtC
  rw [List.range_succ, List.filter_append]
  by_cases e : c = of v
  · subst e
    rw [upf_at]
    simp
  · rw [upf_ne e]
    have : ([v].filter fun x => of x == c) = [] := by simp [Ne.symm e]
    rw [this, List.append_nil]
theorem back_snoc (of : Nat → Nat) (P : List (Nat × Nat)) (v w : Nat) (h : of v ≠ of w) : (fun d => backP of (P ++ [(v, w)]) d) = upf (fun d => backP of P d) (of w) (backP of P (of w) ++ [of v]) := by
  funext d
  unfold backP
  rw [List.filter_append, List.map_append]
  by_cases e : d = of w
  · subst e
    rw [upf_at]
    simp [h]
  · rw [upf_ne e]
    have : ([(v, w)].filter fun e => of e.1 != of e.2 && of e.2 == d) = [] := by simp [Ne.symm e]
    rw [this]; simp
theorem back_same (of : Nat → Nat) (P : List (Nat × Nat)) (v w : Nat) (h : of v = of w) : (fun d => backP of (P ++ [(v, w)]) d) = fun d => backP of P d := by
  funext d
  unfold backP
  rw [List.filter_append, List.map_append]
  simp [h]
def led (of : Nat → Nat) (P : List (Nat × Nat)) (c : Nat) : Nat := leadsP of P (fun _ => 0) c
theorem led_snoc (of : Nat → Nat) (P : List (Nat × Nat)) (v w : Nat) (h : of v ≠ of w) : (fun c => led of (P ++ [(v, w)]) c) = upf (fun c => led of P c) (of v) (led of P (of v) + 1) := by
  funext c
  unfold led leadsP
  rw [List.countP_append]
  by_cases e : c = of v
  · subst e
    rw [upf_at]
    simp [h]
  · rw [upf_ne e]
    simp [Ne.symm e]
theorem led_same (of : Nat → Nat) (P : List (Nat × Nat)) (v w : Nat) (h : of v = of w) : (fun c => led of (P ++ [(v, w)]) c) = fun c => led of P c := by
  funext c
  unfold led leadsP
  rw [List.countP_append]
  simp [h]
/-- the edges of the first v nodes, and e of the next -/
def prsE (adj : Nat → List Nat) (v e : Nat) : List (Nat × Nat) := prs v adj ++ ((adj v).take e).map fun w => (v, w)
theorem prsE_zero (adj : Nat → List Nat) (v : Nat) : prsE adj v 0 = prs v adj := by simp [prsE]
theorem prsE_snoc {adj : Nat → List Nat} {v e w : Nat} (h : (adj v)[e]? = some w) : prsE adj v (e + 1) = prsE adj v e ++ [(v, w)] := by
  unfold prsE
  rw [take_step h, List.map_append, List.append_assoc]; rfl
theorem prsE_end (adj : Nat → List Nat) (v : Nat) : prsE adj v (adj v).length = prs (v + 1) adj := by
  unfold prsE prs
  rw [List.take_length, List.range_succ, List.flatMap_append]; simp
theorem led_le (of : Nat → Nat) (P : List (Nat × Nat)) (told : Nat → Nat) (c : Nat) : leadsP of P told c ≤ P.length := List.countP_le_length
theorem map_set {n i x : Nat} (f : Nat → Nat) : ((List.range n).map f).set i x = (List.range n).map (upf f i x) := by
  apply List.ext_getElem?
  intro j
  rw [List.getElem?_set, List.length_map, List.length_range, List.getElem?_map, List.getElem?_map]
  by_cases hj : j < n
  · rw [List.getElem?_range hj]
    by_cases e : i = j
    · subst e; simp [hj, upf_at]
    · rw [if_neg e]; simp [upf_ne (Ne.symm e)]
  · have : (List.range n)[j]? = none := by simp; omega
    rw [this]
    by_cases e : i = j
    · subst e; simp [hj]
    · rw [if_neg e]; rfl
theorem map_get {n i : Nat} (f : Nat → Nat) (h : i < n) : ((List.range n).map f)[i]? = some (f i) := by simp [h]
/-- the elements of a list of components taken off their counts -/
def takeOff (l : Nat → Nat) (b : List Nat) (c : Nat) : Nat := l c - b.count c
theorem off_zero (l : Nat → Nat) : takeOff l [] = l := by funext c; simp [takeOff]
theorem off_snoc (l : Nat → Nat) (b : List Nat) (x : Nat) : takeOff l (b ++ [x]) = upf (takeOff l b) x (takeOff l b x - 1) := by
  funext c
  unfold takeOff
  rw [List.count_append]
  by_cases e : c = x
  · subst e; rw [upf_at]; simp; omega
  · rw [upf_ne e]; simp [List.count_singleton, Ne.symm e]
theorem off_pos {l : Nat → Nat} {b : List Nat} {j x : Nat} (hl : b.count x ≤ l x) (hx : b[j]? = some x) : 1 ≤ takeOff l (b.take j) x := by
  unfold takeOff
  have h1 : (b.take (j + 1)).count x ≤ b.count x := (List.take_sublist _ _).count_le x
  rw [take_step hx, List.count_append] at h1
  simp at h1
  omega
theorem off_told {of : Nat → Nat} {P : List (Nat × Nat)} {told : Nat → Nat} {c : Nat} (h0 : told c = 0) : takeOff (fun c' => leadsP of P told c') (backP of P c) = fun c' => leadsP of P (upd told c 1) c' := by
  funext c'
  unfold takeOff
  have := leads_tell (of := of) (P := P) h0 c'
  show leadsP of P told c' - _ = _
  omega
end Go.Proofs.Ytodhianmaogfpaa
