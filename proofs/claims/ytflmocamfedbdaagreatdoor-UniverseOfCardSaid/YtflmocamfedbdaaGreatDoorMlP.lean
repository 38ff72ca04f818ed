/- Whether packages may be, plainly. -/
import Derived.Test.YtflmocamfedbdaaGreatDoorMaA
import Derived.Test.YtflmocamfedbdaaGreatDoorVerI
namespace Go.Proofs.YtflmocamfedbdaaGreatDoor
set_option linter.unusedSimpArgs false
set_option linter.unusedVariables false
open Go.RowKit

/-- the first error -/
def fstE : List Pkg → Int
  | [] => 0
  | p :: l => if mayE p = 0 then fstE l else mayE p
def dupB (p q : Pkg) : Bool := decide (q.name = p.name) && sameV q.ver p.ver
/-- does one of the first k places stand twice? -/
def dupT (l : List Pkg) (k : Nat) : Bool := (List.range k).any fun i => match l[i]? with
  | some p => (l.take i).any (dupB p)
  | none => false
def nmsF (ns : List (List UInt8)) (p : Pkg) : List (List UInt8) := if ns.contains p.name then ns else ns ++ [p.name]
def nmsS (l : List Pkg) : List (List UInt8) := l.foldl nmsF []
def mayAllE (l : List Pkg) : Int := if 24 < l.length then 12 else if fstE l ≠ 0 then fstE l else if dupT l l.length then 4 else if 10 < (nmsS l).length then 12 else 0
theorem fstE_at : ∀ {l : List Pkg} {k : Nat} {p : Pkg}, (∀ q ∈ l.take k, mayE q = 0) → l[k]? = some p → mayE p ≠ 0 → fstE l = mayE p
  | [], k, p, _, h, _ => by simp at h
  | q :: l, 0, p, _, h, hp => by
    simp at h
    subst h
    simp [fstE, hp]
  | q :: l, k + 1, p, h, hx, hp => by
    have h0 : mayE q = 0 := h q (by simp)
    simp only [fstE, h0, if_true]
    exact fstE_at (k := k) (fun z hz => h z (by rw [List.take_succ_cons]; exact List.mem_cons_of_mem _ hz)) (by simpa using hx) hp
theorem fstE_end : ∀ {l : List Pkg}, (∀ q ∈ l, mayE q = 0) → fstE l = 0
  | [], _ => rfl
  | q :: l, h => by
    simp only [fstE, h q (by simp), if_true]
    exact fstE_end fun z hz => h z (by simp [hz])
theorem fstE_zero : ∀ {l : List Pkg}, fstE l = 0 → ∀ q ∈ l, mayE q = 0
  | [], _, q, hq => by simp at hq
  | p :: l, h, q, hq => by
    unfold fstE at h
    by_cases hp : mayE p = 0
    · rw [if_pos hp] at h
      rcases List.mem_cons.1 hq with rfl | hq
      · exact hp
      · exact fstE_zero h q hq
    · rw [if_neg hp] at h
      exact absurd h hp
theorem may_step {l : List Pkg} {k : Nat} {p : Pkg} (h : ∀ q ∈ l.take k, mayE q = 0) (hx : l[k]? = some p) (hp : mayE p = 0) : ∀ q ∈ l.take (k + 1), mayE q = 0 := fun q hq => by
  rw [take_step hx, List.mem_append, List.mem_singleton] at hq
  rcases hq with hq | rfl
  · exact h q hq
  · exact hp
theorem dupT_step {l : List Pkg} {k : Nat} {p : Pkg} (hx : l[k]? = some p) : dupT l (k + 1) = (dupT l k || (l.take k).any (dupB p)) := by
  unfold dupT
  rw [List.range_succ, List.any_append]
  simp [hx]
theorem dupT_mono {l : List Pkg} {k : Nat} (h : dupT l k = true) {n : Nat} (hn : k ≤ n) : dupT l n = true := by
  unfold dupT at *
  obtain ⟨i, hi, hx⟩ := List.any_eq_true.1 h
  exact List.any_eq_true.2 ⟨i, by simp at hi ⊢; omega, hx⟩
theorem nms_step {l : List Pkg} {k : Nat} {p : Pkg} (hx : l[k]? = some p) : nmsS (l.take (k + 1)) = nmsF (nmsS (l.take k)) p := by
  unfold nmsS
  rw [take_step hx, List.foldl_append]
  rfl
theorem nms_mem {n : List UInt8} : ∀ {l : List Pkg} {ns : List (List UInt8)}, n ∈ l.foldl nmsF ns ↔ n ∈ ns ∨ ∃ p ∈ l, p.name = n
  | [], ns => by simp
  | p :: l, ns => by
    rw [List.foldl_cons, nms_mem]
    unfold nmsF
    by_cases h : ns.contains p.name = true
    · rw [if_pos h]
      have h' : p.name ∈ ns := by simpa using h
      constructor
      · rintro (h1 | ⟨q, hq, h1⟩)
        · exact .inl h1
        · exact .inr ⟨q, by simp [hq], h1⟩
      · rintro (h1 | ⟨q, hq, h1⟩)
        · exact .inl h1
        · rcases List.mem_cons.1 hq with rfl | hq
          · exact .inl (h1 ▸ h')
          · exact .inr ⟨q, hq, h1⟩
    · rw [if_neg h]
      constructor
      · rintro (h1 | ⟨q, hq, h1⟩)
        · rcases List.mem_append.1 h1 with h1 | h1
          · exact .inl h1
          · simp at h1
            exact .inr ⟨p, by simp, h1.symm⟩
        · exact .inr ⟨q, by simp [hq], h1⟩
      · rintro (h1 | ⟨q, hq, h1⟩)
        · exact .inl (by simp [h1])
        · rcases List.mem_cons.1 hq with rfl | hq
          · exact .inl (by simp [h1])
          · exact .inr ⟨q, hq, h1⟩
theorem nms_len : ∀ (l : List Pkg) (ns : List (List UInt8)), (l.foldl nmsF ns).length ≤ ns.length + l.length
  | [], ns => by simp
  | p :: l, ns => by
    rw [List.foldl_cons]
    have := nms_len l (nmsF ns p)
    have h2 : (nmsF ns p).length ≤ ns.length + 1 := by
      unfold nmsF
      split <;> simp
    rw [List.length_cons]
    omega
theorem nms_le (l : List Pkg) : (nmsS l).length ≤ l.length := by
  have := nms_len l []
  simpa [nmsS] using this
theorem nms_has {l : List Pkg} {n : List UInt8} : (nmsS l).contains n = l.any fun q => decide (q.name = n) := by
  rw [Bool.eq_iff_iff]
  have := nms_mem (n := n) (l := l) (ns := [])
  simp only [List.not_mem_nil, false_or] at this
  simp only [List.contains_eq_mem, decide_eq_true_eq, List.any_eq_true]
  exact this
theorem mayAll_many {l : List Pkg} (h : 24 < l.length) : mayAllE l = 12 := by simp [mayAllE, h]
theorem mayAll_err {l : List Pkg} {k : Nat} {p : Pkg} (hl : ¬ 24 < l.length) (h : ∀ q ∈ l.take k, mayE q = 0) (hx : l[k]? = some p) (hp : mayE p ≠ 0) : mayAllE l = mayE p := by
  have := fstE_at h hx hp
  simp [mayAllE, hl, this, hp]
theorem mayAll_dup {l : List Pkg} {k : Nat} {p : Pkg} (hl : ¬ 24 < l.length) (h : ∀ q ∈ l, mayE q = 0) (hx : l[k]? = some p) (hd : (l.take k).any (dupB p) = true) : mayAllE l = 4 := by
  have h1 : dupT l l.length = true := dupT_mono (k := k + 1) (by rw [dupT_step hx, hd]; simp) (List.getElem?_eq_some_iff.1 hx).1
  simp [mayAllE, hl, fstE_end h, h1]
theorem mayAll_end {l : List Pkg} (hl : ¬ 24 < l.length) (h : ∀ q ∈ l, mayE q = 0) (hd : dupT l l.length = false) : mayAllE l = if 10 < (nmsS l).length then 12 else 0 := by
  simp [mayAllE, hl, fstE_end h, hd]
theorem mayAll_zero {l : List Pkg} (h : mayAllE l = 0) : l.length ≤ 24 ∧ (∀ q ∈ l, mayE q = 0) ∧ dupT l l.length = false ∧ (nmsS l).length ≤ 10 := by
  unfold mayAllE at h
  by_cases h1 : 24 < l.length
  · rw [if_pos h1] at h; omega
  · rw [if_neg h1] at h
    by_cases h2 : fstE l ≠ 0
    · rw [if_pos h2] at h; exact absurd h h2
    · rw [if_neg h2] at h
      rcases h3 : dupT l l.length
      · rw [h3] at h
        simp only [Bool.false_eq_true, if_false] at h
        by_cases h4 : 10 < (nmsS l).length
        · rw [if_pos h4] at h; omega
        · exact ⟨by omega, fstE_zero (by omega), rfl, by omega⟩
      · rw [h3] at h; simp at h
/-- no two of one name and one version -/
theorem dup_no {l : List Pkg} (h : dupT l l.length = false) {i j : Nat} {p q : Pkg} (hij : i < j) (hi : l[i]? = some q) (hj : l[j]? = some p) : dupB p q = false := by
  unfold dupT at h
  rw [List.any_eq_false] at h
  have h1 := h j (by have := (List.getElem?_eq_some_iff.1 hj).1; simpa using this)
  rw [hj] at h1
  simp only [Bool.not_eq_true] at h1
  rw [List.any_eq_false] at h1
  have h2 := h1 q (by
    rw [List.mem_iff_getElem?]
    exact ⟨i, by rw [List.getElem?_take_of_lt hij]; exact hi⟩)
  simpa using h2
end Go.Proofs.YtflmocamfedbdaaGreatDoor
