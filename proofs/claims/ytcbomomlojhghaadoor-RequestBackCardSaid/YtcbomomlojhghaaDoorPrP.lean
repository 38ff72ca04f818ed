/- Asks as a text, plainly. -/
import Derived.Test.YtcbomomlojhghaaDoorRq
namespace Go.Proofs.YtcbomomlojhghaaDoor
set_option linter.unusedSimpArgs false
set_option linter.unusedVariables false
def lineQ (q : Stp) : List UInt8 := wordQ q.kind ++ ((if q.name = [] then [] else 32 :: q.name) ++ ((if q.ver = [] then [] else 61 :: q.ver) ++ [10]))
def printQ (l : List Stp) : List UInt8 := l.flatMap lineQ
theorem print_step {l : List Stp} {k : Nat} {q : Stp} (h : l[k]? = some q) : printQ (l.take (k + 1)) = printQ (l.take k) ++ lineQ q := by
  unfold printQ
  rw [take_step h, List.flatMap_append]
  simp
theorem wordQ_len (k : Int) : (wordQ k).length ≤ 12 := by
  unfold wordQ
  repeat' split
  all_goals decide
theorem isV_len {l : List UInt8} (h : isV l = true) : l.length ≤ 48 := by
  unfold isV verS at h
  split at h
  · cases h
  · omega
theorem nameS_len {l : List UInt8} (h : nameS l = true) : l.length ≤ 24 := by
  unfold nameS at h
  simp only [Bool.and_eq_true, decide_eq_true_eq] at h
  exact h.1.2
theorem mayQ_len {q : Stp} (h : mayQ q = true) : q.name.length ≤ 24 ∧ q.ver.length ≤ 48 := by
  unfold mayQ at h
  simp only [Bool.and_eq_true, Bool.or_eq_true] at h
  obtain ⟨⟨_, h1⟩, h2⟩ := h
  refine ⟨?_, ?_⟩
  · split at h1
    · exact nameS_len h1
    · have : q.name = [] := by simpa using h1
      rw [this]; decide
  · rcases h2 with h2 | ⟨_, h2⟩
    · have : q.ver = [] := by simpa using h2
      rw [this]; decide
    · exact isV_len h2
theorem lineQ_len {q : Stp} (h : mayQ q = true) : (lineQ q).length ≤ 100 := by
  have h1 := mayQ_len h
  have h2 := wordQ_len q.kind
  unfold lineQ
  split <;> split <;> simp <;> omega
theorem printQ_len : ∀ {l : List Stp}, l.all mayQ = true → (printQ l).length ≤ 100 * l.length
  | [], _ => Nat.le_refl _
  | q :: l, h => by
    simp only [List.all_cons, Bool.and_eq_true] at h
    have h1 := lineQ_len h.1
    have h2 := printQ_len h.2
    show (lineQ q ++ printQ l).length ≤ _
    rw [List.length_append, List.length_cons]
    omega
theorem mayQs_ok {l : List Stp} (h : mayQs l = 0) : l ≠ [] ∧ l.length ≤ 6 ∧ l.all mayQ = true ∧ twF twiceB [] l = false := by
  unfold mayQs at h
  split at h
  · cases h
  · rename_i hn
    split at h
    · rename_i ha
      split at h
      · cases h
      · rename_i ht
        exact ⟨fun e => hn (.inl (by rw [e]; rfl)), by omega, ha, by simpa using ht⟩
    · cases h
end Go.Proofs.YtcbomomlojhghaaDoor
