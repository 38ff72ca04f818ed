/- What a package's name is, plainly. -/
import Derived.Test.YtcbomomlojhghaaDoorVs
namespace Go.Proofs.YtcbomomlojhghaaDoor
set_option linter.unusedSimpArgs false
set_option linter.unusedVariables false

def smlB (c : UInt8) : Bool := decide (97 ≤ c.toNat ∧ c.toNat ≤ 122)
def nmB (c : UInt8) : Bool := smlB c || digB c
def nmC (c : UInt8) : Bool := nmB c || decide (c.toNat = 43 ∨ c.toNat = 45 ∨ c.toNat = 46)
def nmOk : List UInt8 → Bool
  | [] => true
  | c :: l => nmB c && l.all nmC
/-- is it a name? -/
def nameS (l : List UInt8) : Bool := decide (2 ≤ l.length ∧ l.length ≤ 24) && nmOk l
theorem nmB_C {c : UInt8} (h : nmB c = true) : nmC c = true := by simp [nmC, h]
theorem nmOk_step {l : List UInt8} {k : Nat} {c : UInt8} (hc : l[k]? = some c) (h : nmOk (l.take k) = true) (hx : nmB c = true ∨ k ≠ 0 ∧ nmC c = true) : nmOk (l.take (k + 1)) = true := by
  rcases l with _ | ⟨d, l⟩
  · simp at hc
  · rcases k with _ | k
    · simp at hc
      subst hc
      rcases hx with hx | hx
      · simp [nmOk, hx]
      · exact absurd rfl hx.1
    · simp only [List.take_succ_cons, nmOk, Bool.and_eq_true] at h ⊢
      refine ⟨h.1, all_step (by simpa using hc) h.2 ?_⟩
      rcases hx with hx | hx
      · exact nmB_C hx
      · exact hx.2
theorem nmOk_fail {l : List UInt8} {k : Nat} {c : UInt8} (hc : l[k]? = some c) (hx : nmB c = false) (hy : k = 0 ∨ nmC c = false) : nmOk l = false := by
  rcases l with _ | ⟨d, l⟩
  · simp at hc
  · rcases k with _ | k
    · simp at hc
      subst hc
      simp [nmOk, hx]
    · rcases hy with hy | hy
      · omega
      · have := all_fail (p := nmC) (l := l) (k := k) (by simpa using hc) hy
        simp [nmOk, this]
end Go.Proofs.YtcbomomlojhghaaDoor
