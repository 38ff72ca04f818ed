/- For all versions without a colon: an epoch put ahead of two of them decides, if it differs; else they are held against each other as they were. -/
import Derived.Test.YtlhnmafnioaojaaDoorVl
namespace Go.Proofs.YtlhnmafnioaojaaDoor
set_option linter.unusedSimpArgs false
set_option linter.unusedVariables false
open Go.RowKit

def hasS (a : List UInt8) : Bool := a.contains 58
theorem epoch_cmp : ∀ x : Fin 9, ∀ y : Fin 9, partS [48 + UInt8.ofNat x.val] [48 + UInt8.ofNat y.val] = Lib.compareInt x.val y.val ∧ epochS [48 + UInt8.ofNat x.val] = true ∧ (48 + UInt8.ofNat x.val : UInt8) ≠ 58 := by decide +kernel
theorem verS_epoch {a e u r : List UInt8} {x : Nat} (hx : x < 9) (hc : hasS a = false) (hl : a.length ≤ 40) (h : verS a = some (e, u, r)) : verS ((48 + UInt8.ofNat x) :: 58 :: a) = some ([48 + UInt8.ofNat x], u, r) ∧ e = [48] := by
  have hx3 := epoch_cmp ⟨x, hx⟩ ⟨0, by decide⟩
  simp only at hx3
  have hm : (58 : UInt8) ∉ a := by simpa [hasS] using hc
  have h1 := indexByte_mem a 58
  have h2 : ¬ 0 ≤ Lib.indexByte a 58 := fun hh => hm (h1.2.1 hh)
  have e1 : cutE a = ([48], a) := by unfold cutE; rw [if_neg h2]
  have i2 : Lib.indexByte ((48 + UInt8.ofNat x) :: 58 :: a) 58 = 1 := by
    simp [Lib.indexByte, hx3.2.2]
  have e2 : cutE ((48 + UInt8.ofNat x) :: 58 :: a) = ([48 + UInt8.ofNat x], a) := by
    unfold cutE
    rw [i2]
    rfl
  unfold verS at h ⊢
  rw [e2]
  rw [e1] at h
  simp only at h ⊢
  split at h
  · cases h
  · split at h
    · cases h
    · rename_i h3 h4
      split at h
      · rename_i h5
        simp only [Option.some.injEq, Prod.mk.injEq] at h
        obtain ⟨rfl, rfl, rfl⟩ := h
        rw [if_neg (by simp only [List.length_cons]; omega), if_neg h4]
        have h6 : verOk [48 + UInt8.ofNat x] (cutR a).1 (cutR a).2 = true := by
          unfold verOk at h5 ⊢
          rw [hx3.2.1]
          simp only [Bool.and_eq_true] at h5 ⊢
          exact ⟨⟨⟨⟨trivial, h5.1.1.1.2⟩, h5.1.1.2⟩, h5.1.2⟩, h5.2⟩
        rw [if_pos h6]
        exact ⟨rfl, rfl⟩
      · cases h
theorem cmp_epochs {a b e u r f v s : List UInt8} {x y : Nat} (hx : x < 9) (hy : y < 9) (ha : hasS a = false) (hb : hasS b = false) (hla : a.length ≤ 40) (hlb : b.length ≤ 40) (h : verS a = some (e, u, r)) (k : verS b = some (f, v, s)) :
    (cmpV ((48 + UInt8.ofNat x) :: 58 :: a) ((48 + UInt8.ofNat y) :: 58 :: b)).1 = if (x : Int) < y then -1 else if (y : Int) < x then 1 else (cmpV a b).1 := by
  obtain ⟨h1, rfl⟩ := verS_epoch hx ha hla h
  obtain ⟨k1, rfl⟩ := verS_epoch hy hb hlb k
  rw [cmpV_some h1 k1, cmpV_some h k, (epoch_cmp ⟨x, hx⟩ ⟨y, hy⟩).1, partS_self]
  simp only [cI_val, orS]
  grind
theorem same_epoch {a e u r : List UInt8} (ha : hasS a = false) (hla : a.length ≤ 40) (h : verS a = some (e, u, r)) : (cmpV (48 :: 58 :: a) a).1 = 0 ∧ (cmpV (48 :: 58 :: a) a).2 = true := by
  obtain ⟨h1, rfl⟩ := verS_epoch (x := 0) (by decide) ha hla h
  have e0 : (48 + UInt8.ofNat 0 : UInt8) = 48 := by decide
  rw [e0] at h1
  rw [cmpV_some h1 h]
  simp [partS_self, orS]
end Go.Proofs.YtlhnmafnioaojaaDoor
