/- The orders by which packages and entries are sorted: strict weak orders, plainly. -/
import Derived.Test.YtefjoigngnnbjaaDoorSp
import Derived.Test.YtefjoigngnnbjaaDoorMk
namespace Go.Proofs.YtefjoigngnnbjaaDoor
set_option linter.unusedSimpArgs false
set_option linter.unusedVariables false

theorem bl_trans : ∀ {x y z : List UInt8}, Op.bytesLess x y = true → Op.bytesLess y z = true → Op.bytesLess x z = true
  | _, [], _, h, _ => by simp [Op.bytesLess] at h
  | _, _ :: _, [], _, h => by simp [Op.bytesLess] at h
  | [], _ :: _, _ :: _, _, _ => by simp [Op.bytesLess]
  | a :: x, b :: y, c :: z, h1, h2 => by
    simp only [Op.bytesLess, Bool.or_eq_true, Bool.and_eq_true, beq_iff_eq, decide_eq_true_eq, UInt8.lt_iff_toNat_lt] at *
    rcases h1 with h1 | ⟨rfl, h1⟩
    · rcases h2 with h2 | ⟨rfl, h2⟩
      · exact .inl (by omega)
      · exact .inl h1
    · rcases h2 with h2 | ⟨rfl, h2⟩
      · exact .inl h2
      · exact .inr ⟨rfl, bl_trans h1 h2⟩
theorem bl_tri : ∀ {x y : List UInt8}, Op.bytesLess x y = false → Op.bytesLess y x = false → x = y
  | [], [], _, _ => rfl
  | [], _ :: _, h, _ => by simp [Op.bytesLess] at h
  | _ :: _, [], _, h => by simp [Op.bytesLess] at h
  | a :: x, b :: y, h1, h2 => by
    simp only [Op.bytesLess, Bool.or_eq_false_iff, decide_eq_false_iff_not, UInt8.lt_iff_toNat_lt, Bool.and_eq_false_iff, beq_eq_false_iff_ne] at *
    have hab : a = b := UInt8.toNat_inj.1 (by omega)
    subst hab
    rw [bl_tri (x := x) (y := y) (h1.2.resolve_left (by simp)) (h2.2.resolve_left (by simp))]
theorem bl_asym {x y : List UInt8} (h : Op.bytesLess x y = true) : Op.bytesLess y x = false := by
  rcases hy : Op.bytesLess y x
  · rfl
  · have := bl_trans h hy
    rw [bytesLess_same] at this; cases this
theorem cmpB_val (a b : List UInt8) : cmpB a b = -1 ∧ Op.bytesLess a b = true ∨ cmpB a b = 0 ∧ a = b ∨ cmpB a b = 1 ∧ Op.bytesLess b a = true := by
  unfold cmpB
  rcases h : Op.bytesLess a b
  · by_cases he : a = b
    · simp [he]
    · rcases h2 : Op.bytesLess b a
      · exact absurd (bl_tri h h2) he
      · simp [he]
  · simp
theorem cmpB_swap (a b : List UInt8) : cmpB b a = - cmpB a b := by
  rcases cmpB_val a b with ⟨h1, h2⟩ | ⟨h1, h2⟩ | ⟨h1, h2⟩
  · have h3 := bl_asym h2
    have hne : b ≠ a := fun e => by subst e; rw [h2] at h3; cases h3
    rw [h1]; simp [cmpB, h3, hne]
  · subst h2
    rw [h1]; rfl
  · rw [h1]; simp [cmpB, h2]
theorem cmpB_zero {a b : List UInt8} : cmpB a b = 0 ↔ a = b := by
  rcases cmpB_val a b with ⟨h1, h2⟩ | ⟨h1, h2⟩ | ⟨h1, h2⟩
  · constructor
    · intro h; omega
    · rintro rfl; rw [bytesLess_same] at h2; cases h2
  · exact ⟨fun _ => h2, fun _ => h1⟩
  · constructor
    · intro h; omega
    · rintro rfl; rw [bytesLess_same] at h2; cases h2
theorem cmpB_neg {a b : List UInt8} : cmpB a b < 0 ↔ Op.bytesLess a b = true := by
  unfold cmpB
  rcases h : Op.bytesLess a b
  · simp only [Bool.false_eq_true, if_false, iff_false]
    split <;> omega
  · simp
theorem cmpB_ord (a b c : List UInt8) : ord (cmpB a b) (cmpB b c) (cmpB a c) := by
  have h3 : ∀ {x y : List UInt8}, Op.bytesLess x y = true → cmpB x y = -1 := fun h => by simp [cmpB, h]
  have h4 : ∀ {x y : List UInt8}, Op.bytesLess y x = true → cmpB x y = 1 := fun {x y} h => by rw [cmpB_swap, h3 h]; rfl
  rcases cmpB_val a b with ⟨h1, h2⟩ | ⟨h1, h2⟩ | ⟨h1, h2⟩ <;> rcases cmpB_val b c with ⟨k1, k2⟩ | ⟨k1, k2⟩ | ⟨k1, k2⟩
  · have := h3 (bl_trans h2 k2)
    unfold ord; omega
  · subst k2
    unfold ord; omega
  · rcases cmpB_val a c with ⟨m1, _⟩ | ⟨m1, _⟩ | ⟨m1, _⟩ <;> (unfold ord; omega)
  · subst h2
    unfold ord; omega
  · subst h2 k2
    unfold ord; omega
  · subst h2
    unfold ord; omega
  · rcases cmpB_val a c with ⟨m1, _⟩ | ⟨m1, _⟩ | ⟨m1, _⟩ <;> (unfold ord; omega)
  · subst k2
    unfold ord; omega
  · have := h4 (bl_trans k2 h2)
    unfold ord; omega
theorem sw_of {α : Type} {c : α → α → Int} (hs : ∀ x y, c y x = - c x y) (ho : ∀ x y z, ord (c x y) (c y z) (c x z)) : SW fun x y => decide (c x y < 0) := by
  refine ⟨fun x y h => ?_, fun x y z h => ?_⟩
  · have := hs x y
    simp at h ⊢
    omega
  · have h1 := ho x y z
    simp at h ⊢
    unfold ord at h1
    omega
/-- two versions, whatever they are: those that are none first -/
def cmpX (a b : List UInt8) : Int := if isV a && isV b then (cmpV a b).1 else (if isV a then 1 else 0) - (if isV b then 1 else 0)
theorem cmpX_of {a b : List UInt8} (ha : isV a = true) (hb : isV b = true) : cmpX a b = (cmpV a b).1 := by simp [cmpX, ha, hb]
theorem cmpX_swap (a b : List UInt8) : cmpX b a = - cmpX a b := by
  unfold cmpX
  have := cmpV_swap a b
  rcases isV a <;> rcases isV b <;> simp [this]
theorem cmpX_ord (a b c : List UInt8) : ord (cmpX a b) (cmpX b c) (cmpX a c) := by
  unfold cmpX
  rcases ha : isV a <;> rcases hb : isV b <;> rcases hc : isV c <;> simp <;> first | (unfold ord; omega) | exact cmpV_ord ha hb hc
/-- packages: by name, the later version first -/
def pCmp (p q : Pkg) : Int := orS (cmpB p.name q.name) (cmpX q.ver p.ver) 0
def pLt (p q : Pkg) : Bool := decide (pCmp p q < 0)
def eCmp (x y : Ent) : Int := cmpB x.pkg.name y.pkg.name
def eLt (x y : Ent) : Bool := decide (eCmp x y < 0)
theorem pCmp_swap (p q : Pkg) : pCmp q p = - pCmp p q := by
  unfold pCmp
  rw [cmpB_swap p.name q.name, cmpX_swap q.ver p.ver]
  have := orS_swap (cmpB p.name q.name) (cmpX q.ver p.ver) 0
  simpa using this
theorem ord_turn {x y z : Int} (h : ord y x z) : ord x y z := by
  unfold ord at *
  omega
theorem ord_zero : ord 0 0 0 := by unfold ord; omega
theorem pCmp_ord (p q r : Pkg) : ord (pCmp p q) (pCmp q r) (pCmp p r) := by
  refine orS_ord (cmpB_ord ..) (ord_turn (cmpX_ord ..)) ord_zero
theorem pSW : SW pLt := sw_of pCmp_swap pCmp_ord
theorem eSW : SW eLt := sw_of (fun _ _ => cmpB_swap _ _) (fun _ _ _ => cmpB_ord _ _ _)
end Go.Proofs.YtefjoigngnnbjaaDoor
