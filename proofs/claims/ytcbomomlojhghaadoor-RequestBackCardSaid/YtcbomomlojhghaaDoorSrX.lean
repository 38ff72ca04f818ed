/- Rows cut and inserted into: the slices of a row. -/
import Derived.Test.YtcbomomlojhghaaDoorSoP
import Derived.Test.YtcbomomlojhghaaDoorBe
import Derived.Test.YtcbomomlojhghaaDoorOs
import Derived.Test.YtcbomomlojhghaaDoorOw
import Derived.Test.YtcbomomlojhghaaDoorPk
namespace Go.Proofs.YtcbomomlojhghaaDoor
set_option linter.unusedSimpArgs false
set_option linter.unusedVariables false
open Go.RowKit
theorem own_form {α : Type} {w : World} {B : Nat} {e : TypeId} {k : Nat} {R : List Value → α → Prop} {v : Value} {l : List α} (h : Own w B e k R v l) : v = .slice none 0 0 ∧ l = [] ∨ ∃ g cap, v = .slice (some ⟨g, 0, none⟩) l.length cap := by
  obtain ⟨css, hl, hR, hlen, ho⟩ := h
  rcases ho with ⟨rfl, h0⟩ | ⟨g, cap, cur, rfl, _⟩
  · exact .inl ⟨rfl, List.eq_nil_of_length_eq_zero h0⟩
  · exact .inr ⟨g, cap, rfl⟩
theorem insR_at {α : Type} {lt : α → α → Bool} {l : List α} {y : α} {j : Nat} (h1 : ∀ x ∈ l.take j, lt y x = false) (h2 : l.length ≤ j ∨ ∃ x, l[j]? = some x ∧ lt y x = true) : insR lt l y = l.take j ++ y :: l.drop j := by
  conv => lhs; rw [← List.take_append_drop j l]
  rw [insR_left h1]
  congr 1
  rcases h2 with h2 | ⟨x, hx, hlt⟩
  · rw [List.drop_of_length_le h2]; rfl
  · have hj := (List.getElem?_eq_some_iff.1 hx).1
    obtain ⟨_, hxe⟩ := List.getElem?_eq_some_iff.1 hx
    rw [List.drop_eq_getElem_cons hj, hxe, insR_yes hlt]
theorem Own.down {α : Type} {w : World} {B B' : Nat} {e : TypeId} {k : Nat} {R : List Value → α → Prop} {v : Value} {l : List α} (h : Own w B e k R v l) (hb : B' ≤ B) : Own w B' e k R v l := by
  obtain ⟨css, h1, h2, h3, h4⟩ := h
  refine ⟨css, h1, h2, h3, ?_⟩
  rcases h4 with h4 | ⟨g, cap, cur, h5, h6, h7⟩
  · exact .inl h4
  · exact .inr ⟨g, cap, cur, h5, Nat.le_trans hb h6, h7⟩
theorem Slc.take {α : Type} {w : World} {k z : Nat} {R : List Value → α → Prop} {A : Option Addr} {c : Nat} {l : List α} (h : Slc w k z R A c l) (n : Nat) : Slc w k z R A c (l.take n) := by
  obtain ⟨h1, h2, h3, h4⟩ := h
  have hle : (l.take n).length ≤ l.length := by simp; omega
  refine ⟨by omega, h2, Nat.le_trans (Nat.mul_le_mul_right _ hle) h3, fun h0 => ?_⟩
  obtain ⟨b, o, hA, hx⟩ := h4 (by omega)
  refine ⟨b, o, hA, fun i x hi => hx i x ?_⟩
  rw [List.getElem?_take] at hi
  split at hi
  · exact hi
  · cases hi
theorem Slc.drop {α : Type} {w : World} {k z : Nat} {R : List Value → α → Prop} {b o c : Nat} {l : List α} (h : Slc w k z R (some ⟨b, o, none⟩) c l) (n : Nat) (hn : n ≤ l.length) : Slc w k z R (some ⟨b, o + n * k, none⟩) (c - n) (l.drop n) := by
  have hl : (l.drop n).length = l.length - n := List.length_drop ..
  refine ⟨by have := h.1; omega, by have := h.2.1; omega, Nat.le_trans (Nat.mul_le_mul_right _ (by omega)) h.2.2.1, fun h0 => ⟨b, o + n * k, rfl, fun i x hi => ?_⟩⟩
  rw [List.getElem?_drop] at hi
  obtain ⟨x', b', o', cs, hx, hA, hcs, hlen, hr⟩ := h.at_ (i := n + i) (List.getElem?_eq_some_iff.1 hi).1
  injection hA with hA
  injection hA with hA1 hA2
  subst hA1 hA2
  obtain rfl : x' = x := Option.some.inj (hx.symm.trans hi)
  refine ⟨cs, hcs, hlen, ?_⟩
  rw [Nat.add_mul, ← Nat.add_assoc] at hr
  exact hr
theorem Slc.dropEnd {α : Type} {w : World} {k z : Nat} {R : List Value → α → Prop} {A : Option Addr} {c : Nat} {l : List α} {n : Nat} (hn : l.length ≤ n) (hc : c ≤ 9223372036854775807) : Slc w k z R A c (l.drop n) := by
  rw [List.drop_of_length_le hn]
  exact Slc.nil_ hc
theorem Slc.drop0 {α : Type} {w : World} {k z : Nat} {R : List Value → α → Prop} {b c : Nat} {l : List α} (h : Slc w k z R (some ⟨b, 0, none⟩) c l) (n : Nat) (hn : n ≤ l.length) : Slc w k z R (some ⟨b, n * k, none⟩) (c - n) (l.drop n) := by
  have := Slc.drop h n hn
  rwa [Nat.zero_add] at this
theorem blk_grown0 {w y : World} {g t : Nat} {cs : Array Value} (hB : Blk w g t cs) (hg : w.drew.grownBy y (Value.slice none 0 0).ownBlock) : Blk y g t cs :=
  Blk.grown (w := w.drew) hB hg (by simp [Value.ownBlock])
theorem Own.slcOf {α : Type} {w : World} {B : Nat} {e : TypeId} {k z : Nat} {R : List Value → α → Prop} {A : Option Addr} {n c : Nat} {l : List α} (h : Own w B e k R (.slice A n c) l) (hz : l.length * z ≤ 140737488351232) : Slc w k z R A c l := by
  obtain ⟨A', c', h1, h2⟩ := h.slc hz
  injection h1 with h1 h3 h4
  subst h1 h4
  exact h2
theorem Slc.none_ {α : Type} {w : World} {k z : Nat} {R : List Value → α → Prop} {A : Option Addr} {c : Nat} (hc : c ≤ 9223372036854775807) : Slc w k z R A c [] :=
  ⟨Nat.zero_le _, hc, by simp, fun h => by simp at h⟩
end Go.Proofs.YtcbomomlojhghaaDoor
