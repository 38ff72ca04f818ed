/- A slice over a block that is known whole; short texts. -/
import Derived.Test.YtcbomomlojhghaaDoorOw
namespace Go.Proofs.YtcbomomlojhghaaDoor
set_option linter.unusedSimpArgs false
set_option linter.unusedVariables false
open Go.RowKit
def noRaw : Raw := ⟨none, none, none, none, none, none, 0, 0, 0, 0, 0, 0⟩
theorem short_of {l : List UInt8} (h : l.length ≤ 1000) : short l := by unfold short; omega
/-- a slice over a block that is known whole -/
theorem slc_of_blk {α : Type} {w : World} {g t k z n : Nat} {cs : Array Value} {R : List Value → α → Prop} {l : List α} (css : List (List Value)) (hB : Blk w g t cs) (hl : css.length = l.length) (hn : n = l.length)
    (hR : ∀ (i : Nat) (cs : List Value) (x : α), css[i]? = some cs → l[i]? = some x → R cs x ∧ cs.length = k) (hcs : cs.toList = css.flatten) (hz : l.length * z ≤ 140737488351232) (hm : l.length ≤ 1000) (hk : k ≤ 1000) : Slc w k z R (some ⟨g, 0, none⟩) n l := by
  have hlen : css.flatten.length = l.length * k := by
    have h1 := own_lens hl hR
    rw [List.length_flatten, ← hl]
    clear hl hn hR hcs hz hm hB
    induction css with
    | nil => simp
    | cons c css ih =>
      have h2 := h1 c (List.mem_cons_self ..)
      have h3 := ih (fun x hx => h1 x (List.mem_cons_of_mem _ hx))
      simp only [List.map_cons, List.sum_cons, List.length_cons, Nat.succ_mul]
      omega
  have hO : Own w 0 t k R (.slice (some ⟨g, 0, none⟩) l.length l.length) l := ⟨css, hl, hR, hlen, .inr ⟨g, l.length, cs, rfl, Nat.zero_le _, hB, Nat.le_refl _, by unfold maxLen; omega, by
    have : cs.size = cs.toList.length := by simp
    rw [this, hcs, hlen], by rw [hcs, ← hlen, List.take_length]⟩⟩
  obtain ⟨A, c, h1, h2⟩ := hO.slc hz
  injection h1 with h1 h3 h4
  subst h1 h4 hn
  exact h2
theorem Slc.take_ {α : Type} {w : World} {k z : Nat} {R : List Value → α → Prop} {A : Option Addr} {c : Nat} {l : List α} (h : Slc w k z R A c l) (n : Nat) : Slc w k z R A c (l.take n) := by
  obtain ⟨h1, h2, h3, h4⟩ := h
  have hle : (l.take n).length ≤ l.length := by simp; omega
  refine ⟨by omega, h2, Nat.le_trans (Nat.mul_le_mul_right _ hle) h3, fun h0 => ?_⟩
  obtain ⟨b, o, hA, hx⟩ := h4 (by omega)
  refine ⟨b, o, hA, fun i x hi => hx i x ?_⟩
  rw [List.getElem?_take] at hi
  split at hi
  · exact hi
  · cases hi
theorem Own.slcOf_ {α : Type} {w : World} {B : Nat} {e : TypeId} {k z : Nat} {R : List Value → α → Prop} {A : Option Addr} {n c : Nat} {l : List α} (h : Own w B e k R (.slice A n c) l) (hz : l.length * z ≤ 140737488351232) : Slc w k z R A c l := by
  obtain ⟨A', c', h1, h2⟩ := h.slc hz
  injection h1 with h1 h3 h4
  subst h1 h4
  exact h2
end Go.Proofs.YtcbomomlojhghaaDoor
