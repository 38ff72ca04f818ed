/- The stable sort of slices: its functions' contracts, at steps. -/
import Derived.Test.YtaicidbopgnmfaaGreatDoorSp
import Derived.Test.YtaicidbopgnmfaaGreatDoorMk
import Derived.Test.YtaicidbopgnmfaaGreatDoorEx
import Derived.Test.YtaicidbopgnmfaaGreatDoorWa
import Derived.Test.YtaicidbopgnmfaaGreatDoorPy
import Derived.BigRegion
namespace Go.Proofs.YtaicidbopgnmfaaGreatDoor
set_option linter.unusedSimpArgs false
set_option linter.unusedVariables false
open Go.RowKit

theorem set3c {w : World} {B : Nat} {e : TypeId} {g n cap : Nat} {css : List (List Value)} (h : Own w B e 3 (fun cs x => cs = x) (.slice (some ⟨g, 0, none⟩) n cap) css) {i : Nat} {a0 a1 a2 : Value} (hx : css[i]? = some [a0, a1, a2]) (b0 b1 b2 : Value) :
    Own (((w.setCell ⟨g, i * 3, none⟩ b0).setCell ⟨g, i * 3 + 1, none⟩ b1).setCell ⟨g, i * 3 + 2, none⟩ b2)
      B e 3 (fun cs x => cs = x) (.slice (some ⟨g, 0, none⟩) n cap) (css.set i [b0, b1, b2]) := by
  have hi : i < css.length := (List.getElem?_eq_some_iff.1 hx).1
  have h0 := h.rset (j := 0) hx (by omega) b0
  have h1 := h0.rset (j := 1) (List.getElem?_set_self hi) (by omega) b1
  rw [List.set_set] at h1
  have h2 := h1.rset (j := 2) (List.getElem?_set_self hi) (by omega) b2
  rw [List.set_set] at h2
  exact h2
theorem Own.raw_swap3 {α : Type} {w : World} {B : Nat} {e : TypeId} {R : List Value → α → Prop} {g n cap : Nat} {l : List α} (h : Own w B e 3 R (.slice (some ⟨g, 0, none⟩) n cap) l) {i j : Nat} {x y : α} (hx : l[i]? = some x) (hy : l[j]? = some y)
    {a0 a1 a2 b0 b1 b2 : Value} (ha : R [a0, a1, a2] x) (hb : R [b0, b1, b2] y) :
    Own ((((((w.setCell ⟨g, i * 3, none⟩ b0).setCell ⟨g, i * 3 + 1, none⟩ b1).setCell ⟨g, i * 3 + 2, none⟩ b2).setCell ⟨g, j * 3, none⟩ a0).setCell ⟨g, j * 3 + 1, none⟩ a1).setCell ⟨g, j * 3 + 2, none⟩ a2)
      B e 3 R (.slice (some ⟨g, 0, none⟩) n cap) (swp l i j) := by
  obtain ⟨css, hl, hR, ho⟩ := h.raw
  have hil : i < css.length := by rw [hl]; exact (List.getElem?_eq_some_iff.1 hx).1
  have hjl : j < css.length := by rw [hl]; exact (List.getElem?_eq_some_iff.1 hy).1
  have nine : ∀ {cs : List Value}, cs.length = 3 → ∃ c0 c1 c2, cs = [c0, c1, c2] := fun {cs} h => by
    match cs, h with
    | [c0, c1, c2], _ => exact ⟨c0, c1, c2, rfl⟩
  obtain ⟨_, h2⟩ := hR i _ x (List.getElem?_eq_getElem hil) hx
  obtain ⟨c0, c1, c2, hc⟩ := nine h2
  have s1 := set3c ho (i := i) (by rw [List.getElem?_eq_getElem hil, hc]) b0 b1 b2
  have hR1 : ∀ (m : Nat) (cs : List Value) (z : α), (css.set i [b0, b1, b2])[m]? = some cs → (l.set i y)[m]? = some z → R cs z ∧ cs.length = 3 := fun m cs z e1 e2 => by
    rw [List.getElem?_set] at e1 e2
    by_cases hm : i = m
    · rw [if_pos hm, if_pos hil] at e1
      rw [if_pos hm, if_pos (by omega)] at e2
      injection e1 with e1
      injection e2 with e2
      subst e1 e2
      exact ⟨hb, rfl⟩
    · rw [if_neg hm] at e1 e2
      exact hR m cs z e1 e2
  have hjl1 : j < (css.set i [b0, b1, b2]).length := by simpa using hjl
  obtain ⟨_, h3⟩ := hR1 j _ ((l.set i y)[j]'(by simp; omega)) (List.getElem?_eq_getElem hjl1) (List.getElem?_eq_getElem (by simp; omega))
  obtain ⟨d0, d1, d2, hd⟩ := nine h3
  have s2 := set3c s1 (i := j) (by rw [List.getElem?_eq_getElem hjl1, hd]) a0 a1 a2
  rw [swp_at hx hy]
  refine Own.unraw s2 (by simp [hl]) fun m cs z e1 e2 => ?_
  rw [List.getElem?_set] at e1 e2
  by_cases hm : j = m
  · rw [if_pos hm, if_pos hjl1] at e1
    rw [if_pos hm, if_pos (by simp; omega)] at e2
    injection e1 with e1
    injection e2 with e2
    subst e1 e2
    exact ⟨ha, rfl⟩
  · rw [if_neg hm] at e1 e2
    exact hR1 m cs z e1 e2
/-- an element that is a step; of these Z -/
def RKS (Z : Raw → Stp → Prop) (cs : List Value) (p : Stp) : Prop := ∃ r, cs = [.int .i64 p.kind, .string (bs p.name), .string (bs p.ver)] ∧ Z r p
theorem swapKS {w w0 : World} {B : Nat} {e : TypeId} {Z : Raw → Stp → Prop} {g n cap : Nat} {l : List Stp} (h : Own w B e 3 (RKS Z) (.slice (some ⟨g, 0, none⟩) n cap) l) (i j : Nat) {x y : Stp} {r s : Raw} (hx : l[i]? = some x) (hy : l[j]? = some y) (hr : Z r x) (hs : Z s y) (hg : w0.grownBy w (some g)) :
    Own (((((((w.setCell ⟨g, i * 3, none⟩ (.int .i64 y.kind)).setCell ⟨g, i * 3 + 1, none⟩ (.string (bs y.name))).setCell ⟨g, i * 3 + 2, none⟩ (.string (bs y.ver))).setCell ⟨g, j * 3, none⟩ (.int .i64 x.kind)).setCell ⟨g, j * 3 + 1, none⟩ (.string (bs x.name))).setCell ⟨g, j * 3 + 2, none⟩ (.string (bs x.ver)))).drew B e 3 (RKS Z) (.slice (some ⟨g, 0, none⟩) n cap) (swp l i j) ∧ w0.grownBy (((((((w.setCell ⟨g, i * 3, none⟩ (.int .i64 y.kind)).setCell ⟨g, i * 3 + 1, none⟩ (.string (bs y.name))).setCell ⟨g, i * 3 + 2, none⟩ (.string (bs y.ver))).setCell ⟨g, j * 3, none⟩ (.int .i64 x.kind)).setCell ⟨g, j * 3 + 1, none⟩ (.string (bs x.name))).setCell ⟨g, j * 3 + 2, none⟩ (.string (bs x.ver)))).drew (some g) :=
  ⟨(h.raw_swap3 hx hy ⟨r, rfl, hr⟩ ⟨s, rfl, hs⟩).drew, only_drewN (only_setCell (only_setCell (only_setCell (only_setCell (only_setCell (only_setCell hg (.inl rfl) _) (.inl rfl) _) (.inl rfl) _) (.inl rfl) _) (.inl rfl) _) (.inl rfl) _) 1⟩
theorem Own.atKS {w : World} {B : Nat} {e : TypeId} {Z : Raw → Stp → Prop} {g n cap : Nat} {l : List Stp} (h : Own w B e 3 (RKS Z) (.slice (some ⟨g, 0, none⟩) n cap) l) {i : Nat} (hi : i < l.length) (hz : l.length ≤ 1000) : ∃ x r, l[i]? = some x ∧ Z r x ∧
    w.cell? ⟨g, i * 3, none⟩ = some (.int .i64 x.kind) ∧ w.cell? ⟨g, i * 3 + 1, none⟩ = some (.string (bs x.name)) ∧ w.cell? ⟨g, i * 3 + 2, none⟩ = some (.string (bs x.ver)) := by
  obtain ⟨cs, ⟨r, rfl, hz⟩, _, hr⟩ := h.elem (List.getElem?_eq_getElem hi) hz
  exact ⟨_, r, List.getElem?_eq_getElem hi, hz, range3 hr⟩
set_option maxRecDepth 100000 in
set_option maxHeartbeats 4000000 in
theorem swapRangeS_any (B : Nat) (Z : Raw → Stp → Prop) (fv : Value) (g cap : Nat) (l : List Stp) (a b n : Nat) (w : World) (ho : Own w B 24 3 (RKS Z) (.slice (some ⟨g, 0, none⟩) l.length cap) l)
    (h1 : a + n ≤ b) (h2 : b + n ≤ l.length) (hs : l.length ≤ 1000) :
    Calls Tryz.prog 200 #[.slice (some ⟨g, 0, none⟩) l.length cap, .int .i64 a, .int .i64 b, .int .i64 n, fv] w (RetRow w B 24 3 (RKS Z) g l.length cap (swpN l a b n)) := by
  have HO := Lib.hid ho
  clear ho
  go_enter Tryz.func200, Tryz.ntmps200
  go_wp2
  go_loopw [10] (fun i wr => ∃ k : Nat, k ≤ n ∧ i = .int .i64 k ∧ Own wr B 24 3 (RKS Z) (.slice (some ⟨g, 0, none⟩) l.length cap) (swpN l a b k) ∧ w.grownBy wr (some g)) (fun i _ => n - (intOf i).toNat)
  case atStart => exact ⟨0, Nat.zero_le _, rfl, HO.out, ⟨rfl, rfl, rfl, Nat.le_refl _, fun _ _ _ => rfl⟩⟩
  case round =>
    clear HO
    obtain ⟨k, hk, rfl, ho, hg⟩ := hrel
    obtain ⟨wo, rfl⟩ : ∃ wo : World, wo = wr := ⟨_, rfl⟩
    have hlen := Lib.hid (swpN_len l a b k)
    by_cases hlt : k < n
    · obtain ⟨x, r, hx, hr, e0, e1, e2⟩ := ho.atKS (i := a + k) (by rw [hlen.out]; omega) (by rw [hlen.out]; exact hs)
      obtain ⟨y, s, hy, hq, f0, f1, f2⟩ := ho.atKS (i := b + k) (by rw [hlen.out]; omega) (by rw [hlen.out]; exact hs)
      have hfz := ho.frz
      have HO := Lib.hid ho
      have HG := Lib.hid hg
      have HX := Lib.hid hx
      have HY := Lib.hid hy
      have HR := Lib.hid hr
      have HQ := Lib.hid hq
      clear ho hg hx hy hr hq
      go_wp2_with fail
      go_region
      go_wp2
      go_roundw
      case rel =>
        have hsw := swapKS HO.out (a + k) (b + k) HX.out HY.out HR.out HQ.out HG.out
        exact ⟨k + 1, by omega, by simp, hsw.1, hsw.2⟩
      case measure => (try simp only [intOf]); omega
    · go_wp2
      go_end0
      obtain rfl : k = n := by omega
      exact ⟨rfl, ho, hg⟩
end Go.Proofs.YtaicidbopgnmfaaGreatDoor
