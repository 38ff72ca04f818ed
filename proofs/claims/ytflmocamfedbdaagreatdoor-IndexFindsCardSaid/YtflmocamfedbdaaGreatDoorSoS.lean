/- The stable sort of slices: its functions' contracts, at packages. -/
import Derived.Test.YtflmocamfedbdaaGreatDoorSp
import Derived.Test.YtflmocamfedbdaaGreatDoorMk
import Derived.Test.YtflmocamfedbdaaGreatDoorSoG
import Derived.Test.YtflmocamfedbdaaGreatDoorVerA
import Derived.BigRegion
namespace Go.Proofs.YtflmocamfedbdaaGreatDoor
set_option linter.unusedSimpArgs false
set_option linter.unusedVariables false
open Go.RowKit

theorem Own.raw_swap9 {α : Type} {w : World} {B : Nat} {e : TypeId} {R : List Value → α → Prop} {g n cap : Nat} {l : List α} (h : Own w B e 9 R (.slice (some ⟨g, 0, none⟩) n cap) l) {i j : Nat} {x y : α} (hx : l[i]? = some x) (hy : l[j]? = some y)
    {a0 a1 a2 a3 a4 a5 a6 a7 a8 b0 b1 b2 b3 b4 b5 b6 b7 b8 : Value} (ha : R [a0, a1, a2, a3, a4, a5, a6, a7, a8] x) (hb : R [b0, b1, b2, b3, b4, b5, b6, b7, b8] y) :
    Own ((((((((((((((((((w.setCell ⟨g, i * 9, none⟩ b0).setCell ⟨g, i * 9 + 1, none⟩ b1).setCell ⟨g, i * 9 + 2, none⟩ b2).setCell ⟨g, i * 9 + 3, none⟩ b3).setCell ⟨g, i * 9 + 4, none⟩ b4).setCell ⟨g, i * 9 + 5, none⟩ b5).setCell ⟨g, i * 9 + 6, none⟩ b6).setCell ⟨g, i * 9 + 7, none⟩ b7).setCell ⟨g, i * 9 + 8, none⟩ b8).setCell ⟨g, j * 9, none⟩ a0).setCell ⟨g, j * 9 + 1, none⟩ a1).setCell ⟨g, j * 9 + 2, none⟩ a2).setCell ⟨g, j * 9 + 3, none⟩ a3).setCell ⟨g, j * 9 + 4, none⟩ a4).setCell ⟨g, j * 9 + 5, none⟩ a5).setCell ⟨g, j * 9 + 6, none⟩ a6).setCell ⟨g, j * 9 + 7, none⟩ a7).setCell ⟨g, j * 9 + 8, none⟩ a8)
      B e 9 R (.slice (some ⟨g, 0, none⟩) n cap) (swp l i j) := by
  obtain ⟨css, hl, hR, ho⟩ := h.raw
  have hil : i < css.length := by rw [hl]; exact (List.getElem?_eq_some_iff.1 hx).1
  have hjl : j < css.length := by rw [hl]; exact (List.getElem?_eq_some_iff.1 hy).1
  have nine : ∀ {cs : List Value}, cs.length = 9 → ∃ c0 c1 c2 c3 c4 c5 c6 c7 c8, cs = [c0, c1, c2, c3, c4, c5, c6, c7, c8] := fun {cs} h => by
    match cs, h with
    | [c0, c1, c2, c3, c4, c5, c6, c7, c8], _ => exact ⟨c0, c1, c2, c3, c4, c5, c6, c7, c8, rfl⟩
  obtain ⟨_, h2⟩ := hR i _ x (List.getElem?_eq_getElem hil) hx
  obtain ⟨c0, c1, c2, c3, c4, c5, c6, c7, c8, hc⟩ := nine h2
  have s1 := set9 ho (i := i) (by rw [List.getElem?_eq_getElem hil, hc]) b0 b1 b2 b3 b4 b5 b6 b7 b8
  have hR1 : ∀ (m : Nat) (cs : List Value) (z : α), (css.set i [b0, b1, b2, b3, b4, b5, b6, b7, b8])[m]? = some cs → (l.set i y)[m]? = some z → R cs z ∧ cs.length = 9 := fun m cs z e1 e2 => by
    rw [List.getElem?_set] at e1 e2
    by_cases hm : i = m
    · rw [if_pos hm, if_pos hil] at e1
      rw [if_pos hm, if_pos (by omega)] at e2
      injection e1 with e1
      injection e2 with e2
      subst e1 e2
      exact ⟨hb, rfl⟩
    · rw [if_neg hm] at e1 e2
      exact hR m cs z e1 e2
  have hjl1 : j < (css.set i [b0, b1, b2, b3, b4, b5, b6, b7, b8]).length := by simpa using hjl
  obtain ⟨_, h3⟩ := hR1 j _ ((l.set i y)[j]'(by simp; omega)) (List.getElem?_eq_getElem hjl1) (List.getElem?_eq_getElem (by simp; omega))
  obtain ⟨d0, d1, d2, d3, d4, d5, d6, d7, d8, hd⟩ := nine h3
  have s2 := set9 s1 (i := j) (by rw [List.getElem?_eq_getElem hjl1, hd]) a0 a1 a2 a3 a4 a5 a6 a7 a8
  rw [swp_at hx hy]
  refine Own.unraw s2 (by simp [hl]) fun m cs z e1 e2 => ?_
  rw [List.getElem?_set] at e1 e2
  by_cases hm : j = m
  · rw [if_pos hm, if_pos hjl1] at e1
    rw [if_pos hm, if_pos (by simp; omega)] at e2
    injection e1 with e1
    injection e2 with e2
    subst e1 e2
    exact ⟨ha, rfl⟩
  · rw [if_neg hm] at e1 e2
    exact hR1 m cs z e1 e2
/-- an element that is a package: its cells by where its slices lie; of these Z -/
def RK (Z : Raw → Pkg → Prop) (cs : List Value) (p : Pkg) : Prop := ∃ r, cs = encK r p ∧ Z r p
theorem swapK {w w0 : World} {B : Nat} {e : TypeId} {Z : Raw → Pkg → Prop} {g n cap : Nat} {l : List Pkg} (h : Own w B e 9 (RK Z) (.slice (some ⟨g, 0, none⟩) n cap) l) (i j : Nat) {x y : Pkg} {r s : Raw} (hx : l[i]? = some x) (hy : l[j]? = some y) (hr : Z r x) (hs : Z s y) (hg : w0.grownBy w (some g)) :
    Own (((((((((((((((((((w).setCell ⟨g, i * 9, none⟩ (.string (bs y.name))).setCell ⟨g, i * 9 + 1, none⟩ (.string (bs y.ver))).setCell ⟨g, i * 9 + 2, none⟩ (.slice s.a1 y.pre.length s.c1)).setCell ⟨g, i * 9 + 3, none⟩ (.slice s.a2 y.dep.length s.c2)).setCell ⟨g, i * 9 + 4, none⟩ (.slice s.a3 y.rcm.length s.c3)).setCell ⟨g, i * 9 + 5, none⟩ (.slice s.a4 y.con.length s.c4)).setCell ⟨g, i * 9 + 6, none⟩ (.slice s.a5 y.brk.length s.c5)).setCell ⟨g, i * 9 + 7, none⟩ (.slice s.a6 y.prv.length s.c6)).setCell ⟨g, i * 9 + 8, none⟩ (.bool y.ess)).setCell ⟨g, j * 9, none⟩ (.string (bs x.name))).setCell ⟨g, j * 9 + 1, none⟩ (.string (bs x.ver))).setCell ⟨g, j * 9 + 2, none⟩ (.slice r.a1 x.pre.length r.c1)).setCell ⟨g, j * 9 + 3, none⟩ (.slice r.a2 x.dep.length r.c2)).setCell ⟨g, j * 9 + 4, none⟩ (.slice r.a3 x.rcm.length r.c3)).setCell ⟨g, j * 9 + 5, none⟩ (.slice r.a4 x.con.length r.c4)).setCell ⟨g, j * 9 + 6, none⟩ (.slice r.a5 x.brk.length r.c5)).setCell ⟨g, j * 9 + 7, none⟩ (.slice r.a6 x.prv.length r.c6)).setCell ⟨g, j * 9 + 8, none⟩ (.bool x.ess)).drew B e 9 (RK Z) (.slice (some ⟨g, 0, none⟩) n cap) (swp l i j) ∧ w0.grownBy (((((((((((((((((((w).setCell ⟨g, i * 9, none⟩ (.string (bs y.name))).setCell ⟨g, i * 9 + 1, none⟩ (.string (bs y.ver))).setCell ⟨g, i * 9 + 2, none⟩ (.slice s.a1 y.pre.length s.c1)).setCell ⟨g, i * 9 + 3, none⟩ (.slice s.a2 y.dep.length s.c2)).setCell ⟨g, i * 9 + 4, none⟩ (.slice s.a3 y.rcm.length s.c3)).setCell ⟨g, i * 9 + 5, none⟩ (.slice s.a4 y.con.length s.c4)).setCell ⟨g, i * 9 + 6, none⟩ (.slice s.a5 y.brk.length s.c5)).setCell ⟨g, i * 9 + 7, none⟩ (.slice s.a6 y.prv.length s.c6)).setCell ⟨g, i * 9 + 8, none⟩ (.bool y.ess)).setCell ⟨g, j * 9, none⟩ (.string (bs x.name))).setCell ⟨g, j * 9 + 1, none⟩ (.string (bs x.ver))).setCell ⟨g, j * 9 + 2, none⟩ (.slice r.a1 x.pre.length r.c1)).setCell ⟨g, j * 9 + 3, none⟩ (.slice r.a2 x.dep.length r.c2)).setCell ⟨g, j * 9 + 4, none⟩ (.slice r.a3 x.rcm.length r.c3)).setCell ⟨g, j * 9 + 5, none⟩ (.slice r.a4 x.con.length r.c4)).setCell ⟨g, j * 9 + 6, none⟩ (.slice r.a5 x.brk.length r.c5)).setCell ⟨g, j * 9 + 7, none⟩ (.slice r.a6 x.prv.length r.c6)).setCell ⟨g, j * 9 + 8, none⟩ (.bool x.ess)).drew (some g) :=
  ⟨(h.raw_swap9 hx hy ⟨r, rfl, hr⟩ ⟨s, rfl, hs⟩).drew, only_drewN (only_setCell (only_setCell (only_setCell (only_setCell (only_setCell (only_setCell (only_setCell (only_setCell (only_setCell (only_setCell (only_setCell (only_setCell (only_setCell (only_setCell (only_setCell (only_setCell (only_setCell (only_setCell hg (.inl rfl) _) (.inl rfl) _) (.inl rfl) _) (.inl rfl) _) (.inl rfl) _) (.inl rfl) _) (.inl rfl) _) (.inl rfl) _) (.inl rfl) _) (.inl rfl) _) (.inl rfl) _) (.inl rfl) _) (.inl rfl) _) (.inl rfl) _) (.inl rfl) _) (.inl rfl) _) (.inl rfl) _) (.inl rfl) _) 1⟩
theorem Own.atK {w : World} {B : Nat} {e : TypeId} {Z : Raw → Pkg → Prop} {g n cap : Nat} {l : List Pkg} (h : Own w B e 9 (RK Z) (.slice (some ⟨g, 0, none⟩) n cap) l) {i : Nat} (hi : i < l.length) (hz : l.length ≤ 1000) : ∃ x r, l[i]? = some x ∧ Z r x ∧
    w.cell? ⟨g, i * 9, none⟩ = some (.string (bs x.name)) ∧ w.cell? ⟨g, i * 9 + 1, none⟩ = some (.string (bs x.ver)) ∧ w.cell? ⟨g, i * 9 + 2, none⟩ = some (.slice r.a1 x.pre.length r.c1) ∧
    w.cell? ⟨g, i * 9 + 3, none⟩ = some (.slice r.a2 x.dep.length r.c2) ∧ w.cell? ⟨g, i * 9 + 4, none⟩ = some (.slice r.a3 x.rcm.length r.c3) ∧ w.cell? ⟨g, i * 9 + 5, none⟩ = some (.slice r.a4 x.con.length r.c4) ∧
    w.cell? ⟨g, i * 9 + 6, none⟩ = some (.slice r.a5 x.brk.length r.c5) ∧ w.cell? ⟨g, i * 9 + 7, none⟩ = some (.slice r.a6 x.prv.length r.c6) ∧ w.cell? ⟨g, i * 9 + 8, none⟩ = some (.bool x.ess) := by
  obtain ⟨cs, ⟨r, rfl, hz⟩, _, hr⟩ := h.elem (List.getElem?_eq_getElem hi) hz
  exact ⟨_, r, List.getElem?_eq_getElem hi, hz, range9 hr⟩
set_option maxRecDepth 100000 in
set_option maxHeartbeats 4000000 in
theorem swapRange_any (B : Nat) (Z : Raw → Pkg → Prop) (fv : Value) (g cap : Nat) (l : List Pkg) (a b n : Nat) (w : World) (ho : Own w B 26 9 (RK Z) (.slice (some ⟨g, 0, none⟩) l.length cap) l)
    (h1 : a + n ≤ b) (h2 : b + n ≤ l.length) (hs : l.length ≤ 1000) :
    Calls Tryz.prog 148 #[.slice (some ⟨g, 0, none⟩) l.length cap, .int .i64 a, .int .i64 b, .int .i64 n, fv] w (RetRow w B 26 9 (RK Z) g l.length cap (swpN l a b n)) := by
  have HO := Lib.hid ho
  clear ho
  go_enter Tryz.func148, Tryz.ntmps148
  go_wp2
  go_loopw [10] (fun i wr => ∃ k : Nat, k ≤ n ∧ i = .int .i64 k ∧ Own wr B 26 9 (RK Z) (.slice (some ⟨g, 0, none⟩) l.length cap) (swpN l a b k) ∧ w.grownBy wr (some g)) (fun i _ => n - (intOf i).toNat)
  case atStart => exact ⟨0, Nat.zero_le _, rfl, HO.out, ⟨rfl, rfl, rfl, Nat.le_refl _, fun _ _ _ => rfl⟩⟩
  case round =>
    clear HO
    obtain ⟨k, hk, rfl, ho, hg⟩ := hrel
    obtain ⟨wo, rfl⟩ : ∃ wo : World, wo = wr := ⟨_, rfl⟩
    have hlen := Lib.hid (swpN_len l a b k)
    by_cases hlt : k < n
    · obtain ⟨x, r, hx, hr, e0, e1, e2, e3, e4, e5, e6, e7, e8⟩ := ho.atK (i := a + k) (by rw [hlen.out]; omega) (by rw [hlen.out]; exact hs)
      obtain ⟨y, s, hy, hq, f0, f1, f2, f3, f4, f5, f6, f7, f8⟩ := ho.atK (i := b + k) (by rw [hlen.out]; omega) (by rw [hlen.out]; exact hs)
      have hfz := ho.frz
      have HO := Lib.hid ho
      have HG := Lib.hid hg
      have HX := Lib.hid hx
      have HY := Lib.hid hy
      have HR := Lib.hid hr
      have HQ := Lib.hid hq
      clear ho hg hx hy hr hq
      go_wp2_with fail
      go_region
      go_wp2
      go_roundw
      case rel =>
        have hsw := swapK HO.out (a + k) (b + k) HX.out HY.out HR.out HQ.out HG.out
        exact ⟨k + 1, by omega, by simp, hsw.1, hsw.2⟩
      case measure => (try simp only [intOf]); omega
    · go_wp2
      go_end0
      obtain rfl : k = n := by omega
      exact ⟨rfl, ho, hg⟩
end Go.Proofs.YtflmocamfedbdaaGreatDoor
