/- The reference's SameInts: its contract. -/
import Derived.Test.YtodhianmaogfpaaScA
namespace Go.Proofs.Ytodhianmaogfpaa
set_option linter.unusedSimpArgs false
set_option linter.unusedVariables false
open Go.RowKit
attribute [local go_sem ↓] Go.wp_at_zero Go.wp_at_succ
theorem Slc.bd' {α : Type} {w : World} {k z : Nat} {R : List Value → α → Prop} {A : Option Addr} {c : Nat} {l : List α} (h : Slc w k z R A c l) : l.length ≤ c ∧ c ≤ 9223372036854775807 ∧ l.length * z ≤ 140737488351232 := h.bd
theorem Ints.bd {w : World} {A : Option Addr} {c : Nat} {l : List Nat} (h : Ints w A c l) : l.length ≤ c ∧ c ≤ 9223372036854775807 ∧ l.length * 8 ≤ 140737488351232 := Slc.bd h
theorem take_ext {α : Type} {l m : List α} {k : Nat} {x : α} (hx : l[k]? = some x) (hy : m[k]? = some x) (h : l.take k = m.take k) : l.take (k + 1) = m.take (k + 1) := by rw [take_step hx, take_step hy, h]
set_option maxRecDepth 100000 in
set_option maxHeartbeats 400000 in
theorem sameInts_any (A B : Option Addr) (c d : Nat) (l m : List (Nat)) (w : World) (hl : Ints w A c l) (hm : Ints w B d m) :
    Calls Try.prog 11 #[.slice A l.length c, .slice B m.length d] w fun e w' => e = .returned (.bool (decide (l = m))) ∧ Below w.heap.size w w' := by
  have hbd := hl.bd
  have hbd2 := hm.bd
  have HL := Lib.hid hl
  have HM := Lib.hid hm
  clear hl hm
  by_cases hlen : l.length = m.length
  · have hlb : ((l.length : Int) != (m.length : Int)) = false := by simp [hlen]
    have hl1 : l.length ≤ m.length := by omega
    have hl2 : m.length ≤ l.length := by omega
    clear hlen
    go_enter Try.func11, Try.ntmps11
    go_wp2
    go_loopw [13] (fun i wr => ∃ k : Nat, k ≤ l.length ∧ i = .int .i64 k ∧ Below w.heap.size w wr ∧ l.take k = m.take k) (fun i _ => l.length - (intOf i).toNat)
    case atStart => exact ⟨0, Nat.zero_le _, rfl, Below.refl _ _, rfl⟩
    case round =>
      obtain ⟨k, hk, rfl, hb, hn⟩ := hrel
      obtain ⟨wo, rfl⟩ : ∃ wo : World, wo = wr := ⟨_, rfl⟩
      have HB := Lib.hid hb
      have HN := Lib.hid hn
      clear hb hn
      by_cases hlt : k < l.length
      · obtain ⟨x, b, o, hx, rfl, e0⟩ := HL.out.at_ hlt (Kept.of_below HB.out)
        obtain ⟨y, b', o', hy, rfl, f0⟩ := HM.out.at_ (by omega : k < m.length) (Kept.of_below HB.out)
        have HX := Lib.hid hx
        have HY := Lib.hid hy
        clear hx hy
        have hi0 : (0 : Int) ≤ (k : Int) := Int.natCast_nonneg _
        have hi1 : (k : Int) < (l.length : Int) := by omega
        have hi2 : (k : Int) < (m.length : Int) := by omega
        go_wp2
        go_quiet (fail)
        go_wp2
        · have hne : x ≠ y := by (have h := (by assumption : ((x : Int) != (y : Int)) = true); rw [bne_iff_ne] at h; omega)
          go_ret
          have hf : decide (l = m) = false := by
            rw [decide_eq_false_iff_not]
            intro h
            have h1 := HX.out
            rw [h, HY.out] at h1
            exact hne (Option.some.inj h1).symm
          exact ⟨by rw [hf]; rfl, by have hb0 := HB.out; (repeat (first | assumption | exact Below.refl _ _ | refine below_next ?_ (by assumption) | refine below_drewN ?_ _ | refine below_alloc ?_ _))⟩
        · have heq : x = y := by (have h := (by assumption : ((x : Int) != (y : Int)) = false); simp at h; omega)
          subst heq
          go_roundw
          case rel => exact ⟨k + 1, by omega, by simp, by have hb0 := HB.out; (repeat (first | assumption | exact Below.refl _ _ | refine below_next ?_ (by assumption) | refine below_drewN ?_ _ | refine below_alloc ?_ _)), take_ext HX.out HY.out HN.out⟩
          case measure => (try simp only [intOf]); omega
      · go_wp2
        go_ret
        have hn := HN.out
        rw [List.take_of_length_le (by omega), List.take_of_length_le (by omega)] at hn
        exact ⟨by simp [hn], HB.out⟩
  · have hlb : ((l.length : Int) != (m.length : Int)) = true := by rw [bne_iff_ne]; omega
    go_enter Try.func11, Try.ntmps11
    go_wp2
    go_ret
    have hf : decide (l = m) = false := by
      rw [decide_eq_false_iff_not]
      intro h
      exact hlen (by rw [h])
    exact ⟨by rw [hf]; rfl, Below.refl _ _⟩
end Go.Proofs.Ytodhianmaogfpaa
