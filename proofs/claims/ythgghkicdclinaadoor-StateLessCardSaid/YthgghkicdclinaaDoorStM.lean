/- The contract of SameWrong. -/
import Derived.Test.YthgghkicdclinaaDoorStL
import Derived.Laws.StructEq
namespace Go.Proofs.YthgghkicdclinaaDoor
set_option linter.unusedSimpArgs false
set_option linter.unusedVariables false
open Go.RowKit

theorem vio_eql (x y : Vio) (w : World) : (binOp .eql 67 (.agg #[.int .i64 x.kind, .string (bs x.name), .bool x.pre, .int .i64 x.i, .string (bs x.other)]) (.agg #[.int .i64 y.kind, .string (bs y.name), .bool y.pre, .int .i64 y.i, .string (bs y.other)])).run Tryd.prog w = .ok (.bool (decide (x = y))) w := by
  have u3 := Tryd.underlying3
  have u4 := Tryd.underlying4
  have u9 := Tryd.underlying9
  have a3 := Tryd.isAgg3
  have z3 := Tryd.sizeOf3
  have a4 := Tryd.isAgg4
  have z4 := Tryd.sizeOf4
  have a9 := Tryd.isAgg9
  have z9 := Tryd.sizeOf9
  have hS : Tryd.prog.underlying 67 = some (.struct (Tryd.prog.fieldsOf 67)) := by kernel_rfl
  have hp : Tryd.prog.stoodInHeld 67 = false := by kernel_rfl
  rw [run_eql_struct, show (10000 : Nat) = 9999 + 1 from rfl, run_equalIn_agg w 9999 67 _ _ hS hp]
  simp only [Program.fieldsOf, Tryd.underlying67]
  go_simp
  obtain ⟨a, b, c, d, e⟩ := x
  obtain ⟨a', b', c', d', e'⟩ := y
  by_cases h1 : a = a' <;> by_cases h2 : b = b' <;> by_cases h3 : c = c' <;> by_cases h4 : d = d' <;> by_cases h5 : e = e' <;> simp [h1, h2, h3, h4, h5]
theorem vio_neq (x y : Vio) (w : World) : (binOp .neq 67 (.agg #[.int .i64 x.kind, .string (bs x.name), .bool x.pre, .int .i64 x.i, .string (bs x.other)]) (.agg #[.int .i64 y.kind, .string (bs y.name), .bool y.pre, .int .i64 y.i, .string (bs y.other)])).run Tryd.prog w = .ok (.bool (!decide (x = y))) w := by
  have h := vio_eql x y w
  rw [run_eql_struct] at h
  rw [run_neq_struct]
  revert h
  generalize (Op.equalIn 10000 67 _ _).run Tryd.prog w = r
  cases r with
  | ok b w' =>
    simp only [Result.andThen_ok]
    intro h
    injection h with h1 h2
    injection h1 with h1
    rw [h1, h2]
  | halt h w' => intro h; cases h
theorem take_ext {α : Type} {l m : List α} {k : Nat} {x : α} (hx : l[k]? = some x) (hy : m[k]? = some x) (h : l.take k = m.take k) : l.take (k + 1) = m.take (k + 1) := by
  rw [take_step hx, take_step hy, h]
set_option maxRecDepth 100000 in
set_option maxHeartbeats 400000 in
theorem sameWrong_any (A B : Option Addr) (c d : Nat) (l m : List Vio) (w : World) (hl : Vios w A c l) (hm : Vios w B d m) :
    Calls Tryd.prog 15 #[.slice A l.length c, .slice B m.length d] w fun e w' => e = .returned (.bool (decide (l = m))) ∧ Below w.heap.size w w' := by
  have hbd := hl.bd
  have hbd2 := hm.bd
  have HL := Lib.hid hl
  have HM := Lib.hid hm
  clear hl hm
  by_cases hlen : l.length = m.length
  · have hlb : ((l.length : Int) != (m.length : Int)) = false := by simp [hlen]
    go_enter Tryd.func15, Tryd.ntmps15
    go_wp2
    go_loopw [13] (fun i wr => ∃ k : Nat, k ≤ l.length ∧ i = .int .i64 k ∧ Below w.heap.size w wr ∧ l.take k = m.take k) (fun i _ => l.length - (intOf i).toNat)
    case atStart => exact ⟨0, Nat.zero_le _, rfl, Below.refl _ _, rfl⟩
    case round =>
      obtain ⟨k, hk, rfl, hb, hn⟩ := hrel
      have HB := Lib.hid hb
      have HN := Lib.hid hn
      clear hb hn
      by_cases hlt : k < l.length
      · obtain ⟨x, b, o, hx, rfl, e0, e1, e2, e3, e4⟩ := HL.out.at_ hlt (Kept.of_below HB.out)
        obtain ⟨y, b', o', hy, rfl, f0, f1, f2, f3, f4⟩ := HM.out.at_ (by omega : k < m.length) (Kept.of_below HB.out)
        have HX := Lib.hid hx
        have HY := Lib.hid hy
        clear hx hy
        have hi0 : (0 : Int) ≤ (k : Int) := Int.natCast_nonneg _
        have hi1 : (k : Int) < (l.length : Int) := by omega
        have hi2 : (k : Int) < (m.length : Int) := by omega
        have hneq := fun W => vio_neq x y W
        go_wp2
        go_quiet (fail)
        go_wp2
        · have hne : x ≠ y := by simpa using (by assumption : (!decide (x = y)) = true)
          go_ret
          have hf : decide (l = m) = false := by
            rw [decide_eq_false_iff_not]
            intro h
            have h1 := HX.out
            rw [h, HY.out] at h1
            exact hne (Option.some.inj h1).symm
          exact ⟨by rw [hf]; rfl, by have hb0 := HB.out; (repeat (first | assumption | exact Below.refl _ _ | refine below_next ?_ (by assumption) | refine below_drewN ?_ _ | refine below_alloc ?_ _))⟩
        · have heq : x = y := by simpa using (by assumption : (!decide (x = y)) = false)
          subst heq
          go_roundw
          case rel => exact ⟨k + 1, by omega, by simp, by have hb0 := HB.out; (repeat (first | assumption | exact Below.refl _ _ | refine below_next ?_ (by assumption) | refine below_drewN ?_ _ | refine below_alloc ?_ _)), take_ext HX.out HY.out HN.out⟩
          case measure => (try simp only [intOf]); omega
      · go_wp2
        go_ret
        have hn := HN.out
        rw [List.take_of_length_le (by omega), List.take_of_length_le (by omega)] at hn
        exact ⟨by simp [hn], HB.out⟩
  · have hlb : ((l.length : Int) != (m.length : Int)) = true := by rw [bne_iff_ne]; omega
    go_enter Tryd.func15, Tryd.ntmps15
    go_wp2
    go_ret
    have hf : decide (l = m) = false := by
      rw [decide_eq_false_iff_not]
      intro h
      exact hlen (by rw [h])
    exact ⟨by rw [hf]; rfl, Below.refl _ _⟩
end Go.Proofs.YthgghkicdclinaaDoor
