/- An entry by its name: the contracts of the reference's Find and of state.Find. -/
import Derived.Test.YtefjoigngnnbjaaDoorMk
import Derived.Test.YtefjoigngnnbjaaDoorVerA
namespace Go.Proofs.YtefjoigngnnbjaaDoor
set_option linter.unusedSimpArgs false
set_option linter.unusedVariables false
open Go.RowKit
def nameE (n : List UInt8) (x : Ent) : Bool := x.pkg.name == n
set_option maxRecDepth 100000 in
theorem rfind_any (A : Option Addr) (c : Nat) (l : List Ent) (n : List UInt8) (w : World) (hl : Ents w A c l) :
    Calls Tryd.prog 9 #[.slice A l.length c, .string (bs n)] w fun e w' => e = .returned (.int .i64 (idxS (nameE n) l)) ∧ Below w.heap.size w w' := by
  have hbd := hl.bd
  have HL := Lib.hid hl
  clear hl
  go_enter Tryd.func9, Tryd.ntmps9
  go_wp2
  go_loopw [9] (fun i wr => ∃ k : Nat, k ≤ l.length ∧ i = .int .i64 k ∧ Below w.heap.size w wr ∧ (l.take k).any (nameE n) = false) (fun i _ => l.length - (intOf i).toNat)
  case atStart => exact ⟨0, Nat.zero_le _, rfl, Below.refl _ _, rfl⟩
  case round =>
    obtain ⟨k, hk, rfl, hb, hn⟩ := hrel
    have HB := Lib.hid hb
    have HN := Lib.hid hn
    clear hb hn
    by_cases hlt : k < l.length
    · obtain ⟨q, b, o, r, hq, rfl, hr, e0, e1, e2, e3, e4, e5, e6, e7, e8, e9, e10⟩ := HL.out.at_ hlt (Kept.of_below HB.out)
      have HQ := Lib.hid hq
      clear hq hr
      go_wp2
      all_goals first
        | (go_ret
           exact ⟨by rw [idx_at HQ.out (by assumption) HN.out]; rfl, by have hb0 := HB.out; (repeat (first | assumption | exact Below.refl _ _ | refine below_next ?_ (by assumption) | refine below_drewN ?_ _ | refine below_alloc ?_ _))⟩)
        | (go_roundw
           case rel => exact ⟨k + 1, by omega, by simp, by have hb0 := HB.out; (repeat (first | assumption | exact Below.refl _ _ | refine below_next ?_ (by assumption) | refine below_drewN ?_ _ | refine below_alloc ?_ _)), any_step HQ.out (by assumption) HN.out⟩
           case measure => (try simp only [intOf]); omega)
    · go_wp2
      go_ret
      exact ⟨by rw [idx_no (any_end hk hlt HN.out)]; rfl, HB.out⟩
theorem any_at {α : Type} {l : List α} {p : α → Bool} {k : Nat} {q : α} (h : l[k]? = some q) (hp : p q = true) : l.any p = true := List.any_eq_true.2 ⟨q, List.mem_of_getElem? h, hp⟩
set_option maxRecDepth 100000 in
theorem sfind_any (A : Option Addr) (c : Nat) (l : List Ent) (n : List UInt8) (w : World) (hl : Ents w A c l) :
    Calls Tryd.prog 16 #[.slice A l.length c, .string (bs n)] w fun e w' => e = .returned (.tuple #[.int .i64 (max 0 (idxS (nameE n) l)), .bool (l.any (nameE n))]) ∧ Below w.heap.size w w' := by
  have hbd := hl.bd
  have HL := Lib.hid hl
  clear hl
  go_enter Tryd.func16, Tryd.ntmps16
  go_wp2
  go_loopw [10] (fun i wr => ∃ k : Nat, k ≤ l.length ∧ i = .int .i64 k ∧ Below w.heap.size w wr ∧ (l.take k).any (nameE n) = false) (fun i _ => l.length - (intOf i).toNat)
  case atStart => exact ⟨0, Nat.zero_le _, rfl, Below.refl _ _, rfl⟩
  case round =>
    obtain ⟨k, hk, rfl, hb, hn⟩ := hrel
    have HB := Lib.hid hb
    have HN := Lib.hid hn
    clear hb hn
    by_cases hlt : k < l.length
    · obtain ⟨q, b, o, r, hq, rfl, hr, e0, e1, e2, e3, e4, e5, e6, e7, e8, e9, e10⟩ := HL.out.at_ hlt (Kept.of_below HB.out)
      have HQ := Lib.hid hq
      clear hq hr
      go_wp2
      all_goals first
        | (go_ret2
           exact ⟨by rw [idx_at HQ.out (by assumption) HN.out, any_at HQ.out (by assumption), Int.max_eq_right (Int.natCast_nonneg _)]; rfl, by have hb0 := HB.out; (repeat (first | assumption | exact Below.refl _ _ | refine below_next ?_ (by assumption) | refine below_drewN ?_ _ | refine below_alloc ?_ _))⟩)
        | (go_roundw
           case rel => exact ⟨k + 1, by omega, by simp, by have hb0 := HB.out; (repeat (first | assumption | exact Below.refl _ _ | refine below_next ?_ (by assumption) | refine below_drewN ?_ _ | refine below_alloc ?_ _)), any_step HQ.out (by assumption) HN.out⟩
           case measure => (try simp only [intOf]); omega)
    · go_wp2
      go_ret2
      exact ⟨by rw [idx_no (any_end hk hlt HN.out), any_end hk hlt HN.out]; rfl, HB.out⟩
end Go.Proofs.YtefjoigngnnbjaaDoor
