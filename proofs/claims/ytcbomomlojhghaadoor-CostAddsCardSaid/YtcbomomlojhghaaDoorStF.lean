/- The contracts of bare: the packages of entries. -/
import Derived.Test.YtcbomomlojhghaaDoorStE
import Derived.Test.YtcbomomlojhghaaDoorOw
namespace Go.Proofs.YtcbomomlojhghaaDoor
set_option linter.unusedSimpArgs false
set_option linter.unusedVariables false
open Go.RowKit

/-- a slice of packages is returned -/
def RetPkgs (w : World) (l : List Pkg) (e : Ending) (w' : World) : Prop := ∃ A c, e = .returned (.slice A l.length c) ∧ Pkgs w' A c l ∧ Below w.heap.size w w'
theorem infPkg : (Tryd.prog.info? 28).map (fun i => (i.zero, i.size, i.bytes)) = some (some (.agg #[.string (bs []), .string (bs []), .slice none 0 0, .slice none 0 0, .slice none 0 0, .slice none 0 0, .slice none 0 0, .slice none 0 0, .bool false]), 9, 184) := by kernel_rfl
theorem ret_pkgs {w w' : World} {B k : Nat} {v : Value} {l : List Pkg} (h : Own w' w.heap.size B 9 (RPkg w) v l) (hb : Below w.heap.size w w') (hl : l.length * 184 ≤ 140737488351232) : RetPkgs w l (.returned v) w' := by
  obtain ⟨A, c, rfl, hs⟩ := h.slc hl
  exact ⟨A, c, rfl, Slc.mono hs (Kept.refl _) (fun _ _ h => h.kept (Kept.of_below hb)), hb⟩
set_option maxRecDepth 100000 in
theorem bare2_any (A : Option Addr) (c : Nat) (l : List Ent) (w : World) (hl : Ents w A c l) :
    Calls Tryd.prog 8 #[.slice A l.length c] w (RetPkgs w (l.map Ent.pkg)) := by
  have hbd := hl.bd
  have HL := Lib.hid hl
  clear hl
  go_enter Tryd.func8, Tryd.ntmps8
  go_wp2
  go_loopw [3, 8] (fun v i wr => ∃ k : Nat, k ≤ l.length ∧ i = .int .i64 k ∧ Below w.heap.size w wr ∧ Own wr w.heap.size 28 9 (RPkg w) v ((l.take k).map Ent.pkg)) (fun _ i _ => l.length - (intOf i).toNat)
  case atStart => exact ⟨0, Nat.zero_le _, rfl, Below.refl _ _, Own.nil_ _ _ _ _ _⟩
  case round =>
    obtain ⟨k, hk, rfl, hb, ho⟩ := hrel
    have HB := Lib.hid hb
    have HO := Lib.hid ho
    clear hb ho
    by_cases hlt : k < l.length
    · obtain ⟨q, b, o, r, hq, rfl, hr, e0, e1, e2, e3, e4, e5, e6, e7, e8, e9, e10⟩ := HL.out.at_ hlt (Kept.of_below HB.out)
      have HQ := Lib.hid hq
      have hs : ((l.take k).map Ent.pkg).length = k := by simp; omega
      have HS := Lib.hid hs
      clear hq hs
      go_wp2_with (at_builtin; refine wpList_append_el (by rfl) _ _ 22 (by rfl) w.heap.size 28 _ 9 184 Tryd.underlying22 infPkg rfl (by omega) (RPkg w) _ _ (by rfl) ((HO.out.alloc _).alloc _) q.pkg (encK r q.pkg) (wr.heap.size + 1) 1 (by rfl) (blk_new2 _ _ _ _) ⟨r, rfl, hr⟩ rfl (encK_one _ _) (by rw [HS.out]; omega) (by omega) (by simp; have := HB.out.size; omega) ?_; intro g cap w1 ho1 hg1)
      have HB1 : Below w.heap.size w w1 := ((HO.out.alloc _).alloc _).below (by have hb0 := HB.out; (repeat (first | assumption | exact Below.refl _ _ | refine below_next ?_ (by assumption) | refine below_drewN ?_ _ | refine below_alloc ?_ _))) (by simp; have := HB.out.size; omega) hg1
      go_roundw
      case rel => exact ⟨k + 1, by omega, by simp, HB1, by rw [take_step HQ.out, List.map_append]; rw [HS.out] at ho1; exact ho1⟩
      case measure => (try simp only [intOf]); omega
    · go_wp2
      go_ret
      have ho := HO.out
      rw [take_end hk hlt] at ho
      exact ret_pkgs (k := 0) ho HB.out (by simp; omega)
end Go.Proofs.YtcbomomlojhghaaDoor
