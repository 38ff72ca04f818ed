/- The contracts of Satisfies, of both texts. -/
import Derived.Test.YtcbomomlojhghaaDoorStA
import Derived.Test.YtcbomomlojhghaaDoorFi
namespace Go.Proofs.YtcbomomlojhghaaDoor
set_option linter.unusedSimpArgs false
set_option linter.unusedVariables false
open Go.RowKit

theorem satc_any (a : Atm) (v : Prv) (g : Nat) (w : World) (c0 : w.cell? ⟨g, 0, none⟩ = some (.string (bs a.name))) (c1 : w.cell? ⟨g, 1, none⟩ = some (.int .i64 a.rel)) (c2 : w.cell? ⟨g, 2, none⟩ = some (.string (bs a.ver))) :
    Calls Tryd.prog 84 #[(.agg #[.string (bs (v).name), .string (bs (v).ver)]), .pointer (some ⟨g, 0, none⟩)] w fun e w' => e = .returned (.bool (meetsP a v)) ∧ Below w.heap.size w w' := by
  have hg : g < w.heap.size := block_lt_of_cell c0
  go_enter Tryd.func84, Tryd.ntmps84
  go_wp2_with (go_at_call 82; refine (Holds_any _ _ _ _).mono ?_; rintro e w1 ⟨rfl, hb⟩)
  all_goals go_ret
  all_goals refine ⟨?_, by (repeat (first | assumption | exact Below.refl _ _ | refine below_next ?_ (by assumption) | refine below_drewN ?_ _ | refine below_alloc ?_ _))⟩
  all_goals (go_tidy; simp [meetsP]; try grind)
set_option maxRecDepth 100000 in
theorem idxP_any (a : Atm) (A : Option Addr) (c : Nat) (l : List Prv) (g : Nat) (w : World) (hl : Prvs w A c l) (c0 : w.cell? ⟨g, 0, none⟩ = some (.string (bs a.name))) (c1 : w.cell? ⟨g, 1, none⟩ = some (.int .i64 a.rel)) (c2 : w.cell? ⟨g, 2, none⟩ = some (.string (bs a.ver))) :
    Calls Tryd.prog 96 #[.slice A l.length c, .func (.func 84) #[] #[.pointer (some ⟨g, 0, none⟩)]] w fun e w' => e = .returned (.int .i64 (idxS (meetsP a) l)) ∧ Below w.heap.size w w' := by
  have hbd := hl.bd
  have HL := Lib.hid hl
  have C0 := Lib.hid c0
  have C1 := Lib.hid c1
  have C2 := Lib.hid c2
  clear hl c0 c1 c2
  go_enter Tryd.func96, Tryd.ntmps96
  go_wp2
  go_loopw [8] (fun i wr => ∃ k : Nat, k ≤ l.length ∧ i = .int .i64 k ∧ Below w.heap.size w wr ∧ (l.take k).any (meetsP a) = false) (fun i _ => l.length - (intOf i).toNat)
  case atStart => exact ⟨0, Nat.zero_le _, rfl, Below.refl _ _, rfl⟩
  case round =>
    obtain ⟨k, hk, rfl, hb, hn⟩ := hrel
    have HB := Lib.hid hb
    have HN := Lib.hid hn
    clear hb hn
    by_cases hlt : k < l.length
    · obtain ⟨q, b, o, hq, rfl, hok, e0, e1⟩ := HL.out.at_ hlt (Kept.of_below HB.out)
      have d0 := Kept.of_below HB.out _ _ C0.out
      have d1 := Kept.of_below HB.out _ _ C1.out
      have d2 := Kept.of_below HB.out _ _ C2.out
      have HQ := Lib.hid hq
      clear hq
      go_wp2_with (go_at_call 84; refine (satc_any a _ _ _ (by assumption) (by assumption) (by assumption)).mono ?_; rintro e w1 ⟨rfl, hb⟩)
      · go_ret
        exact ⟨by rw [idx_at HQ.out (by assumption) HN.out]; rfl, by have hb0 := HB.out; (repeat (first | assumption | exact Below.refl _ _ | refine below_next ?_ (by assumption) | refine below_drewN ?_ _ | refine below_alloc ?_ _))⟩
      · go_roundw
        case rel => exact ⟨k + 1, by omega, by simp, by have hb0 := HB.out; (repeat (first | assumption | exact Below.refl _ _ | refine below_next ?_ (by assumption) | refine below_drewN ?_ _ | refine below_alloc ?_ _)), any_step HQ.out (by assumption) HN.out⟩
        case measure => (try simp only [intOf]); omega
    · go_wp2
      go_ret
      exact ⟨by rw [idx_no (any_end hk hlt HN.out)]; rfl, HB.out⟩
set_option maxRecDepth 100000 in
theorem conP_any (a : Atm) (A : Option Addr) (c : Nat) (l : List Prv) (g : Nat) (w : World) (hl : Prvs w A c l) (c0 : w.cell? ⟨g, 0, none⟩ = some (.string (bs a.name))) (c1 : w.cell? ⟨g, 1, none⟩ = some (.int .i64 a.rel)) (c2 : w.cell? ⟨g, 2, none⟩ = some (.string (bs a.ver))) :
    Calls Tryd.prog 83 #[.slice A l.length c, .func (.func 84) #[] #[.pointer (some ⟨g, 0, none⟩)]] w fun e w' => e = .returned (.bool (l.any (meetsP a))) ∧ Below w.heap.size w w' := by
  have HI := Lib.hid (idx_any (p := meetsP a) (l := l))
  go_enter Tryd.func83, Tryd.ntmps83
  go_wp2_with (go_at_call 96; refine (idxP_any a _ _ _ _ _ hl c0 c1 c2).mono ?_; rintro e w1 ⟨rfl, hb⟩)
  go_ret
  exact ⟨by rw [← HI.out]; rfl, by (repeat (first | assumption | exact Below.refl _ _ | refine below_next ?_ (by assumption) | refine below_drewN ?_ _ | refine below_alloc ?_ _))⟩
theorem sat_name {p : Pkg} {a : Atm} (h : mayA a = false) : satS p a = false := by simp [satS, h]
set_option maxRecDepth 100000 in
theorem sat_any (p : Pkg) (r : Raw) (a : Atm) (w : World) (hp : RP w r p) (ha : a.ok) :
    Calls Tryd.prog 60 #[(.agg #[.string (bs (p).name), .string (bs (p).ver), .slice (r).a1 (p).pre.length (r).c1, .slice (r).a2 (p).dep.length (r).c2, .slice (r).a3 (p).rcm.length (r).c3, .slice (r).a4 (p).con.length (r).c4, .slice (r).a5 (p).brk.length (r).c5, .slice (r).a6 (p).prv.length (r).c6, .bool (p).ess]), (.agg #[.string (bs (a).name), .int .i64 (a).rel, .string (bs (a).ver)])] w fun e w' => e = .returned (.bool (satS p a)) ∧ Below w.heap.size w w' := by
  have hmf : ∀ (fn : Fn) (first cap : Array Value) (w : World), (Instr.makeFunc fn first cap).run Tryd.prog w = .ok (.func fn first cap) w := fun _ _ _ _ => rfl
  have HP := Lib.hid hp
  clear hp
  go_enter Tryd.func60, Tryd.ntmps60
  go_wp2_with (first | (go_at_call 81; refine (mayAtom_any a ha _).mono ?_; rintro e w1 ⟨rfl, hb⟩; obtain ⟨hc, hf, hz⟩ := bcell hb; have hz1 : w.heap.size < w1.heap.size := (by have := hb.size; simp at this; omega); have d0 := Kept.of_below hb ⟨w.heap.size + 1, 0, none⟩ (.string (bs a.name)) (by simp); have d1 := Kept.of_below hb ⟨w.heap.size + 1, 1, none⟩ (.int .i64 a.rel) (by simp); have d2 := Kept.of_below hb ⟨w.heap.size + 1, 2, none⟩ (.string (bs a.ver)) (by simp)) | (go_at_call 82; refine (Holds_any _ _ _ _).mono ?_; rintro e w1 ⟨rfl, hb⟩; obtain ⟨hc, hf, hz⟩ := bcell hb; have d0 := Kept.of_below hb _ _ d0; have d1 := Kept.of_below hb _ _ d1; have d2 := Kept.of_below hb _ _ d2) | (go_at_call 83; refine (conP_any a _ _ _ _ _ (HP.out.prv.kept (by (repeat (first | assumption | exact Kept.refl _ | exact Kept.of_below (by assumption) | refine Kept.trans ?_ (Kept.alloc _ _) | refine Kept.trans ?_ (Kept.drewN _ _) | refine Kept.trans ?_ (Kept.of_below (by assumption)))))) (by assumption) (by assumption) (by assumption)).mono ?_; rintro e w1 ⟨rfl, hb⟩))
  all_goals go_ret
  all_goals refine ⟨?_, by (repeat (first | assumption | exact Below.refl _ _ | refine below_next ?_ (by assumption) | refine below_drewN ?_ _ | refine below_alloc ?_ _))⟩
  all_goals (go_tidy; simp [satS]; try grind)
end Go.Proofs.YtcbomomlojhghaaDoor
