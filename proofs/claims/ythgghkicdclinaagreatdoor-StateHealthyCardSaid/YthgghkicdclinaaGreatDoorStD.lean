/- The contracts of met, of both texts. -/
import Derived.Test.YthgghkicdclinaaGreatDoorStC
namespace Go.Proofs.YthgghkicdclinaaGreatDoor
set_option linter.unusedSimpArgs false
set_option linter.unusedVariables false
open Go.RowKit

set_option maxRecDepth 100000 in
theorem metc_any (p : Pkg) (r : Raw) (a : Atm) (g : Nat) (w : World) (hB : Blk w g 30 #[.string (bs (p).name), .string (bs (p).ver), .slice (r).a1 (p).pre.length (r).c1, .slice (r).a2 (p).dep.length (r).c2, .slice (r).a3 (p).rcm.length (r).c3, .slice (r).a4 (p).con.length (r).c4, .slice (r).a5 (p).brk.length (r).c5, .slice (r).a6 (p).prv.length (r).c6, .bool (p).ess]) (hp : RP w r p) (ha : a.ok) :
    Calls Tryz.prog 24 #[(.agg #[.string (bs (a).name), .int .i64 (a).rel, .string (bs (a).ver)]), .pointer (some ⟨g, 0, none⟩)] w fun e w' => e = .returned (.bool (satS p a)) ∧ Below w.heap.size w w' := by
  obtain ⟨c0, c1, c2, c3, c4, c5, c6, c7, c8⟩ := blk9 hB
  have hg : g < w.heap.size := hB.lt
  have HP := Lib.hid hp
  clear hp hB
  go_enter Tryz.func24, Tryz.ntmps24
  go_wp2_with (go_at_call 25; refine (sat_any p r a _ (HP.out.kept (by (repeat (first | assumption | exact Kept.refl _ | exact Kept.of_below (by assumption) | refine Kept.trans ?_ (Kept.alloc _ _) | refine Kept.trans ?_ (Kept.drewN _ _) | refine Kept.trans ?_ (Kept.of_below (by assumption)))))) ha).mono ?_; rintro e w1 ⟨rfl, hb⟩)
  go_ret
  exact ⟨rfl, by (repeat (first | assumption | exact Below.refl _ _ | refine below_next ?_ (by assumption) | refine below_drewN ?_ _ | refine below_alloc ?_ _))⟩
set_option maxRecDepth 100000 in
theorem idxM_any (p : Pkg) (r : Raw) (A : Option Addr) (c : Nat) (l : List Atm) (g : Nat) (w : World) (hl : Atms w A c l) (hB : Blk w g 30 #[.string (bs (p).name), .string (bs (p).ver), .slice (r).a1 (p).pre.length (r).c1, .slice (r).a2 (p).dep.length (r).c2, .slice (r).a3 (p).rcm.length (r).c3, .slice (r).a4 (p).con.length (r).c4, .slice (r).a5 (p).brk.length (r).c5, .slice (r).a6 (p).prv.length (r).c6, .bool (p).ess]) (hp : RP w r p) :
    Calls Tryz.prog 48 #[.slice A l.length c, .func (.func 24) #[] #[.pointer (some ⟨g, 0, none⟩)]] w fun e w' => e = .returned (.int .i64 (idxS (satS p) l)) ∧ Below w.heap.size w w' := by
  have hbd := hl.bd
  have HL := Lib.hid hl
  have HG := Lib.hid hB
  have HP := Lib.hid hp
  clear hl hB hp
  go_enter Tryz.func48, Tryz.ntmps48
  go_wp2
  go_loopw [8] (fun i wr => ∃ k : Nat, k ≤ l.length ∧ i = .int .i64 k ∧ Below w.heap.size w wr ∧ (l.take k).any (satS p) = false) (fun i _ => l.length - (intOf i).toNat)
  case atStart => exact ⟨0, Nat.zero_le _, rfl, Below.refl _ _, rfl⟩
  case round =>
    obtain ⟨k, hk, rfl, hb, hn⟩ := hrel
    have HB := Lib.hid hb
    have HN := Lib.hid hn
    clear hb hn
    by_cases hlt : k < l.length
    · obtain ⟨q, b, o, hq, rfl, hok, e0, e1, e2⟩ := HL.out.at_ hlt (Kept.of_below HB.out)
      have HPk := Lib.hid (HP.out.kept (Kept.of_below HB.out))
      have HBk := Lib.hid (HG.out.next HB.out)
      have HQ := Lib.hid hq
      clear hq
      go_wp2_with (go_at_call 24; refine (metc_any p r _ _ _ HBk.out HPk.out hok).mono ?_; rintro e w1 ⟨rfl, hb⟩)
      · go_ret
        exact ⟨by rw [idx_at HQ.out (by assumption) HN.out]; rfl, by have hb0 := HB.out; (repeat (first | assumption | exact Below.refl _ _ | refine below_next ?_ (by assumption) | refine below_drewN ?_ _ | refine below_alloc ?_ _))⟩
      · go_roundw
        case rel => exact ⟨k + 1, by omega, by simp, by have hb0 := HB.out; (repeat (first | assumption | exact Below.refl _ _ | refine below_next ?_ (by assumption) | refine below_drewN ?_ _ | refine below_alloc ?_ _)), any_step HQ.out (by assumption) HN.out⟩
        case measure => (try simp only [intOf]); omega
    · go_wp2
      go_ret
      exact ⟨by rw [idx_no (any_end hk hlt HN.out)]; rfl, HB.out⟩
set_option maxRecDepth 100000 in
theorem conM_any (p : Pkg) (r : Raw) (A : Option Addr) (c : Nat) (l : List Atm) (g : Nat) (w : World) (hl : Atms w A c l) (hB : Blk w g 30 #[.string (bs (p).name), .string (bs (p).ver), .slice (r).a1 (p).pre.length (r).c1, .slice (r).a2 (p).dep.length (r).c2, .slice (r).a3 (p).rcm.length (r).c3, .slice (r).a4 (p).con.length (r).c4, .slice (r).a5 (p).brk.length (r).c5, .slice (r).a6 (p).prv.length (r).c6, .bool (p).ess]) (hp : RP w r p) :
    Calls Tryz.prog 23 #[.slice A l.length c, .func (.func 24) #[] #[.pointer (some ⟨g, 0, none⟩)]] w fun e w' => e = .returned (.bool (l.any (satS p))) ∧ Below w.heap.size w w' := by
  have HI := Lib.hid (idx_any (p := satS p) (l := l))
  go_enter Tryz.func23, Tryz.ntmps23
  go_wp2_with (go_at_call 48; refine (idxM_any p r _ _ _ _ _ hl hB hp).mono ?_; rintro e w1 ⟨rfl, hb⟩)
  go_ret
  exact ⟨by rw [← HI.out]; rfl, by (repeat (first | assumption | exact Below.refl _ _ | refine below_next ?_ (by assumption) | refine below_drewN ?_ _ | refine below_alloc ?_ _))⟩
set_option maxRecDepth 100000 in
theorem met_any (A B : Option Addr) (c d : Nat) (cl : List Atm) (l : List Pkg) (w : World) (hc : Atms w A c cl) (hl : Pkgs w B d l) :
    Calls Tryz.prog 11 #[.slice A cl.length c, .slice B l.length d] w fun e w' => e = .returned (.bool (metS cl l)) ∧ Below w.heap.size w w' := by
  have hmf : ∀ (fn : Fn) (first cap : Array Value) (w : World), (Instr.makeFunc fn first cap).run Tryz.prog w = .ok (.func fn first cap) w := fun _ _ _ _ => rfl
  have hbd := hl.bd
  have HL := Lib.hid hl
  have HC := Lib.hid hc
  clear hl hc
  go_enter Tryz.func11, Tryz.ntmps11
  go_wp2
  go_loopw [9] (fun i wr => ∃ k : Nat, k ≤ l.length ∧ i = .int .i64 k ∧ Below w.heap.size w wr ∧ (l.take k).any (fun p => cl.any (satS p)) = false) (fun i _ => l.length - (intOf i).toNat)
  case atStart => exact ⟨0, Nat.zero_le _, rfl, Below.refl _ _, rfl⟩
  case round =>
    obtain ⟨k, hk, rfl, hb, hn⟩ := hrel
    have HB := Lib.hid hb
    have HN := Lib.hid hn
    clear hb hn
    by_cases hlt : k < l.length
    · obtain ⟨q, b, o, r, hq, rfl, hr, e0, e1, e2, e3, e4, e5, e6, e7, e8⟩ := HL.out.at_ hlt (Kept.of_below HB.out)
      have HQ := Lib.hid hq
      have HR := Lib.hid (hr.kept ((Kept.of_below HB.out).trans (Kept.alloc _ (.cells #[.string (bs (q).name), .string (bs (q).ver), .slice (r).a1 (q).pre.length (r).c1, .slice (r).a2 (q).dep.length (r).c2, .slice (r).a3 (q).rcm.length (r).c3, .slice (r).a4 (q).con.length (r).c4, .slice (r).a5 (q).brk.length (r).c5, .slice (r).a6 (q).prv.length (r).c6, .bool (q).ess] 30))))
      have HCk := Lib.hid (HC.out.kept ((Kept.of_below HB.out).trans (Kept.alloc _ (.cells #[.string (bs (q).name), .string (bs (q).ver), .slice (r).a1 (q).pre.length (r).c1, .slice (r).a2 (q).dep.length (r).c2, .slice (r).a3 (q).rcm.length (r).c3, .slice (r).a4 (q).con.length (r).c4, .slice (r).a5 (q).brk.length (r).c5, .slice (r).a6 (q).prv.length (r).c6, .bool (q).ess] 30))))
      clear hq hr
      go_wp2_with (go_at_call 23; refine (conM_any q r _ _ _ _ _ HCk.out (blk_new1 _ _ _) HR.out).mono ?_; rintro e w1 ⟨rfl, hb⟩)
      · go_ret
        exact ⟨by rw [show metS cl l = true from any_yes HQ.out (by assumption)]; rfl, by have hb0 := HB.out; (repeat (first | assumption | exact Below.refl _ _ | refine below_next ?_ (by assumption) | refine below_drewN ?_ _ | refine below_alloc ?_ _))⟩
      · go_roundw
        case rel => exact ⟨k + 1, by omega, by simp, by have hb0 := HB.out; (repeat (first | assumption | exact Below.refl _ _ | refine below_next ?_ (by assumption) | refine below_drewN ?_ _ | refine below_alloc ?_ _)), any_step HQ.out (by assumption) HN.out⟩
        case measure => (try simp only [intOf]); omega
    · go_wp2
      go_ret
      exact ⟨by rw [show metS cl l = false from any_end hk hlt HN.out]; rfl, HB.out⟩
theorem met_swap (cl : List Atm) (l : List Pkg) : (cl.any fun a => l.any fun p => satS p a) = metS cl l := by
  unfold metS
  rw [Bool.eq_iff_iff]
  simp only [List.any_eq_true]
  exact ⟨fun ⟨a, ha, p, hp, h⟩ => ⟨p, hp, a, ha, h⟩, fun ⟨p, hp, a, ha, h⟩ => ⟨a, ha, p, hp, h⟩⟩
end Go.Proofs.YthgghkicdclinaaGreatDoor
