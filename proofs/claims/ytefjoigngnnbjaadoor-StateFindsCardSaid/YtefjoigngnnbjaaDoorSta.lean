/- The contracts of MayAtom, of both texts. The contracts of Satisfies, of both texts. The contract of the reference's Satisfies. The contracts of met, of both texts. The contract of the reference's Met. -/
import Derived.Test.YtefjoigngnnbjaaDoorReqA
import Derived.Test.YtefjoigngnnbjaaDoorVerI
import Derived.Test.YtefjoigngnnbjaaDoorMk
namespace Go.Proofs.YtefjoigngnnbjaaDoor
set_option linter.unusedSimpArgs false
set_option linter.unusedVariables false
open Go.RowKit

def signL (rel : Int) : List UInt8 := if rel = 1 then [60, 60] else if rel = 2 then [60, 61] else if rel = 3 then [61] else if rel = 4 then [62, 61] else if rel = 5 then [62, 62] else []
theorem rSign_any (rel : Int) (w : World) : Calls Tryd.prog 73 #[.int .i64 rel] w fun e w' => e = .returned (.string (bs (signL rel))) ∧ w = w' := by
  go_enter Tryd.func73, Tryd.ntmps73
  go_wp2
  all_goals go_ret
  all_goals refine ⟨?_, rfl⟩
  all_goals first | (simp_all [signL]; done) | (simp_all [signL]; rfl)
theorem isV_none {l : List UInt8} (h : verS l = none) : isV l = false := by simp [isV, h]
theorem isV_some' {l : List UInt8} {a b c : List UInt8} (h : verS l = some (a, b, c)) : isV l = true := by simp [isV, h]
set_option maxRecDepth 100000 in
theorem mayAtom_any (a : Atm) (ha : a.ok) (w : World) :
    Calls Tryd.prog 79 #[(.agg #[.string (bs (a).name), .int .i64 (a).rel, .string (bs (a).ver)])] w fun e w' => e = .returned (.bool (mayA a)) ∧ Below w.heap.size w w' := by
  have hn : a.name.length ≤ 140737488351232 := ha.1
  rcases h : verS a.ver with _ | ⟨x, y, z⟩
  · have HV := Lib.hid (verV_none h)
    have HI := Lib.hid (isV_none h)
    clear h
    go_enter Tryd.func79, Tryd.ntmps79
    go_wp2_with (first | (go_at_call 93; refine (name_any _ (by omega) _).mono ?_; rintro e w1 ⟨rfl, hb⟩; obtain ⟨hc, hf, hz⟩ := bcell hb; try simp at hz) | (go_at_call 74; refine (parse_any _ _).mono ?_; rintro e w2 ⟨rfl, hb2⟩; rw [HV.out]))
    all_goals go_ret
    all_goals refine ⟨?_, by (repeat (first | assumption | exact Below.refl _ _ | refine below_next ?_ (by assumption) | refine below_drewN ?_ _ | refine below_alloc ?_ _))⟩
    all_goals (have HI := HI.out; go_tidy; simp [mayA, HI]; try grind)
  · have HV := Lib.hid (verV_some h)
    have HI := Lib.hid (isV_some' h)
    clear h
    go_enter Tryd.func79, Tryd.ntmps79
    go_wp2_with (first | (go_at_call 93; refine (name_any _ (by omega) _).mono ?_; rintro e w1 ⟨rfl, hb⟩; obtain ⟨hc, hf, hz⟩ := bcell hb; try simp at hz) | (go_at_call 74; refine (parse_any _ _).mono ?_; rintro e w2 ⟨rfl, hb2⟩; rw [HV.out]))
    all_goals go_ret
    all_goals refine ⟨?_, by (repeat (first | assumption | exact Below.refl _ _ | refine below_next ?_ (by assumption) | refine below_drewN ?_ _ | refine below_alloc ?_ _))⟩
    all_goals (have HI := HI.out; go_tidy; simp [mayA, HI]; try grind)
set_option maxRecDepth 100000 in
theorem rmayAtom_any (a : Atm) (ha : a.ok) (w : World) :
    Calls Tryd.prog 46 #[(.agg #[.string (bs (a).name), .int .i64 (a).rel, .string (bs (a).ver)])] w fun e w' => e = .returned (.bool (mayA a)) ∧ Below w.heap.size w w' := by
  have hn : a.name.length ≤ 140737488351232 := ha.1
  go_enter Tryd.func46, Tryd.ntmps46
  go_wp2_with (first | (go_at_call 23; refine (rname_any _ (by omega) _).mono ?_; rintro e w1 ⟨rfl, rfl⟩) | (go_at_call 73; refine (rSign_any _ _).mono ?_; rintro e w' ⟨rfl, rfl⟩) | (go_at_call 24; refine (rIs_any _ _).mono ?_; rintro e w1 ⟨rfl, hb⟩))
  all_goals go_ret
  all_goals refine ⟨?_, by (repeat (first | assumption | exact Below.refl _ _ | refine below_next ?_ (by assumption) | refine below_drewN ?_ _ | refine below_alloc ?_ _))⟩
  all_goals (go_tidy; simp [mayA]; try grind [signL])
end Go.Proofs.YtefjoigngnnbjaaDoor
namespace Go.Proofs.YtefjoigngnnbjaaDoor
set_option linter.unusedSimpArgs false
set_option linter.unusedVariables false
open Go.RowKit

theorem satc_any (a : Atm) (v : Prv) (g : Nat) (w : World) (c0 : w.cell? ⟨g, 0, none⟩ = some (.string (bs a.name))) (c1 : w.cell? ⟨g, 1, none⟩ = some (.int .i64 a.rel)) (c2 : w.cell? ⟨g, 2, none⟩ = some (.string (bs a.ver))) :
    Calls Tryd.prog 82 #[(.agg #[.string (bs (v).name), .string (bs (v).ver)]), .pointer (some ⟨g, 0, none⟩)] w fun e w' => e = .returned (.bool (meetsP a v)) ∧ Below w.heap.size w w' := by
  have hg : g < w.heap.size := block_lt_of_cell c0
  go_enter Tryd.func82, Tryd.ntmps82
  go_wp2_with (go_at_call 80; refine (Holds_any _ _ _ _).mono ?_; rintro e w1 ⟨rfl, hb⟩)
  all_goals go_ret
  all_goals refine ⟨?_, by (repeat (first | assumption | exact Below.refl _ _ | refine below_next ?_ (by assumption) | refine below_drewN ?_ _ | refine below_alloc ?_ _))⟩
  all_goals (go_tidy; simp [meetsP]; try grind)
set_option maxRecDepth 100000 in
theorem idxP_any (a : Atm) (A : Option Addr) (c : Nat) (l : List Prv) (g : Nat) (w : World) (hl : Prvs w A c l) (c0 : w.cell? ⟨g, 0, none⟩ = some (.string (bs a.name))) (c1 : w.cell? ⟨g, 1, none⟩ = some (.int .i64 a.rel)) (c2 : w.cell? ⟨g, 2, none⟩ = some (.string (bs a.ver))) :
    Calls Tryd.prog 94 #[.slice A l.length c, .func (.func 82) #[] #[.pointer (some ⟨g, 0, none⟩)]] w fun e w' => e = .returned (.int .i64 (idxS (meetsP a) l)) ∧ Below w.heap.size w w' := by
  have hbd := hl.bd
  have HL := Lib.hid hl
  have C0 := Lib.hid c0
  have C1 := Lib.hid c1
  have C2 := Lib.hid c2
  clear hl c0 c1 c2
  go_enter Tryd.func94, Tryd.ntmps94
  go_wp2
  go_loopw [8] (fun i wr => ∃ k : Nat, k ≤ l.length ∧ i = .int .i64 k ∧ Below w.heap.size w wr ∧ (l.take k).any (meetsP a) = false) (fun i _ => l.length - (intOf i).toNat)
  case atStart => exact ⟨0, Nat.zero_le _, rfl, Below.refl _ _, rfl⟩
  case round =>
    obtain ⟨k, hk, rfl, hb, hn⟩ := hrel
    have HB := Lib.hid hb
    have HN := Lib.hid hn
    clear hb hn
    by_cases hlt : k < l.length
    · obtain ⟨q, b, o, hq, rfl, hok, e0, e1⟩ := HL.out.at_ hlt (Kept.of_below HB.out)
      have d0 := Kept.of_below HB.out _ _ C0.out
      have d1 := Kept.of_below HB.out _ _ C1.out
      have d2 := Kept.of_below HB.out _ _ C2.out
      have HQ := Lib.hid hq
      clear hq
      go_wp2_with (go_at_call 82; refine (satc_any a _ _ _ (by assumption) (by assumption) (by assumption)).mono ?_; rintro e w1 ⟨rfl, hb⟩)
      · go_ret
        exact ⟨by rw [idx_at HQ.out (by assumption) HN.out]; rfl, by have hb0 := HB.out; (repeat (first | assumption | exact Below.refl _ _ | refine below_next ?_ (by assumption) | refine below_drewN ?_ _ | refine below_alloc ?_ _))⟩
      · go_roundw
        case rel => exact ⟨k + 1, by omega, by simp, by have hb0 := HB.out; (repeat (first | assumption | exact Below.refl _ _ | refine below_next ?_ (by assumption) | refine below_drewN ?_ _ | refine below_alloc ?_ _)), any_step HQ.out (by assumption) HN.out⟩
        case measure => (try simp only [intOf]); omega
    · go_wp2
      go_ret
      exact ⟨by rw [idx_no (any_end hk hlt HN.out)]; rfl, HB.out⟩
set_option maxRecDepth 100000 in
theorem conP_any (a : Atm) (A : Option Addr) (c : Nat) (l : List Prv) (g : Nat) (w : World) (hl : Prvs w A c l) (c0 : w.cell? ⟨g, 0, none⟩ = some (.string (bs a.name))) (c1 : w.cell? ⟨g, 1, none⟩ = some (.int .i64 a.rel)) (c2 : w.cell? ⟨g, 2, none⟩ = some (.string (bs a.ver))) :
    Calls Tryd.prog 81 #[.slice A l.length c, .func (.func 82) #[] #[.pointer (some ⟨g, 0, none⟩)]] w fun e w' => e = .returned (.bool (l.any (meetsP a))) ∧ Below w.heap.size w w' := by
  have HI := Lib.hid (idx_any (p := meetsP a) (l := l))
  go_enter Tryd.func81, Tryd.ntmps81
  go_wp2_with (go_at_call 94; refine (idxP_any a _ _ _ _ _ hl c0 c1 c2).mono ?_; rintro e w1 ⟨rfl, hb⟩)
  go_ret
  exact ⟨by rw [← HI.out]; rfl, by (repeat (first | assumption | exact Below.refl _ _ | refine below_next ?_ (by assumption) | refine below_drewN ?_ _ | refine below_alloc ?_ _))⟩
theorem sat_name {p : Pkg} {a : Atm} (h : mayA a = false) : satS p a = false := by simp [satS, h]
set_option maxRecDepth 100000 in
theorem sat_any (p : Pkg) (r : Raw) (a : Atm) (w : World) (hp : RP w r p) (ha : a.ok) :
    Calls Tryd.prog 52 #[(.agg #[.string (bs (p).name), .string (bs (p).ver), .slice (r).a1 (p).pre.length (r).c1, .slice (r).a2 (p).dep.length (r).c2, .slice (r).a3 (p).rcm.length (r).c3, .slice (r).a4 (p).con.length (r).c4, .slice (r).a5 (p).brk.length (r).c5, .slice (r).a6 (p).prv.length (r).c6, .bool (p).ess]), (.agg #[.string (bs (a).name), .int .i64 (a).rel, .string (bs (a).ver)])] w fun e w' => e = .returned (.bool (satS p a)) ∧ Below w.heap.size w w' := by
  have hmf : ∀ (fn : Fn) (first cap : Array Value) (w : World), (Instr.makeFunc fn first cap).run Tryd.prog w = .ok (.func fn first cap) w := fun _ _ _ _ => rfl
  have HP := Lib.hid hp
  clear hp
  go_enter Tryd.func52, Tryd.ntmps52
  go_wp2_with (first | (go_at_call 79; refine (mayAtom_any a ha _).mono ?_; rintro e w1 ⟨rfl, hb⟩; obtain ⟨hc, hf, hz⟩ := bcell hb; have hz1 : w.heap.size < w1.heap.size := (by have := hb.size; simp at this; omega); have d0 := Kept.of_below hb ⟨w.heap.size + 1, 0, none⟩ (.string (bs a.name)) (by simp); have d1 := Kept.of_below hb ⟨w.heap.size + 1, 1, none⟩ (.int .i64 a.rel) (by simp); have d2 := Kept.of_below hb ⟨w.heap.size + 1, 2, none⟩ (.string (bs a.ver)) (by simp)) | (go_at_call 80; refine (Holds_any _ _ _ _).mono ?_; rintro e w1 ⟨rfl, hb⟩; obtain ⟨hc, hf, hz⟩ := bcell hb; have d0 := Kept.of_below hb _ _ d0; have d1 := Kept.of_below hb _ _ d1; have d2 := Kept.of_below hb _ _ d2) | (go_at_call 81; refine (conP_any a _ _ _ _ _ (HP.out.prv.kept (by (repeat (first | assumption | exact Kept.refl _ | exact Kept.of_below (by assumption) | refine Kept.trans ?_ (Kept.alloc _ _) | refine Kept.trans ?_ (Kept.drewN _ _) | refine Kept.trans ?_ (Kept.of_below (by assumption)))))) (by assumption) (by assumption) (by assumption)).mono ?_; rintro e w1 ⟨rfl, hb⟩))
  all_goals go_ret
  all_goals refine ⟨?_, by (repeat (first | assumption | exact Below.refl _ _ | refine below_next ?_ (by assumption) | refine below_drewN ?_ _ | refine below_alloc ?_ _))⟩
  all_goals (go_tidy; simp [satS]; try grind)
end Go.Proofs.YtefjoigngnnbjaaDoor
namespace Go.Proofs.YtefjoigngnnbjaaDoor
set_option linter.unusedSimpArgs false
set_option linter.unusedVariables false
open Go.RowKit

theorem holds_empty (rel : Int) (b : List UInt8) : holdsS rel [] b = false := by
  have h1 : isV [] = false := rfl
  have h2 : verS [] = none := rfl
  simp [holdsS, cmpV, h1, h2]
end Go.Proofs.YtefjoigngnnbjaaDoor
namespace Go.Proofs.YtefjoigngnnbjaaDoor
set_option linter.unusedSimpArgs false
set_option linter.unusedVariables false
open Go.RowKit

set_option maxRecDepth 100000 in
theorem metc_any (p : Pkg) (r : Raw) (a : Atm) (g : Nat) (w : World) (hB : Blk w g 28 #[.string (bs (p).name), .string (bs (p).ver), .slice (r).a1 (p).pre.length (r).c1, .slice (r).a2 (p).dep.length (r).c2, .slice (r).a3 (p).rcm.length (r).c3, .slice (r).a4 (p).con.length (r).c4, .slice (r).a5 (p).brk.length (r).c5, .slice (r).a6 (p).prv.length (r).c6, .bool (p).ess]) (hp : RP w r p) (ha : a.ok) :
    Calls Tryd.prog 95 #[(.agg #[.string (bs (a).name), .int .i64 (a).rel, .string (bs (a).ver)]), .pointer (some ⟨g, 0, none⟩)] w fun e w' => e = .returned (.bool (satS p a)) ∧ Below w.heap.size w w' := by
  obtain ⟨c0, c1, c2, c3, c4, c5, c6, c7, c8⟩ := blk9 hB
  have hg : g < w.heap.size := hB.lt
  have HP := Lib.hid hp
  clear hp hB
  go_enter Tryd.func95, Tryd.ntmps95
  go_wp2_with (go_at_call 52; refine (sat_any p r a _ (HP.out.kept (by (repeat (first | assumption | exact Kept.refl _ | exact Kept.of_below (by assumption) | refine Kept.trans ?_ (Kept.alloc _ _) | refine Kept.trans ?_ (Kept.drewN _ _) | refine Kept.trans ?_ (Kept.of_below (by assumption)))))) ha).mono ?_; rintro e w1 ⟨rfl, hb⟩)
  go_ret
  exact ⟨rfl, by (repeat (first | assumption | exact Below.refl _ _ | refine below_next ?_ (by assumption) | refine below_drewN ?_ _ | refine below_alloc ?_ _))⟩
set_option maxRecDepth 100000 in
theorem idxM_any (p : Pkg) (r : Raw) (A : Option Addr) (c : Nat) (l : List Atm) (g : Nat) (w : World) (hl : Atms w A c l) (hB : Blk w g 28 #[.string (bs (p).name), .string (bs (p).ver), .slice (r).a1 (p).pre.length (r).c1, .slice (r).a2 (p).dep.length (r).c2, .slice (r).a3 (p).rcm.length (r).c3, .slice (r).a4 (p).con.length (r).c4, .slice (r).a5 (p).brk.length (r).c5, .slice (r).a6 (p).prv.length (r).c6, .bool (p).ess]) (hp : RP w r p) :
    Calls Tryd.prog 78 #[.slice A l.length c, .func (.func 95) #[] #[.pointer (some ⟨g, 0, none⟩)]] w fun e w' => e = .returned (.int .i64 (idxS (satS p) l)) ∧ Below w.heap.size w w' := by
  have hbd := hl.bd
  have HL := Lib.hid hl
  have HG := Lib.hid hB
  have HP := Lib.hid hp
  clear hl hB hp
  go_enter Tryd.func78, Tryd.ntmps78
  go_wp2
  go_loopw [8] (fun i wr => ∃ k : Nat, k ≤ l.length ∧ i = .int .i64 k ∧ Below w.heap.size w wr ∧ (l.take k).any (satS p) = false) (fun i _ => l.length - (intOf i).toNat)
  case atStart => exact ⟨0, Nat.zero_le _, rfl, Below.refl _ _, rfl⟩
  case round =>
    obtain ⟨k, hk, rfl, hb, hn⟩ := hrel
    have HB := Lib.hid hb
    have HN := Lib.hid hn
    clear hb hn
    by_cases hlt : k < l.length
    · obtain ⟨q, b, o, hq, rfl, hok, e0, e1, e2⟩ := HL.out.at_ hlt (Kept.of_below HB.out)
      have HPk := Lib.hid (HP.out.kept (Kept.of_below HB.out))
      have HBk := Lib.hid (HG.out.next HB.out)
      have HQ := Lib.hid hq
      clear hq
      go_wp2_with (go_at_call 95; refine (metc_any p r _ _ _ HBk.out HPk.out hok).mono ?_; rintro e w1 ⟨rfl, hb⟩)
      · go_ret
        exact ⟨by rw [idx_at HQ.out (by assumption) HN.out]; rfl, by have hb0 := HB.out; (repeat (first | assumption | exact Below.refl _ _ | refine below_next ?_ (by assumption) | refine below_drewN ?_ _ | refine below_alloc ?_ _))⟩
      · go_roundw
        case rel => exact ⟨k + 1, by omega, by simp, by have hb0 := HB.out; (repeat (first | assumption | exact Below.refl _ _ | refine below_next ?_ (by assumption) | refine below_drewN ?_ _ | refine below_alloc ?_ _)), any_step HQ.out (by assumption) HN.out⟩
        case measure => (try simp only [intOf]); omega
    · go_wp2
      go_ret
      exact ⟨by rw [idx_no (any_end hk hlt HN.out)]; rfl, HB.out⟩
set_option maxRecDepth 100000 in
theorem conM_any (p : Pkg) (r : Raw) (A : Option Addr) (c : Nat) (l : List Atm) (g : Nat) (w : World) (hl : Atms w A c l) (hB : Blk w g 28 #[.string (bs (p).name), .string (bs (p).ver), .slice (r).a1 (p).pre.length (r).c1, .slice (r).a2 (p).dep.length (r).c2, .slice (r).a3 (p).rcm.length (r).c3, .slice (r).a4 (p).con.length (r).c4, .slice (r).a5 (p).brk.length (r).c5, .slice (r).a6 (p).prv.length (r).c6, .bool (p).ess]) (hp : RP w r p) :
    Calls Tryd.prog 50 #[.slice A l.length c, .func (.func 95) #[] #[.pointer (some ⟨g, 0, none⟩)]] w fun e w' => e = .returned (.bool (l.any (satS p))) ∧ Below w.heap.size w w' := by
  have HI := Lib.hid (idx_any (p := satS p) (l := l))
  go_enter Tryd.func50, Tryd.ntmps50
  go_wp2_with (go_at_call 78; refine (idxM_any p r _ _ _ _ _ hl hB hp).mono ?_; rintro e w1 ⟨rfl, hb⟩)
  go_ret
  exact ⟨by rw [← HI.out]; rfl, by (repeat (first | assumption | exact Below.refl _ _ | refine below_next ?_ (by assumption) | refine below_drewN ?_ _ | refine below_alloc ?_ _))⟩
set_option maxRecDepth 100000 in
theorem met_any (A B : Option Addr) (c d : Nat) (cl : List Atm) (l : List Pkg) (w : World) (hc : Atms w A c cl) (hl : Pkgs w B d l) :
    Calls Tryd.prog 83 #[.slice A cl.length c, .slice B l.length d] w fun e w' => e = .returned (.bool (metS cl l)) ∧ Below w.heap.size w w' := by
  have hmf : ∀ (fn : Fn) (first cap : Array Value) (w : World), (Instr.makeFunc fn first cap).run Tryd.prog w = .ok (.func fn first cap) w := fun _ _ _ _ => rfl
  have hbd := hl.bd
  have HL := Lib.hid hl
  have HC := Lib.hid hc
  clear hl hc
  go_enter Tryd.func83, Tryd.ntmps83
  go_wp2
  go_loopw [9] (fun i wr => ∃ k : Nat, k ≤ l.length ∧ i = .int .i64 k ∧ Below w.heap.size w wr ∧ (l.take k).any (fun p => cl.any (satS p)) = false) (fun i _ => l.length - (intOf i).toNat)
  case atStart => exact ⟨0, Nat.zero_le _, rfl, Below.refl _ _, rfl⟩
  case round =>
    obtain ⟨k, hk, rfl, hb, hn⟩ := hrel
    have HB := Lib.hid hb
    have HN := Lib.hid hn
    clear hb hn
    by_cases hlt : k < l.length
    · obtain ⟨q, b, o, r, hq, rfl, hr, e0, e1, e2, e3, e4, e5, e6, e7, e8⟩ := HL.out.at_ hlt (Kept.of_below HB.out)
      have HQ := Lib.hid hq
      have HR := Lib.hid (hr.kept ((Kept.of_below HB.out).trans (Kept.alloc _ (.cells #[.string (bs (q).name), .string (bs (q).ver), .slice (r).a1 (q).pre.length (r).c1, .slice (r).a2 (q).dep.length (r).c2, .slice (r).a3 (q).rcm.length (r).c3, .slice (r).a4 (q).con.length (r).c4, .slice (r).a5 (q).brk.length (r).c5, .slice (r).a6 (q).prv.length (r).c6, .bool (q).ess] 28))))
      have HCk := Lib.hid (HC.out.kept ((Kept.of_below HB.out).trans (Kept.alloc _ (.cells #[.string (bs (q).name), .string (bs (q).ver), .slice (r).a1 (q).pre.length (r).c1, .slice (r).a2 (q).dep.length (r).c2, .slice (r).a3 (q).rcm.length (r).c3, .slice (r).a4 (q).con.length (r).c4, .slice (r).a5 (q).brk.length (r).c5, .slice (r).a6 (q).prv.length (r).c6, .bool (q).ess] 28))))
      clear hq hr
      go_wp2_with (go_at_call 50; refine (conM_any q r _ _ _ _ _ HCk.out (blk_new1 _ _ _) HR.out).mono ?_; rintro e w1 ⟨rfl, hb⟩)
      · go_ret
        exact ⟨by rw [show metS cl l = true from any_yes HQ.out (by assumption)]; rfl, by have hb0 := HB.out; (repeat (first | assumption | exact Below.refl _ _ | refine below_next ?_ (by assumption) | refine below_drewN ?_ _ | refine below_alloc ?_ _))⟩
      · go_roundw
        case rel => exact ⟨k + 1, by omega, by simp, by have hb0 := HB.out; (repeat (first | assumption | exact Below.refl _ _ | refine below_next ?_ (by assumption) | refine below_drewN ?_ _ | refine below_alloc ?_ _)), any_step HQ.out (by assumption) HN.out⟩
        case measure => (try simp only [intOf]); omega
    · go_wp2
      go_ret
      exact ⟨by rw [show metS cl l = false from any_end hk hlt HN.out]; rfl, HB.out⟩
theorem met_swap (cl : List Atm) (l : List Pkg) : (cl.any fun a => l.any fun p => satS p a) = metS cl l := by
  unfold metS
  rw [Bool.eq_iff_iff]
  simp only [List.any_eq_true]
  exact ⟨fun ⟨a, ha, p, hp, h⟩ => ⟨p, hp, a, ha, h⟩, fun ⟨p, hp, a, ha, h⟩ => ⟨a, ha, p, hp, h⟩⟩
end Go.Proofs.YtefjoigngnnbjaaDoor
namespace Go.Proofs.YtefjoigngnnbjaaDoor
set_option linter.unusedSimpArgs false
set_option linter.unusedVariables false
open Go.RowKit

end Go.Proofs.YtefjoigngnnbjaaDoor
