/- The contract of the reference's Satisfies. The contracts of met, of both texts. The contract of the reference's Met. -/
import Derived.Test.YtaicidbopgnmfaaGreatDoorMx
namespace Go.Proofs.YtaicidbopgnmfaaGreatDoor
set_option linter.unusedSimpArgs false
set_option linter.unusedVariables false
open Go.RowKit

theorem holds_empty (rel : Int) (b : List UInt8) : holdsS rel [] b = false := by
  have h1 : isV [] = false := rfl
  have h2 : verS [] = none := rfl
  simp [holdsS, cmpV, h1, h2]
set_option maxRecDepth 100000 in
set_option maxHeartbeats 400000 in
theorem rsat_any (p : Pkg) (r : Raw) (a : Atm) (w : World) (hp : RP w r p) (ha : a.ok) :
    Calls Tryz.prog 49 #[(.agg #[.string (bs (p).name), .string (bs (p).ver), .slice (r).a1 (p).pre.length (r).c1, .slice (r).a2 (p).dep.length (r).c2, .slice (r).a3 (p).rcm.length (r).c3, .slice (r).a4 (p).con.length (r).c4, .slice (r).a5 (p).brk.length (r).c5, .slice (r).a6 (p).prv.length (r).c6, .bool (p).ess]), (.agg #[.string (bs (a).name), .int .i64 (a).rel, .string (bs (a).ver)])] w fun e w' => e = .returned (.bool (satS p a)) ∧ Below w.heap.size w w' := by
  have hv := hp.prv
  have hbd := hp.prv.bd
  generalize r.a6 = A6 at hv ⊢
  have HV := Lib.hid hv
  clear hp hv
  rcases hH : holdsS a.rel p.ver a.ver
  all_goals
    have HH := Lib.hid hH
    clear hH
    by_cases hN : p.name = a.name
  all_goals
    go_enter Tryz.func49, Tryz.ntmps49
    go_wp2_with (first | (go_at_call 95; refine (rmayAtom_any a ha _).mono ?_; rintro e w1 ⟨rfl, hb⟩; obtain ⟨hc, hf, hz⟩ := bcell hb; have hz1 : w.heap.size < w1.heap.size := (by have := hb.size; simp at this; omega); have kA : Blk w1 (w.heap.size + 1) 72 #[.string (bs (a).name), .int .i64 (a).rel, .string (bs (a).ver)] := (blk_new2 _ _ _ _).next hb; have HB0 : Below w.heap.size w w1 := by (repeat (first | assumption | exact Below.refl _ _ | refine below_next ?_ (by assumption) | refine below_drewN ?_ _ | refine below_alloc ?_ _))) | (go_at_call 96; refine (rHolds_any _ _ _ _).mono ?_; rintro e w1 ⟨rfl, hb⟩; rw [HH.out]; obtain ⟨hc, hf, hz⟩ := bcell hb; have kA := kA.next hb; have HB0 := below_next HB0 hb))
    all_goals first
      | (go_ret
         refine ⟨?_, by (repeat (first | assumption | exact Below.refl _ _ | refine below_next ?_ (by assumption) | refine below_drewN ?_ _ | refine below_alloc ?_ _))⟩
         (go_tidy; simp [satS, HH.out]; try grind)
         done)
      | (go_loopw [27] (fun i wr => ∃ k : Nat, k ≤ p.prv.length ∧ i = .int .i64 k ∧ Below w.heap.size w wr ∧ Blk wr (w.heap.size + 1) 72 #[.string (bs (a).name), .int .i64 (a).rel, .string (bs (a).ver)] ∧ (p.prv.take k).any (meetsP a) = false) (fun i _ => p.prv.length - (intOf i).toNat)
         case atStart => exact ⟨0, Nat.zero_le _, rfl, HB0, kA, rfl⟩
         case round =>
           obtain ⟨k, hk, rfl, hb, hA, hn⟩ := hrel
           have HB := Lib.hid hb
           have HN := Lib.hid hn
           have HA := Lib.hid hA
           obtain ⟨x0, x1, x2⟩ := blk3 hA
           have hsz : w.heap.size + 1 < wr.heap.size := hA.lt
           clear hb hn hA hc hf HB0 kA
           by_cases hlt : k < p.prv.length
           · obtain ⟨q, b, o, hq, rfl, hok, e0, e1⟩ := HV.out.at_ hlt (Kept.of_below HB.out)
             have HQ := Lib.hid hq
             clear hq
             go_wp2_with (go_at_call 96; refine (rHolds_any _ _ _ _).mono ?_; rintro e w1 ⟨rfl, hb⟩)
             all_goals first
               | (go_roundw
                  case rel => exact ⟨k + 1, by omega, by simp, by have hb0 := HB.out; (repeat (first | assumption | exact Below.refl _ _ | refine below_next ?_ (by assumption) | refine below_drewN ?_ _ | refine below_alloc ?_ _)), by (first | exact HA.out | exact (HA.out).alloc _ | exact ((HA.out).alloc _).alloc _ | exact (HA.out).next (by assumption) | exact ((HA.out).alloc _).next (by assumption) | exact (((HA.out).alloc _).alloc _).next (by assumption)), any_step HQ.out (by go_tidy; simp [meetsP]; grind [holds_empty]) HN.out⟩
                  case measure => (try simp only [intOf]); omega)
               | (go_ret
                  refine ⟨?_, by have hb0 := HB.out; (repeat (first | assumption | exact Below.refl _ _ | refine below_next ?_ (by assumption) | refine below_drewN ?_ _ | refine below_alloc ?_ _))⟩
                  have hq := any_yes (p := meetsP a) HQ.out (by go_tidy; simp [meetsP]; grind)
                  go_tidy; simp [satS, hq, HH.out]; try grind)
           · go_wp2
             go_ret
             refine ⟨?_, HB.out⟩
             have hq := any_end hk hlt HN.out
             go_tidy; simp [satS, hq, HH.out]; try grind)
end Go.Proofs.YtaicidbopgnmfaaGreatDoor
namespace Go.Proofs.YtaicidbopgnmfaaGreatDoor
set_option linter.unusedSimpArgs false
set_option linter.unusedVariables false
open Go.RowKit

set_option maxRecDepth 100000 in
theorem metc_any (p : Pkg) (r : Raw) (a : Atm) (g : Nat) (w : World) (hB : Blk w g 43 #[.string (bs (p).name), .string (bs (p).ver), .slice (r).a1 (p).pre.length (r).c1, .slice (r).a2 (p).dep.length (r).c2, .slice (r).a3 (p).rcm.length (r).c3, .slice (r).a4 (p).con.length (r).c4, .slice (r).a5 (p).brk.length (r).c5, .slice (r).a6 (p).prv.length (r).c6, .bool (p).ess]) (hp : RP w r p) (ha : a.ok) :
    Calls Tryz.prog 181 #[(.agg #[.string (bs (a).name), .int .i64 (a).rel, .string (bs (a).ver)]), .pointer (some ⟨g, 0, none⟩)] w fun e w' => e = .returned (.bool (satS p a)) ∧ Below w.heap.size w w' := by
  obtain ⟨c0, c1, c2, c3, c4, c5, c6, c7, c8⟩ := blk9 hB
  have hg : g < w.heap.size := hB.lt
  have HP := Lib.hid hp
  clear hp hB
  go_enter Tryz.func181, Tryz.ntmps181
  go_wp2_with (go_at_call 151; refine (sat_any p r a _ (HP.out.kept (by (repeat (first | assumption | exact Kept.refl _ | exact Kept.of_below (by assumption) | refine Kept.trans ?_ (Kept.alloc _ _) | refine Kept.trans ?_ (Kept.drewN _ _) | refine Kept.trans ?_ (Kept.of_below (by assumption)))))) ha).mono ?_; rintro e w1 ⟨rfl, hb⟩)
  go_ret
  exact ⟨rfl, by (repeat (first | assumption | exact Below.refl _ _ | refine below_next ?_ (by assumption) | refine below_drewN ?_ _ | refine below_alloc ?_ _))⟩
set_option maxRecDepth 100000 in
theorem idxM_any (p : Pkg) (r : Raw) (A : Option Addr) (c : Nat) (l : List Atm) (g : Nat) (w : World) (hl : Atms w A c l) (hB : Blk w g 43 #[.string (bs (p).name), .string (bs (p).ver), .slice (r).a1 (p).pre.length (r).c1, .slice (r).a2 (p).dep.length (r).c2, .slice (r).a3 (p).rcm.length (r).c3, .slice (r).a4 (p).con.length (r).c4, .slice (r).a5 (p).brk.length (r).c5, .slice (r).a6 (p).prv.length (r).c6, .bool (p).ess]) (hp : RP w r p) :
    Calls Tryz.prog 197 #[.slice A l.length c, .func (.func 181) #[] #[.pointer (some ⟨g, 0, none⟩)]] w fun e w' => e = .returned (.int .i64 (idxS (satS p) l)) ∧ Below w.heap.size w w' := by
  have hbd := hl.bd
  have HL := Lib.hid hl
  have HG := Lib.hid hB
  have HP := Lib.hid hp
  clear hl hB hp
  go_enter Tryz.func197, Tryz.ntmps197
  go_wp2
  go_loopw [8] (fun i wr => ∃ k : Nat, k ≤ l.length ∧ i = .int .i64 k ∧ Below w.heap.size w wr ∧ (l.take k).any (satS p) = false) (fun i _ => l.length - (intOf i).toNat)
  case atStart => exact ⟨0, Nat.zero_le _, rfl, Below.refl _ _, rfl⟩
  case round =>
    obtain ⟨k, hk, rfl, hb, hn⟩ := hrel
    have HB := Lib.hid hb
    have HN := Lib.hid hn
    clear hb hn
    by_cases hlt : k < l.length
    · obtain ⟨q, b, o, hq, rfl, hok, e0, e1, e2⟩ := HL.out.at_ hlt (Kept.of_below HB.out)
      have HPk := Lib.hid (HP.out.kept (Kept.of_below HB.out))
      have HBk := Lib.hid (HG.out.next HB.out)
      have HQ := Lib.hid hq
      clear hq
      go_wp2_with (go_at_call 181; refine (metc_any p r _ _ _ HBk.out HPk.out hok).mono ?_; rintro e w1 ⟨rfl, hb⟩)
      · go_ret
        exact ⟨by rw [idx_at HQ.out (by assumption) HN.out]; rfl, by have hb0 := HB.out; (repeat (first | assumption | exact Below.refl _ _ | refine below_next ?_ (by assumption) | refine below_drewN ?_ _ | refine below_alloc ?_ _))⟩
      · go_roundw
        case rel => exact ⟨k + 1, by omega, by simp, by have hb0 := HB.out; (repeat (first | assumption | exact Below.refl _ _ | refine below_next ?_ (by assumption) | refine below_drewN ?_ _ | refine below_alloc ?_ _)), any_step HQ.out (by assumption) HN.out⟩
        case measure => (try simp only [intOf]); omega
    · go_wp2
      go_ret
      exact ⟨by rw [idx_no (any_end hk hlt HN.out)]; rfl, HB.out⟩
set_option maxRecDepth 100000 in
theorem conM_any (p : Pkg) (r : Raw) (A : Option Addr) (c : Nat) (l : List Atm) (g : Nat) (w : World) (hl : Atms w A c l) (hB : Blk w g 43 #[.string (bs (p).name), .string (bs (p).ver), .slice (r).a1 (p).pre.length (r).c1, .slice (r).a2 (p).dep.length (r).c2, .slice (r).a3 (p).rcm.length (r).c3, .slice (r).a4 (p).con.length (r).c4, .slice (r).a5 (p).brk.length (r).c5, .slice (r).a6 (p).prv.length (r).c6, .bool (p).ess]) (hp : RP w r p) :
    Calls Tryz.prog 177 #[.slice A l.length c, .func (.func 181) #[] #[.pointer (some ⟨g, 0, none⟩)]] w fun e w' => e = .returned (.bool (l.any (satS p))) ∧ Below w.heap.size w w' := by
  have HI := Lib.hid (idx_any (p := satS p) (l := l))
  go_enter Tryz.func177, Tryz.ntmps177
  go_wp2_with (go_at_call 197; refine (idxM_any p r _ _ _ _ _ hl hB hp).mono ?_; rintro e w1 ⟨rfl, hb⟩)
  go_ret
  exact ⟨by rw [← HI.out]; rfl, by (repeat (first | assumption | exact Below.refl _ _ | refine below_next ?_ (by assumption) | refine below_drewN ?_ _ | refine below_alloc ?_ _))⟩
set_option maxRecDepth 100000 in
theorem met_any (A B : Option Addr) (c d : Nat) (cl : List Atm) (l : List Pkg) (w : World) (hc : Atms w A c cl) (hl : Pkgs w B d l) :
    Calls Tryz.prog 150 #[.slice A cl.length c, .slice B l.length d] w fun e w' => e = .returned (.bool (metS cl l)) ∧ Below w.heap.size w w' := by
  have hmf : ∀ (fn : Fn) (first cap : Array Value) (w : World), (Instr.makeFunc fn first cap).run Tryz.prog w = .ok (.func fn first cap) w := fun _ _ _ _ => rfl
  have hbd := hl.bd
  have HL := Lib.hid hl
  have HC := Lib.hid hc
  clear hl hc
  go_enter Tryz.func150, Tryz.ntmps150
  go_wp2
  go_loopw [9] (fun i wr => ∃ k : Nat, k ≤ l.length ∧ i = .int .i64 k ∧ Below w.heap.size w wr ∧ (l.take k).any (fun p => cl.any (satS p)) = false) (fun i _ => l.length - (intOf i).toNat)
  case atStart => exact ⟨0, Nat.zero_le _, rfl, Below.refl _ _, rfl⟩
  case round =>
    obtain ⟨k, hk, rfl, hb, hn⟩ := hrel
    have HB := Lib.hid hb
    have HN := Lib.hid hn
    clear hb hn
    by_cases hlt : k < l.length
    · obtain ⟨q, b, o, r, hq, rfl, hr, e0, e1, e2, e3, e4, e5, e6, e7, e8⟩ := HL.out.at_ hlt (Kept.of_below HB.out)
      have HQ := Lib.hid hq
      have HR := Lib.hid (hr.kept ((Kept.of_below HB.out).trans (Kept.alloc _ (.cells #[.string (bs (q).name), .string (bs (q).ver), .slice (r).a1 (q).pre.length (r).c1, .slice (r).a2 (q).dep.length (r).c2, .slice (r).a3 (q).rcm.length (r).c3, .slice (r).a4 (q).con.length (r).c4, .slice (r).a5 (q).brk.length (r).c5, .slice (r).a6 (q).prv.length (r).c6, .bool (q).ess] 43))))
      have HCk := Lib.hid (HC.out.kept ((Kept.of_below HB.out).trans (Kept.alloc _ (.cells #[.string (bs (q).name), .string (bs (q).ver), .slice (r).a1 (q).pre.length (r).c1, .slice (r).a2 (q).dep.length (r).c2, .slice (r).a3 (q).rcm.length (r).c3, .slice (r).a4 (q).con.length (r).c4, .slice (r).a5 (q).brk.length (r).c5, .slice (r).a6 (q).prv.length (r).c6, .bool (q).ess] 43))))
      clear hq hr
      go_wp2_with (go_at_call 177; refine (conM_any q r _ _ _ _ _ HCk.out (blk_new1 _ _ _) HR.out).mono ?_; rintro e w1 ⟨rfl, hb⟩)
      · go_ret
        exact ⟨by rw [show metS cl l = true from any_yes HQ.out (by assumption)]; rfl, by have hb0 := HB.out; (repeat (first | assumption | exact Below.refl _ _ | refine below_next ?_ (by assumption) | refine below_drewN ?_ _ | refine below_alloc ?_ _))⟩
      · go_roundw
        case rel => exact ⟨k + 1, by omega, by simp, by have hb0 := HB.out; (repeat (first | assumption | exact Below.refl _ _ | refine below_next ?_ (by assumption) | refine below_drewN ?_ _ | refine below_alloc ?_ _)), any_step HQ.out (by assumption) HN.out⟩
        case measure => (try simp only [intOf]); omega
    · go_wp2
      go_ret
      exact ⟨by rw [show metS cl l = false from any_end hk hlt HN.out]; rfl, HB.out⟩
theorem met_swap (cl : List Atm) (l : List Pkg) : (cl.any fun a => l.any fun p => satS p a) = metS cl l := by
  unfold metS
  rw [Bool.eq_iff_iff]
  simp only [List.any_eq_true]
  exact ⟨fun ⟨a, ha, p, hp, h⟩ => ⟨p, hp, a, ha, h⟩, fun ⟨p, hp, a, ha, h⟩ => ⟨a, ha, p, hp, h⟩⟩
end Go.Proofs.YtaicidbopgnmfaaGreatDoor
namespace Go.Proofs.YtaicidbopgnmfaaGreatDoor
set_option linter.unusedSimpArgs false
set_option linter.unusedVariables false
open Go.RowKit

set_option maxRecDepth 100000 in
set_option maxHeartbeats 400000 in
theorem rmet_any (A B : Option Addr) (c d : Nat) (cl : List Atm) (l : List Pkg) (w : World) (hc : Atms w A c cl) (hl : Pkgs w B d l) :
    Calls Tryz.prog 62 #[.slice A cl.length c, .slice B l.length d] w fun e w' => e = .returned (.bool (metS cl l)) ∧ Below w.heap.size w w' := by
  rw [← met_swap]
  have hbd := hl.bd
  have hbd2 := hc.bd
  have HL := Lib.hid hl
  have HC := Lib.hid hc
  clear hl hc
  go_enter Tryz.func62, Tryz.ntmps62
  go_wp2
  go_loopw [11] (fun i wr => ∃ k : Nat, k ≤ cl.length ∧ i = .int .i64 k ∧ Below w.heap.size w wr ∧ (cl.take k).any (fun a => l.any fun p => satS p a) = false) (fun i _ => cl.length - (intOf i).toNat)
  case atStart => exact ⟨0, Nat.zero_le _, rfl, Below.refl _ _, rfl⟩
  case round =>
    obtain ⟨k, hk, rfl, hb, hn⟩ := hrel
    obtain ⟨wo, rfl⟩ : ∃ wo : World, wo = wr := ⟨_, rfl⟩
    have HB := Lib.hid hb
    have HN := Lib.hid hn
    clear hb hn
    by_cases hlt : k < cl.length
    · obtain ⟨q, b, o, hq, rfl, hok, e0, e1, e2⟩ := HC.out.at_ hlt (Kept.of_below HB.out)
      have HQ := Lib.hid hq
      clear hq
      go_wp2
      go_loopw [17] (fun i wr => ∃ j : Nat, j ≤ l.length ∧ i = .int .i64 j ∧ Below wo.heap.size wo wr ∧ Blk wr wo.heap.size 72 #[.string (bs (q).name), .int .i64 (q).rel, .string (bs (q).ver)] ∧ (l.take j).any (fun p => satS p q) = false) (fun i _ => l.length - (intOf i).toNat)
      case atStart => exact ⟨0, Nat.zero_le _, rfl, (Below.refl _ _).alloc (Nat.le_refl _) _, blk_new1 _ _ _, rfl⟩
      case round =>
        obtain ⟨j, hj, rfl, hb, hB, hn⟩ := hrel
        have HB2 := Lib.hid hb
        have HN2 := Lib.hid hn
        have HG := Lib.hid hB
        obtain ⟨x0, x1, x2⟩ := blk3 hB
        have hsz : wo.heap.size < wr.heap.size := hB.lt
        clear hb hn hB e0 e1 e2
        by_cases hlt2 : j < l.length
        · obtain ⟨p, b', o', r, hp, rfl, hr, e0, e1, e2, e3, e4, e5, e6, e7, e8⟩ := HL.out.at_ hlt2 ((Kept.of_below HB.out).trans (Kept.of_below HB2.out))
          have HP := Lib.hid hp
          have HR := Lib.hid (hr.kept (((Kept.of_below HB.out).trans (Kept.of_below HB2.out)).trans (Kept.alloc _ (.cells #[.string (bs (p).name), .string (bs (p).ver), .slice (r).a1 (p).pre.length (r).c1, .slice (r).a2 (p).dep.length (r).c2, .slice (r).a3 (p).rcm.length (r).c3, .slice (r).a4 (p).con.length (r).c4, .slice (r).a5 (p).brk.length (r).c5, .slice (r).a6 (p).prv.length (r).c6, .bool (p).ess] 43))))
          clear hp hr
          go_wp2_with (go_at_call 49; refine (rsat_any p r q _ HR.out hok).mono ?_; rintro e w1 ⟨rfl, hb⟩)
          · go_ret
            refine ⟨?_, by have hb0 := below_next HB.out HB2.out; (repeat (first | assumption | exact Below.refl _ _ | refine below_next ?_ (by assumption) | refine below_drewN ?_ _ | refine below_alloc ?_ _))⟩
            rw [show (cl.any fun a => l.any fun p => satS p a) = true from any_yes HQ.out (any_yes HP.out (by assumption))]; rfl
          · go_roundw
            case rel => exact ⟨j + 1, by omega, by simp, by have hb0 := HB2.out; (repeat (first | assumption | exact Below.refl _ _ | refine below_next ?_ (by assumption) | refine below_drewN ?_ _ | refine below_alloc ?_ _)), by (first | exact HG.out | exact (HG.out).alloc _ | exact ((HG.out).alloc _).alloc _ | exact (HG.out).next (by assumption) | exact ((HG.out).alloc _).next (by assumption) | exact (((HG.out).alloc _).alloc _).next (by assumption)), any_step HP.out (by assumption) HN2.out⟩
            case measure => (try simp only [intOf]); omega
        · go_wp2
          go_roundw
          case rel => exact ⟨k + 1, by omega, by simp, below_next HB.out HB2.out, any_step HQ.out (any_end hj hlt2 HN2.out) HN.out⟩
          case measure => (try simp only [intOf]); omega
    · go_wp2
      go_ret
      exact ⟨by rw [any_end hk hlt HN.out]; rfl, HB.out⟩
end Go.Proofs.YtaicidbopgnmfaaGreatDoor
