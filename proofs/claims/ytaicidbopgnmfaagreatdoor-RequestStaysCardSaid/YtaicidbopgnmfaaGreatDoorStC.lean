/- The contract of the reference's Satisfies. -/
import Derived.Test.YtaicidbopgnmfaaGreatDoorMx
namespace Go.Proofs.YtaicidbopgnmfaaGreatDoor
set_option linter.unusedSimpArgs false
set_option linter.unusedVariables false
open Go.RowKit

theorem holds_empty (rel : Int) (b : List UInt8) : holdsS rel [] b = false := by
  have h1 : isV [] = false := rfl
  have h2 : verS [] = none := rfl
  simp [holdsS, cmpV, h1, h2]
set_option maxRecDepth 100000 in
set_option maxHeartbeats 400000 in
theorem rsat_any (p : Pkg) (r : Raw) (a : Atm) (w : World) (hp : RP w r p) (ha : a.ok) :
    Calls Tryz.prog 49 #[(.agg #[.string (bs (p).name), .string (bs (p).ver), .slice (r).a1 (p).pre.length (r).c1, .slice (r).a2 (p).dep.length (r).c2, .slice (r).a3 (p).rcm.length (r).c3, .slice (r).a4 (p).con.length (r).c4, .slice (r).a5 (p).brk.length (r).c5, .slice (r).a6 (p).prv.length (r).c6, .bool (p).ess]), (.agg #[.string (bs (a).name), .int .i64 (a).rel, .string (bs (a).ver)])] w fun e w' => e = .returned (.bool (satS p a)) ∧ Below w.heap.size w w' := by
  have hv := hp.prv
  have hbd := hp.prv.bd
  generalize r.a6 = A6 at hv ⊢
  have HV := Lib.hid hv
  clear hp hv
  rcases hH : holdsS a.rel p.ver a.ver
  all_goals
    have HH := Lib.hid hH
    clear hH
    by_cases hN : p.name = a.name
  all_goals
    go_enter Tryz.func49, Tryz.ntmps49
    go_wp2_with (first | (go_at_call 95; refine (rmayAtom_any a ha _).mono ?_; rintro e w1 ⟨rfl, hb⟩; obtain ⟨hc, hf, hz⟩ := bcell hb; have hz1 : w.heap.size < w1.heap.size := (by have := hb.size; simp at this; omega); have kA : Blk w1 (w.heap.size + 1) 72 #[.string (bs (a).name), .int .i64 (a).rel, .string (bs (a).ver)] := (blk_new2 _ _ _ _).next hb; have HB0 : Below w.heap.size w w1 := by (repeat (first | assumption | exact Below.refl _ _ | refine below_next ?_ (by assumption) | refine below_drewN ?_ _ | refine below_alloc ?_ _))) | (go_at_call 96; refine (rHolds_any _ _ _ _).mono ?_; rintro e w1 ⟨rfl, hb⟩; rw [HH.out]; obtain ⟨hc, hf, hz⟩ := bcell hb; have kA := kA.next hb; have HB0 := below_next HB0 hb))
    all_goals first
      | (go_ret
         refine ⟨?_, by (repeat (first | assumption | exact Below.refl _ _ | refine below_next ?_ (by assumption) | refine below_drewN ?_ _ | refine below_alloc ?_ _))⟩
         (go_tidy; simp [satS, HH.out]; try grind)
         done)
      | (go_loopw [27] (fun i wr => ∃ k : Nat, k ≤ p.prv.length ∧ i = .int .i64 k ∧ Below w.heap.size w wr ∧ Blk wr (w.heap.size + 1) 72 #[.string (bs (a).name), .int .i64 (a).rel, .string (bs (a).ver)] ∧ (p.prv.take k).any (meetsP a) = false) (fun i _ => p.prv.length - (intOf i).toNat)
         case atStart => exact ⟨0, Nat.zero_le _, rfl, HB0, kA, rfl⟩
         case round =>
           obtain ⟨k, hk, rfl, hb, hA, hn⟩ := hrel
           have HB := Lib.hid hb
           have HN := Lib.hid hn
           have HA := Lib.hid hA
           obtain ⟨x0, x1, x2⟩ := blk3 hA
           have hsz : w.heap.size + 1 < wr.heap.size := hA.lt
           clear hb hn hA hc hf HB0 kA
           by_cases hlt : k < p.prv.length
           · obtain ⟨q, b, o, hq, rfl, hok, e0, e1⟩ := HV.out.at_ hlt (Kept.of_below HB.out)
             have HQ := Lib.hid hq
             clear hq
             go_wp2_with (go_at_call 96; refine (rHolds_any _ _ _ _).mono ?_; rintro e w1 ⟨rfl, hb⟩)
             all_goals first
               | (go_roundw
                  case rel => exact ⟨k + 1, by omega, by simp, by have hb0 := HB.out; (repeat (first | assumption | exact Below.refl _ _ | refine below_next ?_ (by assumption) | refine below_drewN ?_ _ | refine below_alloc ?_ _)), by (first | exact HA.out | exact (HA.out).alloc _ | exact ((HA.out).alloc _).alloc _ | exact (HA.out).next (by assumption) | exact ((HA.out).alloc _).next (by assumption) | exact (((HA.out).alloc _).alloc _).next (by assumption)), any_step HQ.out (by go_tidy; simp [meetsP]; grind [holds_empty]) HN.out⟩
                  case measure => (try simp only [intOf]); omega)
               | (go_ret
                  refine ⟨?_, by have hb0 := HB.out; (repeat (first | assumption | exact Below.refl _ _ | refine below_next ?_ (by assumption) | refine below_drewN ?_ _ | refine below_alloc ?_ _))⟩
                  have hq := any_yes (p := meetsP a) HQ.out (by go_tidy; simp [meetsP]; grind)
                  go_tidy; simp [satS, hq, HH.out]; try grind)
           · go_wp2
             go_ret
             refine ⟨?_, HB.out⟩
             have hq := any_end hk hlt HN.out
             go_tidy; simp [satS, hq, HH.out]; try grind)
end Go.Proofs.YtaicidbopgnmfaaGreatDoor
