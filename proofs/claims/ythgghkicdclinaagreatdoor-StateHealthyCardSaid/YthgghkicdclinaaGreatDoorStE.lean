/- The contract of the reference's Met. -/
import Derived.Test.YthgghkicdclinaaGreatDoorStD
namespace Go.Proofs.YthgghkicdclinaaGreatDoor
set_option linter.unusedSimpArgs false
set_option linter.unusedVariables false
open Go.RowKit

set_option maxRecDepth 100000 in
set_option maxHeartbeats 400000 in
theorem rmet_any (A B : Option Addr) (c d : Nat) (cl : List Atm) (l : List Pkg) (w : World) (hc : Atms w A c cl) (hl : Pkgs w B d l) :
    Calls Tryz.prog 14 #[.slice A cl.length c, .slice B l.length d] w fun e w' => e = .returned (.bool (metS cl l)) ∧ Below w.heap.size w w' := by
  rw [← met_swap]
  have hbd := hl.bd
  have hbd2 := hc.bd
  have HL := Lib.hid hl
  have HC := Lib.hid hc
  clear hl hc
  go_enter Tryz.func14, Tryz.ntmps14
  go_wp2
  go_loopw [11] (fun i wr => ∃ k : Nat, k ≤ cl.length ∧ i = .int .i64 k ∧ Below w.heap.size w wr ∧ (cl.take k).any (fun a => l.any fun p => satS p a) = false) (fun i _ => cl.length - (intOf i).toNat)
  case atStart => exact ⟨0, Nat.zero_le _, rfl, Below.refl _ _, rfl⟩
  case round =>
    obtain ⟨k, hk, rfl, hb, hn⟩ := hrel
    obtain ⟨wo, rfl⟩ : ∃ wo : World, wo = wr := ⟨_, rfl⟩
    have HB := Lib.hid hb
    have HN := Lib.hid hn
    clear hb hn
    by_cases hlt : k < cl.length
    · obtain ⟨q, b, o, hq, rfl, hok, e0, e1, e2⟩ := HC.out.at_ hlt (Kept.of_below HB.out)
      have HQ := Lib.hid hq
      clear hq
      go_wp2
      go_loopw [17] (fun i wr => ∃ j : Nat, j ≤ l.length ∧ i = .int .i64 j ∧ Below wo.heap.size wo wr ∧ Blk wr wo.heap.size 40 #[.string (bs (q).name), .int .i64 (q).rel, .string (bs (q).ver)] ∧ (l.take j).any (fun p => satS p q) = false) (fun i _ => l.length - (intOf i).toNat)
      case atStart => exact ⟨0, Nat.zero_le _, rfl, (Below.refl _ _).alloc (Nat.le_refl _) _, blk_new1 _ _ _, rfl⟩
      case round =>
        obtain ⟨j, hj, rfl, hb, hB, hn⟩ := hrel
        have HB2 := Lib.hid hb
        have HN2 := Lib.hid hn
        have HG := Lib.hid hB
        obtain ⟨x0, x1, x2⟩ := blk3 hB
        have hsz : wo.heap.size < wr.heap.size := hB.lt
        clear hb hn hB e0 e1 e2
        by_cases hlt2 : j < l.length
        · obtain ⟨p, b', o', r, hp, rfl, hr, e0, e1, e2, e3, e4, e5, e6, e7, e8⟩ := HL.out.at_ hlt2 ((Kept.of_below HB.out).trans (Kept.of_below HB2.out))
          have HP := Lib.hid hp
          have HR := Lib.hid (hr.kept (((Kept.of_below HB.out).trans (Kept.of_below HB2.out)).trans (Kept.alloc _ (.cells #[.string (bs (p).name), .string (bs (p).ver), .slice (r).a1 (p).pre.length (r).c1, .slice (r).a2 (p).dep.length (r).c2, .slice (r).a3 (p).rcm.length (r).c3, .slice (r).a4 (p).con.length (r).c4, .slice (r).a5 (p).brk.length (r).c5, .slice (r).a6 (p).prv.length (r).c6, .bool (p).ess] 30))))
          clear hp hr
          go_wp2_with (go_at_call 34; refine (rsat_any p r q _ HR.out hok).mono ?_; rintro e w1 ⟨rfl, hb⟩)
          · go_ret
            refine ⟨?_, by have hb0 := below_next HB.out HB2.out; (repeat (first | assumption | exact Below.refl _ _ | refine below_next ?_ (by assumption) | refine below_drewN ?_ _ | refine below_alloc ?_ _))⟩
            rw [show (cl.any fun a => l.any fun p => satS p a) = true from any_yes HQ.out (any_yes HP.out (by assumption))]; rfl
          · go_roundw
            case rel => exact ⟨j + 1, by omega, by simp, by have hb0 := HB2.out; (repeat (first | assumption | exact Below.refl _ _ | refine below_next ?_ (by assumption) | refine below_drewN ?_ _ | refine below_alloc ?_ _)), by (first | exact HG.out | exact (HG.out).alloc _ | exact ((HG.out).alloc _).alloc _ | exact (HG.out).next (by assumption) | exact ((HG.out).alloc _).next (by assumption) | exact (((HG.out).alloc _).alloc _).next (by assumption)), any_step HP.out (by assumption) HN2.out⟩
            case measure => (try simp only [intOf]); omega
        · go_wp2
          go_roundw
          case rel => exact ⟨k + 1, by omega, by simp, below_next HB.out HB2.out, any_step HQ.out (any_end hj hlt2 HN2.out) HN.out⟩
          case measure => (try simp only [intOf]); omega
    · go_wp2
      go_ret
      exact ⟨by rw [any_end hk hlt HN.out]; rfl, HB.out⟩
end Go.Proofs.YthgghkicdclinaaGreatDoor
