/- The contracts of the reference's forbids and Clash. The contracts of met, of both texts. The contract of the reference's Met. The contract of the reference's Healthy. -/
import Derived.Test.YtflmocamfedbdaaGreatDoorHeP
import Derived.Test.YtflmocamfedbdaaGreatDoorStC
import Derived.Test.YtflmocamfedbdaaGreatDoorMaE
namespace Go.Proofs.YtflmocamfedbdaaGreatDoor
set_option linter.unusedSimpArgs false
set_option linter.unusedVariables false
open Go.RowKit

theorem agn_two (p q : Pkg) : agnS p q = [p.con, p.brk].any fun X => X.any (satS q) := by simp [agnS]
set_option maxRecDepth 100000 in
set_option maxHeartbeats 400000 in
theorem rforb_any (p q : Pkg) (r s : Raw) (w : World) (hp : RP w r p) (hq : RP w s q) :
    Calls Tryz.prog 59 #[(.agg #[.string (bs (p).name), .string (bs (p).ver), .slice (r).a1 (p).pre.length (r).c1, .slice (r).a2 (p).dep.length (r).c2, .slice (r).a3 (p).rcm.length (r).c3, .slice (r).a4 (p).con.length (r).c4, .slice (r).a5 (p).brk.length (r).c5, .slice (r).a6 (p).prv.length (r).c6, .bool (p).ess]), (.agg #[.string (bs (q).name), .string (bs (q).ver), .slice (s).a1 (q).pre.length (s).c1, .slice (s).a2 (q).dep.length (s).c2, .slice (s).a3 (q).rcm.length (s).c3, .slice (s).a4 (q).con.length (s).c4, .slice (s).a5 (q).brk.length (s).c5, .slice (s).a6 (q).prv.length (s).c6, .bool (q).ess])] w fun e w' => e = .returned (.bool (agnS p q)) ∧ Below w.heap.size w w' := by
  have HAG := Lib.hid (agn_two p q)
  rcases r with ⟨a1, a2, a3, a4, a5, a6, c1, c2, c3, c4, c5, c6⟩
  dsimp only
  have h1 : Atms w a4 c4 p.con := hp.con
  have h2 : Atms w a5 c5 p.brk := hp.brk
  have hS : ∀ k : Nat, k < 2 → ∃ (X : List Atm) (A' : Option Addr) (c' : Nat), [p.con, p.brk][k]? = some X ∧ Atms w A' c' X ∧ ∀ W, (Instr.index 126 (.agg #[.slice a4 p.con.length c4, .slice a5 p.brk.length c5]) (.int .i64 k)).run Tryz.prog W = .ok (.slice A' X.length c') W := by
    intro k hk
    obtain rfl | rfl : k = 0 ∨ k = 1 := by omega
    · exact ⟨_, a4, c4, rfl, h1, fun _ => by kernel_rfl⟩
    · exact ⟨_, a5, c5, rfl, h2, fun _ => by kernel_rfl⟩
  have HQ := Lib.hid hq
  have HLn := Lib.hid (show [p.con, p.brk].length = 2 from rfl)
  have HSx := Lib.hid hS
  clear hp hq h1 h2 hS
  go_enter Tryz.func59, Tryz.ntmps59
  have kQ := blk_new2 w (.cells #[.string (bs p.name), .string (bs p.ver), .slice a1 p.pre.length c1, .slice a2 p.dep.length c2, .slice a3 p.rcm.length c3, .slice a4 p.con.length c4, .slice a5 p.brk.length c5, .slice a6 p.prv.length c6, .bool p.ess] 26) 26 #[.string (bs (q).name), .string (bs (q).ver), .slice (s).a1 (q).pre.length (s).c1, .slice (s).a2 (q).dep.length (s).c2, .slice (s).a3 (q).rcm.length (s).c3, .slice (s).a4 (q).con.length (s).c4, .slice (s).a5 (q).brk.length (s).c5, .slice (s).a6 (q).prv.length (s).c6, .bool (q).ess]
  have HKQ := Lib.hid kQ
  clear kQ
  go_wp2
  generalize [p.con, p.brk] = L at HSx HLn HAG
  go_loopw [14] (fun i wr => ∃ k : Nat, k ≤ 2 ∧ i = .int .i64 k ∧ Below w.heap.size w wr ∧ Blk wr (w.heap.size + 1) 26 #[.string (bs (q).name), .string (bs (q).ver), .slice (s).a1 (q).pre.length (s).c1, .slice (s).a2 (q).dep.length (s).c2, .slice (s).a3 (q).rcm.length (s).c3, .slice (s).a4 (q).con.length (s).c4, .slice (s).a5 (q).brk.length (s).c5, .slice (s).a6 (q).prv.length (s).c6, .bool (q).ess] ∧ (L.take k).any (fun X => X.any (satS q)) = false) (fun i _ => 2 - (intOf i).toNat)
  case atStart => exact ⟨0, Nat.zero_le _, rfl, below_alloc (below_alloc (Below.refl _ _) _) _, HKQ.out, rfl⟩
  case round =>
    clear HKQ
    obtain ⟨k, hk, rfl, hb, hB, hn⟩ := hrel
    have HB := Lib.hid hb
    have HG := Lib.hid hB
    have HN := Lib.hid hn
    clear hb hB hn
    by_cases hlt : k < 2
    · obtain ⟨X, A', c', hX, hA, hix⟩ := HSx.out k hlt
      have HX := Lib.hid hX
      have HA := Lib.hid hA
      have hbdX := hA.bd
      have hi0 : (0 : Int) ≤ (k : Int) := Int.natCast_nonneg _
      have hi1 : (k : Int) < 2 := by omega
      clear hX hA
      go_wp2
      go_loopw [19] (fun i wr => ∃ j : Nat, j ≤ X.length ∧ i = .int .i64 j ∧ Below w.heap.size w wr ∧ Blk wr (w.heap.size + 1) 26 #[.string (bs (q).name), .string (bs (q).ver), .slice (s).a1 (q).pre.length (s).c1, .slice (s).a2 (q).dep.length (s).c2, .slice (s).a3 (q).rcm.length (s).c3, .slice (s).a4 (q).con.length (s).c4, .slice (s).a5 (q).brk.length (s).c5, .slice (s).a6 (q).prv.length (s).c6, .bool (q).ess] ∧ (X.take j).any (satS q) = false) (fun i _ => X.length - (intOf i).toNat)
      case atStart => exact ⟨0, Nat.zero_le _, rfl, HB.out, HG.out, rfl⟩
      case round =>
        clear HB HG
        obtain ⟨j, hj, rfl, hb, hB, hn⟩ := hrel
        have HB := Lib.hid hb
        have HG := Lib.hid hB
        have HN2 := Lib.hid hn
        have hsz : w.heap.size + 1 < wr.heap.size := hB.lt
        obtain ⟨g0, g1, g2, g3, g4, g5, g6, g7, g8⟩ := blk9 hB
        clear hb hB hn
        by_cases hlt2 : j < X.length
        · obtain ⟨x, b, o, hx, rfl, hok, e0, e1, e2⟩ := HA.out.at_ hlt2 (Kept.of_below HB.out)
          have HXx := Lib.hid hx
          clear hx
          rcases hst : satS q x
          · have HST := Lib.hid hst
            clear hst
            go_wp2_with fail
            refine (rsat_any q s x _ (HQ.out.kept ((Kept.of_below HB.out).trans (Kept.alloc _ _))) hok).mono ?_
            rintro e w1 ⟨rfl, hb1⟩
            rw [HST.out]
            clear e0 e1 e2 g0 g1 g2 g3 g4 g5 g6 g7 g8
            go_wp2
            go_roundw
            case rel => exact ⟨j + 1, by omega, by simp, below_next (below_alloc HB.out _) hb1, Blk.next (Blk.alloc HG.out _) hb1, any_step HXx.out HST.out HN2.out⟩
            case measure => (try simp only [intOf]); omega
          · have HST := Lib.hid hst
            clear hst
            go_wp2_with fail
            refine (rsat_any q s x _ (HQ.out.kept ((Kept.of_below HB.out).trans (Kept.alloc _ _))) hok).mono ?_
            rintro e w1 ⟨rfl, hb1⟩
            rw [HST.out]
            clear e0 e1 e2 g0 g1 g2 g3 g4 g5 g6 g7 g8
            go_wp2
            go_ret
            refine ⟨?_, below_next (below_alloc HB.out _) hb1⟩
            rw [HAG.out, any_yes HX.out (any_yes HXx.out HST.out)]; rfl
        · clear g0 g1 g2 g3 g4 g5 g6 g7 g8
          go_wp2
          go_roundw
          case rel => exact ⟨k + 1, by omega, by simp, HB.out, HG.out, any_step HX.out (any_end hj hlt2 HN2.out) HN.out⟩
          case measure => (try simp only [intOf]); omega
    · go_wp2
      go_ret
      have hn := HN.out
      rw [List.take_of_length_le (by rw [HLn.out]; omega)] at hn
      exact ⟨by rw [HAG.out, hn]; rfl, HB.out⟩
set_option maxRecDepth 100000 in
set_option maxHeartbeats 400000 in
theorem rclash_any (p q : Pkg) (r s : Raw) (w : World) (hp : RP w r p) (hq : RP w s q) :
    Calls Tryz.prog 19 #[(.agg #[.string (bs (p).name), .string (bs (p).ver), .slice (r).a1 (p).pre.length (r).c1, .slice (r).a2 (p).dep.length (r).c2, .slice (r).a3 (p).rcm.length (r).c3, .slice (r).a4 (p).con.length (r).c4, .slice (r).a5 (p).brk.length (r).c5, .slice (r).a6 (p).prv.length (r).c6, .bool (p).ess]), (.agg #[.string (bs (q).name), .string (bs (q).ver), .slice (s).a1 (q).pre.length (s).c1, .slice (s).a2 (q).dep.length (s).c2, .slice (s).a3 (q).rcm.length (s).c3, .slice (s).a4 (q).con.length (s).c4, .slice (s).a5 (q).brk.length (s).c5, .slice (s).a6 (q).prv.length (s).c6, .bool (q).ess])] w fun e w' => e = .returned (.bool (clhS p q)) ∧ Below w.heap.size w w' := by
  have HP := Lib.hid hp
  have HQ := Lib.hid hq
  clear hp hq
  by_cases hn : p.name = q.name
  · have HR := Lib.hid (show clhS p q = false by simp [clhS, hn])
    rcases p with ⟨n1, p1, p2, p3, p4, p5, p6, p7, p8⟩
    dsimp only at hn ⊢
    subst hn
    go_enter Tryz.func19, Tryz.ntmps19
    go_wp2
    go_ret
    exact ⟨by rw [HR.out]; rfl, by (repeat (first | assumption | exact Below.refl _ _ | refine below_next ?_ (by assumption) | refine below_drewN ?_ _ | refine below_alloc ?_ _))⟩
  · rcases h1 : agnS p q
    · have H1 := Lib.hid h1
      have HR := Lib.hid (show clhS p q = agnS q p by simp [clhS, hn, h1])
      clear h1
      generalize hG : agnS q p = G at HR
      have HG := Lib.hid hG
      clear hG
      go_enter Tryz.func19, Tryz.ntmps19
      go_wp2_with fail
      have kP := Blk.alloc (blk_new1 w 26 #[.string (bs (p).name), .string (bs (p).ver), .slice (r).a1 (p).pre.length (r).c1, .slice (r).a2 (p).dep.length (r).c2, .slice (r).a3 (p).rcm.length (r).c3, .slice (r).a4 (p).con.length (r).c4, .slice (r).a5 (p).brk.length (r).c5, .slice (r).a6 (p).prv.length (r).c6, .bool (p).ess]) (.cells #[.string (bs (q).name), .string (bs (q).ver), .slice (s).a1 (q).pre.length (s).c1, .slice (s).a2 (q).dep.length (s).c2, .slice (s).a3 (q).rcm.length (s).c3, .slice (s).a4 (q).con.length (s).c4, .slice (s).a5 (q).brk.length (s).c5, .slice (s).a6 (q).prv.length (s).c6, .bool (q).ess] 26)
      have kQ := blk_new2 w (.cells #[.string (bs (p).name), .string (bs (p).ver), .slice (r).a1 (p).pre.length (r).c1, .slice (r).a2 (p).dep.length (r).c2, .slice (r).a3 (p).rcm.length (r).c3, .slice (r).a4 (p).con.length (r).c4, .slice (r).a5 (p).brk.length (r).c5, .slice (r).a6 (p).prv.length (r).c6, .bool (p).ess] 26) 26 #[.string (bs (q).name), .string (bs (q).ver), .slice (s).a1 (q).pre.length (s).c1, .slice (s).a2 (q).dep.length (s).c2, .slice (s).a3 (q).rcm.length (s).c3, .slice (s).a4 (q).con.length (s).c4, .slice (s).a5 (q).brk.length (s).c5, .slice (s).a6 (q).prv.length (s).c6, .bool (q).ess]
      have K2 := (Kept.alloc w (.cells #[.string (bs (p).name), .string (bs (p).ver), .slice (r).a1 (p).pre.length (r).c1, .slice (r).a2 (p).dep.length (r).c2, .slice (r).a3 (p).rcm.length (r).c3, .slice (r).a4 (p).con.length (r).c4, .slice (r).a5 (p).brk.length (r).c5, .slice (r).a6 (p).prv.length (r).c6, .bool (p).ess] 26)).trans (Kept.alloc _ (.cells #[.string (bs (q).name), .string (bs (q).ver), .slice (s).a1 (q).pre.length (s).c1, .slice (s).a2 (q).dep.length (s).c2, .slice (s).a3 (q).rcm.length (s).c3, .slice (s).a4 (q).con.length (s).c4, .slice (s).a5 (q).brk.length (s).c5, .slice (s).a6 (q).prv.length (s).c6, .bool (q).ess] 26))
      refine (rforb_any p q r s _ (HP.out.kept K2) (HQ.out.kept K2)).mono ?_
      rintro e w1 ⟨rfl, hb1⟩
      rw [H1.out]
      have kP1 := kP.next hb1
      have kQ1 := kQ.next hb1
      obtain ⟨k0, k1, k2, k3, k4, k5, k6, k7, k8⟩ := blk9 kP1
      obtain ⟨j0, j1, j2, j3, j4, j5, j6, j7, j8⟩ := blk9 kQ1
      have K3 := Lib.hid (K2.trans (Kept.of_below hb1))
      have HB1 := Lib.hid (below_next (below_alloc (below_alloc (Below.refl w.heap.size w) (.cells #[.string (bs (p).name), .string (bs (p).ver), .slice (r).a1 (p).pre.length (r).c1, .slice (r).a2 (p).dep.length (r).c2, .slice (r).a3 (p).rcm.length (r).c3, .slice (r).a4 (p).con.length (r).c4, .slice (r).a5 (p).brk.length (r).c5, .slice (r).a6 (p).prv.length (r).c6, .bool (p).ess] 26)) (.cells #[.string (bs (q).name), .string (bs (q).ver), .slice (s).a1 (q).pre.length (s).c1, .slice (s).a2 (q).dep.length (s).c2, .slice (s).a3 (q).rcm.length (s).c3, .slice (s).a4 (q).con.length (s).c4, .slice (s).a5 (q).brk.length (s).c5, .slice (s).a6 (q).prv.length (s).c6, .bool (q).ess] 26)) hb1)
      clear kP kQ kP1 kQ1 hb1 K2
      go_wp2_with fail
      refine (rforb_any q p s r _ (HQ.out.kept K3.out) (HP.out.kept K3.out)).mono ?_
      rintro e w2 ⟨rfl, hb2⟩
      rw [HG.out]
      go_wp2
      go_ret
      exact ⟨by rw [HR.out]; go_tidy; simp [hn], below_next HB1.out hb2⟩
    · have H1 := Lib.hid h1
      have HR := Lib.hid (show clhS p q = true by simp [clhS, hn, h1])
      clear h1
      go_enter Tryz.func19, Tryz.ntmps19
      go_wp2_with fail
      have kP := Blk.alloc (blk_new1 w 26 #[.string (bs (p).name), .string (bs (p).ver), .slice (r).a1 (p).pre.length (r).c1, .slice (r).a2 (p).dep.length (r).c2, .slice (r).a3 (p).rcm.length (r).c3, .slice (r).a4 (p).con.length (r).c4, .slice (r).a5 (p).brk.length (r).c5, .slice (r).a6 (p).prv.length (r).c6, .bool (p).ess]) (.cells #[.string (bs (q).name), .string (bs (q).ver), .slice (s).a1 (q).pre.length (s).c1, .slice (s).a2 (q).dep.length (s).c2, .slice (s).a3 (q).rcm.length (s).c3, .slice (s).a4 (q).con.length (s).c4, .slice (s).a5 (q).brk.length (s).c5, .slice (s).a6 (q).prv.length (s).c6, .bool (q).ess] 26)
      have kQ := blk_new2 w (.cells #[.string (bs (p).name), .string (bs (p).ver), .slice (r).a1 (p).pre.length (r).c1, .slice (r).a2 (p).dep.length (r).c2, .slice (r).a3 (p).rcm.length (r).c3, .slice (r).a4 (p).con.length (r).c4, .slice (r).a5 (p).brk.length (r).c5, .slice (r).a6 (p).prv.length (r).c6, .bool (p).ess] 26) 26 #[.string (bs (q).name), .string (bs (q).ver), .slice (s).a1 (q).pre.length (s).c1, .slice (s).a2 (q).dep.length (s).c2, .slice (s).a3 (q).rcm.length (s).c3, .slice (s).a4 (q).con.length (s).c4, .slice (s).a5 (q).brk.length (s).c5, .slice (s).a6 (q).prv.length (s).c6, .bool (q).ess]
      have K2 := (Kept.alloc w (.cells #[.string (bs (p).name), .string (bs (p).ver), .slice (r).a1 (p).pre.length (r).c1, .slice (r).a2 (p).dep.length (r).c2, .slice (r).a3 (p).rcm.length (r).c3, .slice (r).a4 (p).con.length (r).c4, .slice (r).a5 (p).brk.length (r).c5, .slice (r).a6 (p).prv.length (r).c6, .bool (p).ess] 26)).trans (Kept.alloc _ (.cells #[.string (bs (q).name), .string (bs (q).ver), .slice (s).a1 (q).pre.length (s).c1, .slice (s).a2 (q).dep.length (s).c2, .slice (s).a3 (q).rcm.length (s).c3, .slice (s).a4 (q).con.length (s).c4, .slice (s).a5 (q).brk.length (s).c5, .slice (s).a6 (q).prv.length (s).c6, .bool (q).ess] 26))
      refine (rforb_any p q r s _ (HP.out.kept K2) (HQ.out.kept K2)).mono ?_
      rintro e w1 ⟨rfl, hb1⟩
      rw [H1.out]
      go_wp2
      go_ret
      exact ⟨by rw [HR.out]; go_tidy; simp [hn], below_next (below_alloc (below_alloc (Below.refl _ _) _) _) hb1⟩
end Go.Proofs.YtflmocamfedbdaaGreatDoor
namespace Go.Proofs.YtflmocamfedbdaaGreatDoor
set_option linter.unusedSimpArgs false
set_option linter.unusedVariables false
open Go.RowKit

theorem met_swap (cl : List Atm) (l : List Pkg) : (cl.any fun a => l.any fun p => satS p a) = metS cl l := by
  unfold metS
  rw [Bool.eq_iff_iff]
  simp only [List.any_eq_true]
  exact ⟨fun ⟨a, ha, p, hp, h⟩ => ⟨p, hp, a, ha, h⟩, fun ⟨p, hp, a, ha, h⟩ => ⟨a, ha, p, hp, h⟩⟩
end Go.Proofs.YtflmocamfedbdaaGreatDoor
namespace Go.Proofs.YtflmocamfedbdaaGreatDoor
set_option linter.unusedSimpArgs false
set_option linter.unusedVariables false
open Go.RowKit

set_option maxRecDepth 100000 in
set_option maxHeartbeats 400000 in
theorem rmet_any (A B : Option Addr) (c d : Nat) (cl : List Atm) (l : List Pkg) (w : World) (hc : Atms w A c cl) (hl : Pkgs w B d l) :
    Calls Tryz.prog 43 #[.slice A cl.length c, .slice B l.length d] w fun e w' => e = .returned (.bool (metS cl l)) ∧ Below w.heap.size w w' := by
  rw [← met_swap]
  have hbd := hl.bd
  have hbd2 := hc.bd
  have HL := Lib.hid hl
  have HC := Lib.hid hc
  clear hl hc
  go_enter Tryz.func43, Tryz.ntmps43
  go_wp2
  go_loopw [11] (fun i wr => ∃ k : Nat, k ≤ cl.length ∧ i = .int .i64 k ∧ Below w.heap.size w wr ∧ (cl.take k).any (fun a => l.any fun p => satS p a) = false) (fun i _ => cl.length - (intOf i).toNat)
  case atStart => exact ⟨0, Nat.zero_le _, rfl, Below.refl _ _, rfl⟩
  case round =>
    obtain ⟨k, hk, rfl, hb, hn⟩ := hrel
    obtain ⟨wo, rfl⟩ : ∃ wo : World, wo = wr := ⟨_, rfl⟩
    have HB := Lib.hid hb
    have HN := Lib.hid hn
    clear hb hn
    by_cases hlt : k < cl.length
    · obtain ⟨q, b, o, hq, rfl, hok, e0, e1, e2⟩ := HC.out.at_ hlt (Kept.of_below HB.out)
      have HQ := Lib.hid hq
      clear hq
      go_wp2
      go_loopw [17] (fun i wr => ∃ j : Nat, j ≤ l.length ∧ i = .int .i64 j ∧ Below wo.heap.size wo wr ∧ Blk wr wo.heap.size 34 #[.string (bs (q).name), .int .i64 (q).rel, .string (bs (q).ver)] ∧ (l.take j).any (fun p => satS p q) = false) (fun i _ => l.length - (intOf i).toNat)
      case atStart => exact ⟨0, Nat.zero_le _, rfl, (Below.refl _ _).alloc (Nat.le_refl _) _, blk_new1 _ _ _, rfl⟩
      case round =>
        obtain ⟨j, hj, rfl, hb, hB, hn⟩ := hrel
        have HB2 := Lib.hid hb
        have HN2 := Lib.hid hn
        have HG := Lib.hid hB
        obtain ⟨x0, x1, x2⟩ := blk3 hB
        have hsz : wo.heap.size < wr.heap.size := hB.lt
        clear hb hn hB e0 e1 e2
        by_cases hlt2 : j < l.length
        · obtain ⟨p, b', o', r, hp, rfl, hr, e0, e1, e2, e3, e4, e5, e6, e7, e8⟩ := HL.out.at_ hlt2 ((Kept.of_below HB.out).trans (Kept.of_below HB2.out))
          have HP := Lib.hid hp
          have HR := Lib.hid (hr.kept (((Kept.of_below HB.out).trans (Kept.of_below HB2.out)).trans (Kept.alloc _ (.cells #[.string (bs (p).name), .string (bs (p).ver), .slice (r).a1 (p).pre.length (r).c1, .slice (r).a2 (p).dep.length (r).c2, .slice (r).a3 (p).rcm.length (r).c3, .slice (r).a4 (p).con.length (r).c4, .slice (r).a5 (p).brk.length (r).c5, .slice (r).a6 (p).prv.length (r).c6, .bool (p).ess] 26))))
          clear hp hr
          go_wp2_with (go_at_call 17; refine (rsat_any p r q _ HR.out hok).mono ?_; rintro e w1 ⟨rfl, hb⟩)
          · go_ret
            refine ⟨?_, by have hb0 := below_next HB.out HB2.out; (repeat (first | assumption | exact Below.refl _ _ | refine below_next ?_ (by assumption) | refine below_drewN ?_ _ | refine below_alloc ?_ _))⟩
            rw [show (cl.any fun a => l.any fun p => satS p a) = true from any_yes HQ.out (any_yes HP.out (by assumption))]; rfl
          · go_roundw
            case rel => exact ⟨j + 1, by omega, by simp, by have hb0 := HB2.out; (repeat (first | assumption | exact Below.refl _ _ | refine below_next ?_ (by assumption) | refine below_drewN ?_ _ | refine below_alloc ?_ _)), by (first | exact HG.out | exact (HG.out).alloc _ | exact ((HG.out).alloc _).alloc _ | exact (HG.out).next (by assumption) | exact ((HG.out).alloc _).next (by assumption) | exact (((HG.out).alloc _).alloc _).next (by assumption)), any_step HP.out (by assumption) HN2.out⟩
            case measure => (try simp only [intOf]); omega
        · go_wp2
          go_roundw
          case rel => exact ⟨k + 1, by omega, by simp, below_next HB.out HB2.out, any_step HQ.out (any_end hj hlt2 HN2.out) HN.out⟩
          case measure => (try simp only [intOf]); omega
    · go_wp2
      go_ret
      exact ⟨by rw [any_end hk hlt HN.out]; rfl, HB.out⟩
end Go.Proofs.YtflmocamfedbdaaGreatDoor
namespace Go.Proofs.YtflmocamfedbdaaGreatDoor
set_option linter.unusedSimpArgs false
set_option linter.unusedVariables false
open Go.RowKit
theorem Blk.nextOf' {w w' : World} {g : Nat} {t : TypeId} {cs : Array Value} (hb : Below w.heap.size w w') (h : Blk w g t cs) : Blk w' g t cs := h.next hb
theorem okCl_two (l : List Pkg) (p : Pkg) : okCl l p = [p.pre, p.dep].all fun X => X.all fun c => metS c l := by simp [okCl, List.all_append]
set_option maxRecDepth 100000 in
set_option maxHeartbeats 2000000 in
theorem rhealthy_any (A : Option Addr) (c : Nat) (l : List Pkg) (w : World) (hl : Pkgs w A c l) :
    Calls Tryz.prog 44 #[.slice A l.length c] w fun e w' => e = .returned (.bool (hlthS l)) ∧ Below w.heap.size w w' := by
  have hbd := hl.bd
  have HL := Lib.hid hl
  clear hl
  go_enter Tryz.func44, Tryz.ntmps44
  go_wp2
  go_loopw [13] (fun i wr => ∃ k : Nat, k ≤ l.length ∧ i = .int .i64 k ∧ Below w.heap.size w wr ∧ okT l k = true ∧ (l.take k).all (okCl l) = true) (fun i _ => l.length - (intOf i).toNat)
  case atStart => exact ⟨0, Nat.zero_le _, rfl, Below.refl _ _, rfl, rfl⟩
  case round =>
    obtain ⟨k, hk, rfl, hb, hn, hn0⟩ := hrel
    have HNC := Lib.hid hn0
    clear hn0
    obtain ⟨wo, rfl⟩ : ∃ wo : World, wo = wr := ⟨_, rfl⟩
    have HB := Lib.hid hb
    have HN := Lib.hid hn
    clear hb hn
    by_cases hlt : k < l.length
    · obtain ⟨q, b, o, r, hq, rfl, hr, e0, e1, e2, e3, e4, e5, e6, e7, e8⟩ := HL.out.at_ hlt (Kept.of_below HB.out)
      have HQ := Lib.hid hq
      have HR := Lib.hid hr
      clear hq hr
      generalize hE : mayE q = E
      have HE := Lib.hid hE
      clear hE
      by_cases hE0 : E = 0
      · subst hE0
        go_wp2_with fail
        refine (rmay_any q r _ (HR.out.kept ((Kept.of_below HB.out).trans (Kept.alloc _ _)))).mono ?_
        rintro e w1 ⟨rfl, hb1⟩
        rw [HE.out]
        have kP := Lib.hid (Blk.nextOf' hb1 (blk_new1 wo 26 #[.string (bs (q).name), .string (bs (q).ver), .slice (r).a1 (q).pre.length (r).c1, .slice (r).a2 (q).dep.length (r).c2, .slice (r).a3 (q).rcm.length (r).c3, .slice (r).a4 (q).con.length (r).c4, .slice (r).a5 (q).brk.length (r).c5, .slice (r).a6 (q).prv.length (r).c6, .bool (q).ess]))
        have HB1 := Lib.hid (below_next (below_alloc HB.out (.cells #[.string (bs (q).name), .string (bs (q).ver), .slice (r).a1 (q).pre.length (r).c1, .slice (r).a2 (q).dep.length (r).c2, .slice (r).a3 (q).rcm.length (r).c3, .slice (r).a4 (q).con.length (r).c4, .slice (r).a5 (q).brk.length (r).c5, .slice (r).a6 (q).prv.length (r).c6, .bool (q).ess] 26)) hb1)
        have hi0 : (0 : Int) ≤ (k : Int) := Int.natCast_nonneg _
        have hi1 : (k : Int) ≤ (l.length : Int) := by omega
        have hi2 : (k : Int) ≤ (c : Int) := by omega
        have htn : ((k : Int)).toNat = k := Int.toNat_natCast _
        have hsz0 := kP.out.lt
        clear e0 e1 e2 e3 e4 e5 e6 e7 e8 hb1
        go_wp2
        go_loopw [25] (fun i wr => ∃ j : Nat, j ≤ k ∧ i = .int .i64 j ∧ Below w.heap.size w wr ∧ Blk wr wo.heap.size 26 #[.string (bs (q).name), .string (bs (q).ver), .slice (r).a1 (q).pre.length (r).c1, .slice (r).a2 (q).dep.length (r).c2, .slice (r).a3 (q).rcm.length (r).c3, .slice (r).a4 (q).con.length (r).c4, .slice (r).a5 (q).brk.length (r).c5, .slice (r).a6 (q).prv.length (r).c6, .bool (q).ess] ∧ ((l.take k).take j).any (badQ q) = false) (fun i _ => k - (intOf i).toNat)
        case atStart => exact ⟨0, Nat.zero_le _, rfl, HB1.out, kP.out, rfl⟩
        case round =>
          clear HB1 kP hsz0
          obtain ⟨j, hj, rfl, hb, hB, hn⟩ := hrel
          have HB2 := Lib.hid hb
          have HN2 := Lib.hid hn
          have HG := Lib.hid hB
          have hsz : wo.heap.size < wr.heap.size := hB.lt
          obtain ⟨g0, g1, g2, g3, g4, g5, g6, g7, g8⟩ := blk9 hB
          clear hb hn hB
          by_cases hlt2 : j < k
          · obtain ⟨x, b', o', s, hx, hA, hs, e0, e1, e2, e3, e4, e5, e6, e7, e8⟩ := HL.out.at_ (by omega : j < l.length) (Kept.of_below HB2.out)
            injection hA with hA
            injection hA with hA1 hA2
            subst hA1 hA2
            have HX := Lib.hid (show (l.take k)[j]? = some x by rw [List.getElem?_take_of_lt hlt2]; exact hx)
            have HSx := Lib.hid hs
            have hj0 : (0 : Int) ≤ (j : Int) := Int.natCast_nonneg _
            have hj1 : (j : Int) < (k : Int) := by omega
            clear hx hs
            by_cases hnm : x.name = q.name
            · have HBQ := Lib.hid (show badQ q x = true by simp [badQ, hnm])
              rw [hnm] at e0
              go_wp2
              go_ret
              refine ⟨?_, by have hb0 := HB2.out; (repeat (first | assumption | exact Below.refl _ _ | refine below_next ?_ (by assumption) | refine below_drewN ?_ _ | refine below_alloc ?_ _))⟩
              rw [hlth_no HQ.out (okAt_bad (any_yes HX.out HBQ.out))]; rfl
            · have hne : (x.name == q.name) = false := by simpa using hnm
              rcases hcl : clhS q x
              · have HCL := Lib.hid hcl
                have HBQ := Lib.hid (show badQ q x = false by simp [badQ, hnm, hcl])
                clear hcl
                go_wp2_with fail
                refine (rclash_any q x r s _ (HR.out.kept ((Kept.of_below HB2.out).trans (Kept.alloc _ _))) (HSx.out.kept ((Kept.of_below HB2.out).trans (Kept.alloc _ _)))).mono ?_
                rintro e w2 ⟨rfl, hb2⟩
                rw [HCL.out]
                clear e0 e1 e2 e3 e4 e5 e6 e7 e8 g0 g1 g2 g3 g4 g5 g6 g7 g8
                go_wp2
                go_roundw
                case rel => exact ⟨j + 1, by omega, by simp, below_next (below_alloc HB2.out _) hb2, Blk.next (Blk.alloc HG.out _) hb2, any_step HX.out HBQ.out HN2.out⟩
                case measure => (try simp only [intOf]); omega
              · have HCL := Lib.hid hcl
                have HBQ := Lib.hid (show badQ q x = true by simp [badQ, hcl])
                clear hcl
                go_wp2_with fail
                refine (rclash_any q x r s _ (HR.out.kept ((Kept.of_below HB2.out).trans (Kept.alloc _ _))) (HSx.out.kept ((Kept.of_below HB2.out).trans (Kept.alloc _ _)))).mono ?_
                rintro e w2 ⟨rfl, hb2⟩
                rw [HCL.out]
                clear e0 e1 e2 e3 e4 e5 e6 e7 e8 g0 g1 g2 g3 g4 g5 g6 g7 g8
                go_wp2
                go_ret
                refine ⟨?_, below_next (below_alloc HB2.out _) hb2⟩
                rw [hlth_no HQ.out (okAt_bad (any_yes HX.out HBQ.out))]; rfl
          · have hn2 := HN2.out
            rw [List.take_of_length_le (by simp; omega)] at hn2
            have HOK := Lib.hid (okAt_yes HE.out hn2)
            have HOC := Lib.hid (okCl_two l q)
            have HS2 := Lib.hid (show ∀ m : Nat, m < 2 → ∃ (X : List (List Atm)) (A' : Option Addr) (c' : Nat), [q.pre, q.dep][m]? = some X ∧ Clss w A' c' X ∧ ∀ W, (Instr.index 118 (.agg #[.slice r.a1 q.pre.length r.c1, .slice r.a2 q.dep.length r.c2]) (.int .i64 m)).run Tryz.prog W = .ok (.slice A' X.length c') W from by
              intro m hm
              obtain rfl | rfl : m = 0 ∨ m = 1 := by omega
              · exact ⟨_, r.a1, r.c1, rfl, HR.out.pre, fun _ => by kernel_rfl⟩
              · exact ⟨_, r.a2, r.c2, rfl, HR.out.dep, fun _ => by kernel_rfl⟩)
            have HLn := Lib.hid (show [q.pre, q.dep].length = 2 from rfl)
            clear hn2
            go_wp2
            generalize [q.pre, q.dep] = L at HOC HS2 HLn
            clear g0 g1 g2 g3 g4 g5 g6 g7 g8 hlt2
            go_loopw [45] (fun i wr => ∃ m : Nat, m ≤ 2 ∧ i = .int .i64 m ∧ Below w.heap.size w wr ∧ (L.take m).all (fun X => X.all fun c => metS c l) = true) (fun i _ => 2 - (intOf i).toNat)
            case atStart => exact ⟨0, Nat.zero_le _, rfl, HB2.out, rfl⟩
            case round =>
              clear HB2 HG hsz
              obtain ⟨m, hm, rfl, hb, hn⟩ := hrel
              have HB2 := Lib.hid hb
              have HN3 := Lib.hid hn
              clear hb hn
              by_cases hlt3 : m < 2
              · obtain ⟨X, A', c', hX, hA, hix⟩ := HS2.out m hlt3
                have HX := Lib.hid hX
                have HA := Lib.hid hA
                have hbdX := hA.bd
                have hj0 : (0 : Int) ≤ (m : Int) := Int.natCast_nonneg _
                have hj1 : (m : Int) < 2 := by omega
                clear hX hA
                go_wp2
                go_loopw [50] (fun i wr => ∃ j : Nat, j ≤ X.length ∧ i = .int .i64 j ∧ Below w.heap.size w wr ∧ (X.take j).all (fun c => metS c l) = true) (fun i _ => X.length - (intOf i).toNat)
                case atStart => exact ⟨0, Nat.zero_le _, rfl, HB2.out, rfl⟩
                case round =>
                  clear HB2
                  obtain ⟨j, hj, rfl, hb, hn⟩ := hrel
                  have HB2 := Lib.hid hb
                  have HN4 := Lib.hid hn
                  clear hb hn
                  by_cases hlt4 : j < X.length
                  · obtain ⟨x, b', o', A2, c2, hx, rfl, hC, e0⟩ := HA.out.at_ hlt4 (Kept.of_below HB2.out)
                    have HXx := Lib.hid hx
                    have HC := Lib.hid (hC.kept (Kept.of_below HB2.out))
                    clear hx hC
                    rcases hmt : metS x l
                    · have HMT := Lib.hid hmt
                      clear hmt
                      go_wp2_with fail
                      refine (rmet_any _ _ _ _ x l _ HC.out (HL.out.kept (Kept.of_below HB2.out))).mono ?_
                      rintro e w4 ⟨rfl, hb4⟩
                      rw [HMT.out]
                      go_wp2
                      go_ret
                      refine ⟨?_, below_next HB2.out hb4⟩
                      rw [hlth_cl HQ.out (by rw [HOC.out]; exact all_no HX.out (all_no HXx.out HMT.out))]; rfl
                    · have HMT := Lib.hid hmt
                      clear hmt
                      go_wp2_with fail
                      refine (rmet_any _ _ _ _ x l _ HC.out (HL.out.kept (Kept.of_below HB2.out))).mono ?_
                      rintro e w4 ⟨rfl, hb4⟩
                      rw [HMT.out]
                      go_wp2
                      go_roundw
                      case rel => exact ⟨j + 1, by omega, by simp, below_next HB2.out hb4, all_step' HXx.out HMT.out HN4.out⟩
                      case measure => (try simp only [intOf]); omega
                  · go_wp2
                    go_roundw
                    case rel => exact ⟨m + 1, by omega, by simp, HB2.out, all_step' HX.out (all_end hj hlt4 HN4.out) HN3.out⟩
                    case measure => (try simp only [intOf]); omega
              · have hn3 := HN3.out
                rw [List.take_of_length_le (by rw [HLn.out]; omega)] at hn3
                have HOC2 := Lib.hid (HOC.out.trans hn3)
                clear hn3
                go_wp2
                go_roundw
                case rel => exact ⟨k + 1, by omega, by simp, HB2.out, okT_step HN.out HQ.out HOK.out, all_step' HQ.out HOC2.out HNC.out⟩
                case measure => (try simp only [intOf]); omega
      · have hEb : (E != 0) = true := by rw [bne_iff_ne]; exact hE0
        go_wp2_with fail
        refine (rmay_any q r _ (HR.out.kept ((Kept.of_below HB.out).trans (Kept.alloc _ _)))).mono ?_
        rintro e w1 ⟨rfl, hb1⟩
        rw [HE.out]
        clear e0 e1 e2 e3 e4 e5 e6 e7 e8
        go_wp2
        go_ret
        refine ⟨?_, below_next (below_alloc HB.out _) hb1⟩
        rw [hlth_no HQ.out (okAt_may (by rw [HE.out]; exact hE0))]; rfl
    · have hT := HN.out
      rw [show k = l.length by omega] at hT
      have HT := Lib.hid hT
      clear hT HN
      go_wp2
      go_ret
      exact ⟨by rw [hlth_yes HT.out (all_end hk hlt HNC.out)]; rfl, HB.out⟩
end Go.Proofs.YtflmocamfedbdaaGreatDoor
