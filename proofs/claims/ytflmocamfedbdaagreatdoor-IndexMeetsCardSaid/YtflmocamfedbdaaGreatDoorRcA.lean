/- The contracts of the reference's forbids and Clash. -/
import Derived.Test.YtflmocamfedbdaaGreatDoorHeP
import Derived.Test.YtflmocamfedbdaaGreatDoorStC
namespace Go.Proofs.YtflmocamfedbdaaGreatDoor
set_option linter.unusedSimpArgs false
set_option linter.unusedVariables false
open Go.RowKit

theorem agn_two (p q : Pkg) : agnS p q = [p.con, p.brk].any fun X => X.any (satS q) := by simp [agnS]
set_option maxRecDepth 100000 in
set_option maxHeartbeats 400000 in
theorem rforb_any (p q : Pkg) (r s : Raw) (w : World) (hp : RP w r p) (hq : RP w s q) :
    Calls Tryz.prog 59 #[(.agg #[.string (bs (p).name), .string (bs (p).ver), .slice (r).a1 (p).pre.length (r).c1, .slice (r).a2 (p).dep.length (r).c2, .slice (r).a3 (p).rcm.length (r).c3, .slice (r).a4 (p).con.length (r).c4, .slice (r).a5 (p).brk.length (r).c5, .slice (r).a6 (p).prv.length (r).c6, .bool (p).ess]), (.agg #[.string (bs (q).name), .string (bs (q).ver), .slice (s).a1 (q).pre.length (s).c1, .slice (s).a2 (q).dep.length (s).c2, .slice (s).a3 (q).rcm.length (s).c3, .slice (s).a4 (q).con.length (s).c4, .slice (s).a5 (q).brk.length (s).c5, .slice (s).a6 (q).prv.length (s).c6, .bool (q).ess])] w fun e w' => e = .returned (.bool (agnS p q)) ∧ Below w.heap.size w w' := by
  have HAG := Lib.hid (agn_two p q)
  rcases r with ⟨a1, a2, a3, a4, a5, a6, c1, c2, c3, c4, c5, c6⟩
  dsimp only
  have h1 : Atms w a4 c4 p.con := hp.con
  have h2 : Atms w a5 c5 p.brk := hp.brk
  have hS : ∀ k : Nat, k < 2 → ∃ (X : List Atm) (A' : Option Addr) (c' : Nat), [p.con, p.brk][k]? = some X ∧ Atms w A' c' X ∧ ∀ W, (Instr.index 126 (.agg #[.slice a4 p.con.length c4, .slice a5 p.brk.length c5]) (.int .i64 k)).run Tryz.prog W = .ok (.slice A' X.length c') W := by
    intro k hk
    obtain rfl | rfl : k = 0 ∨ k = 1 := by omega
    · exact ⟨_, a4, c4, rfl, h1, fun _ => by kernel_rfl⟩
    · exact ⟨_, a5, c5, rfl, h2, fun _ => by kernel_rfl⟩
  have HQ := Lib.hid hq
  have HLn := Lib.hid (show [p.con, p.brk].length = 2 from rfl)
  have HSx := Lib.hid hS
  clear hp hq h1 h2 hS
  go_enter Tryz.func59, Tryz.ntmps59
  have kQ := blk_new2 w (.cells #[.string (bs p.name), .string (bs p.ver), .slice a1 p.pre.length c1, .slice a2 p.dep.length c2, .slice a3 p.rcm.length c3, .slice a4 p.con.length c4, .slice a5 p.brk.length c5, .slice a6 p.prv.length c6, .bool p.ess] 26) 26 #[.string (bs (q).name), .string (bs (q).ver), .slice (s).a1 (q).pre.length (s).c1, .slice (s).a2 (q).dep.length (s).c2, .slice (s).a3 (q).rcm.length (s).c3, .slice (s).a4 (q).con.length (s).c4, .slice (s).a5 (q).brk.length (s).c5, .slice (s).a6 (q).prv.length (s).c6, .bool (q).ess]
  have HKQ := Lib.hid kQ
  clear kQ
  go_wp2
  generalize [p.con, p.brk] = L at HSx HLn HAG
  go_loopw [14] (fun i wr => ∃ k : Nat, k ≤ 2 ∧ i = .int .i64 k ∧ Below w.heap.size w wr ∧ Blk wr (w.heap.size + 1) 26 #[.string (bs (q).name), .string (bs (q).ver), .slice (s).a1 (q).pre.length (s).c1, .slice (s).a2 (q).dep.length (s).c2, .slice (s).a3 (q).rcm.length (s).c3, .slice (s).a4 (q).con.length (s).c4, .slice (s).a5 (q).brk.length (s).c5, .slice (s).a6 (q).prv.length (s).c6, .bool (q).ess] ∧ (L.take k).any (fun X => X.any (satS q)) = false) (fun i _ => 2 - (intOf i).toNat)
  case atStart => exact ⟨0, Nat.zero_le _, rfl, below_alloc (below_alloc (Below.refl _ _) _) _, HKQ.out, rfl⟩
  case round =>
    clear HKQ
    obtain ⟨k, hk, rfl, hb, hB, hn⟩ := hrel
    have HB := Lib.hid hb
    have HG := Lib.hid hB
    have HN := Lib.hid hn
    clear hb hB hn
    by_cases hlt : k < 2
    · obtain ⟨X, A', c', hX, hA, hix⟩ := HSx.out k hlt
      have HX := Lib.hid hX
      have HA := Lib.hid hA
      have hbdX := hA.bd
      have hi0 : (0 : Int) ≤ (k : Int) := Int.natCast_nonneg _
      have hi1 : (k : Int) < 2 := by omega
      clear hX hA
      go_wp2
      go_loopw [19] (fun i wr => ∃ j : Nat, j ≤ X.length ∧ i = .int .i64 j ∧ Below w.heap.size w wr ∧ Blk wr (w.heap.size + 1) 26 #[.string (bs (q).name), .string (bs (q).ver), .slice (s).a1 (q).pre.length (s).c1, .slice (s).a2 (q).dep.length (s).c2, .slice (s).a3 (q).rcm.length (s).c3, .slice (s).a4 (q).con.length (s).c4, .slice (s).a5 (q).brk.length (s).c5, .slice (s).a6 (q).prv.length (s).c6, .bool (q).ess] ∧ (X.take j).any (satS q) = false) (fun i _ => X.length - (intOf i).toNat)
      case atStart => exact ⟨0, Nat.zero_le _, rfl, HB.out, HG.out, rfl⟩
      case round =>
        clear HB HG
        obtain ⟨j, hj, rfl, hb, hB, hn⟩ := hrel
        have HB := Lib.hid hb
        have HG := Lib.hid hB
        have HN2 := Lib.hid hn
        have hsz : w.heap.size + 1 < wr.heap.size := hB.lt
        obtain ⟨g0, g1, g2, g3, g4, g5, g6, g7, g8⟩ := blk9 hB
        clear hb hB hn
        by_cases hlt2 : j < X.length
        · obtain ⟨x, b, o, hx, rfl, hok, e0, e1, e2⟩ := HA.out.at_ hlt2 (Kept.of_below HB.out)
          have HXx := Lib.hid hx
          clear hx
          rcases hst : satS q x
          · have HST := Lib.hid hst
            clear hst
            go_wp2_with fail
            refine (rsat_any q s x _ (HQ.out.kept ((Kept.of_below HB.out).trans (Kept.alloc _ _))) hok).mono ?_
            rintro e w1 ⟨rfl, hb1⟩
            rw [HST.out]
            clear e0 e1 e2 g0 g1 g2 g3 g4 g5 g6 g7 g8
            go_wp2
            go_roundw
            case rel => exact ⟨j + 1, by omega, by simp, below_next (below_alloc HB.out _) hb1, Blk.next (Blk.alloc HG.out _) hb1, any_step HXx.out HST.out HN2.out⟩
            case measure => (try simp only [intOf]); omega
          · have HST := Lib.hid hst
            clear hst
            go_wp2_with fail
            refine (rsat_any q s x _ (HQ.out.kept ((Kept.of_below HB.out).trans (Kept.alloc _ _))) hok).mono ?_
            rintro e w1 ⟨rfl, hb1⟩
            rw [HST.out]
            clear e0 e1 e2 g0 g1 g2 g3 g4 g5 g6 g7 g8
            go_wp2
            go_ret
            refine ⟨?_, below_next (below_alloc HB.out _) hb1⟩
            rw [HAG.out, any_yes HX.out (any_yes HXx.out HST.out)]; rfl
        · clear g0 g1 g2 g3 g4 g5 g6 g7 g8
          go_wp2
          go_roundw
          case rel => exact ⟨k + 1, by omega, by simp, HB.out, HG.out, any_step HX.out (any_end hj hlt2 HN2.out) HN.out⟩
          case measure => (try simp only [intOf]); omega
    · go_wp2
      go_ret
      have hn := HN.out
      rw [List.take_of_length_le (by rw [HLn.out]; omega)] at hn
      exact ⟨by rw [HAG.out, hn]; rfl, HB.out⟩
set_option maxRecDepth 100000 in
set_option maxHeartbeats 400000 in
theorem rclash_any (p q : Pkg) (r s : Raw) (w : World) (hp : RP w r p) (hq : RP w s q) :
    Calls Tryz.prog 19 #[(.agg #[.string (bs (p).name), .string (bs (p).ver), .slice (r).a1 (p).pre.length (r).c1, .slice (r).a2 (p).dep.length (r).c2, .slice (r).a3 (p).rcm.length (r).c3, .slice (r).a4 (p).con.length (r).c4, .slice (r).a5 (p).brk.length (r).c5, .slice (r).a6 (p).prv.length (r).c6, .bool (p).ess]), (.agg #[.string (bs (q).name), .string (bs (q).ver), .slice (s).a1 (q).pre.length (s).c1, .slice (s).a2 (q).dep.length (s).c2, .slice (s).a3 (q).rcm.length (s).c3, .slice (s).a4 (q).con.length (s).c4, .slice (s).a5 (q).brk.length (s).c5, .slice (s).a6 (q).prv.length (s).c6, .bool (q).ess])] w fun e w' => e = .returned (.bool (clhS p q)) ∧ Below w.heap.size w w' := by
  have HP := Lib.hid hp
  have HQ := Lib.hid hq
  clear hp hq
  by_cases hn : p.name = q.name
  · have HR := Lib.hid (show clhS p q = false by simp [clhS, hn])
    rcases p with ⟨n1, p1, p2, p3, p4, p5, p6, p7, p8⟩
    dsimp only at hn ⊢
    subst hn
    go_enter Tryz.func19, Tryz.ntmps19
    go_wp2
    go_ret
    exact ⟨by rw [HR.out]; rfl, by (repeat (first | assumption | exact Below.refl _ _ | refine below_next ?_ (by assumption) | refine below_drewN ?_ _ | refine below_alloc ?_ _))⟩
  · rcases h1 : agnS p q
    · have H1 := Lib.hid h1
      have HR := Lib.hid (show clhS p q = agnS q p by simp [clhS, hn, h1])
      clear h1
      generalize hG : agnS q p = G at HR
      have HG := Lib.hid hG
      clear hG
      go_enter Tryz.func19, Tryz.ntmps19
      go_wp2_with fail
      have kP := Blk.alloc (blk_new1 w 26 #[.string (bs (p).name), .string (bs (p).ver), .slice (r).a1 (p).pre.length (r).c1, .slice (r).a2 (p).dep.length (r).c2, .slice (r).a3 (p).rcm.length (r).c3, .slice (r).a4 (p).con.length (r).c4, .slice (r).a5 (p).brk.length (r).c5, .slice (r).a6 (p).prv.length (r).c6, .bool (p).ess]) (.cells #[.string (bs (q).name), .string (bs (q).ver), .slice (s).a1 (q).pre.length (s).c1, .slice (s).a2 (q).dep.length (s).c2, .slice (s).a3 (q).rcm.length (s).c3, .slice (s).a4 (q).con.length (s).c4, .slice (s).a5 (q).brk.length (s).c5, .slice (s).a6 (q).prv.length (s).c6, .bool (q).ess] 26)
      have kQ := blk_new2 w (.cells #[.string (bs (p).name), .string (bs (p).ver), .slice (r).a1 (p).pre.length (r).c1, .slice (r).a2 (p).dep.length (r).c2, .slice (r).a3 (p).rcm.length (r).c3, .slice (r).a4 (p).con.length (r).c4, .slice (r).a5 (p).brk.length (r).c5, .slice (r).a6 (p).prv.length (r).c6, .bool (p).ess] 26) 26 #[.string (bs (q).name), .string (bs (q).ver), .slice (s).a1 (q).pre.length (s).c1, .slice (s).a2 (q).dep.length (s).c2, .slice (s).a3 (q).rcm.length (s).c3, .slice (s).a4 (q).con.length (s).c4, .slice (s).a5 (q).brk.length (s).c5, .slice (s).a6 (q).prv.length (s).c6, .bool (q).ess]
      have K2 := (Kept.alloc w (.cells #[.string (bs (p).name), .string (bs (p).ver), .slice (r).a1 (p).pre.length (r).c1, .slice (r).a2 (p).dep.length (r).c2, .slice (r).a3 (p).rcm.length (r).c3, .slice (r).a4 (p).con.length (r).c4, .slice (r).a5 (p).brk.length (r).c5, .slice (r).a6 (p).prv.length (r).c6, .bool (p).ess] 26)).trans (Kept.alloc _ (.cells #[.string (bs (q).name), .string (bs (q).ver), .slice (s).a1 (q).pre.length (s).c1, .slice (s).a2 (q).dep.length (s).c2, .slice (s).a3 (q).rcm.length (s).c3, .slice (s).a4 (q).con.length (s).c4, .slice (s).a5 (q).brk.length (s).c5, .slice (s).a6 (q).prv.length (s).c6, .bool (q).ess] 26))
      refine (rforb_any p q r s _ (HP.out.kept K2) (HQ.out.kept K2)).mono ?_
      rintro e w1 ⟨rfl, hb1⟩
      rw [H1.out]
      have kP1 := kP.next hb1
      have kQ1 := kQ.next hb1
      obtain ⟨k0, k1, k2, k3, k4, k5, k6, k7, k8⟩ := blk9 kP1
      obtain ⟨j0, j1, j2, j3, j4, j5, j6, j7, j8⟩ := blk9 kQ1
      have K3 := Lib.hid (K2.trans (Kept.of_below hb1))
      have HB1 := Lib.hid (below_next (below_alloc (below_alloc (Below.refl w.heap.size w) (.cells #[.string (bs (p).name), .string (bs (p).ver), .slice (r).a1 (p).pre.length (r).c1, .slice (r).a2 (p).dep.length (r).c2, .slice (r).a3 (p).rcm.length (r).c3, .slice (r).a4 (p).con.length (r).c4, .slice (r).a5 (p).brk.length (r).c5, .slice (r).a6 (p).prv.length (r).c6, .bool (p).ess] 26)) (.cells #[.string (bs (q).name), .string (bs (q).ver), .slice (s).a1 (q).pre.length (s).c1, .slice (s).a2 (q).dep.length (s).c2, .slice (s).a3 (q).rcm.length (s).c3, .slice (s).a4 (q).con.length (s).c4, .slice (s).a5 (q).brk.length (s).c5, .slice (s).a6 (q).prv.length (s).c6, .bool (q).ess] 26)) hb1)
      clear kP kQ kP1 kQ1 hb1 K2
      go_wp2_with fail
      refine (rforb_any q p s r _ (HQ.out.kept K3.out) (HP.out.kept K3.out)).mono ?_
      rintro e w2 ⟨rfl, hb2⟩
      rw [HG.out]
      go_wp2
      go_ret
      exact ⟨by rw [HR.out]; go_tidy; simp [hn], below_next HB1.out hb2⟩
    · have H1 := Lib.hid h1
      have HR := Lib.hid (show clhS p q = true by simp [clhS, hn, h1])
      clear h1
      go_enter Tryz.func19, Tryz.ntmps19
      go_wp2_with fail
      have kP := Blk.alloc (blk_new1 w 26 #[.string (bs (p).name), .string (bs (p).ver), .slice (r).a1 (p).pre.length (r).c1, .slice (r).a2 (p).dep.length (r).c2, .slice (r).a3 (p).rcm.length (r).c3, .slice (r).a4 (p).con.length (r).c4, .slice (r).a5 (p).brk.length (r).c5, .slice (r).a6 (p).prv.length (r).c6, .bool (p).ess]) (.cells #[.string (bs (q).name), .string (bs (q).ver), .slice (s).a1 (q).pre.length (s).c1, .slice (s).a2 (q).dep.length (s).c2, .slice (s).a3 (q).rcm.length (s).c3, .slice (s).a4 (q).con.length (s).c4, .slice (s).a5 (q).brk.length (s).c5, .slice (s).a6 (q).prv.length (s).c6, .bool (q).ess] 26)
      have kQ := blk_new2 w (.cells #[.string (bs (p).name), .string (bs (p).ver), .slice (r).a1 (p).pre.length (r).c1, .slice (r).a2 (p).dep.length (r).c2, .slice (r).a3 (p).rcm.length (r).c3, .slice (r).a4 (p).con.length (r).c4, .slice (r).a5 (p).brk.length (r).c5, .slice (r).a6 (p).prv.length (r).c6, .bool (p).ess] 26) 26 #[.string (bs (q).name), .string (bs (q).ver), .slice (s).a1 (q).pre.length (s).c1, .slice (s).a2 (q).dep.length (s).c2, .slice (s).a3 (q).rcm.length (s).c3, .slice (s).a4 (q).con.length (s).c4, .slice (s).a5 (q).brk.length (s).c5, .slice (s).a6 (q).prv.length (s).c6, .bool (q).ess]
      have K2 := (Kept.alloc w (.cells #[.string (bs (p).name), .string (bs (p).ver), .slice (r).a1 (p).pre.length (r).c1, .slice (r).a2 (p).dep.length (r).c2, .slice (r).a3 (p).rcm.length (r).c3, .slice (r).a4 (p).con.length (r).c4, .slice (r).a5 (p).brk.length (r).c5, .slice (r).a6 (p).prv.length (r).c6, .bool (p).ess] 26)).trans (Kept.alloc _ (.cells #[.string (bs (q).name), .string (bs (q).ver), .slice (s).a1 (q).pre.length (s).c1, .slice (s).a2 (q).dep.length (s).c2, .slice (s).a3 (q).rcm.length (s).c3, .slice (s).a4 (q).con.length (s).c4, .slice (s).a5 (q).brk.length (s).c5, .slice (s).a6 (q).prv.length (s).c6, .bool (q).ess] 26))
      refine (rforb_any p q r s _ (HP.out.kept K2) (HQ.out.kept K2)).mono ?_
      rintro e w1 ⟨rfl, hb1⟩
      rw [H1.out]
      go_wp2
      go_ret
      exact ⟨by rw [HR.out]; go_tidy; simp [hn], below_next (below_alloc (below_alloc (Below.refl _ _) _) _) hb1⟩
end Go.Proofs.YtflmocamfedbdaaGreatDoor
