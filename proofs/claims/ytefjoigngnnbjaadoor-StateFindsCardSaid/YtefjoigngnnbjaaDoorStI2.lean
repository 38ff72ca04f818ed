/- The contract of (*wrong).clashes, of kind 2. -/
import Derived.Test.YtefjoigngnnbjaaDoorStI
namespace Go.Proofs.YtefjoigngnnbjaaDoor
set_option linter.unusedSimpArgs false
set_option linter.unusedVariables false
open Go.RowKit

set_option maxRecDepth 100000 in
set_option maxHeartbeats 6000000 in
theorem clashes2_any (w0 w : World) (gw : Nat) (Al : Option Addr) (cl : Nat) (l : List Ent) (Aon : Option Addr) (non con : Nat) (res : List Vio) (A : Option Addr) (c : Nat) (ats : List Atm) (at_ : Nat) (xe : Ent)
    (hat : l[at_]? = some xe) (hG : Gat w0 gw Al l.length cl Aon non con res w) (hgw : w0.heap.size ≤ gw) (hl : Ents w0 Al cl l) (hc : Atms w0 A c ats)
    (hn2 : (res.length + ats.length * l.length) * 56 ≤ 140737488351232) :
    Calls Tryd.prog 54 #[.pointer (some ⟨gw, 0, none⟩), .int .i64 at_, .int .i64 2, .slice A ats.length c] w
      (GatPost w0 w gw Al l.length cl Aon non con (res ++ clashS l at_ 2 xe.pkg.name ats)) := by
  have hbd := hc.bd
  have hbd2 := hl.bd
  have hatl : at_ < l.length := (List.getElem?_eq_some_iff.1 hat).1
  have HAT := Lib.hid hat
  have HC := Lib.hid hc
  have HL := Lib.hid hl
  have HG0 := Lib.hid hG
  clear hc hl hG hat
  go_enter Tryd.func54, Tryd.ntmps54
  go_wp2
  go_loopw [14] (fun i wr => ∃ k : Nat, k ≤ ats.length ∧ i = .int .i64 k ∧ Gat w0 gw Al l.length cl Aon non con (res ++ clashS l at_ 2 xe.pkg.name (ats.take k)) wr ∧ KeepB TW w wr) (fun i _ => ats.length - (intOf i).toNat)
  case atStart => exact ⟨0, Nat.zero_le _, rfl, by simpa [clashS] using HG0.out, KeepB.refl _ _⟩
  case round =>
    obtain ⟨k, hk, rfl, hg, hkp⟩ := hrel
    obtain ⟨wo, rfl⟩ : ∃ wo : World, wo = wr := ⟨_, rfl⟩
    have HK := Lib.hid hkp
    clear hkp
    by_cases hlt : k < ats.length
    · have HLn := Lib.hid (clashS_len l at_ 2 xe.pkg.name ats k hk)
      generalize hR : res ++ clashS l at_ 2 xe.pkg.name (ats.take k) = R at hg
      have hRl : R.length + l.length ≤ res.length + ats.length * l.length := by
        rw [← hR, List.length_append]
        have h1 := HLn.out
        have h2 : (k + 1) * l.length ≤ ats.length * l.length := Nat.mul_le_mul_right _ hlt
        rw [Nat.succ_mul] at h2
        omega
      have HR := Lib.hid hR
      have HG := Lib.hid hg
      obtain ⟨Ao, co, hB, ho, hb⟩ := hg
      have HBw := Lib.hid hb
      have HBo := Lib.hid hB
      obtain ⟨x0, x1, x2⟩ := blk3 hB
      have hsz : gw < wo.heap.size := hB.lt
      clear hB ho hb hR
      obtain ⟨q, b, o, hq, rfl, hok, d0, d1, d2⟩ := HC.out.at_ hlt (Kept.of_below HBw.out)
      have HQ := Lib.hid hq
      clear hq
      go_wp2
      go_loopw [24] (fun i wr => ∃ j : Nat, j ≤ l.length ∧ i = .int .i64 j ∧ Gat w0 gw Al l.length cl Aon non con (R ++ clashT l at_ 2 xe.pkg.name k q j) wr ∧ Blk wr wo.heap.size 64 #[.string (bs (q).name), .int .i64 (q).rel, .string (bs (q).ver)] ∧ KeepB TW wo wr) (fun i _ => l.length - (intOf i).toNat)
      case atStart => exact ⟨0, Nat.zero_le _, rfl, by simpa [clashT] using HG.out.alloc _, blk_new1 _ _ _, KeepB.alloc _⟩
      case round =>
        obtain ⟨j, hj, rfl, hg, hA, hkp⟩ := hrel
        have HK2 := Lib.hid hkp
        have HA2 := Lib.hid hA
        obtain ⟨a0, a1, a2⟩ := blk3 hA
        have hsza : wo.heap.size < wr.heap.size := hA.lt
        clear hkp hA d0 d1 d2 x0 x1 x2
        by_cases hlt2 : j < l.length
        · have HLn2 := Lib.hid (clashT_len l at_ 2 xe.pkg.name k q j)
          generalize hS : R ++ clashT l at_ 2 xe.pkg.name k q j = S at hg
          have hSl : S.length ≤ R.length + j := by
            rw [← hS, List.length_append]
            have := HLn2.out
            omega
          have HS := Lib.hid hS
          obtain ⟨Ao, co, hB, ho, hb⟩ := hg
          have HB := Lib.hid hB
          have HO := Lib.hid ho
          have HBw2 := Lib.hid hb
          obtain ⟨x0, x1, x2⟩ := blk3 hB
          have hsz2 : gw < wr.heap.size := hB.lt
          clear hB ho hb hS
          obtain ⟨x, b2, o2, r, hx, rfl, hr, e0, e1, e2, e3, e4, e5, e6, e7, e8, e9, e10⟩ := HL.out.at_ hlt2 (Kept.of_below HBw2.out)
          have HX := Lib.hid hx
          have HRP := Lib.hid (fun ob : Obj => hr.kept ((Kept.of_below HBw2.out).trans (Kept.alloc _ ob)))
          clear hx hr
          by_cases hja : j = at_
          · subst hja
            go_wp2
            go_roundw
            case rel =>
              refine ⟨j + 1, by omega, by simp, ?_, by (first | exact HA2.out | exact (HA2.out).alloc _ | exact ((HA2.out).alloc _).alloc _ | exact (HA2.out).next (by assumption) | exact ((HA2.out).alloc _).next (by assumption) | exact (((HA2.out).alloc _).alloc _).next (by assumption)), HK2.out.trans (KeepB.alloc _)⟩
              rw [clashT_step HX.out, ← List.append_assoc, HS.out]
              simpa using Gat.alloc (cl := cl) ⟨Ao, co, HB.out, HO.out, HBw2.out⟩ _
            case measure => (try simp only [intOf]); omega
          · have hjb : ((j : Int) != (at_ : Int)) = true := by rw [bne_iff_ne]; omega
            go_wp2_with (go_at_call 52; refine (sat_any x.pkg r q _ (HRP.out _) hok).mono ?_; rintro e w1 ⟨rfl, hb⟩)
            all_goals first
              | (go_roundw
                 case rel =>
                   refine ⟨j + 1, by omega, by simp, ?_, by (first | exact HA2.out | exact (HA2.out).alloc _ | exact ((HA2.out).alloc _).alloc _ | exact (HA2.out).next (by assumption) | exact ((HA2.out).alloc _).next (by assumption) | exact (((HA2.out).alloc _).alloc _).next (by assumption)), HK2.out.trans (by first | exact KeepB.alloc _ | exact (KeepB.alloc _).trans (KeepB.of_below hb))⟩
                   rw [clashT_step HX.out, ← List.append_assoc, HS.out]
                   have hd : (decide (j ≠ at_) && (decide ((2 : Int) = 2) || x.conf) && satS x.pkg q) = false := by simp; grind
                   rw [hd]
                   first
                     | simpa using Gat.alloc (cl := cl) ⟨Ao, co, HB.out, HO.out, HBw2.out⟩ _
                     | simpa using (Gat.alloc (cl := cl) ⟨Ao, co, HB.out, HO.out, HBw2.out⟩ _).next hb
                 case measure => (try simp only [intOf]); omega)
              | skip
            all_goals
              have kB := (HB.out.alloc _).next hb
              have kO := (HO.out.alloc _).next hb
              have kB0 := below_next (below_alloc HBw2.out _) hb
              obtain ⟨y0, y1, y2⟩ := blk3 kB
              have kf := kB.frozen 2
              have hsz3 : gw < w1.heap.size := kB.lt
              have KB := Lib.hid kB
              have KO := Lib.hid kO
              obtain ⟨xe', b3, o3, r3, hx3, hA3, _, g0, _⟩ := HL.out.at_ hatl (Kept.of_below kB0)
              obtain rfl : xe' = xe := Option.some.inj (hx3.symm.trans HAT.out)
              injection hA3 with hA3
              injection hA3 with hA3 hA4
              subst hA3 hA4
              clear hx3 kB kO
              have kX := (blk_new1 wr 50 _).next hb
              have z0 := kX.cell 0
              simp only [List.getElem?_toArray, List.getElem?_cons_zero] at z0
              have hb2l : b2 < w0.heap.size := by
                obtain ⟨_, b4, o4, _, _, hA5, _, g4, _⟩ := HL.out.at_ hatl (Kept.refl _)
                injection hA5 with hA5
                injection hA5 with hA5 hA6
                subst hA5
                exact block_lt_of_cell g4
              have g1 : w0.cell? ⟨b2, o2 + at_ * 11, none⟩ = some (.string (bs xe'.pkg.name)) := by
                have := kB0.cell (p := ⟨b2, o2 + at_ * 11, none⟩) hb2l
                rw [← this]; exact g0
              have hi0 : (0 : Int) ≤ (at_ : Int) := Int.natCast_nonneg _
              have hi1 : (at_ : Int) < (l.length : Int) := by omega
              clear e0 e1 e2 e3 e4 e5 e6 e7 e8 e9 e10 a0 a1 a2 x0 x1 x2 hjb y1
              go_region_law
                ((refine step_append_el (by rfl) _ _ 65 (by rfl) w0.heap.size 68 _ 5 56 Tryd.underlying65 infVio rfl (by omega) RVio _ S (by rfl) (KO.out.alloc _).drew ⟨2, xe'.pkg.name, false, k, x.pkg.name⟩ [.int .i64 2, .string (bs xe'.pkg.name), .bool false, .int .i64 k, .string (bs x.pkg.name)] w1.heap.size 1 (by rfl) (blk_new1 _ _ _) rfl rfl (by simp [Value.oneCell']) (by omega) (by omega) (by simp; have := kB0.size; omega) ?_; intro g cap w2 ho2 hg2; have kW2 := ((KO.out.alloc _).drew).blk (g := gw) (KB.out.alloc _) (by decide) hg2; have kX2 := ((KO.out.alloc _).drew).blk (g := wr.heap.size) (kX.alloc _) (by decide) hg2; obtain ⟨q0, q1, q2⟩ := blk3 kW2; have qf := kW2.frozen 2; have q5 := kX2.cell 0; simp only [List.getElem?_toArray, List.getElem?_cons_zero] at q5; have kB2 := ((KO.out.alloc _).drew).below (below_alloc kB0 _).drew (by simp; have := kB0.size; omega) hg2; have q4 := Kept.of_below kB2 ⟨b2, o2 + at_ * 11, none⟩ (.string (bs xe'.pkg.name)) g1))
            all_goals
              go_wp2
              have hd : (decide (j ≠ at_) && (decide ((2 : Int) = 2) || x.conf) && satS x.pkg q) = true := by simp; grind
              obtain ⟨p1, p2, p3⟩ := Gat.put (x := ⟨2, xe'.pkg.name, false, k, x.pkg.name⟩) KB.out KO.out kB0 hgw ho2 (grown_undrew hg2)
              go_roundw
              case rel =>
                refine ⟨j + 1, by omega, by simp, ?_, p2.blk (by first | exact (HA2.out.alloc _).next hb) ⟨by decide, by decide⟩, ((HK2.out.trans (KeepB.alloc _)).trans (KeepB.of_below hb)).trans p2⟩
                rw [clashT_step HX.out, ← List.append_assoc, HS.out, hd]
                simpa using p1
              case measure => (try simp only [intOf]); omega
        · go_wp2
          go_roundw
          case rel =>
            refine ⟨k + 1, by omega, by simp, ?_, HK.out.trans HK2.out⟩
            rw [clash_take HQ.out, ← List.append_assoc, HR.out, ← clashT_end (j := j) (by omega)]
            exact hg
          case measure => (try simp only [intOf]); omega
    · go_wp2
      go_end0
      rw [take_end hk hlt] at hg
      exact ⟨rfl, hg, HK.out⟩
end Go.Proofs.YtefjoigngnnbjaaDoor
