/- The contracts of the reference's May and MayEntries: where MayEntries says 0, each may be, and no name stands twice. -/
import Derived.Test.YtcbomomlojhghaaDoorMaC
import Derived.Test.YtcbomomlojhghaaDoorVerI
import Derived.Test.YtcbomomlojhghaaDoorFi
import Derived.BigQuiet
namespace Go.Proofs.YtcbomomlojhghaaDoor
set_option linter.unusedSimpArgs false
set_option linter.unusedVariables false
open Go.RowKit

set_option maxRecDepth 100000 in
set_option maxHeartbeats 400000 in
theorem rmayCls_any (A : Option Addr) (c k0 : Nat) (l : List (List Atm)) (hk0 : l.length = k0) (w : World) (hl : Clss w A c l) :
    Calls Tryd.prog 32 #[.slice A k0 c] w fun e w' => e = .returned (.int .i64 (clsE l)) ∧ Below w.heap.size w w' := by
  subst hk0
  have hbd := hl.bd
  have HL := Lib.hid hl
  clear hl
  by_cases h12 : (12 : Int) < (l.length : Int)
  · go_enter Tryd.func32, Tryd.ntmps32
    go_wp2
    go_ret
    exact ⟨by rw [clsE_long (by omega)]; rfl, Below.refl _ _⟩
  · go_enter Tryd.func32, Tryd.ntmps32
    go_wp2
    go_loop [14] (fun i => ∃ k : Nat, k ≤ l.length ∧ i = .int .i64 k ∧ (l.take k).any longC = false) (fun i => l.length - (intOf i).toNat)
    case atStart => exact ⟨0, Nat.zero_le _, rfl, rfl⟩
    case round =>
      obtain ⟨k, hk, rfl, hn⟩ := hrel
      have HN := Lib.hid hn
      clear hn
      by_cases hlt : k < l.length
      · obtain ⟨q, b, o, A', c', hq, rfl, hA, e0⟩ := HL.out.at_ hlt (Kept.refl _)
        have HQ := Lib.hid hq
        clear hq hA
        by_cases h6 : (6 : Int) < (q.length : Int)
        · go_wp2
          go_ret
          exact ⟨by rw [clsE_many (any_yes HQ.out (by simp [longC]; omega))]; rfl, Below.refl _ _⟩
        · go_wp2
          go_round
          case rel => exact ⟨k + 1, by omega, by simp, any_step HQ.out (by simp [longC]; omega) HN.out⟩
          case measure => (try simp only [intOf]); omega
      · have HLG := Lib.hid (any_end hk hlt HN.out)
        clear HN
        go_wp2
        clear hlt
        go_loopw [24] (fun i wr => ∃ k : Nat, k ≤ l.length ∧ i = .int .i64 k ∧ Below w.heap.size w wr ∧ (l.take k).any badC = false) (fun i _ => l.length - (intOf i).toNat)
        case atStart => exact ⟨0, Nat.zero_le _, rfl, Below.refl _ _, rfl⟩
        case round =>
          clear hk
          obtain ⟨k, hk, rfl, hb, hn⟩ := hrel
          have HB := Lib.hid hb
          have HN := Lib.hid hn
          clear hb hn
          by_cases hlt : k < l.length
          · obtain ⟨q, b, o, A', c', hq, rfl, hA, e0⟩ := HL.out.at_ hlt (Kept.of_below HB.out)
            have HQ := Lib.hid hq
            have hbd2 := hA.bd
            have HA := Lib.hid hA
            clear hq hA
            by_cases h0 : q = []
            · have hbd0 : badC q = true := by simp [badC, h0]
              have HBD := Lib.hid hbd0
              clear hbd0
              subst h0
              go_wp2
              go_ret
              exact ⟨by rw [clsE_bad (by omega) HLG.out (any_yes HQ.out HBD.out)]; rfl, HB.out⟩
            · have hl0 : 0 < q.length := by rcases q with _ | ⟨_, _⟩ <;> simp at h0 ⊢
              have z1 : ((q.length : Int) == 0) = false := by rw [beq_eq_false_iff_ne]; omega
              go_wp2
              go_loopw [33] (fun i wr => ∃ j : Nat, j ≤ q.length ∧ i = .int .i64 j ∧ Below w.heap.size w wr ∧ (q.take j).any notA = false) (fun i _ => q.length - (intOf i).toNat)
              case atStart => exact ⟨0, Nat.zero_le _, rfl, HB.out, rfl⟩
              case round =>
                clear HB e0
                obtain ⟨j, hj, rfl, hb, hn⟩ := hrel
                have HB := Lib.hid hb
                have HN2 := Lib.hid hn
                clear hb hn
                by_cases hlt2 : j < q.length
                · obtain ⟨x, b', o', hx, rfl, hok, e0, e1, e2⟩ := HA.out.at_ hlt2 (Kept.of_below HB.out)
                  have HX := Lib.hid hx
                  clear hx
                  rcases hm : mayA x
                  · have HM := Lib.hid hm
                    clear hm
                    go_wp2_with fail
                    refine (rmayAtom_any x hok _).mono ?_
                    rintro e w1 ⟨rfl, hb1⟩
                    rw [HM.out]
                    go_wp2
                    go_ret
                    refine ⟨?_, by have hb0 := HB.out; (repeat (first | assumption | exact Below.refl _ _ | refine below_next ?_ (by assumption) | refine below_drewN ?_ _ | refine below_alloc ?_ _))⟩
                    rw [clsE_bad (by omega) HLG.out (any_yes HQ.out (by rw [badC_eq, any_yes (p := notA) HX.out (by simp [notA, HM.out])]; simp))]; rfl
                  · have HM := Lib.hid hm
                    clear hm
                    go_wp2_with fail
                    refine (rmayAtom_any x hok _).mono ?_
                    rintro e w1 ⟨rfl, hb1⟩
                    rw [HM.out]
                    go_wp2
                    go_roundw
                    case rel => exact ⟨j + 1, by omega, by simp, by have hb0 := HB.out; (repeat (first | assumption | exact Below.refl _ _ | refine below_next ?_ (by assumption) | refine below_drewN ?_ _ | refine below_alloc ?_ _)), any_step HX.out (by simp [notA, HM.out]) HN2.out⟩
                    case measure => (try simp only [intOf]); omega
                · go_wp2
                  go_roundw
                  case rel => exact ⟨k + 1, by omega, by simp, HB.out, any_step HQ.out (by rw [badC_eq, any_end hj hlt2 HN2.out]; simp; omega) HN.out⟩
                  case measure => (try simp only [intOf]); omega
          · go_wp2
            go_ret
            exact ⟨by rw [clsE_ok (by omega) HLG.out (any_end hk hlt HN.out)]; rfl, HB.out⟩
theorem cutN_cls {l : List Atm} : clsE (singS (l.take (cutN l.length))) = clsE (singS l) := clsE_cut (by unfold cutN; omega)
theorem cutN_len {α : Type} (l : List α) : (l.take (cutN l.length)).length = cutN l.length := by rw [List.length_take]; unfold cutN; omega
/-- the six lists, three of them cut -/
def sixC (p : Pkg) : List (List (List Atm)) := [p.pre, p.dep, p.rcm, singS (p.con.take (cutN p.con.length)), singS (p.brk.take (cutN p.brk.length)), singS (prvS (p.prv.take (cutN p.prv.length)))]
theorem sixC_eq (p : Pkg) : lstE (sixC p) = lstE (sixL p) := by
  have h3 : clsE (singS (prvS (p.prv.take (cutN p.prv.length)))) = clsE (singS (prvS p.prv)) := by
    rw [prv_take, ← prv_len p.prv]; exact cutN_cls
  simp only [sixC, sixL, lstE, cutN_cls, h3]
theorem Atms.take {w : World} {A : Option Addr} {c : Nat} {l : List Atm} (h : Atms w A c l) (n : Nat) : Atms w A c (l.take n) := by
  obtain ⟨h1, h2, h3, h4⟩ := h
  have hle : (l.take n).length ≤ l.length := by simp; omega
  refine ⟨by omega, h2, Nat.le_trans (Nat.mul_le_mul_right _ hle) h3, fun h0 => ?_⟩
  obtain ⟨b, o, hA, hx⟩ := h4 (by omega)
  refine ⟨b, o, hA, fun i x hi => hx i x ?_⟩
  rw [List.getElem?_take] at hi
  split at hi
  · exact hi
  · cases hi
theorem Prvs.take {w : World} {A : Option Addr} {c : Nat} {l : List Prv} (h : Prvs w A c l) (n : Nat) : Prvs w A c (l.take n) := by
  obtain ⟨h1, h2, h3, h4⟩ := h
  have hle : (l.take n).length ≤ l.length := by simp; omega
  refine ⟨by omega, h2, Nat.le_trans (Nat.mul_le_mul_right _ hle) h3, fun h0 => ?_⟩
  obtain ⟨b, o, hA, hx⟩ := h4 (by omega)
  refine ⟨b, o, hA, fun i x hi => hx i x ?_⟩
  rw [List.getElem?_take] at hi
  split at hi
  · exact hi
  · cases hi
theorem cutN_le (n : Nat) : cutN n ≤ 1000000 := by unfold cutN; omega
set_option maxRecDepth 100000 in
set_option maxHeartbeats 1000000 in
theorem rmay_any (p : Pkg) (r : Raw) (w : World) (hp : RP w r p) :
    Calls Tryd.prog 9 #[(.agg #[.string (bs (p).name), .string (bs (p).ver), .slice (r).a1 (p).pre.length (r).c1, .slice (r).a2 (p).dep.length (r).c2, .slice (r).a3 (p).rcm.length (r).c3, .slice (r).a4 (p).con.length (r).c4, .slice (r).a5 (p).brk.length (r).c5, .slice (r).a6 (p).prv.length (r).c6, .bool (p).ess])] w fun e w' => e = .returned (.int .i64 (mayE p)) ∧ Below w.heap.size w w' := by
  rcases r with ⟨a1, a2, a3, a4, a5, a6, c1, c2, c3, c4, c5, c6⟩
  dsimp only
  have hsn : p.name.length ≤ 140737488351232 := hp.1
  have HP1 := Lib.hid (show Clss w a1 c1 p.pre from hp.pre)
  have HP2 := Lib.hid (show Clss w a2 c2 p.dep from hp.dep)
  have HP3 := Lib.hid (show Clss w a3 c3 p.rcm from hp.rcm)
  have HP4 := Lib.hid (show Atms w a4 c4 p.con from hp.con)
  have HP5 := Lib.hid (show Atms w a5 c5 p.brk from hp.brk)
  have HP6 := Lib.hid (show Prvs w a6 c6 p.prv from hp.prv)
  clear hp
  rcases hn : nameS p.name
  · have HN := Lib.hid hn
    have HM := Lib.hid (mayE_name hn)
    clear hn
    go_enter Tryd.func9, Tryd.ntmps9
    go_wp2_with fail
    refine (rname_any _ hsn _).mono ?_
    rintro e w2 ⟨rfl, rfl⟩
    rw [HN.out]
    go_wp2
    all_goals go_ret
    all_goals exact ⟨by rw [HM.out]; rfl, by (repeat (first | assumption | exact Below.refl _ _ | refine below_next ?_ (by assumption) | refine below_drewN ?_ _ | refine below_alloc ?_ _))⟩
  · have HN := Lib.hid hn
    rcases hv : isV p.ver
    · have HV := Lib.hid hv
      have HM := Lib.hid (mayE_ver hv)
      clear hn hv
      go_enter Tryd.func9, Tryd.ntmps9
      go_wp2_with fail
      refine (rname_any _ hsn _).mono ?_
      rintro e w1 ⟨rfl, rfl⟩
      rw [HN.out]
      go_wp2_with fail
      refine (rIs_any _ _).mono ?_
      rintro e w2 ⟨rfl, hb2⟩
      rw [HV.out]
      go_wp2
      all_goals go_ret
      all_goals exact ⟨by rw [HM.out]; rfl, by (repeat (first | assumption | exact Below.refl _ _ | refine below_next ?_ (by assumption) | refine below_drewN ?_ _ | refine below_alloc ?_ _))⟩
    · have HV := Lib.hid hv
      have HM := Lib.hid ((mayE_ok hn hv).trans (sixC_eq p).symm)
      clear hn hv
      go_enter Tryd.func9, Tryd.ntmps9
      go_wp2_with fail
      refine (rname_any _ hsn _).mono ?_
      rintro e w1 ⟨rfl, rfl⟩
      rw [HN.out]
      go_wp2_with fail
      refine (rIs_any _ _).mono ?_
      rintro e w2 ⟨rfl, hb2⟩
      rw [HV.out]
      have kP2 := (blk_new1 w 28 _).next hb2
      obtain ⟨k0, k1, k2, k3, k4, k5, k6, k7, k8⟩ := blk9 kP2
      have HB2 := Lib.hid (show Below w.heap.size w w2 from by (repeat (first | assumption | exact Below.refl _ _ | refine below_next ?_ (by assumption) | refine below_drewN ?_ _ | refine below_alloc ?_ _)))
      clear hb2 kP2 k0 k1 k8
      go_wp2_with fail
      go_region_held3 (fun w' => w'.cell? ⟨w.heap.size, 2, none⟩ = some (.slice a1 p.pre.length c1) ∧ w'.cell? ⟨w.heap.size, 3, none⟩ = some (.slice a2 p.dep.length c2) ∧ w'.cell? ⟨w.heap.size, 4, none⟩ = some (.slice a3 p.rcm.length c3) ∧ w'.cell? ⟨w.heap.size, 5, none⟩ = some (.slice a4 p.con.length c4) ∧ w'.cell? ⟨w.heap.size, 6, none⟩ = some (.slice a5 p.brk.length c5) ∧ w'.cell? ⟨w.heap.size, 7, none⟩ = some (.slice a6 p.prv.length c6) ∧ Hid (Below w2.heap.size w2 w')) (first | assumption | (have hHeld := (by assumption : _ ∧ _ ∧ _ ∧ _ ∧ _ ∧ _ ∧ Hid (Below w2.heap.size w2 _)); obtain ⟨q2, q3, q4, q5, q6, q7, qB⟩ := hHeld; exact ⟨Kept.of_below hb7 _ _ q2, Kept.of_below hb7 _ _ q3, Kept.of_below hb7 _ _ q4, Kept.of_below hb7 _ _ q5, Kept.of_below hb7 _ _ q6, Kept.of_below hb7 _ _ q7, below_next qB.out hb7⟩) | (have hHeld := (by assumption : _ ∧ _ ∧ _ ∧ _ ∧ _ ∧ _ ∧ Hid (Below w2.heap.size w2 _)); obtain ⟨q2, q3, q4, q5, q6, q7, qB⟩ := hHeld; exact ⟨Kept.of_below hb6 _ _ q2, Kept.of_below hb6 _ _ q3, Kept.of_below hb6 _ _ q4, Kept.of_below hb6 _ _ q5, Kept.of_below hb6 _ _ q6, Kept.of_below hb6 _ _ q7, below_next qB.out hb6⟩) | (have hHeld := (by assumption : _ ∧ _ ∧ _ ∧ _ ∧ _ ∧ _ ∧ Hid (Below w2.heap.size w2 _)); obtain ⟨q2, q3, q4, q5, q6, q7, qB⟩ := hHeld; exact ⟨Kept.of_below hb5 _ _ q2, Kept.of_below hb5 _ _ q3, Kept.of_below hb5 _ _ q4, Kept.of_below hb5 _ _ q5, Kept.of_below hb5 _ _ q6, Kept.of_below hb5 _ _ q7, below_next qB.out hb5⟩) | (have hHeld := (by assumption : _ ∧ _ ∧ _ ∧ _ ∧ _ ∧ _ ∧ Hid (Below w2.heap.size w2 _)); obtain ⟨q2, q3, q4, q5, q6, q7, qB⟩ := hHeld; exact ⟨Kept.of_below hb4 _ _ q2, Kept.of_below hb4 _ _ q3, Kept.of_below hb4 _ _ q4, Kept.of_below hb4 _ _ q5, Kept.of_below hb4 _ _ q6, Kept.of_below hb4 _ _ q7, below_next qB.out hb4⟩) | exact ⟨k2, k3, k4, k5, k6, k7, below_drewN (Below.refl _ _) 1⟩) (first | (go_at_call_of 29 (Value.slice a4 p.con.length c4); have hHeld := (by assumption : _ ∧ _ ∧ _ ∧ _ ∧ _ ∧ _ ∧ Hid (Below w2.heap.size w2 _)); refine (cut_any' _ _ p.con _ (HP4.out.kept ((Kept.of_below HB2.out).trans (Kept.of_below hHeld.2.2.2.2.2.2.out)))).mono ?_; rintro e wx ⟨rfl, rfl⟩) | (go_at_call_of 28 (Value.slice a4 (cutN p.con.length) c4); have hHeld := (by assumption : _ ∧ _ ∧ _ ∧ _ ∧ _ ∧ _ ∧ Hid (Below w2.heap.size w2 _)); refine (rsingles_any _ _ _ (p.con.take (cutN p.con.length)) (cutN_len _) _ ((HP4.out.kept ((Kept.of_below HB2.out).trans (Kept.of_below hHeld.2.2.2.2.2.2.out))).take _) (by rw [cutN_len]; exact cutN_le _)).mono ?_; rintro e w4 ⟨A4, C4, rfl, hc4, hb4⟩) | (go_at_call_of 29 (Value.slice a5 p.brk.length c5); have hHeld := (by assumption : _ ∧ _ ∧ _ ∧ _ ∧ _ ∧ _ ∧ Hid (Below w2.heap.size w2 _)); refine (cut_any' _ _ p.brk _ (HP5.out.kept ((Kept.of_below HB2.out).trans (Kept.of_below hHeld.2.2.2.2.2.2.out)))).mono ?_; rintro e wx ⟨rfl, rfl⟩) | (go_at_call_of 28 (Value.slice a5 (cutN p.brk.length) c5); have hHeld := (by assumption : _ ∧ _ ∧ _ ∧ _ ∧ _ ∧ _ ∧ Hid (Below w2.heap.size w2 _)); refine (rsingles_any _ _ _ (p.brk.take (cutN p.brk.length)) (cutN_len _) _ ((HP5.out.kept ((Kept.of_below HB2.out).trans (Kept.of_below hHeld.2.2.2.2.2.2.out))).take _) (by rw [cutN_len]; exact cutN_le _)).mono ?_; rintro e w5 ⟨A5, C5, rfl, hc5, hb5⟩) | (go_at_call 31; have hHeld := (by assumption : _ ∧ _ ∧ _ ∧ _ ∧ _ ∧ _ ∧ Hid (Below w2.heap.size w2 _)); refine (cutp_any _ _ p.prv _ (HP6.out.kept ((Kept.of_below HB2.out).trans (Kept.of_below hHeld.2.2.2.2.2.2.out)))).mono ?_; rintro e wx ⟨rfl, rfl⟩) | (go_at_call 30; have hHeld := (by assumption : _ ∧ _ ∧ _ ∧ _ ∧ _ ∧ _ ∧ Hid (Below w2.heap.size w2 _)); refine (rprovided_any _ _ _ (p.prv.take (cutN p.prv.length)) (cutN_len _) _ ((HP6.out.kept ((Kept.of_below HB2.out).trans (Kept.of_below hHeld.2.2.2.2.2.2.out))).take _) (by rw [cutN_len]; exact cutN_le _)).mono ?_; rintro e w6 ⟨A6, C6, rfl, hc6, hb6⟩) | (go_at_call 28; refine (rsingles_any _ _ _ (prvS (p.prv.take (cutN p.prv.length))) rfl _ hc6 (by rw [prv_len, cutN_len]; exact cutN_le _)).mono ?_; rintro e w7 ⟨A7, C7, rfl, hc7, hb7⟩))
      have hB7 : Below w.heap.size w w7 := below_next (below_next (below_next (below_next (below_drewN HB2.out 1) hb4) hb5) hb6) hb7
      have K7 := Kept.of_below hB7
      have hS : ∀ k : Nat, k < 6 → ∃ (q : List (List Atm)) (A' : Option Addr) (c' : Nat), (sixC p)[k]? = some q ∧ Clss w7 A' c' q ∧ ∀ W, (Instr.index 64 (.agg #[.slice a1 p.pre.length c1, .slice a2 p.dep.length c2, .slice a3 p.rcm.length c3, .slice A4 (singS (p.con.take (cutN p.con.length))).length C4, .slice A5 (singS (p.brk.take (cutN p.brk.length))).length C5, .slice A7 (singS (prvS (p.prv.take (cutN p.prv.length)))).length C7]) (.int .i64 k)).run Tryd.prog W = .ok (.slice A' q.length c') W := by
        intro k hk
        obtain rfl | rfl | rfl | rfl | rfl | rfl : k = 0 ∨ k = 1 ∨ k = 2 ∨ k = 3 ∨ k = 4 ∨ k = 5 := by omega
        · exact ⟨_, a1, c1, rfl, HP1.out.kept K7, fun _ => by kernel_rfl⟩
        · exact ⟨_, a2, c2, rfl, HP2.out.kept K7, fun _ => by kernel_rfl⟩
        · exact ⟨_, a3, c3, rfl, HP3.out.kept K7, fun _ => by kernel_rfl⟩
        · exact ⟨_, A4, C4, rfl, hc4.kept (((Kept.of_below hb5).trans (Kept.of_below hb6)).trans (Kept.of_below hb7)), fun _ => by kernel_rfl⟩
        · exact ⟨_, A5, C5, rfl, hc5.kept ((Kept.of_below hb6).trans (Kept.of_below hb7)), fun _ => by kernel_rfl⟩
        · exact ⟨_, A7, C7, rfl, hc7, fun _ => by kernel_rfl⟩
      have HB7 := Lib.hid hB7
      have hLn : (sixC p).length = 6 := rfl
      generalize sixC p = L at hS hLn HM
      have HL := Lib.hid hS
      have HLn := Lib.hid hLn
      clear hS hLn K7 hb4 hb5 hb6 hb7 hc4 hc5 hc6 hc7 hB7 k2 k3 k4 k5 k6 k7
      generalize Value.agg _ = ag at HL ⊢
      go_wp2
      go_loopw [36] (fun i wr => ∃ k : Nat, k ≤ 6 ∧ i = .int .i64 k ∧ Below w.heap.size w wr ∧ Kept w7 wr ∧ ∀ y ∈ L.take k, clsE y = 0) (fun i _ => 6 - (intOf i).toNat)
      case atStart => exact ⟨0, Nat.zero_le _, rfl, HB7.out, Kept.refl _, fun y hy => by simp at hy⟩
      case round =>
        obtain ⟨k, hk, rfl, hb, hkp, hn⟩ := hrel
        have HB := Lib.hid hb
        have HKp := Lib.hid hkp
        have HNn := Lib.hid hn
        clear hb hkp hn
        by_cases hlt : k < 6
        · obtain ⟨q, A', c', hq, hC, hix⟩ := HL.out k hlt
          have HC := Lib.hid (hC.kept HKp.out)
          have HQ := Lib.hid hq
          have hi0 : (0 : Int) ≤ (k : Int) := Int.natCast_nonneg _
          have hi1 : (k : Int) < 6 := by omega
          clear hC hq
          generalize hE : clsE q = E
          have HE := Lib.hid hE
          clear hE
          by_cases hE0 : E = 0
          · subst hE0
            go_wp2_with fail
            refine (rmayCls_any _ _ _ q rfl _ HC.out).mono ?_
            rintro e w9 ⟨rfl, hb9⟩
            rw [HE.out]
            go_wp2
            go_roundw
            case rel => exact ⟨k + 1, by omega, by simp, below_next HB.out hb9, HKp.out.trans (Kept.of_below hb9), lst_step HNn.out HQ.out HE.out⟩
            case measure => (try simp only [intOf]); omega
          · have hEb : (E != 0) = true := by rw [bne_iff_ne]; exact hE0
            go_wp2_with fail
            refine (rmayCls_any _ _ _ q rfl _ HC.out).mono ?_
            rintro e w9 ⟨rfl, hb9⟩
            rw [HE.out]
            go_wp2
            go_ret
            exact ⟨by rw [HM.out, lstE_at HNn.out HQ.out (by rw [HE.out]; exact hE0), HE.out]; rfl, below_next HB.out hb9⟩
        · go_wp2
          go_ret
          have hn := HNn.out
          rw [List.take_of_length_le (by rw [HLn.out]; omega)] at hn
          exact ⟨by rw [HM.out, lstE_end hn]; rfl, HB.out⟩

/-- no name twice among entries -/
def rises (s : List Ent) : Prop := s.Pairwise fun x y => x.pkg.name ≠ y.pkg.name
def upB (l : List Ent) (n : Nat) : Prop := ∀ (j : Nat) x y, j + 1 < n → l[j]? = some x → l[j + 1]? = some y → x.pkg.name < y.pkg.name
theorem bl_lt : ∀ (x y : List UInt8), Op.bytesLess x y = true → x < y
  | _, [], h => by simp [Op.bytesLess] at h
  | [], b :: y, _ => by simp
  | a :: x, b :: y, h => by
    simp only [Op.bytesLess, Bool.or_eq_true, Bool.and_eq_true, beq_iff_eq, decide_eq_true_eq] at h
    rw [List.cons_lt_cons_iff]
    rcases h with h | ⟨h1, h2⟩
    · exact .inl h
    · exact .inr ⟨h1, bl_lt x y h2⟩
theorem up_all {l : List Ent} (h : upB l l.length) : ∀ (d j : Nat) x y, l[j]? = some x → l[j + 1 + d]? = some y → x.pkg.name < y.pkg.name
  | 0, j, x, y, hx, hy => h j x y (List.getElem?_eq_some_iff.1 hy).1 hx hy
  | d + 1, j, x, y, hx, hy => by
    have hl := (List.getElem?_eq_some_iff.1 hy).1
    have hz : l[j + 1 + d]? = some (l[j + 1 + d]'(by omega)) := List.getElem?_eq_getElem (by omega)
    exact List.lt_trans (up_all h d j x _ hx hz) (h (j + 1 + d) _ y (by omega) hz (by rw [← hy]; congr 1))
theorem up_rises {l : List Ent} (h : upB l l.length) : rises l := by
  unfold rises
  rw [List.pairwise_iff_getElem]
  intro i j hi hj hij he
  have h1 := up_all h (j - i - 1) i l[i] l[j] (List.getElem?_eq_getElem hi) (by rw [show i + 1 + (j - i - 1) = j by omega]; exact List.getElem?_eq_getElem hj)
  rw [he] at h1
  exact List.lt_irrefl _ h1
def EntsOk (l : List Ent) : Prop := (∀ x ∈ l, mayE x.pkg = 0) ∧ rises l
end Go.Proofs.YtcbomomlojhghaaDoor
