/- The contracts of the program's mayClauses and May. -/
import Derived.Test.YtflmocamfedbdaaGreatDoorMaA
import Derived.Test.YtflmocamfedbdaaGreatDoorStB
import Derived.Deep.RegionHeld3
namespace Go.Proofs.YtflmocamfedbdaaGreatDoor
set_option linter.unusedSimpArgs false
set_option linter.unusedVariables false
open Go.RowKit

theorem clongc_any (A : Option Addr) (c : Nat) (l : List Atm) (w : World) (hl : Atms w A c l) :
    Calls Tryz.prog 137 #[.slice A l.length c] w fun e w' => e = .returned (.bool (longC l)) ∧ Below w.heap.size w w' := by
  have hbd := hl.bd
  clear hl
  go_enter Tryz.func137, Tryz.ntmps137
  go_wp2
  go_ret
  exact ⟨by simp [longC]; omega, Below.refl _ _⟩
set_option maxRecDepth 100000 in
theorem idxLC_any (A : Option Addr) (c : Nat) (l : List (List Atm)) (w : World) (hl : Clss w A c l) :
    Calls Tryz.prog 146 #[.slice A l.length c, .func (.func 137) #[] #[]] w fun e w' => e = .returned (.int .i64 (idxS longC l)) ∧ Below w.heap.size w w' := by
  have hbd := hl.bd
  have HL := Lib.hid hl
  clear hl
  go_enter Tryz.func146, Tryz.ntmps146
  go_wp2
  go_loopw [8] (fun i wr => ∃ k : Nat, k ≤ l.length ∧ i = .int .i64 k ∧ Below w.heap.size w wr ∧ (l.take k).any (longC) = false) (fun i _ => l.length - (intOf i).toNat)
  case atStart => exact ⟨0, Nat.zero_le _, rfl, Below.refl _ _, rfl⟩
  case round =>
    obtain ⟨k, hk, rfl, hb, hn⟩ := hrel
    have HB := Lib.hid hb
    have HN := Lib.hid hn
    clear hb hn
    by_cases hlt : k < l.length
    · obtain ⟨q, b, o, A', c', hq, rfl, hA, e0⟩ := HL.out.at_ hlt (Kept.of_below HB.out)
      have HA := Lib.hid (hA.kept (Kept.of_below HB.out))
      have HQ := Lib.hid hq
      clear hq
      go_wp2_with (go_at_call 137; refine (clongc_any _ _ q _ HA.out).mono ?_; rintro e w1 ⟨rfl, hb⟩)
      · go_ret
        exact ⟨by rw [idx_at HQ.out (by assumption) HN.out]; rfl, by have hb0 := HB.out; (repeat (first | assumption | exact Below.refl _ _ | refine below_next ?_ (by assumption) | refine below_drewN ?_ _ | refine below_alloc ?_ _))⟩
      · go_roundw
        case rel => exact ⟨k + 1, by omega, by simp, by have hb0 := HB.out; (repeat (first | assumption | exact Below.refl _ _ | refine below_next ?_ (by assumption) | refine below_drewN ?_ _ | refine below_alloc ?_ _)), any_step HQ.out (by assumption) HN.out⟩
        case measure => (try simp only [intOf]); omega
    · go_wp2
      go_ret
      exact ⟨by rw [idx_no (any_end hk hlt HN.out)]; rfl, HB.out⟩
set_option maxRecDepth 100000 in
theorem conLC_any (A : Option Addr) (c : Nat) (l : List (List Atm)) (w : World) (hl : Clss w A c l) :
    Calls Tryz.prog 136 #[.slice A l.length c, .func (.func 137) #[] #[]] w fun e w' => e = .returned (.bool (l.any longC)) ∧ Below w.heap.size w w' := by
  have HI := Lib.hid (idx_any (p := longC) (l := l))
  go_enter Tryz.func136, Tryz.ntmps136
  go_wp2_with (go_at_call 146; refine (idxLC_any _ _ _ _ hl).mono ?_; rintro e w1 ⟨rfl, hb⟩)
  go_ret
  exact ⟨by rw [← HI.out]; rfl, by (repeat (first | assumption | exact Below.refl _ _ | refine below_next ?_ (by assumption) | refine below_drewN ?_ _ | refine below_alloc ?_ _))⟩
def notA (a : Atm) : Bool := !mayA a
set_option maxRecDepth 100000 in
theorem cnota_any (a : Atm) (w : World) (ha : a.ok) :
    Calls Tryz.prog 139 #[(.agg #[.string (bs (a).name), .int .i64 (a).rel, .string (bs (a).ver)])] w fun e w' => e = .returned (.bool (notA a)) ∧ Below w.heap.size w w' := by
  go_enter Tryz.func139, Tryz.ntmps139
  go_wp2_with (go_at_call 52; refine (mayAtom_any a ha _).mono ?_; rintro e w1 ⟨rfl, hb⟩)
  go_ret
  exact ⟨rfl, by (repeat (first | assumption | exact Below.refl _ _ | refine below_next ?_ (by assumption) | refine below_drewN ?_ _ | refine below_alloc ?_ _))⟩
set_option maxRecDepth 100000 in
theorem idxNA_any (A : Option Addr) (c : Nat) (l : List Atm) (w : World) (hl : Atms w A c l) :
    Calls Tryz.prog 147 #[.slice A l.length c, .func (.func 139) #[] #[]] w fun e w' => e = .returned (.int .i64 (idxS notA l)) ∧ Below w.heap.size w w' := by
  have hbd := hl.bd
  have HL := Lib.hid hl
  clear hl
  go_enter Tryz.func147, Tryz.ntmps147
  go_wp2
  go_loopw [8] (fun i wr => ∃ k : Nat, k ≤ l.length ∧ i = .int .i64 k ∧ Below w.heap.size w wr ∧ (l.take k).any (notA) = false) (fun i _ => l.length - (intOf i).toNat)
  case atStart => exact ⟨0, Nat.zero_le _, rfl, Below.refl _ _, rfl⟩
  case round =>
    obtain ⟨k, hk, rfl, hb, hn⟩ := hrel
    have HB := Lib.hid hb
    have HN := Lib.hid hn
    clear hb hn
    by_cases hlt : k < l.length
    · obtain ⟨q, b, o, hq, rfl, hok, e0, e1, e2⟩ := HL.out.at_ hlt (Kept.of_below HB.out)
      have HQ := Lib.hid hq
      clear hq
      go_wp2_with (go_at_call 139; refine (cnota_any q _ hok).mono ?_; rintro e w1 ⟨rfl, hb⟩)
      · go_ret
        exact ⟨by rw [idx_at HQ.out (by assumption) HN.out]; rfl, by have hb0 := HB.out; (repeat (first | assumption | exact Below.refl _ _ | refine below_next ?_ (by assumption) | refine below_drewN ?_ _ | refine below_alloc ?_ _))⟩
      · go_roundw
        case rel => exact ⟨k + 1, by omega, by simp, by have hb0 := HB.out; (repeat (first | assumption | exact Below.refl _ _ | refine below_next ?_ (by assumption) | refine below_drewN ?_ _ | refine below_alloc ?_ _)), any_step HQ.out (by assumption) HN.out⟩
        case measure => (try simp only [intOf]); omega
    · go_wp2
      go_ret
      exact ⟨by rw [idx_no (any_end hk hlt HN.out)]; rfl, HB.out⟩
set_option maxRecDepth 100000 in
theorem conNA_any (A : Option Addr) (c : Nat) (l : List Atm) (w : World) (hl : Atms w A c l) :
    Calls Tryz.prog 138 #[.slice A l.length c, .func (.func 139) #[] #[]] w fun e w' => e = .returned (.bool (l.any notA)) ∧ Below w.heap.size w w' := by
  have HI := Lib.hid (idx_any (p := notA) (l := l))
  go_enter Tryz.func138, Tryz.ntmps138
  go_wp2_with (go_at_call 147; refine (idxNA_any _ _ _ _ hl).mono ?_; rintro e w1 ⟨rfl, hb⟩)
  go_ret
  exact ⟨by rw [← HI.out]; rfl, by (repeat (first | assumption | exact Below.refl _ _ | refine below_next ?_ (by assumption) | refine below_drewN ?_ _ | refine below_alloc ?_ _))⟩
theorem badC_eq (c : List Atm) : badC c = (decide (c.length = 0) || c.any notA) := rfl
theorem clsE_many {l : List (List Atm)} (h : l.any longC = true) : clsE l = 12 := by simp [clsE, h]
theorem clsE_bad {l : List (List Atm)} (h1 : l.length ≤ 12) (h2 : l.any longC = false) (h3 : l.any badC = true) : clsE l = 3 := by
  unfold clsE
  rw [h2, h3]
  simp; omega
theorem clsE_ok {l : List (List Atm)} (h1 : l.length ≤ 12) (h2 : l.any longC = false) (h3 : l.any badC = false) : clsE l = 0 := by
  unfold clsE
  rw [h2, h3]
  simp; omega
set_option maxRecDepth 100000 in
set_option maxHeartbeats 400000 in
theorem mayCls_any (A : Option Addr) (c k0 : Nat) (l : List (List Atm)) (hk0 : l.length = k0) (w : World) (hl : Clss w A c l) :
    Calls Tryz.prog 121 #[.slice A k0 c] w fun e w' => e = .returned (.int .i64 (clsE l)) ∧ Below w.heap.size w w' := by
  subst hk0
  have hbd := hl.bd
  have HL := Lib.hid hl
  clear hl
  by_cases h12 : (12 : Int) < (l.length : Int)
  · go_enter Tryz.func121, Tryz.ntmps121
    go_wp2
    go_ret
    exact ⟨by rw [clsE_long (by omega)]; rfl, Below.refl _ _⟩
  · rcases hlg : l.any longC
    · have HLG := Lib.hid hlg
      clear hlg
      go_enter Tryz.func121, Tryz.ntmps121
      go_wp2_with fail
      refine (conLC_any _ _ l _ HL.out).mono ?_
      rintro e w1 ⟨rfl, hb1⟩
      rw [HLG.out]
      have HB1 := Lib.hid hb1
      clear hb1
      go_wp2
      go_loopw [14] (fun i wr => ∃ k : Nat, k ≤ l.length ∧ i = .int .i64 k ∧ Below w.heap.size w wr ∧ (l.take k).any badC = false) (fun i _ => l.length - (intOf i).toNat)
      case atStart => exact ⟨0, Nat.zero_le _, rfl, HB1.out, rfl⟩
      case round =>
        obtain ⟨k, hk, rfl, hb, hn⟩ := hrel
        have HB := Lib.hid hb
        have HN := Lib.hid hn
        clear hb hn
        by_cases hlt : k < l.length
        · obtain ⟨q, b, o, A', c', hq, rfl, hA, e0⟩ := HL.out.at_ hlt (Kept.of_below HB.out)
          have HQ := Lib.hid hq
          have HA := Lib.hid (hA.kept (Kept.of_below HB.out))
          clear hq hA
          by_cases h0 : q = []
          · have hbd0 : badC q = true := by simp [badC, h0]
            have HBD := Lib.hid hbd0
            clear hbd0
            subst h0
            go_wp2
            go_ret
            exact ⟨by rw [clsE_bad (by omega) HLG.out (any_yes HQ.out HBD.out)]; rfl, HB.out⟩
          · have hl0 : 0 < q.length := by rcases q with _ | ⟨_, _⟩ <;> simp at h0 ⊢
            have z1 : ((q.length : Int) == 0) = false := by rw [beq_eq_false_iff_ne]; omega
            rcases hna : q.any notA
            · have HNA := Lib.hid hna
              clear hna
              go_wp2_with fail
              refine (conNA_any _ _ q _ HA.out).mono ?_
              rintro e w2 ⟨rfl, hb2⟩
              rw [HNA.out]
              go_wp2
              go_roundw
              case rel => exact ⟨k + 1, by omega, by simp, by have hb0 := HB.out; (repeat (first | assumption | exact Below.refl _ _ | refine below_next ?_ (by assumption) | refine below_drewN ?_ _ | refine below_alloc ?_ _)), any_step HQ.out (by rw [badC_eq, HNA.out]; simp; omega) HN.out⟩
              case measure => (try simp only [intOf]); omega
            · have HNA := Lib.hid hna
              clear hna
              go_wp2_with fail
              refine (conNA_any _ _ q _ HA.out).mono ?_
              rintro e w2 ⟨rfl, hb2⟩
              rw [HNA.out]
              go_wp2
              go_ret
              exact ⟨by rw [clsE_bad (by omega) HLG.out (any_yes HQ.out (by rw [badC_eq, HNA.out]; simp))]; rfl, by have hb0 := HB.out; (repeat (first | assumption | exact Below.refl _ _ | refine below_next ?_ (by assumption) | refine below_drewN ?_ _ | refine below_alloc ?_ _))⟩
        · go_wp2
          go_ret
          exact ⟨by rw [clsE_ok (by omega) HLG.out (any_end hk hlt HN.out)]; rfl, HB.out⟩
    · have HLG := Lib.hid hlg
      clear hlg
      go_enter Tryz.func121, Tryz.ntmps121
      go_wp2_with fail
      refine (conLC_any _ _ l _ HL.out).mono ?_
      rintro e w1 ⟨rfl, hb1⟩
      rw [HLG.out]
      go_wp2
      go_ret
      exact ⟨by rw [clsE_many HLG.out]; rfl, hb1⟩

def RClss (w : World) (cs : List Value) (x : List (List Atm)) : Prop := ∃ A c, cs = [.slice A x.length c] ∧ Clss w A c x
theorem RClss.kept {w w' : World} {cs : List Value} {x : List (List Atm)} (h : RClss w cs x) (hk : Kept w w') : RClss w' cs x := let ⟨A, c, h1, h2⟩ := h; ⟨A, c, h1, h2.kept hk⟩
/-- few conflicts, breaks, provides -/
def fewR (p : Pkg) : Prop := p.con.length ≤ 1000000 ∧ p.brk.length ≤ 1000000 ∧ p.prv.length ≤ 1000000
def sixL (p : Pkg) : List (List (List Atm)) := [p.pre, p.dep, p.rcm, singS p.con, singS p.brk, singS (prvS p.prv)]
theorem mayE_ok {p : Pkg} (h1 : nameS p.name = true) (h2 : isV p.ver = true) : mayE p = lstE (sixL p) := by unfold mayE; rw [h1, h2]; rfl
theorem mayE_name {p : Pkg} (h1 : nameS p.name = false) : mayE p = 3 := by simp [mayE, h1]
theorem mayE_ver {p : Pkg} (h1 : isV p.ver = false) : mayE p = 3 := by simp [mayE, h1]
/-- six lists of clauses in a block of their own -/
theorem six_slc {W : World} {g t : Nat} {p : Pkg} {a1 a2 a3 a4 a5 a6 : Option Addr} {c1 c2 c3 c4 c5 c6 : Nat}
    (hB : Blk W g t #[.slice a1 p.pre.length c1, .slice a2 p.dep.length c2, .slice a3 p.rcm.length c3, .slice a4 (singS p.con).length c4, .slice a5 (singS p.brk).length c5, .slice a6 (singS (prvS p.prv)).length c6])
    (h1 : Clss W a1 c1 p.pre) (h2 : Clss W a2 c2 p.dep) (h3 : Clss W a3 c3 p.rcm) (h4 : Clss W a4 c4 (singS p.con)) (h5 : Clss W a5 c5 (singS p.brk)) (h6 : Clss W a6 c6 (singS (prvS p.prv))) :
    Slc W 1 24 (RClss W) (some ⟨g, 0, none⟩) 6 (sixL p) :=
  slcB [[.slice a1 p.pre.length c1], [.slice a2 p.dep.length c2], [.slice a3 p.rcm.length c3], [.slice a4 (singS p.con).length c4], [.slice a5 (singS p.brk).length c5], [.slice a6 (singS (prvS p.prv)).length c6]] hB rfl rfl (fun i cs x e1 e2 => by
    rcases i with _ | _ | _ | _ | _ | _ | i <;> simp [sixL] at e1 e2 <;> (subst e1 e2; refine ⟨⟨_, _, rfl, ?_⟩, rfl⟩; assumption)) rfl (by show 6 * 24 ≤ _; decide) (by show 6 ≤ _; decide) (by decide)
set_option maxRecDepth 100000 in
set_option maxHeartbeats 1000000 in
theorem may_any (p : Pkg) (r : Raw) (w : World) (hp : RP w r p) (hf : fewR p) :
    Calls Tryz.prog 99 #[(.agg #[.string (bs (p).name), .string (bs (p).ver), .slice (r).a1 (p).pre.length (r).c1, .slice (r).a2 (p).dep.length (r).c2, .slice (r).a3 (p).rcm.length (r).c3, .slice (r).a4 (p).con.length (r).c4, .slice (r).a5 (p).brk.length (r).c5, .slice (r).a6 (p).prv.length (r).c6, .bool (p).ess])] w fun e w' => e = .returned (.int .i64 (mayE p)) ∧ Below w.heap.size w w' := by
  rcases r with ⟨a1, a2, a3, a4, a5, a6, c1, c2, c3, c4, c5, c6⟩
  dsimp only
  have hsn : p.name.length ≤ 140737488351232 := hp.1
  have HP1 := Lib.hid (show Clss w a1 c1 p.pre from hp.pre)
  have HP2 := Lib.hid (show Clss w a2 c2 p.dep from hp.dep)
  have HP3 := Lib.hid (show Clss w a3 c3 p.rcm from hp.rcm)
  have HP4 := Lib.hid (show Atms w a4 c4 p.con from hp.con)
  have HP5 := Lib.hid (show Atms w a5 c5 p.brk from hp.brk)
  have HP6 := Lib.hid (show Prvs w a6 c6 p.prv from hp.prv)
  have HF := Lib.hid hf
  clear hp hf
  rcases h : verS p.ver with _ | ⟨x, y, z⟩
  · have HV := Lib.hid (verV_none h)
    have HM := Lib.hid (mayE_ver (isV_none h))
    clear h
    go_enter Tryz.func99, Tryz.ntmps99
    go_wp2_with fail
    refine (parse_any _ _).mono ?_
    rintro e w1 ⟨rfl, hb1⟩
    rw [HV.out]
    have kP := (blk_new1 w 26 _).next hb1
    obtain ⟨e0, e1, e2, e3, e4, e5, e6, e7, e8⟩ := blk9 kP
    go_wp2_with fail
    refine (name_any _ hsn _).mono ?_
    rintro e w2 ⟨rfl, hb2⟩
    go_wp2
    all_goals go_ret
    all_goals exact ⟨by rw [HM.out]; rfl, by (repeat (first | assumption | exact Below.refl _ _ | refine below_next ?_ (by assumption) | refine below_drewN ?_ _ | refine below_alloc ?_ _))⟩
  · have HV := Lib.hid (verV_some h)
    have HI := Lib.hid (isV_some' h)
    clear h
    rcases hn : nameS p.name
    · have HN := Lib.hid hn
      have HM := Lib.hid (mayE_name hn)
      clear hn
      go_enter Tryz.func99, Tryz.ntmps99
      go_wp2_with fail
      refine (parse_any _ _).mono ?_
      rintro e w1 ⟨rfl, hb1⟩
      rw [HV.out]
      have kP := (blk_new1 w 26 _).next hb1
      obtain ⟨e0, e1, e2, e3, e4, e5, e6, e7, e8⟩ := blk9 kP
      go_wp2_with fail
      refine (name_any _ hsn _).mono ?_
      rintro e w2 ⟨rfl, hb2⟩
      rw [HN.out]
      go_wp2
      all_goals go_ret
      all_goals exact ⟨by rw [HM.out]; rfl, by (repeat (first | assumption | exact Below.refl _ _ | refine below_next ?_ (by assumption) | refine below_drewN ?_ _ | refine below_alloc ?_ _))⟩
    · have HN := Lib.hid hn
      have HM := Lib.hid (mayE_ok hn HI.out)
      clear hn
      go_enter Tryz.func99, Tryz.ntmps99
      go_wp2_with fail
      refine (parse_any _ _).mono ?_
      rintro e w1 ⟨rfl, hb1⟩
      rw [HV.out]
      have kP := (blk_new1 w 26 _).next hb1
      obtain ⟨e0, e1, e2, e3, e4, e5, e6, e7, e8⟩ := blk9 kP
      go_wp2_with fail
      refine (name_any _ hsn _).mono ?_
      rintro e w2 ⟨rfl, hb2⟩
      rw [HN.out]
      have kP2 := kP.next hb2
      obtain ⟨k0, k1, k2, k3, k4, k5, k6, k7, k8⟩ := blk9 kP2
      have HB2 := Lib.hid (show Below w.heap.size w w2 from by (repeat (first | assumption | exact Below.refl _ _ | refine below_next ?_ (by assumption) | refine below_drewN ?_ _ | refine below_alloc ?_ _)))
      clear e0 e1 e2 e3 e4 e5 e6 e7 e8 hb1 hb2 kP kP2 k0 k1 k8
      go_wp2_with fail
      go_region_held3 (fun w' => w'.cell? ⟨w.heap.size, 2, none⟩ = some (.slice a1 p.pre.length c1) ∧ w'.cell? ⟨w.heap.size, 3, none⟩ = some (.slice a2 p.dep.length c2) ∧ w'.cell? ⟨w.heap.size, 4, none⟩ = some (.slice a3 p.rcm.length c3) ∧ w'.cell? ⟨w.heap.size, 5, none⟩ = some (.slice a4 p.con.length c4) ∧ w'.cell? ⟨w.heap.size, 6, none⟩ = some (.slice a5 p.brk.length c5) ∧ w'.cell? ⟨w.heap.size, 7, none⟩ = some (.slice a6 p.prv.length c6) ∧ Hid (Below w2.heap.size w2 w')) (first | (have hHeld := (by assumption : _ ∧ _ ∧ _ ∧ _ ∧ _ ∧ _ ∧ Hid (Below w2.heap.size w2 _)); obtain ⟨q2, q3, q4, q5, q6, q7, qB⟩ := hHeld; exact ⟨Kept.of_below hb6 _ _ q2, Kept.of_below hb6 _ _ q3, Kept.of_below hb6 _ _ q4, Kept.of_below hb6 _ _ q5, Kept.of_below hb6 _ _ q6, Kept.of_below hb6 _ _ q7, below_next qB.out hb6⟩) | (have hHeld := (by assumption : _ ∧ _ ∧ _ ∧ _ ∧ _ ∧ _ ∧ Hid (Below w2.heap.size w2 _)); obtain ⟨q2, q3, q4, q5, q6, q7, qB⟩ := hHeld; exact ⟨Kept.of_below hb5 _ _ q2, Kept.of_below hb5 _ _ q3, Kept.of_below hb5 _ _ q4, Kept.of_below hb5 _ _ q5, Kept.of_below hb5 _ _ q6, Kept.of_below hb5 _ _ q7, below_next qB.out hb5⟩) | (have hHeld := (by assumption : _ ∧ _ ∧ _ ∧ _ ∧ _ ∧ _ ∧ Hid (Below w2.heap.size w2 _)); obtain ⟨q2, q3, q4, q5, q6, q7, qB⟩ := hHeld; exact ⟨Kept.of_below hb4 _ _ q2, Kept.of_below hb4 _ _ q3, Kept.of_below hb4 _ _ q4, Kept.of_below hb4 _ _ q5, Kept.of_below hb4 _ _ q6, Kept.of_below hb4 _ _ q7, below_next qB.out hb4⟩) | (have hHeld := (by assumption : _ ∧ _ ∧ _ ∧ _ ∧ _ ∧ _ ∧ Hid (Below w2.heap.size w2 _)); obtain ⟨q2, q3, q4, q5, q6, q7, qB⟩ := hHeld; exact ⟨Kept.alloc _ _ _ _ q2, Kept.alloc _ _ _ _ q3, Kept.alloc _ _ _ _ q4, Kept.alloc _ _ _ _ q5, Kept.alloc _ _ _ _ q6, Kept.alloc _ _ _ _ q7, below_alloc qB.out _⟩) | exact ⟨k2, k3, k4, k5, k6, k7, below_drewN (Below.refl _ _) 1⟩)
        (first | (go_at_call_of 119 (Value.slice a4 p.con.length c4); have hHeld := (by assumption : _ ∧ _ ∧ _ ∧ _ ∧ _ ∧ _ ∧ Hid (Below w2.heap.size w2 _)); refine (singles_any _ _ _ p.con rfl _ (HP4.out.kept ((Kept.of_below HB2.out).trans (Kept.of_below hHeld.2.2.2.2.2.2.out))) HF.out.1).mono ?_; rintro e w4 ⟨A4, C4, rfl, hc4, hb4⟩) | (go_at_call_of 119 (Value.slice a5 p.brk.length c5); have hHeld := (by assumption : _ ∧ _ ∧ _ ∧ _ ∧ _ ∧ _ ∧ Hid (Below w2.heap.size w2 _)); refine (singles_any _ _ _ p.brk rfl _ (HP5.out.kept ((Kept.of_below HB2.out).trans (Kept.of_below hHeld.2.2.2.2.2.2.out))) HF.out.2.1).mono ?_; rintro e w5 ⟨A5, C5, rfl, hc5, hb5⟩) | (go_at_call 120; have hHeld := (by assumption : _ ∧ _ ∧ _ ∧ _ ∧ _ ∧ _ ∧ Hid (Below w2.heap.size w2 _)); refine (provided_any _ _ p.prv _ (HP6.out.kept ((Kept.of_below HB2.out).trans (Kept.of_below hHeld.2.2.2.2.2.2.out))) HF.out.2.2).mono ?_; rintro e w6 ⟨A6, C6, rfl, hc6, hb6⟩))
      have hB6 : Below w.heap.size w w6 := below_next (below_next (below_next (below_drewN HB2.out 1) hb4) hb5) hb6
      have kL := blk_new1 w6 22 #[.slice a1 p.pre.length c1, .slice a2 p.dep.length c2, .slice a3 p.rcm.length c3, .slice A4 (singS p.con).length C4, .slice A5 (singS p.brk).length C5, .slice A6 (singS (prvS p.prv)).length C6]
      have K6 := (Kept.of_below hB6).trans (Kept.alloc w6 (.cells #[.slice a1 p.pre.length c1, .slice a2 p.dep.length c2, .slice a3 p.rcm.length c3, .slice A4 (singS p.con).length C4, .slice A5 (singS p.brk).length C5, .slice A6 (singS (prvS p.prv)).length C6] 22))
      have hS := six_slc kL (HP1.out.kept K6) (HP2.out.kept K6) (HP3.out.kept K6) (hc4.kept (((Kept.of_below hb5).trans (Kept.of_below hb6)).trans (Kept.alloc _ _))) (hc5.kept ((Kept.of_below hb6).trans (Kept.alloc _ _))) (hc6.kept (Kept.alloc _ _))
      have HB7 := Lib.hid (below_alloc hB6 (.cells #[.slice a1 p.pre.length c1, .slice a2 p.dep.length c2, .slice a3 p.rcm.length c3, .slice A4 (singS p.con).length C4, .slice A5 (singS p.brk).length C5, .slice A6 (singS (prvS p.prv)).length C6] 22))
      have hLn : (sixL p).length = 6 := rfl
      generalize sixL p = L at hS hLn HM
      have HL := Lib.hid hS
      have HLn := Lib.hid hLn
      clear hS hLn kL K6 hb4 hb5 hb6 hc4 hc5 hc6 hB6 k2 k3 k4 k5 k6 k7
      generalize w6.heap.size = gL at HL ⊢
      generalize World.alloc w6 _ = W at HL HB7 ⊢
      go_wp2
      go_loopw [43] (fun i wr => ∃ k : Nat, k ≤ 6 ∧ i = .int .i64 k ∧ Below w.heap.size w wr ∧ Kept W wr ∧ ∀ y ∈ L.take k, clsE y = 0) (fun i _ => 6 - (intOf i).toNat)
      case atStart => exact ⟨0, Nat.zero_le _, rfl, HB7.out, Kept.refl _, fun y hy => by simp at hy⟩
      case round =>
        obtain ⟨k, hk, rfl, hb, hkp, hn⟩ := hrel
        have HB := Lib.hid hb
        have HKp := Lib.hid hkp
        have HNn := Lib.hid hn
        clear hb hkp hn
        by_cases hlt : k < 6
        · obtain ⟨q, b, o, cs, hq, hA, ⟨A', c', hcs, hC⟩, _, hr⟩ := HL.out.at_ (by rw [HLn.out]; exact hlt)
          injection hA with hA
          injection hA with hA1 hA2
          subst hA1 hA2 hcs
          have g0 : wr.cell? ⟨gL, k, none⟩ = some (.slice A' q.length c') := by have := HKp.out _ _ (hr 0 _ rfl); simpa using this
          have HC := Lib.hid (hC.kept HKp.out)
          have HQ := Lib.hid hq
          have hi0 : (0 : Int) ≤ (k : Int) := Int.natCast_nonneg _
          have hi1 : (k : Int) < 6 := by omega
          have htn : ((k : Int)).toNat = k := Int.toNat_natCast _
          clear hr hC hq
          generalize hE : clsE q = E
          have HE := Lib.hid hE
          clear hE
          by_cases hE0 : E = 0
          · subst hE0
            go_wp2_with fail
            refine (mayCls_any _ _ _ q rfl _ HC.out).mono ?_
            rintro e w9 ⟨rfl, hb9⟩
            rw [HE.out]
            go_wp2
            go_roundw
            case rel => exact ⟨k + 1, by omega, by simp, below_next HB.out hb9, HKp.out.trans (Kept.of_below hb9), lst_step HNn.out HQ.out HE.out⟩
            case measure => (try simp only [intOf]); omega
          · have hEb : (E != 0) = true := by rw [bne_iff_ne]; exact hE0
            go_wp2_with fail
            refine (mayCls_any _ _ _ q rfl _ HC.out).mono ?_
            rintro e w9 ⟨rfl, hb9⟩
            rw [HE.out]
            go_wp2
            go_ret
            exact ⟨by rw [HM.out, lstE_at HNn.out HQ.out (by rw [HE.out]; exact hE0), HE.out]; rfl, below_next HB.out hb9⟩
        · go_wp2
          go_ret
          have hn := HNn.out
          rw [List.take_of_length_le (by rw [HLn.out]; omega)] at hn
          exact ⟨by rw [HM.out, lstE_end hn]; rfl, HB.out⟩
end Go.Proofs.YtflmocamfedbdaaGreatDoor
