/- The contract of cost.Of. -/
import Derived.Test.YtcbomomlojhghaaDoorStS
import Derived.Deep.RegionWith
namespace Go.Proofs.YtcbomomlojhghaaDoor
set_option linter.unusedSimpArgs false
set_option linter.unusedVariables false
open Go.RowKit

/-- a cost, place by place -/
structure Cst where
  a : Int
  b : Int
  c : Int
  d : Int
  e : Int
  deriving DecidableEq
def fndI (n : List UInt8) (l : List Ent) : Int := if 0 ≤ idxS (nameE n) l then idxS (nameE n) l else 0
def fndB (n : List UInt8) (l : List Ent) : Bool := decide (0 ≤ idxS (nameE n) l)
theorem findV_eq (n : List UInt8) (l : List Ent) : findV n l = .tuple #[.int .i64 (fndI n l), .bool (fndB n l)] := by
  unfold findV fndI fndB
  by_cases h : 0 ≤ idxS (nameE n) l
  · simp [h]
  · simp [h]
theorem findT_any (A : Option Addr) (c : Nat) (l : List Ent) (n : List UInt8) (w : World) (hl : Ents w A c l) :
    Calls Tryd.prog 33 #[.slice A l.length c, .string (bs n)] w fun e w' => e = .returned (.tuple #[.int .i64 (fndI n l), .bool (fndB n l)]) ∧ Below w.heap.size w w' := by
  rw [← findV_eq]
  exact find_any A c l n w hl
theorem cfind_no (A : Option Addr) (c k : Nat) (l : List Pkg) (n : List UInt8) (hk : l.length = k) (hf : fndS n l = none) (w : World) (hl : Pkgs w A c l) :
    Calls Tryd.prog 34 #[.slice A k c, .string (bs n)] w fun e w' => e = .returned (.tuple #[.agg #[.string (bs []), .string (bs []), .slice none 0 0, .slice none 0 0, .slice none 0 0, .slice none 0 0, .slice none 0 0, .slice none 0 0, .bool false], .bool false]) ∧ Below w.heap.size w w' := by
  subst hk
  have := cfind_any A c l n w hl
  rw [hf] at this
  exact this
theorem cfind_yes (A : Option Addr) (c k : Nat) (l : List Pkg) (n : List UInt8) (q : Pkg) (hk : l.length = k) (hf : fndS n l = some q) (w : World) (hl : Pkgs w A c l) :
    Calls Tryd.prog 34 #[.slice A k c, .string (bs n)] w fun e w' => (∃ r, RP w r q ∧ e = .returned (.tuple #[(.agg #[.string (bs (q).name), .string (bs (q).ver), .slice (r).a1 (q).pre.length (r).c1, .slice (r).a2 (q).dep.length (r).c2, .slice (r).a3 (q).rcm.length (r).c3, .slice (r).a4 (q).con.length (r).c4, .slice (r).a5 (q).brk.length (r).c5, .slice (r).a6 (q).prv.length (r).c6, .bool (q).ess]), .bool true])) ∧ Below w.heap.size w w' := by
  subst hk
  have := cfind_any A c l n w hl
  rw [hf] at this
  exact this
theorem Slc.take {α : Type} {w : World} {k z : Nat} {R : List Value → α → Prop} {A : Option Addr} {c : Nat} {l : List α} (h : Slc w k z R A c l) (n : Nat) : Slc w k z R A c (l.take n) := by
  obtain ⟨h1, h2, h3, h4⟩ := h
  have hle : (l.take n).length ≤ l.length := by simp; omega
  refine ⟨by omega, h2, Nat.le_trans (Nat.mul_le_mul_right _ hle) h3, fun h0 => ?_⟩
  obtain ⟨b, o, hA, hx⟩ := h4 (by omega)
  refine ⟨b, o, hA, fun i x hi => hx i x ?_⟩
  rw [List.getElem?_take] at hi
  split at hi
  · exact hi
  · cases hi
theorem Pkgs.take {w : World} {A : Option Addr} {c : Nat} {l : List Pkg} (h : Pkgs w A c l) (n : Nat) : Pkgs w A c (l.take n) := Slc.take h n

theorem below_drew {w w1 : World} (h : Below w.heap.size w w1) : Below w.heap.size w w1.drew := below_drewN h 1
theorem Blk.drew {w : World} {g : Nat} {t : TypeId} {cs : Array Value} (h : Blk w g t cs) : Blk w.drew g t cs := h
theorem Blk.nextOf {w w' : World} {g : Nat} {t : TypeId} {cs : Array Value} (hb : Below w.heap.size w w') (h : Blk w g t cs) : Blk w' g t cs := h.next hb
/-- the entry at a place is counted as taken out -/
def remQ (t : List Pkg) (s : List Ent) (k : Nat) : Bool := match s[k]? with
  | some x => decide (fndI x.pkg.name s = k) && (fndS x.pkg.name t).isNone
  | none => false
/-- the entry at a place is counted as changed -/
def chgQ (t : List Pkg) (s : List Ent) (k : Nat) : Bool := match s[k]? with
  | some x => decide (fndI x.pkg.name s = k) && (match fndS x.pkg.name t with | some y => !sameV y.ver x.pkg.ver | none => false)
  | none => false
/-- the package at a place is counted as new -/
def addQ (t : List Pkg) (s : List Ent) (k : Nat) : Bool := match t[k]? with
  | some p => (fndS p.name (t.take k)).isNone && !fndB p.name s
  | none => false
def upto (p : Nat → Bool) (k : Nat) : Nat := (List.range k).countP p
theorem upto_step (p : Nat → Bool) (k : Nat) : upto p (k + 1) = upto p k + if p k then 1 else 0 := by
  unfold upto
  rw [List.range_succ, List.countP_append]
  simp [List.countP_cons]
theorem upto_le (p : Nat → Bool) (k : Nat) : upto p k ≤ k := Nat.le_trans List.countP_le_length (by simp)
def lateT (t all : List Pkg) (k : Nat) : Nat := ((t.take k).map fun p => newerS p all).sum
theorem lateT_step {t all : List Pkg} {k : Nat} {q : Pkg} (hq : t[k]? = some q) : lateT t all (k + 1) = lateT t all k + newerS q all := by
  unfold lateT
  rw [take_step hq, List.map_append, List.sum_append]
  simp
theorem newer_le (q : Pkg) (all : List Pkg) : newerS q all ≤ all.length := List.countP_le_length
theorem lateT_le {t all : List Pkg} (h : all.length ≤ 1000000) (k : Nat) (hk : k ≤ t.length) : lateT t all k ≤ k * 1000000 := by
  induction k with
  | zero => simp [lateT]
  | succ k ih =>
    have h1 := ih (by omega)
    have hq : t[k]? = some (t[k]'(by omega)) := List.getElem?_eq_getElem (by omega)
    have h2 := newer_le (t[k]'(by omega)) all
    rw [lateT_step hq]
    omega
/-- what a whole costs -/
def costS (t : List Pkg) (s : List Ent) (all : List Pkg) (up : Bool) : Cst :=
  if up then ⟨lateT t all t.length, upto (remQ t s) s.length, unmetS t, upto (addQ t s) t.length, upto (chgQ t s) s.length⟩
  else ⟨upto (remQ t s) s.length, upto (chgQ t s) s.length, unmetS t, upto (addQ t s) t.length, lateT t all t.length⟩

set_option maxRecDepth 100000 in
set_option maxHeartbeats 4000000 in
theorem costOf_any (A : Option Addr) (c : Nat) (t : List Pkg) (A' : Option Addr) (c' : Nat) (s : List Ent) (A2 : Option Addr) (c2 : Nat) (all : List Pkg) (up : Bool) (w : World) (ht : Pkgs w A c t) (hs : Ents w A' c' s) (hal : Pkgs w A2 c2 all) (hf : fewP t) (hfa : all.length ≤ 1000000) :
    Calls Tryd.prog 13 #[.slice A t.length c, .slice A' s.length c', .slice A2 all.length c2, .bool up] w fun e w' => e = .returned (.agg #[.int .i64 (costS t s all up).a, .int .i64 (costS t s all up).b, .int .i64 (costS t s all up).c, .int .i64 (costS t s all up).d, .int .i64 (costS t s all up).e]) ∧ Below w.heap.size w w' := by
  have hbd := ht.bd
  have hbd2 := hs.bd
  have hbd3 := hal.bd
  have hfl := hf.1
  have HF := Lib.hid hf
  have HT := Lib.hid ht
  have HS := Lib.hid hs
  have HA := Lib.hid hal
  clear ht hs hal hf
  go_enter Tryd.func13, Tryd.ntmps13
  go_wp2
  go_loopw [9, 10, 27] (fun rm ch i wr => ∃ k : Nat, k ≤ s.length ∧ i = .int .i64 k ∧ rm = .int .i64 (upto (remQ t s) k : Nat) ∧ ch = .int .i64 (upto (chgQ t s) k : Nat) ∧ Below w.heap.size w wr ∧ Blk wr w.heap.size 37 #[.int .i64 0, .int .i64 0, .int .i64 0, .int .i64 0, .int .i64 0]) (fun _ _ i _ => s.length - (intOf i).toNat)
  case atStart => exact ⟨0, Nat.zero_le _, rfl, rfl, rfl, (Below.refl _ _).alloc (Nat.le_refl _) _, blk_new1 _ _ _⟩
  case round =>
    obtain ⟨k, hk, rfl, rfl, rfl, hb, hZ⟩ := hrel
    have hu1 := upto_le (remQ t s) k
    have hu2 := upto_le (chgQ t s) k
    by_cases hlt : k < s.length
    · generalize hR : upto (remQ t s) k = R at hu1 ⊢
      generalize hC : upto (chgQ t s) k = C at hu2 ⊢
      have HREM := Lib.hid hR
      have HCHG := Lib.hid hC
      have HB := Lib.hid hb
      have HZ := Lib.hid hZ
      clear hb hZ hR hC
      obtain ⟨x, b, o, r, hx, rfl, hr, e0, e1, e2, e3, e4, e5, e6, e7, e8, e9, e10⟩ := HS.out.at_ hlt (Kept.of_below HB.out)
      by_cases hI : fndI x.pkg.name s = (k : Int)
      · rcases hF : fndS x.pkg.name t with _ | y
        · have HQ1 := Lib.hid (show remQ t s k = true by unfold remQ; rw [hx]; simp [hI, hF])
          have HQ2 := Lib.hid (show chgQ t s k = false by unfold chgQ; rw [hx]; simp [hI, hF])
          have HFN := Lib.hid hF
          have HI := Lib.hid hI
          clear hx hr hI hF
          go_wp2_with fail
          refine (findT_any _ _ s x.pkg.name _ (HS.out.kept ((Kept.of_below HB.out).trans (Kept.alloc _ _)))).mono ?_
          rintro e w1 ⟨rfl, hb1⟩
          rw [HI.out]
          have kE := (blk_new1 _ _ _).next hb1
          obtain ⟨d0, d1, _⟩ := blk11 kE
          have hsz1 : wr.heap.size < w1.heap.size := kE.lt
          clear e0 e1 e2 e3 e4 e5 e6 e7 e8 e9 e10
          go_wp2_with fail
          refine (cfind_no _ _ _ t x.pkg.name rfl HFN.out _ (HT.out.kept (((Kept.of_below HB.out).trans (Kept.alloc _ _)).trans (Kept.of_below hb1)))).mono ?_
          rintro e w2 ⟨rfl, hb2⟩
          go_wp2
          all_goals
            go_roundw
            case rel =>
              refine ⟨k + 1, by omega, by simp, ?_, ?_, by have hb0 := HB.out; (repeat (first | assumption | exact Below.refl _ _ | refine below_next ?_ (by assumption) | refine below_drewN ?_ _ | refine below_alloc ?_ _)), by have hZ0 := HZ.out; (repeat (first | assumption | exact Blk.next (by assumption) (by assumption) | refine Blk.next ?_ (by assumption) | refine Blk.alloc ?_ _))⟩
              · rw [upto_step, HREM.out, HQ1.out]; simp
              · rw [upto_step, HCHG.out, HQ2.out]; simp
            case measure => (try simp only [intOf]); omega
        · have HFN := Lib.hid hF
          have HI := Lib.hid hI
          rcases hsv : sameV y.ver x.pkg.ver
          · have HQ1 := Lib.hid (show remQ t s k = false by unfold remQ; rw [hx]; simp [hI, hF])
            have HQ2 := Lib.hid (show chgQ t s k = true by unfold chgQ; rw [hx]; simp [hI, hF, hsv])
            have HSV := Lib.hid hsv
            clear hx hr hI hF hsv
            go_wp2_with fail
            refine (findT_any _ _ s x.pkg.name _ (HS.out.kept ((Kept.of_below HB.out).trans (Kept.alloc _ _)))).mono ?_
            rintro e w1 ⟨rfl, hb1⟩
            rw [HI.out]
            have kE := (blk_new1 _ _ _).next hb1
            obtain ⟨d0, d1, _⟩ := blk11 kE
            have hsz1 : wr.heap.size < w1.heap.size := kE.lt
            clear e0 e1 e2 e3 e4 e5 e6 e7 e8 e9 e10
            go_wp2_with fail
            refine (cfind_yes _ _ _ t x.pkg.name y rfl HFN.out _ (HT.out.kept (((Kept.of_below HB.out).trans (Kept.alloc _ _)).trans (Kept.of_below hb1)))).mono ?_
            rintro e w2 ⟨⟨ry, hry, rfl⟩, hb2⟩
            have kE2 := kE.next hb2
            obtain ⟨d0, d1, _⟩ := blk11 kE2
            have hsz2 : wr.heap.size < w2.heap.size := kE2.lt
            clear kE hry
            go_wp2_with fail
            refine (Same_any _ _ _).mono ?_
            rintro e w3 ⟨rfl, hb3⟩
            rw [HSV.out]
            go_wp2
            all_goals
              go_roundw
              case rel =>
                refine ⟨k + 1, by omega, by simp, ?_, ?_, by have hb0 := HB.out; (repeat (first | assumption | exact Below.refl _ _ | refine below_next ?_ (by assumption) | refine below_drewN ?_ _ | refine below_alloc ?_ _)), by have hZ0 := HZ.out; (repeat (first | assumption | exact Blk.next (by assumption) (by assumption) | refine Blk.next ?_ (by assumption) | refine Blk.alloc ?_ _))⟩
                · rw [upto_step, HREM.out, HQ1.out]; simp
                · rw [upto_step, HCHG.out, HQ2.out]; simp
              case measure => (try simp only [intOf]); omega
          · have HQ1 := Lib.hid (show remQ t s k = false by unfold remQ; rw [hx]; simp [hI, hF])
            have HQ2 := Lib.hid (show chgQ t s k = false by unfold chgQ; rw [hx]; simp [hI, hF, hsv])
            have HSV := Lib.hid hsv
            clear hx hr hI hF hsv
            go_wp2_with fail
            refine (findT_any _ _ s x.pkg.name _ (HS.out.kept ((Kept.of_below HB.out).trans (Kept.alloc _ _)))).mono ?_
            rintro e w1 ⟨rfl, hb1⟩
            rw [HI.out]
            have kE := (blk_new1 _ _ _).next hb1
            obtain ⟨d0, d1, _⟩ := blk11 kE
            have hsz1 : wr.heap.size < w1.heap.size := kE.lt
            clear e0 e1 e2 e3 e4 e5 e6 e7 e8 e9 e10
            go_wp2_with fail
            refine (cfind_yes _ _ _ t x.pkg.name y rfl HFN.out _ (HT.out.kept (((Kept.of_below HB.out).trans (Kept.alloc _ _)).trans (Kept.of_below hb1)))).mono ?_
            rintro e w2 ⟨⟨ry, hry, rfl⟩, hb2⟩
            have kE2 := kE.next hb2
            obtain ⟨d0, d1, _⟩ := blk11 kE2
            have hsz2 : wr.heap.size < w2.heap.size := kE2.lt
            clear kE hry
            go_wp2_with fail
            refine (Same_any _ _ _).mono ?_
            rintro e w3 ⟨rfl, hb3⟩
            rw [HSV.out]
            go_wp2
            all_goals
              go_roundw
              case rel =>
                refine ⟨k + 1, by omega, by simp, ?_, ?_, by have hb0 := HB.out; (repeat (first | assumption | exact Below.refl _ _ | refine below_next ?_ (by assumption) | refine below_drewN ?_ _ | refine below_alloc ?_ _)), by have hZ0 := HZ.out; (repeat (first | assumption | exact Blk.next (by assumption) (by assumption) | refine Blk.next ?_ (by assumption) | refine Blk.alloc ?_ _))⟩
                · rw [upto_step, HREM.out, HQ1.out]; simp
                · rw [upto_step, HCHG.out, HQ2.out]; simp
              case measure => (try simp only [intOf]); omega
      · have HQ1 := Lib.hid (show remQ t s k = false by unfold remQ; rw [hx]; simp [hI])
        have HQ2 := Lib.hid (show chgQ t s k = false by unfold chgQ; rw [hx]; simp [hI])
        have hne : (fndI x.pkg.name s != (k : Int)) = true := by rw [bne_iff_ne]; exact hI
        clear hx hr
        go_wp2_with fail
        refine (findT_any _ _ s x.pkg.name _ (HS.out.kept ((Kept.of_below HB.out).trans (Kept.alloc _ _)))).mono ?_
        rintro e w1 ⟨rfl, hb1⟩
        clear e0 e1 e2 e3 e4 e5 e6 e7 e8 e9 e10
        go_wp2
        all_goals
          go_roundw
          case rel =>
            refine ⟨k + 1, by omega, by simp, ?_, ?_, by have hb0 := HB.out; (repeat (first | assumption | exact Below.refl _ _ | refine below_next ?_ (by assumption) | refine below_drewN ?_ _ | refine below_alloc ?_ _)), by have hZ0 := HZ.out; (repeat (first | assumption | exact Blk.next (by assumption) (by assumption) | refine Blk.next ?_ (by assumption) | refine Blk.alloc ?_ _))⟩
            · rw [upto_step, HREM.out, HQ1.out]; simp
            · rw [upto_step, HCHG.out, HQ2.out]; simp
          case measure => (try simp only [intOf]); omega
    · have hks : k = s.length := by omega
      subst hks
      generalize hR : upto (remQ t s) s.length = R at hu1 ⊢
      generalize hC : upto (chgQ t s) s.length = C at hu2 ⊢
      have HREM := Lib.hid hR
      have HCHG := Lib.hid hC
      clear hR hC hlt
      go_wp2
      clear hk
      go_loopw [11, 12, 69] (fun ad la i wr => ∃ k : Nat, k ≤ t.length ∧ i = .int .i64 k ∧ ad = .int .i64 (upto (addQ t s) k : Nat) ∧ la = .int .i64 (lateT t all k : Nat) ∧ Below w.heap.size w wr ∧ Blk wr w.heap.size 37 #[.int .i64 0, .int .i64 0, .int .i64 0, .int .i64 0, .int .i64 0]) (fun _ _ i _ => t.length - (intOf i).toNat)
      case atStart => exact ⟨0, Nat.zero_le _, rfl, rfl, rfl, hb, hZ⟩
      case round =>
        clear hb hZ
        obtain ⟨k, hk, rfl, rfl, rfl, hb, hZ⟩ := hrel
        have hu3 := upto_le (addQ t s) k
        have hu4 := lateT_le (t := t) hfa k hk
        by_cases hlt : k < t.length
        · obtain ⟨q, b, o, r, hq, rfl, hr, e0, e1, e2, e3, e4, e5, e6, e7, e8⟩ := HT.out.at_ hlt (Kept.of_below hb)
          have hst := lateT_step (all := all) hq
          generalize hA : upto (addQ t s) k = AD at hu3 ⊢
          generalize hL : lateT t all k = LA at hst hu4 ⊢
          have HADD := Lib.hid hA
          have HST := Lib.hid hst
          have HB := Lib.hid hb
          have HZ := Lib.hid hZ
          have hnw := newer_le q all
          have hi0 : (0 : Int) ≤ (k : Int) := Int.natCast_nonneg _
          have hi1 : (k : Int) ≤ (t.length : Int) := by omega
          have hi2 : (k : Int) ≤ (c : Int) := by omega
          have htn : ((k : Int)).toNat = k := Int.toNat_natCast _
          have hwr := hb.size
          have hwz := hZ.lt
          clear hA hL hst hb hZ
          rcases hF : fndS q.name (t.take k) with _ | y
          · have HFN := Lib.hid hF
            have HTK := Lib.hid (HT.out.take k)
            have hlk : (t.take k).length = k := by simp; omega
            have HLK := Lib.hid hlk
            clear hlk
            rcases hFB : fndB q.name s
            · have HQ := Lib.hid (show addQ t s k = true by unfold addQ; rw [hq]; simp [hF, hFB])
              have HFB := Lib.hid hFB
              clear hq hF hr hFB
              go_wp2_with fail
              clear e0 e1 e2 e3 e4 e5 e6 e7 e8
              go_region_with (first | (go_at_call 34; refine (cfind_no _ _ k (t.take k) q.name HLK.out HFN.out _ (HTK.out.kept ((((Kept.of_below HB.out).trans (Kept.alloc _ _)).trans (Kept.alloc _ _)).trans (Kept.drew _)))).mono ?_; rintro e w1 ⟨rfl, hb1⟩; have kP := Blk.nextOf hb1 (Blk.drew (Blk.alloc (blk_new1 wr _ _) _)); obtain ⟨c0, c1, c2, c3, c4, c5, c6, c7, c8⟩ := blk9 kP; have kO := Blk.nextOf hb1 (Blk.drew (blk_new2 wr _ _ _)); obtain ⟨z0, z1, z2, z3, z4, z5, z6, z7, z8⟩ := blk9 kO; have f0 := kO.frozen 0; have f1 := kO.frozen 1; have f2 := kO.frozen 2; have f3 := kO.frozen 3; have f4 := kO.frozen 4; have f5 := kO.frozen 5; have f6 := kO.frozen 6; have f7 := kO.frozen 7; have f8 := kO.frozen 8; have hsz1 : wr.heap.size < w1.heap.size := kP.lt; have hsz2 : wr.heap.size + 1 < w1.heap.size := kO.lt; have HB1 := Lib.hid (below_next (below_drew (below_alloc (below_alloc HB.out _) _)) hb1); have KZ1 := Lib.hid (Blk.nextOf hb1 (Blk.drew (Blk.alloc (Blk.alloc HZ.out _) _)))) | (go_at_call 34; refine (cfind_no _ _ k (t.take k) q.name HLK.out HFN.out _ (HTK.out.kept (((Kept.of_below HB.out).trans (Kept.alloc _ _)).trans (Kept.drew _)))).mono ?_; rintro e w1 ⟨rfl, hb1⟩; have kP := Blk.nextOf hb1 (Blk.drew (blk_new1 wr _ _)); obtain ⟨c0, c1, c2, c3, c4, c5, c6, c7, c8⟩ := blk9 kP; have hsz1 : wr.heap.size < w1.heap.size := kP.lt; have HB1 := Lib.hid (below_next (below_drew (below_alloc HB.out _)) hb1); have KZ1 := Lib.hid (Blk.nextOf hb1 (Blk.drew (Blk.alloc HZ.out _)))) )
              all_goals
                go_wp2_with fail
                refine (findT_any _ _ s q.name _ (HS.out.kept (Kept.of_below (by (repeat (first | with_reducible exact HB1.out | with_reducible refine below_alloc ?_ _ | with_reducible refine Below.setCell ?_ (show w.heap.size ≤ _ from by dsimp only; omega) _)))))).mono ?_
                rintro e w5 ⟨rfl, hb6⟩
                rw [HFB.out]
                have kP5 : Blk w5 wr.heap.size 28 #[.string (bs (q).name), .string (bs (q).ver), .slice (r).a1 (q).pre.length (r).c1, .slice (r).a2 (q).dep.length (r).c2, .slice (r).a3 (q).rcm.length (r).c3, .slice (r).a4 (q).con.length (r).c4, .slice (r).a5 (q).brk.length (r).c5, .slice (r).a6 (q).prv.length (r).c6, .bool (q).ess] := Blk.nextOf hb6 (by (repeat (first | with_reducible exact kP | with_reducible refine Blk.alloc ?_ _ | with_reducible refine Blk.far ?_ (by dsimp only; omega) _)))
                obtain ⟨c0, c1, c2, c3, c4, c5, c6, c7, c8⟩ := blk9 kP5
                have hsz5 : wr.heap.size < w5.heap.size := kP5.lt
                have HB5 := Lib.hid (show Below w.heap.size w w5 from below_next (by (repeat (first | with_reducible exact HB1.out | with_reducible refine below_alloc ?_ _ | with_reducible refine Below.setCell ?_ (show w.heap.size ≤ _ from by dsimp only; omega) _))) hb6)
                have KZ5 := Lib.hid (show Blk w5 w.heap.size 37 #[.int .i64 0, .int .i64 0, .int .i64 0, .int .i64 0, .int .i64 0] from Blk.nextOf hb6 (by (repeat (first | with_reducible exact KZ1.out | with_reducible refine Blk.alloc ?_ _ | with_reducible refine Blk.far ?_ (by dsimp only; omega) _))))
                clear kP hb1
                go_wp2_with fail
                refine (newer_any q r _ _ all _ (HA.out.kept (Kept.of_below HB5.out))).mono ?_
                rintro e w4 ⟨rfl, hb4⟩
                have hb5 : Below w.heap.size w w4 := below_next HB5.out hb4
                have kZ4 : Blk w4 w.heap.size 37 #[.int .i64 0, .int .i64 0, .int .i64 0, .int .i64 0, .int .i64 0] := Blk.nextOf hb4 KZ5.out
                go_wp2
                all_goals
                  go_roundw
                  case rel =>
                    refine ⟨k + 1, by omega, by simp, ?_, ?_, hb5, kZ4⟩
                    · rw [upto_step, HADD.out, HQ.out]; simp
                    · rw [HST.out]; simp
                  case measure => (try simp only [intOf]); omega
            · have HQ := Lib.hid (show addQ t s k = false by unfold addQ; rw [hq]; simp [hF, hFB])
              have HFB := Lib.hid hFB
              clear hq hF hr hFB
              go_wp2_with fail
              clear e0 e1 e2 e3 e4 e5 e6 e7 e8
              go_region_with (first | (go_at_call 34; refine (cfind_no _ _ k (t.take k) q.name HLK.out HFN.out _ (HTK.out.kept ((((Kept.of_below HB.out).trans (Kept.alloc _ _)).trans (Kept.alloc _ _)).trans (Kept.drew _)))).mono ?_; rintro e w1 ⟨rfl, hb1⟩; have kP := Blk.nextOf hb1 (Blk.drew (Blk.alloc (blk_new1 wr _ _) _)); obtain ⟨c0, c1, c2, c3, c4, c5, c6, c7, c8⟩ := blk9 kP; have kO := Blk.nextOf hb1 (Blk.drew (blk_new2 wr _ _ _)); obtain ⟨z0, z1, z2, z3, z4, z5, z6, z7, z8⟩ := blk9 kO; have f0 := kO.frozen 0; have f1 := kO.frozen 1; have f2 := kO.frozen 2; have f3 := kO.frozen 3; have f4 := kO.frozen 4; have f5 := kO.frozen 5; have f6 := kO.frozen 6; have f7 := kO.frozen 7; have f8 := kO.frozen 8; have hsz1 : wr.heap.size < w1.heap.size := kP.lt; have hsz2 : wr.heap.size + 1 < w1.heap.size := kO.lt; have HB1 := Lib.hid (below_next (below_drew (below_alloc (below_alloc HB.out _) _)) hb1); have KZ1 := Lib.hid (Blk.nextOf hb1 (Blk.drew (Blk.alloc (Blk.alloc HZ.out _) _)))) | (go_at_call 34; refine (cfind_no _ _ k (t.take k) q.name HLK.out HFN.out _ (HTK.out.kept (((Kept.of_below HB.out).trans (Kept.alloc _ _)).trans (Kept.drew _)))).mono ?_; rintro e w1 ⟨rfl, hb1⟩; have kP := Blk.nextOf hb1 (Blk.drew (blk_new1 wr _ _)); obtain ⟨c0, c1, c2, c3, c4, c5, c6, c7, c8⟩ := blk9 kP; have hsz1 : wr.heap.size < w1.heap.size := kP.lt; have HB1 := Lib.hid (below_next (below_drew (below_alloc HB.out _)) hb1); have KZ1 := Lib.hid (Blk.nextOf hb1 (Blk.drew (Blk.alloc HZ.out _)))) )
              all_goals
                go_wp2_with fail
                refine (findT_any _ _ s q.name _ (HS.out.kept (Kept.of_below (by (repeat (first | with_reducible exact HB1.out | with_reducible refine below_alloc ?_ _ | with_reducible refine Below.setCell ?_ (show w.heap.size ≤ _ from by dsimp only; omega) _)))))).mono ?_
                rintro e w5 ⟨rfl, hb6⟩
                rw [HFB.out]
                have kP5 : Blk w5 wr.heap.size 28 #[.string (bs (q).name), .string (bs (q).ver), .slice (r).a1 (q).pre.length (r).c1, .slice (r).a2 (q).dep.length (r).c2, .slice (r).a3 (q).rcm.length (r).c3, .slice (r).a4 (q).con.length (r).c4, .slice (r).a5 (q).brk.length (r).c5, .slice (r).a6 (q).prv.length (r).c6, .bool (q).ess] := Blk.nextOf hb6 (by (repeat (first | with_reducible exact kP | with_reducible refine Blk.alloc ?_ _ | with_reducible refine Blk.far ?_ (by dsimp only; omega) _)))
                obtain ⟨c0, c1, c2, c3, c4, c5, c6, c7, c8⟩ := blk9 kP5
                have hsz5 : wr.heap.size < w5.heap.size := kP5.lt
                have HB5 := Lib.hid (show Below w.heap.size w w5 from below_next (by (repeat (first | with_reducible exact HB1.out | with_reducible refine below_alloc ?_ _ | with_reducible refine Below.setCell ?_ (show w.heap.size ≤ _ from by dsimp only; omega) _))) hb6)
                have KZ5 := Lib.hid (show Blk w5 w.heap.size 37 #[.int .i64 0, .int .i64 0, .int .i64 0, .int .i64 0, .int .i64 0] from Blk.nextOf hb6 (by (repeat (first | with_reducible exact KZ1.out | with_reducible refine Blk.alloc ?_ _ | with_reducible refine Blk.far ?_ (by dsimp only; omega) _))))
                clear kP hb1
                go_wp2_with fail
                refine (newer_any q r _ _ all _ (HA.out.kept (Kept.of_below HB5.out))).mono ?_
                rintro e w4 ⟨rfl, hb4⟩
                have hb5 : Below w.heap.size w w4 := below_next HB5.out hb4
                have kZ4 : Blk w4 w.heap.size 37 #[.int .i64 0, .int .i64 0, .int .i64 0, .int .i64 0, .int .i64 0] := Blk.nextOf hb4 KZ5.out
                go_wp2
                all_goals
                  go_roundw
                  case rel =>
                    refine ⟨k + 1, by omega, by simp, ?_, ?_, hb5, kZ4⟩
                    · rw [upto_step, HADD.out, HQ.out]; simp
                    · rw [HST.out]; simp
                  case measure => (try simp only [intOf]); omega
          · have HFN := Lib.hid hF
            have HQ := Lib.hid (show addQ t s k = false by unfold addQ; rw [hq]; simp [hF])
            clear hq hF hr
            have HTK := Lib.hid (HT.out.take k)
            have hlk : (t.take k).length = k := by simp; omega
            have HLK := Lib.hid hlk
            clear hlk
            go_wp2_with fail
            clear e0 e1 e2 e3 e4 e5 e6 e7 e8
            go_region_with (first | (go_at_call 34; refine (cfind_yes _ _ k (t.take k) q.name y HLK.out HFN.out _ (HTK.out.kept ((((Kept.of_below HB.out).trans (Kept.alloc _ _)).trans (Kept.alloc _ _)).trans (Kept.drew _)))).mono ?_; rintro e w1 ⟨⟨ry, hry, rfl⟩, hb1⟩; have kP := Blk.nextOf hb1 (Blk.drew (Blk.alloc (blk_new1 wr _ _) _)); obtain ⟨c0, c1, c2, c3, c4, c5, c6, c7, c8⟩ := blk9 kP; have kO := Blk.nextOf hb1 (Blk.drew (blk_new2 wr _ _ _)); obtain ⟨z0, z1, z2, z3, z4, z5, z6, z7, z8⟩ := blk9 kO; have f0 := kO.frozen 0; have f1 := kO.frozen 1; have f2 := kO.frozen 2; have f3 := kO.frozen 3; have f4 := kO.frozen 4; have f5 := kO.frozen 5; have f6 := kO.frozen 6; have f7 := kO.frozen 7; have f8 := kO.frozen 8; have hsz1 : wr.heap.size < w1.heap.size := kP.lt; have hsz2 : wr.heap.size + 1 < w1.heap.size := kO.lt; have HB1 := Lib.hid (below_next (below_drew (below_alloc (below_alloc HB.out _) _)) hb1); have KZ1 := Lib.hid (Blk.nextOf hb1 (Blk.drew (Blk.alloc (Blk.alloc HZ.out _) _)))) | (go_at_call 34; refine (cfind_yes _ _ k (t.take k) q.name y HLK.out HFN.out _ (HTK.out.kept (((Kept.of_below HB.out).trans (Kept.alloc _ _)).trans (Kept.drew _)))).mono ?_; rintro e w1 ⟨⟨ry, hry, rfl⟩, hb1⟩; have kP := Blk.nextOf hb1 (Blk.drew (blk_new1 wr _ _)); obtain ⟨c0, c1, c2, c3, c4, c5, c6, c7, c8⟩ := blk9 kP; have hsz1 : wr.heap.size < w1.heap.size := kP.lt; have HB1 := Lib.hid (below_next (below_drew (below_alloc HB.out _)) hb1); have KZ1 := Lib.hid (Blk.nextOf hb1 (Blk.drew (Blk.alloc HZ.out _)))) )
            all_goals
              go_wp2_with fail
              refine (newer_any q r _ _ all _ (HA.out.kept (Kept.of_below (by (repeat (first | with_reducible exact HB1.out | with_reducible refine below_alloc ?_ _ | with_reducible refine Below.setCell ?_ (show w.heap.size ≤ _ from by dsimp only; omega) _)))))).mono ?_
              rintro e w4 ⟨rfl, hb4⟩
              have hb5 : Below w.heap.size w w4 := below_next (by (repeat (first | with_reducible exact HB1.out | with_reducible refine below_alloc ?_ _ | with_reducible refine Below.setCell ?_ (show w.heap.size ≤ _ from by dsimp only; omega) _))) hb4
              have kZ4 : Blk w4 w.heap.size 37 #[.int .i64 0, .int .i64 0, .int .i64 0, .int .i64 0, .int .i64 0] := Blk.nextOf hb4 (by (repeat (first | with_reducible exact KZ1.out | with_reducible refine Blk.alloc ?_ _ | with_reducible refine Blk.far ?_ (by dsimp only; omega) _)))
              go_wp2
              all_goals
                go_roundw
                case rel =>
                  refine ⟨k + 1, by omega, by simp, ?_, ?_, hb5, kZ4⟩
                  · rw [upto_step, HADD.out, HQ.out]; simp
                  · rw [HST.out]; simp
                case measure => (try simp only [intOf]); omega
        · have hkt : k = t.length := by omega
          subst hkt
          generalize hA : upto (addQ t s) t.length = AD at hu3 ⊢
          generalize hL : lateT t all t.length = LA at hu4 ⊢
          cases up
          · go_wp2_with fail
            refine (unmet_any _ _ t _ (HT.out.kept (Kept.of_below hb)) HF.out).mono ?_
            rintro e w1 ⟨rfl, hb1⟩
            have kZ := hZ.next hb1
            have c0 := kZ.cell 0
            have c1 := kZ.cell 1
            have c2 := kZ.cell 2
            have c3 := kZ.cell 3
            have c4 := kZ.cell 4
            simp only [List.getElem?_toArray, List.getElem?_cons_zero, List.getElem?_cons_succ] at c0 c1 c2 c3 c4
            have f0 := kZ.frozen 0
            have f1 := kZ.frozen 1
            have f2 := kZ.frozen 2
            have f3 := kZ.frozen 3
            have f4 := kZ.frozen 4
            have hsz : w.heap.size < w1.heap.size := kZ.lt
            have hb2 := below_next hb hb1
            go_wp2
            refine bodyPost_ret (v := .agg #[.int .i64 R, .int .i64 C, .int .i64 (unmetS t : Nat), .int .i64 AD, .int .i64 LA]) (by simp [results, Tryd.results13, go_sem, c0, c1, c2, c3, c4, hsz]) rfl ?_
            refine ⟨?_, ((((hb2.setCell (Nat.le_refl _) _).setCell (Nat.le_refl _) _).setCell (Nat.le_refl _) _).setCell (Nat.le_refl _) _).setCell (Nat.le_refl _) _⟩
            rw [← HREM.out, ← HCHG.out, ← hA, ← hL]
            rfl
          · go_wp2_with fail
            refine (unmet_any _ _ t _ (HT.out.kept (Kept.of_below hb)) HF.out).mono ?_
            rintro e w1 ⟨rfl, hb1⟩
            have kZ := hZ.next hb1
            have c0 := kZ.cell 0
            have c1 := kZ.cell 1
            have c2 := kZ.cell 2
            have c3 := kZ.cell 3
            have c4 := kZ.cell 4
            simp only [List.getElem?_toArray, List.getElem?_cons_zero, List.getElem?_cons_succ] at c0 c1 c2 c3 c4
            have f0 := kZ.frozen 0
            have f1 := kZ.frozen 1
            have f2 := kZ.frozen 2
            have f3 := kZ.frozen 3
            have f4 := kZ.frozen 4
            have hsz : w.heap.size < w1.heap.size := kZ.lt
            have hb2 := below_next hb hb1
            go_wp2
            refine bodyPost_ret (v := .agg #[.int .i64 LA, .int .i64 R, .int .i64 (unmetS t : Nat), .int .i64 AD, .int .i64 C]) (by simp [results, Tryd.results13, go_sem, c0, c1, c2, c3, c4, hsz]) rfl ?_
            refine ⟨?_, ((((hb2.setCell (Nat.le_refl _) _).setCell (Nat.le_refl _) _).setCell (Nat.le_refl _) _).setCell (Nat.le_refl _) _).setCell (Nat.le_refl _) _⟩
            rw [← HREM.out, ← HCHG.out, ← hA, ← hL]
            rfl
end Go.Proofs.YtcbomomlojhghaaDoor
