/- Whether entries may be: the contracts of record.MayEntries and of the reference's MayEntries. All packages there are, plainly. The contract of universe.both. The contracts of universe.list and universe.All. The contracts of the reference's All, Find, SamePackages; of law 12's bare. The contract of the reference's All. The contracts of universe's reach: add and from. What is reached, plainly; the closure that universe.Of hands to list. The contract of universe.Of. Law 12's awake: its contract. -/
import Derived.Test.YtflmocamfedbdaaGreatDoorMlP
import Derived.Test.YtflmocamfedbdaaGreatDoorMaC
import Derived.Test.YtflmocamfedbdaaGreatDoorMaE
import Derived.Test.YtflmocamfedbdaaGreatDoorTuP
import Derived.Test.YtflmocamfedbdaaGreatDoorIxB
import Derived.Test.YtflmocamfedbdaaGreatDoorPz
import Derived.Test.YtflmocamfedbdaaGreatDoorSx
import Derived.Deep.AppendLies
import Derived.Test.YtflmocamfedbdaaGreatDoorHeB
import Derived.Deep.RegionHeld3
import Derived.Deep.DrawnRows
import Derived.Test.YtflmocamfedbdaaGreatDoorMk
import Derived.Test.YtflmocamfedbdaaGreatDoorAwA
namespace Go.Proofs.YtflmocamfedbdaaGreatDoor
set_option linter.unusedSimpArgs false
set_option linter.unusedVariables false
open Go.RowKit

/-- do the names rise? -/
def riseB : List Ent → Bool
  | x :: y :: l => Op.bytesLess x.pkg.name y.pkg.name && riseB (y :: l)
  | _ => true
def mayEntsE (l : List Ent) : Int := if 10 < l.length then 12 else if fstE (l.map Ent.pkg) ≠ 0 then fstE (l.map Ent.pkg) else if riseB l then 0 else 4
def risT (l : List Ent) (k : Nat) : Prop := ∀ (j : Nat) x y, j + 1 < k → l[j]? = some x → l[j + 1]? = some y → Op.bytesLess x.pkg.name y.pkg.name = true
theorem risT_all : ∀ {l : List Ent}, risT l l.length → riseB l = true
  | [], _ => rfl
  | [x], _ => rfl
  | x :: y :: l, h => by
    unfold riseB
    rw [h 0 x y (by simp) rfl rfl, Bool.true_and]
    exact risT_all fun j a b hj ha hb => h (j + 1) a b (by simpa using hj) (by simpa using ha) (by simpa using hb)
theorem risT_no : ∀ {l : List Ent} {j : Nat} {x y : Ent}, l[j]? = some x → l[j + 1]? = some y → Op.bytesLess x.pkg.name y.pkg.name = false → riseB l = false
  | [], j, x, y, h, _, _ => by simp at h
  | [a], j, x, y, _, h, _ => by simp at h
  | a :: b :: l, 0, x, y, h1, h2, h3 => by
    simp at h1 h2
    subst h1 h2
    simp [riseB, h3]
  | a :: b :: l, j + 1, x, y, h1, h2, h3 => by
    have := risT_no (l := b :: l) (j := j) (by simpa using h1) (by simpa using h2) h3
    simp [riseB, this]
theorem riseB_at : ∀ {l : List Ent} {j : Nat} {x y : Ent}, riseB l = true → l[j]? = some x → l[j + 1]? = some y → Op.bytesLess x.pkg.name y.pkg.name = true := by
  intro l j x y h h1 h2
  rcases h3 : Op.bytesLess x.pkg.name y.pkg.name
  · rw [risT_no h1 h2 h3] at h; cases h
  · rfl
theorem risT_step {l : List Ent} {k : Nat} {x y : Ent} (h : risT l (k + 1)) (hx : l[k]? = some x) (hy : l[k + 1]? = some y) (hbl : Op.bytesLess x.pkg.name y.pkg.name = true) : risT l (k + 2) := fun j x' y' h0 h1 h2 => by
  rcases Nat.lt_or_ge (j + 1) (k + 1) with h3 | h3
  · exact h j x' y' h3 h1 h2
  · obtain rfl : j = k := by omega
    obtain rfl : x = x' := Option.some.inj (hx.symm.trans h1)
    obtain rfl : y = y' := Option.some.inj (hy.symm.trans h2)
    exact hbl
theorem ents_many {l : List Ent} (h : 10 < l.length) : mayEntsE l = 12 := by simp [mayEntsE, h]
theorem ents_err {l : List Ent} {k : Nat} {q : Ent} (hl : ¬ 10 < l.length) (h : ∀ x ∈ l.take k, mayE x.pkg = 0) (hx : l[k]? = some q) (hq : mayE q.pkg ≠ 0) : mayEntsE l = mayE q.pkg := by
  have h1 : fstE (l.map Ent.pkg) = mayE q.pkg := fstE_at (k := k) (fun p hp => by
    rw [← List.map_take] at hp
    obtain ⟨x, hx, rfl⟩ := List.mem_map.1 hp
    exact h x hx) (by rw [List.getElem?_map, hx]; rfl) hq
  unfold mayEntsE
  rw [if_neg hl, h1, if_pos hq]
theorem ents_fst {l : List Ent} (h : ∀ x ∈ l, mayE x.pkg = 0) : fstE (l.map Ent.pkg) = 0 := fstE_end fun p hp => by
  obtain ⟨x, hx, rfl⟩ := List.mem_map.1 hp
  exact h x hx
theorem ents_two {l : List Ent} (hl : ¬ 10 < l.length) (h : ∀ x ∈ l, mayE x.pkg = 0) (hr : riseB l = false) : mayEntsE l = 4 := by
  unfold mayEntsE
  rw [if_neg hl, ents_fst h, hr]
  rfl
theorem ents_ok {l : List Ent} (hl : ¬ 10 < l.length) (h : ∀ x ∈ l, mayE x.pkg = 0) (hr : riseB l = true) : mayEntsE l = 0 := by
  unfold mayEntsE
  rw [if_neg hl, ents_fst h, hr]
  rfl
theorem ents_zero {l : List Ent} (h : mayEntsE l = 0) : l.length ≤ 10 ∧ (∀ x ∈ l, mayE x.pkg = 0) ∧ riseB l = true := by
  unfold mayEntsE at h
  by_cases h1 : 10 < l.length
  · rw [if_pos h1] at h; cases h
  · rw [if_neg h1] at h
    by_cases h2 : fstE (l.map Ent.pkg) = 0
    · rw [if_neg (by simpa using h2)] at h
      refine ⟨by omega, fun x hx => fstE_zero h2 _ (List.mem_map.2 ⟨x, hx, rfl⟩), ?_⟩
      rcases h3 : riseB l
      · rw [h3] at h; cases h
      · rfl
    · rw [if_pos h2] at h; exact absurd h h2
set_option maxRecDepth 100000 in
set_option maxHeartbeats 1000000 in
theorem rents_any (A : Option Addr) (c : Nat) (l : List Ent) (w : World) (hl : Ents w A c l) (hf : ∀ x ∈ l, fewR x.pkg) :
    Calls Tryz.prog 83 #[.slice A l.length c] w fun e w' => e = .returned (.int .i64 (mayEntsE l)) ∧ Below w.heap.size w w' := by
  have hbd := hl.bd
  have HL := Lib.hid hl
  have HF := Lib.hid hf
  clear hl hf
  by_cases h10 : (10 : Int) < (l.length : Int)
  · go_enter Tryz.func83, Tryz.ntmps83
    go_wp2
    go_ret
    exact ⟨by rw [ents_many (by omega)]; rfl, Below.refl _ _⟩
  · have H10 := Lib.hid (show ¬ 10 < l.length by omega)
    go_enter Tryz.func83, Tryz.ntmps83
    go_wp2
    go_loopw [12] (fun i wr => ∃ k : Nat, k ≤ l.length ∧ i = .int .i64 k ∧ Below w.heap.size w wr ∧ (∀ x ∈ l.take k, mayE x.pkg = 0)) (fun i _ => l.length - (intOf i).toNat)
    case atStart => exact ⟨0, Nat.zero_le _, rfl, Below.refl _ _, fun x hx => by simp at hx⟩
    case round =>
      obtain ⟨k, hk, rfl, hb, hn⟩ := hrel
      have HB := Lib.hid hb
      have HN := Lib.hid hn
      clear hb hn
      by_cases hlt : k < l.length
      · obtain ⟨q, b, o, r, hq, rfl, hr, e0, e1, e2, e3, e4, e5, e6, e7, e8, e9, e10⟩ := HL.out.at_ hlt (Kept.of_below HB.out)
        have HQ := Lib.hid hq
        have HFQ := Lib.hid (HF.out q (List.mem_of_getElem? hq))
        have HR := Lib.hid (fun ob : Obj => hr.kept ((Kept.of_below HB.out).trans (Kept.alloc _ ob)))
        clear hq hr
        generalize hE : mayE q.pkg = E
        have HE := Lib.hid hE
        clear hE
        by_cases hE0 : E = 0
        · subst hE0
          go_wp2_with fail
          refine (rmay_any q.pkg r _ (HR.out _)).mono ?_
          rintro e w1 ⟨rfl, hb1⟩
          rw [HE.out]
          clear e0 e1 e2 e3 e4 e5 e6 e7 e8 e9 e10
          go_wp2
          go_roundw
          case rel => exact ⟨k + 1, by omega, by simp, by have hb0 := HB.out; (repeat (first | assumption | exact Below.refl _ _ | refine below_next ?_ (by assumption) | refine below_drewN ?_ _ | refine below_alloc ?_ _)), fun x hx => by
            rw [take_step HQ.out, List.mem_append, List.mem_singleton] at hx
            rcases hx with hx | rfl
            · exact HN.out x hx
            · exact HE.out⟩
          case measure => (try simp only [intOf]); omega
        · have hEb : (E != 0) = true := by rw [bne_iff_ne]; exact hE0
          go_wp2_with fail
          refine (rmay_any q.pkg r _ (HR.out _)).mono ?_
          rintro e w1 ⟨rfl, hb1⟩
          rw [HE.out]
          clear e0 e1 e2 e3 e4 e5 e6 e7 e8 e9 e10
          go_wp2
          go_ret
          exact ⟨by rw [ents_err H10.out HN.out HQ.out (by rw [HE.out]; exact hE0), HE.out]; rfl, by have hb0 := HB.out; (repeat (first | assumption | exact Below.refl _ _ | refine below_next ?_ (by assumption) | refine below_drewN ?_ _ | refine below_alloc ?_ _))⟩
      · have HM := HN.out
        rw [take_end hk hlt] at HM
        have HMM := Lib.hid HM
        clear HM HN
        go_wp2
        clear hlt
        go_loopw [25] (fun i wr => ∃ k : Nat, k ≤ l.length ∧ i = .int .i64 k ∧ Below w.heap.size w wr ∧ risT l k) (fun i _ => l.length - (intOf i).toNat)
        case atStart => exact ⟨0, Nat.zero_le _, rfl, HB.out, fun j x y h => by omega⟩
        case round =>
          clear HB hk
          obtain ⟨k, hk, rfl, hb, hn⟩ := hrel
          have HB := Lib.hid hb
          have HN := Lib.hid hn
          clear hb hn
          by_cases hlt : k < l.length
          · rcases k with _ | k
            · go_wp2
              go_quiet (fail)
              go_wp2
              go_roundw
              case rel => exact ⟨1, by omega, by simp, by have hb0 := HB.out; (repeat (first | assumption | exact Below.refl _ _ | refine below_next ?_ (by assumption) | refine below_drewN ?_ _ | refine below_alloc ?_ _)), fun j x y h => by omega⟩
              case measure => (try simp only [intOf]); omega
            · obtain ⟨x, b, o, r, hx, hA, _, e0, _⟩ := HL.out.at_ (by omega : k < l.length) (Kept.of_below HB.out)
              obtain ⟨y, b', o', r', hy, hA', _, e1, _⟩ := HL.out.at_ hlt (Kept.of_below HB.out)
              subst hA
              injection hA' with hA'
              injection hA' with hA1 hA2
              subst hA1 hA2
              have HX := Lib.hid hx
              have HY := Lib.hid hy
              clear hx hy
              have hi0 : (0 : Int) ≤ (k : Int) := Int.natCast_nonneg _
              have hi1 : (k : Int) < (l.length : Int) := by omega
              have hi2 : (k : Int) + 1 < (l.length : Int) := by omega
              have hi3 : (0 : Int) < (k : Int) + 1 := by omega
              have hi4 : (0 : Int) ≤ (k : Int) + 1 := by omega
              have htn : ((k : Int)).toNat = k := Int.toNat_natCast _
              have htm : ((k : Int) + 1).toNat = k + 1 := by omega
              have hwr : IntKind.i64.wrap (k : Int) = (k : Int) := by rw [IntKind.wrap_i64]; omega
              rcases hbl : Op.bytesLess x.pkg.name y.pkg.name
              · go_wp2
                go_quiet (fail)
                go_wp2
                go_ret
                exact ⟨by rw [ents_two H10.out HMM.out (risT_no HX.out HY.out hbl)]; rfl, by have hb0 := HB.out; (repeat (first | assumption | exact Below.refl _ _ | refine below_next ?_ (by assumption) | refine below_drewN ?_ _ | refine below_alloc ?_ _))⟩
              · have HBL := Lib.hid hbl
                go_wp2
                go_quiet (fail)
                go_wp2
                go_roundw
                case rel => exact ⟨k + 2, by omega, by simp; omega, by have hb0 := HB.out; (repeat (first | assumption | exact Below.refl _ _ | refine below_next ?_ (by assumption) | refine below_drewN ?_ _ | refine below_alloc ?_ _)), risT_step HN.out HX.out HY.out HBL.out⟩
                case measure => (try simp only [intOf]); omega
          · have hn := HN.out
            have hkl : k = l.length := by omega
            rw [hkl] at hn
            have HU := Lib.hid (ents_ok H10.out HMM.out (risT_all hn))
            clear hn hkl
            go_wp2
            go_ret
            exact ⟨by rw [HU.out]; rfl, HB.out⟩
set_option maxRecDepth 100000 in
set_option maxHeartbeats 1000000 in
theorem ents_any (A : Option Addr) (c : Nat) (l : List Ent) (w : World) (hl : Ents w A c l) (hf : ∀ x ∈ l, fewR x.pkg) :
    Calls Tryz.prog 109 #[.slice A l.length c] w fun e w' => e = .returned (.int .i64 (mayEntsE l)) ∧ Below w.heap.size w w' := by
  have hbd := hl.bd
  have HL := Lib.hid hl
  have HF := Lib.hid hf
  clear hl hf
  by_cases h10 : (10 : Int) < (l.length : Int)
  · go_enter Tryz.func109, Tryz.ntmps109
    go_wp2
    go_ret
    exact ⟨by rw [ents_many (by omega)]; rfl, Below.refl _ _⟩
  · have H10 := Lib.hid (show ¬ 10 < l.length by omega)
    go_enter Tryz.func109, Tryz.ntmps109
    go_wp2
    go_loopw [12] (fun i wr => ∃ k : Nat, k ≤ l.length ∧ i = .int .i64 k ∧ Below w.heap.size w wr ∧ (∀ x ∈ l.take k, mayE x.pkg = 0)) (fun i _ => l.length - (intOf i).toNat)
    case atStart => exact ⟨0, Nat.zero_le _, rfl, Below.refl _ _, fun x hx => by simp at hx⟩
    case round =>
      obtain ⟨k, hk, rfl, hb, hn⟩ := hrel
      have HB := Lib.hid hb
      have HN := Lib.hid hn
      clear hb hn
      by_cases hlt : k < l.length
      · obtain ⟨q, b, o, r, hq, rfl, hr, e0, e1, e2, e3, e4, e5, e6, e7, e8, e9, e10⟩ := HL.out.at_ hlt (Kept.of_below HB.out)
        have HQ := Lib.hid hq
        have HFQ := Lib.hid (HF.out q (List.mem_of_getElem? hq))
        have HR := Lib.hid (fun ob : Obj => hr.kept ((Kept.of_below HB.out).trans (Kept.alloc _ ob)))
        clear hq hr
        generalize hE : mayE q.pkg = E
        have HE := Lib.hid hE
        clear hE
        by_cases hE0 : E = 0
        · subst hE0
          go_wp2_with fail
          refine (may_any q.pkg r _ (HR.out _) HFQ.out).mono ?_
          rintro e w1 ⟨rfl, hb1⟩
          rw [HE.out]
          clear e0 e1 e2 e3 e4 e5 e6 e7 e8 e9 e10
          go_wp2
          go_roundw
          case rel => exact ⟨k + 1, by omega, by simp, by have hb0 := HB.out; (repeat (first | assumption | exact Below.refl _ _ | refine below_next ?_ (by assumption) | refine below_drewN ?_ _ | refine below_alloc ?_ _)), fun x hx => by
            rw [take_step HQ.out, List.mem_append, List.mem_singleton] at hx
            rcases hx with hx | rfl
            · exact HN.out x hx
            · exact HE.out⟩
          case measure => (try simp only [intOf]); omega
        · have hEb : (E != 0) = true := by rw [bne_iff_ne]; exact hE0
          go_wp2_with fail
          refine (may_any q.pkg r _ (HR.out _) HFQ.out).mono ?_
          rintro e w1 ⟨rfl, hb1⟩
          rw [HE.out]
          clear e0 e1 e2 e3 e4 e5 e6 e7 e8 e9 e10
          go_wp2
          go_ret
          exact ⟨by rw [ents_err H10.out HN.out HQ.out (by rw [HE.out]; exact hE0), HE.out]; rfl, by have hb0 := HB.out; (repeat (first | assumption | exact Below.refl _ _ | refine below_next ?_ (by assumption) | refine below_drewN ?_ _ | refine below_alloc ?_ _))⟩
      · have HM := HN.out
        rw [take_end hk hlt] at HM
        have HMM := Lib.hid HM
        clear HM HN
        go_wp2
        clear hlt
        go_loopw [6] (fun i wr => ∃ k : Nat, (k + 1 ≤ l.length ∨ k = 0) ∧ i = .int .i64 ((k : Int) + 1) ∧ Below w.heap.size w wr ∧ risT l (k + 1)) (fun i _ => l.length + 1 - (intOf i).toNat)
        case atStart => exact ⟨0, .inr rfl, rfl, HB.out, fun j x y h => by omega⟩
        case round =>
          clear HB hk
          obtain ⟨k, hk, rfl, hb, hn⟩ := hrel
          have HB := Lib.hid hb
          have HN := Lib.hid hn
          clear hb hn
          by_cases hlt : k + 1 < l.length
          · obtain ⟨x, b, o, r, hx, hA, _, e0, _⟩ := HL.out.at_ (by omega : k < l.length) (Kept.of_below HB.out)
            obtain ⟨y, b', o', r', hy, hA', _, e1, _⟩ := HL.out.at_ hlt (Kept.of_below HB.out)
            subst hA
            injection hA' with hA'
            injection hA' with hA1 hA2
            subst hA1 hA2
            have HX := Lib.hid hx
            have HY := Lib.hid hy
            clear hx hy
            have hi0 : (0 : Int) ≤ (k : Int) := Int.natCast_nonneg _
            have hi1 : (k : Int) < (l.length : Int) := by omega
            have hi2 : (k : Int) + 1 < (l.length : Int) := by omega
            have hi3 : (0 : Int) < (k : Int) + 1 := by omega
            have hi4 : (0 : Int) ≤ (k : Int) + 1 := by omega
            have htn : ((k : Int)).toNat = k := Int.toNat_natCast _
            have htm : ((k : Int) + 1).toNat = k + 1 := by omega
            have hwr : IntKind.i64.wrap (k : Int) = (k : Int) := by rw [IntKind.wrap_i64]; omega
            rcases hbl : Op.bytesLess x.pkg.name y.pkg.name
            · go_wp2
              go_quiet (fail)
              go_wp2
              go_ret
              exact ⟨by rw [ents_two H10.out HMM.out (risT_no HX.out HY.out hbl)]; rfl, by have hb0 := HB.out; (repeat (first | assumption | exact Below.refl _ _ | refine below_next ?_ (by assumption) | refine below_drewN ?_ _ | refine below_alloc ?_ _))⟩
            · have HBL := Lib.hid hbl
              go_wp2
              go_quiet (fail)
              go_wp2
              go_roundw
              case rel => exact ⟨k + 1, by omega, by simp, by have hb0 := HB.out; (repeat (first | assumption | exact Below.refl _ _ | refine below_next ?_ (by assumption) | refine below_drewN ?_ _ | refine below_alloc ?_ _)), risT_step HN.out HX.out HY.out HBL.out⟩
              case measure => (try simp only [intOf]); omega
          · have hi2 : ¬ (k : Int) + 1 < (l.length : Int) := by omega
            have hn : risT l l.length := fun j x y h => HN.out j x y (by omega)
            have HU := Lib.hid (ents_ok H10.out HMM.out (risT_all hn))
            clear hn
            go_wp2
            go_ret
            exact ⟨by rw [HU.out]; rfl, HB.out⟩
end Go.Proofs.YtflmocamfedbdaaGreatDoor
namespace Go.Proofs.YtflmocamfedbdaaGreatDoor
set_option linter.unusedSimpArgs false
set_option linter.unusedVariables false
open Go.RowKit

def newB (sp : List Pkg) (p : Pkg) : Bool := !(sp.any (dupB p))
def allL (s : List Ent) (repo : List Pkg) : List Pkg := s.map Ent.pkg ++ repo.filter (newB (s.map Ent.pkg))
def allE (s : List Ent) (repo : List Pkg) : Int := if mayAllE repo ≠ 0 then mayAllE repo else if mayEntsE s ≠ 0 then mayEntsE s else mayAllE (allL s repo)
theorem fnd_dup (p : Pkg) : fndP p.name p.ver = dupB p := rfl
theorem ents_rises {s : List Ent} (h : mayEntsE s = 0) : rises s :=
  up_rises fun j x y _ hx hy => bl_lt _ _ (riseB_at (ents_zero h).2.2 hx hy)
theorem ents_pair {s : List Ent} (h : mayEntsE s = 0) : (s.map Ent.pkg).Pairwise fun q p => dupB p q = false := by
  rw [List.pairwise_map]
  refine List.Pairwise.imp (fun {a b} hab => ?_) (ents_rises h)
  simp [dupB, hab]
theorem ents_may {s : List Ent} (h : mayEntsE s = 0) : ∀ q ∈ s.map Ent.pkg, mayE q = 0 := fun q hq => by
  obtain ⟨x, hx, rfl⟩ := List.mem_map.1 hq
  exact (ents_zero h).2.1 x hx
theorem ents_pre {s : List Ent} (h : mayEntsE s = 0) (k : Nat) : mayAllE ((s.map Ent.pkg).take k) = 0 := by
  have h10 := (ents_zero h).1
  have hl : ((s.map Ent.pkg).take k).length ≤ 10 := by rw [List.length_take, List.length_map]; omega
  exact mayAll_iff.2 ⟨by omega, fun q hq => ents_may h q (List.mem_of_mem_take hq), (ents_pair h).sublist (List.take_sublist _ _), Nat.le_trans (nms_le _) hl⟩
theorem all_may {s : List Ent} {repo : List Pkg} (hr : mayAllE repo = 0) (h : mayEntsE s = 0) : ∀ q ∈ allL s repo, mayE q = 0 := fun q hq => by
  rcases List.mem_append.1 hq with hq | hq
  · exact ents_may h q hq
  · exact (mayAll_zero hr).2.1 q (List.mem_filter.1 hq).1
theorem all_pair {s : List Ent} {repo : List Pkg} (hr : mayAllE repo = 0) (h : mayEntsE s = 0) : (allL s repo).Pairwise fun q p => dupB p q = false := by
  unfold allL
  rw [List.pairwise_append]
  refine ⟨ents_pair h, (mayAll_iff.1 hr).2.2.1.sublist List.filter_sublist, fun a ha b hb => ?_⟩
  have := (List.mem_filter.1 hb).2
  simp only [newB, Bool.not_eq_true', List.any_eq_false] at this
  simpa using this a ha
theorem nmR_mem {l : List Pkg} {n : List UInt8} : n ∈ nmR l ↔ ∃ p ∈ l, p.name = n := by
  have h2 := (nmR_aux l (ns := []) .nil).2 n
  simpa [nmR] using h2
theorem nmR_ris (l : List Pkg) : (nmR l).Pairwise blS := (nmR_aux l (ns := []) .nil).1
theorem nmR_nodup (l : List Pkg) : (nmR l).Nodup := by
  refine List.Pairwise.imp (fun {a b} h => ?_) (nmR_ris l)
  rintro rfl
  have h3 : Op.bytesLess a a = true := h
  rw [bytesLess_same] at h3; cases h3
theorem nmR_nms (l : List Pkg) : (nmR l).length = (nmsS l).length := by
  refine List.Perm.length_eq ((List.perm_ext_iff_of_nodup (nmR_nodup l) (nmsS_nodup l)).2 fun n => ?_)
  rw [nmR_mem, nmsS_mem]
theorem all_err {s : List Ent} {repo : List Pkg} (hr : mayAllE repo = 0) (h : mayEntsE s = 0) : mayAllE (allL s repo) = if 24 < (allL s repo).length ∨ 10 < (nmR (allL s repo)).length then 12 else 0 := by
  by_cases h1 : 24 < (allL s repo).length
  · rw [mayAll_many h1, if_pos (.inl h1)]
  · rw [mayAll_end h1 (all_may hr h) (dupT_iff.2 (all_pair hr h)), nmR_nms]
    simp [h1]
theorem all_len (s : List Ent) (repo : List Pkg) : (allL s repo).length ≤ s.length + repo.length := by
  unfold allL
  rw [List.length_append, List.length_map]
  have := List.length_filter_le (newB (s.map Ent.pkg)) repo
  omega
theorem allE_zero {s : List Ent} {repo : List Pkg} (h : allE s repo = 0) : mayAllE repo = 0 ∧ mayEntsE s = 0 ∧ mayAllE (allL s repo) = 0 := by
  unfold allE at h
  by_cases h1 : mayAllE repo = 0
  · rw [if_neg (by simpa using h1)] at h
    by_cases h2 : mayEntsE s = 0
    · rw [if_neg (by simpa using h2)] at h
      exact ⟨h1, h2, h⟩
    · rw [if_pos h2] at h; exact absurd h h2
  · rw [if_pos h1] at h; exact absurd h h1
theorem fnd2 (P : Pkg → Bool) (s : List Pkg) : (fndR (plcS P s)).2 = s.any P := by
  rcases h : plcS P s with _ | ⟨i, t⟩
  · exact (plc_none h).symm
  · have hi : i ∈ plcS P s := by rw [h]; simp
    obtain ⟨q, hq, hp⟩ := plc_mem.1 hi
    exact (List.any_eq_true.2 ⟨q, List.mem_of_getElem? hq, hp⟩).symm
theorem any_srt (P : Pkg → Bool) (l : List Pkg) : (srt pLt l).any P = l.any P := by
  rw [Bool.eq_iff_iff, List.any_eq_true, List.any_eq_true]
  simp only [mem_srt]
theorem filter_yes {α : Type} {p : α → Bool} {l : List α} {k : Nat} {x : α} (hx : l[k]? = some x) (h : p x = true) : (l.take (k + 1)).filter p = (l.take k).filter p ++ [x] := by
  rw [take_step hx, List.filter_append]
  simp [h]
theorem filter_no {α : Type} {p : α → Bool} {l : List α} {k : Nat} {x : α} (hx : l[k]? = some x) (h : p x = false) : (l.take (k + 1)).filter p = (l.take k).filter p := by
  rw [take_step hx, List.filter_append]
  simp [h]
end Go.Proofs.YtflmocamfedbdaaGreatDoor
namespace Go.Proofs.YtflmocamfedbdaaGreatDoor
set_option linter.unusedSimpArgs false
set_option linter.unusedVariables false
open Go.RowKit
theorem own_pkgs {w W : World} {B : Nat} {v : Value} {l : List Pkg} (h : Own W B 26 9 (RPkg w) v l) (hb : Below w.heap.size w W) (hz : l.length * 184 ≤ 140737488351232) : ∃ A c, v = .slice A l.length c ∧ Pkgs W A c l := by
  obtain ⟨A, c, h1, h2⟩ := h.slc (z := 184) hz
  exact ⟨A, c, h1, Slc.mono h2 (Kept.refl _) fun cs x ⟨r, e1, e2⟩ => ⟨r, e1, e2.kept (Kept.of_below hb)⟩⟩
section
variable {P : Program} {w : World}
/-- append of one element, and where the row lies -/
theorem wpList_append_el2 {α : Type} {ops : Array Oper} {rest : List Oper} {o : Oper} {a : Act} {Q : Exit → Act → World → Prop} (hgd : o.guard = none) (s x : Operand) (t : TypeId)
    (ho : o.op = .call { callee := .builtin .append, args := #[s, x], argTypes := #[t, t] })
    (B : Nat) (e : TypeId) (z : Value) (k bytes : Nat) (ht : P.underlying t = some (.slice e)) (hinfo : (P.info? e).map (fun i => (i.zero, i.size, i.bytes)) = some (some z, k, bytes)) (hzs : z.cells.size = k) (hsz : 0 < k)
    (R : List Value → α → Prop) (v : Value) (l : List α) (hs : a.eval s = v) (hown : Own w B e k R v l)
    (y : α) (cs : List Value) (g0 c0 : Nat) (hx : a.eval x = .slice (some ⟨g0, 0, none⟩) 1 c0) (hg0 : w.heap[g0]? = some (.cells cs.toArray e (0, 0))) (hy : R cs y) (hlen : cs.length = k) (h1 : ∀ u ∈ cs, u.oneCell' = true)
    (hbytes : (l.length + 1) * bytes ≤ 140737488355328) (hbz : 1 ≤ bytes) (hbase : B ≤ w.heap.size)
    (h : ∀ g cap w', Own w' B e k R (.slice (some ⟨g, 0, none⟩) (l.length + 1) cap) (l ++ [y]) → w.grownBy w' v.ownBlock → (v.ownBlock = some g ∨ g = w.heap.size) → wpList P ops Q rest (a.put o.dst (.slice (some ⟨g, 0, none⟩) (l.length + 1) cap)) w') : wpList P ops Q (o :: rest) a w := by
  obtain ⟨i, hi, hz0, hz1, hz2⟩ := info_parts hinfo
  obtain ⟨css, hl, hR, hrow⟩ := hown
  refine wpList_append_lies w hgd s x t ho B e i z k bytes ht hi hz0 hz1 hz2 hzs hsz v l.length css.flatten hs hrow ⟨g0, 0, none⟩ 1 c0 cs hx (by omega) (fun j u hj => ?_) h1 (by omega) ?_ hbytes hbase _ rfl fun g cap w' h2 h3 h4 _ => h g cap w' ?_ h3 h4
  · rw [Addr.add_mid, cell_of_row w g0 (0 + j) cs.toArray e (0, 0) hg0, Nat.zero_add]
    simpa using hj
  · have : (l.length + 1) * 1 ≤ (l.length + 1) * bytes := Nat.mul_le_mul_left _ hbz
    unfold maxLen
    omega
  · exact Own.appended hl hR hy hlen h2
end
/-- an index whose row is the call's own, and another row that lies elsewhere -/
def IxV (w : World) (B G : Nat) (u : Value) (s : List Pkg) (v : Value) : Prop :=
  Blk w G 94 #[u] ∧ Own w B 26 9 (RK (RZ w)) u s ∧ ∀ g, v.ownBlock = some g → u.ownBlock ≠ some g
theorem IxV.alloc {w : World} {B G : Nat} {u v : Value} {s : List Pkg} (h : IxV w B G u s v) (o : Obj) : IxV (w.alloc o) B G u s v :=
  ⟨h.1.alloc o, (h.2.1.alloc o).mono (RK.mono fun _ _ h => h.keep (KeepB.alloc o)), h.2.2⟩
theorem IxV.next {w w' : World} {B G : Nat} {u v : Value} {s : List Pkg} (h : IxV w B G u s v) (hb : Below w.heap.size w w') : IxV w' B G u s v :=
  ⟨h.1.next hb, (h.2.1.next hb).mono (RK.mono fun _ _ h => h.keep (KeepB.of_below hb)), h.2.2⟩
theorem IxV.app {w w' : World} {B B2 G g n cap : Nat} {u v : Value} {s l l' : List Pkg} {R R' : List Value → Pkg → Prop} (h : IxV w B G u s v) (hv : Own w B2 26 9 R v l) (_ : Own w' B2 26 9 R' (.slice (some ⟨g, 0, none⟩) n cap) l') (hg : w.grownBy w' v.ownBlock) (hat : v.ownBlock = some g ∨ g = w.heap.size) :
    IxV w' B G u s (.slice (some ⟨g, 0, none⟩) n cap) := by
  refine ⟨hv.blk h.1 (by decide) hg, (h.2.1.same fun g' hg' => ?_).mono (RK.mono fun _ _ h => h.keep (hv.keep (T := fun t => TB t = true) hg (by decide))), fun g' h1 h2 => ?_⟩
  · obtain ⟨_, cur, hc⟩ := h.2.1.base hg'
    exact hg.block g' (heap_lt hc) (fun he => h.2.2 g' he.symm hg')
  · obtain rfl : g = g' := by simpa [Value.ownBlock] using h1
    rcases hat with hat | hat
    · exact h.2.2 g hat h2
    · obtain ⟨_, cur, hc⟩ := h.2.1.base h2
      have := heap_lt hc
      omega
theorem IxV.ix {w : World} {B G : Nat} {u v : Value} {s : List Pkg} (h : IxV w B G u s v) (hz : s.length ≤ 1000000) : Ix w (.pointer (some ⟨G, 0, none⟩)) s := ix_of_own h.1 h.2.1 (by omega)
theorem IxV.of {w w' : World} {B G : Nat} {u v : Value} {s l : List Pkg} {R : List Value → Pkg → Prop} (h1 : Blk w' G 94 #[u]) (h2 : Own w' w.heap.size 26 9 (RK (RZ w')) u s) (hv : Own w B 26 9 R v l) : IxV w' w.heap.size G u s v :=
  ⟨h1, h2, fun g h3 h4 => by
    obtain ⟨_, cur, hc⟩ := hv.base h3
    have := heap_lt hc
    have := (h2.base h4).1
    omega⟩
def RetBoth (w : World) (s : List Ent) (repo : List Pkg) (e : Ending) (w' : World) : Prop :=
  (allE s repo = 0 ∧ RetIxF w (srt pLt (allL s repo)) e w') ∨ (allE s repo ≠ 0 ∧ e = .returned (.tuple #[.pointer none, .int .i64 (allE s repo)]) ∧ Below w.heap.size w w')
set_option maxRecDepth 100000 in
set_option maxHeartbeats 2000000 in
theorem both_any (A A2 : Option Addr) (c c2 : Nat) (repo : List Pkg) (s : List Ent) (w : World) (hl : Pkgs w A c repo) (hs : Ents w A2 c2 s) (hf : ∀ p ∈ repo, fewO p) (hfs : ∀ x ∈ s, fewO x.pkg) :
    Calls Tryz.prog 77 #[.slice A repo.length c, .slice A2 s.length c2] w (RetBoth w s repo) := by
  have hbd := hl.bd
  have hbd2 := hs.bd
  have HL := Lib.hid hl
  have HS := Lib.hid hs
  have HF := Lib.hid hf
  have HFS := Lib.hid hfs
  clear hl hs hf hfs
  by_cases hr0 : mayAllE repo = 0
  · by_cases hs0 : mayEntsE s = 0
    · have HR0 := Lib.hid hr0
      have HS0 := Lib.hid hs0
      have HSL := Lib.hid (show s.length ≤ 10 from (ents_zero hs0).1)
      have HRL := Lib.hid (show repo.length ≤ 24 from (mayAll_zero hr0).1)
      have HAE := Lib.hid (show allE s repo = mayAllE (allL s repo) by unfold allE; rw [if_neg (by simpa using hr0), if_neg (by simpa using hs0)])
      clear hr0 hs0
      obtain ⟨sp, hsp⟩ : ∃ sp, sp = s.map Ent.pkg := ⟨_, rfl⟩
      have HSP := Lib.hid hsp
      have hspl : sp.length ≤ s.length := by rw [hsp, List.length_map]; exact Nat.le_refl _
      have HPRE := Lib.hid (show ∀ k, mayAllE (sp.take k) = 0 from fun k => by rw [hsp]; exact ents_pre HS0.out k)
      have HFSP := Lib.hid (show ∀ p ∈ sp, fewO p from fun p hp => by rw [hsp] at hp; obtain ⟨x, hx, rfl⟩ := List.mem_map.1 hp; exact HFS.out x hx)
      clear hsp
      go_enter Tryz.func77, Tryz.ntmps77
      go_wp2_with fail
      refine (mayAll_any A c repo _ HL.out (fun p hp => (HF.out p hp).fewR)).mono ?_
      rintro e w1 ⟨rfl, hb1⟩
      rw [HR0.out]
      have HB := Lib.hid hb1
      clear hb1
      go_wp2_with fail
      refine (ents_any A2 c2 s _ (HS.out.kept (Kept.of_below HB.out)) (fun x hx => (HFS.out x hx).fewR)).mono ?_
      rintro e w2 ⟨rfl, hb2⟩
      rw [HS0.out]
      have HB := Lib.hid (below_next HB.out hb2)
      clear hb2
      go_wp2_with fail
      refine (new_own none 0 [] _ (Slc.nil_ (Nat.zero_le _)) (fun p hp => by cases hp) (by decide)).mono ?_
      rintro e w3 ⟨G0, u0, rfl, _, hx1, hx2, hb3⟩
      have HX := Lib.hid (show IxV w3 w2.heap.size G0 u0 (srt pLt []) (.slice none 0 0) from ⟨hx1, hx2, fun g h => by simp [Value.ownBlock] at h⟩)
      have HB := Lib.hid (below_next HB.out hb3)
      clear hx1 hx2 hb3
      go_wp2
      go_loopw [8, 10, 33] (fun x v i wr => ∃ (k : Nat) (t : List Pkg), k ≤ s.length ∧ t.length ≤ k ∧ i = .int .i64 k ∧ t = sp.take k ∧ Below w3.heap.size w3 wr ∧ (∃ B G u, x = .pointer (some ⟨G, 0, none⟩) ∧ IxV wr B G u (srt pLt t) v) ∧ Own wr w3.heap.size 26 9 (RPkg w) v t) (fun _ _ i _ => s.length - (intOf i).toNat)
      case atStart => exact ⟨0, [], Nat.zero_le _, Nat.zero_le _, rfl, rfl, Below.refl _ _, ⟨_, _, _, rfl, HX.out⟩, Own.nil_ _ _ _ _ _⟩
      case round =>
        obtain ⟨k, t, hk, htk, rfl, ht, hb, ⟨Bx, G, u, rfl, hx⟩, ho⟩ := hrel
        obtain ⟨wo, rfl⟩ : ∃ wo : World, wo = wr := ⟨_, rfl⟩
        have HT := Lib.hid ht
        have HB1 := Lib.hid hb
        have HO := Lib.hid ho
        have HX := Lib.hid hx
        clear ht hb ho hx
        have hsl := HSL.out
        by_cases hlt : k < s.length
        · obtain ⟨y, b, o, r, hy, rfl, hr, e0, e1, e2, e3, e4, e5, e6, e7, e8, e9, e10⟩ := HS.out.at_ hlt (Kept.of_below (below_next HB.out HB1.out))
          have HP := Lib.hid (show sp[k]? = some y.pkg by rw [HSP.out, List.getElem?_map, hy]; rfl)
          have HR := Lib.hid hr
          clear hy hr
          go_wp2_with (at_builtin; refine wpList_append_el (by rfl) _ _ 43 (by rfl) w3.heap.size 26 _ 9 184 Tryz.underlying43 infPkg' rfl (by omega) (RPkg w) _ t (by rfl) ((HO.out.alloc _).alloc _) y.pkg (encK r y.pkg) (wo.heap.size + 1) 1 (by rfl) (blk_new2 _ _ _ _) ⟨r, rfl, HR.out⟩ rfl (encK_one _ _) (by omega) (by omega) (by simp; have := HB1.out.size; omega) ?_; intro g' cap w4 ho4 hg4; have HB4 := Lib.hid (((HO.out.alloc _).alloc _).below (below_alloc (below_alloc HB1.out _) _) (by simp; have := HB1.out.size; omega) hg4); have HO4 := Lib.hid ho4; clear ho4 hg4)
          clear e0 e1 e2 e3 e4 e5 e6 e7 e8 e9 e10
          have HT4 := Lib.hid (show t ++ [y.pkg] = sp.take (k + 1) by rw [take_step HP.out, ← HT.out])
          have htl4 : (t ++ [y.pkg]).length ≤ k + 1 := by simp; omega
          have htl5 : t.length + 1 = (t ++ [y.pkg]).length := by simp
          rw [htl5] at HO4 ⊢
          clear htl5
          generalize t ++ [y.pkg] = t4 at HT4 htl4 HO4 ⊢
          have HPS := Lib.hid (show Pkgs w4 (some ⟨g', 0, none⟩) cap t4 from Slc.mono (Own.slcOf (z := 184) HO4.out (by omega)) (Kept.refl _) fun cs x ⟨r, e1, e2⟩ => ⟨r, e1, e2.kept (Kept.of_below (below_next HB.out HB4.out))⟩)
          go_wp2_with fail
          refine (new_own _ cap t4 _ HPS.out (fun p hp => HFSP.out p (by rw [HT4.out] at hp; exact List.mem_of_mem_take hp)) (by rw [HT4.out]; exact HPRE.out (k + 1))).mono ?_
          rintro e w5 ⟨G5, u5, rfl, _, hx1, hx2, hb5⟩
          have HX5 := Lib.hid (IxV.of hx1 hx2 HO4.out)
          have HB5 := Lib.hid (below_next HB4.out hb5)
          have HO5 := Lib.hid (HO4.out.next hb5)
          clear hx1 hx2 hb5 HPS
          go_wp2
          go_roundw
          case rel => exact ⟨k + 1, t4, by omega, htl4, by simp, HT4.out, HB5.out, ⟨_, _, _, rfl, HX5.out⟩, HO5.out⟩
          case measure => (try simp only [intOf]); omega
        · have hT := HT.out
          rw [List.take_of_length_le (by omega)] at hT
          subst hT
          have HT0 := Lib.hid HSP.out
          have hrl := HRL.out
          have hss : (srt pLt t).length ≤ 1000000 := by rw [srt_len]; omega
          have HFR := Lib.hid (show ∀ p ∈ repo.filter (newB t), fewO p from fun p hp => HF.out p (List.mem_filter.1 hp).1)
          obtain ⟨sp, rfl⟩ : ∃ sp, sp = t := ⟨_, rfl⟩
          go_wp2
          clear htk hk hlt
          go_loopw [10, 50] (fun v i wr => ∃ (k : Nat) (t : List Pkg), k ≤ repo.length ∧ t.length ≤ s.length + k ∧ i = .int .i64 k ∧ t = sp ++ (repo.take k).filter (newB sp) ∧ Below w3.heap.size w3 wr ∧ IxV wr Bx G u (srt pLt sp) v ∧ Own wr w3.heap.size 26 9 (RPkg w) v t) (fun _ i _ => repo.length - (intOf i).toNat)
          case atStart => exact ⟨0, sp, Nat.zero_le _, by omega, rfl, by simp, HB1.out, HX.out, HO.out⟩
          case round =>
            clear HB1 HX HO
            obtain ⟨k, t, hk, htk, rfl, ht, hb, hx, ho⟩ := hrel
            obtain ⟨wo, rfl⟩ : ∃ wo : World, wo = wr := ⟨_, rfl⟩
            have HT := Lib.hid ht
            have HB1 := Lib.hid hb
            have HO := Lib.hid ho
            have HX := Lib.hid hx
            clear ht hb ho hx
            by_cases hlt : k < repo.length
            · obtain ⟨q, b, o, r, hq, rfl, hr, e0, e1, e2, e3, e4, e5, e6, e7, e8⟩ := HL.out.at_ hlt (Kept.of_below (below_next HB.out HB1.out))
              have HQ := Lib.hid hq
              have HR := Lib.hid hr
              clear hq hr
              go_wp2_with fail
              clear e0 e1 e2 e3 e4 e5 e6 e7 e8
              have HB2 := Lib.hid (below_alloc HB1.out (.cells #[.string (bs (q).name), .string (bs (q).ver), .slice (r).a1 (q).pre.length (r).c1, .slice (r).a2 (q).dep.length (r).c2, .slice (r).a3 (q).rcm.length (r).c3, .slice (r).a4 (q).con.length (r).c4, .slice (r).a5 (q).brk.length (r).c5, .slice (r).a6 (q).prv.length (r).c6, .bool (q).ess] 26))
              have HX2 := Lib.hid (HX.out.alloc (.cells #[.string (bs (q).name), .string (bs (q).ver), .slice (r).a1 (q).pre.length (r).c1, .slice (r).a2 (q).dep.length (r).c2, .slice (r).a3 (q).rcm.length (r).c3, .slice (r).a4 (q).con.length (r).c4, .slice (r).a5 (q).brk.length (r).c5, .slice (r).a6 (q).prv.length (r).c6, .bool (q).ess] 26))
              have HO2 := Lib.hid (HO.out.alloc (.cells #[.string (bs (q).name), .string (bs (q).ver), .slice (r).a1 (q).pre.length (r).c1, .slice (r).a2 (q).dep.length (r).c2, .slice (r).a3 (q).rcm.length (r).c3, .slice (r).a4 (q).con.length (r).c4, .slice (r).a5 (q).brk.length (r).c5, .slice (r).a6 (q).prv.length (r).c6, .bool (q).ess] 26))
              have K2 := Lib.hid (blk_new1 wo 26 #[.string (bs (q).name), .string (bs (q).ver), .slice (r).a1 (q).pre.length (r).c1, .slice (r).a2 (q).dep.length (r).c2, .slice (r).a3 (q).rcm.length (r).c3, .slice (r).a4 (q).con.length (r).c4, .slice (r).a5 (q).brk.length (r).c5, .slice (r).a6 (q).prv.length (r).c6, .bool (q).ess])
              refine (findIx_any _ (srt pLt sp) q.name q.ver _ (HX2.out.ix hss) hss).mono ?_
              rintro e w6 ⟨rfl, hb6⟩
              have HB3 := Lib.hid (below_next HB2.out hb6)
              have HX3 := Lib.hid (HX2.out.next hb6)
              have HO3 := Lib.hid (HO2.out.next hb6)
              have K3 := Lib.hid (K2.out.next hb6)
              clear hb6 HB2 HX2 HO2 K2
              generalize wo.heap.size = g1 at K3 ⊢
              generalize (fndR (plcS (fndP q.name q.ver) (srt pLt sp))).1 = z
              rcases hnb : newB sp q
              · have h2 : (fndR (plcS (fndP q.name q.ver) (srt pLt sp))).2 = true := by rw [fnd2, any_srt, fnd_dup]; simpa [newB] using hnb
                have HN := Lib.hid hnb
                rw [h2]
                clear h2 hnb
                go_wp2
                go_roundw
                case rel => exact ⟨k + 1, t, by omega, by omega, by simp, by rw [filter_no HQ.out HN.out]; exact HT.out, HB3.out, HX3.out, HO3.out⟩
                case measure => (try simp only [intOf]); omega
              · have h2 : (fndR (plcS (fndP q.name q.ver) (srt pLt sp))).2 = false := by rw [fnd2, any_srt, fnd_dup]; simpa [newB] using hnb
                have HN := Lib.hid hnb
                rw [h2]
                clear h2 hnb
                obtain ⟨a0, a1, a2, a3, a4, a5, a6, a7, a8⟩ := blk9 K3.out
                go_wp2_with (at_builtin; refine wpList_append_el2 (by rfl) _ _ 43 (by rfl) w3.heap.size 26 _ 9 184 Tryz.underlying43 infPkg' rfl (by omega) (RPkg w) _ t (by rfl) (HO3.out.alloc _) q (encK r q) w6.heap.size 1 (by rfl) (blk_new1 _ _ _) ⟨r, rfl, HR.out⟩ rfl (encK_one _ _) (by omega) (by omega) (by simp; have := HB3.out.size; omega) ?_; intro g' cap w4 ho4 hg4 hat4; have HB4 := Lib.hid ((HO3.out.alloc _).below (below_alloc HB3.out _) (by simp; have := HB3.out.size; omega) hg4); have HX4 := Lib.hid ((HX3.out.alloc _).app (HO3.out.alloc _) ho4 hg4 hat4); have HO4 := Lib.hid ho4; clear ho4 hg4 hat4)
                go_roundw
                case rel => exact ⟨k + 1, t ++ [q], by omega, by simp; omega, by simp, by rw [filter_yes HQ.out HN.out, ← List.append_assoc, ← HT.out], HB4.out, HX4.out, HO4.out⟩
                case measure => (try simp only [intOf]); omega
            · have hT := HT.out
              rw [List.take_of_length_le (by omega)] at hT
              have HAL := Lib.hid (show t = allL s repo by rw [hT, HT0.out]; rfl)
              have HFA := Lib.hid (show ∀ p ∈ t, fewO p from fun p hp => by
                rw [hT] at hp
                rcases List.mem_append.1 hp with hp | hp
                · exact HFSP.out p hp
                · exact HFR.out p hp)
              clear hT
              obtain ⟨A7, c7, rfl, hps⟩ := own_pkgs HO.out (below_next HB.out HB1.out) (by omega)
              have HPS := Lib.hid hps
              have HB7 := Lib.hid (below_next HB.out HB1.out)
              clear hps
              by_cases h0 : mayAllE t = 0
              · have H0 := Lib.hid h0
                clear h0
                go_wp2_with fail
                refine (new_own A7 c7 t _ HPS.out HFA.out H0.out).mono ?_
                rintro e w8 ⟨G8, v8, rfl, hg8, hx8, ho8, hb8⟩
                have HG8 := Lib.hid (Nat.le_trans HB7.out.size hg8)
                have HX8 := Lib.hid hx8
                have HO8 := Lib.hid (ho8.down HB7.out.size)
                have HB8 := Lib.hid (below_next HB7.out hb8)
                clear hx8 hb8 ho8 hg8
                go_wp2
                go_ret2
                exact .inl ⟨by rw [HAE.out, ← HAL.out, H0.out], G8, v8, rfl, HG8.out, HX8.out, by rw [← HAL.out]; exact HO8.out, HB8.out⟩
              · have H0 := Lib.hid h0
                clear h0
                go_wp2_with fail
                refine (new_no A7 c7 t _ HPS.out HFA.out H0.out).mono ?_
                rintro e w8 ⟨rfl, hb8⟩
                have HB8 := Lib.hid (below_next HB7.out hb8)
                clear hb8
                go_wp2
                go_ret2
                exact .inr ⟨by rw [HAE.out, ← HAL.out]; exact H0.out, by rw [HAE.out, ← HAL.out]; rfl, HB8.out⟩
    · go_enter Tryz.func77, Tryz.ntmps77
      have HE := Lib.hid (show allE s repo = mayEntsE s by unfold allE; rw [if_neg (by simpa using hr0), if_pos hs0])
      have HS0 := Lib.hid hs0
      have HR0 := Lib.hid hr0
      generalize he : mayEntsE s = E at hs0
      have HE1 := Lib.hid he
      have hd : (E != 0) = true := by rw [bne_iff_ne]; exact hs0
      clear he hs0 hr0
      go_wp2_with fail
      refine (mayAll_any A c repo _ HL.out (fun p hp => (HF.out p hp).fewR)).mono ?_
      rintro e w1 ⟨rfl, hb1⟩
      rw [HR0.out]
      have HB := Lib.hid hb1
      clear hb1
      go_wp2_with fail
      refine (ents_any A2 c2 s _ (HS.out.kept (Kept.of_below HB.out)) (fun x hx => (HFS.out x hx).fewR)).mono ?_
      rintro e w2 ⟨rfl, hb2⟩
      rw [HE1.out]
      have HB := Lib.hid (below_next HB.out hb2)
      clear hb2
      go_wp2
      go_ret2
      exact .inr ⟨by rw [HE.out]; exact HS0.out, by rw [HE.out, HE1.out]; rfl, HB.out⟩
  · go_enter Tryz.func77, Tryz.ntmps77
    have HE := Lib.hid (show allE s repo = mayAllE repo by unfold allE; rw [if_pos hr0])
    have HR0 := Lib.hid hr0
    generalize he : mayAllE repo = E at hr0
    have HE1 := Lib.hid he
    have hd : (E != 0) = true := by rw [bne_iff_ne]; exact hr0
    clear he hr0
    go_wp2_with fail
    refine (mayAll_any A c repo _ HL.out (fun p hp => (HF.out p hp).fewR)).mono ?_
    rintro e w1 ⟨rfl, hb1⟩
    rw [HE1.out]
    have HB := Lib.hid hb1
    clear hb1
    go_wp2
    go_ret2
    exact .inr ⟨by rw [HE.out]; exact HR0.out, by rw [HE.out, HE1.out]; rfl, HB.out⟩
end Go.Proofs.YtflmocamfedbdaaGreatDoor
namespace Go.Proofs.YtflmocamfedbdaaGreatDoor
set_option linter.unusedSimpArgs false
set_option linter.unusedVariables false
open Go.RowKit
attribute [local go_sem ↓] Go.wp_at_zero Go.wp_at_succ
/-- what an element of a row of copies is -/
def RB (w : World) (r : Raw) (p : Pkg) : Prop := RP (flt TB w) r p
theorem RB.keep {w w' : World} {r : Raw} {p : Pkg} (h : RB w r p) (hk : KeepB (fun t => TB t = true) w w') : RB w' r p := RP.fkeep h hk
def OwnB (w : World) (B : Nat) (v : Value) (l : List Pkg) : Prop := Own w B 26 9 (RK (RB w)) v l
theorem OwnB.nil_ (w : World) (B : Nat) : OwnB w B (.slice none 0 0) [] := Own.nil_ _ _ _ _ _
theorem OwnB.alloc {w : World} {B : Nat} {v : Value} {l : List Pkg} (h : OwnB w B v l) (o : Obj) : OwnB (w.alloc o) B v l := (Own.alloc h o).mono (RK.mono fun _ _ h => h.keep (KeepB.alloc o))
theorem OwnB.next {w w' : World} {B : Nat} {v : Value} {l : List Pkg} (h : OwnB w B v l) (hb : Below w.heap.size w w') : OwnB w' B v l := (Own.next h hb).mono (RK.mono fun _ _ h => h.keep (KeepB.of_below hb))
theorem OwnB.app {w w' : World} {B g n cap : Nat} {v : Value} {l l' : List Pkg} (h : OwnB w B v l) (ho : Own w' B 26 9 (RK (RB w)) (.slice (some ⟨g, 0, none⟩) n cap) l') (hg : w.grownBy w' v.ownBlock) : OwnB w' B (.slice (some ⟨g, 0, none⟩) n cap) l' :=
  ho.mono (RK.mono fun _ _ h1 => h1.keep (Own.keep (T := fun t => TB t = true) h hg (by decide)))
theorem OwnB.pkgs {w : World} {B : Nat} {v : Value} {l : List Pkg} (h : OwnB w B v l) (hz : l.length * 184 ≤ 140737488351232) : ∃ A c, v = .slice A l.length c ∧ Pkgs w A c l := by
  obtain ⟨A, c, h1, h2⟩ := Own.slc (z := 184) h hz
  exact ⟨A, c, h1, Slc.mono h2 (Kept.refl _) fun cs x ⟨r, e1, e2⟩ => ⟨r, e1, RP.kept e2 (Kept.flt TB _)⟩⟩
def RetPkgs (w : World) (l : List Pkg) (e : Ending) (w' : World) : Prop := ∃ A c, e = .returned (.slice A l.length c) ∧ Pkgs w' A c l ∧ Below w.heap.size w w'
set_option maxRecDepth 100000 in
set_option maxHeartbeats 1000000 in
theorem listA_any  (P : Pkg → Bool) (x : Value) (s : List Pkg) (w : World) (hx : Ix w x s) (hs : s.length ≤ 10000) (hf : ∀ p ∈ s, fewO p)
    (hclo : ∀ (k : Nat) (q : Pkg) (W : World), s[k]? = some q → Below w.heap.size w W → Calls Tryz.prog 86 #[.int .i64 k] W fun e w' => e = .returned (.bool (P q)) ∧ Below W.heap.size W w') :
    Calls Tryz.prog 80 #[x, .func (.func 86) #[] #[]] w (RetPkgs w (s.filter P)) := by
  have HX := Lib.hid hx
  have HF := Lib.hid hf
  have HC := Lib.hid hclo
  clear hx hf hclo
  go_enter Tryz.func80, Tryz.ntmps80
  go_wp2_with fail
  refine (len_any _ s _ HX.out).mono ?_
  rintro e w1 ⟨rfl, rfl⟩
  go_wp2
  go_loopw [5, 11] (fun v i wr => ∃ (k : Nat) (t : List Pkg), k ≤ s.length ∧ t.length ≤ k ∧ i = .int .i64 k ∧ t = (s.take k).filter P ∧ Below w.heap.size w wr ∧ OwnB wr w.heap.size v t) (fun _ i _ => s.length - (intOf i).toNat)
  case atStart => exact ⟨0, [], Nat.zero_le _, Nat.zero_le _, rfl, rfl, Below.refl _ _, OwnB.nil_ _ _⟩
  case round =>
    obtain ⟨k, t, hk, htk, rfl, ht, hb, ho⟩ := hrel
    obtain ⟨wo, rfl⟩ : ∃ wo : World, wo = wr := ⟨_, rfl⟩
    have HT := Lib.hid ht
    have HB := Lib.hid hb
    have HO := Lib.hid ho
    clear ht hb ho
    by_cases hlt : k < s.length
    · obtain ⟨q, hq⟩ : ∃ q, s[k]? = some q := ⟨_, List.getElem?_eq_getElem hlt⟩
      have HQ := Lib.hid hq
      have HQF := Lib.hid (HF.out q (List.mem_of_getElem? hq))
      have hsm : s.length ≤ 1000000 := by omega
      clear hq
      go_wp2_with fail
      refine (at_yes _ s k q _ (HX.out.next HB.out) hsm HQ.out HQF.out).mono ?_
      rintro e w2 ⟨r, rfl, hr, hb2⟩
      have HB2 := Lib.hid (below_alloc (below_next HB.out hb2) (.cells #[.string (bs (q).name), .string (bs (q).ver), .slice (r).a1 (q).pre.length (r).c1, .slice (r).a2 (q).dep.length (r).c2, .slice (r).a3 (q).rcm.length (r).c3, .slice (r).a4 (q).con.length (r).c4, .slice (r).a5 (q).brk.length (r).c5, .slice (r).a6 (q).prv.length (r).c6, .bool (q).ess] 26))
      have HO2 := Lib.hid ((HO.out.next hb2).alloc (.cells #[.string (bs (q).name), .string (bs (q).ver), .slice (r).a1 (q).pre.length (r).c1, .slice (r).a2 (q).dep.length (r).c2, .slice (r).a3 (q).rcm.length (r).c3, .slice (r).a4 (q).con.length (r).c4, .slice (r).a5 (q).brk.length (r).c5, .slice (r).a6 (q).prv.length (r).c6, .bool (q).ess] 26))
      have HR2 := Lib.hid (show RB (w2.alloc (.cells #[.string (bs (q).name), .string (bs (q).ver), .slice (r).a1 (q).pre.length (r).c1, .slice (r).a2 (q).dep.length (r).c2, .slice (r).a3 (q).rcm.length (r).c3, .slice (r).a4 (q).con.length (r).c4, .slice (r).a5 (q).brk.length (r).c5, .slice (r).a6 (q).prv.length (r).c6, .bool (q).ess] 26)) r q from RP.fkeep hr (KeepB.alloc _))
      have K2 := Lib.hid (blk_new1 w2 26 #[.string (bs (q).name), .string (bs (q).ver), .slice (r).a1 (q).pre.length (r).c1, .slice (r).a2 (q).dep.length (r).c2, .slice (r).a3 (q).rcm.length (r).c3, .slice (r).a4 (q).con.length (r).c4, .slice (r).a5 (q).brk.length (r).c5, .slice (r).a6 (q).prv.length (r).c6, .bool (q).ess])
      clear hr hb2
      rcases hP : P q
      all_goals
        have HP := Lib.hid hP
        clear hP
        go_wp2_with fail
        refine (HC.out k q _ HQ.out HB2.out).mono ?_
        rintro e w3 ⟨rfl, hb3⟩
        rw [HP.out]
        have HB3 := Lib.hid (below_next HB2.out hb3)
        have HO3 := Lib.hid (HO2.out.next hb3)
        have HR3 := Lib.hid (HR2.out.keep (KeepB.of_below hb3))
        have K3 := Lib.hid (K2.out.next hb3)
        clear hb3 HB2 HO2 HR2 K2
        generalize w2.heap.size = g1 at K3 ⊢
      · go_wp2
        go_roundw
        case rel => exact ⟨k + 1, t, by omega, by omega, by simp, by rw [filter_no HQ.out HP.out]; exact HT.out, HB3.out, HO3.out⟩
        case measure => (try simp only [intOf]); omega
      · obtain ⟨a0, a1, a2, a3, a4, a5, a6, a7, a8⟩ := blk9 K3.out
        go_wp2_with (at_builtin; refine wpList_append_el (by rfl) _ _ 43 (by rfl) w.heap.size 26 _ 9 184 Tryz.underlying43 infPkg' rfl (by omega) (RK (RB (w3.alloc (.cells #[.string (bs (q).name), .string (bs (q).ver), .slice (r).a1 (q).pre.length (r).c1, .slice (r).a2 (q).dep.length (r).c2, .slice (r).a3 (q).rcm.length (r).c3, .slice (r).a4 (q).con.length (r).c4, .slice (r).a5 (q).brk.length (r).c5, .slice (r).a6 (q).prv.length (r).c6, .bool (q).ess] 26)))) _ t (by rfl) (HO3.out.alloc _) q (encK r q) w3.heap.size 1 (by rfl) (blk_new1 _ _ _) ⟨r, rfl, HR3.out.keep (KeepB.alloc _)⟩ rfl (encK_one _ _) (by omega) (by omega) (by simp; have := HB3.out.size; omega) ?_; intro g' cap w4 ho4 hg4; have HB4 := Lib.hid (Own.below (HO3.out.alloc _) (below_alloc HB3.out _) (by simp; have := HB3.out.size; omega) hg4); have HO4 := Lib.hid (OwnB.app (HO3.out.alloc _) ho4 hg4); clear ho4 hg4)
        go_roundw
        case rel => exact ⟨k + 1, t ++ [q], by omega, by simp; omega, by simp, by rw [filter_yes HQ.out HP.out, ← HT.out], HB4.out, HO4.out⟩
        case measure => (try simp only [intOf]); omega
    · have ho := HO.out
      have hT := HT.out
      rw [take_end hk hlt] at hT
      subst hT
      obtain ⟨A2, c2, rfl, hps⟩ := ho.pkgs (by omega)
      have HPS := Lib.hid hps
      clear ho hps HO
      go_wp2
      go_ret
      exact ⟨A2, c2, rfl, HPS.out, HB.out⟩
set_option maxRecDepth 100000 in
set_option maxHeartbeats 1000000 in
theorem listO_any (g0 g1 : Nat) (P : Pkg → Bool) (x : Value) (s : List Pkg) (w : World) (hx : Ix w x s) (hs : s.length ≤ 10000) (hf : ∀ p ∈ s, fewO p)
    (hclo : ∀ (k : Nat) (q : Pkg) (W : World), s[k]? = some q → Below w.heap.size w W → Calls Tryz.prog 81 #[.int .i64 k, .pointer (some ⟨g0, 0, none⟩), .pointer (some ⟨g1, 0, none⟩)] W fun e w' => e = .returned (.bool (P q)) ∧ Below W.heap.size W w') :
    Calls Tryz.prog 80 #[x, .func (.func 81) #[] #[.pointer (some ⟨g0, 0, none⟩), .pointer (some ⟨g1, 0, none⟩)]] w (RetPkgs w (s.filter P)) := by
  have HX := Lib.hid hx
  have HF := Lib.hid hf
  have HC := Lib.hid hclo
  clear hx hf hclo
  go_enter Tryz.func80, Tryz.ntmps80
  go_wp2_with fail
  refine (len_any _ s _ HX.out).mono ?_
  rintro e w1 ⟨rfl, rfl⟩
  go_wp2
  go_loopw [5, 11] (fun v i wr => ∃ (k : Nat) (t : List Pkg), k ≤ s.length ∧ t.length ≤ k ∧ i = .int .i64 k ∧ t = (s.take k).filter P ∧ Below w.heap.size w wr ∧ OwnB wr w.heap.size v t) (fun _ i _ => s.length - (intOf i).toNat)
  case atStart => exact ⟨0, [], Nat.zero_le _, Nat.zero_le _, rfl, rfl, Below.refl _ _, OwnB.nil_ _ _⟩
  case round =>
    obtain ⟨k, t, hk, htk, rfl, ht, hb, ho⟩ := hrel
    obtain ⟨wo, rfl⟩ : ∃ wo : World, wo = wr := ⟨_, rfl⟩
    have HT := Lib.hid ht
    have HB := Lib.hid hb
    have HO := Lib.hid ho
    clear ht hb ho
    by_cases hlt : k < s.length
    · obtain ⟨q, hq⟩ : ∃ q, s[k]? = some q := ⟨_, List.getElem?_eq_getElem hlt⟩
      have HQ := Lib.hid hq
      have HQF := Lib.hid (HF.out q (List.mem_of_getElem? hq))
      have hsm : s.length ≤ 1000000 := by omega
      clear hq
      go_wp2_with fail
      refine (at_yes _ s k q _ (HX.out.next HB.out) hsm HQ.out HQF.out).mono ?_
      rintro e w2 ⟨r, rfl, hr, hb2⟩
      have HB2 := Lib.hid (below_alloc (below_next HB.out hb2) (.cells #[.string (bs (q).name), .string (bs (q).ver), .slice (r).a1 (q).pre.length (r).c1, .slice (r).a2 (q).dep.length (r).c2, .slice (r).a3 (q).rcm.length (r).c3, .slice (r).a4 (q).con.length (r).c4, .slice (r).a5 (q).brk.length (r).c5, .slice (r).a6 (q).prv.length (r).c6, .bool (q).ess] 26))
      have HO2 := Lib.hid ((HO.out.next hb2).alloc (.cells #[.string (bs (q).name), .string (bs (q).ver), .slice (r).a1 (q).pre.length (r).c1, .slice (r).a2 (q).dep.length (r).c2, .slice (r).a3 (q).rcm.length (r).c3, .slice (r).a4 (q).con.length (r).c4, .slice (r).a5 (q).brk.length (r).c5, .slice (r).a6 (q).prv.length (r).c6, .bool (q).ess] 26))
      have HR2 := Lib.hid (show RB (w2.alloc (.cells #[.string (bs (q).name), .string (bs (q).ver), .slice (r).a1 (q).pre.length (r).c1, .slice (r).a2 (q).dep.length (r).c2, .slice (r).a3 (q).rcm.length (r).c3, .slice (r).a4 (q).con.length (r).c4, .slice (r).a5 (q).brk.length (r).c5, .slice (r).a6 (q).prv.length (r).c6, .bool (q).ess] 26)) r q from RP.fkeep hr (KeepB.alloc _))
      have K2 := Lib.hid (blk_new1 w2 26 #[.string (bs (q).name), .string (bs (q).ver), .slice (r).a1 (q).pre.length (r).c1, .slice (r).a2 (q).dep.length (r).c2, .slice (r).a3 (q).rcm.length (r).c3, .slice (r).a4 (q).con.length (r).c4, .slice (r).a5 (q).brk.length (r).c5, .slice (r).a6 (q).prv.length (r).c6, .bool (q).ess])
      clear hr hb2
      rcases hP : P q
      all_goals
        have HP := Lib.hid hP
        clear hP
        go_wp2_with fail
        refine (HC.out k q _ HQ.out HB2.out).mono ?_
        rintro e w3 ⟨rfl, hb3⟩
        rw [HP.out]
        have HB3 := Lib.hid (below_next HB2.out hb3)
        have HO3 := Lib.hid (HO2.out.next hb3)
        have HR3 := Lib.hid (HR2.out.keep (KeepB.of_below hb3))
        have K3 := Lib.hid (K2.out.next hb3)
        clear hb3 HB2 HO2 HR2 K2
        generalize w2.heap.size = g1 at K3 ⊢
      · go_wp2
        go_roundw
        case rel => exact ⟨k + 1, t, by omega, by omega, by simp, by rw [filter_no HQ.out HP.out]; exact HT.out, HB3.out, HO3.out⟩
        case measure => (try simp only [intOf]); omega
      · obtain ⟨a0, a1, a2, a3, a4, a5, a6, a7, a8⟩ := blk9 K3.out
        go_wp2_with (at_builtin; refine wpList_append_el (by rfl) _ _ 43 (by rfl) w.heap.size 26 _ 9 184 Tryz.underlying43 infPkg' rfl (by omega) (RK (RB (w3.alloc (.cells #[.string (bs (q).name), .string (bs (q).ver), .slice (r).a1 (q).pre.length (r).c1, .slice (r).a2 (q).dep.length (r).c2, .slice (r).a3 (q).rcm.length (r).c3, .slice (r).a4 (q).con.length (r).c4, .slice (r).a5 (q).brk.length (r).c5, .slice (r).a6 (q).prv.length (r).c6, .bool (q).ess] 26)))) _ t (by rfl) (HO3.out.alloc _) q (encK r q) w3.heap.size 1 (by rfl) (blk_new1 _ _ _) ⟨r, rfl, HR3.out.keep (KeepB.alloc _)⟩ rfl (encK_one _ _) (by omega) (by omega) (by simp; have := HB3.out.size; omega) ?_; intro g' cap w4 ho4 hg4; have HB4 := Lib.hid (Own.below (HO3.out.alloc _) (below_alloc HB3.out _) (by simp; have := HB3.out.size; omega) hg4); have HO4 := Lib.hid (OwnB.app (HO3.out.alloc _) ho4 hg4); clear ho4 hg4)
        go_roundw
        case rel => exact ⟨k + 1, t ++ [q], by omega, by simp; omega, by simp, by rw [filter_yes HQ.out HP.out, ← HT.out], HB4.out, HO4.out⟩
        case measure => (try simp only [intOf]); omega
    · have ho := HO.out
      have hT := HT.out
      rw [take_end hk hlt] at hT
      subst hT
      obtain ⟨A2, c2, rfl, hps⟩ := ho.pkgs (by omega)
      have HPS := Lib.hid hps
      clear ho hps HO
      go_wp2
      go_ret
      exact ⟨A2, c2, rfl, HPS.out, HB.out⟩
set_option maxRecDepth 100000 in
theorem allc_any (k : Nat) (w : World) : Calls Tryz.prog 86 #[.int .i64 k] w fun e w' => e = .returned (.bool true) ∧ Below w.heap.size w w' := by
  go_enter Tryz.func86, Tryz.ntmps86
  go_wp2
  go_ret
  exact ⟨rfl, Below.refl _ _⟩
/-- a slice of packages and an error are returned -/
def RetErr (w : World) (E : Int) (l : List Pkg) (e : Ending) (w' : World) : Prop := (E = 0 ∧ ∃ A c, e = .returned (.tuple #[.slice A l.length c, .int .i64 0]) ∧ Pkgs w' A c l ∧ Below w.heap.size w w') ∨ (E ≠ 0 ∧ e = .returned (.tuple #[.slice none 0 0, .int .i64 E]) ∧ Below w.heap.size w w')
theorem fewO_all {s : List Ent} {repo : List Pkg} (hf : ∀ p ∈ repo, fewO p) (hfs : ∀ x ∈ s, fewO x.pkg) : ∀ p ∈ srt pLt (allL s repo), fewO p := fun p hp => by
  rw [mem_srt] at hp
  rcases List.mem_append.1 hp with hp | hp
  · obtain ⟨x, hx, rfl⟩ := List.mem_map.1 hp
    exact hfs x hx
  · exact hf p (List.mem_filter.1 hp).1
theorem all_len24 {s : List Ent} {repo : List Pkg} (h : allE s repo = 0) : (srt pLt (allL s repo)).length ≤ 24 := by
  rw [srt_len]
  exact (mayAll_zero (allE_zero h).2.2).1
set_option maxRecDepth 100000 in
theorem all_any (A A2 : Option Addr) (c c2 : Nat) (repo : List Pkg) (s : List Ent) (w : World) (hl : Pkgs w A c repo) (hs : Ents w A2 c2 s) (hf : ∀ p ∈ repo, fewO p) (hfs : ∀ x ∈ s, fewO x.pkg) :
    Calls Tryz.prog 41 #[.slice A repo.length c, .slice A2 s.length c2] w (RetErr w (allE s repo) (srt pLt (allL s repo))) := by
  have HL := Lib.hid hl
  have HS := Lib.hid hs
  have HF := Lib.hid hf
  have HFS := Lib.hid hfs
  clear hl hs hf hfs
  by_cases h0 : allE s repo = 0
  · have HFA := Lib.hid (fewO_all (s := s) HF.out HFS.out)
    have HLN := Lib.hid (all_len24 h0)
    have H0 := Lib.hid h0
    obtain ⟨t, ht⟩ : ∃ t, t = srt pLt (allL s repo) := ⟨_, rfl⟩
    have HT := Lib.hid ht.symm
    rw [← ht] at HFA HLN ⊢
    clear h0 ht
    go_enter Tryz.func41, Tryz.ntmps41
    go_wp2_with fail
    refine (both_any A A2 c c2 repo s _ HL.out HS.out HF.out HFS.out).mono ?_
    rintro e w1 (⟨_, G1, v1, rfl, _, hx1, hx2, hb⟩ | ⟨h0, rfl, hb⟩)
    · rw [HT.out] at hx2
      have HX := Lib.hid (ix_of_own hx1 hx2 (by have := HLN.out; omega))
      have HB := Lib.hid hb
      clear hx1 hx2 hb
      go_wp2_with fail
      refine (listA_any (fun _ => true) _ t _ HX.out (by have := HLN.out; omega) HFA.out (fun k q W _ _ => allc_any k W)).mono ?_
      rintro e w2 ⟨A3, c3, rfl, hp, hb2⟩
      rw [show t.filter (fun _ => true) = t by simp] at hp ⊢
      have HP := Lib.hid hp
      have HB2 := Lib.hid (below_next HB.out hb2)
      clear hp hb2
      go_wp2
      go_ret2
      exact .inl ⟨H0.out, A3, c3, rfl, HP.out, HB2.out⟩
    · exact absurd H0.out h0
  · have H0 := Lib.hid h0
    obtain ⟨E, hE⟩ : ∃ E, E = allE s repo := ⟨_, rfl⟩
    have HE := Lib.hid hE.symm
    rw [← hE] at h0 ⊢
    have hd : (E != 0) = true := by rw [bne_iff_ne]; exact h0
    have HE0 := Lib.hid h0
    clear hE h0
    go_enter Tryz.func41, Tryz.ntmps41
    go_wp2_with fail
    refine (both_any A A2 c c2 repo s _ HL.out HS.out HF.out HFS.out).mono ?_
    rintro e w1 (⟨h0, _⟩ | ⟨_, rfl, hb⟩)
    · exact absurd h0 H0.out
    · rw [HE.out]
      have HB := Lib.hid hb
      clear hb
      go_wp2
      go_ret2
      exact .inr ⟨HE0.out, rfl, HB.out⟩
end Go.Proofs.YtflmocamfedbdaaGreatDoor
namespace Go.Proofs.YtflmocamfedbdaaGreatDoor
set_option linter.unusedSimpArgs false
set_option linter.unusedVariables false
open Go.RowKit
attribute [local go_sem ↓] Go.wp_at_zero Go.wp_at_succ
attribute [local irreducible] wpQuiet
def nameE (n : List UInt8) (x : Ent) : Bool := x.pkg.name == n
set_option maxRecDepth 100000 in
theorem rfind_any (A : Option Addr) (c : Nat) (l : List Ent) (n : List UInt8) (w : World) (hl : Ents w A c l) :
    Calls Tryz.prog 84 #[.slice A l.length c, .string (bs n)] w fun e w' => e = .returned (.int .i64 (idxS (nameE n) l)) ∧ Below w.heap.size w w' := by
  have hbd := hl.bd
  have HL := Lib.hid hl
  clear hl
  go_enter Tryz.func84, Tryz.ntmps84
  go_wp2
  go_loopw [9] (fun i wr => ∃ k : Nat, k ≤ l.length ∧ i = .int .i64 k ∧ Below w.heap.size w wr ∧ (l.take k).any (nameE n) = false) (fun i _ => l.length - (intOf i).toNat)
  case atStart => exact ⟨0, Nat.zero_le _, rfl, Below.refl _ _, rfl⟩
  case round =>
    obtain ⟨k, hk, rfl, hb, hn⟩ := hrel
    have HB := Lib.hid hb
    have HN := Lib.hid hn
    clear hb hn
    by_cases hlt : k < l.length
    · obtain ⟨q, b, o, r, hq, rfl, hr, e0, e1, e2, e3, e4, e5, e6, e7, e8, e9, e10⟩ := HL.out.at_ hlt (Kept.of_below HB.out)
      have HQ := Lib.hid hq
      clear hq hr
      go_wp2
      all_goals first
        | (go_ret
           exact ⟨by rw [idx_at HQ.out (by assumption) HN.out]; rfl, by have hb0 := HB.out; (repeat (first | assumption | exact Below.refl _ _ | refine below_next ?_ (by assumption) | refine below_drewN ?_ _ | refine below_alloc ?_ _))⟩)
        | (go_roundw
           case rel => exact ⟨k + 1, by omega, by simp, by have hb0 := HB.out; (repeat (first | assumption | exact Below.refl _ _ | refine below_next ?_ (by assumption) | refine below_drewN ?_ _ | refine below_alloc ?_ _)), any_step HQ.out (by assumption) HN.out⟩
           case measure => (try simp only [intOf]); omega)
    · go_wp2
      go_ret
      exact ⟨by rw [idx_no (any_end hk hlt HN.out)]; rfl, HB.out⟩
set_option maxRecDepth 100000 in
set_option maxHeartbeats 400000 in
theorem samePkgs_any (A B : Option Addr) (c d : Nat) (l m : List Pkg) (w : World) (hl : Pkgs w A c l) (hm : Pkgs w B d m) :
    Calls Tryz.prog 39 #[.slice A l.length c, .slice B m.length d] w fun e w' => e = .returned (.bool (decide (l = m))) ∧ Below w.heap.size w w' := by
  have hbd := hl.bd
  have hbd2 := hm.bd
  have HL := Lib.hid hl
  have HM := Lib.hid hm
  clear hl hm
  by_cases hlen : l.length = m.length
  · have hlb : ((l.length : Int) != (m.length : Int)) = false := by simp [hlen]
    have hl1 : l.length ≤ m.length := by omega
    have hl2 : m.length ≤ l.length := by omega
    clear hlen
    go_enter Tryz.func39, Tryz.ntmps39
    go_wp2
    go_loopw [13] (fun i wr => ∃ k : Nat, k ≤ l.length ∧ i = .int .i64 k ∧ Below w.heap.size w wr ∧ l.take k = m.take k) (fun i _ => l.length - (intOf i).toNat)
    case atStart => exact ⟨0, Nat.zero_le _, rfl, Below.refl _ _, rfl⟩
    case round =>
      obtain ⟨k, hk, rfl, hb, hn⟩ := hrel
      obtain ⟨wo, rfl⟩ : ∃ wo : World, wo = wr := ⟨_, rfl⟩
      have HB := Lib.hid hb
      have HN := Lib.hid hn
      clear hb hn
      by_cases hlt : k < l.length
      · obtain ⟨x, b, o, r1, hx, rfl, ha1, e0, e1, e2, e3, e4, e5, e6, e7, e8⟩ := HL.out.at_ hlt (Kept.of_below HB.out)
        obtain ⟨y, b', o', r2, hy, rfl, ha2, f0, f1, f2, f3, f4, f5, f6, f7, f8⟩ := HM.out.at_ (by omega : k < m.length) (Kept.of_below HB.out)
        have HX := Lib.hid hx
        have HY := Lib.hid hy
        clear hx hy
        have hi0 : (0 : Int) ≤ (k : Int) := Int.natCast_nonneg _
        have hi1 : (k : Int) < (l.length : Int) := by omega
        have hi2 : (k : Int) < (m.length : Int) := by omega
        have HA1 := Lib.hid (ha1.kept (Kept.of_below HB.out))
        have HA2 := Lib.hid (ha2.kept (Kept.of_below HB.out))
        clear ha1 ha2
        have p0 := fun p : Be wo => Be.cell e0 p
        have p1 := fun p : Be wo => Be.cell e1 p
        have p2 := fun p : Be wo => Be.cell e2 p
        have p3 := fun p : Be wo => Be.cell e3 p
        have p4 := fun p : Be wo => Be.cell e4 p
        have p5 := fun p : Be wo => Be.cell e5 p
        have p6 := fun p : Be wo => Be.cell e6 p
        have p7 := fun p : Be wo => Be.cell e7 p
        have p8 := fun p : Be wo => Be.cell e8 p
        have q0 := fun p : Be wo => Be.cell f0 p
        have q1 := fun p : Be wo => Be.cell f1 p
        have q2 := fun p : Be wo => Be.cell f2 p
        have q3 := fun p : Be wo => Be.cell f3 p
        have q4 := fun p : Be wo => Be.cell f4 p
        have q5 := fun p : Be wo => Be.cell f5 p
        have q6 := fun p : Be wo => Be.cell f6 p
        have q7 := fun p : Be wo => Be.cell f7 p
        have q8 := fun p : Be wo => Be.cell f8 p
        clear e0 e1 e2 e3 e4 e5 e6 e7 e8 f0 f1 f2 f3 f4 f5 f6 f7 f8
        go_wp2
        refine region_be (by kernel_rfl) (by kernel_rfl) ?_
        repeat (quiet_step (first | (go_at_call 28; with_reducible exact Calls.be_of (same_any x y r1 r2 _ (HA1.out.kept (Be.kept _)) (HA2.out.kept (Be.kept _))))))
        refine wpQuiet_nil ?_
        intro _ hw'
        obtain ⟨pb, hw''⟩ := hw'
        subst hw''
        obtain ⟨W2, hbw⟩ := pb
        dsimp only
        clear p0 p1 p2 p3 p4 p5 p6 p7 p8 q0 q1 q2 q3 q4 q5 q6 q7 q8
        go_wp2
        · have hne : x ≠ y := by simpa using (by assumption : (!decide (x = y)) = true)
          go_ret
          have hf : decide (l = m) = false := by
            rw [decide_eq_false_iff_not]
            intro h
            have h1 := HX.out
            rw [h, HY.out] at h1
            exact hne (Option.some.inj h1).symm
          exact ⟨by rw [hf]; rfl, by have hb0 := HB.out; (repeat (first | assumption | exact Below.refl _ _ | refine below_next ?_ (by assumption) | refine below_drewN ?_ _ | refine below_alloc ?_ _))⟩
        · have heq : x = y := by simpa using (by assumption : (!decide (x = y)) = false)
          subst heq
          go_roundw
          case rel => exact ⟨k + 1, by omega, by simp, by have hb0 := HB.out; (repeat (first | assumption | exact Below.refl _ _ | refine below_next ?_ (by assumption) | refine below_drewN ?_ _ | refine below_alloc ?_ _)), take_ext HX.out HY.out HN.out⟩
          case measure => (try simp only [intOf]); omega
      · go_wp2
        go_ret
        have hn := HN.out
        rw [List.take_of_length_le (by omega), List.take_of_length_le (by omega)] at hn
        exact ⟨by simp [hn], HB.out⟩
  · have hlb : ((l.length : Int) != (m.length : Int)) = true := by rw [bne_iff_ne]; omega
    go_enter Tryz.func39, Tryz.ntmps39
    go_wp2
    go_ret
    have hf : decide (l = m) = false := by
      rw [decide_eq_false_iff_not]
      intro h
      exact hlen (by rw [h])
    exact ⟨by rw [hf]; rfl, Below.refl _ _⟩
theorem ret_pkgs {w w' : World} {B k : Nat} {v : Value} {l : List Pkg} (h : Own w' w.heap.size B 9 (RPkg w) v l) (hb : Below w.heap.size w w') (hl : l.length * 184 ≤ 140737488351232) : RetPkgs w l (.returned v) w' := by
  obtain ⟨A, c, rfl, hs⟩ := h.slc hl
  exact ⟨A, c, rfl, Slc.mono hs (Kept.refl _) (fun _ _ h => h.kept (Kept.of_below hb)), hb⟩
set_option maxRecDepth 100000 in
theorem bare12_any (A : Option Addr) (c : Nat) (l : List Ent) (w : World) (hl : Ents w A c l) :
    Calls Tryz.prog 35 #[.slice A l.length c] w (RetPkgs w (l.map Ent.pkg)) := by
  have hbd := hl.bd
  have HL := Lib.hid hl
  clear hl
  go_enter Tryz.func35, Tryz.ntmps35
  go_wp2
  go_loopw [3, 8] (fun v i wr => ∃ k : Nat, k ≤ l.length ∧ i = .int .i64 k ∧ Below w.heap.size w wr ∧ Own wr w.heap.size 26 9 (RPkg w) v ((l.take k).map Ent.pkg)) (fun _ i _ => l.length - (intOf i).toNat)
  case atStart => exact ⟨0, Nat.zero_le _, rfl, Below.refl _ _, Own.nil_ _ _ _ _ _⟩
  case round =>
    obtain ⟨k, hk, rfl, hb, ho⟩ := hrel
    have HB := Lib.hid hb
    have HO := Lib.hid ho
    clear hb ho
    by_cases hlt : k < l.length
    · obtain ⟨q, b, o, r, hq, rfl, hr, e0, e1, e2, e3, e4, e5, e6, e7, e8, e9, e10⟩ := HL.out.at_ hlt (Kept.of_below HB.out)
      have HQ := Lib.hid hq
      have hs : ((l.take k).map Ent.pkg).length = k := by simp; omega
      have HS := Lib.hid hs
      clear hq hs
      go_wp2_with (at_builtin; refine wpList_append_el (by rfl) _ _ 43 (by rfl) w.heap.size 26 _ 9 184 Tryz.underlying43 infPkg' rfl (by omega) (RPkg w) _ _ (by rfl) ((HO.out.alloc _).alloc _) q.pkg (encK r q.pkg) (wr.heap.size + 1) 1 (by rfl) (blk_new2 _ _ _ _) ⟨r, rfl, hr⟩ rfl (encK_one _ _) (by rw [HS.out]; omega) (by omega) (by simp; have := HB.out.size; omega) ?_; intro g cap w1 ho1 hg1)
      have HB1 : Below w.heap.size w w1 := ((HO.out.alloc _).alloc _).below (by have hb0 := HB.out; (repeat (first | assumption | exact Below.refl _ _ | refine below_next ?_ (by assumption) | refine below_drewN ?_ _ | refine below_alloc ?_ _))) (by simp; have := HB.out.size; omega) hg1
      go_roundw
      case rel => exact ⟨k + 1, by omega, by simp, HB1, by rw [take_step HQ.out, List.map_append]; rw [HS.out] at ho1; exact ho1⟩
      case measure => (try simp only [intOf]); omega
    · go_wp2
      go_ret
      have ho := HO.out
      rw [take_end hk hlt] at ho
      exact ret_pkgs (k := 0) ho HB.out (by simp; omega)
end Go.Proofs.YtflmocamfedbdaaGreatDoor
namespace Go.Proofs.YtflmocamfedbdaaGreatDoor
set_option linter.unusedSimpArgs false
set_option linter.unusedVariables false
open Go.RowKit
attribute [local go_sem ↓] Go.wp_at_zero Go.wp_at_succ
attribute [local irreducible] wpQuiet
theorem idx_cases {α : Type} (p : α → Bool) (l : List α) : (idxS p l = -1 ∧ l.any p = false) ∨ ∃ (k : Nat) (x : α), idxS p l = k ∧ l[k]? = some x ∧ p x = true := by
  rcases h : l.any p
  · exact .inl ⟨idx_no h, rfl⟩
  · right
    unfold idxS
    rcases h2 : l.findIdx? p with _ | k
    · rw [List.findIdx?_eq_none_iff] at h2
      obtain ⟨x, hx, hp⟩ := List.any_eq_true.1 h
      rw [h2 x hx] at hp; cases hp
    · rw [List.findIdx?_eq_some_iff_getElem] at h2
      obtain ⟨h3, h4, _⟩ := h2
      exact ⟨k, l[k], rfl, List.getElem?_eq_getElem h3, h4⟩
theorem new_none {s : List Ent} {p : Pkg} (h : s.any (nameE p.name) = false) : newB (s.map Ent.pkg) p = true := by
  unfold newB
  rw [Bool.not_eq_true', List.any_eq_false]
  intro q hq
  obtain ⟨x, hx, rfl⟩ := List.mem_map.1 hq
  have h1 := List.any_eq_false.1 h x hx
  simp only [nameE, beq_iff_eq] at h1
  simp [dupB, h1]
theorem new_at {s : List Ent} {p : Pkg} {j : Nat} {x : Ent} (hr : rises s) (hx : s[j]? = some x) (hn : nameE p.name x = true) : newB (s.map Ent.pkg) p = !sameV x.pkg.ver p.ver := by
  have hn' : x.pkg.name = p.name := by simpa [nameE] using hn
  unfold newB
  congr 1
  rw [Bool.eq_iff_iff, List.any_eq_true]
  constructor
  · rintro ⟨q, hq, hd⟩
    obtain ⟨y, hy, rfl⟩ := List.mem_map.1 hq
    simp only [dupB, Bool.and_eq_true, decide_eq_true_eq] at hd
    obtain ⟨i, hi, rfl⟩ := List.mem_iff_getElem.1 hy
    obtain ⟨hj, rfl⟩ := List.getElem?_eq_some_iff.1 hx
    unfold rises at hr
    rw [List.pairwise_iff_getElem] at hr
    rcases Nat.lt_trichotomy i j with h | rfl | h
    · exact absurd (hd.1.trans hn'.symm) (hr i j hi hj h)
    · exact hd.2
    · exact absurd (hn'.trans hd.1.symm) (hr j i hj hi h)
  · intro h
    exact ⟨x.pkg, List.mem_map.2 ⟨x, List.mem_of_getElem? hx, rfl⟩, by simp [dupB, hn', h]⟩
set_option maxRecDepth 100000 in
set_option maxHeartbeats 2000000 in
theorem rall_any (A A2 : Option Addr) (c c2 : Nat) (repo : List Pkg) (s : List Ent) (w : World) (hl : Pkgs w A c repo) (hs : Ents w A2 c2 s) (hf : ∀ p ∈ repo, fewO p) (hfs : ∀ x ∈ s, fewO x.pkg) :
    Calls Tryz.prog 38 #[.slice A repo.length c, .slice A2 s.length c2] w (RetErr w (allE s repo) (srt pLt (allL s repo))) := by
  have hbd := hl.bd
  have hbd2 := hs.bd
  have HL := Lib.hid hl
  have HS := Lib.hid hs
  have HFS := Lib.hid hfs
  clear hl hs hf hfs
  by_cases hr0 : mayAllE repo = 0
  · by_cases hs0 : mayEntsE s = 0
    · have HR0 := Lib.hid hr0
      have HS0 := Lib.hid hs0
      have HSL := Lib.hid (show s.length ≤ 10 from (ents_zero hs0).1)
      have HRL := Lib.hid (show repo.length ≤ 24 from (mayAll_zero hr0).1)
      have HRI := Lib.hid (ents_rises hs0)
      have HAE := Lib.hid (show allE s repo = if 24 < (allL s repo).length ∨ 10 < (nmR (allL s repo)).length then 12 else 0 by unfold allE; rw [if_neg (by simpa using hr0), if_neg (by simpa using hs0), all_err hr0 hs0])
      have HAV := Lib.hid (show ∀ p ∈ allL s repo, isV p.ver = true from fun p hp => (may_nv (all_may hr0 hs0 p hp)).2)
      clear hr0 hs0
      obtain ⟨sp, hsp⟩ : ∃ sp, sp = s.map Ent.pkg := ⟨_, rfl⟩
      have HSP := Lib.hid hsp
      have hspl : sp.length ≤ s.length := by rw [hsp, List.length_map]; exact Nat.le_refl _
      clear hsp
      go_enter Tryz.func38, Tryz.ntmps38
      go_wp2_with fail
      refine (rmayAll_any A c repo _ HL.out).mono ?_
      rintro e w1 ⟨rfl, hb1⟩
      rw [HR0.out]
      have HB := Lib.hid hb1
      clear hb1
      go_wp2_with fail
      refine (rents_any A2 c2 s _ (HS.out.kept (Kept.of_below HB.out)) (fun x hx => (HFS.out x hx).fewR)).mono ?_
      rintro e w3 ⟨rfl, hb2⟩
      rw [HS0.out]
      have HB := Lib.hid (below_next HB.out hb2)
      clear hb2
      go_wp2
      go_loopw [8, 26] (fun v i wr => ∃ (k : Nat) (t : List Pkg), k ≤ s.length ∧ t.length ≤ k ∧ i = .int .i64 k ∧ t = sp.take k ∧ Below w3.heap.size w3 wr ∧ Own wr w3.heap.size 26 9 (RPkg w) v t) (fun _ i _ => s.length - (intOf i).toNat)
      case atStart => exact ⟨0, [], Nat.zero_le _, Nat.zero_le _, rfl, rfl, Below.refl _ _, Own.nil_ _ _ _ _ _⟩
      case round =>
        obtain ⟨k, t, hk, htk, rfl, ht, hb, ho⟩ := hrel
        obtain ⟨wo, rfl⟩ : ∃ wo : World, wo = wr := ⟨_, rfl⟩
        have HT := Lib.hid ht
        have HB1 := Lib.hid hb
        have HO := Lib.hid ho
        clear ht hb ho
        have hsl := HSL.out
        by_cases hlt : k < s.length
        · obtain ⟨y, b, o, r, hy, rfl, hr, e0, e1, e2, e3, e4, e5, e6, e7, e8, e9, e10⟩ := HS.out.at_ hlt (Kept.of_below (below_next HB.out HB1.out))
          have HP := Lib.hid (show sp[k]? = some y.pkg by rw [HSP.out, List.getElem?_map, hy]; rfl)
          have HR := Lib.hid hr
          clear hy hr
          go_wp2_with (at_builtin; refine wpList_append_el (by rfl) _ _ 43 (by rfl) w3.heap.size 26 _ 9 184 Tryz.underlying43 infPkg' rfl (by omega) (RPkg w) _ t (by rfl) ((HO.out.alloc _).alloc _) y.pkg (encK r y.pkg) (wo.heap.size + 1) 1 (by rfl) (blk_new2 _ _ _ _) ⟨r, rfl, HR.out⟩ rfl (encK_one _ _) (by omega) (by omega) (by simp; have := HB1.out.size; omega) ?_; intro g' cap w4 ho4 hg4; have HB4 := Lib.hid (((HO.out.alloc _).alloc _).below (below_alloc (below_alloc HB1.out _) _) (by simp; have := HB1.out.size; omega) hg4); have HO4 := Lib.hid ho4; clear ho4 hg4)
          go_roundw
          case rel => exact ⟨k + 1, t ++ [y.pkg], by omega, by simp; omega, by simp, by rw [take_step HP.out, ← HT.out], HB4.out, HO4.out⟩
          case measure => (try simp only [intOf]); omega
        · have hT := HT.out
          rw [List.take_of_length_le (by omega)] at hT
          subst hT
          have HT0 := Lib.hid HSP.out
          have hrl := HRL.out
          obtain ⟨sp, rfl⟩ : ∃ sp, sp = t := ⟨_, rfl⟩
          go_wp2
          clear htk hk hlt
          go_loopw [8, 38] (fun v i wr => ∃ (k : Nat) (t : List Pkg), k ≤ repo.length ∧ t.length ≤ s.length + k ∧ i = .int .i64 k ∧ t = sp ++ (repo.take k).filter (newB sp) ∧ Below w3.heap.size w3 wr ∧ Own wr w3.heap.size 26 9 (RPkg w) v t) (fun _ i _ => repo.length - (intOf i).toNat)
          case atStart => exact ⟨0, sp, Nat.zero_le _, by omega, rfl, by simp, HB1.out, HO.out⟩
          case round =>
            clear HB1 HO
            obtain ⟨k, t, hk, htk, rfl, ht, hb, ho⟩ := hrel
            obtain ⟨wo, rfl⟩ : ∃ wo : World, wo = wr := ⟨_, rfl⟩
            have HT := Lib.hid ht
            have HB1 := Lib.hid hb
            have HO := Lib.hid ho
            clear ht hb ho
            by_cases hlt : k < repo.length
            · obtain ⟨q, b, o, r, hq, rfl, hr, e0, e1, e2, e3, e4, e5, e6, e7, e8⟩ := HL.out.at_ hlt (Kept.of_below (below_next HB.out HB1.out))
              have HQ := Lib.hid hq
              have HR := Lib.hid hr
              clear hq hr
              go_wp2_with fail
              clear e0 e1 e2 e3 e4 e5 e6 e7 e8
              have HB2 := Lib.hid (below_alloc HB1.out (.cells #[.string (bs (q).name), .string (bs (q).ver), .slice (r).a1 (q).pre.length (r).c1, .slice (r).a2 (q).dep.length (r).c2, .slice (r).a3 (q).rcm.length (r).c3, .slice (r).a4 (q).con.length (r).c4, .slice (r).a5 (q).brk.length (r).c5, .slice (r).a6 (q).prv.length (r).c6, .bool (q).ess] 26))
              have HO2 := Lib.hid (HO.out.alloc (.cells #[.string (bs (q).name), .string (bs (q).ver), .slice (r).a1 (q).pre.length (r).c1, .slice (r).a2 (q).dep.length (r).c2, .slice (r).a3 (q).rcm.length (r).c3, .slice (r).a4 (q).con.length (r).c4, .slice (r).a5 (q).brk.length (r).c5, .slice (r).a6 (q).prv.length (r).c6, .bool (q).ess] 26))
              have K2 := Lib.hid (blk_new1 wo 26 #[.string (bs (q).name), .string (bs (q).ver), .slice (r).a1 (q).pre.length (r).c1, .slice (r).a2 (q).dep.length (r).c2, .slice (r).a3 (q).rcm.length (r).c3, .slice (r).a4 (q).con.length (r).c4, .slice (r).a5 (q).brk.length (r).c5, .slice (r).a6 (q).prv.length (r).c6, .bool (q).ess])
              refine (rfind_any A2 c2 s q.name _ (HS.out.kept (Kept.of_below (below_next HB.out HB2.out)))).mono ?_
              rintro e w6 ⟨rfl, hb6⟩
              have HB3 := Lib.hid (below_next HB2.out hb6)
              have HO3 := Lib.hid (HO2.out.next hb6)
              have K3 := Lib.hid (K2.out.next hb6)
              clear hb6 HB2 HO2 K2
              generalize wo.heap.size = g1 at K3 ⊢
              rcases idx_cases (nameE q.name) s with ⟨hz, hno⟩ | ⟨j, x, hz, hx, hnx⟩
              · have HN := Lib.hid (show newB sp q = true by rw [HT0.out]; exact new_none hno)
                obtain ⟨z, hz1⟩ : ∃ z : Int, z = -1 := ⟨_, rfl⟩
                rw [hz, ← hz1]
                have hz2 : decide (z < 0) = true := decide_eq_true (by omega)
                have HSV := Lib.hid (show sameV q.ver q.ver = sameV q.ver q.ver from rfl)
                clear hz hno hz1
                obtain ⟨x0, x1, x2, x3, x4, x5, x6, x7, x8⟩ := blk9 K3.out
                have q0 := fun p : Be w6 => Be.cell x0 p
                have q1 := fun p : Be w6 => Be.cell x1 p
                clear x0 x1 x2 x3 x4 x5 x6 x7 x8
                go_wp2_with fail
                refine region_be (by kernel_rfl) (by kernel_rfl) ?_
                repeat (quiet_step (first | (go_at_call 67; with_reducible exact Calls.be_of ((rSameVersion_any _ _ _).mono fun _ _ h => ⟨h.1.trans (congrArg (fun b => Ending.returned (Value.bool b)) HSV.out), h.2⟩))))
                refine wpQuiet_nil ?_
                intro _ hw'
                obtain ⟨pb, hw''⟩ := hw'
                subst hw''
                obtain ⟨W2, hbw⟩ := pb
                dsimp only
                have HB4 := Lib.hid (below_next HB3.out hbw)
                have HO4 := Lib.hid (HO3.out.next hbw)
                have K4 := Lib.hid (K3.out.next hbw)
                clear hbw HB3 HO3 K3
                clear q0 q1
                (obtain ⟨a0, a1, a2, a3, a4, a5, a6, a7, a8⟩ := blk9 K4.out
                 go_wp2_with (at_builtin; refine wpList_append_el (by rfl) _ _ 43 (by rfl) w3.heap.size 26 _ 9 184 Tryz.underlying43 infPkg' rfl (by omega) (RPkg w) _ t (by rfl) (HO4.out.alloc _) q (encK r q) W2.heap.size 1 (by rfl) (blk_new1 _ _ _) ⟨r, rfl, HR.out⟩ rfl (encK_one _ _) (by omega) (by omega) (by simp; have := HB4.out.size; omega) ?_; intro g' cap w5 ho5 hg5; have HB5 := Lib.hid ((HO4.out.alloc _).below (below_alloc HB4.out _) (by simp; have := HB4.out.size; omega) hg5); have HO5 := Lib.hid ho5; clear ho5 hg5)
                 go_roundw
                 case rel => exact ⟨k + 1, t ++ [q], by omega, by simp; omega, by simp, by rw [filter_yes HQ.out HN.out, ← List.append_assoc, ← HT.out], HB5.out, HO5.out⟩
                 case measure => (try simp only [intOf]); omega)
              · have hjl := (List.getElem?_eq_some_iff.1 hx).1
                obtain ⟨x', b', o', r', hx', hA, hr', f0, f1, f2, f3, f4, f5, f6, f7, f8, f9, f10⟩ := HS.out.at_ hjl (Kept.of_below (below_next HB.out HB3.out))
                obtain rfl : x = x' := Option.some.inj (hx.symm.trans hx')
                subst hA
                rw [hz]
                have hz2 : decide ((j : Int) < 0) = false := decide_eq_false (by omega)
                have hz3 : (0 : Int) ≤ (j : Int) := Int.natCast_nonneg _
                have hz4 : (j : Int) < (s.length : Int) := by omega
                have hnw := new_at HRI.out hx hnx
                rw [← HT0.out] at hnw
                clear hz hx hx' hnx hr' f0 f2 f3 f4 f5 f6 f7 f8 f9 f10
                have u1 := fun p : Be w6 => Be.cell f1 p
                clear f1
                obtain ⟨x0, x1, x2, x3, x4, x5, x6, x7, x8⟩ := blk9 K3.out
                have q0 := fun p : Be w6 => Be.cell x0 p
                have q1 := fun p : Be w6 => Be.cell x1 p
                clear x0 x1 x2 x3 x4 x5 x6 x7 x8
                rcases hsv : sameV x.pkg.ver q.ver
                · have HSV := Lib.hid hsv
                  have HN := Lib.hid (show newB sp q = true by rw [hnw, hsv]; rfl)
                  clear hsv hnw
                  go_wp2_with fail
                  refine region_be (by kernel_rfl) (by kernel_rfl) ?_
                  repeat (quiet_step (first | (go_at_call 67; with_reducible exact Calls.be_of ((rSameVersion_any _ _ _).mono fun _ _ h => ⟨h.1.trans (congrArg (fun b => Ending.returned (Value.bool b)) HSV.out), h.2⟩))))
                  refine wpQuiet_nil ?_
                  intro _ hw'
                  obtain ⟨pb, hw''⟩ := hw'
                  subst hw''
                  obtain ⟨W2, hbw⟩ := pb
                  dsimp only
                  have HB4 := Lib.hid (below_next HB3.out hbw)
                  have HO4 := Lib.hid (HO3.out.next hbw)
                  have K4 := Lib.hid (K3.out.next hbw)
                  clear hbw HB3 HO3 K3
                  clear q0 q1 u1
                  (obtain ⟨a0, a1, a2, a3, a4, a5, a6, a7, a8⟩ := blk9 K4.out
                   go_wp2_with (at_builtin; refine wpList_append_el (by rfl) _ _ 43 (by rfl) w3.heap.size 26 _ 9 184 Tryz.underlying43 infPkg' rfl (by omega) (RPkg w) _ t (by rfl) (HO4.out.alloc _) q (encK r q) W2.heap.size 1 (by rfl) (blk_new1 _ _ _) ⟨r, rfl, HR.out⟩ rfl (encK_one _ _) (by omega) (by omega) (by simp; have := HB4.out.size; omega) ?_; intro g' cap w5 ho5 hg5; have HB5 := Lib.hid ((HO4.out.alloc _).below (below_alloc HB4.out _) (by simp; have := HB4.out.size; omega) hg5); have HO5 := Lib.hid ho5; clear ho5 hg5)
                   go_roundw
                   case rel => exact ⟨k + 1, t ++ [q], by omega, by simp; omega, by simp, by rw [filter_yes HQ.out HN.out, ← List.append_assoc, ← HT.out], HB5.out, HO5.out⟩
                   case measure => (try simp only [intOf]); omega)
                · have HSV := Lib.hid hsv
                  have HN := Lib.hid (show newB sp q = false by rw [hnw, hsv]; rfl)
                  clear hsv hnw
                  go_wp2_with fail
                  refine region_be (by kernel_rfl) (by kernel_rfl) ?_
                  repeat (quiet_step (first | (go_at_call 67; with_reducible exact Calls.be_of ((rSameVersion_any _ _ _).mono fun _ _ h => ⟨h.1.trans (congrArg (fun b => Ending.returned (Value.bool b)) HSV.out), h.2⟩))))
                  refine wpQuiet_nil ?_
                  intro _ hw'
                  obtain ⟨pb, hw''⟩ := hw'
                  subst hw''
                  obtain ⟨W2, hbw⟩ := pb
                  dsimp only
                  have HB4 := Lib.hid (below_next HB3.out hbw)
                  have HO4 := Lib.hid (HO3.out.next hbw)
                  have K4 := Lib.hid (K3.out.next hbw)
                  clear hbw HB3 HO3 K3
                  clear q0 q1 u1
                  (go_wp2
                   go_roundw
                   case rel => exact ⟨k + 1, t, by omega, by omega, by simp, by rw [filter_no HQ.out HN.out]; exact HT.out, HB4.out, HO4.out⟩
                   case measure => (try simp only [intOf]); omega)
            · have hT := HT.out
              rw [List.take_of_length_le (by omega)] at hT
              have HAL := Lib.hid (show allL s repo = t by rw [hT, HT0.out]; rfl)
              clear hT
              obtain ⟨A7, c7, rfl, hps⟩ := own_pkgs HO.out (below_next HB.out HB1.out) (by omega)
              have HPS := Lib.hid hps
              have HB7 := Lib.hid (below_next HB.out HB1.out)
              have hbd7 := hps.bd
              clear hps
              by_cases h24 : 24 < t.length
              · have hd : decide ((24 : Int) < (t.length : Int)) = true := decide_eq_true (by omega)
                go_wp2
                go_ret2
                have he : allE s repo = 12 := by rw [HAE.out, HAL.out, if_pos (.inl h24)]
                exact .inr ⟨by rw [he]; decide, by rw [he]; rfl, HB7.out⟩
              · have hd : decide ((24 : Int) < (t.length : Int)) = false := decide_eq_false (by omega)
                go_wp2_with fail
                refine (rNames_any A7 c7 t _ HPS.out (by omega)).mono ?_
                rintro e w8 ⟨A8, c8, rfl, hn8, hb8⟩
                clear hn8
                have HPS8 := Lib.hid (HPS.out.kept (Kept.of_below hb8))
                have HB8 := Lib.hid (below_next HB7.out hb8)
                clear hb8
                by_cases h10 : 10 < (nmR t).length
                · have hd2 : decide ((10 : Int) < ((nmR t).length : Int)) = true := decide_eq_true (by omega)
                  go_wp2
                  go_ret2
                  have he : allE s repo = 12 := by rw [HAE.out, HAL.out, if_pos (.inr h10)]
                  exact .inr ⟨by rw [he]; decide, by rw [he]; rfl, HB8.out⟩
                · have hd2 : decide ((10 : Int) < ((nmR t).length : Int)) = false := decide_eq_false (by omega)
                  have HE := Lib.hid (show allE s repo = 0 by rw [HAE.out, HAL.out, if_neg (by omega)])
                  go_wp2_with fail
                  refine (rSorted_any A7 c7 t _ HPS8.out (by have h := HAV.out; rw [HAL.out] at h; exact h) (by omega)).mono ?_
                  rintro e w9 ⟨A9, c9, rfl, hp9, hb9⟩
                  have HP9 := Lib.hid hp9
                  have HB9 := Lib.hid (below_next HB8.out hb9)
                  clear hp9 hb9
                  go_wp2
                  go_ret2
                  exact .inl ⟨HE.out, A9, c9, by rw [HAL.out]; rfl, by rw [HAL.out]; exact HP9.out, HB9.out⟩
    · go_enter Tryz.func38, Tryz.ntmps38
      have HE := Lib.hid (show allE s repo = mayEntsE s by unfold allE; rw [if_neg (by simpa using hr0), if_pos hs0])
      have HS0 := Lib.hid hs0
      have HR0 := Lib.hid hr0
      generalize he : mayEntsE s = E at hs0
      have HE1 := Lib.hid he
      have hd : (E != 0) = true := by rw [bne_iff_ne]; exact hs0
      clear he hs0 hr0
      go_wp2_with fail
      refine (rmayAll_any A c repo _ HL.out).mono ?_
      rintro e w1 ⟨rfl, hb1⟩
      rw [HR0.out]
      have HB := Lib.hid hb1
      clear hb1
      go_wp2_with fail
      refine (rents_any A2 c2 s _ (HS.out.kept (Kept.of_below HB.out)) (fun x hx => (HFS.out x hx).fewR)).mono ?_
      rintro e w2 ⟨rfl, hb2⟩
      rw [HE1.out]
      have HB := Lib.hid (below_next HB.out hb2)
      clear hb2
      go_wp2
      go_ret2
      exact .inr ⟨by rw [HE.out]; exact HS0.out, by rw [HE.out, HE1.out]; rfl, HB.out⟩
  · go_enter Tryz.func38, Tryz.ntmps38
    have HE := Lib.hid (show allE s repo = mayAllE repo by unfold allE; rw [if_pos hr0])
    have HR0 := Lib.hid hr0
    generalize he : mayAllE repo = E at hr0
    have HE1 := Lib.hid he
    have hd : (E != 0) = true := by rw [bne_iff_ne]; exact hr0
    clear he hr0
    go_wp2_with fail
    refine (rmayAll_any A c repo _ HL.out).mono ?_
    rintro e w1 ⟨rfl, hb1⟩
    rw [HE1.out]
    have HB := Lib.hid hb1
    clear hb1
    go_wp2
    go_ret2
    exact .inr ⟨by rw [HE.out]; exact HR0.out, by rw [HE.out, HE1.out]; rfl, HB.out⟩
end Go.Proofs.YtflmocamfedbdaaGreatDoor
namespace Go.Proofs.YtflmocamfedbdaaGreatDoor
set_option linter.unusedSimpArgs false
set_option linter.unusedVariables false
open Go.RowKit
attribute [local go_sem ↓] Go.wp_at_zero Go.wp_at_succ
attribute [local irreducible] wpQuiet
/-- all element types but those of reach and of its names -/
def TR (t : Nat) : Bool := t != 9 && t != 110
def KeepR (w w' : World) : Prop := KeepB (fun t => TR t = true) w w'
theorem KeepB.sub {T T' : Nat → Prop} {w w' : World} (h : KeepB T w w') (hs : ∀ t, T' t → T t) : KeepB T' w w' := fun g t cs h1 h2 => h g t cs h1 (hs t h2)
theorem KeepR.tb {w w' : World} (h : KeepR w w') : KeepB (fun t => TB t = true) w w' := KeepB.sub h fun t ht => by
  simp only [TB, Bool.or_eq_true, beq_iff_eq] at ht
  rcases ht with (rfl | rfl) | rfl <;> decide
def addT (s : List Pkg) (T : List (List UInt8)) (n : List UInt8) : List (List UInt8) := if s.any (nmP n) && !T.contains n then T ++ [n] else T
def addI (s : List Pkg) (T : List (List UInt8)) (i : Nat) : List (List UInt8) := match s[i]? with
  | some q => addT s T q.name
  | none => T
def addM (s : List Pkg) (T : List (List UInt8)) (a : Atm) : List (List UInt8) := (plcS (satP a) s).foldl (addI s) T
def fromC (s : List Pkg) (T : List (List UInt8)) (c : List Atm) : List (List UInt8) := c.foldl (addM s) T
def relL (p : Pkg) : List (List Atm) := p.pre ++ (p.dep ++ p.rcm)
def fromT (s : List Pkg) (T : List (List UInt8)) (p : Pkg) : List (List UInt8) := (relL p).foldl (fromC s) T
theorem fold_step {α β : Type} {f : β → α → β} {l : List α} {k : Nat} {x : α} {b : β} (hx : l[k]? = some x) : (l.take (k + 1)).foldl f b = f ((l.take k).foldl f b) x := by
  rw [take_step hx, List.foldl_append]
  rfl
def OkT (s : List Pkg) (T : List (List UInt8)) : Prop := T.Nodup ∧ ∀ n ∈ T, ∃ p ∈ s, p.name = n
theorem OkT.add {s : List Pkg} {T : List (List UInt8)} (h : OkT s T) (n : List UInt8) : OkT s (addT s T n) := by
  unfold addT
  by_cases hc : (s.any (nmP n) && !T.contains n) = true
  · rw [if_pos hc]
    simp only [Bool.and_eq_true, Bool.not_eq_true', List.any_eq_true] at hc
    obtain ⟨⟨p, hp, hn⟩, hno⟩ := hc
    refine ⟨?_, fun m hm => ?_⟩
    · rw [List.nodup_append]
      refine ⟨h.1, by simp, fun a ha b hb e => ?_⟩
      rw [List.mem_singleton] at hb
      subst hb e
      rw [List.contains_iff_mem.2 ha] at hno
      cases hno
    · rcases List.mem_append.1 hm with hm | hm
      · exact h.2 m hm
      · rw [List.mem_singleton] at hm
        exact ⟨p, hp, by rw [hm]; simpa [nmP] using hn⟩
  · rw [if_neg hc]; exact h
theorem OkT.len {s : List Pkg} {T : List (List UInt8)} (h : OkT s T) : T.length ≤ s.length := by
  have h1 : T.Perm ((nmsS s).filter fun n => T.contains n) := by
    refine (List.perm_ext_iff_of_nodup h.1 ((nmsS_nodup s).filter _)).2 fun n => ?_
    rw [List.mem_filter, nmsS_mem]
    constructor
    · intro hn
      exact ⟨h.2 n hn, by simpa using hn⟩
    · rintro ⟨_, hn⟩
      simpa using hn
  rw [h1.length_eq]
  exact Nat.le_trans (List.length_filter_le _ _) (nms_le s)
/-- what reach is: an index, the names to go over -/
def RS (W0 w : World) (gr : Nat) (s : List Pkg) (x : Value) (T : List (List UInt8)) : Prop :=
  Ix W0 x s ∧ Below W0.heap.size W0 w ∧ W0.heap.size ≤ gr ∧ (∃ tv, Blk w gr 110 #[x, tv] ∧ Own w W0.heap.size 9 1 RStr tv T) ∧ OkT s T
theorem RS.next {W0 w w' : World} {gr : Nat} {s : List Pkg} {x : Value} {T : List (List UInt8)} (h : RS W0 w gr s x T) (hb : Below w.heap.size w w') : RS W0 w' gr s x T := by
  obtain ⟨h1, h2, h3, ⟨tv, h4, h5⟩, h6⟩ := h
  exact ⟨h1, below_next h2 hb, h3, ⟨tv, h4.next hb, h5.next hb⟩, h6⟩
theorem RS.alloc {W0 w : World} {gr : Nat} {s : List Pkg} {x : Value} {T : List (List UInt8)} (h : RS W0 w gr s x T) (o : Obj) : RS W0 (w.alloc o) gr s x T := h.next (below_alloc (Below.refl _ _) o)
theorem RS.ix {W0 w : World} {gr : Nat} {s : List Pkg} {x : Value} {T : List (List UInt8)} (h : RS W0 w gr s x T) : Ix w x s := h.1.next h.2.1
theorem RS.cell0 {W0 w : World} {gr : Nat} {s : List Pkg} {x : Value} {T : List (List UInt8)} (h : RS W0 w gr s x T) : w.cell? ⟨gr, 0, none⟩ = some x := by
  obtain ⟨_, _, _, ⟨tv, h4, _⟩, _⟩ := h
  exact h4.cell 0
theorem plc_pos (P : Pkg → Bool) (s : List Pkg) : (0 < (plcS P s).length) = (s.any P = true) := by
  rcases h : plcS P s with _ | ⟨i, t⟩
  · simp [plc_none h]
  · have hi : i ∈ plcS P s := by rw [h]; simp
    obtain ⟨q, hq, hp⟩ := plc_mem.1 hi
    have h2 : s.any P = true := List.any_eq_true.2 ⟨q, List.mem_of_getElem? hq, hp⟩
    rw [h2]
    simp
set_option maxRecDepth 100000 in
set_option maxHeartbeats 1000000 in
theorem add_any (W0 : World) (gr : Nat) (s : List Pkg) (x : Value) (T : List (List UInt8)) (n : List UInt8) (w : World) (hR : RS W0 w gr s x T) (hs : s.length ≤ 10000) :
    Calls Tryz.prog 78 #[.pointer (some ⟨gr, 0, none⟩), .string (bs n)] w fun e w' => e = .returned (.tuple #[]) ∧ RS W0 w' gr s x (addT s T n) ∧ KeepR w w' := by
  have HX := Lib.hid hR.ix
  have HX0 := Lib.hid hR.1
  have HB0 := Lib.hid hR.2.1
  have hBg := hR.2.2.1
  have HOK := Lib.hid hR.2.2.2.2
  have htl := hR.2.2.2.2.len
  obtain ⟨_, _, _, ⟨tv, hB, hO⟩, _⟩ := hR
  obtain ⟨A, c, rfl, hS⟩ := hO.slc (z := 16) (by omega)
  have hbd := hS.bd
  have HO := Lib.hid hO
  have HS := Lib.hid (show Strs w A c T from hS)
  have K := Lib.hid hB
  have c0 := hB.cell 0
  clear hO hS hB
  have hsm : s.length ≤ 1000000 := by omega
  go_enter Tryz.func78, Tryz.ntmps78
  go_wp2_with fail
  refine (ofIx_any x s n _ HX.out hsm).mono ?_
  rintro e w1 ⟨A1, c1, rfl, hn1, hb1⟩
  have hpos := plc_pos (nmP n) s
  generalize (plcS (nmP n) s).length = len at hpos ⊢
  have HB1 := Lib.hid (below_next HB0.out hb1)
  have HO1 := Lib.hid (HO.out.next hb1)
  have HS1 := Lib.hid (Strs.kept HS.out (Kept.of_below hb1))
  have K1 := Lib.hid (K.out.next hb1)
  have HKR := Lib.hid (show KeepR w w1 from KeepB.of_below hb1)
  clear hn1 hb1 c0
  rcases hany : s.any (nmP n)
  · have hlen : len = 0 := by rw [hany] at hpos; simpa using hpos
    subst hlen
    have HT := Lib.hid (show addT s T n = T by unfold addT; rw [hany]; rfl)
    clear hpos hany
    go_wp2
    go_end0
    rw [HT.out]
    exact ⟨rfl, ⟨HX0.out, HB1.out, hBg, ⟨_, K1.out, HO1.out⟩, HOK.out⟩, HKR.out⟩
  · have hlen : 0 < len := by rw [hpos]; exact hany
    have hl1 : decide ((0 : Int) < (len : Int)) = true := decide_eq_true (by omega)
    clear hpos
    have c0 := K1.out.cell 0
    have c1' := K1.out.cell 1
    rcases hcon : T.contains n
    · have HT := Lib.hid (show addT s T n = T ++ [n] by unfold addT; rw [hany, hcon]; rfl)
      have HOK2 := Lib.hid (show OkT s (T ++ [n]) by rw [← HT.out]; exact HOK.out.add n)
      have HC := Lib.hid hcon
      clear hany hcon
      have f1 := K1.out.frozen 1
      go_wp2_with (first | (go_at_call 82; refine (conN_any A c T n _ HS1.out).mono ?_; rintro e w2 ⟨rfl, rfl⟩; rw [HC.out]) | (at_builtin; refine wpList_append_el (by rfl) _ _ 51 (by rfl) W0.heap.size 9 _ 1 16 Tryz.underlying51 infStr' rfl (by omega) RStr _ T (by rfl) (HO1.out.alloc _) n [.string (bs n)] w1.heap.size 1 (by rfl) (blk_new1 _ _ _) rfl rfl (by simp [Value.oneCell']) (by omega) (by omega) (by simp; have := HB1.out.size; omega) ?_; intro g' cap w3 ho3 hg3; have HB3 := Lib.hid ((HO1.out.alloc _).below (below_alloc HB1.out _) (by simp; have := HB1.out.size; omega) hg3); have K3 := Lib.hid ((HO1.out.alloc _).blk (K1.out.alloc _) (by decide) hg3); have HK3 := Lib.hid (show KeepR w1 w3 from KeepB.trans (KeepB.alloc _) ((HO1.out.alloc _).keep (T := fun t => TR t = true) hg3 (by decide))); have HO3 := Lib.hid ho3; clear ho3 hg3 c0 c1' f1; have f0 := K3.out.frozen 1; have k0 := K3.out.cell 1))
      go_end0
      rw [HT.out]
      exact ⟨rfl, ⟨HX0.out, HB3.out.setCell (p := ⟨gr, 1, none⟩) hBg _, hBg, ⟨_, K3.out.set_ 1 _, HO3.out.setCell (p := ⟨gr, 1, none⟩) (fun cur hc => by
        have h := K3.out
        unfold Blk at h
        dsimp only at hc
        rw [h] at hc
        injection hc with hc
        injection hc with _ ht
        revert ht
        decide) _⟩, HOK2.out⟩, KeepB.trans HKR.out (KeepB.trans HK3.out (KeepB.setCell (p := ⟨gr, 1, none⟩) K3.out (by decide) _))⟩
    · have HT := Lib.hid (show addT s T n = T by unfold addT; rw [hany, hcon]; rfl)
      have HC := Lib.hid hcon
      clear hany hcon
      go_wp2_with (go_at_call 82; refine (conN_any A c T n _ HS1.out).mono ?_; rintro e w2 ⟨rfl, rfl⟩; rw [HC.out])
      go_end0
      rw [HT.out]
      exact ⟨rfl, ⟨HX0.out, HB1.out, hBg, ⟨_, K1.out, HO1.out⟩, HOK.out⟩, HKR.out⟩
theorem RS.le {W0 w : World} {gr : Nat} {s : List Pkg} {x : Value} {T : List (List UInt8)} (h : RS W0 w gr s x T) : W0.heap.size ≤ w.heap.size := h.2.1.size
theorem three_slc {wz W : World} {g t : Nat} {p : Pkg} {a1 a2 a3 : Option Addr} {c1 c2 c3 : Nat} (hB : Blk W g t #[.slice a1 p.pre.length c1, .slice a2 p.dep.length c2, .slice a3 p.rcm.length c3]) (h1 : Clss wz a1 c1 p.pre) (h2 : Clss wz a2 c2 p.dep) (h3 : Clss wz a3 c3 p.rcm) :
    Slc W 1 24 (RClss wz) (some ⟨g, 0, none⟩) 3 [p.pre, p.dep, p.rcm] :=
  slcB [[.slice a1 p.pre.length c1], [.slice a2 p.dep.length c2], [.slice a3 p.rcm.length c3]] hB rfl rfl (fun i cs x e1 e2 => by
    rcases i with _ | _ | _ | i <;> simp at e1 e2 <;> (subst e1 e2; refine ⟨⟨_, _, rfl, ?_⟩, rfl⟩; assumption)) rfl (by show 3 * 24 ≤ _; decide) (by show 3 ≤ _; decide) (by decide)
def smP (p : Pkg) : Prop := p.pre.length ≤ 500000 ∧ p.dep.length ≤ 500000 ∧ p.rcm.length ≤ 500000
theorem sum_three {p : Pkg} (h : smP p) : sumLe [p.pre, p.dep, p.rcm] := fun k hk => by
  obtain ⟨h1, h2, h3⟩ := h
  simp at hk
  obtain rfl | rfl | rfl | rfl : k = 0 ∨ k = 1 ∨ k = 2 ∨ k = 3 := by omega
  all_goals (simp [lenT]; try omega)
theorem three_flat (p : Pkg) : [p.pre, p.dep, p.rcm].flatten = relL p := by simp [relL]
theorem own_cls {w wz : World} {B : Nat} {A : Option Addr} {n c : Nat} {l : List (List Atm)} (h : Own w B 77 1 (RCls wz) (.slice A n c) l) (hl : l.length * 24 ≤ 140737488351232) : Slc w 1 24 (RCls wz) A c l := by
  obtain ⟨A', c', h1, h2⟩ := h.slc (z := 24) hl
  injection h1 with h1 h3 h4
  subst h1 h4
  exact h2
set_option maxRecDepth 100000 in
set_option maxHeartbeats 2000000 in
theorem from_any (W0 : World) (gr : Nat) (s : List Pkg) (x : Value) (T : List (List UInt8)) (p : Pkg) (r : Raw) (w : World) (hR : RS W0 w gr s x T) (hp : RP (flt TB w) r p) (hs : s.length ≤ 10000) (hf : ∀ q ∈ s, fewO q) (hsm : smP p) :
    Calls Tryz.prog 79 #[.pointer (some ⟨gr, 0, none⟩), (.agg #[.string (bs (p).name), .string (bs (p).ver), .slice (r).a1 (p).pre.length (r).c1, .slice (r).a2 (p).dep.length (r).c2, .slice (r).a3 (p).rcm.length (r).c3, .slice (r).a4 (p).con.length (r).c4, .slice (r).a5 (p).brk.length (r).c5, .slice (r).a6 (p).prv.length (r).c6, .bool (p).ess])] w fun e w' => e = .returned (.tuple #[]) ∧ RS W0 w' gr s x (fromT s T p) ∧ KeepR w w' := by
  have HR := Lib.hid hR
  have HF := Lib.hid hf
  obtain ⟨hp1, hp2, hp3, hp4, hp5, hp6, hp7, hp8⟩ := hp
  have HP1 := Lib.hid hp3
  have HP2 := Lib.hid hp4
  have HP3 := Lib.hid hp5
  clear hR hf hp1 hp2 hp3 hp4 hp5 hp6 hp7 hp8
  have hss : s.length ≤ 1000000 := by omega
  go_enter Tryz.func79, Tryz.ntmps79
  go_wp2_with fail
  refine (concat_own (flt TB w) _ _ 3 [p.pre, p.dep, p.rcm] rfl _ ((Kept.flt TB w).trans ((Kept.alloc w _).trans (Kept.alloc _ _))) (three_slc (blk_new2 w _ _ _) HP1.out HP2.out HP3.out) (sum_three hsm)).mono ?_
  rintro e w1 ⟨A1, c1, rfl, ho1, hb1, hl1⟩
  rw [three_flat] at ho1 hl1 ⊢
  have HR1 := Lib.hid (((HR.out.alloc _).alloc _).next hb1)
  have HK1 := Lib.hid (show KeepR w w1 from KeepB.trans (KeepB.alloc _) (KeepB.trans (KeepB.alloc _) (KeepB.of_below hb1)))
  have HO1 := Lib.hid ho1
  have HFT := Lib.hid (show fromT s T p = (relL p).foldl (fromC s) T from rfl)
  have hbdF := (own_cls ho1 hl1).bd
  clear ho1 hb1 HP1 HP2 HP3
  generalize relL p = F at HO1 HFT hl1 hbdF ⊢
  go_wp2
  go_loopw [21] (fun i wr => ∃ (k : Nat) (T1 : List (List UInt8)), k ≤ F.length ∧ i = .int .i64 k ∧ T1 = (F.take k).foldl (fromC s) T ∧ RS W0 wr gr s x T1 ∧ KeepR w1 wr) (fun i _ => F.length - (intOf i).toNat)
  case atStart => exact ⟨0, T, Nat.zero_le _, rfl, rfl, HR1.out, KeepB.refl _ _⟩
  case round =>
    obtain ⟨k, T1, hk, rfl, hT1, hr, hkr⟩ := hrel
    obtain ⟨wo, rfl⟩ : ∃ wo : World, wo = wr := ⟨_, rfl⟩
    have HT1 := Lib.hid hT1
    have HRo := Lib.hid hr
    have HKo := Lib.hid hkr
    have HOo := Lib.hid (KeepB.own hkr HO1.out (by decide))
    clear hT1 hr hkr
    by_cases hlt : k < F.length
    · obtain ⟨q, b, o, cs, hq, rfl, ⟨A', c', rfl, hA⟩, _, hcl⟩ := Slc.at_ (own_cls HOo.out hl1) hlt
      have g0 : wo.cell? ⟨b, o + k, none⟩ = some (.slice A' q.length c') := by
        have := hcl 0 _ rfl
        simpa using this
      have HQ := Lib.hid hq
      have HA := Lib.hid (show Atms (flt TB w) A' c' q from hA)
      have hbdq := HA.out.bd
      have HKw := Lib.hid (show KeepR w wo from KeepB.trans HK1.out HKo.out)
      clear hq hA hcl
      go_wp2
      clear g0
      go_loopw [27] (fun i wr => ∃ (j : Nat) (T2 : List (List UInt8)), j ≤ q.length ∧ i = .int .i64 j ∧ T2 = (q.take j).foldl (addM s) T1 ∧ RS W0 wr gr s x T2 ∧ KeepR wo wr) (fun i _ => q.length - (intOf i).toNat)
      case atStart => exact ⟨0, T1, Nat.zero_le _, rfl, rfl, HRo.out, KeepB.refl _ _⟩
      case round =>
        obtain ⟨j, T2, hj, rfl, hT2, hr, hkr⟩ := hrel
        obtain ⟨wi, rfl⟩ : ∃ wi : World, wi = wr := ⟨_, rfl⟩
        have HT2 := Lib.hid hT2
        have HRi := Lib.hid hr
        have HKi := Lib.hid hkr
        clear hT2 hr hkr
        by_cases hlj : j < q.length
        · obtain ⟨a, b2, o2, ha, rfl, hok, e0, e1, e2⟩ := HA.out.at_ (w' := wi) hlj ((flt_mono (KeepB.trans HKw.out.tb HKi.out.tb)).trans (Kept.flt TB wi))
          have HQA := Lib.hid ha
          have HAO := Lib.hid hok
          clear ha hok
          go_upto_region 7 with (fail)
          have KA := Lib.hid (blk_new1 wi 34 #[.string (bs (a).name), .int .i64 (a).rel, .string (bs (a).ver)])
          have HRa := Lib.hid (HRi.out.alloc (.cells #[.string (bs (a).name), .int .i64 (a).rel, .string (bs (a).ver)] 34))
          have HKa := Lib.hid (show KeepR wo (wi.alloc (.cells #[.string (bs (a).name), .int .i64 (a).rel, .string (bs (a).ver)] 34)) from KeepB.trans HKi.out (KeepB.alloc _))
          clear e0 e1 e2
          generalize World.alloc _ _ = W at KA HRa HKa ⊢
          generalize wi.heap.size = ga at KA ⊢
          have a0 := fun (w2 : World) (h : Hid (Below W.heap.size W w2)) => (blk3 (KA.out.next h.out)).1
          have a1 := fun (w2 : World) (h : Hid (Below W.heap.size W w2)) => (blk3 (KA.out.next h.out)).2.1
          have a2 := fun (w2 : World) (h : Hid (Below W.heap.size W w2)) => (blk3 (KA.out.next h.out)).2.2
          have b0 := fun (w2 : World) (h : Hid (Below W.heap.size W w2)) => (HRa.out.next h.out).cell0
          go_region_held3 (fun w' => Hid (Below W.heap.size W w')) (first | with_reducible assumption | exact HB1 | exact Lib.hid (below_drewN (Below.refl _ _) 1) | (have hh := (by assumption : Hid (Below W.heap.size W _)); exact Lib.hid (below_alloc hh.out _)))
            (first | (go_at_call 33; have hh := (by assumption : Hid (Below W.heap.size W _)); refine (meetsIx_own x s a _ (HRa.out.next hh.out).ix hss HAO.out).mono ?_; rintro e w5 ⟨A5, c5, rfl, ho5, hb5, hl5⟩; have HB1 := Lib.hid (below_next hh.out hb5); have HO5 := Lib.hid ho5; have HL5 := Lib.hid hl5; clear ho5 hb5 hl5))
          clear a0 a1 a2 b0
          have HR5 := Lib.hid (HRa.out.next HB1.out)
          have HK5 := Lib.hid (show KeepR wo w5 from KeepB.trans HKa.out (KeepB.of_below HB1.out))
          have HM := Lib.hid (show addM s T2 a = (plcS (satP a) s).foldl (addI s) T2 from rfl)
          have HPM := Lib.hid (show ∀ i ∈ plcS (satP a) s, ∃ q, s[i]? = some q from fun i hi => let ⟨q, h, _⟩ := plc_mem.1 hi; ⟨q, h⟩)
          clear HB1
          generalize plcS (satP a) s = L at HO5 HL5 HM HPM ⊢
          have hbdL := (own_nats HO5.out HL5.out).bd
          go_wp2
          go_loopw [38] (fun i wr => ∃ (m : Nat) (T3 : List (List UInt8)), m ≤ L.length ∧ i = .int .i64 m ∧ T3 = (L.take m).foldl (addI s) T2 ∧ RS W0 wr gr s x T3 ∧ KeepR w5 wr) (fun i _ => L.length - (intOf i).toNat)
          case atStart => exact ⟨0, T2, Nat.zero_le _, rfl, rfl, HR5.out, KeepB.refl _ _⟩
          case round =>
            obtain ⟨m, T3, hm, rfl, hT3, hr, hkr⟩ := hrel
            obtain ⟨wn, rfl⟩ : ∃ wn : World, wn = wr := ⟨_, rfl⟩
            have HT3 := Lib.hid hT3
            have HRn := Lib.hid hr
            have HKn := Lib.hid hkr
            have HOn := Lib.hid (KeepB.own hkr HO5.out (by decide))
            clear hT3 hr hkr
            by_cases hlm : m < L.length
            · obtain ⟨v, b3, o3, hv, rfl, f0⟩ := Nats.at_ (own_nats HOn.out HL5.out) hlm (Kept.refl _)
              obtain ⟨y, hy⟩ := HPM.out v (List.mem_of_getElem? hv)
              have HV := Lib.hid hv
              have HY := Lib.hid hy
              have HYF := Lib.hid (HF.out y (List.mem_of_getElem? hy))
              have hb0 := HRn.out.cell0
              clear hv hy
              go_wp2_with fail
              refine (at_yes x s v y _ HRn.out.ix hss HY.out HYF.out).mono ?_
              rintro e w7 ⟨r7, rfl, hr7, hb7⟩
              have HR7 := Lib.hid ((HRn.out.next hb7).alloc (.cells #[.string (bs (y).name), .string (bs (y).ver), .slice (r7).a1 (y).pre.length (r7).c1, .slice (r7).a2 (y).dep.length (r7).c2, .slice (r7).a3 (y).rcm.length (r7).c3, .slice (r7).a4 (y).con.length (r7).c4, .slice (r7).a5 (y).brk.length (r7).c5, .slice (r7).a6 (y).prv.length (r7).c6, .bool (y).ess] 26))
              have HK7 := Lib.hid (show KeepR w5 (w7.alloc (.cells #[.string (bs (y).name), .string (bs (y).ver), .slice (r7).a1 (y).pre.length (r7).c1, .slice (r7).a2 (y).dep.length (r7).c2, .slice (r7).a3 (y).rcm.length (r7).c3, .slice (r7).a4 (y).con.length (r7).c4, .slice (r7).a5 (y).brk.length (r7).c5, .slice (r7).a6 (y).prv.length (r7).c6, .bool (y).ess] 26)) from KeepB.trans HKn.out (KeepB.trans (KeepB.of_below hb7) (KeepB.alloc _)))
              clear hr7 hb7 hb0 f0
              go_wp2_with fail
              refine (add_any W0 gr s x T3 y.name _ HR7.out hs).mono ?_
              rintro e w8 ⟨rfl, hr8, hk8⟩
              have HR8 := Lib.hid hr8
              have HK8 := Lib.hid (show KeepR w5 w8 from KeepB.trans HK7.out hk8)
              have HA8 := Lib.hid (show addI s T3 v = addT s T3 y.name by unfold addI; rw [HY.out])
              clear hr8 hk8
              go_wp2
              go_roundw
              case rel => exact ⟨m + 1, addT s T3 y.name, by omega, by simp, by rw [fold_step HV.out, ← HT3.out, HA8.out], HR8.out, HK8.out⟩
              case measure => (try simp only [intOf]); omega
            · have hT := HT3.out
              rw [take_end hm hlm] at hT
              have HT9 := Lib.hid (show T3 = addM s T2 a by rw [hT, HM.out])
              have HK9 := Lib.hid (show KeepR wo wn from KeepB.trans HK5.out HKn.out)
              clear hT
              go_wp2
              go_roundw
              case rel => exact ⟨j + 1, T3, by omega, by simp, by rw [fold_step HQA.out, ← HT2.out, HT9.out], HRn.out, HK9.out⟩
              case measure => (try simp only [intOf]); omega
        · have hT := HT2.out
          rw [take_end hj hlj] at hT
          have HK9 := Lib.hid (show KeepR w1 wi from KeepB.trans HKo.out HKi.out)
          go_wp2
          go_roundw
          case rel => exact ⟨k + 1, T2, by omega, by simp, by rw [fold_step HQ.out, ← HT1.out, hT]; rfl, HRi.out, HK9.out⟩
          case measure => (try simp only [intOf]); omega
    · have hT := HT1.out
      rw [take_end hk hlt] at hT
      go_wp2
      go_end0
      rw [HFT.out, ← hT]
      exact ⟨rfl, HRo.out, KeepB.trans HK1.out HKo.out⟩
end Go.Proofs.YtflmocamfedbdaaGreatDoor
namespace Go.Proofs.YtflmocamfedbdaaGreatDoor
set_option linter.unusedSimpArgs false
set_option linter.unusedVariables false
open Go.RowKit
attribute [local go_sem ↓] Go.wp_at_zero Go.wp_at_succ
attribute [local irreducible] wpQuiet

inductive Rch (s : List Pkg) (seeds : List (List UInt8)) : List UInt8 → Prop
  | seed {n : List UInt8} : n ∈ seeds → s.any (nmP n) = true → Rch s seeds n
  | step {p : Pkg} {c : List Atm} {a : Atm} {q : Pkg} : Rch s seeds p.name → p ∈ s → c ∈ relL p → a ∈ c → q ∈ s → satP a q = true → Rch s seeds q.name
open Classical in
noncomputable def rchS (s : List Pkg) (seeds : List (List UInt8)) : List Pkg := s.filter fun p => decide (Rch s seeds p.name)
def Adds {α : Type} (f : List (List UInt8) → α → List (List UInt8)) (G : α → List UInt8 → Prop) : Prop :=
  ∀ T x, T <+: f T x ∧ (∀ n, G x n → n ∈ f T x) ∧ ∀ n ∈ f T x, n ∈ T ∨ G x n
theorem Adds.fold {α : Type} {f : List (List UInt8) → α → List (List UInt8)} {G : α → List UInt8 → Prop} (h : Adds f G) : Adds (fun T (l : List α) => l.foldl f T) (fun l n => ∃ x ∈ l, G x n) := by
  intro T l
  induction l generalizing T with
  | nil =>
    refine ⟨List.prefix_refl _, ?_, fun n hn => .inl hn⟩
    rintro n ⟨x, hx, _⟩
    cases hx
  | cons y l ih =>
    obtain ⟨h1, h2, h3⟩ := h T y
    obtain ⟨h4, h5, h6⟩ := ih (f T y)
    refine ⟨h1.trans h4, fun n ⟨x, hx, hg⟩ => ?_, fun n hn => ?_⟩
    · rcases List.mem_cons.1 hx with rfl | hx
      · exact h4.subset (h2 n hg)
      · exact h5 n ⟨x, hx, hg⟩
    · rcases h6 n hn with hn | ⟨x, hx, hg⟩
      · rcases h3 n hn with hn | hg
        · exact .inl hn
        · exact .inr ⟨y, List.mem_cons_self .., hg⟩
      · exact .inr ⟨x, List.mem_cons_of_mem _ hx, hg⟩
theorem addT_adds (s : List Pkg) : Adds (addT s) fun n m => m = n ∧ s.any (nmP n) = true := by
  intro T n
  unfold addT
  by_cases hc : (s.any (nmP n) && !T.contains n) = true
  · rw [if_pos hc]
    simp only [Bool.and_eq_true] at hc
    refine ⟨List.prefix_append _ _, fun m ⟨h, _⟩ => by subst h; simp, fun m hm => ?_⟩
    rcases List.mem_append.1 hm with hm | hm
    · exact .inl hm
    · exact .inr ⟨List.mem_singleton.1 hm, hc.1⟩
  · rw [if_neg hc]
    refine ⟨List.prefix_refl _, fun m ⟨h, ha⟩ => ?_, fun m hm => .inl hm⟩
    subst h
    simp only [ha, Bool.true_and, Bool.not_eq_true, Bool.not_eq_false'] at hc
    simpa using hc
theorem addI_adds (s : List Pkg) : Adds (addI s) fun i m => ∃ q, s[i]? = some q ∧ m = q.name := by
  intro T i
  unfold addI
  rcases hq : s[i]? with _ | q
  · refine ⟨List.prefix_refl _, ?_, fun m hm => .inl hm⟩
    rintro m ⟨q, h, _⟩
    rw [hq] at h
    cases h
  · obtain ⟨h1, h2, h3⟩ := addT_adds s T q.name
    have hany : s.any (nmP q.name) = true := List.any_eq_true.2 ⟨q, List.mem_of_getElem? hq, by simp [nmP]⟩
    refine ⟨h1, fun m ⟨q', h, hm⟩ => h2 m ⟨?_, hany⟩, fun m hm => ?_⟩
    · rw [hq] at h
      injection h with h
      rw [hm, h]
    · rcases h3 m hm with hm | ⟨hm, _⟩
      · exact .inl hm
      · exact .inr ⟨q, hq, hm⟩
theorem Adds.iff {α : Type} {f : List (List UInt8) → α → List (List UInt8)} {G G' : α → List UInt8 → Prop} (h : Adds f G) (hg : ∀ x n, G x n ↔ G' x n) : Adds f G' := fun T x =>
  ⟨(h T x).1, fun n hn => (h T x).2.1 n ((hg x n).2 hn), fun n hn => ((h T x).2.2 n hn).imp id (hg x n).1⟩
theorem addM_adds (s : List Pkg) : Adds (addM s) fun a m => ∃ q ∈ s, satP a q = true ∧ m = q.name := by
  have h := (addI_adds s).fold
  intro T a
  obtain ⟨h1, h2, h3⟩ := h T (plcS (satP a) s)
  refine ⟨h1, fun m ⟨q, hq, hs, hm⟩ => h2 m ?_, fun m hm => ?_⟩
  · obtain ⟨i, hi, rfl⟩ := List.mem_iff_getElem.1 hq
    exact ⟨i, plc_mem.2 ⟨_, List.getElem?_eq_getElem hi, hs⟩, _, List.getElem?_eq_getElem hi, hm⟩
  · rcases h3 m hm with hm | ⟨i, hi, q, hq, hm⟩
    · exact .inl hm
    · obtain ⟨q', hq', hs⟩ := plc_mem.1 hi
      rw [hq] at hq'
      injection hq' with hq'
      subst hq'
      exact .inr ⟨q, List.mem_of_getElem? hq, hs, hm⟩
/-- the names that a package may ask for -/
def Ask (s : List Pkg) (p : Pkg) (m : List UInt8) : Prop := ∃ c ∈ relL p, ∃ a ∈ c, ∃ q ∈ s, satP a q = true ∧ m = q.name
theorem fromT_adds (s : List Pkg) : Adds (fromT s) (Ask s) := by
  have h := (addM_adds s).fold.fold
  intro T p
  exact h T (relL p)
def workI (s : List Pkg) (T : List (List UInt8)) (i : Nat) : List (List UInt8) := match s[i]? with
  | some q => fromT s T q
  | none => T
def workN (s : List Pkg) (T : List (List UInt8)) (n : List UInt8) : List (List UInt8) := (plcS (nmP n) s).foldl (workI s) T
theorem workI_adds (s : List Pkg) : Adds (workI s) fun i m => ∃ q, s[i]? = some q ∧ Ask s q m := by
  intro T i
  unfold workI
  rcases hq : s[i]? with _ | q
  · refine ⟨List.prefix_refl _, ?_, fun m hm => .inl hm⟩
    rintro m ⟨q, h, _⟩
    rw [hq] at h
    cases h
  · obtain ⟨h1, h2, h3⟩ := fromT_adds s T q
    refine ⟨h1, fun m ⟨q', h, hm⟩ => h2 m (by rw [hq] at h; injection h with h; rw [h]; exact hm), fun m hm => ?_⟩
    rcases h3 m hm with hm | hm
    · exact .inl hm
    · exact .inr ⟨q, hq, hm⟩
theorem workN_adds (s : List Pkg) : Adds (workN s) fun n m => ∃ q ∈ s, q.name = n ∧ Ask s q m := by
  have h := (workI_adds s).fold
  intro T n
  obtain ⟨h1, h2, h3⟩ := h T (plcS (nmP n) s)
  refine ⟨h1, fun m ⟨q, hq, hn, hm⟩ => h2 m ?_, fun m hm => ?_⟩
  · obtain ⟨i, hi, rfl⟩ := List.mem_iff_getElem.1 hq
    exact ⟨i, plc_mem.2 ⟨_, List.getElem?_eq_getElem hi, by simpa [nmP] using hn⟩, _, List.getElem?_eq_getElem hi, hm⟩
  · rcases h3 m hm with hm | ⟨i, hi, q, hq, hm⟩
    · exact .inl hm
    · obtain ⟨q', hq', hs⟩ := plc_mem.1 hi
      rw [hq] at hq'
      injection hq' with hq'
      subst hq'
      exact .inr ⟨q, List.mem_of_getElem? hq, by simpa [nmP] using hs, hm⟩
/-- what the row of names is while it is gone over -/
def Inv (s : List Pkg) (seeds T : List (List UInt8)) (i : Nat) : Prop :=
  (∀ n ∈ T, Rch s seeds n) ∧ (∀ n ∈ seeds, s.any (nmP n) = true → n ∈ T) ∧ ∀ (j : Nat) n, j < i → T[j]? = some n → ∀ q ∈ s, q.name = n → ∀ m, Ask s q m → m ∈ T
theorem Inv.start {s : List Pkg} {seeds : List (List UInt8)} : Inv s seeds (seeds.foldl (addT s) []) 0 := by
  obtain ⟨_, h2, h3⟩ := (addT_adds s).fold [] seeds
  refine ⟨fun n hn => ?_, fun n hn ha => h2 n ⟨n, hn, rfl, ha⟩, fun j n hj => by omega⟩
  rcases h3 n hn with hn | ⟨m, hm, rfl, ha⟩
  · cases hn
  · exact .seed hm ha
theorem Inv.step {s : List Pkg} {seeds T : List (List UInt8)} {i : Nat} {n : List UInt8} (h : Inv s seeds T i) (hn : T[i]? = some n) : Inv s seeds (workN s T n) (i + 1) := by
  obtain ⟨h1, h2, h3⟩ := workN_adds s T n
  refine ⟨fun m hm => ?_, fun m hm ha => h1.subset (h.2.1 m hm ha), fun j m hj hm q hq hqm k hk => ?_⟩
  · rcases h3 m hm with hm | ⟨q, hq, hqn, c, hc, a, ha, q2, hq2, hs, rfl⟩
    · exact h.1 m hm
    · exact .step (p := q) (by rw [hqn]; exact h.1 n (List.mem_of_getElem? hn)) hq hc ha hq2 hs
  · have hil : i < T.length := (List.getElem?_eq_some_iff.1 hn).1
    have hmT : T[j]? = some m := by
      obtain ⟨t, ht⟩ := h1
      rw [← ht, List.getElem?_append_left (by omega)] at hm
      exact hm
    rcases Nat.lt_or_ge j i with hji | hji
    · exact h1.subset (h.2.2 j m hji hmT q hq hqm k hk)
    · obtain rfl : j = i := by omega
      obtain rfl : n = m := Option.some.inj (hn.symm.trans hmT)
      exact h2 k ⟨q, hq, hqm, hk⟩
theorem Inv.done {s : List Pkg} {seeds T : List (List UInt8)} (h : Inv s seeds T T.length) (n : List UInt8) : n ∈ T ↔ Rch s seeds n := by
  refine ⟨h.1 n, fun hr => ?_⟩
  induction hr with
  | seed h1 h2 => exact h.2.1 _ h1 h2
  | step _ hp hc ha hq hs ih =>
    obtain ⟨j, hj, e⟩ := List.mem_iff_getElem.1 ih
    exact h.2.2 j _ hj (List.getElem?_eq_getElem hj) _ hp e.symm _ ⟨_, hc, _, ha, _, hq, hs, rfl⟩
theorem rchS_of {s : List Pkg} {seeds T : List (List UInt8)} (h : ∀ n, n ∈ T ↔ Rch s seeds n) : s.filter (fun p => T.contains p.name) = rchS s seeds := by
  unfold rchS
  congr 1
  funext p
  rw [Bool.eq_iff_iff]
  simp [h]
theorem Strs.cellAt {w : World} {B : Nat} {A : Option Addr} {n c : Nat} {T : List (List UInt8)} (h : Own w B 9 1 RStr (.slice A n c) T) (hl : T.length * 16 ≤ 140737488351232) : Strs w A c T := by
  obtain ⟨A', c', h1, h2⟩ := h.slc hl
  injection h1 with h1 h3 h4
  subst h1 h4
  exact h2
/-- what reach's row of names is -/
theorem RS.row {W0 w : World} {gr : Nat} {s : List Pkg} {x : Value} {T : List (List UInt8)} (h : RS W0 w gr s x T) (hs : s.length ≤ 10000) : ∃ A c, w.cell? ⟨gr, 1, none⟩ = some (.slice A T.length c) ∧ Strs w A c T := by
  have hl := h.2.2.2.2.len
  obtain ⟨_, _, _, ⟨tv, hB, hO⟩, _⟩ := h
  obtain ⟨A, c, rfl, hS⟩ := hO.slc (z := 16) (by omega)
  exact ⟨A, c, hB.cell 1, hS⟩
set_option maxRecDepth 100000 in
set_option maxHeartbeats 1000000 in
theorem ofcl_any (W0 : World) (gr g0 g1 k : Nat) (s : List Pkg) (x : Value) (q : Pkg) (T : List (List UInt8)) (w : World) (hR : RS W0 w gr s x T) (hx : w.cell? ⟨g0, 0, none⟩ = some x) (h1 : w.cell? ⟨g1, 0, none⟩ = some (.pointer (some ⟨gr, 0, none⟩))) (hs : s.length ≤ 10000) (hq : s[k]? = some q) (hf : fewO q) :
    Calls Tryz.prog 81 #[.int .i64 k, .pointer (some ⟨g0, 0, none⟩), .pointer (some ⟨g1, 0, none⟩)] w fun e w' => e = .returned (.bool (T.contains q.name)) ∧ Below w.heap.size w w' := by
  have HR := Lib.hid hR
  have HX := Lib.hid hx
  have HG := Lib.hid h1
  have HQ := Lib.hid hq
  have HF := Lib.hid hf
  have hsm : s.length ≤ 1000000 := by omega
  clear hR h1 hq hf
  obtain ⟨b, hb⟩ : ∃ b, b = T.contains q.name := ⟨_, rfl⟩
  have HCN := Lib.hid hb.symm
  rw [← hb]
  clear hb
  go_enter Tryz.func81, Tryz.ntmps81
  go_wp2_with fail
  refine (at_yes x s k q _ HR.out.ix hsm HQ.out HF.out).mono ?_
  rintro e w1 ⟨r, rfl, hr, hb1⟩
  have HB1 := Lib.hid (below_alloc hb1 (.cells #[.string (bs (q).name), .string (bs (q).ver), .slice (r).a1 (q).pre.length (r).c1, .slice (r).a2 (q).dep.length (r).c2, .slice (r).a3 (q).rcm.length (r).c3, .slice (r).a4 (q).con.length (r).c4, .slice (r).a5 (q).brk.length (r).c5, .slice (r).a6 (q).prv.length (r).c6, .bool (q).ess] 26))
  have HR1 := Lib.hid (HR.out.next HB1.out)
  have K1 := Lib.hid (blk_new1 w1 26 #[.string (bs (q).name), .string (bs (q).ver), .slice (r).a1 (q).pre.length (r).c1, .slice (r).a2 (q).dep.length (r).c2, .slice (r).a3 (q).rcm.length (r).c3, .slice (r).a4 (q).con.length (r).c4, .slice (r).a5 (q).brk.length (r).c5, .slice (r).a6 (q).prv.length (r).c6, .bool (q).ess])
  have hg1 := Kept.of_below HB1.out _ _ HG.out
  clear hr hb1 hx
  obtain ⟨A, c, hc1, hst⟩ := HR1.out.row hs
  have HST := Lib.hid hst
  obtain ⟨a0, a1, a2, a3, a4, a5, a6, a7, a8⟩ := blk9 K1.out
  clear a1 a2 a3 a4 a5 a6 a7 a8 hst
  go_upto_region 2 with (fail)
  generalize World.alloc _ _ = W at HB1 HST hg1 hc1 a0 ⊢
  have q0 := fun p : Be W => Be.cell a0 p
  have q1 := fun p : Be W => Be.cell hg1 p
  have q2 := fun p : Be W => Be.cell hc1 p
  clear a0 hg1 hc1 HR1 K1
  refine region_be (by kernel_rfl) (by kernel_rfl) ?_
  repeat (quiet_step (first | (go_at_call 82; with_reducible exact Calls.be_of ((conN_any A c T q.name _ (Strs.kept HST.out (Be.kept _))).mono fun _ _ h => ⟨h.1.trans (congrArg (fun b => Ending.returned (Value.bool b)) HCN.out), h.2 ▸ Below.refl _ _⟩))))
  refine wpQuiet_nil ?_
  intro _ hw'
  obtain ⟨pb, hw''⟩ := hw'
  subst hw''
  obtain ⟨W2, hbw⟩ := pb
  dsimp only
  go_wp2
  go_ret
  exact ⟨rfl, below_next HB1.out hbw⟩
end Go.Proofs.YtflmocamfedbdaaGreatDoor
namespace Go.Proofs.YtflmocamfedbdaaGreatDoor
set_option linter.unusedSimpArgs false
set_option linter.unusedVariables false
open Go.RowKit
attribute [local go_sem ↓] Go.wp_at_zero Go.wp_at_succ
attribute [local irreducible] wpQuiet
def entN (s : List Ent) : List (List UInt8) := s.map fun x => x.pkg.name
theorem smP_all {s : List Ent} {repo : List Pkg} (hf : ∀ p ∈ repo, smP p) (hfs : ∀ x ∈ s, smP x.pkg) : ∀ p ∈ srt pLt (allL s repo), smP p := fun p hp => by
  rw [mem_srt] at hp
  rcases List.mem_append.1 hp with hp | hp
  · obtain ⟨x, hx, rfl⟩ := List.mem_map.1 hp
    exact hfs x hx
  · exact hf p (List.mem_filter.1 hp).1
theorem RS.mk0 {w1 : World} {t : Nat} {x : Value} {s : List Pkg} {o : Obj} (h : Ix w1 x s) :
    RS (w1.alloc (.cells #[x] t)) (((w1.alloc (.cells #[x] t)).alloc (.cells #[x, .slice none 0 0] 110)).alloc o) (w1.heap.size + 1) s x [] :=
  ⟨h.next (below_alloc (Below.refl _ _) _), below_alloc (below_alloc (Below.refl _ _) _) _, by simp, ⟨_, (blk_new2 w1 _ _ _).alloc _, Own.nil_ _ _ _ _ _⟩, .nil, fun n hn => by cases hn⟩
theorem workT_le {s : List Pkg} {T : List (List UInt8)} {k : Nat} (n : List UInt8) (h : k < T.length) : k + 1 ≤ (workN s T n).length := by
  have := (workN_adds s T n).1.length_le
  omega
set_option maxRecDepth 100000 in
set_option maxHeartbeats 4000000 in
theorem uniOf_any (A A2 A3 : Option Addr) (c c2 c3 : Nat) (repo : List Pkg) (s : List Ent) (names : List (List UInt8)) (w : World) (hl : Pkgs w A c repo) (hs : Ents w A2 c2 s) (hn : Strs w A3 c3 names) (hf : ∀ p ∈ repo, fewO p) (hfs : ∀ x ∈ s, fewO x.pkg) (hm : ∀ p ∈ repo, smP p) (hms : ∀ x ∈ s, smP x.pkg) :
    Calls Tryz.prog 37 #[.slice A repo.length c, .slice A2 s.length c2, .slice A3 names.length c3] w (RetErr w (allE s repo) (rchS (srt pLt (allL s repo)) (entN s ++ names))) := by
  have hmf : ∀ (fn : Fn) (first cap : Array Value) (w : World), (Instr.makeFunc fn first cap).run Tryz.prog w = .ok (.func fn first cap) w := fun _ _ _ _ => rfl
  have hbd2 := hs.bd
  have hbd3 := hn.bd
  have HL := Lib.hid hl
  have HS := Lib.hid hs
  have HN := Lib.hid hn
  have HF := Lib.hid hf
  have HFS := Lib.hid hfs
  have HM := Lib.hid hm
  have HMS := Lib.hid hms
  clear hl hs hn hf hfs hm hms
  by_cases h0 : allE s repo = 0
  · have HFA := Lib.hid (fewO_all (s := s) HF.out HFS.out)
    have HMA := Lib.hid (smP_all (s := s) HM.out HMS.out)
    have HLN := Lib.hid (all_len24 h0)
    have H0 := Lib.hid h0
    obtain ⟨t, ht⟩ : ∃ t, t = srt pLt (allL s repo) := ⟨_, rfl⟩
    have HT := Lib.hid ht.symm
    rw [← ht] at HFA HMA HLN ⊢
    have htl : t.length ≤ 10000 := by have := HLN.out; omega
    have htm : t.length ≤ 1000000 := by omega
    obtain ⟨sn, hsn⟩ : ∃ sn, sn = entN s := ⟨_, rfl⟩
    have HSN := Lib.hid hsn
    rw [← hsn]
    clear h0 ht hsn
    go_enter Tryz.func37, Tryz.ntmps37
    go_wp2_with fail
    refine (both_any A A2 c c2 repo s _ HL.out HS.out HF.out HFS.out).mono ?_
    rintro e w1 (⟨h00, G1, v1, rfl, h01, hx1, hx2, hb⟩ | ⟨h0, rfl, hb⟩)
    · rw [HT.out] at hx2
      have hx0 := ix_of_own hx1 hx2 (by omega)
      have HX := Lib.hid hx0
      have HB := Lib.hid hb
      clear h00 h01 hx1 hx2 hb hx0
      go_wp2
      have HR0 := Lib.hid (RS.mk0 (t := 44) (o := .cells #[.pointer (some ⟨w1.heap.size + 1, 0, none⟩)] 108) HX.out)
      have HB0 := Lib.hid (below_alloc HB.out (.cells #[.pointer (some ⟨G1, 0, none⟩)] 44))
      have K8 := Lib.hid (blk_new1 w1 44 #[.pointer (some ⟨G1, 0, none⟩)])
      have K10 := Lib.hid (show Blk (((w1.alloc (.cells #[.pointer (some ⟨G1, 0, none⟩)] 44)).alloc (.cells #[.pointer (some ⟨G1, 0, none⟩), .slice none 0 0] 110)).alloc (.cells #[.pointer (some ⟨w1.heap.size + 1, 0, none⟩)] 108)) (w1.heap.size + 1 + 1) 108 #[.pointer (some ⟨w1.heap.size + 1, 0, none⟩)] from blk_new3 w1 _ _ _ _)
      generalize (((w1.alloc (.cells #[.pointer (some ⟨G1, 0, none⟩)] 44)).alloc (.cells #[.pointer (some ⟨G1, 0, none⟩), .slice none 0 0] 110)).alloc (.cells #[.pointer (some ⟨w1.heap.size + 1, 0, none⟩)] 108)) = Wn at HR0 K10 ⊢
      generalize w1.alloc (.cells #[.pointer (some ⟨G1, 0, none⟩)] 44) = W0 at HR0 HB0 K8
      generalize w1.heap.size + 1 + 1 = g10 at K10 ⊢
      generalize w1.heap.size + 1 = gr at HR0 K10 ⊢
      generalize w1.heap.size = g8 at K8 ⊢
      generalize Value.pointer (some ⟨G1, 0, none⟩) = x at HR0 K8 ⊢
      clear HX HB
      go_loopw [34] (fun i wr => ∃ (k : Nat) (T : List (List UInt8)), k ≤ s.length ∧ i = .int .i64 k ∧ T = (sn.take k).foldl (addT t) [] ∧ RS W0 wr gr t x T ∧ KeepR Wn wr) (fun i _ => s.length - (intOf i).toNat)
      case atStart => exact ⟨0, [], Nat.zero_le _, rfl, rfl, HR0.out, KeepB.refl _ _⟩
      case round =>
        clear HR0
        obtain ⟨k, T, hk, rfl, hT, hr, hkr⟩ := hrel
        obtain ⟨wo, rfl⟩ : ∃ wo : World, wo = wr := ⟨_, rfl⟩
        have HT1 := Lib.hid hT
        have HR := Lib.hid hr
        have HK := Lib.hid hkr
        have K10a := Lib.hid (KeepB.blk hkr K10.out (by decide))
        clear hT hr hkr
        by_cases hlt : k < s.length
        · obtain ⟨y, b, o, r, hy, rfl, hr, e0, e1, e2, e3, e4, e5, e6, e7, e8, e9, e10⟩ := HS.out.at_ hlt (Kept.of_below (below_next HB0.out HR.out.2.1))
          have HQ := Lib.hid (show sn[k]? = some y.pkg.name by rw [HSN.out, entN, List.getElem?_map, hy]; rfl)
          have HR2 := Lib.hid (HR.out.alloc (.cells #[.string (bs (y).pkg.name), .string (bs (y).pkg.ver), .slice (r).a1 (y).pkg.pre.length (r).c1, .slice (r).a2 (y).pkg.dep.length (r).c2, .slice (r).a3 (y).pkg.rcm.length (r).c3, .slice (r).a4 (y).pkg.con.length (r).c4, .slice (r).a5 (y).pkg.brk.length (r).c5, .slice (r).a6 (y).pkg.prv.length (r).c6, .bool (y).pkg.ess, .bool (y).conf, .bool (y).hold] 106))
          have HK2 := Lib.hid (show KeepR Wn (wo.alloc (.cells #[.string (bs (y).pkg.name), .string (bs (y).pkg.ver), .slice (r).a1 (y).pkg.pre.length (r).c1, .slice (r).a2 (y).pkg.dep.length (r).c2, .slice (r).a3 (y).pkg.rcm.length (r).c3, .slice (r).a4 (y).pkg.con.length (r).c4, .slice (r).a5 (y).pkg.brk.length (r).c5, .slice (r).a6 (y).pkg.prv.length (r).c6, .bool (y).pkg.ess, .bool (y).conf, .bool (y).hold] 106)) from KeepB.trans HK.out (KeepB.alloc _))
          have c10 := (K10a.out.alloc (.cells #[.string (bs (y).pkg.name), .string (bs (y).pkg.ver), .slice (r).a1 (y).pkg.pre.length (r).c1, .slice (r).a2 (y).pkg.dep.length (r).c2, .slice (r).a3 (y).pkg.rcm.length (r).c3, .slice (r).a4 (y).pkg.con.length (r).c4, .slice (r).a5 (y).pkg.brk.length (r).c5, .slice (r).a6 (y).pkg.prv.length (r).c6, .bool (y).pkg.ess, .bool (y).conf, .bool (y).hold] 106)).cell 0
          clear hy hr
          go_wp2_with fail
          refine (add_any W0 gr t x T y.pkg.name _ HR2.out htl).mono ?_
          rintro e w3 ⟨rfl, hr3, hk3⟩
          have HR3 := Lib.hid hr3
          have HK3 := Lib.hid (show KeepR Wn w3 from KeepB.trans HK2.out hk3)
          clear hr3 hk3 e0 e1 e2 e3 e4 e5 e6 e7 e8 e9 e10 c10
          go_wp2
          go_roundw
          case rel => exact ⟨k + 1, addT t T y.pkg.name, by omega, by simp, by rw [fold_step HQ.out, ← HT1.out], HR3.out, HK3.out⟩
          case measure => (try simp only [intOf]); omega
        · have hT := HT1.out
          rw [List.take_of_length_le (by rw [HSN.out, entN, List.length_map]; omega)] at hT
          have HT2 := Lib.hid hT
          clear hT
          go_wp2
          clear hlt hk
          go_loopw [46] (fun i wr => ∃ (k : Nat) (T : List (List UInt8)), k ≤ names.length ∧ i = .int .i64 k ∧ T = (sn ++ names.take k).foldl (addT t) [] ∧ RS W0 wr gr t x T ∧ KeepR Wn wr) (fun i _ => names.length - (intOf i).toNat)
          case atStart => exact ⟨0, T, Nat.zero_le _, rfl, by rw [List.take_zero, List.append_nil]; exact HT2.out, HR.out, HK.out⟩
          case round =>
            clear HR HK HT1 HT2 K10a
            obtain ⟨k, T, hk, rfl, hT, hr, hkr⟩ := hrel
            obtain ⟨wo, rfl⟩ : ∃ wo : World, wo = wr := ⟨_, rfl⟩
            have HT1 := Lib.hid hT
            have HR := Lib.hid hr
            have HK := Lib.hid hkr
            have K10a := Lib.hid (KeepB.blk hkr K10.out (by decide))
            clear hT hr hkr
            by_cases hlt : k < names.length
            · obtain ⟨n, b, o, hn, rfl, e0⟩ := HN.out.at_ hlt (Kept.of_below (below_next HB0.out HR.out.2.1))
              have HQ := Lib.hid hn
              have c10 := K10a.out.cell 0
              clear hn
              go_wp2_with fail
              refine (add_any W0 gr t x T n _ HR.out htl).mono ?_
              rintro e w3 ⟨rfl, hr3, hk3⟩
              have HR3 := Lib.hid hr3
              have HK3 := Lib.hid (show KeepR Wn w3 from KeepB.trans HK.out hk3)
              clear hr3 hk3 e0 c10
              go_wp2
              go_roundw
              case rel => exact ⟨k + 1, addT t T n, by omega, by simp, by rw [take_step HQ.out, ← List.append_assoc, List.foldl_append, ← HT1.out]; rfl, HR3.out, HK3.out⟩
              case measure => (try simp only [intOf]); omega
            · have hT := HT1.out
              rw [List.take_of_length_le (by omega)] at hT
              have HIV := Lib.hid (show Inv t (sn ++ names) T 0 by rw [hT]; exact Inv.start)
              clear hT HT1
              go_wp2
              clear hlt hk
              go_loopw [15] (fun i wr => ∃ (k : Nat) (T : List (List UInt8)), k ≤ T.length ∧ i = .int .i64 k ∧ Inv t (sn ++ names) T k ∧ RS W0 wr gr t x T ∧ KeepR Wn wr) (fun i _ => t.length - (intOf i).toNat)
              case atStart => exact ⟨0, T, Nat.zero_le _, rfl, HIV.out, HR.out, HK.out⟩
              case round =>
                clear HR HK HIV K10a
                obtain ⟨k, T, hk, rfl, hiv, hr, hkr⟩ := hrel
                obtain ⟨wo, rfl⟩ : ∃ wo : World, wo = wr := ⟨_, rfl⟩
                have HIV := Lib.hid hiv
                have HR := Lib.hid hr
                have HK := Lib.hid hkr
                have K10a := Lib.hid (KeepB.blk hkr K10.out (by decide))
                have K8a := Lib.hid (K8.out.next hr.2.1)
                have hTl := hr.2.2.2.2.len
                clear hiv hr hkr
                obtain ⟨A7, c7, hc1, hst⟩ := HR.out.row htl
                have HST := Lib.hid hst
                have hbdT := hst.bd
                have c10 := K10a.out.cell 0
                clear hst
                by_cases hlt : k < T.length
                · obtain ⟨n, b7, o7, hn, rfl, f0⟩ := HST.out.at_ hlt (Kept.refl _)
                  have HQ := Lib.hid hn
                  have hj0 : (0 : Int) ≤ (k : Int) := Int.natCast_nonneg _
                  have hj1 : (k : Int) < (T.length : Int) := by omega
                  clear hn
                  go_upto_region 18 with (fail)
                  have a0 := fun (w2 : World) (h : Hid (Below wo.heap.size wo w2)) => (K8a.out.next h.out).cell 0
                  have a1 := fun (w2 : World) (h : Hid (Below wo.heap.size wo w2)) => (K10a.out.next h.out).cell 0
                  have a2 := fun (w2 : World) (h : Hid (Below wo.heap.size wo w2)) => Kept.of_below h.out _ _ hc1
                  have a3 := fun (w2 : World) (h : Hid (Below wo.heap.size wo w2)) => Kept.of_below h.out _ _ f0
                  go_region_held3 (fun w' => Hid (Below wo.heap.size wo w')) (first | with_reducible assumption | exact HB1 | exact Lib.hid (below_drewN (Below.refl _ _) 1) | (have hh := (by assumption : Hid (Below wo.heap.size wo _)); exact Lib.hid (below_alloc hh.out _)))
                    (first | (go_at_call 32; have hh := (by assumption : Hid (Below wo.heap.size wo _)); refine (ofIx_own x t n _ (HR.out.next hh.out).ix htm).mono ?_; rintro e w5 ⟨A5, c5, rfl, ho5, hb5, hl5⟩; have HB1 := Lib.hid (below_next hh.out hb5); have HO5 := Lib.hid ho5; have HL5 := Lib.hid hl5; clear ho5 hb5 hl5))
                  clear a0 a1 a2 a3 hc1 c10 f0 hj0 hj1
                  have HR5 := Lib.hid (HR.out.next HB1.out)
                  have HK5 := Lib.hid (show KeepR Wn w5 from KeepB.trans HK.out (KeepB.of_below HB1.out))
                  have HW := Lib.hid (show workN t T n = (plcS (nmP n) t).foldl (workI t) T from rfl)
                  have HPM := Lib.hid (show ∀ i ∈ plcS (nmP n) t, ∃ q, t[i]? = some q from fun i hi => let ⟨q, h, _⟩ := plc_mem.1 hi; ⟨q, h⟩)
                  clear HB1 K8a K10a HR HK
                  generalize plcS (nmP n) t = L at HO5 HL5 HW HPM ⊢
                  have hbdL := (own_nats HO5.out HL5.out).bd
                  go_wp2
                  go_loopw [73] (fun i wr => ∃ (m : Nat) (T3 : List (List UInt8)), m ≤ L.length ∧ i = .int .i64 m ∧ T3 = (L.take m).foldl (workI t) T ∧ RS W0 wr gr t x T3 ∧ KeepR Wn wr ∧ KeepR w5 wr) (fun i _ => L.length - (intOf i).toNat)
                  case atStart => exact ⟨0, T, Nat.zero_le _, rfl, rfl, HR5.out, HK5.out, KeepB.refl _ _⟩
                  case round =>
                    obtain ⟨m, T3, hm, rfl, hT3, hr, hkr, hk5⟩ := hrel
                    obtain ⟨wn, rfl⟩ : ∃ wn : World, wn = wr := ⟨_, rfl⟩
                    have HT3 := Lib.hid hT3
                    have HRn := Lib.hid hr
                    have HKn := Lib.hid hkr
                    have HK5n := Lib.hid hk5
                    have HOn := Lib.hid (KeepB.own hk5 HO5.out (by decide))
                    have K8n := Lib.hid (K8.out.next hr.2.1)
                    have K10n := Lib.hid (KeepB.blk hkr K10.out (by decide))
                    clear hT3 hr hkr hk5
                    by_cases hlm : m < L.length
                    · obtain ⟨v, b3, o3, hv, rfl, f0⟩ := Nats.at_ (own_nats HOn.out HL5.out) hlm (Kept.refl _)
                      obtain ⟨y, hy⟩ := HPM.out v (List.mem_of_getElem? hv)
                      have HV := Lib.hid hv
                      have HY := Lib.hid hy
                      have HYF := Lib.hid (HFA.out y (List.mem_of_getElem? hy))
                      have HYM := Lib.hid (HMA.out y (List.mem_of_getElem? hy))
                      have c8 := K8n.out.cell 0
                      clear hv hy
                      go_wp2_with fail
                      refine (at_yes x t v y _ HRn.out.ix htm HY.out HYF.out).mono ?_
                      rintro e w7 ⟨r7, rfl, hr7, hb7⟩
                      have HR7 := Lib.hid ((HRn.out.next hb7).alloc (.cells #[.string (bs (y).name), .string (bs (y).ver), .slice (r7).a1 (y).pre.length (r7).c1, .slice (r7).a2 (y).dep.length (r7).c2, .slice (r7).a3 (y).rcm.length (r7).c3, .slice (r7).a4 (y).con.length (r7).c4, .slice (r7).a5 (y).brk.length (r7).c5, .slice (r7).a6 (y).prv.length (r7).c6, .bool (y).ess] 26))
                      have HK7 := Lib.hid (show KeepR wn (w7.alloc (.cells #[.string (bs (y).name), .string (bs (y).ver), .slice (r7).a1 (y).pre.length (r7).c1, .slice (r7).a2 (y).dep.length (r7).c2, .slice (r7).a3 (y).rcm.length (r7).c3, .slice (r7).a4 (y).con.length (r7).c4, .slice (r7).a5 (y).brk.length (r7).c5, .slice (r7).a6 (y).prv.length (r7).c6, .bool (y).ess] 26)) from KeepB.trans (KeepB.of_below hb7) (KeepB.alloc _))
                      have HP7 := Lib.hid (show RP (flt TB (w7.alloc (.cells #[.string (bs (y).name), .string (bs (y).ver), .slice (r7).a1 (y).pre.length (r7).c1, .slice (r7).a2 (y).dep.length (r7).c2, .slice (r7).a3 (y).rcm.length (r7).c3, .slice (r7).a4 (y).con.length (r7).c4, .slice (r7).a5 (y).brk.length (r7).c5, .slice (r7).a6 (y).prv.length (r7).c6, .bool (y).ess] 26))) r7 y from RP.fkeep hr7 (KeepB.alloc _))
                      have K10m := Lib.hid ((K10n.out.next hb7).alloc (.cells #[.string (bs (y).name), .string (bs (y).ver), .slice (r7).a1 (y).pre.length (r7).c1, .slice (r7).a2 (y).dep.length (r7).c2, .slice (r7).a3 (y).rcm.length (r7).c3, .slice (r7).a4 (y).con.length (r7).c4, .slice (r7).a5 (y).brk.length (r7).c5, .slice (r7).a6 (y).prv.length (r7).c6, .bool (y).ess] 26))
                      clear hr7 hb7 f0 c8
                      go_upto_region 22 with (fail)
                      have c10 := K10m.out.cell 0
                      obtain ⟨d0, d1, d2, d3, d4, d5, d6, d7, d8⟩ := blk9 (blk_new1 w7 26 #[.string (bs (y).name), .string (bs (y).ver), .slice (r7).a1 (y).pre.length (r7).c1, .slice (r7).a2 (y).dep.length (r7).c2, .slice (r7).a3 (y).rcm.length (r7).c3, .slice (r7).a4 (y).con.length (r7).c4, .slice (r7).a5 (y).brk.length (r7).c5, .slice (r7).a6 (y).prv.length (r7).c6, .bool (y).ess])
                      go_wp2_with fail
                      refine (from_any W0 gr t x T3 y r7 _ HR7.out HP7.out htl HFA.out HYM.out).mono ?_
                      rintro e w8 ⟨rfl, hr8, hk8⟩
                      have HR8 := Lib.hid hr8
                      have HK8 := Lib.hid (show KeepR wn w8 from KeepB.trans HK7.out hk8)
                      have HA8 := Lib.hid (show workI t T3 v = fromT t T3 y by unfold workI; rw [HY.out])
                      clear hr8 hk8 c10 d0 d1 d2 d3 d4 d5 d6 d7 d8
                      go_wp2
                      go_roundw
                      case rel => exact ⟨m + 1, fromT t T3 y, by omega, by simp, by rw [fold_step HV.out, ← HT3.out, HA8.out], HR8.out, KeepB.trans HKn.out HK8.out, KeepB.trans HK5n.out HK8.out⟩
                      case measure => (try simp only [intOf]); omega
                    · have hT := HT3.out
                      rw [take_end hm hlm] at hT
                      have HT9 := Lib.hid (show T3 = workN t T n by rw [hT, HW.out])
                      clear hT
                      go_wp2
                      go_roundw
                      case rel => exact ⟨k + 1, T3, by rw [HT9.out]; exact workT_le n hlt, by simp, by rw [HT9.out]; exact HIV.out.step HQ.out, HRn.out, HKn.out⟩
                      case measure => (try simp only [intOf]); omega
                · have hkl : k = T.length := by omega
                  have hiv := HIV.out
                  rw [hkl] at hiv
                  have HRF := Lib.hid (rchS_of hiv.done)
                  have c8 := K8a.out.cell 0
                  clear hiv hkl
                  go_wp2_with fail
                  refine (listO_any g8 g10 (fun p => T.contains p.name) x t _ HR.out.ix htl HFA.out (fun m q W hq hb => ofcl_any W0 gr g8 g10 m t x q T W (HR.out.next hb) ((K8a.out.next hb).cell 0) ((K10a.out.next hb).cell 0) htl hq (HFA.out q (List.mem_of_getElem? hq)))).mono ?_
                  rintro e w9 ⟨A9, c9, rfl, hp9, hb9⟩
                  rw [HRF.out] at hp9 ⊢
                  have HP9 := Lib.hid hp9
                  have HB9 := Lib.hid (below_next (below_next HB0.out HR.out.2.1) hb9)
                  clear hp9 hb9 c8 hc1 c10
                  go_wp2
                  go_ret2
                  exact .inl ⟨H0.out, A9, c9, rfl, HP9.out, HB9.out⟩
    · exact absurd H0.out h0
  · have H0 := Lib.hid h0
    obtain ⟨E, hE⟩ : ∃ E, E = allE s repo := ⟨_, rfl⟩
    have HE := Lib.hid hE.symm
    rw [← hE] at h0 ⊢
    have hd : (E != 0) = true := by rw [bne_iff_ne]; exact h0
    have HE0 := Lib.hid h0
    clear hE h0
    go_enter Tryz.func37, Tryz.ntmps37
    go_wp2_with fail
    refine (both_any A A2 c c2 repo s _ HL.out HS.out HF.out HFS.out).mono ?_
    rintro e w1 (⟨h0, _⟩ | ⟨_, rfl, hb⟩)
    · exact absurd h0 H0.out
    · rw [HE.out]
      have HB := Lib.hid hb
      clear hb
      go_wp2
      go_ret2
      exact .inr ⟨HE0.out, rfl, below_alloc HB.out _⟩
end Go.Proofs.YtflmocamfedbdaaGreatDoor
namespace Go.Proofs.YtflmocamfedbdaaGreatDoor
set_option linter.unusedSimpArgs false
set_option linter.unusedVariables false
open Go.RowKit
def wuT : Atm := ⟨[98, 98], 0, []⟩
def wuA : Pkg := ⟨[97, 97], [49], [], [[wuT]], [], [], [], [], false⟩
def wuB : Pkg := ⟨[98, 98], [49], [], [], [], [], [], [], false⟩
def wuC : Pkg := ⟨[99, 99], [49], [], [], [], [], [], [], false⟩
def wuL : List Pkg := [wuA, wuB, wuC]
theorem wu_all : allE [] wuL = 0 := by decide +kernel
theorem wu_srt : srt pLt (allL [] wuL) = wuL := by decide +kernel
theorem wu_w1 : workN wuL [[97, 97]] [97, 97] = [[97, 97], [98, 98]] := by decide +kernel
theorem wu_w2 : workN wuL [[97, 97], [98, 98]] [98, 98] = [[97, 97], [98, 98]] := by decide +kernel
theorem wu_0 : ([[97, 97]] : List (List UInt8)).foldl (addT wuL) [] = [[97, 97]] := by decide +kernel
theorem wu_rch : rchS (srt pLt (allL [] wuL)) (entN [] ++ [[97, 97]]) = [wuA, wuB] := by
  rw [wu_srt]
  show rchS wuL [[97, 97]] = _
  have h0 : Inv wuL [[97, 97]] [[97, 97]] 0 := by have := Inv.start (s := wuL) (seeds := [[97, 97]]); rwa [wu_0] at this
  have h1 := h0.step (n := [97, 97]) rfl
  rw [wu_w1] at h1
  have h2 := h1.step (n := [98, 98]) rfl
  rw [wu_w2] at h2
  rw [← rchS_of (T := [[97, 97], [98, 98]]) (Inv.done h2)]
  decide +kernel
theorem wu_few : ∀ p ∈ wuL, fewO p := fun p hp => by
  simp only [wuL, List.mem_cons, List.not_mem_nil, or_false] at hp
  rcases hp with rfl | rfl | rfl <;> (refine ⟨⟨by decide, ?_⟩, ⟨by decide, ?_⟩, ⟨by decide, ?_⟩, by decide, by decide, by decide⟩ <;> (intro x hx; simp [wuA, wuB, wuC] at hx; try (subst hx; decide)))
theorem wu_smP : ∀ p ∈ wuL, smP p := fun p hp => by
  simp only [wuL, List.mem_cons, List.not_mem_nil, or_false] at hp
  rcases hp with rfl | rfl | rfl <;> exact ⟨by decide, by decide, by decide⟩
theorem wu_pkgs (w : World) : Pkgs ((((w.alloc (.cells #[.string (bs [98, 98]), .int .i64 0, .string (bs [])] 34)).alloc (.cells #[.slice (some ⟨w.heap.size, 0, none⟩) 1 1] 77)).alloc (.cells #[.string (bs [97, 97]), .string (bs [49]), .slice none 0 0, .slice (some ⟨w.heap.size + 1, 0, none⟩) 1 1, .slice none 0 0, .slice none 0 0, .slice none 0 0, .slice none 0 0, .bool false, .string (bs [98, 98]), .string (bs [49]), .slice none 0 0, .slice none 0 0, .slice none 0 0, .slice none 0 0, .slice none 0 0, .slice none 0 0, .bool false, .string (bs [99, 99]), .string (bs [49]), .slice none 0 0, .slice none 0 0, .slice none 0 0, .slice none 0 0, .slice none 0 0, .slice none 0 0, .bool false] 26)).alloc (.cells #[.string (bs [97, 97])] 9)) (some ⟨w.heap.size + 2, 0, none⟩) 3 wuL := by
  have hB1 := (((Blk.new w 34 #[.string (bs [98, 98]), .int .i64 0, .string (bs [])]).alloc (.cells #[.slice (some ⟨w.heap.size, 0, none⟩) 1 1] 77)).alloc (.cells #[.string (bs [97, 97]), .string (bs [49]), .slice none 0 0, .slice (some ⟨w.heap.size + 1, 0, none⟩) 1 1, .slice none 0 0, .slice none 0 0, .slice none 0 0, .slice none 0 0, .bool false, .string (bs [98, 98]), .string (bs [49]), .slice none 0 0, .slice none 0 0, .slice none 0 0, .slice none 0 0, .slice none 0 0, .slice none 0 0, .bool false, .string (bs [99, 99]), .string (bs [49]), .slice none 0 0, .slice none 0 0, .slice none 0 0, .slice none 0 0, .slice none 0 0, .slice none 0 0, .bool false] 26)).alloc (.cells #[.string (bs [97, 97])] 9)
  have hB2 := ((blk_new2 w (.cells #[.string (bs [98, 98]), .int .i64 0, .string (bs [])] 34) 77 #[.slice (some ⟨w.heap.size, 0, none⟩) 1 1]).alloc (.cells #[.string (bs [97, 97]), .string (bs [49]), .slice none 0 0, .slice (some ⟨w.heap.size + 1, 0, none⟩) 1 1, .slice none 0 0, .slice none 0 0, .slice none 0 0, .slice none 0 0, .bool false, .string (bs [98, 98]), .string (bs [49]), .slice none 0 0, .slice none 0 0, .slice none 0 0, .slice none 0 0, .slice none 0 0, .slice none 0 0, .bool false, .string (bs [99, 99]), .string (bs [49]), .slice none 0 0, .slice none 0 0, .slice none 0 0, .slice none 0 0, .slice none 0 0, .slice none 0 0, .bool false] 26)).alloc (.cells #[.string (bs [97, 97])] 9)
  have hB3 := (blk_new3 w (.cells #[.string (bs [98, 98]), .int .i64 0, .string (bs [])] 34) (.cells #[.slice (some ⟨w.heap.size, 0, none⟩) 1 1] 77) 26 #[.string (bs [97, 97]), .string (bs [49]), .slice none 0 0, .slice (some ⟨w.heap.size + 1, 0, none⟩) 1 1, .slice none 0 0, .slice none 0 0, .slice none 0 0, .slice none 0 0, .bool false, .string (bs [98, 98]), .string (bs [49]), .slice none 0 0, .slice none 0 0, .slice none 0 0, .slice none 0 0, .slice none 0 0, .slice none 0 0, .bool false, .string (bs [99, 99]), .string (bs [49]), .slice none 0 0, .slice none 0 0, .slice none 0 0, .slice none 0 0, .slice none 0 0, .slice none 0 0, .bool false]).alloc (.cells #[.string (bs [97, 97])] 9)
  generalize ((((w.alloc _).alloc _).alloc _).alloc _) = W at hB1 hB2 hB3 ⊢
  have hA : Atms W (some ⟨w.heap.size, 0, none⟩) 1 [wuT] := slcB [[.string (bs [98, 98]), .int .i64 0, .string (bs [])]] hB1 rfl rfl (fun i cs x h1 h2 => by
    rcases i with _ | i
    · simp at h1 h2
      subst h1 h2
      exact ⟨⟨rfl, shortW (by decide), shortW (by decide)⟩, rfl⟩
    · simp at h1) rfl (by decide) (by decide) (by decide)
  have hC : Clss W (some ⟨w.heap.size + 1, 0, none⟩) 1 [[wuT]] := slcB [[.slice (some ⟨w.heap.size, 0, none⟩) 1 1]] hB2 rfl rfl (fun i cs x h1 h2 => by
    rcases i with _ | i
    · simp at h1 h2
      subst h1 h2
      exact ⟨⟨_, _, rfl, hA⟩, rfl⟩
    · simp at h1) rfl (by decide) (by decide) (by decide)
  exact slcB [encK ⟨none, some ⟨w.heap.size + 1, 0, none⟩, none, none, none, none, 0, 1, 0, 0, 0, 0⟩ wuA, encK wkR wuB, encK wkR wuC] hB3 rfl rfl (fun i cs x h1 h2 => by
    rcases i with _ | _ | _ | i
    · simp [wuL] at h1 h2
      subst h1 h2
      exact ⟨⟨_, rfl, shortW (by decide), shortW (by decide), Slc.nil_ (Nat.zero_le _), hC, Slc.nil_ (Nat.zero_le _), Slc.nil_ (Nat.zero_le _), Slc.nil_ (Nat.zero_le _), Slc.nil_ (Nat.zero_le _)⟩, rfl⟩
    · simp [wuL] at h1 h2
      subst h1 h2
      exact ⟨⟨_, rfl, shortW (by decide), shortW (by decide), Slc.nil_ (Nat.zero_le _), Slc.nil_ (Nat.zero_le _), Slc.nil_ (Nat.zero_le _), Slc.nil_ (Nat.zero_le _), Slc.nil_ (Nat.zero_le _), Slc.nil_ (Nat.zero_le _)⟩, rfl⟩
    · simp [wuL] at h1 h2
      subst h1 h2
      exact ⟨⟨_, rfl, shortW (by decide), shortW (by decide), Slc.nil_ (Nat.zero_le _), Slc.nil_ (Nat.zero_le _), Slc.nil_ (Nat.zero_le _), Slc.nil_ (Nat.zero_le _), Slc.nil_ (Nat.zero_le _), Slc.nil_ (Nat.zero_le _)⟩, rfl⟩
    · simp at h1) rfl (by decide) (by decide) (by decide)
theorem wu_strs (w : World) : Strs ((((w.alloc (.cells #[.string (bs [98, 98]), .int .i64 0, .string (bs [])] 34)).alloc (.cells #[.slice (some ⟨w.heap.size, 0, none⟩) 1 1] 77)).alloc (.cells #[.string (bs [97, 97]), .string (bs [49]), .slice none 0 0, .slice (some ⟨w.heap.size + 1, 0, none⟩) 1 1, .slice none 0 0, .slice none 0 0, .slice none 0 0, .slice none 0 0, .bool false, .string (bs [98, 98]), .string (bs [49]), .slice none 0 0, .slice none 0 0, .slice none 0 0, .slice none 0 0, .slice none 0 0, .slice none 0 0, .bool false, .string (bs [99, 99]), .string (bs [49]), .slice none 0 0, .slice none 0 0, .slice none 0 0, .slice none 0 0, .slice none 0 0, .slice none 0 0, .bool false] 26)).alloc (.cells #[.string (bs [97, 97])] 9)) (some ⟨w.heap.size + 3, 0, none⟩) 1 [[97, 97]] := by
  have hB := blk_new1 (((w.alloc (.cells #[.string (bs [98, 98]), .int .i64 0, .string (bs [])] 34)).alloc (.cells #[.slice (some ⟨w.heap.size, 0, none⟩) 1 1] 77)).alloc (.cells #[.string (bs [97, 97]), .string (bs [49]), .slice none 0 0, .slice (some ⟨w.heap.size + 1, 0, none⟩) 1 1, .slice none 0 0, .slice none 0 0, .slice none 0 0, .slice none 0 0, .bool false, .string (bs [98, 98]), .string (bs [49]), .slice none 0 0, .slice none 0 0, .slice none 0 0, .slice none 0 0, .slice none 0 0, .slice none 0 0, .bool false, .string (bs [99, 99]), .string (bs [49]), .slice none 0 0, .slice none 0 0, .slice none 0 0, .slice none 0 0, .slice none 0 0, .slice none 0 0, .bool false] 26)) 9 #[.string (bs [97, 97])]
  have hsz : (((w.alloc (.cells #[.string (bs [98, 98]), .int .i64 0, .string (bs [])] 34)).alloc (.cells #[.slice (some ⟨w.heap.size, 0, none⟩) 1 1] 77)).alloc (.cells #[.string (bs [97, 97]), .string (bs [49]), .slice none 0 0, .slice (some ⟨w.heap.size + 1, 0, none⟩) 1 1, .slice none 0 0, .slice none 0 0, .slice none 0 0, .slice none 0 0, .bool false, .string (bs [98, 98]), .string (bs [49]), .slice none 0 0, .slice none 0 0, .slice none 0 0, .slice none 0 0, .slice none 0 0, .slice none 0 0, .bool false, .string (bs [99, 99]), .string (bs [49]), .slice none 0 0, .slice none 0 0, .slice none 0 0, .slice none 0 0, .slice none 0 0, .slice none 0 0, .bool false] 26)).heap.size = w.heap.size + 3 := by simp
  rw [hsz] at hB
  exact slcB [[.string (bs [97, 97])]] hB rfl rfl (fun i cs x h1 h2 => by
    rcases i with _ | i
    · simp at h1 h2
      subst h1 h2
      exact ⟨rfl, rfl⟩
    · simp at h1) rfl (by decide) (by decide) (by decide)
set_option maxRecDepth 100000 in
set_option maxHeartbeats 1000000 in
theorem awake12_any (w : World) : Calls Tryz.prog 36 #[] w fun e w' => e = .returned (.bool true) ∧ Below w.heap.size w w' := by
  go_enter Tryz.func36, Tryz.ntmps36
  go_wp2_with fail
  refine (uniOf_any (some ⟨w.heap.size + 2, 0, none⟩) none (some ⟨w.heap.size + 3, 0, none⟩) 3 0 1 wuL [] [[97, 97]] _ (wu_pkgs w) (Slc.nil_ (Nat.zero_le _)) (wu_strs w) wu_few (fun x hx => by cases hx) wu_smP (fun x hx => by cases hx)).mono ?_
  rintro e w1 (⟨_, A, c, rfl, hp, hb⟩ | ⟨h0, _⟩)
  · rw [wu_rch] at hp ⊢
    have HB := Lib.hid (below_next (below_alloc (below_alloc (below_alloc (below_alloc (Below.refl w.heap.size w) (.cells #[.string (bs [98, 98]), .int .i64 0, .string (bs [])] 34)) (.cells #[.slice (some ⟨w.heap.size, 0, none⟩) 1 1] 77)) (.cells #[.string (bs [97, 97]), .string (bs [49]), .slice none 0 0, .slice (some ⟨w.heap.size + 1, 0, none⟩) 1 1, .slice none 0 0, .slice none 0 0, .slice none 0 0, .slice none 0 0, .bool false, .string (bs [98, 98]), .string (bs [49]), .slice none 0 0, .slice none 0 0, .slice none 0 0, .slice none 0 0, .slice none 0 0, .slice none 0 0, .bool false, .string (bs [99, 99]), .string (bs [49]), .slice none 0 0, .slice none 0 0, .slice none 0 0, .slice none 0 0, .slice none 0 0, .slice none 0 0, .bool false] 26)) (.cells #[.string (bs [97, 97])] 9)) hb)
    have hbd := hp.bd
    obtain ⟨q, b, o, r, hq, rfl, hr, e0, _⟩ := hp.at_ (i := 1) (by simp) (Kept.refl _)
    obtain rfl : wuB = q := by simpa using hq
    clear hq hr hp hb
    go_wp2
    go_ret
    exact ⟨rfl, HB.out⟩
  · exact absurd wu_all h0
end Go.Proofs.YtflmocamfedbdaaGreatDoor
