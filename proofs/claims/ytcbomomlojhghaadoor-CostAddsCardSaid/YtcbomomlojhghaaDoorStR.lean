/- The contracts of what finds a name, of both texts; how many are newer. -/
import Derived.Test.YtcbomomlojhghaaDoorStG
import Derived.Test.YtcbomomlojhghaaDoorVerI
namespace Go.Proofs.YtcbomomlojhghaaDoor
set_option linter.unusedSimpArgs false
set_option linter.unusedVariables false
open Go.RowKit

def nameK (n : List UInt8) (p : Pkg) : Bool := p.name == n
def nameE (n : List UInt8) (x : Ent) : Bool := x.pkg.name == n
theorem idx_le {α : Type} (p : α → Bool) (l : List α) : -1 ≤ idxS p l ∧ idxS p l < l.length := by
  unfold idxS
  rcases h : l.findIdx? p with _ | i
  · dsimp only; exact ⟨by omega, by omega⟩
  · rw [List.findIdx?_eq_some_iff_getElem] at h
    obtain ⟨h1, _⟩ := h
    dsimp only
    constructor <;> omega
/-- what state.Find hands back -/
def findV (n : List UInt8) (l : List Ent) : Value := if 0 ≤ idxS (nameE n) l then .tuple #[.int .i64 (idxS (nameE n) l), .bool true] else .tuple #[.int .i64 0, .bool false]
set_option maxRecDepth 100000 in
theorem rfindP_any (A : Option Addr) (c : Nat) (l : List Pkg) (n : List UInt8) (w : World) (hl : Pkgs w A c l) :
    Calls Tryd.prog 10 #[.slice A l.length c, .string (bs n)] w fun e w' => e = .returned (.int .i64 (idxS (nameK n) l)) ∧ Below w.heap.size w w' := by
  have hbd := hl.bd
  have HL := Lib.hid hl
  clear hl
  go_enter Tryd.func10, Tryd.ntmps10
  go_wp2
  go_loopw [9] (fun i wr => ∃ k : Nat, k ≤ l.length ∧ i = .int .i64 k ∧ Below w.heap.size w wr ∧ (l.take k).any (nameK n) = false) (fun i _ => l.length - (intOf i).toNat)
  case atStart => exact ⟨0, Nat.zero_le _, rfl, Below.refl _ _, rfl⟩
  case round =>
    obtain ⟨k, hk, rfl, hb, hn⟩ := hrel
    have HB := Lib.hid hb
    have HN := Lib.hid hn
    clear hb hn
    by_cases hlt : k < l.length
    · obtain ⟨q, b, o, r, hq, rfl, hr, e0, e1, e2, e3, e4, e5, e6, e7, e8⟩ := HL.out.at_ hlt (Kept.of_below HB.out)
      have HQ := Lib.hid hq
      clear hq hr
      go_wp2
      all_goals first
        | (go_ret
           exact ⟨by rw [idx_at HQ.out (by assumption) HN.out]; rfl, by have hb0 := HB.out; (repeat (first | assumption | exact Below.refl _ _ | refine below_next ?_ (by assumption) | refine below_drewN ?_ _ | refine below_alloc ?_ _))⟩)
        | (go_roundw
           case rel => exact ⟨k + 1, by omega, by simp, by have hb0 := HB.out; (repeat (first | assumption | exact Below.refl _ _ | refine below_next ?_ (by assumption) | refine below_drewN ?_ _ | refine below_alloc ?_ _)), any_step HQ.out (by assumption) HN.out⟩
           case measure => (try simp only [intOf]); omega)
    · go_wp2
      go_ret
      exact ⟨by rw [idx_no (any_end hk hlt HN.out)]; rfl, HB.out⟩
set_option maxRecDepth 100000 in
theorem rfind_any (A : Option Addr) (c : Nat) (l : List Ent) (n : List UInt8) (w : World) (hl : Ents w A c l) :
    Calls Tryd.prog 11 #[.slice A l.length c, .string (bs n)] w fun e w' => e = .returned (.int .i64 (idxS (nameE n) l)) ∧ Below w.heap.size w w' := by
  have hbd := hl.bd
  have HL := Lib.hid hl
  clear hl
  go_enter Tryd.func11, Tryd.ntmps11
  go_wp2
  go_loopw [9] (fun i wr => ∃ k : Nat, k ≤ l.length ∧ i = .int .i64 k ∧ Below w.heap.size w wr ∧ (l.take k).any (nameE n) = false) (fun i _ => l.length - (intOf i).toNat)
  case atStart => exact ⟨0, Nat.zero_le _, rfl, Below.refl _ _, rfl⟩
  case round =>
    obtain ⟨k, hk, rfl, hb, hn⟩ := hrel
    have HB := Lib.hid hb
    have HN := Lib.hid hn
    clear hb hn
    by_cases hlt : k < l.length
    · obtain ⟨q, b, o, r, hq, rfl, hr, e0, e1, e2, e3, e4, e5, e6, e7, e8, e9, e10⟩ := HL.out.at_ hlt (Kept.of_below HB.out)
      have HQ := Lib.hid hq
      clear hq hr
      go_wp2
      all_goals first
        | (go_ret
           exact ⟨by rw [idx_at HQ.out (by assumption) HN.out]; rfl, by have hb0 := HB.out; (repeat (first | assumption | exact Below.refl _ _ | refine below_next ?_ (by assumption) | refine below_drewN ?_ _ | refine below_alloc ?_ _))⟩)
        | (go_roundw
           case rel => exact ⟨k + 1, by omega, by simp, by have hb0 := HB.out; (repeat (first | assumption | exact Below.refl _ _ | refine below_next ?_ (by assumption) | refine below_drewN ?_ _ | refine below_alloc ?_ _)), any_step HQ.out (by assumption) HN.out⟩
           case measure => (try simp only [intOf]); omega)
    · go_wp2
      go_ret
      exact ⟨by rw [idx_no (any_end hk hlt HN.out)]; rfl, HB.out⟩
set_option maxRecDepth 100000 in
theorem find_any (A : Option Addr) (c : Nat) (l : List Ent) (n : List UInt8) (w : World) (hl : Ents w A c l) :
    Calls Tryd.prog 33 #[.slice A l.length c, .string (bs n)] w fun e w' => e = .returned (findV n l) ∧ Below w.heap.size w w' := by
  have hbd := hl.bd
  have HL := Lib.hid hl
  clear hl
  go_enter Tryd.func33, Tryd.ntmps33
  go_wp2
  go_loopw [10] (fun i wr => ∃ k : Nat, k ≤ l.length ∧ i = .int .i64 k ∧ Below w.heap.size w wr ∧ (l.take k).any (nameE n) = false) (fun i _ => l.length - (intOf i).toNat)
  case atStart => exact ⟨0, Nat.zero_le _, rfl, Below.refl _ _, rfl⟩
  case round =>
    obtain ⟨k, hk, rfl, hb, hn⟩ := hrel
    have HB := Lib.hid hb
    have HN := Lib.hid hn
    clear hb hn
    by_cases hlt : k < l.length
    · obtain ⟨q, b, o, r, hq, rfl, hr, e0, e1, e2, e3, e4, e5, e6, e7, e8, e9, e10⟩ := HL.out.at_ hlt (Kept.of_below HB.out)
      have HQ := Lib.hid hq
      clear hq hr
      go_wp2
      all_goals first
        | (go_ret2
           exact ⟨by rw [findV, idx_at HQ.out (by assumption) HN.out, if_pos (by omega)]; rfl, by have hb0 := HB.out; (repeat (first | assumption | exact Below.refl _ _ | refine below_next ?_ (by assumption) | refine below_drewN ?_ _ | refine below_alloc ?_ _))⟩)
        | (go_roundw
           case rel => exact ⟨k + 1, by omega, by simp, by have hb0 := HB.out; (repeat (first | assumption | exact Below.refl _ _ | refine below_next ?_ (by assumption) | refine below_drewN ?_ _ | refine below_alloc ?_ _)), any_step HQ.out (by assumption) HN.out⟩
           case measure => (try simp only [intOf]); omega)
    · go_wp2
      go_ret2
      exact ⟨by rw [findV, idx_no (any_end hk hlt HN.out), if_neg (by omega)]; rfl, HB.out⟩
/-- the first package of a name -/
def fndS (n : List UInt8) (l : List Pkg) : Option Pkg := l.find? (nameK n)
theorem fnd_at {n : List UInt8} {l : List Pkg} {k : Nat} {q : Pkg} (hq : l[k]? = some q) (hp : nameK n q = true) (hn : (l.take k).any (nameK n) = false) : fndS n l = some q := by
  obtain ⟨hk, rfl⟩ := List.getElem?_eq_some_iff.1 hq
  unfold fndS
  rw [List.find?_eq_some_iff_getElem]
  refine ⟨hp, k, hk, rfl, fun j hj => ?_⟩
  rw [List.any_eq_false] at hn
  have := hn (l[j]'(by omega)) (List.mem_take_iff_getElem.2 ⟨j, by omega, rfl⟩)
  simpa using this
theorem fnd_no {n : List UInt8} {l : List Pkg} (h : l.any (nameK n) = false) : fndS n l = none := by
  unfold fndS
  rw [List.find?_eq_none]
  intro x hx
  rw [List.any_eq_false] at h
  exact h x hx
/-- a package and whether there is one are returned -/
def RetPkg (w : World) (o : Option Pkg) (e : Ending) (w' : World) : Prop :=
  (match o with
    | some q => ∃ r, RP w r q ∧ e = .returned (.tuple #[(.agg #[.string (bs (q).name), .string (bs (q).ver), .slice (r).a1 (q).pre.length (r).c1, .slice (r).a2 (q).dep.length (r).c2, .slice (r).a3 (q).rcm.length (r).c3, .slice (r).a4 (q).con.length (r).c4, .slice (r).a5 (q).brk.length (r).c5, .slice (r).a6 (q).prv.length (r).c6, .bool (q).ess]), .bool true])
    | none => e = .returned (.tuple #[.agg #[.string (bs []), .string (bs []), .slice none 0 0, .slice none 0 0, .slice none 0 0, .slice none 0 0, .slice none 0 0, .slice none 0 0, .bool false], .bool false])) ∧ Below w.heap.size w w'
theorem RetPkg.some_ {w w' : World} {n : List UInt8} {l : List Pkg} {q : Pkg} {r : Raw} (hf : fndS n l = some q) (hr : RP w r q) (hb : Below w.heap.size w w') : RetPkg w (fndS n l) (.returned (.tuple #[(.agg #[.string (bs (q).name), .string (bs (q).ver), .slice (r).a1 (q).pre.length (r).c1, .slice (r).a2 (q).dep.length (r).c2, .slice (r).a3 (q).rcm.length (r).c3, .slice (r).a4 (q).con.length (r).c4, .slice (r).a5 (q).brk.length (r).c5, .slice (r).a6 (q).prv.length (r).c6, .bool (q).ess]), .bool true])) w' := by
  rw [hf]
  exact ⟨⟨r, hr, rfl⟩, hb⟩
set_option maxRecDepth 100000 in
set_option maxHeartbeats 800000 in
theorem cfind_any (A : Option Addr) (c : Nat) (l : List Pkg) (n : List UInt8) (w : World) (hl : Pkgs w A c l) :
    Calls Tryd.prog 34 #[.slice A l.length c, .string (bs n)] w (RetPkg w (fndS n l)) := by
  have hbd := hl.bd
  have HL := Lib.hid hl
  clear hl
  go_enter Tryd.func34, Tryd.ntmps34
  go_wp2
  go_loopw [10] (fun i wr => ∃ k : Nat, k ≤ l.length ∧ i = .int .i64 k ∧ Below w.heap.size w wr ∧ Blk wr w.heap.size 28 #[.string (bs []), .string (bs []), .slice none 0 0, .slice none 0 0, .slice none 0 0, .slice none 0 0, .slice none 0 0, .slice none 0 0, .bool false] ∧ (l.take k).any (nameK n) = false) (fun i _ => l.length - (intOf i).toNat)
  case atStart => exact ⟨0, Nat.zero_le _, rfl, (Below.refl _ _).alloc (Nat.le_refl _) _, blk_new1 _ _ _, rfl⟩
  case round =>
    obtain ⟨k, hk, rfl, hb, hB, hn⟩ := hrel
    have HB := Lib.hid hb
    have HN := Lib.hid hn
    have HBk := Lib.hid hB
    obtain ⟨c0, c1, c2, c3, c4, c5, c6, c7, c8⟩ := blk9 hB
    have f0 := hB.frozen 0
    have f1 := hB.frozen 1
    have f2 := hB.frozen 2
    have f3 := hB.frozen 3
    have f4 := hB.frozen 4
    have f5 := hB.frozen 5
    have f6 := hB.frozen 6
    have f7 := hB.frozen 7
    have f8 := hB.frozen 8
    have hsz : w.heap.size < wr.heap.size := hB.lt
    clear hb hn hB
    by_cases hlt : k < l.length
    · obtain ⟨q, b, o, r, hq, rfl, hr, e0, e1, e2, e3, e4, e5, e6, e7, e8⟩ := HL.out.at_ hlt (Kept.of_below HB.out)
      have HQ := Lib.hid hq
      have HR := Lib.hid hr
      clear hq hr
      go_wp2
      · have hn : nameK n q = true := by assumption
        have HF := Lib.hid (fnd_at HQ.out hn HN.out)
        refine bodyPost_ret (v := .tuple #[(.agg #[.string (bs (q).name), .string (bs (q).ver), .slice (r).a1 (q).pre.length (r).c1, .slice (r).a2 (q).dep.length (r).c2, .slice (r).a3 (q).rcm.length (r).c3, .slice (r).a4 (q).con.length (r).c4, .slice (r).a5 (q).brk.length (r).c5, .slice (r).a6 (q).prv.length (r).c6, .bool (q).ess]), .bool true]) (by simp [results, Tryd.results34, go_sem, c0, c1, c2, c3, c4, c5, c6, c7, c8, hsz]) rfl ?_
        refine RetPkg.some_ HF.out HR.out ?_
        have hb0 := HB.out
        exact below_alloc (((((((((hb0.setCell (Nat.le_refl _) _).setCell (Nat.le_refl _) _).setCell (Nat.le_refl _) _).setCell (Nat.le_refl _) _).setCell (Nat.le_refl _) _).setCell (Nat.le_refl _) _).setCell (Nat.le_refl _) _).setCell (Nat.le_refl _) _).setCell (Nat.le_refl _) _) _
      · have hn : nameK n q = false := by assumption
        go_roundw
        case rel => exact ⟨k + 1, by omega, by simp, by have hb0 := HB.out; (repeat (first | assumption | exact Below.refl _ _ | refine below_next ?_ (by assumption) | refine below_drewN ?_ _ | refine below_alloc ?_ _)), HBk.out.alloc _, any_step HQ.out hn HN.out⟩
        case measure => (try simp only [intOf]); omega
    · have HF := Lib.hid (fnd_no (any_end hk hlt HN.out))
      go_wp2
      refine bodyPost_ret (v := .tuple #[.agg #[.string (bs []), .string (bs []), .slice none 0 0, .slice none 0 0, .slice none 0 0, .slice none 0 0, .slice none 0 0, .slice none 0 0, .bool false], .bool false]) (by simp [results, Tryd.results34, go_sem, c0, c1, c2, c3, c4, c5, c6, c7, c8, hsz]; rfl) rfl ?_
      rw [HF.out]
      refine ⟨rfl, ?_⟩
      have hb0 := HB.out
      exact (((((((((hb0.setCell (Nat.le_refl _) _).setCell (Nat.le_refl _) _).setCell (Nat.le_refl _) _).setCell (Nat.le_refl _) _).setCell (Nat.le_refl _) _).setCell (Nat.le_refl _) _).setCell (Nat.le_refl _) _).setCell (Nat.le_refl _) _).setCell (Nat.le_refl _) _)
def laterB (p q : Pkg) : Bool := (q.name == p.name) && decide (0 < (cmpV q.ver p.ver).1)
/-- how many packages of its name are later -/
def newerS (p : Pkg) (l : List Pkg) : Nat := l.countP (laterB p)
theorem count_step {α : Type} {p : α → Bool} {l : List α} {k : Nat} {q : α} (hq : l[k]? = some q) : (l.take (k + 1)).countP p = (l.take k).countP p + if p q then 1 else 0 := by
  rw [take_step hq, List.countP_append]
  simp [List.countP_cons]
theorem count_le {α : Type} (p : α → Bool) (l : List α) (k : Nat) : (l.take k).countP p ≤ k := Nat.le_trans List.countP_le_length (by simp; omega)
set_option maxRecDepth 100000 in
theorem newer_any (p : Pkg) (r : Raw) (A : Option Addr) (c : Nat) (l : List Pkg) (w : World) (hl : Pkgs w A c l) :
    Calls Tryd.prog 14 #[(.agg #[.string (bs (p).name), .string (bs (p).ver), .slice (r).a1 (p).pre.length (r).c1, .slice (r).a2 (p).dep.length (r).c2, .slice (r).a3 (p).rcm.length (r).c3, .slice (r).a4 (p).con.length (r).c4, .slice (r).a5 (p).brk.length (r).c5, .slice (r).a6 (p).prv.length (r).c6, .bool (p).ess]), .slice A l.length c] w fun e w' => e = .returned (.int .i64 (newerS p l)) ∧ Below w.heap.size w w' := by
  have hbd := hl.bd
  have HL := Lib.hid hl
  clear hl
  go_enter Tryd.func14, Tryd.ntmps14
  go_wp2
  go_loopw [5, 10] (fun n i wr => ∃ k : Nat, k ≤ l.length ∧ i = .int .i64 k ∧ n = .int .i64 ((l.take k).countP (laterB p) : Nat) ∧ Below w.heap.size w wr ∧ Blk wr w.heap.size 28 #[.string (bs (p).name), .string (bs (p).ver), .slice (r).a1 (p).pre.length (r).c1, .slice (r).a2 (p).dep.length (r).c2, .slice (r).a3 (p).rcm.length (r).c3, .slice (r).a4 (p).con.length (r).c4, .slice (r).a5 (p).brk.length (r).c5, .slice (r).a6 (p).prv.length (r).c6, .bool (p).ess]) (fun _ i _ => l.length - (intOf i).toNat)
  case atStart => exact ⟨0, Nat.zero_le _, rfl, rfl, (Below.refl _ _).alloc (Nat.le_refl _) _, blk_new1 _ _ _⟩
  case round =>
    obtain ⟨k, hk, rfl, rfl, hb, hB⟩ := hrel
    have hcl := count_le (laterB p) l k
    generalize hN : (l.take k).countP (laterB p) = N at hcl ⊢
    have HN := Lib.hid hN
    have HB := Lib.hid hb
    have HBk := Lib.hid hB
    obtain ⟨c0, c1, _⟩ := blk9 hB
    have hsz : w.heap.size < wr.heap.size := hB.lt
    clear hb hN hB
    by_cases hlt : k < l.length
    · obtain ⟨q, b, o, r', hq, rfl, hr, e0, e1, e2, e3, e4, e5, e6, e7, e8⟩ := HL.out.at_ hlt (Kept.of_below HB.out)
      have HQ := Lib.hid hq
      clear hq hr
      go_wp2_with (go_at_call 37; refine (Compare_any _ _ _).mono ?_; rintro e w1 ⟨rfl, hb⟩)
      all_goals
        go_roundw
        case rel =>
          refine ⟨k + 1, by omega, by simp, ?_, by have hb0 := HB.out; (repeat (first | assumption | exact Below.refl _ _ | refine below_next ?_ (by assumption) | refine below_drewN ?_ _ | refine below_alloc ?_ _)), by (first | exact HBk.out | exact (HBk.out).alloc _ | exact ((HBk.out).alloc _).alloc _ | exact (HBk.out).next (by assumption) | exact ((HBk.out).alloc _).next (by assumption) | exact (((HBk.out).alloc _).alloc _).next (by assumption))⟩
          rw [count_step HQ.out, HN.out]
          first
            | (rw [if_pos (by unfold laterB; rw [Bool.and_eq_true]; exact ⟨by first | assumption | (rw [beq_iff_eq]; assumption), by first | assumption | exact decide_eq_true (by assumption)⟩)]; simp)
            | (rw [if_neg (by unfold laterB; rw [show (q.name == p.name) = false from by first | assumption | (rw [beq_eq_false_iff_ne]; assumption)]; simp)]; simp)
            | (rw [if_neg (by unfold laterB; rw [Bool.and_eq_true, decide_eq_true_eq]; omega)]; simp)
        case measure => (try simp only [intOf]); omega
    · rw [take_end hk hlt] at HN
      go_wp2
      go_ret
      exact ⟨by rw [newerS, HN.out]; rfl, HB.out⟩
end Go.Proofs.YtcbomomlojhghaaDoor
