/- The contracts of bare: the packages of entries. The contracts of light. The contract of (*wrong).lacks. Lemmas for the contract of (*wrong).clashes. The contract of (*wrong).clashes, of kind 2. The contract of (*wrong).clashes, of kind 3. The contract of state.Wrong. -/
import Derived.Test.YtaicidbopgnmfaaGreatDoorSta
import Derived.Test.YtaicidbopgnmfaaGreatDoorMk
import Derived.Deep.RegionHeld3
import Derived.Deep.RegionLaw
import Derived.BigRegion
namespace Go.Proofs.YtaicidbopgnmfaaGreatDoor
set_option linter.unusedSimpArgs false
set_option linter.unusedVariables false
open Go.RowKit

/-- a slice of packages is returned -/
def RetPkgs (w : World) (l : List Pkg) (e : Ending) (w' : World) : Prop := ∃ A c, e = .returned (.slice A l.length c) ∧ Pkgs w' A c l ∧ Below w.heap.size w w'
theorem infPkg : (Tryz.prog.info? 43).map (fun i => (i.zero, i.size, i.bytes)) = some (some (.agg #[.string (bs []), .string (bs []), .slice none 0 0, .slice none 0 0, .slice none 0 0, .slice none 0 0, .slice none 0 0, .slice none 0 0, .bool false]), 9, 184) := by kernel_rfl
theorem ret_pkgs {w w' : World} {B k : Nat} {v : Value} {l : List Pkg} (h : Own w' w.heap.size B 9 (RPkg w) v l) (hb : Below w.heap.size w w') (hl : l.length * 184 ≤ 140737488351232) : RetPkgs w l (.returned v) w' := by
  obtain ⟨A, c, rfl, hs⟩ := h.slc hl
  exact ⟨A, c, rfl, Slc.mono hs (Kept.refl _) (fun _ _ h => h.kept (Kept.of_below hb)), hb⟩
set_option maxRecDepth 100000 in
theorem bare17_any (A : Option Addr) (c : Nat) (l : List Ent) (w : World) (hl : Ents w A c l) :
    Calls Tryz.prog 40 #[.slice A l.length c] w (RetPkgs w (l.map Ent.pkg)) := by
  have hbd := hl.bd
  have HL := Lib.hid hl
  clear hl
  go_enter Tryz.func40, Tryz.ntmps40
  go_wp2
  go_loopw [3, 8] (fun v i wr => ∃ k : Nat, k ≤ l.length ∧ i = .int .i64 k ∧ Below w.heap.size w wr ∧ Own wr w.heap.size 43 9 (RPkg w) v ((l.take k).map Ent.pkg)) (fun _ i _ => l.length - (intOf i).toNat)
  case atStart => exact ⟨0, Nat.zero_le _, rfl, Below.refl _ _, Own.nil_ _ _ _ _ _⟩
  case round =>
    obtain ⟨k, hk, rfl, hb, ho⟩ := hrel
    have HB := Lib.hid hb
    have HO := Lib.hid ho
    clear hb ho
    by_cases hlt : k < l.length
    · obtain ⟨q, b, o, r, hq, rfl, hr, e0, e1, e2, e3, e4, e5, e6, e7, e8, e9, e10⟩ := HL.out.at_ hlt (Kept.of_below HB.out)
      have HQ := Lib.hid hq
      have hs : ((l.take k).map Ent.pkg).length = k := by simp; omega
      have HS := Lib.hid hs
      clear hq hs
      go_wp2_with (at_builtin; refine wpList_append_el (by rfl) _ _ 25 (by rfl) w.heap.size 43 _ 9 184 Tryz.underlying25 infPkg rfl (by omega) (RPkg w) _ _ (by rfl) ((HO.out.alloc _).alloc _) q.pkg (encK r q.pkg) (wr.heap.size + 1) 1 (by rfl) (blk_new2 _ _ _ _) ⟨r, rfl, hr⟩ rfl (encK_one _ _) (by rw [HS.out]; omega) (by omega) (by simp; have := HB.out.size; omega) ?_; intro g cap w1 ho1 hg1)
      have HB1 : Below w.heap.size w w1 := ((HO.out.alloc _).alloc _).below (by have hb0 := HB.out; (repeat (first | assumption | exact Below.refl _ _ | refine below_next ?_ (by assumption) | refine below_drewN ?_ _ | refine below_alloc ?_ _))) (by simp; have := HB.out.size; omega) hg1
      go_roundw
      case rel => exact ⟨k + 1, by omega, by simp, HB1, by rw [take_step HQ.out, List.map_append]; rw [HS.out] at ho1; exact ho1⟩
      case measure => (try simp only [intOf]); omega
    · go_wp2
      go_ret
      have ho := HO.out
      rw [take_end hk hlt] at ho
      exact ret_pkgs (k := 0) ho HB.out (by simp; omega)
set_option maxRecDepth 100000 in
theorem bare22_any (A : Option Addr) (c : Nat) (l : List Ent) (w : World) (hl : Ents w A c l) :
    Calls Tryz.prog 16 #[.slice A l.length c] w (RetPkgs w (l.map Ent.pkg)) := by
  have hbd := hl.bd
  have HL := Lib.hid hl
  clear hl
  go_enter Tryz.func16, Tryz.ntmps16
  go_wp2
  go_loopw [3, 8] (fun v i wr => ∃ k : Nat, k ≤ l.length ∧ i = .int .i64 k ∧ Below w.heap.size w wr ∧ Own wr w.heap.size 43 9 (RPkg w) v ((l.take k).map Ent.pkg)) (fun _ i _ => l.length - (intOf i).toNat)
  case atStart => exact ⟨0, Nat.zero_le _, rfl, Below.refl _ _, Own.nil_ _ _ _ _ _⟩
  case round =>
    obtain ⟨k, hk, rfl, hb, ho⟩ := hrel
    have HB := Lib.hid hb
    have HO := Lib.hid ho
    clear hb ho
    by_cases hlt : k < l.length
    · obtain ⟨q, b, o, r, hq, rfl, hr, e0, e1, e2, e3, e4, e5, e6, e7, e8, e9, e10⟩ := HL.out.at_ hlt (Kept.of_below HB.out)
      have HQ := Lib.hid hq
      have hs : ((l.take k).map Ent.pkg).length = k := by simp; omega
      have HS := Lib.hid hs
      clear hq hs
      go_wp2_with (at_builtin; refine wpList_append_el (by rfl) _ _ 25 (by rfl) w.heap.size 43 _ 9 184 Tryz.underlying25 infPkg rfl (by omega) (RPkg w) _ _ (by rfl) ((HO.out.alloc _).alloc _) q.pkg (encK r q.pkg) (wr.heap.size + 1) 1 (by rfl) (blk_new2 _ _ _ _) ⟨r, rfl, hr⟩ rfl (encK_one _ _) (by rw [HS.out]; omega) (by omega) (by simp; have := HB.out.size; omega) ?_; intro g cap w1 ho1 hg1)
      have HB1 : Below w.heap.size w w1 := ((HO.out.alloc _).alloc _).below (by have hb0 := HB.out; (repeat (first | assumption | exact Below.refl _ _ | refine below_next ?_ (by assumption) | refine below_drewN ?_ _ | refine below_alloc ?_ _))) (by simp; have := HB.out.size; omega) hg1
      go_roundw
      case rel => exact ⟨k + 1, by omega, by simp, HB1, by rw [take_step HQ.out, List.map_append]; rw [HS.out] at ho1; exact ho1⟩
      case measure => (try simp only [intOf]); omega
    · go_wp2
      go_ret
      have ho := HO.out
      rw [take_end hk hlt] at ho
      exact ret_pkgs (k := 0) ho HB.out (by simp; omega)
end Go.Proofs.YtaicidbopgnmfaaGreatDoor
namespace Go.Proofs.YtaicidbopgnmfaaGreatDoor
set_option linter.unusedSimpArgs false
set_option linter.unusedVariables false
open Go.RowKit

theorem lgt_fail1 {N K C : Nat} {p : Pkg} (h : N < p.con.length + p.brk.length + p.prv.length) : lgtP N K C p = false := by
  simp [lgtP]; omega
theorem lgt_list {N K C : Nat} {p : Pkg} {X : List (List Atm)} (hX : X = p.pre ∨ X = p.dep ∨ X = p.rcm) (h : lgtC K C X = false) : lgtP N K C p = false := by
  rcases hX with rfl | rfl | rfl <;> simp [lgtP, h]
theorem light_fail {N K C : Nat} {l : List Pkg} {k : Nat} {q : Pkg} (hq : l[k]? = some q) (h : lgtP N K C q = false) : lightS N K C l = false := by
  simp [lightS, all_no hq h]
theorem light_long {N K C : Nat} {l : List Pkg} (h : 26 < l.length) : lightS N K C l = false := by
  simp [lightS]; omega
theorem lgt_long {K C : Nat} {X : List (List Atm)} (h : K < X.length) : lgtC K C X = false := by
  simp [lgtC]; omega
theorem lgt_clause {K C : Nat} {X : List (List Atm)} {j : Nat} {x : List Atm} (hx : X[j]? = some x) (h : C < x.length) : lgtC K C X = false := by
  have := all_no (p := fun c => decide (c.length ≤ C)) hx (by simp; omega)
  simp only [lgtC, this, Bool.and_false]
end Go.Proofs.YtaicidbopgnmfaaGreatDoor
namespace Go.Proofs.YtaicidbopgnmfaaGreatDoor
set_option linter.unusedSimpArgs false
set_option linter.unusedVariables false
open Go.RowKit

theorem infVio : (Tryz.prog.info? 83).map (fun i => (i.zero, i.size, i.bytes)) = some (some (.agg #[.int .i64 0, .string (bs []), .bool false, .int .i64 0, .string (bs [])]), 5, 56) := by kernel_rfl
/-- all element types but those of violations and of the gatherer -/
def TW (t : Nat) : Prop := t ≠ 83 ∧ t ≠ 133
/-- what the gatherer holds -/
def Gat (w0 : World) (gw : Nat) (Al : Option Addr) (nl cl : Nat) (Aon : Option Addr) (non con : Nat) (res : List Vio) (w : World) : Prop :=
  ∃ Ao co, Blk w gw 133 #[.slice Al nl cl, .slice Aon non con, .slice Ao res.length co] ∧ Own w w0.heap.size 83 5 RVio (.slice Ao res.length co) res ∧ Below w0.heap.size w0 w
theorem Gat.next {w0 w w' : World} {gw : Nat} {Al : Option Addr} {nl cl : Nat} {Aon : Option Addr} {non con : Nat} {res : List Vio} (h : Gat w0 gw Al nl cl Aon non con res w) (hb : Below w.heap.size w w') : Gat w0 gw Al nl cl Aon non con res w' := by
  obtain ⟨Ao, co, h1, h2, h3⟩ := h
  exact ⟨Ao, co, h1.next hb, h2.next hb, below_next h3 hb⟩
theorem Gat.alloc {w0 w : World} {gw : Nat} {Al : Option Addr} {nl cl : Nat} {Aon : Option Addr} {non con : Nat} {res : List Vio} (h : Gat w0 gw Al nl cl Aon non con res w) (o : Obj) : Gat w0 gw Al nl cl Aon non con res (w.alloc o) := by
  obtain ⟨Ao, co, h1, h2, h3⟩ := h
  exact ⟨Ao, co, h1.alloc o, h2.alloc o, below_alloc h3 o⟩
/-- one violation more: the append, and the store into the gatherer -/
theorem Gat.put {w0 w w1 : World} {gw : Nat} {Al : Option Addr} {nl cl : Nat} {Aon : Option Addr} {non con : Nat} {res : List Vio} {x : Vio} {Ao : Option Addr} {co : Nat} {o : Obj} {g cap : Nat}
    (hB : Blk w gw 133 #[.slice Al nl cl, .slice Aon non con, .slice Ao res.length co]) (ho : Own w w0.heap.size 83 5 RVio (.slice Ao res.length co) res) (hb : Below w0.heap.size w0 w) (hgw : w0.heap.size ≤ gw)
    (h1 : Own w1 w0.heap.size 83 5 RVio (.slice (some ⟨g, 0, none⟩) (res.length + 1) cap) (res ++ [x])) (hg : (w.alloc o).grownBy w1 (Value.slice Ao res.length co).ownBlock) :
    Gat w0 gw Al nl cl Aon non con (res ++ [x]) (w1.setCell ⟨gw, 2, none⟩ (.slice (some ⟨g, 0, none⟩) (res.length + 1) cap)) ∧ KeepB TW w (w1.setCell ⟨gw, 2, none⟩ (.slice (some ⟨g, 0, none⟩) (res.length + 1) cap)) ∧ Blk w1 gw 133 #[.slice Al nl cl, .slice Aon non con, .slice Ao res.length co] := by
  have hB1 : Blk w1 gw 133 #[.slice Al nl cl, .slice Aon non con, .slice Ao res.length co] := (ho.alloc o).blk (hB.alloc o) (by decide) hg
  refine ⟨⟨some ⟨g, 0, none⟩, cap, ?_, ?_, ?_⟩, ?_, hB1⟩
  · have := hB1.set_ 2 (.slice (some ⟨g, 0, none⟩) (res.length + 1) cap)
    simpa using this
  · have := h1.setCell (p := ⟨gw, 2, none⟩) (fun cur hc => by
      unfold Blk at hB1
      rw [hB1] at hc
      injection hc with hc
      injection hc with _ ht
      exact absurd ht (by decide)) (.slice (some ⟨g, 0, none⟩) (res.length + 1) cap)
    simpa using this
  · exact ((ho.alloc o).below (below_alloc hb o) (by have := hb.size; simp; omega) hg).setCell hgw _
  · exact ((KeepB.alloc o).trans ((ho.alloc o).keep hg (fun h => h.1 rfl))).trans (KeepB.setCell (p := ⟨gw, 2, none⟩) (show w1.heap[gw]? = some (.cells _ _ (0, 0)) from hB1) (fun h => h.2 rfl) _)
def GatPost (w0 w : World) (gw : Nat) (Al : Option Addr) (nl cl : Nat) (Aon : Option Addr) (non con : Nat) (res : List Vio) (e : Ending) (w' : World) : Prop :=
  e = .returned (.tuple #[]) ∧ Gat w0 gw Al nl cl Aon non con res w' ∧ KeepB TW w w'
theorem lacks_take {name : List UInt8} {pre : Bool} {on : List Pkg} {cs : List (List Atm)} {k : Nat} {x : List Atm} (hx : cs[k]? = some x) :
    lacksS name pre on (cs.take (k + 1)) = lacksS name pre on (cs.take k) ++ if metS x on then [] else [⟨1, name, pre, k, []⟩] := flat_step _ hx
theorem flat_len {β γ : Type} {f : β → List γ} (h : ∀ x, (f x).length ≤ 1) : ∀ l : List β, (l.flatMap f).length ≤ l.length
  | [] => by simp
  | x :: l => by
    have := flat_len h l
    have := h x
    simp only [List.flatMap_cons, List.length_append, List.length_cons]
    omega
theorem lacks_len (name : List UInt8) (pre : Bool) (on : List Pkg) (cs : List (List Atm)) : (lacksS name pre on cs).length ≤ cs.length := by
  have := flat_len (f := fun x : List Atm × Nat => if metS x.1 on then [] else [(⟨1, name, pre, x.2, []⟩ : Vio)]) (fun x => by split <;> simp) cs.zipIdx
  simpa [lacksS] using this
set_option maxRecDepth 100000 in
set_option maxHeartbeats 400000 in
theorem lacks_any (w0 w : World) (gw : Nat) (Al : Option Addr) (nl cl : Nat) (Aon : Option Addr) (con : Nat) (on : List Pkg) (res : List Vio) (A : Option Addr) (c : Nat) (cs : List (List Atm)) (name : List UInt8) (pre : Bool)
    (hG : Gat w0 gw Al nl cl Aon on.length con res w) (hgw : w0.heap.size ≤ gw) (hon : Own w w0.heap.size 43 9 (RPkg w0) (.slice Aon on.length con) on) (hc : Clss w0 A c cs)
    (hn1 : on.length * 184 ≤ 140737488351232) (hn2 : (res.length + cs.length) * 56 ≤ 140737488351232) :
    Calls Tryz.prog 109 #[.pointer (some ⟨gw, 0, none⟩), .string (bs name), .slice A cs.length c, .bool pre] w
      (GatPost w0 w gw Al nl cl Aon on.length con (res ++ lacksS name pre on cs)) := by
  have hbd := hc.bd
  have HC := Lib.hid hc
  have HON := Lib.hid hon
  have HG0 := Lib.hid hG
  clear hc hon hG
  go_enter Tryz.func109, Tryz.ntmps109
  go_wp2
  go_loopw [12] (fun i wr => ∃ k : Nat, k ≤ cs.length ∧ i = .int .i64 k ∧ Gat w0 gw Al nl cl Aon on.length con (res ++ lacksS name pre on (cs.take k)) wr ∧ KeepB TW w wr) (fun i _ => cs.length - (intOf i).toNat)
  case atStart => exact ⟨0, Nat.zero_le _, rfl, by simpa [lacksS] using HG0.out, KeepB.refl _ _⟩
  case round =>
    obtain ⟨k, hk, rfl, hg, hkp⟩ := hrel
    have HK := Lib.hid hkp
    clear hkp
    by_cases hlt : k < cs.length
    · have HLn := Lib.hid (lacks_len name pre on (cs.take k))
      generalize hR : res ++ lacksS name pre on (cs.take k) = R at hg
      have hRl : R.length ≤ res.length + k := by
        rw [← hR, List.length_append]
        have := HLn.out
        simp at this
        omega
      have HR := Lib.hid hR
      clear hR
      obtain ⟨Ao, co, hB, ho, hb⟩ := hg
      have HB := Lib.hid hB
      have HO := Lib.hid ho
      have HBw := Lib.hid hb
      obtain ⟨x0, x1, x2⟩ := blk3 hB
      clear hB ho hb
      obtain ⟨q, b, o, A', c', hq, rfl, hA, d0⟩ := HC.out.at_ hlt (Kept.of_below HBw.out)
      have HQ := Lib.hid hq
      clear hq
      have hP : Pkgs wr Aon con on := by
        obtain ⟨A2, c2, he, hs⟩ := (HK.out.own HON.out ⟨by decide, by decide⟩).slc hn1
        injection he with e1 e2 e3
        subst e1 e3
        exact Slc.mono hs (Kept.refl _) fun _ _ h => h.kept (Kept.of_below HBw.out)
      have HP := Lib.hid hP
      clear hP
      go_wp2_with (first | (go_at_call 150; refine (met_any _ _ _ _ q on _ (hA.kept (Kept.of_below HBw.out)) HP.out).mono ?_; rintro e w1 ⟨rfl, hb⟩; have kB := HB.out.next hb; obtain ⟨y0, y1, y2⟩ := blk3 kB; have kO := HO.out.next hb; have kB0 := below_next HBw.out hb; have hsz : gw < w1.heap.size := kB.lt) | (at_builtin; refine wpList_append_el (by rfl) _ _ 37 (by rfl) w0.heap.size 83 _ 5 56 Tryz.underlying37 infVio rfl (by omega) RVio _ R (by rfl) (kO.alloc _) ⟨1, name, pre, k, []⟩ [.int .i64 1, .string (bs name), .bool pre, .int .i64 k, .string (bs [])] w1.heap.size 1 (by rfl) (blk_new1 _ _ _) rfl rfl (by simp [Value.oneCell']) (by omega) (by omega) (by simp; have := kB0.size; omega) ?_; intro g cap w2 ho2 hg2; obtain ⟨p1, p2, p3⟩ := Gat.put kB kO kB0 hgw ho2 hg2; obtain ⟨z0, z1, z2⟩ := blk3 p3; have zf := p3.frozen 2))
      · have hm : metS q on = false := by simpa using (by assumption : (!metS q on) = true)
        go_roundw
        case rel =>
          refine ⟨k + 1, by omega, by simp, ?_, (HK.out.trans (KeepB.of_below hb)).trans p2⟩
          rw [lacks_take HQ.out, hm, ← List.append_assoc, HR.out]
          simpa using p1
        case measure => (try simp only [intOf]); omega
      · have hm : metS q on = true := by simpa using (by assumption : (!metS q on) = false)
        go_roundw
        case rel =>
          refine ⟨k + 1, by omega, by simp, ?_, HK.out.trans (KeepB.of_below hb)⟩
          rw [lacks_take HQ.out, hm, ← List.append_assoc, HR.out]
          exact ⟨Ao, co, by simpa using kB, by simpa using kO, kB0⟩
        case measure => (try simp only [intOf]); omega
    · go_wp2
      go_end0
      rw [take_end hk hlt] at hg
      exact ⟨rfl, hg, HK.out⟩
end Go.Proofs.YtaicidbopgnmfaaGreatDoor
namespace Go.Proofs.YtaicidbopgnmfaaGreatDoor
set_option linter.unusedSimpArgs false
set_option linter.unusedVariables false
open Go.RowKit

theorem clash_take {l : List Ent} {at_ : Nat} {kind : Int} {name : List UInt8} {ats : List Atm} {k : Nat} {a : Atm} (ha : ats[k]? = some a) :
    clashS l at_ kind name (ats.take (k + 1)) = clashS l at_ kind name (ats.take k) ++ clash1 l at_ kind name k a := flat_step _ ha
def clashT (l : List Ent) (at_ : Nat) (kind : Int) (name : List UInt8) (i : Nat) (a : Atm) (j : Nat) : List Vio := (l.take j).zipIdx.flatMap fun x => if decide (x.2 ≠ at_) && (decide (kind = 2) || x.1.conf) && satS x.1.pkg a then [⟨kind, name, false, i, x.1.pkg.name⟩] else []
theorem clashT_step {l : List Ent} {at_ : Nat} {kind : Int} {name : List UInt8} {i : Nat} {a : Atm} {j : Nat} {x : Ent} (hx : l[j]? = some x) :
    clashT l at_ kind name i a (j + 1) = clashT l at_ kind name i a j ++ if decide (j ≠ at_) && (decide (kind = 2) || x.conf) && satS x.pkg a then [⟨kind, name, false, i, x.pkg.name⟩] else [] := flat_step _ hx
theorem clashT_len (l : List Ent) (at_ : Nat) (kind : Int) (name : List UInt8) (i : Nat) (a : Atm) (j : Nat) : (clashT l at_ kind name i a j).length ≤ j := by
  have := flat_len (f := fun x : Ent × Nat => if decide (x.2 ≠ at_) && (decide (kind = 2) || x.1.conf) && satS x.1.pkg a then [(⟨kind, name, false, i, x.1.pkg.name⟩ : Vio)] else []) (fun x => by split <;> simp) (l.take j).zipIdx
  have h2 : (l.take j).zipIdx.length ≤ j := by simp; omega
  exact Nat.le_trans this h2
theorem clashT_end {l : List Ent} {at_ : Nat} {kind : Int} {name : List UInt8} {i : Nat} {a : Atm} {j : Nat} (h : l.length ≤ j) : clashT l at_ kind name i a j = clash1 l at_ kind name i a := by
  unfold clashT clash1
  rw [List.take_of_length_le h]
theorem clashS_len (l : List Ent) (at_ : Nat) (kind : Int) (name : List UInt8) (ats : List Atm) (k : Nat) (hk : k ≤ ats.length) : (clashS l at_ kind name (ats.take k)).length ≤ k * l.length := by
  induction k with
  | zero => simp [clashS]
  | succ k ih =>
    have h1 := ih (by omega)
    have h2 := clashT_len l at_ kind name k ats[k] l.length
    rw [clashT_end (Nat.le_refl _)] at h2
    rw [clash_take (List.getElem?_eq_getElem (by omega : k < ats.length)), List.length_append, Nat.succ_mul]
    omega
end Go.Proofs.YtaicidbopgnmfaaGreatDoor
namespace Go.Proofs.YtaicidbopgnmfaaGreatDoor
set_option linter.unusedSimpArgs false
set_option linter.unusedVariables false
open Go.RowKit

set_option maxRecDepth 100000 in
set_option maxHeartbeats 6000000 in
theorem clashes2_any (w0 w : World) (gw : Nat) (Al : Option Addr) (cl : Nat) (l : List Ent) (Aon : Option Addr) (non con : Nat) (res : List Vio) (A : Option Addr) (c : Nat) (ats : List Atm) (at_ : Nat) (xe : Ent)
    (hat : l[at_]? = some xe) (hG : Gat w0 gw Al l.length cl Aon non con res w) (hgw : w0.heap.size ≤ gw) (hl : Ents w0 Al cl l) (hc : Atms w0 A c ats)
    (hn2 : (res.length + ats.length * l.length) * 56 ≤ 140737488351232) :
    Calls Tryz.prog 110 #[.pointer (some ⟨gw, 0, none⟩), .int .i64 at_, .int .i64 2, .slice A ats.length c] w
      (GatPost w0 w gw Al l.length cl Aon non con (res ++ clashS l at_ 2 xe.pkg.name ats)) := by
  have hbd := hc.bd
  have hbd2 := hl.bd
  have hatl : at_ < l.length := (List.getElem?_eq_some_iff.1 hat).1
  have HAT := Lib.hid hat
  have HC := Lib.hid hc
  have HL := Lib.hid hl
  have HG0 := Lib.hid hG
  clear hc hl hG hat
  go_enter Tryz.func110, Tryz.ntmps110
  go_wp2
  go_loopw [14] (fun i wr => ∃ k : Nat, k ≤ ats.length ∧ i = .int .i64 k ∧ Gat w0 gw Al l.length cl Aon non con (res ++ clashS l at_ 2 xe.pkg.name (ats.take k)) wr ∧ KeepB TW w wr) (fun i _ => ats.length - (intOf i).toNat)
  case atStart => exact ⟨0, Nat.zero_le _, rfl, by simpa [clashS] using HG0.out, KeepB.refl _ _⟩
  case round =>
    obtain ⟨k, hk, rfl, hg, hkp⟩ := hrel
    obtain ⟨wo, rfl⟩ : ∃ wo : World, wo = wr := ⟨_, rfl⟩
    have HK := Lib.hid hkp
    clear hkp
    by_cases hlt : k < ats.length
    · have HLn := Lib.hid (clashS_len l at_ 2 xe.pkg.name ats k hk)
      generalize hR : res ++ clashS l at_ 2 xe.pkg.name (ats.take k) = R at hg
      have hRl : R.length + l.length ≤ res.length + ats.length * l.length := by
        rw [← hR, List.length_append]
        have h1 := HLn.out
        have h2 : (k + 1) * l.length ≤ ats.length * l.length := Nat.mul_le_mul_right _ hlt
        rw [Nat.succ_mul] at h2
        omega
      have HR := Lib.hid hR
      have HG := Lib.hid hg
      obtain ⟨Ao, co, hB, ho, hb⟩ := hg
      have HBw := Lib.hid hb
      have HBo := Lib.hid hB
      obtain ⟨x0, x1, x2⟩ := blk3 hB
      have hsz : gw < wo.heap.size := hB.lt
      clear hB ho hb hR
      obtain ⟨q, b, o, hq, rfl, hok, d0, d1, d2⟩ := HC.out.at_ hlt (Kept.of_below HBw.out)
      have HQ := Lib.hid hq
      clear hq
      go_wp2
      go_loopw [24] (fun i wr => ∃ j : Nat, j ≤ l.length ∧ i = .int .i64 j ∧ Gat w0 gw Al l.length cl Aon non con (R ++ clashT l at_ 2 xe.pkg.name k q j) wr ∧ Blk wr wo.heap.size 72 #[.string (bs (q).name), .int .i64 (q).rel, .string (bs (q).ver)] ∧ KeepB TW wo wr) (fun i _ => l.length - (intOf i).toNat)
      case atStart => exact ⟨0, Nat.zero_le _, rfl, by simpa [clashT] using HG.out.alloc _, blk_new1 _ _ _, KeepB.alloc _⟩
      case round =>
        obtain ⟨j, hj, rfl, hg, hA, hkp⟩ := hrel
        have HK2 := Lib.hid hkp
        have HA2 := Lib.hid hA
        obtain ⟨a0, a1, a2⟩ := blk3 hA
        have hsza : wo.heap.size < wr.heap.size := hA.lt
        clear hkp hA d0 d1 d2 x0 x1 x2
        by_cases hlt2 : j < l.length
        · have HLn2 := Lib.hid (clashT_len l at_ 2 xe.pkg.name k q j)
          generalize hS : R ++ clashT l at_ 2 xe.pkg.name k q j = S at hg
          have hSl : S.length ≤ R.length + j := by
            rw [← hS, List.length_append]
            have := HLn2.out
            omega
          have HS := Lib.hid hS
          obtain ⟨Ao, co, hB, ho, hb⟩ := hg
          have HB := Lib.hid hB
          have HO := Lib.hid ho
          have HBw2 := Lib.hid hb
          obtain ⟨x0, x1, x2⟩ := blk3 hB
          have hsz2 : gw < wr.heap.size := hB.lt
          clear hB ho hb hS
          obtain ⟨x, b2, o2, r, hx, rfl, hr, e0, e1, e2, e3, e4, e5, e6, e7, e8, e9, e10⟩ := HL.out.at_ hlt2 (Kept.of_below HBw2.out)
          have HX := Lib.hid hx
          have HRP := Lib.hid (fun ob : Obj => hr.kept ((Kept.of_below HBw2.out).trans (Kept.alloc _ ob)))
          clear hx hr
          by_cases hja : j = at_
          · subst hja
            go_wp2
            go_roundw
            case rel =>
              refine ⟨j + 1, by omega, by simp, ?_, by (first | exact HA2.out | exact (HA2.out).alloc _ | exact ((HA2.out).alloc _).alloc _ | exact (HA2.out).next (by assumption) | exact ((HA2.out).alloc _).next (by assumption) | exact (((HA2.out).alloc _).alloc _).next (by assumption)), HK2.out.trans (KeepB.alloc _)⟩
              rw [clashT_step HX.out, ← List.append_assoc, HS.out]
              simpa using Gat.alloc (cl := cl) ⟨Ao, co, HB.out, HO.out, HBw2.out⟩ _
            case measure => (try simp only [intOf]); omega
          · have hjb : ((j : Int) != (at_ : Int)) = true := by rw [bne_iff_ne]; omega
            go_wp2_with (go_at_call 151; refine (sat_any x.pkg r q _ (HRP.out _) hok).mono ?_; rintro e w1 ⟨rfl, hb⟩)
            all_goals first
              | (go_roundw
                 case rel =>
                   refine ⟨j + 1, by omega, by simp, ?_, by (first | exact HA2.out | exact (HA2.out).alloc _ | exact ((HA2.out).alloc _).alloc _ | exact (HA2.out).next (by assumption) | exact ((HA2.out).alloc _).next (by assumption) | exact (((HA2.out).alloc _).alloc _).next (by assumption)), HK2.out.trans (by first | exact KeepB.alloc _ | exact (KeepB.alloc _).trans (KeepB.of_below hb))⟩
                   rw [clashT_step HX.out, ← List.append_assoc, HS.out]
                   have hd : (decide (j ≠ at_) && (decide ((2 : Int) = 2) || x.conf) && satS x.pkg q) = false := by simp; grind
                   rw [hd]
                   first
                     | simpa using Gat.alloc (cl := cl) ⟨Ao, co, HB.out, HO.out, HBw2.out⟩ _
                     | simpa using (Gat.alloc (cl := cl) ⟨Ao, co, HB.out, HO.out, HBw2.out⟩ _).next hb
                 case measure => (try simp only [intOf]); omega)
              | skip
            all_goals
              have kB := (HB.out.alloc _).next hb
              have kO := (HO.out.alloc _).next hb
              have kB0 := below_next (below_alloc HBw2.out _) hb
              obtain ⟨y0, y1, y2⟩ := blk3 kB
              have kf := kB.frozen 2
              have hsz3 : gw < w1.heap.size := kB.lt
              have KB := Lib.hid kB
              have KO := Lib.hid kO
              obtain ⟨xe', b3, o3, r3, hx3, hA3, _, g0, _⟩ := HL.out.at_ hatl (Kept.of_below kB0)
              obtain rfl : xe' = xe := Option.some.inj (hx3.symm.trans HAT.out)
              injection hA3 with hA3
              injection hA3 with hA3 hA4
              subst hA3 hA4
              clear hx3 kB kO
              have kX := (blk_new1 wr 45 _).next hb
              have z0 := kX.cell 0
              simp only [List.getElem?_toArray, List.getElem?_cons_zero] at z0
              have hb2l : b2 < w0.heap.size := by
                obtain ⟨_, b4, o4, _, _, hA5, _, g4, _⟩ := HL.out.at_ hatl (Kept.refl _)
                injection hA5 with hA5
                injection hA5 with hA5 hA6
                subst hA5
                exact block_lt_of_cell g4
              have g1 : w0.cell? ⟨b2, o2 + at_ * 11, none⟩ = some (.string (bs xe'.pkg.name)) := by
                have := kB0.cell (p := ⟨b2, o2 + at_ * 11, none⟩) hb2l
                rw [← this]; exact g0
              have hi0 : (0 : Int) ≤ (at_ : Int) := Int.natCast_nonneg _
              have hi1 : (at_ : Int) < (l.length : Int) := by omega
              clear e0 e1 e2 e3 e4 e5 e6 e7 e8 e9 e10 a0 a1 a2 x0 x1 x2 hjb y1
              go_region_law
                ((refine step_append_el (by rfl) _ _ 37 (by rfl) w0.heap.size 83 _ 5 56 Tryz.underlying37 infVio rfl (by omega) RVio _ S (by rfl) (KO.out.alloc _).drew ⟨2, xe'.pkg.name, false, k, x.pkg.name⟩ [.int .i64 2, .string (bs xe'.pkg.name), .bool false, .int .i64 k, .string (bs x.pkg.name)] w1.heap.size 1 (by rfl) (blk_new1 _ _ _) rfl rfl (by simp [Value.oneCell']) (by omega) (by omega) (by simp; have := kB0.size; omega) ?_; intro g cap w2 ho2 hg2; have kW2 := ((KO.out.alloc _).drew).blk (g := gw) (KB.out.alloc _) (by decide) hg2; have kX2 := ((KO.out.alloc _).drew).blk (g := wr.heap.size) (kX.alloc _) (by decide) hg2; obtain ⟨q0, q1, q2⟩ := blk3 kW2; have qf := kW2.frozen 2; have q5 := kX2.cell 0; simp only [List.getElem?_toArray, List.getElem?_cons_zero] at q5; have kB2 := ((KO.out.alloc _).drew).below (below_alloc kB0 _).drew (by simp; have := kB0.size; omega) hg2; have q4 := Kept.of_below kB2 ⟨b2, o2 + at_ * 11, none⟩ (.string (bs xe'.pkg.name)) g1))
            all_goals
              go_wp2
              have hd : (decide (j ≠ at_) && (decide ((2 : Int) = 2) || x.conf) && satS x.pkg q) = true := by simp; grind
              obtain ⟨p1, p2, p3⟩ := Gat.put (x := ⟨2, xe'.pkg.name, false, k, x.pkg.name⟩) KB.out KO.out kB0 hgw ho2 (grown_undrew hg2)
              go_roundw
              case rel =>
                refine ⟨j + 1, by omega, by simp, ?_, p2.blk (by first | exact (HA2.out.alloc _).next hb) ⟨by decide, by decide⟩, ((HK2.out.trans (KeepB.alloc _)).trans (KeepB.of_below hb)).trans p2⟩
                rw [clashT_step HX.out, ← List.append_assoc, HS.out, hd]
                simpa using p1
              case measure => (try simp only [intOf]); omega
        · go_wp2
          go_roundw
          case rel =>
            refine ⟨k + 1, by omega, by simp, ?_, HK.out.trans HK2.out⟩
            rw [clash_take HQ.out, ← List.append_assoc, HR.out, ← clashT_end (j := j) (by omega)]
            exact hg
          case measure => (try simp only [intOf]); omega
    · go_wp2
      go_end0
      rw [take_end hk hlt] at hg
      exact ⟨rfl, hg, HK.out⟩
end Go.Proofs.YtaicidbopgnmfaaGreatDoor
namespace Go.Proofs.YtaicidbopgnmfaaGreatDoor
set_option linter.unusedSimpArgs false
set_option linter.unusedVariables false
open Go.RowKit

set_option maxRecDepth 100000 in
set_option maxHeartbeats 6000000 in
theorem clashes3_any (w0 w : World) (gw : Nat) (Al : Option Addr) (cl : Nat) (l : List Ent) (Aon : Option Addr) (non con : Nat) (res : List Vio) (A : Option Addr) (c : Nat) (ats : List Atm) (at_ : Nat) (xe : Ent)
    (hat : l[at_]? = some xe) (hG : Gat w0 gw Al l.length cl Aon non con res w) (hgw : w0.heap.size ≤ gw) (hl : Ents w0 Al cl l) (hc : Atms w0 A c ats)
    (hn2 : (res.length + ats.length * l.length) * 56 ≤ 140737488351232) :
    Calls Tryz.prog 110 #[.pointer (some ⟨gw, 0, none⟩), .int .i64 at_, .int .i64 3, .slice A ats.length c] w
      (GatPost w0 w gw Al l.length cl Aon non con (res ++ clashS l at_ 3 xe.pkg.name ats)) := by
  have hbd := hc.bd
  have hbd2 := hl.bd
  have hatl : at_ < l.length := (List.getElem?_eq_some_iff.1 hat).1
  have HAT := Lib.hid hat
  have HC := Lib.hid hc
  have HL := Lib.hid hl
  have HG0 := Lib.hid hG
  clear hc hl hG hat
  go_enter Tryz.func110, Tryz.ntmps110
  go_wp2
  go_loopw [14] (fun i wr => ∃ k : Nat, k ≤ ats.length ∧ i = .int .i64 k ∧ Gat w0 gw Al l.length cl Aon non con (res ++ clashS l at_ 3 xe.pkg.name (ats.take k)) wr ∧ KeepB TW w wr) (fun i _ => ats.length - (intOf i).toNat)
  case atStart => exact ⟨0, Nat.zero_le _, rfl, by simpa [clashS] using HG0.out, KeepB.refl _ _⟩
  case round =>
    obtain ⟨k, hk, rfl, hg, hkp⟩ := hrel
    obtain ⟨wo, rfl⟩ : ∃ wo : World, wo = wr := ⟨_, rfl⟩
    have HK := Lib.hid hkp
    clear hkp
    by_cases hlt : k < ats.length
    · have HLn := Lib.hid (clashS_len l at_ 3 xe.pkg.name ats k hk)
      generalize hR : res ++ clashS l at_ 3 xe.pkg.name (ats.take k) = R at hg
      have hRl : R.length + l.length ≤ res.length + ats.length * l.length := by
        rw [← hR, List.length_append]
        have h1 := HLn.out
        have h2 : (k + 1) * l.length ≤ ats.length * l.length := Nat.mul_le_mul_right _ hlt
        rw [Nat.succ_mul] at h2
        omega
      have HR := Lib.hid hR
      have HG := Lib.hid hg
      obtain ⟨Ao, co, hB, ho, hb⟩ := hg
      have HBw := Lib.hid hb
      have HBo := Lib.hid hB
      obtain ⟨x0, x1, x2⟩ := blk3 hB
      have hsz : gw < wo.heap.size := hB.lt
      clear hB ho hb hR
      obtain ⟨q, b, o, hq, rfl, hok, d0, d1, d2⟩ := HC.out.at_ hlt (Kept.of_below HBw.out)
      have HQ := Lib.hid hq
      clear hq
      go_wp2
      go_loopw [24] (fun i wr => ∃ j : Nat, j ≤ l.length ∧ i = .int .i64 j ∧ Gat w0 gw Al l.length cl Aon non con (R ++ clashT l at_ 3 xe.pkg.name k q j) wr ∧ Blk wr wo.heap.size 72 #[.string (bs (q).name), .int .i64 (q).rel, .string (bs (q).ver)] ∧ KeepB TW wo wr) (fun i _ => l.length - (intOf i).toNat)
      case atStart => exact ⟨0, Nat.zero_le _, rfl, by simpa [clashT] using HG.out.alloc _, blk_new1 _ _ _, KeepB.alloc _⟩
      case round =>
        obtain ⟨j, hj, rfl, hg, hA, hkp⟩ := hrel
        have HK2 := Lib.hid hkp
        have HA2 := Lib.hid hA
        obtain ⟨a0, a1, a2⟩ := blk3 hA
        have hsza : wo.heap.size < wr.heap.size := hA.lt
        clear hkp hA d0 d1 d2 x0 x1 x2
        by_cases hlt2 : j < l.length
        · have HLn2 := Lib.hid (clashT_len l at_ 3 xe.pkg.name k q j)
          generalize hS : R ++ clashT l at_ 3 xe.pkg.name k q j = S at hg
          have hSl : S.length ≤ R.length + j := by
            rw [← hS, List.length_append]
            have := HLn2.out
            omega
          have HS := Lib.hid hS
          obtain ⟨Ao, co, hB, ho, hb⟩ := hg
          have HB := Lib.hid hB
          have HO := Lib.hid ho
          have HBw2 := Lib.hid hb
          obtain ⟨x0, x1, x2⟩ := blk3 hB
          have hsz2 : gw < wr.heap.size := hB.lt
          clear hB ho hb hS
          obtain ⟨x, b2, o2, r, hx, rfl, hr, e0, e1, e2, e3, e4, e5, e6, e7, e8, e9, e10⟩ := HL.out.at_ hlt2 (Kept.of_below HBw2.out)
          have HX := Lib.hid hx
          have HRP := Lib.hid (fun ob : Obj => hr.kept ((Kept.of_below HBw2.out).trans (Kept.alloc _ ob)))
          clear hx hr
          by_cases hja : j = at_
          · subst hja
            go_wp2
            go_roundw
            case rel =>
              refine ⟨j + 1, by omega, by simp, ?_, by (first | exact HA2.out | exact (HA2.out).alloc _ | exact ((HA2.out).alloc _).alloc _ | exact (HA2.out).next (by assumption) | exact ((HA2.out).alloc _).next (by assumption) | exact (((HA2.out).alloc _).alloc _).next (by assumption)), HK2.out.trans (KeepB.alloc _)⟩
              rw [clashT_step HX.out, ← List.append_assoc, HS.out]
              simpa using Gat.alloc (cl := cl) ⟨Ao, co, HB.out, HO.out, HBw2.out⟩ _
            case measure => (try simp only [intOf]); omega
          · have hjb : ((j : Int) != (at_ : Int)) = true := by rw [bne_iff_ne]; omega
            go_wp2_with (go_at_call 151; refine (sat_any x.pkg r q _ (HRP.out _) hok).mono ?_; rintro e w1 ⟨rfl, hb⟩)
            all_goals first
              | (go_roundw
                 case rel =>
                   refine ⟨j + 1, by omega, by simp, ?_, by (first | exact HA2.out | exact (HA2.out).alloc _ | exact ((HA2.out).alloc _).alloc _ | exact (HA2.out).next (by assumption) | exact ((HA2.out).alloc _).next (by assumption) | exact (((HA2.out).alloc _).alloc _).next (by assumption)), HK2.out.trans (by first | exact KeepB.alloc _ | exact (KeepB.alloc _).trans (KeepB.of_below hb))⟩
                   rw [clashT_step HX.out, ← List.append_assoc, HS.out]
                   have hd : (decide (j ≠ at_) && (decide ((3 : Int) = 2) || x.conf) && satS x.pkg q) = false := by simp; grind
                   rw [hd]
                   first
                     | simpa using Gat.alloc (cl := cl) ⟨Ao, co, HB.out, HO.out, HBw2.out⟩ _
                     | simpa using (Gat.alloc (cl := cl) ⟨Ao, co, HB.out, HO.out, HBw2.out⟩ _).next hb
                 case measure => (try simp only [intOf]); omega)
              | skip
            all_goals
              have kB := (HB.out.alloc _).next hb
              have kO := (HO.out.alloc _).next hb
              have kB0 := below_next (below_alloc HBw2.out _) hb
              obtain ⟨y0, y1, y2⟩ := blk3 kB
              have kf := kB.frozen 2
              have hsz3 : gw < w1.heap.size := kB.lt
              have KB := Lib.hid kB
              have KO := Lib.hid kO
              obtain ⟨xe', b3, o3, r3, hx3, hA3, _, g0, _⟩ := HL.out.at_ hatl (Kept.of_below kB0)
              obtain rfl : xe' = xe := Option.some.inj (hx3.symm.trans HAT.out)
              injection hA3 with hA3
              injection hA3 with hA3 hA4
              subst hA3 hA4
              clear hx3 kB kO
              have kX := (blk_new1 wr 45 _).next hb
              have z0 := kX.cell 0
              simp only [List.getElem?_toArray, List.getElem?_cons_zero] at z0
              have hb2l : b2 < w0.heap.size := by
                obtain ⟨_, b4, o4, _, _, hA5, _, g4, _⟩ := HL.out.at_ hatl (Kept.refl _)
                injection hA5 with hA5
                injection hA5 with hA5 hA6
                subst hA5
                exact block_lt_of_cell g4
              have g1 : w0.cell? ⟨b2, o2 + at_ * 11, none⟩ = some (.string (bs xe'.pkg.name)) := by
                have := kB0.cell (p := ⟨b2, o2 + at_ * 11, none⟩) hb2l
                rw [← this]; exact g0
              have hi0 : (0 : Int) ≤ (at_ : Int) := Int.natCast_nonneg _
              have hi1 : (at_ : Int) < (l.length : Int) := by omega
              clear e0 e1 e2 e3 e4 e5 e6 e7 e8 e9 e10 a0 a1 a2 x0 x1 x2 hjb y1
              go_region_law
                ((refine step_append_el (by rfl) _ _ 37 (by rfl) w0.heap.size 83 _ 5 56 Tryz.underlying37 infVio rfl (by omega) RVio _ S (by rfl) (KO.out.alloc _).drew ⟨3, xe'.pkg.name, false, k, x.pkg.name⟩ [.int .i64 3, .string (bs xe'.pkg.name), .bool false, .int .i64 k, .string (bs x.pkg.name)] w1.heap.size 1 (by rfl) (blk_new1 _ _ _) rfl rfl (by simp [Value.oneCell']) (by omega) (by omega) (by simp; have := kB0.size; omega) ?_; intro g cap w2 ho2 hg2; have kW2 := ((KO.out.alloc _).drew).blk (g := gw) (KB.out.alloc _) (by decide) hg2; have kX2 := ((KO.out.alloc _).drew).blk (g := wr.heap.size) (kX.alloc _) (by decide) hg2; obtain ⟨q0, q1, q2⟩ := blk3 kW2; have qf := kW2.frozen 2; have q5 := kX2.cell 0; simp only [List.getElem?_toArray, List.getElem?_cons_zero] at q5; have kB2 := ((KO.out.alloc _).drew).below (below_alloc kB0 _).drew (by simp; have := kB0.size; omega) hg2; have q4 := Kept.of_below kB2 ⟨b2, o2 + at_ * 11, none⟩ (.string (bs xe'.pkg.name)) g1))
            all_goals
              go_wp2
              have hd : (decide (j ≠ at_) && (decide ((3 : Int) = 2) || x.conf) && satS x.pkg q) = true := by simp; grind
              obtain ⟨p1, p2, p3⟩ := Gat.put (x := ⟨3, xe'.pkg.name, false, k, x.pkg.name⟩) KB.out KO.out kB0 hgw ho2 (grown_undrew hg2)
              go_roundw
              case rel =>
                refine ⟨j + 1, by omega, by simp, ?_, p2.blk (by first | exact (HA2.out.alloc _).next hb) ⟨by decide, by decide⟩, ((HK2.out.trans (KeepB.alloc _)).trans (KeepB.of_below hb)).trans p2⟩
                rw [clashT_step HX.out, ← List.append_assoc, HS.out, hd]
                simpa using p1
              case measure => (try simp only [intOf]); omega
        · go_wp2
          go_roundw
          case rel =>
            refine ⟨k + 1, by omega, by simp, ?_, HK.out.trans HK2.out⟩
            rw [clash_take HQ.out, ← List.append_assoc, HR.out, ← clashT_end (j := j) (by omega)]
            exact hg
          case measure => (try simp only [intOf]); omega
    · go_wp2
      go_end0
      rw [take_end hk hlt] at hg
      exact ⟨rfl, hg, HK.out⟩
end Go.Proofs.YtaicidbopgnmfaaGreatDoor
namespace Go.Proofs.YtaicidbopgnmfaaGreatDoor
set_option linter.unusedSimpArgs false
set_option linter.unusedVariables false
open Go.RowKit

/-- so few that all that is wrong fits -/
def fewE (l : List Ent) : Prop := l.length ≤ 1000 ∧ ∀ x ∈ l, x.pkg.pre.length + x.pkg.dep.length ≤ 1000000 ∧ x.pkg.con.length + x.pkg.brk.length ≤ 1000000
theorem clash_len (l : List Ent) (at_ : Nat) (kind : Int) (name : List UInt8) (ats : List Atm) : (clashS l at_ kind name ats).length ≤ ats.length * l.length := by
  have := clashS_len l at_ kind name ats ats.length (Nat.le_refl _)
  rwa [List.take_length] at this
theorem wrong1_len {l : List Ent} (h : fewE l) {i : Nat} {x : Ent} (hx : x ∈ l) : (wrong1 l i x).length ≤ 1001000000 := by
  obtain ⟨h1, h2⟩ := h
  obtain ⟨h3, h4⟩ := h2 x hx
  have a1 := lacks_len x.pkg.name true (onS l) x.pkg.pre
  have a2 := lacks_len x.pkg.name false (onS l) x.pkg.dep
  have a3 := clash_len l i 2 x.pkg.name x.pkg.con
  have a4 := clash_len l i 3 x.pkg.name x.pkg.brk
  have a5 : x.pkg.con.length * l.length + x.pkg.brk.length * l.length ≤ 1000000 * 1000 := by
    rw [← Nat.add_mul]
    exact Nat.mul_le_mul h4 h1
  unfold wrong1
  simp only [List.length_append]
  have a6 : (if x.conf then lacksS x.pkg.name false (onS l) x.pkg.dep else []).length ≤ x.pkg.dep.length := by
    split
    · exact a2
    · simp
  omega
def wrongT (l : List Ent) (k : Nat) : List Vio := (l.take k).zipIdx.flatMap fun x => wrong1 l x.2 x.1
theorem wrongT_step {l : List Ent} {k : Nat} {x : Ent} (hx : l[k]? = some x) : wrongT l (k + 1) = wrongT l k ++ wrong1 l k x := flat_step _ hx
theorem wrongT_end {l : List Ent} {k : Nat} (h : l.length ≤ k) : wrongT l k = wrongS l := by
  unfold wrongT wrongS
  rw [List.take_of_length_le h]
theorem wrongT_len {l : List Ent} (h : fewE l) (k : Nat) (hk : k ≤ l.length) : (wrongT l k).length ≤ k * 1001000000 := by
  induction k with
  | zero => simp [wrongT]
  | succ k ih =>
    have h1 := ih (by omega)
    have hx : l[k]? = some (l[k]'(by omega)) := List.getElem?_eq_getElem (by omega)
    have h2 := wrong1_len h (i := k) (List.mem_of_getElem? hx)
    rw [wrongT_step hx, List.length_append]
    omega
theorem onS_step {l : List Ent} {k : Nat} {x : Ent} (hx : l[k]? = some x) : onS (l.take (k + 1)) = onS (l.take k) ++ if x.conf then [x.pkg] else [] := by
  unfold onS
  rw [take_step hx, List.filter_append, List.map_append]
  cases hc : x.conf <;> simp [hc]
theorem onS_len (l : List Ent) (k : Nat) : (onS (l.take k)).length ≤ k := by
  unfold onS
  rw [List.length_map]
  exact Nat.le_trans (List.length_filter_le _ _) (by simp; omega)
/-- a slice of violations is returned -/
def RetVios (w : World) (l : List Vio) (e : Ending) (w' : World) : Prop := ∃ A c, e = .returned (.slice A l.length c) ∧ Vios w' A c l ∧ Below w.heap.size w w'
/-- the gatherer while it takes in what is configured -/
def GatOn (w : World) (A : Option Addr) (n c : Nat) (on : List Pkg) (wr : World) : Prop :=
  ∃ Aon con, Blk wr w.heap.size 133 #[.slice A n c, .slice Aon on.length con, .slice none 0 0] ∧ Own wr w.heap.size 43 9 (RPkg w) (.slice Aon on.length con) on ∧ Below w.heap.size w wr
theorem GatOn.put {w w1 w2 : World} {A : Option Addr} {n c : Nat} {on : List Pkg} {Aon : Option Addr} {con : Nat} {o o' : Obj} {g cap : Nat} {p : Pkg}
    (hB : Blk w1 w.heap.size 133 #[.slice A n c, .slice Aon on.length con, .slice none 0 0]) (ho : Own w1 w.heap.size 43 9 (RPkg w) (.slice Aon on.length con) on) (hb : Below w.heap.size w w1)
    (h2 : Own w2 w.heap.size 43 9 (RPkg w) (.slice (some ⟨g, 0, none⟩) (on.length + 1) cap) (on ++ [p])) (hg : ((w1.alloc o).alloc o').grownBy w2 (Value.slice Aon on.length con).ownBlock) :
    GatOn w A n c (on ++ [p]) (w2.setCell ⟨w.heap.size, 1, none⟩ (.slice (some ⟨g, 0, none⟩) (on.length + 1) cap)) ∧ Blk w2 w.heap.size 133 #[.slice A n c, .slice Aon on.length con, .slice none 0 0] := by
  have hB2 : Blk w2 w.heap.size 133 #[.slice A n c, .slice Aon on.length con, .slice none 0 0] := ((ho.alloc o).alloc o').blk ((hB.alloc o).alloc o') (by decide) hg
  refine ⟨⟨some ⟨g, 0, none⟩, cap, ?_, ?_, ?_⟩, hB2⟩
  · have := hB2.set_ 1 (.slice (some ⟨g, 0, none⟩) (on.length + 1) cap)
    simpa using this
  · have := h2.setCell (p := ⟨w.heap.size, 1, none⟩) (fun cur hc => by
      unfold Blk at hB2
      rw [hB2] at hc
      injection hc with hc
      injection hc with _ ht
      exact absurd ht (by decide)) (.slice (some ⟨g, 0, none⟩) (on.length + 1) cap)
    simpa using this
  · exact (((ho.alloc o).alloc o').below (below_alloc (below_alloc hb o) o') (by have := hb.size; simp; omega) hg).setCell (Nat.le_refl _) _
set_option maxRecDepth 100000 in
set_option maxHeartbeats 1600000 in
theorem wrong_any (A : Option Addr) (c : Nat) (l : List Ent) (w : World) (hl : Ents w A c l) (hf : fewE l) :
    Calls Tryz.prog 59 #[.slice A l.length c] w (RetVios w (wrongS l)) := by
  have hbd := hl.bd
  have hfl := hf.1
  have HF := Lib.hid hf
  have HL := Lib.hid hl
  clear hl hf
  go_enter Tryz.func59, Tryz.ntmps59
  go_wp2
  go_loopw [13] (fun i wr => ∃ k : Nat, k ≤ l.length ∧ i = .int .i64 k ∧ GatOn w A l.length c (onS (l.take k)) wr) (fun i _ => l.length - (intOf i).toNat)
  case atStart => exact ⟨0, Nat.zero_le _, rfl, none, 0, blk_new1 _ _ _, Own.nil_ _ _ _ _ _, (Below.refl _ _).alloc (Nat.le_refl _) _⟩
  case round =>
    obtain ⟨k, hk, rfl, hg⟩ := hrel
    by_cases hlt : k < l.length
    · obtain ⟨Aon, con, hB, ho, hb⟩ := hg
      have hon := onS_len l k
      generalize hR : onS (l.take k) = R at hB ho hon
      have HR := Lib.hid hR
      have HB := Lib.hid hB
      have HO := Lib.hid ho
      have HBw := Lib.hid hb
      obtain ⟨x0, x1, x2⟩ := blk3 hB
      have hsz : w.heap.size < wr.heap.size := hB.lt
      clear hB ho hb hR
      obtain ⟨q, b, o, r, hq, rfl, hr, e0, e1, e2, e3, e4, e5, e6, e7, e8, e9, e10⟩ := HL.out.at_ hlt (Kept.of_below HBw.out)
      have HQ := Lib.hid hq
      clear hq
      rcases hcf : q.conf
      · rw [hcf] at e9
        have HCF := Lib.hid hcf
        clear hcf
        go_wp2
        go_roundw
        case rel => exact ⟨k + 1, by omega, by simp, by
          rw [onS_step HQ.out, HCF.out, HR.out]
          simp only [Bool.false_eq_true, if_false, List.append_nil]
          exact ⟨Aon, con, HB.out.alloc _, HO.out.alloc _, below_alloc HBw.out _⟩⟩
        case measure => (try simp only [intOf]); omega
      · rw [hcf] at e9
        have HCF := Lib.hid hcf
        clear hcf
        go_wp2
        go_region_law
          ((refine step_append_el (by rfl) _ _ 25 (by rfl) w.heap.size 43 _ 9 184 Tryz.underlying25 infPkg rfl (by omega) (RPkg w) _ R (by rfl) ((HO.out.alloc _).alloc _).drew q.pkg (encK r q.pkg) (wr.heap.size + 1) 1 (by rfl) (blk_new2 _ _ _ _) ⟨r, rfl, hr⟩ rfl (encK_one _ _) (by omega) (by omega) (by simp; have := HBw.out.size; omega) ?_; intro g cap w2 ho2 hg2; have hg3 := grown_undrew hg2; obtain ⟨p1, p2⟩ := GatOn.put HB.out HO.out HBw.out ho2 hg3; obtain ⟨y0, y1, y2⟩ := blk3 p2; have yf := p2.frozen 1))
        all_goals
          go_wp2
          go_roundw
          case rel => exact ⟨k + 1, by omega, by simp, by
            rw [onS_step HQ.out, HCF.out, HR.out]
            simp only [if_true]
            simpa using p1⟩
          case measure => (try simp only [intOf]); omega
    · rw [take_end hk hlt] at hg
      obtain ⟨Aon, con, hB, ho, hb⟩ := hg
      have hon := onS_len l l.length
      rw [List.take_length] at hon
      have HB := Lib.hid (show Gat w w.heap.size A l.length c Aon (onS l).length con (wrongT l 0) wr from ⟨none, 0, by simpa [wrongT] using hB, by simpa [wrongT] using Own.nil_ wr w.heap.size 83 5 RVio, hb⟩)
      have HO := Lib.hid ho
      clear hB ho hb
      obtain ⟨wx, rfl⟩ : ∃ wx : World, wx = wr := ⟨_, rfl⟩
      go_wp2
      go_loopw [33] (fun i wr => ∃ k : Nat, k ≤ l.length ∧ i = .int .i64 k ∧ Gat w w.heap.size A l.length c Aon (onS l).length con (wrongT l k) wr ∧ Own wr w.heap.size 43 9 (RPkg w) (.slice Aon (onS l).length con) (onS l)) (fun i _ => l.length - (intOf i).toNat)
      case atStart => exact ⟨0, Nat.zero_le _, rfl, HB.out, HO.out⟩
      case round =>
        obtain ⟨k, hk, rfl, hg, ho⟩ := hrel
        by_cases hlt : k < l.length
        · have hgb := hg
          obtain ⟨_, _, _, _, hbw⟩ := hgb
          obtain ⟨q, b, o, r, hq, rfl, hr, e0, e1, e2, e3, e4, e5, e6, e7, e8, e9, e10⟩ := HL.out.at_ hlt (Kept.of_below hbw)
          have hw := wrongT_len HF.out k hk
          have hws := wrongT_step hq
          have hqm := (HF.out.2 q (List.mem_of_getElem? hq))
          obtain ⟨hq1, hq2⟩ := hqm
          have hc1 : q.pkg.con.length * l.length ≤ 1000000 * 1000 := Nat.mul_le_mul (by omega) hfl
          have hc2 : q.pkg.brk.length * l.length ≤ 1000000 * 1000 := Nat.mul_le_mul (by omega) hfl
          have l1 := lacks_len q.pkg.name true (onS l) q.pkg.pre
          have l2 := lacks_len q.pkg.name false (onS l) q.pkg.dep
          have l3 := clash_len l k 2 q.pkg.name q.pkg.con
          have l4 := clash_len l k 3 q.pkg.name q.pkg.brk
          have HQ := Lib.hid hq
          have HWS := Lib.hid hws
          have HBw := Lib.hid hbw
          generalize hT : wrongT l k = T at hg hw
          have HT := Lib.hid hT
          clear hq hws hbw hT
          rcases hcf : q.conf
          · rw [hcf] at e9
            have HCF := Lib.hid hcf
            have G0 := Lib.hid (hg.alloc (.cells #[.string (bs (q).pkg.name), .string (bs (q).pkg.ver), .slice (r).a1 (q).pkg.pre.length (r).c1, .slice (r).a2 (q).pkg.dep.length (r).c2, .slice (r).a3 (q).pkg.rcm.length (r).c3, .slice (r).a4 (q).pkg.con.length (r).c4, .slice (r).a5 (q).pkg.brk.length (r).c5, .slice (r).a6 (q).pkg.prv.length (r).c6, .bool (q).pkg.ess, .bool false, .bool (q).hold] 45))
            have O0 := Lib.hid (ho.alloc (.cells #[.string (bs (q).pkg.name), .string (bs (q).pkg.ver), .slice (r).a1 (q).pkg.pre.length (r).c1, .slice (r).a2 (q).pkg.dep.length (r).c2, .slice (r).a3 (q).pkg.rcm.length (r).c3, .slice (r).a4 (q).pkg.con.length (r).c4, .slice (r).a5 (q).pkg.brk.length (r).c5, .slice (r).a6 (q).pkg.prv.length (r).c6, .bool (q).pkg.ess, .bool false, .bool (q).hold] 45))
            have X0 := Lib.hid (blk_new1 wr 45 #[.string (bs (q).pkg.name), .string (bs (q).pkg.ver), .slice (r).a1 (q).pkg.pre.length (r).c1, .slice (r).a2 (q).pkg.dep.length (r).c2, .slice (r).a3 (q).pkg.rcm.length (r).c3, .slice (r).a4 (q).pkg.con.length (r).c4, .slice (r).a5 (q).pkg.brk.length (r).c5, .slice (r).a6 (q).pkg.prv.length (r).c6, .bool (q).pkg.ess, .bool false, .bool (q).hold])
            clear hg ho hcf
            go_wp2_with fail
            refine (lacks_any w _ w.heap.size _ l.length c Aon con (onS l) _ _ _ q.pkg.pre q.pkg.name true G0.out (Nat.le_refl _) O0.out hr.pre (by omega) (by (try simp only [List.length_append]); omega)).mono ?_
            rintro e w1 ⟨rfl, hg, hk'⟩
            have G1 := Lib.hid hg
            have O1 := Lib.hid (hk'.own O0.out ⟨by decide, by decide⟩)
            have X1 := Lib.hid (hk'.blk X0.out ⟨by decide, by decide⟩)
            obtain ⟨c0, c1, c2, c3, c4, c5, c6, c7, c8, c9, c10⟩ := blk11 X1.out
            clear hg hk'
            go_wp2_with fail
            refine (clashes2_any w _ w.heap.size _ c l Aon (onS l).length con _ _ _ q.pkg.con k q HQ.out G1.out (Nat.le_refl _) HL.out hr.con (by (try simp only [List.length_append]); omega)).mono ?_
            rintro e w2 ⟨rfl, hg, hk'⟩
            have G2 := Lib.hid hg
            have O2 := Lib.hid (hk'.own O1.out ⟨by decide, by decide⟩)
            have X2 := Lib.hid (hk'.blk X1.out ⟨by decide, by decide⟩)
            obtain ⟨c0, c1, c2, c3, c4, c5, c6, c7, c8, c9, c10⟩ := blk11 X2.out
            clear hg hk'
            go_wp2_with fail
            refine (clashes3_any w _ w.heap.size _ c l Aon (onS l).length con _ _ _ q.pkg.brk k q HQ.out G2.out (Nat.le_refl _) HL.out hr.brk (by (try simp only [List.length_append]); omega)).mono ?_
            rintro e w3 ⟨rfl, hg, hk'⟩
            have G3 := Lib.hid hg
            have O3 := Lib.hid (hk'.own O2.out ⟨by decide, by decide⟩)
            have X3 := Lib.hid (hk'.blk X2.out ⟨by decide, by decide⟩)
            obtain ⟨c0, c1, c2, c3, c4, c5, c6, c7, c8, c9, c10⟩ := blk11 X3.out
            clear hg hk'
            go_wp2
            go_roundw
            case rel =>
              refine ⟨k + 1, by omega, by simp, ?_, O3.out⟩
              rw [HWS.out, HT.out]
              have hg := G3.out
              simp only [List.append_assoc] at hg
              simpa [wrong1, HCF.out] using hg
            case measure => (try simp only [intOf]); omega
          · rw [hcf] at e9
            have HCF := Lib.hid hcf
            have G0 := Lib.hid (hg.alloc (.cells #[.string (bs (q).pkg.name), .string (bs (q).pkg.ver), .slice (r).a1 (q).pkg.pre.length (r).c1, .slice (r).a2 (q).pkg.dep.length (r).c2, .slice (r).a3 (q).pkg.rcm.length (r).c3, .slice (r).a4 (q).pkg.con.length (r).c4, .slice (r).a5 (q).pkg.brk.length (r).c5, .slice (r).a6 (q).pkg.prv.length (r).c6, .bool (q).pkg.ess, .bool true, .bool (q).hold] 45))
            have O0 := Lib.hid (ho.alloc (.cells #[.string (bs (q).pkg.name), .string (bs (q).pkg.ver), .slice (r).a1 (q).pkg.pre.length (r).c1, .slice (r).a2 (q).pkg.dep.length (r).c2, .slice (r).a3 (q).pkg.rcm.length (r).c3, .slice (r).a4 (q).pkg.con.length (r).c4, .slice (r).a5 (q).pkg.brk.length (r).c5, .slice (r).a6 (q).pkg.prv.length (r).c6, .bool (q).pkg.ess, .bool true, .bool (q).hold] 45))
            have X0 := Lib.hid (blk_new1 wr 45 #[.string (bs (q).pkg.name), .string (bs (q).pkg.ver), .slice (r).a1 (q).pkg.pre.length (r).c1, .slice (r).a2 (q).pkg.dep.length (r).c2, .slice (r).a3 (q).pkg.rcm.length (r).c3, .slice (r).a4 (q).pkg.con.length (r).c4, .slice (r).a5 (q).pkg.brk.length (r).c5, .slice (r).a6 (q).pkg.prv.length (r).c6, .bool (q).pkg.ess, .bool true, .bool (q).hold])
            clear hg ho hcf
            go_wp2_with fail
            refine (lacks_any w _ w.heap.size _ l.length c Aon con (onS l) _ _ _ q.pkg.pre q.pkg.name true G0.out (Nat.le_refl _) O0.out hr.pre (by omega) (by (try simp only [List.length_append]); omega)).mono ?_
            rintro e w1 ⟨rfl, hg, hk'⟩
            have G1 := Lib.hid hg
            have O1 := Lib.hid (hk'.own O0.out ⟨by decide, by decide⟩)
            have X1 := Lib.hid (hk'.blk X0.out ⟨by decide, by decide⟩)
            obtain ⟨c0, c1, c2, c3, c4, c5, c6, c7, c8, c9, c10⟩ := blk11 X1.out
            clear hg hk'
            go_wp2_with fail
            refine (lacks_any w _ w.heap.size _ l.length c Aon con (onS l) _ _ _ q.pkg.dep q.pkg.name false G1.out (Nat.le_refl _) O1.out hr.dep (by omega) (by (try simp only [List.length_append]); omega)).mono ?_
            rintro e w2 ⟨rfl, hg, hk'⟩
            have G2 := Lib.hid hg
            have O2 := Lib.hid (hk'.own O1.out ⟨by decide, by decide⟩)
            have X2 := Lib.hid (hk'.blk X1.out ⟨by decide, by decide⟩)
            obtain ⟨c0, c1, c2, c3, c4, c5, c6, c7, c8, c9, c10⟩ := blk11 X2.out
            clear hg hk'
            go_wp2_with fail
            refine (clashes2_any w _ w.heap.size _ c l Aon (onS l).length con _ _ _ q.pkg.con k q HQ.out G2.out (Nat.le_refl _) HL.out hr.con (by (try simp only [List.length_append]); omega)).mono ?_
            rintro e w3 ⟨rfl, hg, hk'⟩
            have G3 := Lib.hid hg
            have O3 := Lib.hid (hk'.own O2.out ⟨by decide, by decide⟩)
            have X3 := Lib.hid (hk'.blk X2.out ⟨by decide, by decide⟩)
            obtain ⟨c0, c1, c2, c3, c4, c5, c6, c7, c8, c9, c10⟩ := blk11 X3.out
            clear hg hk'
            go_wp2_with fail
            refine (clashes3_any w _ w.heap.size _ c l Aon (onS l).length con _ _ _ q.pkg.brk k q HQ.out G3.out (Nat.le_refl _) HL.out hr.brk (by (try simp only [List.length_append]); omega)).mono ?_
            rintro e w4 ⟨rfl, hg, hk'⟩
            have G4 := Lib.hid hg
            have O4 := Lib.hid (hk'.own O3.out ⟨by decide, by decide⟩)
            have X4 := Lib.hid (hk'.blk X3.out ⟨by decide, by decide⟩)
            obtain ⟨c0, c1, c2, c3, c4, c5, c6, c7, c8, c9, c10⟩ := blk11 X4.out
            clear hg hk'
            go_wp2
            go_roundw
            case rel =>
              refine ⟨k + 1, by omega, by simp, ?_, O4.out⟩
              rw [HWS.out, HT.out]
              have hg := G4.out
              simp only [List.append_assoc] at hg
              simpa [wrong1, HCF.out] using hg
            case measure => (try simp only [intOf]); omega
        · obtain ⟨Ao, co, hB, ho2, hb⟩ := hg
          obtain ⟨x0, x1, x2⟩ := blk3 hB
          have hend := wrongT_end (l := l) (k := k) (by omega)
          have hlen := wrongT_len HF.out k hk
          rw [hend] at ho2 hlen
          generalize hT : (wrongT l k).length = n at x2
          have hn : n = (wrongS l).length := by rw [← hT, hend]
          have HN := Lib.hid hn
          have HB := Lib.hid hb
          have HO := Lib.hid ho2
          clear hT hn hB ho2 hb hend x0 x1
          go_wp2
          go_ret
          obtain ⟨A2, c2, he, hs⟩ := HO.out.slc (z := 56) (by omega)
          injection he with h1 h2 h3
          subst h1 h3
          exact ⟨Ao, co, by rw [HN.out]; rfl, Slc.mono hs (Kept.refl _) fun _ _ h => h, HB.out⟩
end Go.Proofs.YtaicidbopgnmfaaGreatDoor
