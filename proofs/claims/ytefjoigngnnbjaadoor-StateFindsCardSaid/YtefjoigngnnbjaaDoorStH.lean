/- The contract of (*wrong).lacks. -/
import Derived.Test.YtefjoigngnnbjaaDoorLgt
namespace Go.Proofs.YtefjoigngnnbjaaDoor
set_option linter.unusedSimpArgs false
set_option linter.unusedVariables false
open Go.RowKit

theorem infVio : (Tryd.prog.info? 68).map (fun i => (i.zero, i.size, i.bytes)) = some (some (.agg #[.int .i64 0, .string (bs []), .bool false, .int .i64 0, .string (bs [])]), 5, 56) := by kernel_rfl
/-- all element types but those of violations and of the gatherer -/
def TW (t : Nat) : Prop := t ≠ 68 ∧ t ≠ 88
/-- what the gatherer holds -/
def Gat (w0 : World) (gw : Nat) (Al : Option Addr) (nl cl : Nat) (Aon : Option Addr) (non con : Nat) (res : List Vio) (w : World) : Prop :=
  ∃ Ao co, Blk w gw 88 #[.slice Al nl cl, .slice Aon non con, .slice Ao res.length co] ∧ Own w w0.heap.size 68 5 RVio (.slice Ao res.length co) res ∧ Below w0.heap.size w0 w
theorem Gat.next {w0 w w' : World} {gw : Nat} {Al : Option Addr} {nl cl : Nat} {Aon : Option Addr} {non con : Nat} {res : List Vio} (h : Gat w0 gw Al nl cl Aon non con res w) (hb : Below w.heap.size w w') : Gat w0 gw Al nl cl Aon non con res w' := by
  obtain ⟨Ao, co, h1, h2, h3⟩ := h
  exact ⟨Ao, co, h1.next hb, h2.next hb, below_next h3 hb⟩
theorem Gat.alloc {w0 w : World} {gw : Nat} {Al : Option Addr} {nl cl : Nat} {Aon : Option Addr} {non con : Nat} {res : List Vio} (h : Gat w0 gw Al nl cl Aon non con res w) (o : Obj) : Gat w0 gw Al nl cl Aon non con res (w.alloc o) := by
  obtain ⟨Ao, co, h1, h2, h3⟩ := h
  exact ⟨Ao, co, h1.alloc o, h2.alloc o, below_alloc h3 o⟩
/-- one violation more: the append, and the store into the gatherer -/
theorem Gat.put {w0 w w1 : World} {gw : Nat} {Al : Option Addr} {nl cl : Nat} {Aon : Option Addr} {non con : Nat} {res : List Vio} {x : Vio} {Ao : Option Addr} {co : Nat} {o : Obj} {g cap : Nat}
    (hB : Blk w gw 88 #[.slice Al nl cl, .slice Aon non con, .slice Ao res.length co]) (ho : Own w w0.heap.size 68 5 RVio (.slice Ao res.length co) res) (hb : Below w0.heap.size w0 w) (hgw : w0.heap.size ≤ gw)
    (h1 : Own w1 w0.heap.size 68 5 RVio (.slice (some ⟨g, 0, none⟩) (res.length + 1) cap) (res ++ [x])) (hg : (w.alloc o).grownBy w1 (Value.slice Ao res.length co).ownBlock) :
    Gat w0 gw Al nl cl Aon non con (res ++ [x]) (w1.setCell ⟨gw, 2, none⟩ (.slice (some ⟨g, 0, none⟩) (res.length + 1) cap)) ∧ KeepB TW w (w1.setCell ⟨gw, 2, none⟩ (.slice (some ⟨g, 0, none⟩) (res.length + 1) cap)) ∧ Blk w1 gw 88 #[.slice Al nl cl, .slice Aon non con, .slice Ao res.length co] := by
  have hB1 : Blk w1 gw 88 #[.slice Al nl cl, .slice Aon non con, .slice Ao res.length co] := (ho.alloc o).blk (hB.alloc o) (by decide) hg
  refine ⟨⟨some ⟨g, 0, none⟩, cap, ?_, ?_, ?_⟩, ?_, hB1⟩
  · have := hB1.set_ 2 (.slice (some ⟨g, 0, none⟩) (res.length + 1) cap)
    simpa using this
  · have := h1.setCell (p := ⟨gw, 2, none⟩) (fun cur hc => by
      unfold Blk at hB1
      rw [hB1] at hc
      injection hc with hc
      injection hc with _ ht
      exact absurd ht (by decide)) (.slice (some ⟨g, 0, none⟩) (res.length + 1) cap)
    simpa using this
  · exact ((ho.alloc o).below (below_alloc hb o) (by have := hb.size; simp; omega) hg).setCell hgw _
  · exact ((KeepB.alloc o).trans ((ho.alloc o).keep hg (fun h => h.1 rfl))).trans (KeepB.setCell (p := ⟨gw, 2, none⟩) (show w1.heap[gw]? = some (.cells _ _ (0, 0)) from hB1) (fun h => h.2 rfl) _)
def GatPost (w0 w : World) (gw : Nat) (Al : Option Addr) (nl cl : Nat) (Aon : Option Addr) (non con : Nat) (res : List Vio) (e : Ending) (w' : World) : Prop :=
  e = .returned (.tuple #[]) ∧ Gat w0 gw Al nl cl Aon non con res w' ∧ KeepB TW w w'
theorem lacks_take {name : List UInt8} {pre : Bool} {on : List Pkg} {cs : List (List Atm)} {k : Nat} {x : List Atm} (hx : cs[k]? = some x) :
    lacksS name pre on (cs.take (k + 1)) = lacksS name pre on (cs.take k) ++ if metS x on then [] else [⟨1, name, pre, k, []⟩] := flat_step _ hx
theorem flat_len {β γ : Type} {f : β → List γ} (h : ∀ x, (f x).length ≤ 1) : ∀ l : List β, (l.flatMap f).length ≤ l.length
  | [] => by simp
  | x :: l => by
    have := flat_len h l
    have := h x
    simp only [List.flatMap_cons, List.length_append, List.length_cons]
    omega
theorem lacks_len (name : List UInt8) (pre : Bool) (on : List Pkg) (cs : List (List Atm)) : (lacksS name pre on cs).length ≤ cs.length := by
  have := flat_len (f := fun x : List Atm × Nat => if metS x.1 on then [] else [(⟨1, name, pre, x.2, []⟩ : Vio)]) (fun x => by split <;> simp) cs.zipIdx
  simpa [lacksS] using this
set_option maxRecDepth 100000 in
set_option maxHeartbeats 400000 in
theorem lacks_any (w0 w : World) (gw : Nat) (Al : Option Addr) (nl cl : Nat) (Aon : Option Addr) (con : Nat) (on : List Pkg) (res : List Vio) (A : Option Addr) (c : Nat) (cs : List (List Atm)) (name : List UInt8) (pre : Bool)
    (hG : Gat w0 gw Al nl cl Aon on.length con res w) (hgw : w0.heap.size ≤ gw) (hon : Own w w0.heap.size 28 9 (RPkg w0) (.slice Aon on.length con) on) (hc : Clss w0 A c cs)
    (hn1 : on.length * 184 ≤ 140737488351232) (hn2 : (res.length + cs.length) * 56 ≤ 140737488351232) :
    Calls Tryd.prog 53 #[.pointer (some ⟨gw, 0, none⟩), .string (bs name), .slice A cs.length c, .bool pre] w
      (GatPost w0 w gw Al nl cl Aon on.length con (res ++ lacksS name pre on cs)) := by
  have hbd := hc.bd
  have HC := Lib.hid hc
  have HON := Lib.hid hon
  have HG0 := Lib.hid hG
  clear hc hon hG
  go_enter Tryd.func53, Tryd.ntmps53
  go_wp2
  go_loopw [12] (fun i wr => ∃ k : Nat, k ≤ cs.length ∧ i = .int .i64 k ∧ Gat w0 gw Al nl cl Aon on.length con (res ++ lacksS name pre on (cs.take k)) wr ∧ KeepB TW w wr) (fun i _ => cs.length - (intOf i).toNat)
  case atStart => exact ⟨0, Nat.zero_le _, rfl, by simpa [lacksS] using HG0.out, KeepB.refl _ _⟩
  case round =>
    obtain ⟨k, hk, rfl, hg, hkp⟩ := hrel
    have HK := Lib.hid hkp
    clear hkp
    by_cases hlt : k < cs.length
    · have HLn := Lib.hid (lacks_len name pre on (cs.take k))
      generalize hR : res ++ lacksS name pre on (cs.take k) = R at hg
      have hRl : R.length ≤ res.length + k := by
        rw [← hR, List.length_append]
        have := HLn.out
        simp at this
        omega
      have HR := Lib.hid hR
      clear hR
      obtain ⟨Ao, co, hB, ho, hb⟩ := hg
      have HB := Lib.hid hB
      have HO := Lib.hid ho
      have HBw := Lib.hid hb
      obtain ⟨x0, x1, x2⟩ := blk3 hB
      clear hB ho hb
      obtain ⟨q, b, o, A', c', hq, rfl, hA, d0⟩ := HC.out.at_ hlt (Kept.of_below HBw.out)
      have HQ := Lib.hid hq
      clear hq
      have hP : Pkgs wr Aon con on := by
        obtain ⟨A2, c2, he, hs⟩ := (HK.out.own HON.out ⟨by decide, by decide⟩).slc hn1
        injection he with e1 e2 e3
        subst e1 e3
        exact Slc.mono hs (Kept.refl _) fun _ _ h => h.kept (Kept.of_below HBw.out)
      have HP := Lib.hid hP
      clear hP
      go_wp2_with (first | (go_at_call 83; refine (met_any _ _ _ _ q on _ (hA.kept (Kept.of_below HBw.out)) HP.out).mono ?_; rintro e w1 ⟨rfl, hb⟩; have kB := HB.out.next hb; obtain ⟨y0, y1, y2⟩ := blk3 kB; have kO := HO.out.next hb; have kB0 := below_next HBw.out hb; have hsz : gw < w1.heap.size := kB.lt) | (at_builtin; refine wpList_append_el (by rfl) _ _ 65 (by rfl) w0.heap.size 68 _ 5 56 Tryd.underlying65 infVio rfl (by omega) RVio _ R (by rfl) (kO.alloc _) ⟨1, name, pre, k, []⟩ [.int .i64 1, .string (bs name), .bool pre, .int .i64 k, .string (bs [])] w1.heap.size 1 (by rfl) (blk_new1 _ _ _) rfl rfl (by simp [Value.oneCell']) (by omega) (by omega) (by simp; have := kB0.size; omega) ?_; intro g cap w2 ho2 hg2; obtain ⟨p1, p2, p3⟩ := Gat.put kB kO kB0 hgw ho2 hg2; obtain ⟨z0, z1, z2⟩ := blk3 p3; have zf := p3.frozen 2))
      · have hm : metS q on = false := by simpa using (by assumption : (!metS q on) = true)
        go_roundw
        case rel =>
          refine ⟨k + 1, by omega, by simp, ?_, (HK.out.trans (KeepB.of_below hb)).trans p2⟩
          rw [lacks_take HQ.out, hm, ← List.append_assoc, HR.out]
          simpa using p1
        case measure => (try simp only [intOf]); omega
      · have hm : metS q on = true := by simpa using (by assumption : (!metS q on) = false)
        go_roundw
        case rel =>
          refine ⟨k + 1, by omega, by simp, ?_, HK.out.trans (KeepB.of_below hb)⟩
          rw [lacks_take HQ.out, hm, ← List.append_assoc, HR.out]
          exact ⟨Ao, co, by simpa using kB, by simpa using kO, kB0⟩
        case measure => (try simp only [intOf]); omega
    · go_wp2
      go_end0
      rw [take_end hk hlt] at hg
      exact ⟨rfl, hg, HK.out⟩
end Go.Proofs.YtefjoigngnnbjaaDoor
