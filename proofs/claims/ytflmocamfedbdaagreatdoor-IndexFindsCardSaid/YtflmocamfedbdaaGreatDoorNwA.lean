/- index.New: its contract. -/
import Derived.Test.YtflmocamfedbdaaGreatDoorOwB
import Derived.Test.YtflmocamfedbdaaGreatDoorSrX
import Derived.Test.YtflmocamfedbdaaGreatDoorMlA
import Derived.Test.YtflmocamfedbdaaGreatDoorNcB
import Derived.Test.YtflmocamfedbdaaGreatDoorInP
import Derived.Deep.RegionLaw
import Derived.Deep.DrawnRows
namespace Go.Proofs.YtflmocamfedbdaaGreatDoor
set_option linter.unusedSimpArgs false
set_option linter.unusedVariables false
open Go.RowKit

/-- an index: the packages as they stand in it -/
def Ix (w : World) (x : Value) (s : List Pkg) : Prop := ∃ g A c, x = .pointer (some ⟨g, 0, none⟩) ∧ Blk w g 94 #[.slice A s.length c] ∧ Pkgs w A c s
theorem Ix.next {w w' : World} {x : Value} {s : List Pkg} (h : Ix w x s) (hb : Below w.heap.size w w') : Ix w' x s := by
  obtain ⟨g, A, c, h1, h2, h3⟩ := h
  exact ⟨g, A, c, h1, h2.next hb, h3.kept (Kept.of_below hb)⟩
def RetIx (w : World) (s : List Pkg) (e : Ending) (w' : World) : Prop := ∃ x, e = .returned (.tuple #[x, .int .i64 0]) ∧ Ix w' x s ∧ Below w.heap.size w w'
/-- what an element of the index's own row is -/
def RZ (w : World) (r : Raw) (p : Pkg) : Prop := RP (flt TB w) r p ∧ isV p.ver = true
theorem RZ.keep {w w' : World} {r : Raw} {p : Pkg} (h : RZ w r p) (hk : KeepB (fun t => TB t = true) w w') : RZ w' r p := ⟨h.1.fkeep hk, h.2⟩
theorem RK.mono {Z Z' : Raw → Pkg → Prop} (h : ∀ r p, Z r p → Z' r p) : ∀ cs x, RK Z cs x → RK Z' cs x := fun _ _ ⟨r, h1, h2⟩ => ⟨r, h1, h _ _ h2⟩
theorem infPkg' : (Tryz.prog.info? 26).map (fun i => (i.zero, i.size, i.bytes)) = some (some (.agg #[.string (bs []), .string (bs []), .slice none 0 0, .slice none 0 0, .slice none 0 0, .slice none 0 0, .slice none 0 0, .slice none 0 0, .bool false]), 9, 184) := by kernel_rfl
theorem nw_own {W w2 : World} {B : Nat} {v : Value} {l : List Pkg} (ho : Own W B 26 9 (RK (RZ W)) v l) (hb2 : Below W.drew.heap.size W.drew w2) (o : Obj) : Own (w2.alloc o) B 26 9 (RK (RZ (w2.alloc o))) v l :=
  ((ho.drew.next hb2).alloc o).mono (RK.mono fun _ _ h => h.keep ((KeepB.drewN 1).trans ((KeepB.of_below hb2).trans (KeepB.alloc o))))
theorem nw_alloc {W : World} {B : Nat} {v : Value} {l : List Pkg} (ho : Own W B 26 9 (RK (RZ W)) v l) (o : Obj) : Own (W.alloc o) B 26 9 (RK (RZ (W.alloc o))) v l :=
  (ho.alloc o).mono (RK.mono fun _ _ h => h.keep (KeepB.alloc o))
theorem nw_store {W3 w4 : World} {B G : Nat} {v u row : Value} {l : List Pkg} (ho4 : Own w4 B 26 9 (RK (RZ W3)) row l) (hk : KeepB (fun t => TB t = true) W3 w4) (hG : Blk w4 G 94 #[v]) :
    Own (w4.setCell ⟨G, 0, none⟩ u) B 26 9 (RK (RZ (w4.setCell ⟨G, 0, none⟩ u))) row l :=
  (ho4.setCell (p := ⟨G, 0, none⟩) (fun cur hc => by
    have h := hG
    unfold Blk at h
    dsimp only at hc
    rw [h] at hc
    injection hc with hc
    injection hc with _ ht
    revert ht
    decide) u).mono (RK.mono fun _ _ h => h.keep (hk.trans (KeepB.setCell (p := ⟨G, 0, none⟩) hG (show ¬ TB 94 = true by decide) u)))
theorem nw_pkgs {w w5 : World} {B g n cap : Nat} {l s : List Pkg} (hs : s.length = l.length) (hz : l.length * 184 ≤ 140737488351232) (h : Own w5 B 26 9 (RK (RZ w)) (.slice (some ⟨g, 0, none⟩) n cap) s) (hk : KeepB (fun t => TB t = true) w w5) : Pkgs w5 (some ⟨g, 0, none⟩) cap s := by
  obtain ⟨A, c, h1, h2⟩ := h.slc (z := 184) (by omega)
  injection h1 with h1 h3 h4
  subst h1 h4
  exact Slc.mono h2 (Kept.refl _) fun cs x ⟨r, e1, e2⟩ => ⟨r, e1, (e2.1.fkeep hk).kept (Kept.flt TB _)⟩
/-- an index of its own: its row is the call's own -/
def RetIxF (w : World) (s : List Pkg) (e : Ending) (w' : World) : Prop := ∃ G v, e = .returned (.tuple #[.pointer (some ⟨G, 0, none⟩), .int .i64 0]) ∧ w.heap.size ≤ G ∧ Blk w' G 94 #[v] ∧ Own w' w.heap.size 26 9 (RK (RZ w')) v s ∧ Below w.heap.size w w'
theorem ix_of_own {w : World} {B G : Nat} {v : Value} {s : List Pkg} (h3 : Blk w G 94 #[v]) (h4 : Own w B 26 9 (RK (RZ w)) v s) (hz : s.length * 184 ≤ 140737488351232) : Ix w (.pointer (some ⟨G, 0, none⟩)) s := by
  obtain ⟨A, c, rfl, h2⟩ := h4.slc (z := 184) hz
  exact ⟨G, A, c, rfl, h3, Slc.mono h2 (Kept.refl _) fun cs x ⟨r, e1, e2⟩ => ⟨r, e1, e2.1.kept (Kept.flt TB _)⟩⟩
theorem light_few {p : Pkg} {N K C : Nat} (h : p.con.length + p.brk.length + p.prv.length ≤ N ∧ (p.pre.length ≤ K ∧ ∀ x ∈ p.pre, x.length ≤ C) ∧ (p.dep.length ≤ K ∧ ∀ x ∈ p.dep, x.length ≤ C) ∧ (p.rcm.length ≤ K ∧ ∀ x ∈ p.rcm, x.length ≤ C)) (hN : N ≤ 1000000) (hK : K ≤ 1000000) (hC : C ≤ 1000000) : fewO p := by
  obtain ⟨h0, ⟨h1, h2⟩, ⟨h3, h4⟩, h5, h6⟩ := h
  exact ⟨⟨by omega, fun x hx => Nat.le_trans (h2 x hx) hC⟩, ⟨by omega, fun x hx => Nat.le_trans (h4 x hx) hC⟩, ⟨by omega, fun x hx => Nat.le_trans (h6 x hx) hC⟩, by omega, by omega, by omega⟩
theorem fewO.fewR {p : Pkg} (h : fewO p) : fewR p := ⟨h.2.2.2.1, h.2.2.2.2.1, h.2.2.2.2.2⟩
set_option maxRecDepth 100000 in
theorem new_no (A : Option Addr) (c : Nat) (l : List Pkg) (w : World) (hl : Pkgs w A c l) (hf : ∀ p ∈ l, fewO p) (h0 : mayAllE l ≠ 0) :
    Calls Tryz.prog 20 #[.slice A l.length c] w fun e w' => e = .returned (.tuple #[.pointer none, .int .i64 (mayAllE l)]) ∧ Below w.heap.size w w' := by
  have HL := Lib.hid hl
  have HF := Lib.hid hf
  clear hl hf
  generalize hE : mayAllE l = E at h0
  have HE := Lib.hid hE
  clear hE
  have hEb : (E != 0) = true := by rw [bne_iff_ne]; exact h0
  go_enter Tryz.func20, Tryz.ntmps20
  go_wp2_with (go_at_call 60; refine (mayAll_any A c l _ HL.out (fun p hp => (HF.out p hp).fewR)).mono ?_; rintro e w1 ⟨rfl, hb1⟩; rw [HE.out])
  go_ret2
  exact ⟨rfl, hb1⟩
set_option maxRecDepth 100000 in
set_option maxHeartbeats 4000000 in
attribute [local go_sem ↓] Go.wp_at_zero Go.wp_at_succ in
theorem new_own (A : Option Addr) (c : Nat) (l : List Pkg) (w : World) (hl : Pkgs w A c l) (hf : ∀ p ∈ l, fewO p) (h0 : mayAllE l = 0) :
    Calls Tryz.prog 20 #[.slice A l.length c] w (RetIxF w (srt pLt l)) := by
  have hbd := hl.bd
  obtain ⟨h24, hme, _, _⟩ := mayAll_zero h0
  have HL := Lib.hid hl
  have HF := Lib.hid hf
  have HME := Lib.hid hme
  have HE := Lib.hid h0
  clear hl hf h0 hme
  go_enter Tryz.func20, Tryz.ntmps20
  go_wp2_with fail
  refine (mayAll_any A c l _ HL.out (fun p hp => (HF.out p hp).fewR)).mono ?_
  rintro e w1 ⟨rfl, hb1⟩
  rw [HE.out]
  have HB1 := Lib.hid hb1
  clear hb1
  go_wp2
  generalize hG : w1.heap.size = G
  have HG := Lib.hid hG
  have hsz := Lib.hid (show w.heap.size ≤ G by rw [← hG]; exact HB1.out.size)
  have HK1 := Lib.hid (show Blk (w1.alloc (.cells #[.slice none 0 0] 94)) G 94 #[.slice none 0 0] by rw [← hG]; exact blk_new1 _ _ _)
  clear hG
  go_loopw [17] (fun i wr => ∃ (k : Nat) (v : Value), k ≤ l.length ∧ i = .int .i64 k ∧ Below w.heap.size w wr ∧ Blk wr G 94 #[v] ∧ Own wr w.heap.size 26 9 (RK (RZ wr)) v (l.take k)) (fun i _ => l.length - (intOf i).toNat)
  case atStart => exact ⟨0, _, Nat.zero_le _, rfl, below_alloc HB1.out _, HK1.out, Own.nil_ _ _ _ _ _⟩
  case round =>
    clear HK1 HB1 HG
    obtain ⟨k, v, hk, rfl, hb, hG, ho⟩ := hrel
    obtain ⟨wo, rfl⟩ : ∃ wo : World, wo = wr := ⟨_, rfl⟩
    have HB := Lib.hid hb
    have HGk := Lib.hid hG
    have HO := Lib.hid ho
    clear hb hG ho
    by_cases hlt : k < l.length
    · obtain ⟨q, b, o, r, hq, rfl, hr, e0, e1, e2, e3, e4, e5, e6, e7, e8⟩ := HL.out.at_ hlt (Kept.of_below HB.out)
      have HQ := Lib.hid hq
      have HR := Lib.hid hr
      have HFq := Lib.hid (HF.out q (List.mem_of_getElem? hq))
      have HV := Lib.hid (may_nv (HME.out q (List.mem_of_getElem? hq))).2
      clear hq hr
      obtain ⟨s, hs⟩ : ∃ s, s = l.take k := ⟨_, rfl⟩
      have HS := Lib.hid hs
      have HSl := Lib.hid (show s.length = k by rw [hs, List.length_take]; omega)
      rw [← hs] at HO
      clear hs
      go_wp2_with fail
      have KG := Lib.hid (HGk.out.alloc (.cells #[.string (bs (q).name), .string (bs (q).ver), .slice (r).a1 (q).pre.length (r).c1, .slice (r).a2 (q).dep.length (r).c2, .slice (r).a3 (q).rcm.length (r).c3, .slice (r).a4 (q).con.length (r).c4, .slice (r).a5 (q).brk.length (r).c5, .slice (r).a6 (q).prv.length (r).c6, .bool (q).ess] 26))
      have KP := Lib.hid (blk_new1 wo 26 #[.string (bs (q).name), .string (bs (q).ver), .slice (r).a1 (q).pre.length (r).c1, .slice (r).a2 (q).dep.length (r).c2, .slice (r).a3 (q).rcm.length (r).c3, .slice (r).a4 (q).con.length (r).c4, .slice (r).a5 (q).brk.length (r).c5, .slice (r).a6 (q).prv.length (r).c6, .bool (q).ess])
      have HBW := Lib.hid (below_alloc HB.out (.cells #[.string (bs (q).name), .string (bs (q).ver), .slice (r).a1 (q).pre.length (r).c1, .slice (r).a2 (q).dep.length (r).c2, .slice (r).a3 (q).rcm.length (r).c3, .slice (r).a4 (q).con.length (r).c4, .slice (r).a5 (q).brk.length (r).c5, .slice (r).a6 (q).prv.length (r).c6, .bool (q).ess] 26))
      have HKW := Lib.hid (((Kept.of_below HB.out).trans (Kept.alloc wo (.cells #[.string (bs (q).name), .string (bs (q).ver), .slice (r).a1 (q).pre.length (r).c1, .slice (r).a2 (q).dep.length (r).c2, .slice (r).a3 (q).rcm.length (r).c3, .slice (r).a4 (q).con.length (r).c4, .slice (r).a5 (q).brk.length (r).c5, .slice (r).a6 (q).prv.length (r).c6, .bool (q).ess] 26))).trans (Kept.drew _))
      have HOW := Lib.hid (nw_alloc HO.out (.cells #[.string (bs (q).name), .string (bs (q).ver), .slice (r).a1 (q).pre.length (r).c1, .slice (r).a2 (q).dep.length (r).c2, .slice (r).a3 (q).rcm.length (r).c3, .slice (r).a4 (q).con.length (r).c4, .slice (r).a5 (q).brk.length (r).c5, .slice (r).a6 (q).prv.length (r).c6, .bool (q).ess] 26))
      clear e0 e1 e2 e3 e4 e5 e6 e7 e8 HB HGk HO
      generalize World.alloc _ _ = W at KG KP HBW HKW HOW ⊢
      obtain ⟨a0, a1, a2, a3, a4, a5, a6, a7, a8⟩ := blk9 KP.out
      have cg := KG.out.cell 0
      go_region_law (first | (refine step_append_el (by rfl) _ _ 43 (by rfl) w.heap.size 26 _ 9 184 Tryz.underlying43 infPkg' rfl (by omega) (RK (RZ (w2.alloc (.cells #[.string (bs (q).name), .string (bs (q).ver), .slice (r2).a1 (q).pre.length (r2).c1, .slice (r2).a2 (q).dep.length (r2).c2, .slice (r2).a3 (q).rcm.length (r2).c3, .slice (r2).a4 (q).con.length (r2).c4, .slice (r2).a5 (q).brk.length (r2).c5, .slice (r2).a6 (q).prv.length (r2).c6, .bool (q).ess] 26)))) _ s (by rfl) HO2.out q (encK r2 q) w2.heap.size 1 (by rfl) (blk_new1 _ _ _) ⟨r2, rfl, HZ2.out⟩ rfl (encK_one _ _) (by rw [HSl.out]; omega) (by omega) (by simp; have := HB2.out.size; omega) ?_; intro g cap w4 ho4 hg4; have KG4 := Lib.hid (HO2.out.blk (KG2.out.alloc _) (by decide) hg4); have cg4 := KG4.out.cell 0; have fg4 := KG4.out.frozen 0) | (go_simp; (go_at_call 61; refine (own_any q r _ (HR.out.kept HKW.out) HFq.out).mono ?_; rintro e w2 ⟨r2, rfl, hr2, hb2⟩; have KG2 := Lib.hid ((KG.out.drewN 1).next hb2); have HB2 := Lib.hid (below_next (below_drewN HBW.out 1) hb2); have HR2 := Lib.hid hr2; have HO2 := Lib.hid (nw_own HOW.out hb2 (.cells #[.string (bs (q).name), .string (bs (q).ver), .slice (r2).a1 (q).pre.length (r2).c1, .slice (r2).a2 (q).dep.length (r2).c2, .slice (r2).a3 (q).rcm.length (r2).c3, .slice (r2).a4 (q).con.length (r2).c4, .slice (r2).a5 (q).brk.length (r2).c5, .slice (r2).a6 (q).prv.length (r2).c6, .bool (q).ess] 26)); have HZ2 := Lib.hid (show RZ (w2.alloc (.cells #[.string (bs (q).name), .string (bs (q).ver), .slice (r2).a1 (q).pre.length (r2).c1, .slice (r2).a2 (q).dep.length (r2).c2, .slice (r2).a3 (q).rcm.length (r2).c3, .slice (r2).a4 (q).con.length (r2).c4, .slice (r2).a5 (q).brk.length (r2).c5, .slice (r2).a6 (q).prv.length (r2).c6, .bool (q).ess] 26)) r2 q from ⟨hr2.fkeep (KeepB.alloc _), HV.out⟩); have cg2 := KG2.out.cell 0; have fg2 := KG2.out.frozen 0; have gz2 := KG2.out.lt; clear hr2 hb2)))
      all_goals
        have hb4 := HO2.out.below (below_alloc HB2.out _) (by simp; have := HB2.out.size; omega) hg4
        have hk4 := HO2.out.keep (T := fun t => TB t = true) hg4 (by decide)
        have HB5 := Lib.hid (hb4.setCell (p := ⟨G, 0, none⟩) hsz.out (.slice (some ⟨g, 0, none⟩) (s.length + 1) cap))
        have HG5 := Lib.hid (KG4.out.set_ 0 (.slice (some ⟨g, 0, none⟩) (s.length + 1) cap))
        have HO5 := Lib.hid (nw_store (u := .slice (some ⟨g, 0, none⟩) (s.length + 1) cap) ho4 hk4 KG4.out)
        clear hb4 hk4 ho4 hg4
        go_wp2
        go_roundw
        case rel => exact ⟨k + 1, _, by omega, by simp, HB5.out, HG5.out, by rw [take_step HQ.out, ← HS.out]; exact HO5.out⟩
        case measure => (try simp only [intOf]); omega
    · have ho := HO.out
      rw [take_end hk hlt] at ho
      have c0 := HGk.out.cell 0
      have HGl := Lib.hid HGk.out.lt
      rcases own_form ho with ⟨rfl, hl0⟩ | ⟨g, cap, rfl⟩
      · subst hl0
        clear ho HO
        go_wp2_with (go_at_call 62; refine (sort_nil _ _).mono ?_; rintro e w5 ⟨rfl, rfl⟩)
        go_ret2
        exact ⟨G, _, rfl, hsz.out, HGk.out, Own.nil_ _ _ _ _ _, HB.out⟩
      · have hst := Lib.hid (sort_any w.heap.size (RZ wo) pCmp (ncmp_ok _ (fun _ _ h => h.2)) pSW g cap l.length l wo ho rfl (by omega) (srt pLt l) rfl)
        have HOf := Lib.hid ho
        clear ho HO
        go_wp2_with fail
        refine hst.out.mono ?_
        rintro e w5 ⟨rfl, ho5, hg5⟩
        have hk5 := HOf.out.keep (T := fun t => TB t = true) hg5 (by decide)
        have hG5 := HOf.out.blk HGk.out (by decide) hg5
        have hb5 := HOf.out.below HB.out HB.out.size hg5
        have hR := ho5.mono (RK.mono fun _ _ h => RZ.keep h hk5)
        clear ho5 hg5 hst hk5
        have HR5 := Lib.hid hR
        have HG5 := Lib.hid hG5
        have HB5 := Lib.hid hb5
        clear hR hG5 hb5
        go_wp2
        go_ret2
        exact ⟨G, _, rfl, hsz.out, HG5.out, HR5.out, HB5.out⟩
theorem new_yes (A : Option Addr) (c : Nat) (l : List Pkg) (w : World) (hl : Pkgs w A c l) (hf : ∀ p ∈ l, fewO p) (h0 : mayAllE l = 0) :
    Calls Tryz.prog 20 #[.slice A l.length c] w (RetIx w (srt pLt l)) :=
  (new_own A c l w hl hf h0).mono fun _ _ ⟨G, _, h1, _, h3, h4, h5⟩ => ⟨_, h1, ix_of_own h3 h4 (by have := hl.bd; rw [srt_len]; omega), h5⟩
end Go.Proofs.YtflmocamfedbdaaGreatDoor
