/- What Components gathers, in memory. -/
import Derived.Test.YtodhianmaogfpaaScE
namespace Go.Proofs.Ytodhianmaogfpaa
set_option linter.unusedSimpArgs false
set_option linter.unusedVariables false
open Go.RowKit
def cL (p b : Nat → List Nat) (l t : List Nat) (k : Nat) : List Nat := if k % 3 = 0 then p (k / 3) else if k % 3 = 1 then b (k / 3) else if k = 2 then l else t
def cI (cnt k : Nat) : Prop := (k % 3 = 0 ∧ k / 3 < cnt) ∨ (k % 3 = 1 ∧ k / 3 < cnt) ∨ k = 2
theorem cL_p (p b : Nat → List Nat) (l t : List Nat) (c : Nat) : cL p b l t (3 * c) = p c := by
  unfold cL; rw [if_pos (by omega), show 3 * c / 3 = c by omega]
theorem cL_b (p b : Nat → List Nat) (l t : List Nat) (c : Nat) : cL p b l t (3 * c + 1) = b c := by
  unfold cL; rw [if_neg (by omega), if_pos (by omega), show (3 * c + 1) / 3 = c by omega]
theorem cL_l (p b : Nat → List Nat) (l t : List Nat) : cL p b l t 2 = l := rfl
theorem cL_t (p b : Nat → List Nat) (l t : List Nat) : cL p b l t 5 = t := rfl
theorem cL_up (p b : Nat → List Nat) (l t : List Nat) (c : Nat) (x : List Nat) (k : Nat) : upf (cL p b l t) (3 * c) x k = cL (upf p c x) b l t k := by
  by_cases e : k = 3 * c
  · subst e; rw [upf_at, cL_p, upf_at]
  · rw [upf_ne e]
    unfold cL
    by_cases h : k % 3 = 0
    · rw [if_pos h, if_pos h, upf_ne (by omega)]
    · rw [if_neg h, if_neg h]
theorem cL_ub (p b : Nat → List Nat) (l t : List Nat) (c : Nat) (x : List Nat) (k : Nat) : upf (cL p b l t) (3 * c + 1) x k = cL p (upf b c x) l t k := by
  by_cases e : k = 3 * c + 1
  · subst e; rw [upf_at, cL_b, upf_at]
  · rw [upf_ne e]
    unfold cL
    by_cases h : k % 3 = 0
    · rw [if_pos h, if_pos h]
    · rw [if_neg h, if_neg h]
      by_cases h1 : k % 3 = 1
      · rw [if_pos h1, if_pos h1, upf_ne (by omega)]
      · rw [if_neg h1, if_neg h1]
theorem cL_ul (p b : Nat → List Nat) (l t x : List Nat) (k : Nat) : upf (cL p b l t) 2 x k = cL p b x t k := by
  by_cases e : k = 2
  · subst e; rw [upf_at]; rfl
  · rw [upf_ne e]
    unfold cL
    rw [if_neg e, if_neg e]
theorem cL_ut {n : Nat} (p b : Nat → List Nat) (l t x : List Nat) (k : Nat) (hk : cI n k ∨ k = 5) : upf (cL p b l t) 5 x k = cL p b l x k := by
  by_cases e : k = 5
  · subst e; rw [upf_at]; rfl
  · rw [upf_ne e]
    rcases hk with hk | hk
    · unfold cL
      rcases hk with h | h | h
      · rw [if_pos h.1, if_pos h.1]
      · rw [if_neg (by omega : ¬ k % 3 = 0), if_pos h.1, if_neg (by omega : ¬ k % 3 = 0), if_pos h.1]
      · subst h; rfl
    · exact absurd hk e
/-- parts, back, leads (and told) in memory -/
structure CS (w0 w : World) (cnt pb kb lb : Nat) (V : Nat → Value) (p b : Nat → List Nat) (l t : List Nat) (I : Nat → Prop) : Prop where
  P : Blk w pb 26 (arrV cnt fun i => V (3 * i))
  K : Blk w kb 26 (arrV cnt fun i => V (3 * i + 1))
  ne : pb ≠ kb
  v2 : V 2 = .slice (some ⟨lb, 0, none⟩) cnt cnt
  fam : Fam w w0.heap.size V (cL p b l t) I
  below : Below w0.heap.size w0 w
  pB : w0.heap.size ≤ pb
  kB : w0.heap.size ≤ kb
section
variable {w0 w w' : World} {cnt pb kb lb g n cap : Nat} {V : Nat → Value} {p b : Nat → List Nat} {l t : List Nat} {I : Nat → Prop} {c : Nat} {nv : Value} {x : List Nat} {ld : Nat → Nat}
theorem CS.drewN (h : CS w0 w cnt pb kb lb V p b l t I) (m : Nat) : CS w0 (w.drewN m) cnt pb kb lb V p b l t I := ⟨h.P, h.K, h.ne, h.v2, h.fam.drewN m, below_drewNB h.below m, h.pB, h.kB⟩
theorem CS.drew (h : CS w0 w cnt pb kb lb V p b l t I) : CS w0 w.drew cnt pb kb lb V p b l t I := h.drewN 1
theorem CS.alloc (h : CS w0 w cnt pb kb lb V p b l t I) (o : Obj) : CS w0 (w.alloc o) cnt pb kb lb V p b l t I := ⟨h.P.alloc o, h.K.alloc o, h.ne, h.v2, h.fam.alloc o, below_alloc h.below o, h.pB, h.kB⟩
theorem CS.size (h : CS w0 w cnt pb kb lb V p b l t I) : w0.heap.size ≤ w.heap.size := h.below.size
theorem CS.pAt (h : CS w0 w cnt pb kb lb V p b l t I) (hc : c < cnt) : w.cell? ⟨pb, c, none⟩ = some (V (3 * c)) := (h.P.cell c).trans (arr_get hc)
theorem CS.kAt (h : CS w0 w cnt pb kb lb V p b l t I) (hc : c < cnt) : w.cell? ⟨kb, c, none⟩ = some (V (3 * c + 1)) := (h.K.cell c).trans (arr_get hc)
theorem CS.congr (h : CS w0 w cnt pb kb lb V p b l t I) {p' b' : Nat → List Nat} {l' t' : List Nat} (hp : p' = p) (hb : b' = b) (hl : l' = l) (ht : t' = t) : CS w0 w cnt pb kb lb V p' b' l' t' I := by subst hp hb hl ht; exact h
theorem blk_ne3 {w : World} {g : Nat} {cs : Array Value} (h : Blk w g 26 cs) (i : Nat) : ∀ cur, w.heap[(⟨g, i, none⟩ : Addr).block]? ≠ some (.cells cur 3 (0, 0)) := fun cur hc => by
  unfold Blk at h
  rw [show (⟨g, i, none⟩ : Addr).block = g from rfl, h] at hc
  injection hc with hc
  injection hc with _ hc
  exact absurd hc (by decide)
/-- a part that grew is stored -/
theorem CS.appP (h : CS w0 w cnt pb kb lb V p b l t I) (hF : Fam w' w0.heap.size (upf V (3 * c) nv) (upf (cL p b l t) (3 * c) x) I) (hP : Blk w' pb 26 (arrV cnt fun i => V (3 * i))) (hK : Blk w' kb 26 (arrV cnt fun i => V (3 * i + 1))) (hb : Below w0.heap.size w0 w') :
    CS w0 (w'.setCell ⟨pb, c, none⟩ nv) cnt pb kb lb (upf V (3 * c) nv) (upf p c x) b l t I := by
  refine ⟨?_, ?_, h.ne, by rw [upf_ne (by omega)]; exact h.v2, (hF.other (blk_ne3 hP c) nv).congr (fun _ h => h) (fun _ _ => rfl) (fun k _ => (cL_up p b l t c x k).symm), hb.setCell h.pB nv, h.pB, h.kB⟩
  · have h1 := hP.set_ c nv
    rw [arr_set] at h1
    have h2 : (upf (fun i => V (3 * i)) c nv) = fun i => upf V (3 * c) nv (3 * i) := by
      funext i
      by_cases e : i = c
      · subst e; rw [upf_at, upf_at]
      · rw [upf_ne e, upf_ne (by omega)]
    rw [← h2]; exact h1
  · have h1 := hK.far (p := ⟨pb, c, none⟩) (Ne.symm h.ne) nv
    have h2 : (fun i => V (3 * i + 1)) = fun i => upf V (3 * c) nv (3 * i + 1) := by
      funext i
      rw [upf_ne (by omega)]
    rw [← h2]; exact h1
/-- .. a list of those that lead here -/
theorem CS.appK (h : CS w0 w cnt pb kb lb V p b l t I) (hF : Fam w' w0.heap.size (upf V (3 * c + 1) nv) (upf (cL p b l t) (3 * c + 1) x) I) (hP : Blk w' pb 26 (arrV cnt fun i => V (3 * i))) (hK : Blk w' kb 26 (arrV cnt fun i => V (3 * i + 1))) (hb : Below w0.heap.size w0 w') :
    CS w0 (w'.setCell ⟨kb, c, none⟩ nv) cnt pb kb lb (upf V (3 * c + 1) nv) p (upf b c x) l t I := by
  refine ⟨?_, ?_, h.ne, by rw [upf_ne (by omega)]; exact h.v2, (hF.other (blk_ne3 hK c) nv).congr (fun _ h => h) (fun _ _ => rfl) (fun k _ => (cL_ub p b l t c x k).symm), hb.setCell h.kB nv, h.pB, h.kB⟩
  · have h1 := hP.far (p := ⟨kb, c, none⟩) h.ne nv
    have h2 : (fun i => V (3 * i)) = fun i => upf V (3 * c + 1) nv (3 * i) := by
      funext i
      rw [upf_ne (by omega)]
    rw [← h2]; exact h1
  · have h1 := hK.set_ c nv
    rw [arr_set] at h1
    have h2 : (upf (fun i => V (3 * i + 1)) c nv) = fun i => upf V (3 * c + 1) nv (3 * i + 1) := by
      funext i
      by_cases e : i = c
      · subst e; rw [upf_at, upf_at]
      · rw [upf_ne e, upf_ne (by omega)]
    rw [← h2]; exact h1
theorem CS.rowNe {gg m cc : Nat} {ll : List Nat} (hr : Row w w0.heap.size (.slice (some ⟨gg, 0, none⟩) m cc) ll) {cs : Array Value} (h : Blk w g 26 cs) : g ≠ gg := by
  obtain ⟨_, cur, hc⟩ := Own.base hr (g := gg) rfl
  intro e
  subst e
  unfold Blk at h
  rw [hc] at h
  injection h with h
  injection h with _ h
  exact absurd h (by decide)
/-- a store into leads -/
theorem CS.putL (h : CS w0 w cnt pb kb lb V p b l t I) (hI : I 2) (hc : c < l.length) (y : Nat) : CS w0 (w.setCell ⟨lb, c, none⟩ (.int .i64 y)) cnt pb kb lb V p b (l.set c y) t I := by
  have hr : Row w w0.heap.size (.slice (some ⟨lb, 0, none⟩) cnt cnt) l := by have := h.fam.own 2 hI; rwa [h.v2, cL_l] at this
  refine ⟨h.P.far (p := ⟨lb, c, none⟩) (CS.rowNe hr h.P) _, h.K.far (p := ⟨lb, c, none⟩) (CS.rowNe hr h.K) _, h.ne, h.v2, ?_, h.below.setCell (Row.low hr) _, h.pB, h.kB⟩
  exact (h.fam.put hI h.v2 (i := c) (by rw [cL_l]; exact hc) y).congr (fun _ h => h) (fun _ _ => rfl) (fun k _ => (cL_ul p b l t _ k).symm)
theorem CS.lAt (h : CS w0 w cnt pb kb lb V p b ((List.range cnt).map ld) t I) (hI : I 2) (hc : c < cnt) : w.cell? ⟨lb, c, none⟩ = some (.int .i64 (ld c : Nat)) := by
  have hr := h.fam.own 2 hI
  rw [h.v2, cL_l] at hr
  exact Row.cell hr (map_get ld hc)
theorem CS.lRow (h : CS w0 w cnt pb kb lb V p b l t I) (hI : I 2) : Row w w0.heap.size (.slice (some ⟨lb, 0, none⟩) cnt cnt) l := by
  have hr := h.fam.own 2 hI
  rwa [h.v2, cL_l] at hr
end
section
variable {w0 w w' : World} {cnt pb kb lb tb g n cap : Nat} {V : Nat → Value} {p b : Nat → List Nat} {l t : List Nat} {I : Nat → Prop} {c : Nat} {ov : Value} {cl : List Nat}
/-- told is made -/
theorem CS.addT (h : CS w0 w cnt pb kb lb V p b l [] (cI cnt)) (hn : cnt ≤ maxLen) : CS w0 (w.alloc (.cells (madeCells #[.int .i64 0] cnt) 3)) cnt pb kb lb (upf V 5 (.slice (some ⟨w.heap.size, 0, none⟩) cnt cnt)) p b l ((List.range cnt).map fun _ => 0) (fun k => cI cnt k ∨ k = 5) := by
  have h5 : ¬ cI cnt 5 := by unfold cI; omega
  have hF := h.fam.add h5 (Row.made w h.size cnt hn) ((Below.refl _ _).alloc (Nat.le_refl _) _) (fun g hg => by simp [Value.ownBlock] at hg; omega)
  refine ⟨?_, ?_, h.ne, by rw [upf_ne (by omega)]; exact h.v2, hF.congr (fun _ h => h) (fun _ _ => rfl) (fun k hk => ?_), below_alloc h.below _, h.pB, h.kB⟩
  · rw [show (fun i => upf V 5 (.slice (some ⟨w.heap.size, 0, none⟩) cnt cnt) (3 * i)) = fun i => V (3 * i) from funext fun i => upf_ne (by omega)]
    exact h.P.alloc _
  · rw [show (fun i => upf V 5 (.slice (some ⟨w.heap.size, 0, none⟩) cnt cnt) (3 * i + 1)) = fun i => V (3 * i + 1) from funext fun i => upf_ne (by omega)]
    exact h.K.alloc _
  · rw [map_zero]; exact (cL_ut p b l [] _ k hk).symm
/-- a store into told -/
theorem CS.putT (h : CS w0 w cnt pb kb lb V p b l t (fun k => cI cnt k ∨ k = 5)) (h5 : V 5 = .slice (some ⟨tb, 0, none⟩) cnt cnt) (hc : c < t.length) (y : Nat) : CS w0 (w.setCell ⟨tb, c, none⟩ (.int .i64 y)) cnt pb kb lb V p b l (t.set c y) (fun k => cI cnt k ∨ k = 5) := by
  have hr : Row w w0.heap.size (.slice (some ⟨tb, 0, none⟩) cnt cnt) t := by have := h.fam.own 5 (.inr rfl); rwa [h5, cL_t] at this
  refine ⟨h.P.far (p := ⟨tb, c, none⟩) (CS.rowNe hr h.P) _, h.K.far (p := ⟨tb, c, none⟩) (CS.rowNe hr h.K) _, h.ne, h.v2, ?_, h.below.setCell (Row.low hr) _, h.pB, h.kB⟩
  exact (h.fam.put (.inr rfl) h5 (i := c) (by rw [cL_t]; exact hc) y).congr (fun _ h => h) (fun _ _ => rfl) (fun k hk => (cL_ut p b l t _ k hk).symm)
theorem CS.tRow (h : CS w0 w cnt pb kb lb V p b l t (fun k => cI cnt k ∨ k = 5)) (h5 : V 5 = .slice (some ⟨tb, 0, none⟩) cnt cnt) : Row w w0.heap.size (.slice (some ⟨tb, 0, none⟩) cnt cnt) t := by have := h.fam.own 5 (.inr rfl); rwa [h5, cL_t] at this
theorem CS.tAt {td : Nat → Nat} (h : CS w0 w cnt pb kb lb V p b l ((List.range cnt).map td) (fun k => cI cnt k ∨ k = 5)) (h5 : V 5 = .slice (some ⟨tb, 0, none⟩) cnt cnt) (hc : c < cnt) : w.cell? ⟨tb, c, none⟩ = some (.int .i64 (td c : Nat)) := Row.cell (h.tRow h5) (map_get td hc)
/-- the told components: the slices of their parts -/
def ROut (V : Nat → Value) (cs : List Value) (c : Nat) : Prop := cs = [V (3 * c)]
structure Outs (w0 w : World) (pb kb : Nat) (V : Nat → Value) (ov : Value) (cl : List Nat) : Prop where
  own : Own w w0.heap.size 26 1 (ROut V) ov cl
  far : ∀ g, ov.ownBlock = some g → g ≠ pb ∧ g ≠ kb
theorem Outs.drewN (h : Outs w0 w pb kb V ov cl) (m : Nat) : Outs w0 (w.drewN m) pb kb V ov cl := ⟨h.own.drewN m, h.far⟩
theorem Outs.alloc (h : Outs w0 w pb kb V ov cl) (o : Obj) : Outs w0 (w.alloc o) pb kb V ov cl := ⟨h.own.alloc o, h.far⟩
theorem Outs.put (h : Outs w0 w pb kb V ov cl) {B m cc : Nat} {ll : List Nat} (hr : Row w B (.slice (some ⟨g, 0, none⟩) m cc) ll) (i : Nat) (u : Value) : Outs w0 (w.setCell ⟨g, i, none⟩ u) pb kb V ov cl :=
  ⟨Own.setCell h.own (p := ⟨g, i, none⟩) (fun cur hc => by
    obtain ⟨_, cur', h2⟩ := Own.base hr (g := g) rfl
    rw [show (⟨g, i, none⟩ : Addr).block = g from rfl, h2] at hc
    injection hc with hc
    injection hc with _ hc
    exact absurd hc (by decide)) u, h.far⟩
/-- what is gathered stays where the told ones grow -/
theorem CS.grown (h : CS w0 w cnt pb kb lb V p b l t I) (ho : Outs w0 w pb kb V ov cl) (hg : w.grownBy w' ov.ownBlock) : CS w0 w' cnt pb kb lb V p b l t I :=
  ⟨h.P.grown hg (fun e => (ho.far _ e.symm).1 rfl), h.K.grown hg (fun e => (ho.far _ e.symm).2 rfl), h.ne, h.v2, h.fam.keep (T := fun t => t = 3) (Own.keep ho.own hg (by decide)) rfl, Own.below ho.own h.below h.size hg, h.pB, h.kB⟩
/-- slices of slices of numbers -/
def RLst (w : World) (cs : List Value) (l : List Nat) : Prop := ∃ A C, cs = [.slice A l.length C] ∧ Ints w A C l
def Lists (w : World) (A : Option Addr) (c : Nat) (l : List (List Nat)) : Prop := Slc w 1 24 (RLst w) A c l
theorem Lists.kept {w w' : World} {A : Option Addr} {c : Nat} {l : List (List Nat)} (h : Lists w A c l) (hk : Kept w w') : Lists w' A c l := Slc.mono h hk fun _ _ ⟨A, C, h1, h2⟩ => ⟨A, C, h1, h2.kept hk⟩
theorem Lists.at_ {w w' : World} {A : Option Addr} {c : Nat} {l : List (List Nat)} {i : Nat} (h : Lists w A c l) (hi : i < l.length) (hk : Kept w w') : ∃ x b o A' c', l[i]? = some x ∧ A = some ⟨b, o, none⟩ ∧ Ints w A' c' x ∧ w'.cell? ⟨b, o + i, none⟩ = some (.slice A' x.length c') := by
  obtain ⟨x, b, o, cs, h1, h2, ⟨A', c', rfl, h3⟩, _, h4⟩ := Slc.at_ h hi
  refine ⟨x, b, o, A', c', h1, h2, h3, ?_⟩
  have := rangeAt_kept hk h4 0 _ rfl
  simpa using this
/-- all cells from block B on stay -/
def KeptB (B : Nat) (w w' : World) : Prop := ∀ (p : Addr) (v : Value), B ≤ p.block → w.cell? p = some v → w'.cell? p = some v
theorem KeptB.setCell {B : Nat} {w : World} {p : Addr} (hp : p.block < B) (u : Value) : KeptB B w (w.setCell p u) := fun q v hq hv => by
  rw [← hv]
  unfold World.cell?
  rw [Below.heap_setCell w p u q.block (by omega)]
theorem KeptB.of {B : Nat} {w w' : World} (h : Kept w w') : KeptB B w w' := fun p v _ hv => h p v hv
/-- .. all of it made from block B on -/
def IntsN (B : Nat) (w : World) (A : Option Addr) (c : Nat) (l : List Nat) : Prop := Ints w A c l ∧ ∀ a, A = some a → B ≤ a.block
def RLstN (B : Nat) (w : World) (cs : List Value) (l : List Nat) : Prop := ∃ A C, cs = [.slice A l.length C] ∧ IntsN B w A C l
def ListsN (B : Nat) (w : World) (A : Option Addr) (c : Nat) (l : List (List Nat)) : Prop := Slc w 1 24 (RLstN B w) A c l ∧ ∀ a, A = some a → B ≤ a.block
theorem slcN_mono {α : Type} {B k z c : Nat} {w w' : World} {R R' : List Value → α → Prop} {A : Option Addr} {l : List α} (h : Slc w k z R A c l) (hA : ∀ a, A = some a → B ≤ a.block) (hk : KeptB B w w') (hR : ∀ cs x, R cs x → R' cs x) : Slc w' k z R' A c l := by
  obtain ⟨h2, h3, h4, h5⟩ := h
  refine ⟨h2, h3, h4, fun h0 => ?_⟩
  obtain ⟨b, o, hAe, hx⟩ := h5 h0
  have hb := hA _ hAe
  refine ⟨b, o, hAe, fun i x hi => ?_⟩
  obtain ⟨cs, hr, hc, hw⟩ := hx i x hi
  exact ⟨cs, hR _ _ hr, hc, fun j v hj => hk _ _ hb (hw j v hj)⟩
theorem IntsN.keptB {B c : Nat} {w w' : World} {A : Option Addr} {l : List Nat} (h : IntsN B w A c l) (hk : KeptB B w w') : IntsN B w' A c l := ⟨slcN_mono h.1 h.2 hk fun _ _ h => h, h.2⟩
theorem ListsN.keptB {B c : Nat} {w w' : World} {A : Option Addr} {l : List (List Nat)} (h : ListsN B w A c l) (hk : KeptB B w w') : ListsN B w' A c l := ⟨slcN_mono h.1 h.2 hk fun _ _ ⟨A, C, e, h⟩ => ⟨A, C, e, h.keptB hk⟩, h.2⟩
theorem ListsN.base {B B' c : Nat} {w : World} {A : Option Addr} {l : List (List Nat)} (h : ListsN B w A c l) (hb : B' ≤ B) : ListsN B' w A c l := ⟨Slc.mono h.1 (Kept.refl _) fun _ _ ⟨A, C, e, h⟩ => ⟨A, C, e, h.1, fun a ha => Nat.le_trans hb (h.2 a ha)⟩, fun a ha => Nat.le_trans hb (h.2 a ha)⟩
theorem IntsN.base {B B' c : Nat} {w : World} {A : Option Addr} {l : List Nat} (h : IntsN B w A c l) (hb : B' ≤ B) : IntsN B' w A c l := ⟨h.1, fun a ha => Nat.le_trans hb (h.2 a ha)⟩
theorem ListsN.lists {B c : Nat} {w : World} {A : Option Addr} {l : List (List Nat)} (h : ListsN B w A c l) : Lists w A c l := Slc.mono h.1 (Kept.refl _) fun _ _ ⟨A, C, e, h⟩ => ⟨A, C, e, h.1⟩
theorem ListsN.at_ {B : Nat} {w : World} {A : Option Addr} {c : Nat} {l : List (List Nat)} {i : Nat} (h : ListsN B w A c l) (hi : i < l.length) : ∃ x b o A' c', l[i]? = some x ∧ A = some ⟨b, o, none⟩ ∧ IntsN B w A' c' x ∧ w.cell? ⟨b, o + i, none⟩ = some (.slice A' x.length c') := by
  obtain ⟨x, b, o, cs, h1, h2, ⟨A', c', rfl, h3⟩, _, h4⟩ := Slc.at_ h.1 hi
  refine ⟨x, b, o, A', c', h1, h2, h3, ?_⟩
  have := h4 0 _ rfl
  simpa using this
theorem Row.newN {w : World} {B : Nat} {v : Value} {l : List Nat} (h : Row w B v l) (hl : l.length ≤ 1000000) : ∃ A C, v = .slice A l.length C ∧ IntsN B w A C l := by
  obtain ⟨A, C, e, h2⟩ := h.slc (z := 8) (by omega)
  refine ⟨A, C, e, h2, fun a ha => ?_⟩
  obtain ⟨ho, _⟩ := Own.base h (g := a.block) (by
    obtain ⟨css, _, _, _, hd⟩ := h
    rcases hd with ⟨rfl, _⟩ | ⟨g, cap, cur, rfl, _⟩
    · injection e with e1; rw [ha] at e1; cases e1
    · injection e with e1; rw [ha] at e1; injection e1 with e1; rw [← e1]; rfl)
  exact ho
theorem Outs.listsN (h : Outs w0 w pb kb V ov cl) (hc : CS w0 w cnt pb kb lb V p b l t I) (hI : ∀ c ∈ cl, I (3 * c)) (hp : ∀ c, (p c).length ≤ 1000000) (hl : cl.length ≤ 1000000) : ∃ A C, ov = .slice A (cl.map p).length C ∧ ListsN w0.heap.size w A C (cl.map p) := by
  obtain ⟨css, h1, h2, h3⟩ := h.own
  have h4 : Own w w0.heap.size 26 1 (RLstN w0.heap.size w) ov (cl.map p) := by
    refine ⟨css, by simpa using h1, fun i cs x hcs hx => ?_, by simpa using h3⟩
    rw [List.getElem?_map] at hx
    obtain ⟨y, hy, rfl⟩ := Option.map_eq_some_iff.1 hx
    obtain ⟨e1, e2⟩ := h2 i cs y hcs hy
    refine ⟨?_, e2⟩
    have hr := hc.fam.own (3 * y) (hI y (List.mem_of_getElem? hy))
    rw [cL_p] at hr
    obtain ⟨A, C, e3, e4⟩ := Row.newN hr (hp y)
    exact ⟨A, C, by rw [e1, e3], e4⟩
  obtain ⟨A, C, e, h5⟩ := h4.slc (z := 24) (by simp; omega)
  refine ⟨A, C, e, h5, fun a ha => ?_⟩
  obtain ⟨ho, _⟩ := Own.base h4 (g := a.block) (by
    obtain ⟨css, _, _, _, hd⟩ := h4
    rcases hd with ⟨rfl, _⟩ | ⟨g, cap, cur, rfl, _⟩
    · injection e with e1; rw [ha] at e1; cases e1
    · injection e with e1; rw [ha] at e1; injection e1 with e1; rw [← e1]; rfl)
  exact ho
theorem Outs.lists (h : Outs w0 w pb kb V ov cl) (hc : CS w0 w cnt pb kb lb V p b l t I) (hI : ∀ c ∈ cl, I (3 * c)) (hp : ∀ c, (p c).length ≤ 1000000) (hl : cl.length ≤ 1000000) : ∃ A C, ov = .slice A (cl.map p).length C ∧ Lists w A C (cl.map p) := by
  obtain ⟨css, h1, h2, h3⟩ := h.own
  have h4 : Own w w0.heap.size 26 1 (RLst w) ov (cl.map p) := by
    refine ⟨css, by simpa using h1, fun i cs x hcs hx => ?_, by simpa using h3⟩
    rw [List.getElem?_map] at hx
    obtain ⟨y, hy, rfl⟩ := Option.map_eq_some_iff.1 hx
    obtain ⟨e1, e2⟩ := h2 i cs y hcs hy
    refine ⟨?_, e2⟩
    have hr := hc.fam.own (3 * y) (hI y (List.mem_of_getElem? hy))
    rw [cL_p] at hr
    obtain ⟨A, C, e3, e4⟩ := hr.slc (z := 8) (by have := hp y; omega)
    exact ⟨A, C, by rw [e1, e3], e4⟩
  exact h4.slc (z := 24) (by simp; omega)
end
theorem Gph.kept {w w' : World} {g n : Nat} {adj : Nat → List Nat} (h : Gph w g n adj) (hb : Below w.heap.size w w') : Gph w' g n adj := by
  obtain ⟨A, C, h1, h2⟩ := h
  exact ⟨A, C, h1.next hb, fun i hi => (h2 i hi).kept (Kept.of_below hb)⟩
end Go.Proofs.Ytodhianmaogfpaa
