/- The finder of components in memory, and what a store does to it. -/
import Derived.Test.YtodhianmaogfpaaScA
namespace Go.Proofs.Ytodhianmaogfpaa
set_option linter.unusedSimpArgs false
set_option linter.unusedVariables false
open Go.RowKit
def sl (b n : Nat) : Value := .slice (some ⟨b, 0, none⟩) n n
def finV (n b0 b1 b2 b3 : Nat) (sv : Value) : Nat → Value
  | 0 => .slice (some ⟨b0, 0, none⟩) n n
  | 1 => .slice (some ⟨b1, 0, none⟩) n n
  | 2 => .slice (some ⟨b2, 0, none⟩) n n
  | 3 => .slice (some ⟨b3, 0, none⟩) n n
  | _ => sv
def tsL (n : Nat) (s : TS) : Nat → List Nat
  | 0 => (List.range n).map s.seen
  | 1 => (List.range n).map s.low
  | 2 => (List.range n).map s.on
  | 3 => (List.range n).map s.of
  | _ => s.stack
def TF (t : Nat) : Prop := t ≠ 3 ∧ t ≠ 47
theorem upf_upd : (upf : (Nat → Nat) → Nat → Nat → Nat → Nat) = upd := rfl
theorem below_drewNB {B : Nat} {a w : World} (h : Below B a w) (m : Nat) : Below B a (w.drewN m) := ⟨h.os, h.tape, h.output, h.size, h.block⟩
/-- the finder in memory; what is not its own is as it was in w0 -/
structure Fin (w0 w : World) (B fb n : Nat) (gv : Value) (b0 b1 b2 b3 : Nat) (s : TS) (sv : Value) : Prop where
  box : Blk w fb 47 #[gv, .slice (some ⟨b0, 0, none⟩) n n, .slice (some ⟨b1, 0, none⟩) n n, .slice (some ⟨b2, 0, none⟩) n n, sv, .int .i64 (s.time : Nat), .slice (some ⟨b3, 0, none⟩) n n, .int .i64 (s.cnt : Nat)]
  fam : Fam w B (finV n b0 b1 b2 b3 sv) (tsL n s) (fun k => k < 5)
  base : B ≤ fb
  below : Below B w0 w
  keep : KeepB TF w0 w
  size : B ≤ w.heap.size
variable {w0 w w' : World} {B fb n : Nat} {gv : Value} {b0 b1 b2 b3 : Nat} {s : TS} {sv : Value}
theorem Fin.todo (h : Fin w0 w B fb n gv b0 b1 b2 b3 s sv) {s' : TS} (h1 : s'.seen = s.seen) (h2 : s'.low = s.low) (h3 : s'.on = s.on) (h4 : s'.of = s.of) (h5 : s'.stack = s.stack) (h6 : s'.time = s.time) (h7 : s'.cnt = s.cnt) : Fin w0 w B fb n gv b0 b1 b2 b3 s' sv :=
  ⟨by rw [h6, h7]; exact h.box, h.fam.congr (fun _ h => h) (fun _ _ => rfl) (fun k _ => by
    match k with
    | 0 => exact congrArg (fun f => (List.range n).map f) h1
    | 1 => exact congrArg (fun f => (List.range n).map f) h2
    | 2 => exact congrArg (fun f => (List.range n).map f) h3
    | 3 => exact congrArg (fun f => (List.range n).map f) h4
    | _ + 4 => exact h5), h.base, h.below, h.keep, h.size⟩
theorem Fin.rebase (h : Fin w0 w B fb n gv b0 b1 b2 b3 s sv) : Fin w w B fb n gv b0 b1 b2 b3 s sv := ⟨h.box, h.fam, h.base, Below.refl _ _, KeepB.refl _ _, h.size⟩
theorem Fin.alloc (h : Fin w0 w B fb n gv b0 b1 b2 b3 s sv) (o : Obj) : Fin w0 (w.alloc o) B fb n gv b0 b1 b2 b3 s sv :=
  ⟨h.box.alloc o, h.fam.alloc o, h.base, h.below.alloc h.size o, h.keep.trans (KeepB.alloc o), by have := h.size; simp; omega⟩
theorem Fin.drewN (h : Fin w0 w B fb n gv b0 b1 b2 b3 s sv) (m : Nat) : Fin w0 (w.drewN m) B fb n gv b0 b1 b2 b3 s sv :=
  ⟨h.box.drewN m, h.fam.drewN m, h.base, below_drewNB h.below m, h.keep.trans (KeepB.drewN m), h.size⟩
theorem Fin.drew (h : Fin w0 w B fb n gv b0 b1 b2 b3 s sv) : Fin w0 w.drew B fb n gv b0 b1 b2 b3 s sv := h.drewN 1
theorem Fin.row (h : Fin w0 w B fb n gv b0 b1 b2 b3 s sv) {k : Nat} (hk : k < 5) : Row w B (finV n b0 b1 b2 b3 sv k) (tsL n s k) := h.fam.own k hk
theorem Fin.cells (h : Fin w0 w B fb n gv b0 b1 b2 b3 s sv) : w.cell? ⟨fb, 0, none⟩ = some gv ∧ w.cell? ⟨fb, 1, none⟩ = some (.slice (some ⟨b0, 0, none⟩) n n) ∧ w.cell? ⟨fb, 2, none⟩ = some (.slice (some ⟨b1, 0, none⟩) n n) ∧ w.cell? ⟨fb, 3, none⟩ = some (.slice (some ⟨b2, 0, none⟩) n n) ∧
    w.cell? ⟨fb, 4, none⟩ = some sv ∧ w.cell? ⟨fb, 5, none⟩ = some (.int .i64 (s.time : Nat)) ∧ w.cell? ⟨fb, 6, none⟩ = some (.slice (some ⟨b3, 0, none⟩) n n) ∧ w.cell? ⟨fb, 7, none⟩ = some (.int .i64 (s.cnt : Nat)) :=
  ⟨h.box.cell 0, h.box.cell 1, h.box.cell 2, h.box.cell 3, h.box.cell 4, h.box.cell 5, h.box.cell 6, h.box.cell 7⟩
theorem Fin.seenAt (h : Fin w0 w B fb n gv b0 b1 b2 b3 s sv) {v : Nat} (hv : v < n) : w.cell? ⟨b0, v, none⟩ = some (.int .i64 (s.seen v : Nat)) := Row.cell (h.row (k := 0) (by omega)) (map_get s.seen hv)
theorem Fin.lowAt (h : Fin w0 w B fb n gv b0 b1 b2 b3 s sv) {v : Nat} (hv : v < n) : w.cell? ⟨b1, v, none⟩ = some (.int .i64 (s.low v : Nat)) := Row.cell (h.row (k := 1) (by omega)) (map_get s.low hv)
theorem Fin.onAt (h : Fin w0 w B fb n gv b0 b1 b2 b3 s sv) {v : Nat} (hv : v < n) : w.cell? ⟨b2, v, none⟩ = some (.int .i64 (s.on v : Nat)) := Row.cell (h.row (k := 2) (by omega)) (map_get s.on hv)
theorem Fin.ofAt (h : Fin w0 w B fb n gv b0 b1 b2 b3 s sv) {v : Nat} (hv : v < n) : w.cell? ⟨b3, v, none⟩ = some (.int .i64 (s.of v : Nat)) := Row.cell (h.row (k := 3) (by omega)) (map_get s.of hv)
/-- a store into the box -/
theorem Fin.boxed (h : Fin w0 w B fb n gv b0 b1 b2 b3 s sv) (i : Nat) (u : Value) : Fam (w.setCell ⟨fb, i, none⟩ u) B (finV n b0 b1 b2 b3 sv) (tsL n s) (fun k => k < 5) ∧ Below B w0 (w.setCell ⟨fb, i, none⟩ u) ∧ KeepB TF w0 (w.setCell ⟨fb, i, none⟩ u) ∧ B ≤ (w.setCell ⟨fb, i, none⟩ u).heap.size :=
  ⟨h.fam.other (fun cur hc => by
      have := h.box
      unfold Blk at this
      rw [show (⟨fb, i, none⟩ : Addr).block = fb from rfl, this] at hc
      injection hc with hc
      injection hc with _ hc
      exact absurd hc (by decide)) u, h.below.setCell h.base u, h.keep.trans (KeepB.setCell (p := ⟨fb, i, none⟩) h.box (by unfold TF; decide) u), by have := h.size; simpa [World.setCell] using this⟩
theorem Fin.setTime (h : Fin w0 w B fb n gv b0 b1 b2 b3 s sv) (t : Nat) : Fin w0 (w.setCell ⟨fb, 5, none⟩ (.int .i64 t)) B fb n gv b0 b1 b2 b3 { s with time := t } sv :=
  ⟨h.box.set_ 5 _, (h.boxed 5 _).1, h.base, (h.boxed 5 _).2.1, (h.boxed 5 _).2.2.1, (h.boxed 5 _).2.2.2⟩
theorem Fin.setCnt (h : Fin w0 w B fb n gv b0 b1 b2 b3 s sv) (t : Nat) : Fin w0 (w.setCell ⟨fb, 7, none⟩ (.int .i64 t)) B fb n gv b0 b1 b2 b3 { s with cnt := t } sv :=
  ⟨h.box.set_ 7 _, (h.boxed 7 _).1, h.base, (h.boxed 7 _).2.1, (h.boxed 7 _).2.2.1, (h.boxed 7 _).2.2.2⟩
/-- a store into a row -/
theorem Fin.rowed (h : Fin w0 w B fb n gv b0 b1 b2 b3 s sv) {k g cap m : Nat} (hk : k < 5) (hv : finV n b0 b1 b2 b3 sv k = .slice (some ⟨g, 0, none⟩) m cap) {i : Nat} (hi : i < (tsL n s k).length) (x : Nat) :
    Fam (w.setCell ⟨g, i, none⟩ (.int .i64 x)) B (finV n b0 b1 b2 b3 sv) (upf (tsL n s) k ((tsL n s k).set i x)) (fun k => k < 5) ∧ Below B w0 (w.setCell ⟨g, i, none⟩ (.int .i64 x)) ∧ KeepB TF w0 (w.setCell ⟨g, i, none⟩ (.int .i64 x)) ∧ B ≤ (w.setCell ⟨g, i, none⟩ (.int .i64 x)).heap.size ∧
      Blk (w.setCell ⟨g, i, none⟩ (.int .i64 x)) fb 47 #[gv, .slice (some ⟨b0, 0, none⟩) n n, .slice (some ⟨b1, 0, none⟩) n n, .slice (some ⟨b2, 0, none⟩) n n, sv, .int .i64 (s.time : Nat), .slice (some ⟨b3, 0, none⟩) n n, .int .i64 (s.cnt : Nat)] := by
  have hr := h.row hk
  rw [hv] at hr
  obtain ⟨hb, cur, hc⟩ := Own.base hr (g := g) rfl
  refine ⟨h.fam.put hk hv hi x, h.below.setCell hb _, h.keep.trans (KeepB.setCell (p := ⟨g, i, none⟩) hc (by unfold TF; decide) _), by have := h.size; simpa [World.setCell] using this, h.box.far (p := ⟨g, i, none⟩) ?_ _⟩
  intro e
  have hbx := h.box
  unfold Blk at hbx
  rw [show fb = g from e, hc] at hbx
  injection hbx with hbx
  injection hbx with _ hbx
  exact absurd hbx (by decide)
theorem Fin.setSeen (h : Fin w0 w B fb n gv b0 b1 b2 b3 s sv) {v : Nat} (hv : v < n) (x : Nat) : Fin w0 (w.setCell ⟨b0, v, none⟩ (.int .i64 x)) B fb n gv b0 b1 b2 b3 { s with seen := upd s.seen v x } sv := by
  obtain ⟨h1, h2, h3, h4, h5⟩ := h.rowed (k := 0) (by omega) rfl (i := v) (by simpa [tsL] using hv) x
  refine ⟨h5, h1.congr (fun _ h => h) (fun _ _ => rfl) (fun k _ => ?_), h.base, h2, h3, h4⟩
  by_cases e : k = 0
  · subst e
    rw [upf_at]
    exact (map_set s.seen).symm
  · rw [upf_ne e]
    match k, e with
    | 0, e => first | rfl | exact absurd rfl e
    | 1, e => first | rfl | exact absurd rfl e
    | 2, e => first | rfl | exact absurd rfl e
    | 3, e => first | rfl | exact absurd rfl e
    | _ + 4, _ => rfl
theorem Fin.setLow (h : Fin w0 w B fb n gv b0 b1 b2 b3 s sv) {v : Nat} (hv : v < n) (x : Nat) : Fin w0 (w.setCell ⟨b1, v, none⟩ (.int .i64 x)) B fb n gv b0 b1 b2 b3 { s with low := upd s.low v x } sv := by
  obtain ⟨h1, h2, h3, h4, h5⟩ := h.rowed (k := 1) (by omega) rfl (i := v) (by simpa [tsL] using hv) x
  refine ⟨h5, h1.congr (fun _ h => h) (fun _ _ => rfl) (fun k _ => ?_), h.base, h2, h3, h4⟩
  by_cases e : k = 1
  · subst e
    rw [upf_at]
    exact (map_set s.low).symm
  · rw [upf_ne e]
    match k, e with
    | 0, e => first | rfl | exact absurd rfl e
    | 1, e => first | rfl | exact absurd rfl e
    | 2, e => first | rfl | exact absurd rfl e
    | 3, e => first | rfl | exact absurd rfl e
    | _ + 4, _ => rfl
theorem Fin.setOn (h : Fin w0 w B fb n gv b0 b1 b2 b3 s sv) {v : Nat} (hv : v < n) (x : Nat) : Fin w0 (w.setCell ⟨b2, v, none⟩ (.int .i64 x)) B fb n gv b0 b1 b2 b3 { s with on := upd s.on v x } sv := by
  obtain ⟨h1, h2, h3, h4, h5⟩ := h.rowed (k := 2) (by omega) rfl (i := v) (by simpa [tsL] using hv) x
  refine ⟨h5, h1.congr (fun _ h => h) (fun _ _ => rfl) (fun k _ => ?_), h.base, h2, h3, h4⟩
  by_cases e : k = 2
  · subst e
    rw [upf_at]
    exact (map_set s.on).symm
  · rw [upf_ne e]
    match k, e with
    | 0, e => first | rfl | exact absurd rfl e
    | 1, e => first | rfl | exact absurd rfl e
    | 2, e => first | rfl | exact absurd rfl e
    | 3, e => first | rfl | exact absurd rfl e
    | _ + 4, _ => rfl
theorem Fin.setOf (h : Fin w0 w B fb n gv b0 b1 b2 b3 s sv) {v : Nat} (hv : v < n) (x : Nat) : Fin w0 (w.setCell ⟨b3, v, none⟩ (.int .i64 x)) B fb n gv b0 b1 b2 b3 { s with of := upd s.of v x } sv := by
  obtain ⟨h1, h2, h3, h4, h5⟩ := h.rowed (k := 3) (by omega) rfl (i := v) (by simpa [tsL] using hv) x
  refine ⟨h5, h1.congr (fun _ h => h) (fun _ _ => rfl) (fun k _ => ?_), h.base, h2, h3, h4⟩
  by_cases e : k = 3
  · subst e
    rw [upf_at]
    exact (map_set s.of).symm
  · rw [upf_ne e]
    match k, e with
    | 0, e => first | rfl | exact absurd rfl e
    | 1, e => first | rfl | exact absurd rfl e
    | 2, e => first | rfl | exact absurd rfl e
    | 3, e => first | rfl | exact absurd rfl e
    | _ + 4, _ => rfl
/-- the stack in new hands -/
theorem Fin.setStack (h : Fin w0 w B fb n gv b0 b1 b2 b3 s sv) {sv' : Value} {l : List Nat} (hF : Fam w' B (finV n b0 b1 b2 b3 sv') (tsL n { s with stack := l }) (fun k => k < 5)) (hbx : Blk w' fb 47 #[gv, .slice (some ⟨b0, 0, none⟩) n n, .slice (some ⟨b1, 0, none⟩) n n, .slice (some ⟨b2, 0, none⟩) n n, sv, .int .i64 (s.time : Nat), .slice (some ⟨b3, 0, none⟩) n n, .int .i64 (s.cnt : Nat)]) (hb : Below B w0 w') (hk : KeepB TF w0 w') (hz : B ≤ w'.heap.size) :
    Fin w0 (w'.setCell ⟨fb, 4, none⟩ sv') B fb n gv b0 b1 b2 b3 { s with stack := l } sv' := by
  refine ⟨hbx.set_ 4 _, hF.other (fun cur hc => ?_) _, h.base, hb.setCell h.base _, hk.trans (KeepB.setCell (p := ⟨fb, 4, none⟩) hbx (by unfold TF; decide) _), by simpa [World.setCell] using hz⟩
  unfold Blk at hbx
  rw [show (⟨fb, 4, none⟩ : Addr).block = fb from rfl, hbx] at hc
  injection hc with hc
  injection hc with _ hc
  exact absurd hc (by decide)
theorem fam_stack {l : List Nat} {sv' : Value} (h : Fam w' B (upf (finV n b0 b1 b2 b3 sv) 4 sv') (upf (tsL n s) 4 l) (fun k => k < 5)) : Fam w' B (finV n b0 b1 b2 b3 sv') (tsL n { s with stack := l }) (fun k => k < 5) := by
  refine h.congr (fun _ h => h) (fun k hk => ?_) (fun k hk => ?_)
  · by_cases e : k = 4
    · subst e; rw [upf_at]; rfl
    · rw [upf_ne e]
      match k, hk, e with
      | 0, _, _ => rfl
      | 1, _, _ => rfl
      | 2, _, _ => rfl
      | 3, _, _ => rfl
      | k + 4, hk, e => omega
  · by_cases e : k = 4
    · subst e; rw [upf_at]; rfl
    · rw [upf_ne e]
      match k, hk, e with
      | 0, _, _ => rfl
      | 1, _, _ => rfl
      | 2, _, _ => rfl
      | 3, _, _ => rfl
      | k + 4, hk, e => omega
theorem Fin.popStack {g cap x : Nat} {b : List Nat} (h : Fin w0 w B fb n gv b0 b1 b2 b3 s (.slice (some ⟨g, 0, none⟩) (b.length + 1) cap)) (hs : s.stack = b ++ [x]) :
    Fin w0 (w.setCell ⟨fb, 4, none⟩ (.slice (some ⟨g, 0, none⟩) b.length cap)) B fb n gv b0 b1 b2 b3 { s with stack := b } (.slice (some ⟨g, 0, none⟩) b.length cap) := by
  have h1 := h.fam.cut (k := 4) (g := g) (n := b.length + 1) (cap := cap) (by omega) rfl (m := b.length) (by simp [tsL, hs])
  have h2 : (tsL n s 4).take b.length = b := by simp [tsL, hs]
  rw [h2] at h1
  exact h.setStack (fam_stack h1) h.box h.below h.keep h.size
end Go.Proofs.Ytodhianmaogfpaa
