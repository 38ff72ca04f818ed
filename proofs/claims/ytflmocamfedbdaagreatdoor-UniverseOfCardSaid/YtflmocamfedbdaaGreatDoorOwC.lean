/- Words for index.own: stores into one block leave the blocks of other types. -/
import Derived.Test.YtflmocamfedbdaaGreatDoorOwA
namespace Go.Proofs.YtflmocamfedbdaaGreatDoor
set_option linter.unusedSimpArgs false
set_option linter.unusedVariables false
open Go.RowKit
theorem RP.fkeep {w w' : World} {r : Raw} {p : Pkg} (h : RP (flt TB w) r p) (hk : KeepB (fun t => TB t = true) w w') : RP (flt TB w') r p := h.kept (flt_mono hk)
theorem Clss.fkeep {w w' : World} {A : Option Addr} {c : Nat} {l : List (List Atm)} (h : Clss (flt TB w) A c l) (hk : KeepB (fun t => TB t = true) w w') : Clss (flt TB w') A c l := h.kept (flt_mono hk)
theorem Atms.fkeep {w w' : World} {A : Option Addr} {c : Nat} {l : List Atm} (h : Atms (flt TB w) A c l) (hk : KeepB (fun t => TB t = true) w w') : Atms (flt TB w') A c l := h.kept (flt_mono hk)
theorem Prvs.fkeep {w w' : World} {A : Option Addr} {c : Nat} {l : List Prv} (h : Prvs (flt TB w) A c l) (hk : KeepB (fun t => TB t = true) w w') : Prvs (flt TB w') A c l := h.kept (flt_mono hk)
/-- three fields stored -/
theorem own_keep1 {w : World} {g i : Nat} {cs : Array Value} (h : Blk w g 26 cs) (u : Value) : KeepB (fun t => TB t = true) w (w.setCell ⟨g, i, none⟩ u) :=
  KeepB.setCell (p := ⟨g, i, none⟩) h (show ¬ TB 26 = true by decide) u
theorem own_below1 {w w0 : World} {g i : Nat} (hB : Below w0.heap.size w0 w) (hg : w0.heap.size ≤ g) (u : Value) : Below w0.heap.size w0 (w.setCell ⟨g, i, none⟩ u) := hB.setCell (p := ⟨g, i, none⟩) hg u
theorem own_far1 {w : World} {g i t : Nat} {cs : Array Value} (h : Blk w (g + 1) t cs) (u : Value) : Blk (w.setCell ⟨g, i, none⟩ u) (g + 1) t cs := h.far (p := ⟨g, i, none⟩) (by show g + 1 ≠ g; omega) u
theorem own_set3a {w : World} {g : Nat} {v0 v1 v2 v3 v4 v5 v6 v7 v8 a b c : Value} (hK : Blk w g 26 #[v0, v1, v2, v3, v4, v5, v6, v7, v8]) (zer : Array Value) (hZ : Blk w (g + 1) 26 zer) {w0 : World} (hB : Below w0.heap.size w0 w) (hg : w0.heap.size ≤ g) :
    Blk (((w.setCell ⟨g, 2, none⟩ a).setCell ⟨g, 3, none⟩ b).setCell ⟨g, 4, none⟩ c) g 26 #[v0, v1, a, b, c, v5, v6, v7, v8] ∧ Blk (((w.setCell ⟨g, 2, none⟩ a).setCell ⟨g, 3, none⟩ b).setCell ⟨g, 4, none⟩ c) (g + 1) 26 zer ∧
      Below w0.heap.size w0 (((w.setCell ⟨g, 2, none⟩ a).setCell ⟨g, 3, none⟩ b).setCell ⟨g, 4, none⟩ c) ∧ KeepB (fun t => TB t = true) w (((w.setCell ⟨g, 2, none⟩ a).setCell ⟨g, 3, none⟩ b).setCell ⟨g, 4, none⟩ c) := by
  have h1 := hK.set_ 2 a
  have h2 := h1.set_ 3 b
  have h3 := h2.set_ 4 c
  exact ⟨h3, own_far1 (own_far1 (own_far1 hZ a) b) c, own_below1 (own_below1 (own_below1 hB hg a) hg b) hg c, (own_keep1 hK a).trans ((own_keep1 h1 b).trans (own_keep1 h2 c))⟩
theorem own_set3b {w : World} {g : Nat} {v0 v1 v2 v3 v4 v5 v6 v7 v8 a b c : Value} (hK : Blk w g 26 #[v0, v1, v2, v3, v4, v5, v6, v7, v8]) (zer : Array Value) (hZ : Blk w (g + 1) 26 zer) {w0 : World} (hB : Below w0.heap.size w0 w) (hg : w0.heap.size ≤ g) :
    Blk (((w.setCell ⟨g, 5, none⟩ a).setCell ⟨g, 6, none⟩ b).setCell ⟨g, 7, none⟩ c) g 26 #[v0, v1, v2, v3, v4, a, b, c, v8] ∧ Blk (((w.setCell ⟨g, 5, none⟩ a).setCell ⟨g, 6, none⟩ b).setCell ⟨g, 7, none⟩ c) (g + 1) 26 zer ∧
      Below w0.heap.size w0 (((w.setCell ⟨g, 5, none⟩ a).setCell ⟨g, 6, none⟩ b).setCell ⟨g, 7, none⟩ c) ∧ KeepB (fun t => TB t = true) w (((w.setCell ⟨g, 5, none⟩ a).setCell ⟨g, 6, none⟩ b).setCell ⟨g, 7, none⟩ c) := by
  have h1 := hK.set_ 5 a
  have h2 := h1.set_ 6 b
  have h3 := h2.set_ 7 c
  exact ⟨h3, own_far1 (own_far1 (own_far1 hZ a) b) c, own_below1 (own_below1 (own_below1 hB hg a) hg b) hg c, (own_keep1 hK a).trans ((own_keep1 h1 b).trans (own_keep1 h2 c))⟩
theorem blk_set9 {w : World} {g t : Nat} {a0 a1 a2 a3 a4 a5 a6 a7 a8 b0 b1 b2 b3 b4 b5 b6 b7 b8 : Value} (h : Blk w g t #[a0, a1, a2, a3, a4, a5, a6, a7, a8]) :
    Blk (((((((((w.setCell ⟨g, 0, none⟩ b0).setCell ⟨g, 1, none⟩ b1).setCell ⟨g, 2, none⟩ b2).setCell ⟨g, 3, none⟩ b3).setCell ⟨g, 4, none⟩ b4).setCell ⟨g, 5, none⟩ b5).setCell ⟨g, 6, none⟩ b6).setCell ⟨g, 7, none⟩ b7).setCell ⟨g, 8, none⟩ b8) g t #[b0, b1, b2, b3, b4, b5, b6, b7, b8] := by
  have h0 : Blk _ g t #[b0, a1, a2, a3, a4, a5, a6, a7, a8] := h.set_ 0 b0
  have h1 : Blk _ g t #[b0, b1, a2, a3, a4, a5, a6, a7, a8] := h0.set_ 1 b1
  have h2 : Blk _ g t #[b0, b1, b2, a3, a4, a5, a6, a7, a8] := h1.set_ 2 b2
  have h3 : Blk _ g t #[b0, b1, b2, b3, a4, a5, a6, a7, a8] := h2.set_ 3 b3
  have h4 : Blk _ g t #[b0, b1, b2, b3, b4, a5, a6, a7, a8] := h3.set_ 4 b4
  have h5 : Blk _ g t #[b0, b1, b2, b3, b4, b5, a6, a7, a8] := h4.set_ 5 b5
  have h6 : Blk _ g t #[b0, b1, b2, b3, b4, b5, b6, a7, a8] := h5.set_ 6 b6
  have h7 : Blk _ g t #[b0, b1, b2, b3, b4, b5, b6, b7, a8] := h6.set_ 7 b7
  have h8 : Blk _ g t #[b0, b1, b2, b3, b4, b5, b6, b7, b8] := h7.set_ 8 b8
  exact h8
theorem own_set9 {w w0 : World} {g : Nat} {a0 a1 a2 a3 a4 a5 a6 a7 a8 b0 b1 b2 b3 b4 b5 b6 b7 b8 : Value} (h : Blk w g 26 #[a0, a1, a2, a3, a4, a5, a6, a7, a8]) (hB : Below w0.heap.size w0 w) (hg : w0.heap.size ≤ g) :
    Blk (((((((((w.setCell ⟨g, 0, none⟩ b0).setCell ⟨g, 1, none⟩ b1).setCell ⟨g, 2, none⟩ b2).setCell ⟨g, 3, none⟩ b3).setCell ⟨g, 4, none⟩ b4).setCell ⟨g, 5, none⟩ b5).setCell ⟨g, 6, none⟩ b6).setCell ⟨g, 7, none⟩ b7).setCell ⟨g, 8, none⟩ b8) g 26 #[b0, b1, b2, b3, b4, b5, b6, b7, b8] ∧ Below w0.heap.size w0 (((((((((w.setCell ⟨g, 0, none⟩ b0).setCell ⟨g, 1, none⟩ b1).setCell ⟨g, 2, none⟩ b2).setCell ⟨g, 3, none⟩ b3).setCell ⟨g, 4, none⟩ b4).setCell ⟨g, 5, none⟩ b5).setCell ⟨g, 6, none⟩ b6).setCell ⟨g, 7, none⟩ b7).setCell ⟨g, 8, none⟩ b8) ∧ KeepB (fun t => TB t = true) w (((((((((w.setCell ⟨g, 0, none⟩ b0).setCell ⟨g, 1, none⟩ b1).setCell ⟨g, 2, none⟩ b2).setCell ⟨g, 3, none⟩ b3).setCell ⟨g, 4, none⟩ b4).setCell ⟨g, 5, none⟩ b5).setCell ⟨g, 6, none⟩ b6).setCell ⟨g, 7, none⟩ b7).setCell ⟨g, 8, none⟩ b8) := by
  have h0 : Blk _ g 26 #[b0, a1, a2, a3, a4, a5, a6, a7, a8] := h.set_ 0 b0
  have k0 := own_keep1 (i := 0) h b0
  have B0 := own_below1 (g := g) (i := 0) hB hg b0
  have h1 : Blk _ g 26 #[b0, b1, a2, a3, a4, a5, a6, a7, a8] := h0.set_ 1 b1
  have k1 := own_keep1 (i := 1) h0 b1
  have B1 := own_below1 (g := g) (i := 1) B0 hg b1
  have h2 : Blk _ g 26 #[b0, b1, b2, a3, a4, a5, a6, a7, a8] := h1.set_ 2 b2
  have k2 := own_keep1 (i := 2) h1 b2
  have B2 := own_below1 (g := g) (i := 2) B1 hg b2
  have h3 : Blk _ g 26 #[b0, b1, b2, b3, a4, a5, a6, a7, a8] := h2.set_ 3 b3
  have k3 := own_keep1 (i := 3) h2 b3
  have B3 := own_below1 (g := g) (i := 3) B2 hg b3
  have h4 : Blk _ g 26 #[b0, b1, b2, b3, b4, a5, a6, a7, a8] := h3.set_ 4 b4
  have k4 := own_keep1 (i := 4) h3 b4
  have B4 := own_below1 (g := g) (i := 4) B3 hg b4
  have h5 : Blk _ g 26 #[b0, b1, b2, b3, b4, b5, a6, a7, a8] := h4.set_ 5 b5
  have k5 := own_keep1 (i := 5) h4 b5
  have B5 := own_below1 (g := g) (i := 5) B4 hg b5
  have h6 : Blk _ g 26 #[b0, b1, b2, b3, b4, b5, b6, a7, a8] := h5.set_ 6 b6
  have k6 := own_keep1 (i := 6) h5 b6
  have B6 := own_below1 (g := g) (i := 6) B5 hg b6
  have h7 : Blk _ g 26 #[b0, b1, b2, b3, b4, b5, b6, b7, a8] := h6.set_ 7 b7
  have k7 := own_keep1 (i := 7) h6 b7
  have B7 := own_below1 (g := g) (i := 7) B6 hg b7
  have h8 : Blk _ g 26 #[b0, b1, b2, b3, b4, b5, b6, b7, b8] := h7.set_ 8 b8
  have k8 := own_keep1 (i := 8) h7 b8
  have B8 := own_below1 (g := g) (i := 8) B7 hg b8
  exact ⟨h8, B8, k0.trans (k1.trans (k2.trans (k3.trans (k4.trans (k5.trans (k6.trans (k7.trans k8)))))))⟩
end Go.Proofs.YtflmocamfedbdaaGreatDoor
