/- The reference's Graph: its contract. -/
import Derived.Test.YtodhianmaogfpaaScA
namespace Go.Proofs.Ytodhianmaogfpaa
set_option linter.unusedSimpArgs false
set_option linter.unusedVariables false
open Go.RowKit
attribute [local go_sem ↓] Go.wp_at_zero Go.wp_at_succ
def slB (b n : Nat) : Value := .slice (some ⟨b, 0, none⟩) n n
def rowB (n : Nat) (f : Nat → Bool) : Array Value := arrV n fun j => .bool (f j)
theorem rowB_set {n j : Nat} {f : Nat → Bool} {x : Bool} : (rowB n f).setIfInBounds j (.bool x) = rowB n (upf f j x) := by
  unfold rowB
  rw [arr_set]
  unfold arrV
  congr 1
  apply List.map_congr_left
  intro i _
  by_cases e : i = j
  · subst e; rw [upf_at, upf_at]
  · rw [upf_ne e, upf_ne e]
theorem rowB_made (n : Nat) : madeCells #[.bool false] n = rowB n fun _ => false := arr_made _ n
/-- a table of truths, its first k rows made -/
structure GM (w0 w : World) (gb n k : Nat) (bf : Nat → Nat) (M : Nat → Nat → Bool) : Prop where
  out : Blk w gb 30 (arrV n fun i => if i < k then .slice (some ⟨bf i, 0, none⟩) n n else .slice none 0 0)
  rows : ∀ i, i < k → Blk w (bf i) 4 (rowB n (M i))
  inj : ∀ i j, i < k → j < k → bf i = bf j → i = j
  low : ∀ i, i < k → w0.heap.size ≤ bf i
  below : Below w0.heap.size w0 w
  gB : w0.heap.size ≤ gb
section
variable {w0 w : World} {gb n k : Nat} {bf : Nat → Nat} {M : Nat → Nat → Bool}
theorem GM.alloc (h : GM w0 w gb n k bf M) (o : Obj) : GM w0 (w.alloc o) gb n k bf M := ⟨h.out.alloc o, fun i hi => (h.rows i hi).alloc o, h.inj, h.low, below_alloc h.below o, h.gB⟩
theorem below_drewNC {B : Nat} {a w : World} (h : Below B a w) (m : Nat) : Below B a (w.drewN m) := ⟨h.os, h.tape, h.output, h.size, h.block⟩
theorem GM.drewN (h : GM w0 w gb n k bf M) (m : Nat) : GM w0 (w.drewN m) gb n k bf M := ⟨h.out.drewN m, fun i hi => (h.rows i hi).drewN m, h.inj, h.low, below_drewNC h.below m, h.gB⟩
theorem GM.drew (h : GM w0 w gb n k bf M) : GM w0 w.drew gb n k bf M := h.drewN 1
theorem blk_ty {w : World} {g g' t t' : Nat} {cs cs' : Array Value} (h : Blk w g t cs) (h' : Blk w g' t' cs') (hne : t ≠ t') : g ≠ g' := by
  intro e
  subst e
  unfold Blk at h h'
  rw [h] at h'
  injection h' with h'
  injection h' with _ h'
  exact hne h'
theorem GM.rowAt (h : GM w0 w gb n k bf M) {i : Nat} (hi : i < k) (hn : i < n) : w.cell? ⟨gb, i, none⟩ = some (.slice (some ⟨bf i, 0, none⟩) n n) := by
  have := (h.out.cell i).trans (arr_get hn)
  rwa [if_pos hi] at this
theorem GM.at_ (h : GM w0 w gb n k bf M) {i j : Nat} (hi : i < k) (hj : j < n) : w.cell? ⟨bf i, j, none⟩ = some (.bool (M i j)) := ((h.rows i hi).cell j).trans (arr_get hj)
def set2 (M : Nat → Nat → Bool) (i j : Nat) (x : Bool) : Nat → Nat → Bool := fun a => if a = i then upf (M i) j x else M a
theorem GM.put (h : GM w0 w gb n k bf M) {i j : Nat} (hi : i < k) (x : Bool) : GM w0 (w.setCell ⟨bf i, j, none⟩ (.bool x)) gb n k bf (set2 M i j x) := by
  refine ⟨h.out.far (p := ⟨bf i, j, none⟩) (blk_ty h.out (h.rows i hi) (by decide)) _, fun a ha => ?_, h.inj, h.low, h.below.setCell (h.low i hi) _, h.gB⟩
  by_cases e : a = i
  · subst e
    unfold set2
    rw [if_pos rfl, ← rowB_set]
    exact (h.rows a ha).set_ j _
  · unfold set2
    rw [if_neg e]
    exact (h.rows a ha).far (p := ⟨bf i, j, none⟩) (fun h2 => e (h.inj a i ha hi h2)) _
theorem GM.congr (h : GM w0 w gb n k bf M) {M' : Nat → Nat → Bool} (hM : ∀ a b, a < n → b < n → M' a b = M a b) (hk : k ≤ n) : GM w0 w gb n k bf M' :=
  ⟨h.out, fun i hi => by
    have : rowB n (M' i) = rowB n (M i) := by
      unfold rowB arrV
      congr 1
      apply List.map_congr_left
      intro j hj
      rw [hM i j (by omega) (List.mem_range.1 hj)]
    rw [this]; exact h.rows i hi, h.inj, h.low, h.below, h.gB⟩
/-- a row more -/
theorem GM.add (h : GM w0 w gb n k bf M) {cs : Array Value} {f : Nat → Bool} (hcs : cs = rowB n f) : GM w0 ((w.setCell ⟨gb, k, none⟩ (.slice (some ⟨w.heap.size, 0, none⟩) n n)).alloc (.cells cs 4)) gb n (k + 1) (upf bf k w.heap.size) (fun a => if a = k then f else M a) := by
  have hg : gb < w.heap.size := h.out.lt
  have hlt : ∀ i, i < k → bf i < w.heap.size := fun i hi => (h.rows i hi).lt
  have hsz : (w.setCell ⟨gb, k, none⟩ (.slice (some ⟨w.heap.size, 0, none⟩) n n)).heap.size = w.heap.size := by simp [World.setCell]
  refine ⟨?_, fun i hi => ?_, fun i j hi hj he => ?_, fun i hi => ?_, below_alloc (h.below.setCell h.gB _) _, h.gB⟩
  · have h1 := (h.out.set_ k (.slice (some ⟨w.heap.size, 0, none⟩) n n)).alloc (.cells cs 4)
    rw [arr_set] at h1
    have h2 : (upf (fun i => if i < k then Value.slice (some ⟨bf i, 0, none⟩) n n else .slice none 0 0) k (.slice (some ⟨w.heap.size, 0, none⟩) n n)) = fun i => if i < k + 1 then Value.slice (some ⟨upf bf k w.heap.size i, 0, none⟩) n n else .slice none 0 0 := by
      funext i
      by_cases e : i = k
      · subst e; rw [upf_at, upf_at, if_pos (by omega)]
      · rw [upf_ne e, upf_ne e]
        by_cases hi : i < k
        · rw [if_pos hi, if_pos (by omega)]
        · rw [if_neg hi, if_neg (by omega)]
    rw [← h2]; exact h1
  · by_cases e : i = k
    · subst e
      rw [upf_at]
      show Blk _ _ 4 (rowB n (if i = i then f else M i))
      rw [if_pos rfl, ← hcs]
      have h2 := blk_new1 (w.setCell ⟨gb, i, none⟩ (.slice (some ⟨w.heap.size, 0, none⟩) n n)) 4 cs
      rw [hsz] at h2
      exact h2
    · rw [upf_ne e]
      show Blk _ _ 4 (rowB n (if i = k then f else M i))
      rw [if_neg e]
      exact ((h.rows i (by omega)).far (p := ⟨gb, k, none⟩) (Ne.symm (blk_ty h.out (h.rows i (by omega)) (by decide))) _).alloc _
  · by_cases e1 : i = k
    · by_cases e2 : j = k
      · omega
      · rw [e1, upf_at, upf_ne e2] at he
        have := hlt j (by omega); omega
    · by_cases e2 : j = k
      · rw [e2, upf_at, upf_ne e1] at he
        have := hlt i (by omega); omega
      · rw [upf_ne e1, upf_ne e2] at he
        exact h.inj i j (by omega) (by omega) he
  · by_cases e : i = k
    · rw [e, upf_at]; exact h.below.size
    · rw [upf_ne e]; exact h.low i (by omega)
end
/-- a table of truths that may be read -/
def Mat (w : World) (gb n : Nat) (M : Nat → Nat → Bool) : Prop := ∃ bf : Nat → Nat, (∀ i, i < n → w.cell? ⟨gb, i, none⟩ = some (.slice (some ⟨bf i, 0, none⟩) n n)) ∧ ∀ i j, i < n → j < n → w.cell? ⟨bf i, j, none⟩ = some (.bool (M i j))
theorem Mat.kept {w w' : World} {gb n : Nat} {M : Nat → Nat → Bool} (h : Mat w gb n M) (hk : Kept w w') : Mat w' gb n M := let ⟨bf, h1, h2⟩ := h; ⟨bf, fun i hi => hk _ _ (h1 i hi), fun i j hi hj => hk _ _ (h2 i j hi hj)⟩
theorem GM.mat {w0 w : World} {gb n : Nat} {bf : Nat → Nat} {M : Nat → Nat → Bool} (h : GM w0 w gb n n bf M) : Mat w gb n M := ⟨bf, fun i hi => h.rowAt hi hi, fun i j hi hj => h.at_ hi hj⟩
/-- Warshall's table within a phase -/
def walP (G0 : Nat → Nat → Bool) (k i j : Nat) (a b : Nat) : Bool := if a < i ∨ (a = i ∧ b < j) then wal G0 (k + 1) a b else wal G0 k a b
theorem walP_zero (G0 : Nat → Nat → Bool) (k a b : Nat) : walP G0 k 0 0 a b = wal G0 k a b := by unfold walP; rw [if_neg (by omega)]
theorem walP_row (G0 : Nat → Nat → Bool) {k i n a b : Nat} (hb : b < n) : walP G0 k i n a b = walP G0 k (i + 1) 0 a b := by
  unfold walP
  by_cases h : a < i ∨ (a = i ∧ b < n)
  · rw [if_pos h, if_pos (by omega)]
  · rw [if_neg h, if_neg (by omega)]
theorem walP_end (G0 : Nat → Nat → Bool) {k n a b : Nat} (ha : a < n) : walP G0 k n 0 a b = wal G0 (k + 1) a b := by unfold walP; rw [if_pos (by omega)]
theorem wal_col (G0 : Nat → Nat → Bool) (k a : Nat) : wal G0 (k + 1) a k = wal G0 k a k := by
  simp only [wal]
  rcases wal G0 k a k <;> simp
theorem wal_rowk (G0 : Nat → Nat → Bool) (k b : Nat) : wal G0 (k + 1) k b = wal G0 k k b := by
  simp only [wal]
  rcases wal G0 k k b <;> simp
theorem walP_ik (G0 : Nat → Nat → Bool) (k i j a : Nat) : walP G0 k i j a k = wal G0 k a k := by
  unfold walP
  split
  · exact wal_col G0 k a
  · rfl
theorem walP_kj (G0 : Nat → Nat → Bool) (k i j b : Nat) : walP G0 k i j k b = wal G0 k k b := by
  unfold walP
  split
  · exact wal_rowk G0 k b
  · rfl
theorem walP_ij (G0 : Nat → Nat → Bool) (k i j : Nat) : walP G0 k i j i j = wal G0 k i j := by unfold walP; rw [if_neg (by omega)]
theorem walP_step (G0 : Nat → Nat → Bool) (k i j : Nat) : set2 (walP G0 k i j) i j (wal G0 k i j || (wal G0 k i k && wal G0 k k j)) = walP G0 k i (j + 1) := by
  funext a b
  unfold set2
  by_cases ha : a = i
  · subst ha
    rw [if_pos rfl]
    by_cases hb : b = j
    · subst hb
      rw [upf_at]
      unfold walP
      rw [if_pos (by omega)]
      rfl
    · rw [upf_ne hb]
      unfold walP
      by_cases h : b < j
      · rw [if_pos (.inr ⟨rfl, h⟩), if_pos (by omega)]
      · rw [if_neg (by omega), if_neg (by omega)]
  · rw [if_neg ha]
    unfold walP
    by_cases h : a < i
    · rw [if_pos (.inl h), if_pos (.inl h)]
    · rw [if_neg (by omega), if_neg (by omega)]
theorem g0_snoc (E : List (Nat × Nat)) (a b : Nat) : set2 (g0 E) a b true = g0 (E ++ [(a, b)]) := by
  funext x y
  unfold set2
  by_cases hx : x = a
  · subst hx
    rw [if_pos rfl]
    by_cases hy : y = b
    · subst hy; rw [upf_at]; simp [g0]
    · rw [upf_ne hy]; simp [g0, hy]
  · rw [if_neg hx]; simp [g0, hx]
theorem infBol : (Try.prog.info? 4).map (fun i => (i.zero, i.size, i.bytes)) = some (some (.bool false), 1, 1) := by kernel_rfl
theorem infRwB : (Try.prog.info? 30).map (fun i => (i.zero, i.size, i.bytes)) = some (some (.slice none 0 0), 1, 24) := by kernel_rfl
set_option maxRecDepth 100000 in
set_option maxHeartbeats 8000000 in
theorem graph_any (n : Nat) (hn : n ≤ 1000) (A : Option Addr) (c : Nat) (l : List (Int × Int)) (w : World) (hl : Edges w A c l) :
    Calls Try.prog 15 #[.int .i64 n, .slice A l.length c] w fun e w' => ∃ gb, e = .returned (.slice (some ⟨gb, 0, none⟩) n n) ∧ Mat w' gb n (gE n (vE n l)) ∧ Below w.heap.size w w' := by
  have hbd := hl.bd
  have HL := Lib.hid hl
  clear hl
  have hmk1 := run_make_row' (P := Try.prog) 34 30 (.slice none 0 0) 24 Try.underlying34 infRwB rfl .i64 .i64 n (by omega) (by omega)
  have hmk2 := run_make_row' (P := Try.prog) 30 4 (.bool false) 1 Try.underlying30 infBol rfl .i64 .i64 n (by omega) (by omega)
  go_enter Try.func15, Try.ntmps15
  go_wp2
  clear hmk1
  have HG0 := Lib.hid (show GM w (w.alloc (.cells (madeCells #[.slice none 0 0] n) 30)) w.heap.size n 0 (fun _ => 0) (fun i j => i == j) from ⟨by have h := blk_new1 w 30 (madeCells #[.slice none 0 0] n); rw [show madeCells #[Value.slice none 0 0] n = arrV n fun i => if i < 0 then Value.slice (some ⟨0, 0, none⟩) n n else .slice none 0 0 from by rw [arr_made]; simp] at h ⊢; exact h, fun i h => absurd h (by omega), fun i j h => absurd h (by omega), fun i h => absurd h (by omega), below_alloc (Below.refl _ _) _, Nat.le_refl _⟩)
  generalize World.alloc w _ = W0 at HG0 ⊢
  generalize w.heap.size = gb at HG0 ⊢
  go_loopw [17] (fun i wr => ∃ (k : Nat) (bf : Nat → Nat), k ≤ n ∧ i = .int .i64 k ∧ GM w wr gb n k bf (fun i j => i == j)) (fun i _ => n - (intOf i).toNat)
  case atStart => exact ⟨0, _, Nat.zero_le _, rfl, HG0.out⟩
  case round =>
    clear HG0
    obtain ⟨k, bf, hk, rfl, hgm⟩ := hrel
    have HGM := Lib.hid hgm
    clear hgm
    by_cases hkn : k < n
    · have hk0 : (0 : Int) ≤ (k : Int) := Int.natCast_nonneg _
      have hk1 : (k : Int) < (n : Int) := by omega
      have hkt : ((k : Int)).toNat = k := Int.toNat_natCast _
      have c1 : wr.cell? ⟨gb, k, none⟩ = some (.slice none 0 0) := by
        have := (HGM.out.out.cell k).trans (arr_get hkn)
        rwa [if_neg (by omega)] at this
      have f1 : wr.frozen? ⟨gb, k, none⟩ = false := HGM.out.out.frozen k
      have l1 : gb < wr.heap.size := HGM.out.out.lt
      have n1 : gb ≠ wr.heap.size := by omega
      have n2 : wr.heap.size ≠ gb := by omega
      have H1 := HGM.out.add (rowB_made n)
      have c4 := H1.at_ (i := k) (j := k) (by omega) hkn
      have f4 := (H1.rows k (by omega)).frozen k
      have l4 := (H1.rows k (by omega)).lt
      rw [upf_at] at c4 f4 l4
      rw [if_pos rfl] at c4
      clear H1
      have H2 := HGM.out.add (cs := (madeCells #[.bool false] n).setIfInBounds k (.bool true)) (f := upf (fun _ => false) k true) (by rw [rowB_made, rowB_set])
      go_wp2_with fail
      generalize World.alloc (World.setCell _ _ _) _ = W2 at H2 ⊢
      go_roundw
      case rel =>
        refine ⟨k + 1, upf bf k wr.heap.size, by omega, by simp, H2.out, fun i hi => ?_, H2.inj, H2.low, H2.below, H2.gB⟩
        have h3 := H2.rows i hi
        have : rowB n (if i = k then upf (fun _ => false) k true else fun j => i == j) = rowB n fun j => i == j := by
          unfold rowB arrV
          congr 1
          apply List.map_congr_left
          intro j _
          by_cases e : i = k
          · subst e
            rw [if_pos rfl]
            by_cases e2 : j = i
            · subst e2; rw [upf_at]; simp
            · rw [upf_ne e2]; simp [Ne.symm e2]
          · rw [if_neg e]
        rw [← this]
        exact h3
      case measure => (try simp only [intOf]); omega
    · have hkk : n = k := by omega
      subst hkk
      clear hmk2
      go_wp2_with fail
      go_loopw [7, 34] (fun cn i wr => ∃ (k : Nat) (E : List (Nat × Nat)), k ≤ l.length ∧ i = .int .i64 k ∧ E = inE n (l.take k) ∧ cn = .int .i64 E.length ∧ E.length ≤ k ∧ GM w wr gb n n bf (g0 (E.take 20000))) (fun _ i _ => l.length - (intOf i).toNat)
      case atStart => exact ⟨0, [], Nat.zero_le _, rfl, rfl, rfl, Nat.le_refl _, HGM.out.congr (fun a b _ _ => by simp [g0]) (Nat.le_refl _)⟩
      case round =>
        clear HGM
        obtain ⟨k, E, hk, rfl, hE, rfl, hE2, hgm⟩ := hrel
        have HGM := Lib.hid hgm
        have HE := Lib.hid hE
        clear hgm hE
        by_cases hlt : k < l.length
        · obtain ⟨x, b, o, hx, rfl, e0, e1⟩ := HL.out.at_ hlt (Kept.of_below HGM.out.below)
          have HX := Lib.hid hx
          clear hx
          by_cases ha : x.1 < 0
          · have hd : decide (0 ≤ x.1) = false := decide_eq_false (by omega)
            have HBAD := Lib.hid (show okE n x = false by simp [okE]; omega)
            clear ha
            by_cases hq : E.length ≤ 20000
            · have hq1 : decide ((E.length : Int) ≤ (20000 : Int)) = true := decide_eq_true (by omega)
              have hq2 : decide (E.length ≤ 20000) = true := decide_eq_true hq
              go_wp2_with fail
              go_roundw
              case rel => exact ⟨k + 1, E, by omega, by simp, by rw [inE_bad HX.out HBAD.out, ← HE.out], rfl, by omega, HGM.out.alloc _⟩
              case measure => (try simp only [intOf]); omega
            · have hq1 : decide ((E.length : Int) ≤ (20000 : Int)) = false := decide_eq_false (by omega)
              have hq2 : decide (E.length ≤ 20000) = false := decide_eq_false hq
              go_wp2_with fail
              go_roundw
              case rel => exact ⟨k + 1, E, by omega, by simp, by rw [inE_bad HX.out HBAD.out, ← HE.out], rfl, by omega, HGM.out.alloc _⟩
              case measure => (try simp only [intOf]); omega
          · have hd : decide (0 ≤ x.1) = true := decide_eq_true (by omega)
            by_cases ha2 : (n : Int) ≤ x.1
            · have hd2 : decide (x.1 < (n : Int)) = false := decide_eq_false (by omega)
              have HBAD := Lib.hid (show okE n x = false by simp [okE]; omega)
              clear ha ha2
              by_cases hq : E.length ≤ 20000
              · have hq1 : decide ((E.length : Int) ≤ (20000 : Int)) = true := decide_eq_true (by omega)
                have hq2 : decide (E.length ≤ 20000) = true := decide_eq_true hq
                go_wp2_with fail
                go_roundw
                case rel => exact ⟨k + 1, E, by omega, by simp, by rw [inE_bad HX.out HBAD.out, ← HE.out], rfl, by omega, HGM.out.alloc _⟩
                case measure => (try simp only [intOf]); omega
              · have hq1 : decide ((E.length : Int) ≤ (20000 : Int)) = false := decide_eq_false (by omega)
                have hq2 : decide (E.length ≤ 20000) = false := decide_eq_false hq
                go_wp2_with fail
                go_roundw
                case rel => exact ⟨k + 1, E, by omega, by simp, by rw [inE_bad HX.out HBAD.out, ← HE.out], rfl, by omega, HGM.out.alloc _⟩
                case measure => (try simp only [intOf]); omega
            · have hd2 : decide (x.1 < (n : Int)) = true := decide_eq_true (by omega)
              by_cases hb : x.2 < 0
              · have hd3 : decide (0 ≤ x.2) = false := decide_eq_false (by omega)
                have HBAD := Lib.hid (show okE n x = false by simp [okE]; omega)
                clear ha ha2 hb
                by_cases hq : E.length ≤ 20000
                · have hq1 : decide ((E.length : Int) ≤ (20000 : Int)) = true := decide_eq_true (by omega)
                  have hq2 : decide (E.length ≤ 20000) = true := decide_eq_true hq
                  go_wp2_with fail
                  go_roundw
                  case rel => exact ⟨k + 1, E, by omega, by simp, by rw [inE_bad HX.out HBAD.out, ← HE.out], rfl, by omega, HGM.out.alloc _⟩
                  case measure => (try simp only [intOf]); omega
                · have hq1 : decide ((E.length : Int) ≤ (20000 : Int)) = false := decide_eq_false (by omega)
                  have hq2 : decide (E.length ≤ 20000) = false := decide_eq_false hq
                  go_wp2_with fail
                  go_roundw
                  case rel => exact ⟨k + 1, E, by omega, by simp, by rw [inE_bad HX.out HBAD.out, ← HE.out], rfl, by omega, HGM.out.alloc _⟩
                  case measure => (try simp only [intOf]); omega
              · have hd3 : decide (0 ≤ x.2) = true := decide_eq_true (by omega)
                by_cases hb2 : (n : Int) ≤ x.2
                · have hd4 : decide (x.2 < (n : Int)) = false := decide_eq_false (by omega)
                  have HBAD := Lib.hid (show okE n x = false by simp [okE]; omega)
                  clear ha ha2 hb hb2
                  by_cases hq : E.length ≤ 20000
                  · have hq1 : decide ((E.length : Int) ≤ (20000 : Int)) = true := decide_eq_true (by omega)
                    have hq2 : decide (E.length ≤ 20000) = true := decide_eq_true hq
                    go_wp2_with fail
                    go_roundw
                    case rel => exact ⟨k + 1, E, by omega, by simp, by rw [inE_bad HX.out HBAD.out, ← HE.out], rfl, by omega, HGM.out.alloc _⟩
                    case measure => (try simp only [intOf]); omega
                  · have hq1 : decide ((E.length : Int) ≤ (20000 : Int)) = false := decide_eq_false (by omega)
                    have hq2 : decide (E.length ≤ 20000) = false := decide_eq_false hq
                    go_wp2_with fail
                    go_roundw
                    case rel => exact ⟨k + 1, E, by omega, by simp, by rw [inE_bad HX.out HBAD.out, ← HE.out], rfl, by omega, HGM.out.alloc _⟩
                    case measure => (try simp only [intOf]); omega
                · obtain ⟨a, hxa⟩ := Int.eq_ofNat_of_zero_le (show 0 ≤ x.1 by omega)
                  obtain ⟨b2, hxb⟩ := Int.eq_ofNat_of_zero_le (show 0 ≤ x.2 by omega)
                  have hA : a < n := by omega
                  have hB : b2 < n := by omega
                  have HOK := Lib.hid (inE_ok HX.out hxa hxb hA hB)
                  rw [hxa] at e0 hd hd2
                  rw [hxb] at e1 hd3
                  have hd4 : decide ((b2 : Int) < (n : Int)) = true := decide_eq_true (by omega)
                  have hdn2 : decide (a < n) = true := decide_eq_true hA
                  have hdn4 : decide (b2 < n) = true := decide_eq_true hB
                  clear ha ha2 hb hb2 hxa hxb
                  by_cases hfull : 20000 ≤ E.length
                  · have hgt : decide ((E.length : Int) + 1 ≤ (20000 : Int)) = false := decide_eq_false (by omega)
                    have hT : (E ++ [(a, b2)]).take 20000 = E.take 20000 := List.take_append_of_le_length hfull
                    have HT := Lib.hid hT
                    clear hT
                    go_wp2_with fail
                    go_roundw
                    case rel => exact ⟨k + 1, E ++ [(a, b2)], by omega, by simp, by rw [HOK.out, ← HE.out], by simp, by simp; omega, by rw [HT.out]; exact HGM.out.alloc _⟩
                    case measure => (try simp only [intOf]); omega
                  · have hgt : decide ((E.length : Int) + 1 ≤ (20000 : Int)) = true := decide_eq_true (by omega)
                    have HT := Lib.hid (show (E ++ [(a, b2)]).take 20000 = E.take 20000 ++ [(a, b2)] by rw [List.take_of_length_le (by simp; omega), List.take_of_length_le (by omega)])
                    have hA0 : (0 : Int) ≤ (a : Int) := Int.natCast_nonneg _
                    have hA1 : (a : Int) < (n : Int) := by omega
                    have htn : ((a : Int)).toNat = a := Int.toNat_natCast _
                    have hB0 : (0 : Int) ≤ (b2 : Int) := Int.natCast_nonneg _
                    have hB1 : (b2 : Int) < (n : Int) := by omega
                    have htb : ((b2 : Int)).toNat = b2 := Int.toNat_natCast _
                    go_upto_region 15 with (fail)
                    clear e0 e1
                    have HC := Lib.hid (show (fun w' : World => w'.cell? ⟨wr.heap.size, 0, none⟩ = some (.int .i64 a) ∧ w'.cell? ⟨wr.heap.size, 1, none⟩ = some (.int .i64 b2) ∧ w'.cell? ⟨gb, a, none⟩ = some (.slice (some ⟨bf a, 0, none⟩) n n)) (wr.alloc (.cells #[.int .i64 a, .int .i64 b2] 29)).drew from ⟨(blk_new1 wr _ _).cell 0, (blk_new1 wr _ _).cell 1, (HGM.out.alloc (.cells #[.int .i64 a, .int .i64 b2] 29)).drew.rowAt hA hA⟩)
                    have HGM := Lib.hid (HGM.out.alloc (.cells #[.int .i64 a, .int .i64 b2] 29)).drew
                    refine regionC_l (fun w' : World => w'.cell? ⟨wr.heap.size, 0, none⟩ = some (.int .i64 a) ∧ w'.cell? ⟨wr.heap.size, 1, none⟩ = some (.int .i64 b2) ∧ w'.cell? ⟨gb, a, none⟩ = some (.slice (some ⟨bf a, 0, none⟩) n n)) (fun j => j != 8) (n := 9) (listed := #[false, false, false, false, false, false, false, false, false]) (by kernel_rfl) rfl rfl ?_
                    generalize (wr.alloc (.cells #[.int .i64 a, .int .i64 b2] 29)).drew = W3 at HGM HC ⊢
                    (refine pure_l (i := 0) (v := _) rfl (by decide +kernel) (by decide +kernel) (by decide +kernel) (by decide +kernel) (fun _ _ _ h => h) (by kernel_rfl) (by (intro w; go_simp; first | done | with_reducible rfl)) HC.out ?_; try simp only [Act.put, List.setIfInBounds_toArray, List.set_cons_zero, List.set_cons_succ])
                    (refine pure_l (i := 1) (v := _) rfl (by decide +kernel) (by decide +kernel) (by decide +kernel) (by decide +kernel) (fun _ _ _ h => h) (by kernel_rfl) (by (intro w; go_simp; first | done | with_reducible rfl)) HC.out ?_; try simp only [Act.put, List.setIfInBounds_toArray, List.set_cons_zero, List.set_cons_succ])
                    (refine pure_l (i := 5) (v := _) rfl (by decide +kernel) (by decide +kernel) (by decide +kernel) (by decide +kernel) (fun _ _ _ h => h) (by kernel_rfl) (by (intro w; go_simp; first | done | with_reducible rfl)) HC.out ?_; try simp only [Act.put, List.setIfInBounds_toArray, List.set_cons_zero, List.set_cons_succ])
                    (refine load_l (i := 2) (v := _) rfl (by decide +kernel) (by decide +kernel) (by decide +kernel) (by decide +kernel) (fun _ _ _ h => h) ⟨by kernel_rfl, by (rintro w ⟨c0, c1, c2⟩; go_simp; first | done | with_reducible rfl)⟩ HC.out ?_; try simp only [Act.put, List.setIfInBounds_toArray, List.set_cons_zero, List.set_cons_succ])
                    (refine load_l (i := 6) (v := _) rfl (by decide +kernel) (by decide +kernel) (by decide +kernel) (by decide +kernel) (fun _ _ _ h => h) ⟨by kernel_rfl, by (rintro w ⟨c0, c1, c2⟩; go_simp; first | done | with_reducible rfl)⟩ HC.out ?_; try simp only [Act.put, List.setIfInBounds_toArray, List.set_cons_zero, List.set_cons_succ])
                    (refine pure_l (i := 3) (v := _) rfl (by decide +kernel) (by decide +kernel) (by decide +kernel) (by decide +kernel) (fun _ _ _ h => h) (by kernel_rfl) (by (intro w; go_simp; first | done | with_reducible rfl)) HC.out ?_; try simp only [Act.put, List.setIfInBounds_toArray, List.set_cons_zero, List.set_cons_succ])
                    (refine load_l (i := 4) (v := _) rfl (by decide +kernel) (by decide +kernel) (by decide +kernel) (by decide +kernel) (fun _ _ _ h => h) ⟨by kernel_rfl, by (rintro w ⟨c0, c1, c2⟩; go_simp; first | done | with_reducible rfl)⟩ HC.out ?_; try simp only [Act.put, List.setIfInBounds_toArray, List.set_cons_zero, List.set_cons_succ])
                    (refine pure_l (i := 7) (v := _) rfl (by decide +kernel) (by decide +kernel) (by decide +kernel) (by decide +kernel) (fun _ _ _ h => h) (by kernel_rfl) (by (intro w; go_simp; first | done | with_reducible rfl)) HC.out ?_; try simp only [Act.put, List.setIfInBounds_toArray, List.set_cons_zero, List.set_cons_succ])
                    have hcl := HGM.out.at_ hA hB
                    have hfr := (HGM.out.rows a hA).frozen b2
                    have hgl := (HGM.out.rows a hA).lt
                    (refine one_l (i := 8) (by decide +kernel) rfl (fun K hK => ?_))
                    go_simp
                    refine hK _ _ (fun h => absurd h (by decide)) ?_
                    clear hK K
                    (try simp only [Act.put, List.setIfInBounds_toArray, List.set_cons_zero, List.set_cons_succ])
                    have H6 := HGM.out.put (j := b2) hA true
                    generalize World.setCell W3 _ _ = W6 at H6 ⊢
                    clear hcl hfr hgl HC HGM
                    refine done_l (by decide +kernel) ?_ _
                    go_wp2_with fail
                    go_roundw
                    case rel => exact ⟨k + 1, E ++ [(a, b2)], by omega, by simp, by rw [HOK.out, ← HE.out], by simp, by simp; omega, by rw [HT.out, ← g0_snoc]; exact H6⟩
                    case measure => (try simp only [intOf]); omega
        · have hkl : k = l.length := by omega
          subst hkl
          have HV := Lib.hid (show E.take 20000 = vE n l by rw [HE.out, List.take_length]; rfl)
          have HGM := Lib.hid (show GM w wr gb n n bf (wal (g0 (vE n l)) 0) by rw [← HV.out]; exact HGM.out)
          clear HV HE hE2
          generalize hg0 : g0 (vE n l) = G0 at HGM ⊢
          have HG0 := Lib.hid hg0
          clear hg0
          go_wp2_with fail
          go_loopw [94] (fun i wr => ∃ k : Nat, k ≤ n ∧ i = .int .i64 k ∧ GM w wr gb n n bf (wal G0 k)) (fun i _ => n - (intOf i).toNat)
          case atStart => exact ⟨0, Nat.zero_le _, rfl, HGM.out⟩
          case round =>
            clear HGM
            obtain ⟨k, hk, rfl, hgm⟩ := hrel
            have HGM := Lib.hid (hgm.congr (M' := walP G0 k 0 0) (fun a b _ _ => walP_zero G0 k a b) (Nat.le_refl _))
            clear hgm
            by_cases hkn : k < n
            · have hk0 : (0 : Int) ≤ (k : Int) := Int.natCast_nonneg _
              have hk1 : (k : Int) < (n : Int) := by omega
              have hkt : ((k : Int)).toNat = k := Int.toNat_natCast _
              go_wp2_with fail
              go_loopw [98] (fun i wr => ∃ i' : Nat, i' ≤ n ∧ i = .int .i64 i' ∧ GM w wr gb n n bf (walP G0 k i' 0)) (fun i _ => n - (intOf i).toNat)
              case atStart => exact ⟨0, Nat.zero_le _, rfl, HGM.out⟩
              case round =>
                clear HGM
                obtain ⟨i, hi, rfl, hgm⟩ := hrel
                have HGM := Lib.hid hgm
                clear hgm
                by_cases hin : i < n
                · have hi0 : (0 : Int) ≤ (i : Int) := Int.natCast_nonneg _
                  have hi1 : (i : Int) < (n : Int) := by omega
                  have hit : ((i : Int)).toNat = i := Int.toNat_natCast _
                  go_wp2_with fail
                  go_loopw [102] (fun j wr => ∃ j' : Nat, j' ≤ n ∧ j = .int .i64 j' ∧ GM w wr gb n n bf (walP G0 k i j')) (fun j _ => n - (intOf j).toNat)
                  case atStart => exact ⟨0, Nat.zero_le _, rfl, HGM.out⟩
                  case round =>
                    clear HGM
                    obtain ⟨j, hj, rfl, hgm⟩ := hrel
                    have HGM := Lib.hid hgm
                    clear hgm
                    by_cases hjn : j < n
                    · have hj0 : (0 : Int) ≤ (j : Int) := Int.natCast_nonneg _
                      have hj1 : (j : Int) < (n : Int) := by omega
                      have hjt : ((j : Int)).toNat = j := Int.toNat_natCast _
                      go_upto_region 26 with (fail)
                      have HGM := Lib.hid HGM.out.drew
                      have HST := Lib.hid (walP_step G0 k i j)
                      have c1 := HGM.out.rowAt hin hin
                      have c2 := HGM.out.rowAt hkn hkn
                      have c3 := HGM.out.at_ hin hjn
                      have c4 := HGM.out.at_ hin hkn
                      have c5 := HGM.out.at_ hkn hjn
                      rw [walP_ij] at c3
                      rw [walP_ik] at c4
                      rw [walP_kj] at c5
                      have HCC := Lib.hid (And.intro c1 (And.intro c2 (And.intro c3 (And.intro c4 c5))))
                      clear c1 c2 c3 c4 c5
                      generalize hx : wal G0 k i j = x at HCC HST
                      generalize hy : wal G0 k i k = y at HCC HST
                      generalize hz : wal G0 k k j = z at HCC HST
                      clear hx hy hz
                      rcases x with _ | _
                      · rcases y with _ | _
                        · have HC := Lib.hid (show (fun w' : World => w'.cell? ⟨gb, i, none⟩ = some (.slice (some ⟨bf i, 0, none⟩) n n) ∧ w'.cell? ⟨gb, k, none⟩ = some (.slice (some ⟨bf k, 0, none⟩) n n) ∧ w'.cell? ⟨bf i, j, none⟩ = some (.bool false) ∧ w'.cell? ⟨bf i, k, none⟩ = some (.bool false) ∧ w'.cell? ⟨bf k, j, none⟩ = some (.bool z)) wr.drew from HCC.out)
                          clear HCC
                          refine regionC_l (fun w' : World => w'.cell? ⟨gb, i, none⟩ = some (.slice (some ⟨bf i, 0, none⟩) n n) ∧ w'.cell? ⟨gb, k, none⟩ = some (.slice (some ⟨bf k, 0, none⟩) n n) ∧ w'.cell? ⟨bf i, j, none⟩ = some (.bool false) ∧ w'.cell? ⟨bf i, k, none⟩ = some (.bool false) ∧ w'.cell? ⟨bf k, j, none⟩ = some (.bool z)) (fun j => j != 31) (n := 32) (listed := #[false, false, false, false, false, false, false, false, false, false, false, false, false, false, false, false, false, false, false, false, false, false, false, false, false, false, false, false, false, false, false, false]) (by kernel_rfl) rfl rfl ?_
                          generalize wr.drew = W3 at HGM HC ⊢
                          (refine pure_l (i := 0) (v := _) rfl (by decide +kernel) (by decide +kernel) (by decide +kernel) (by decide +kernel) (fun _ _ _ h => h) (by kernel_rfl) (by (intro w; go_simp; first | done | with_reducible rfl)) HC.out ?_; try simp only [Act.put, List.setIfInBounds_toArray, List.set_cons_zero, List.set_cons_succ])
                          (refine pure_l (i := 1) (v := _) rfl (by decide +kernel) (by decide +kernel) (by decide +kernel) (by decide +kernel) (fun _ _ _ h => h) (by kernel_rfl) (by (intro w; go_simp; first | done | with_reducible rfl)) HC.out ?_; try simp only [Act.put, List.setIfInBounds_toArray, List.set_cons_zero, List.set_cons_succ])
                          (refine pure_l (i := 4) (v := _) rfl (by decide +kernel) (by decide +kernel) (by decide +kernel) (by decide +kernel) (fun _ _ _ h => h) (by kernel_rfl) (by (intro w; go_simp; first | done | with_reducible rfl)) HC.out ?_; try simp only [Act.put, List.setIfInBounds_toArray, List.set_cons_zero, List.set_cons_succ])
                          (refine pure_l (i := 5) (v := _) rfl (by decide +kernel) (by decide +kernel) (by decide +kernel) (by decide +kernel) (fun _ _ _ h => h) (by kernel_rfl) (by (intro w; go_simp; first | done | with_reducible rfl)) HC.out ?_; try simp only [Act.put, List.setIfInBounds_toArray, List.set_cons_zero, List.set_cons_succ])
                          (refine pure_l (i := 6) (v := _) rfl (by decide +kernel) (by decide +kernel) (by decide +kernel) (by decide +kernel) (fun _ _ _ h => h) (by kernel_rfl) (by (intro w; go_simp; first | done | with_reducible rfl)) HC.out ?_; try simp only [Act.put, List.setIfInBounds_toArray, List.set_cons_zero, List.set_cons_succ])
                          (refine pure_l (i := 9) (v := _) rfl (by decide +kernel) (by decide +kernel) (by decide +kernel) (by decide +kernel) (fun _ _ _ h => h) (by kernel_rfl) (by (intro w; go_simp; first | done | with_reducible rfl)) HC.out ?_; try simp only [Act.put, List.setIfInBounds_toArray, List.set_cons_zero, List.set_cons_succ])
                          (refine pure_l (i := 2) (v := _) rfl (by decide +kernel) (by decide +kernel) (by decide +kernel) (by decide +kernel) (fun _ _ _ h => h) (by kernel_rfl) (by (intro w; go_simp; first | done | with_reducible rfl)) HC.out ?_; try simp only [Act.put, List.setIfInBounds_toArray, List.set_cons_zero, List.set_cons_succ])
                          (refine pure_l (i := 7) (v := _) rfl (by decide +kernel) (by decide +kernel) (by decide +kernel) (by decide +kernel) (fun _ _ _ h => h) (by kernel_rfl) (by (intro w; go_simp; first | done | with_reducible rfl)) HC.out ?_; try simp only [Act.put, List.setIfInBounds_toArray, List.set_cons_zero, List.set_cons_succ])
                          (refine load_l (i := 3) (v := _) rfl (by decide +kernel) (by decide +kernel) (by decide +kernel) (by decide +kernel) (fun _ _ _ h => h) ⟨by kernel_rfl, by (rintro w ⟨c0, c1, c2, c3, c4⟩; go_simp; first | done | with_reducible rfl)⟩ HC.out ?_; try simp only [Act.put, List.setIfInBounds_toArray, List.set_cons_zero, List.set_cons_succ])
                          (refine load_l (i := 8) (v := _) rfl (by decide +kernel) (by decide +kernel) (by decide +kernel) (by decide +kernel) (fun _ _ _ h => h) ⟨by kernel_rfl, by (rintro w ⟨c0, c1, c2, c3, c4⟩; go_simp; first | done | with_reducible rfl)⟩ HC.out ?_; try simp only [Act.put, List.setIfInBounds_toArray, List.set_cons_zero, List.set_cons_succ])
                          (refine pure_l (i := 10) (v := _) rfl (by decide +kernel) (by decide +kernel) (by decide +kernel) (by decide +kernel) (fun _ _ _ h => h) (by kernel_rfl) (by (intro w; go_simp; first | done | with_reducible rfl)) HC.out ?_; try simp only [Act.put, List.setIfInBounds_toArray, List.set_cons_zero, List.set_cons_succ])
                          (refine load_l (i := 11) (v := _) rfl (by decide +kernel) (by decide +kernel) (by decide +kernel) (by decide +kernel) (fun _ _ _ h => h) ⟨by kernel_rfl, by (rintro w ⟨c0, c1, c2, c3, c4⟩; go_simp; first | done | with_reducible rfl)⟩ HC.out ?_; try simp only [Act.put, List.setIfInBounds_toArray, List.set_cons_zero, List.set_cons_succ])
                          (refine pure_l (i := 12) (v := _) rfl (by decide +kernel) (by decide +kernel) (by decide +kernel) (by decide +kernel) (fun _ _ _ h => h) (by kernel_rfl) (by (intro w; go_simp; first | done | with_reducible rfl)) HC.out ?_; try simp only [Act.put, List.setIfInBounds_toArray, List.set_cons_zero, List.set_cons_succ])
                          (refine pure_l (i := 13) (v := _) rfl (by decide +kernel) (by decide +kernel) (by decide +kernel) (by decide +kernel) (fun _ _ _ h => h) (by kernel_rfl) (by (intro w; go_simp; first | done | with_reducible rfl)) HC.out ?_; try simp only [Act.put, List.setIfInBounds_toArray, List.set_cons_zero, List.set_cons_succ])
                          (refine pure_l (i := 14) (v := _) rfl (by decide +kernel) (by decide +kernel) (by decide +kernel) (by decide +kernel) (fun _ _ _ h => h) (by kernel_rfl) (by (intro w; go_simp; first | done | with_reducible rfl)) HC.out ?_; try simp only [Act.put, List.setIfInBounds_toArray, List.set_cons_zero, List.set_cons_succ])
                          (refine pure_l (i := 15) (v := _) rfl (by decide +kernel) (by decide +kernel) (by decide +kernel) (by decide +kernel) (fun _ _ _ h => h) (by kernel_rfl) (by (intro w; go_simp; first | done | with_reducible rfl)) HC.out ?_; try simp only [Act.put, List.setIfInBounds_toArray, List.set_cons_zero, List.set_cons_succ])
                          (refine load_l (i := 16) (v := _) rfl (by decide +kernel) (by decide +kernel) (by decide +kernel) (by decide +kernel) (fun _ _ _ h => h) ⟨by kernel_rfl, by (rintro w ⟨c0, c1, c2, c3, c4⟩; go_simp; first | done | with_reducible rfl)⟩ HC.out ?_; try simp only [Act.put, List.setIfInBounds_toArray, List.set_cons_zero, List.set_cons_succ])
                          (refine pure_l (i := 17) (v := _) rfl (by decide +kernel) (by decide +kernel) (by decide +kernel) (by decide +kernel) (fun _ _ _ h => h) (by kernel_rfl) (by (intro w; go_simp; first | done | with_reducible rfl)) HC.out ?_; try simp only [Act.put, List.setIfInBounds_toArray, List.set_cons_zero, List.set_cons_succ])
                          (refine pure_l (i := 18) (v := _) rfl (by decide +kernel) (by decide +kernel) (by decide +kernel) (by decide +kernel) (fun _ _ _ h => h) (by kernel_rfl) (by (intro w; go_simp; first | done | with_reducible rfl)) HC.out ?_; try simp only [Act.put, List.setIfInBounds_toArray, List.set_cons_zero, List.set_cons_succ])
                          (refine load_l (i := 19) (v := _) rfl (by decide +kernel) (by decide +kernel) (by decide +kernel) (by decide +kernel) (fun _ _ _ h => h) ⟨by kernel_rfl, by (rintro w ⟨c0, c1, c2, c3, c4⟩; go_simp; first | done | with_reducible rfl)⟩ HC.out ?_; try simp only [Act.put, List.setIfInBounds_toArray, List.set_cons_zero, List.set_cons_succ])
                          (refine pure_l (i := 20) (v := _) rfl (by decide +kernel) (by decide +kernel) (by decide +kernel) (by decide +kernel) (fun _ _ _ h => h) (by kernel_rfl) (by (intro w; go_simp; first | done | with_reducible rfl)) HC.out ?_; try simp only [Act.put, List.setIfInBounds_toArray, List.set_cons_zero, List.set_cons_succ])
                          (refine skip_l (i := 21) rfl (by decide +kernel) (by decide +kernel) (by decide +kernel) (by decide +kernel) (fun _ _ _ h => h) (by kernel_rfl) HC.out ?_; try simp only [Act.put, List.setIfInBounds_toArray, List.set_cons_zero, List.set_cons_succ])
                          (refine skip_l (i := 22) rfl (by decide +kernel) (by decide +kernel) (by decide +kernel) (by decide +kernel) (fun _ _ _ h => h) (by kernel_rfl) HC.out ?_; try simp only [Act.put, List.setIfInBounds_toArray, List.set_cons_zero, List.set_cons_succ])
                          (refine skip_l (i := 23) rfl (by decide +kernel) (by decide +kernel) (by decide +kernel) (by decide +kernel) (fun _ _ _ h => h) (by kernel_rfl) HC.out ?_; try simp only [Act.put, List.setIfInBounds_toArray, List.set_cons_zero, List.set_cons_succ])
                          (refine skip_l (i := 24) rfl (by decide +kernel) (by decide +kernel) (by decide +kernel) (by decide +kernel) (fun _ _ _ h => h) (by kernel_rfl) HC.out ?_; try simp only [Act.put, List.setIfInBounds_toArray, List.set_cons_zero, List.set_cons_succ])
                          (refine skip_l (i := 25) rfl (by decide +kernel) (by decide +kernel) (by decide +kernel) (by decide +kernel) (fun _ _ _ h => h) (by kernel_rfl) HC.out ?_; try simp only [Act.put, List.setIfInBounds_toArray, List.set_cons_zero, List.set_cons_succ])
                          (refine skip_l (i := 26) rfl (by decide +kernel) (by decide +kernel) (by decide +kernel) (by decide +kernel) (fun _ _ _ h => h) (by kernel_rfl) HC.out ?_; try simp only [Act.put, List.setIfInBounds_toArray, List.set_cons_zero, List.set_cons_succ])
                          (refine skip_l (i := 27) rfl (by decide +kernel) (by decide +kernel) (by decide +kernel) (by decide +kernel) (fun _ _ _ h => h) (by kernel_rfl) HC.out ?_; try simp only [Act.put, List.setIfInBounds_toArray, List.set_cons_zero, List.set_cons_succ])
                          (refine pure_l (i := 28) (v := _) rfl (by decide +kernel) (by decide +kernel) (by decide +kernel) (by decide +kernel) (fun _ _ _ h => h) (by kernel_rfl) (by (intro w; go_simp; first | done | with_reducible rfl)) HC.out ?_; try simp only [Act.put, List.setIfInBounds_toArray, List.set_cons_zero, List.set_cons_succ])
                          (refine pure_l (i := 29) (v := _) rfl (by decide +kernel) (by decide +kernel) (by decide +kernel) (by decide +kernel) (fun _ _ _ h => h) (by kernel_rfl) (by (intro w; go_simp; first | done | with_reducible rfl)) HC.out ?_; try simp only [Act.put, List.setIfInBounds_toArray, List.set_cons_zero, List.set_cons_succ])
                          (refine pure_l (i := 30) (v := _) rfl (by decide +kernel) (by decide +kernel) (by decide +kernel) (by decide +kernel) (fun _ _ _ h => h) (by kernel_rfl) (by (intro w; go_simp; first | done | with_reducible rfl)) HC.out ?_; try simp only [Act.put, List.setIfInBounds_toArray, List.set_cons_zero, List.set_cons_succ])
                          have hcl := HC.out.2.2.1
                          have hfr := (HGM.out.rows i hin).frozen j
                          have hgl := (HGM.out.rows i hin).lt
                          (refine one_l (i := 31) (by decide +kernel) rfl (fun K hK => ?_))
                          go_simp
                          refine hK _ _ (fun h => absurd h (by decide)) ?_
                          clear hK K
                          (try simp only [Act.put, List.setIfInBounds_toArray, List.set_cons_zero, List.set_cons_succ])
                          have H6 := HGM.out.put (j := j) hin (false)
                          generalize World.setCell W3 _ _ = W6 at H6 ⊢
                          clear hcl hfr hgl HC HGM
                          refine done_l (by decide +kernel) ?_ _
                          go_wp2_with fail
                          go_roundw
                          case rel => exact ⟨j + 1, by omega, by simp, by rw [← HST.out]; exact H6⟩
                          case measure => (try simp only [intOf]); omega
                        · have HC := Lib.hid (show (fun w' : World => w'.cell? ⟨gb, i, none⟩ = some (.slice (some ⟨bf i, 0, none⟩) n n) ∧ w'.cell? ⟨gb, k, none⟩ = some (.slice (some ⟨bf k, 0, none⟩) n n) ∧ w'.cell? ⟨bf i, j, none⟩ = some (.bool false) ∧ w'.cell? ⟨bf i, k, none⟩ = some (.bool true) ∧ w'.cell? ⟨bf k, j, none⟩ = some (.bool z)) wr.drew from HCC.out)
                          clear HCC
                          refine regionC_l (fun w' : World => w'.cell? ⟨gb, i, none⟩ = some (.slice (some ⟨bf i, 0, none⟩) n n) ∧ w'.cell? ⟨gb, k, none⟩ = some (.slice (some ⟨bf k, 0, none⟩) n n) ∧ w'.cell? ⟨bf i, j, none⟩ = some (.bool false) ∧ w'.cell? ⟨bf i, k, none⟩ = some (.bool true) ∧ w'.cell? ⟨bf k, j, none⟩ = some (.bool z)) (fun j => j != 31) (n := 32) (listed := #[false, false, false, false, false, false, false, false, false, false, false, false, false, false, false, false, false, false, false, false, false, false, false, false, false, false, false, false, false, false, false, false]) (by kernel_rfl) rfl rfl ?_
                          generalize wr.drew = W3 at HGM HC ⊢
                          (refine pure_l (i := 0) (v := _) rfl (by decide +kernel) (by decide +kernel) (by decide +kernel) (by decide +kernel) (fun _ _ _ h => h) (by kernel_rfl) (by (intro w; go_simp; first | done | with_reducible rfl)) HC.out ?_; try simp only [Act.put, List.setIfInBounds_toArray, List.set_cons_zero, List.set_cons_succ])
                          (refine pure_l (i := 1) (v := _) rfl (by decide +kernel) (by decide +kernel) (by decide +kernel) (by decide +kernel) (fun _ _ _ h => h) (by kernel_rfl) (by (intro w; go_simp; first | done | with_reducible rfl)) HC.out ?_; try simp only [Act.put, List.setIfInBounds_toArray, List.set_cons_zero, List.set_cons_succ])
                          (refine pure_l (i := 4) (v := _) rfl (by decide +kernel) (by decide +kernel) (by decide +kernel) (by decide +kernel) (fun _ _ _ h => h) (by kernel_rfl) (by (intro w; go_simp; first | done | with_reducible rfl)) HC.out ?_; try simp only [Act.put, List.setIfInBounds_toArray, List.set_cons_zero, List.set_cons_succ])
                          (refine pure_l (i := 5) (v := _) rfl (by decide +kernel) (by decide +kernel) (by decide +kernel) (by decide +kernel) (fun _ _ _ h => h) (by kernel_rfl) (by (intro w; go_simp; first | done | with_reducible rfl)) HC.out ?_; try simp only [Act.put, List.setIfInBounds_toArray, List.set_cons_zero, List.set_cons_succ])
                          (refine pure_l (i := 6) (v := _) rfl (by decide +kernel) (by decide +kernel) (by decide +kernel) (by decide +kernel) (fun _ _ _ h => h) (by kernel_rfl) (by (intro w; go_simp; first | done | with_reducible rfl)) HC.out ?_; try simp only [Act.put, List.setIfInBounds_toArray, List.set_cons_zero, List.set_cons_succ])
                          (refine pure_l (i := 9) (v := _) rfl (by decide +kernel) (by decide +kernel) (by decide +kernel) (by decide +kernel) (fun _ _ _ h => h) (by kernel_rfl) (by (intro w; go_simp; first | done | with_reducible rfl)) HC.out ?_; try simp only [Act.put, List.setIfInBounds_toArray, List.set_cons_zero, List.set_cons_succ])
                          (refine pure_l (i := 2) (v := _) rfl (by decide +kernel) (by decide +kernel) (by decide +kernel) (by decide +kernel) (fun _ _ _ h => h) (by kernel_rfl) (by (intro w; go_simp; first | done | with_reducible rfl)) HC.out ?_; try simp only [Act.put, List.setIfInBounds_toArray, List.set_cons_zero, List.set_cons_succ])
                          (refine pure_l (i := 7) (v := _) rfl (by decide +kernel) (by decide +kernel) (by decide +kernel) (by decide +kernel) (fun _ _ _ h => h) (by kernel_rfl) (by (intro w; go_simp; first | done | with_reducible rfl)) HC.out ?_; try simp only [Act.put, List.setIfInBounds_toArray, List.set_cons_zero, List.set_cons_succ])
                          (refine load_l (i := 3) (v := _) rfl (by decide +kernel) (by decide +kernel) (by decide +kernel) (by decide +kernel) (fun _ _ _ h => h) ⟨by kernel_rfl, by (rintro w ⟨c0, c1, c2, c3, c4⟩; go_simp; first | done | with_reducible rfl)⟩ HC.out ?_; try simp only [Act.put, List.setIfInBounds_toArray, List.set_cons_zero, List.set_cons_succ])
                          (refine load_l (i := 8) (v := _) rfl (by decide +kernel) (by decide +kernel) (by decide +kernel) (by decide +kernel) (fun _ _ _ h => h) ⟨by kernel_rfl, by (rintro w ⟨c0, c1, c2, c3, c4⟩; go_simp; first | done | with_reducible rfl)⟩ HC.out ?_; try simp only [Act.put, List.setIfInBounds_toArray, List.set_cons_zero, List.set_cons_succ])
                          (refine pure_l (i := 10) (v := _) rfl (by decide +kernel) (by decide +kernel) (by decide +kernel) (by decide +kernel) (fun _ _ _ h => h) (by kernel_rfl) (by (intro w; go_simp; first | done | with_reducible rfl)) HC.out ?_; try simp only [Act.put, List.setIfInBounds_toArray, List.set_cons_zero, List.set_cons_succ])
                          (refine load_l (i := 11) (v := _) rfl (by decide +kernel) (by decide +kernel) (by decide +kernel) (by decide +kernel) (fun _ _ _ h => h) ⟨by kernel_rfl, by (rintro w ⟨c0, c1, c2, c3, c4⟩; go_simp; first | done | with_reducible rfl)⟩ HC.out ?_; try simp only [Act.put, List.setIfInBounds_toArray, List.set_cons_zero, List.set_cons_succ])
                          (refine pure_l (i := 12) (v := _) rfl (by decide +kernel) (by decide +kernel) (by decide +kernel) (by decide +kernel) (fun _ _ _ h => h) (by kernel_rfl) (by (intro w; go_simp; first | done | with_reducible rfl)) HC.out ?_; try simp only [Act.put, List.setIfInBounds_toArray, List.set_cons_zero, List.set_cons_succ])
                          (refine pure_l (i := 13) (v := _) rfl (by decide +kernel) (by decide +kernel) (by decide +kernel) (by decide +kernel) (fun _ _ _ h => h) (by kernel_rfl) (by (intro w; go_simp; first | done | with_reducible rfl)) HC.out ?_; try simp only [Act.put, List.setIfInBounds_toArray, List.set_cons_zero, List.set_cons_succ])
                          (refine pure_l (i := 14) (v := _) rfl (by decide +kernel) (by decide +kernel) (by decide +kernel) (by decide +kernel) (fun _ _ _ h => h) (by kernel_rfl) (by (intro w; go_simp; first | done | with_reducible rfl)) HC.out ?_; try simp only [Act.put, List.setIfInBounds_toArray, List.set_cons_zero, List.set_cons_succ])
                          (refine pure_l (i := 15) (v := _) rfl (by decide +kernel) (by decide +kernel) (by decide +kernel) (by decide +kernel) (fun _ _ _ h => h) (by kernel_rfl) (by (intro w; go_simp; first | done | with_reducible rfl)) HC.out ?_; try simp only [Act.put, List.setIfInBounds_toArray, List.set_cons_zero, List.set_cons_succ])
                          (refine load_l (i := 16) (v := _) rfl (by decide +kernel) (by decide +kernel) (by decide +kernel) (by decide +kernel) (fun _ _ _ h => h) ⟨by kernel_rfl, by (rintro w ⟨c0, c1, c2, c3, c4⟩; go_simp; first | done | with_reducible rfl)⟩ HC.out ?_; try simp only [Act.put, List.setIfInBounds_toArray, List.set_cons_zero, List.set_cons_succ])
                          (refine pure_l (i := 17) (v := _) rfl (by decide +kernel) (by decide +kernel) (by decide +kernel) (by decide +kernel) (fun _ _ _ h => h) (by kernel_rfl) (by (intro w; go_simp; first | done | with_reducible rfl)) HC.out ?_; try simp only [Act.put, List.setIfInBounds_toArray, List.set_cons_zero, List.set_cons_succ])
                          (refine pure_l (i := 18) (v := _) rfl (by decide +kernel) (by decide +kernel) (by decide +kernel) (by decide +kernel) (fun _ _ _ h => h) (by kernel_rfl) (by (intro w; go_simp; first | done | with_reducible rfl)) HC.out ?_; try simp only [Act.put, List.setIfInBounds_toArray, List.set_cons_zero, List.set_cons_succ])
                          (refine load_l (i := 19) (v := _) rfl (by decide +kernel) (by decide +kernel) (by decide +kernel) (by decide +kernel) (fun _ _ _ h => h) ⟨by kernel_rfl, by (rintro w ⟨c0, c1, c2, c3, c4⟩; go_simp; first | done | with_reducible rfl)⟩ HC.out ?_; try simp only [Act.put, List.setIfInBounds_toArray, List.set_cons_zero, List.set_cons_succ])
                          (refine pure_l (i := 20) (v := _) rfl (by decide +kernel) (by decide +kernel) (by decide +kernel) (by decide +kernel) (fun _ _ _ h => h) (by kernel_rfl) (by (intro w; go_simp; first | done | with_reducible rfl)) HC.out ?_; try simp only [Act.put, List.setIfInBounds_toArray, List.set_cons_zero, List.set_cons_succ])
                          (refine pure_l (i := 21) (v := _) rfl (by decide +kernel) (by decide +kernel) (by decide +kernel) (by decide +kernel) (fun _ _ _ h => h) (by kernel_rfl) (by (intro w; go_simp; first | done | with_reducible rfl)) HC.out ?_; try simp only [Act.put, List.setIfInBounds_toArray, List.set_cons_zero, List.set_cons_succ])
                          (refine pure_l (i := 22) (v := _) rfl (by decide +kernel) (by decide +kernel) (by decide +kernel) (by decide +kernel) (fun _ _ _ h => h) (by kernel_rfl) (by (intro w; go_simp; first | done | with_reducible rfl)) HC.out ?_; try simp only [Act.put, List.setIfInBounds_toArray, List.set_cons_zero, List.set_cons_succ])
                          (refine pure_l (i := 23) (v := _) rfl (by decide +kernel) (by decide +kernel) (by decide +kernel) (by decide +kernel) (fun _ _ _ h => h) (by kernel_rfl) (by (intro w; go_simp; first | done | with_reducible rfl)) HC.out ?_; try simp only [Act.put, List.setIfInBounds_toArray, List.set_cons_zero, List.set_cons_succ])
                          (refine load_l (i := 24) (v := _) rfl (by decide +kernel) (by decide +kernel) (by decide +kernel) (by decide +kernel) (fun _ _ _ h => h) ⟨by kernel_rfl, by (rintro w ⟨c0, c1, c2, c3, c4⟩; go_simp; first | done | with_reducible rfl)⟩ HC.out ?_; try simp only [Act.put, List.setIfInBounds_toArray, List.set_cons_zero, List.set_cons_succ])
                          (refine pure_l (i := 25) (v := _) rfl (by decide +kernel) (by decide +kernel) (by decide +kernel) (by decide +kernel) (fun _ _ _ h => h) (by kernel_rfl) (by (intro w; go_simp; first | done | with_reducible rfl)) HC.out ?_; try simp only [Act.put, List.setIfInBounds_toArray, List.set_cons_zero, List.set_cons_succ])
                          (refine pure_l (i := 26) (v := _) rfl (by decide +kernel) (by decide +kernel) (by decide +kernel) (by decide +kernel) (fun _ _ _ h => h) (by kernel_rfl) (by (intro w; go_simp; first | done | with_reducible rfl)) HC.out ?_; try simp only [Act.put, List.setIfInBounds_toArray, List.set_cons_zero, List.set_cons_succ])
                          (refine load_l (i := 27) (v := _) rfl (by decide +kernel) (by decide +kernel) (by decide +kernel) (by decide +kernel) (fun _ _ _ h => h) ⟨by kernel_rfl, by (rintro w ⟨c0, c1, c2, c3, c4⟩; go_simp; first | done | with_reducible rfl)⟩ HC.out ?_; try simp only [Act.put, List.setIfInBounds_toArray, List.set_cons_zero, List.set_cons_succ])
                          (refine pure_l (i := 28) (v := _) rfl (by decide +kernel) (by decide +kernel) (by decide +kernel) (by decide +kernel) (fun _ _ _ h => h) (by kernel_rfl) (by (intro w; go_simp; first | done | with_reducible rfl)) HC.out ?_; try simp only [Act.put, List.setIfInBounds_toArray, List.set_cons_zero, List.set_cons_succ])
                          (refine pure_l (i := 29) (v := _) rfl (by decide +kernel) (by decide +kernel) (by decide +kernel) (by decide +kernel) (fun _ _ _ h => h) (by kernel_rfl) (by (intro w; go_simp; first | done | with_reducible rfl)) HC.out ?_; try simp only [Act.put, List.setIfInBounds_toArray, List.set_cons_zero, List.set_cons_succ])
                          (refine pure_l (i := 30) (v := _) rfl (by decide +kernel) (by decide +kernel) (by decide +kernel) (by decide +kernel) (fun _ _ _ h => h) (by kernel_rfl) (by (intro w; go_simp; first | done | with_reducible rfl)) HC.out ?_; try simp only [Act.put, List.setIfInBounds_toArray, List.set_cons_zero, List.set_cons_succ])
                          have hcl := HC.out.2.2.1
                          have hfr := (HGM.out.rows i hin).frozen j
                          have hgl := (HGM.out.rows i hin).lt
                          (refine one_l (i := 31) (by decide +kernel) rfl (fun K hK => ?_))
                          go_simp
                          refine hK _ _ (fun h => absurd h (by decide)) ?_
                          clear hK K
                          (try simp only [Act.put, List.setIfInBounds_toArray, List.set_cons_zero, List.set_cons_succ])
                          have H6 := HGM.out.put (j := j) hin (z)
                          generalize World.setCell W3 _ _ = W6 at H6 ⊢
                          clear hcl hfr hgl HC HGM
                          refine done_l (by decide +kernel) ?_ _
                          go_wp2_with fail
                          go_roundw
                          case rel => exact ⟨j + 1, by omega, by simp, by rw [← HST.out]; exact H6⟩
                          case measure => (try simp only [intOf]); omega
                      · have HC := Lib.hid (show (fun w' : World => w'.cell? ⟨gb, i, none⟩ = some (.slice (some ⟨bf i, 0, none⟩) n n) ∧ w'.cell? ⟨gb, k, none⟩ = some (.slice (some ⟨bf k, 0, none⟩) n n) ∧ w'.cell? ⟨bf i, j, none⟩ = some (.bool true) ∧ w'.cell? ⟨bf i, k, none⟩ = some (.bool y) ∧ w'.cell? ⟨bf k, j, none⟩ = some (.bool z)) wr.drew from HCC.out)
                        clear HCC
                        refine regionC_l (fun w' : World => w'.cell? ⟨gb, i, none⟩ = some (.slice (some ⟨bf i, 0, none⟩) n n) ∧ w'.cell? ⟨gb, k, none⟩ = some (.slice (some ⟨bf k, 0, none⟩) n n) ∧ w'.cell? ⟨bf i, j, none⟩ = some (.bool true) ∧ w'.cell? ⟨bf i, k, none⟩ = some (.bool y) ∧ w'.cell? ⟨bf k, j, none⟩ = some (.bool z)) (fun j => j != 31) (n := 32) (listed := #[false, false, false, false, false, false, false, false, false, false, false, false, false, false, false, false, false, false, false, false, false, false, false, false, false, false, false, false, false, false, false, false]) (by kernel_rfl) rfl rfl ?_
                        generalize wr.drew = W3 at HGM HC ⊢
                        (refine pure_l (i := 0) (v := _) rfl (by decide +kernel) (by decide +kernel) (by decide +kernel) (by decide +kernel) (fun _ _ _ h => h) (by kernel_rfl) (by (intro w; go_simp; first | done | with_reducible rfl)) HC.out ?_; try simp only [Act.put, List.setIfInBounds_toArray, List.set_cons_zero, List.set_cons_succ])
                        (refine pure_l (i := 1) (v := _) rfl (by decide +kernel) (by decide +kernel) (by decide +kernel) (by decide +kernel) (fun _ _ _ h => h) (by kernel_rfl) (by (intro w; go_simp; first | done | with_reducible rfl)) HC.out ?_; try simp only [Act.put, List.setIfInBounds_toArray, List.set_cons_zero, List.set_cons_succ])
                        (refine pure_l (i := 4) (v := _) rfl (by decide +kernel) (by decide +kernel) (by decide +kernel) (by decide +kernel) (fun _ _ _ h => h) (by kernel_rfl) (by (intro w; go_simp; first | done | with_reducible rfl)) HC.out ?_; try simp only [Act.put, List.setIfInBounds_toArray, List.set_cons_zero, List.set_cons_succ])
                        (refine pure_l (i := 5) (v := _) rfl (by decide +kernel) (by decide +kernel) (by decide +kernel) (by decide +kernel) (fun _ _ _ h => h) (by kernel_rfl) (by (intro w; go_simp; first | done | with_reducible rfl)) HC.out ?_; try simp only [Act.put, List.setIfInBounds_toArray, List.set_cons_zero, List.set_cons_succ])
                        (refine pure_l (i := 6) (v := _) rfl (by decide +kernel) (by decide +kernel) (by decide +kernel) (by decide +kernel) (fun _ _ _ h => h) (by kernel_rfl) (by (intro w; go_simp; first | done | with_reducible rfl)) HC.out ?_; try simp only [Act.put, List.setIfInBounds_toArray, List.set_cons_zero, List.set_cons_succ])
                        (refine pure_l (i := 9) (v := _) rfl (by decide +kernel) (by decide +kernel) (by decide +kernel) (by decide +kernel) (fun _ _ _ h => h) (by kernel_rfl) (by (intro w; go_simp; first | done | with_reducible rfl)) HC.out ?_; try simp only [Act.put, List.setIfInBounds_toArray, List.set_cons_zero, List.set_cons_succ])
                        (refine pure_l (i := 2) (v := _) rfl (by decide +kernel) (by decide +kernel) (by decide +kernel) (by decide +kernel) (fun _ _ _ h => h) (by kernel_rfl) (by (intro w; go_simp; first | done | with_reducible rfl)) HC.out ?_; try simp only [Act.put, List.setIfInBounds_toArray, List.set_cons_zero, List.set_cons_succ])
                        (refine pure_l (i := 7) (v := _) rfl (by decide +kernel) (by decide +kernel) (by decide +kernel) (by decide +kernel) (fun _ _ _ h => h) (by kernel_rfl) (by (intro w; go_simp; first | done | with_reducible rfl)) HC.out ?_; try simp only [Act.put, List.setIfInBounds_toArray, List.set_cons_zero, List.set_cons_succ])
                        (refine load_l (i := 3) (v := _) rfl (by decide +kernel) (by decide +kernel) (by decide +kernel) (by decide +kernel) (fun _ _ _ h => h) ⟨by kernel_rfl, by (rintro w ⟨c0, c1, c2, c3, c4⟩; go_simp; first | done | with_reducible rfl)⟩ HC.out ?_; try simp only [Act.put, List.setIfInBounds_toArray, List.set_cons_zero, List.set_cons_succ])
                        (refine load_l (i := 8) (v := _) rfl (by decide +kernel) (by decide +kernel) (by decide +kernel) (by decide +kernel) (fun _ _ _ h => h) ⟨by kernel_rfl, by (rintro w ⟨c0, c1, c2, c3, c4⟩; go_simp; first | done | with_reducible rfl)⟩ HC.out ?_; try simp only [Act.put, List.setIfInBounds_toArray, List.set_cons_zero, List.set_cons_succ])
                        (refine pure_l (i := 10) (v := _) rfl (by decide +kernel) (by decide +kernel) (by decide +kernel) (by decide +kernel) (fun _ _ _ h => h) (by kernel_rfl) (by (intro w; go_simp; first | done | with_reducible rfl)) HC.out ?_; try simp only [Act.put, List.setIfInBounds_toArray, List.set_cons_zero, List.set_cons_succ])
                        (refine load_l (i := 11) (v := _) rfl (by decide +kernel) (by decide +kernel) (by decide +kernel) (by decide +kernel) (fun _ _ _ h => h) ⟨by kernel_rfl, by (rintro w ⟨c0, c1, c2, c3, c4⟩; go_simp; first | done | with_reducible rfl)⟩ HC.out ?_; try simp only [Act.put, List.setIfInBounds_toArray, List.set_cons_zero, List.set_cons_succ])
                        (refine pure_l (i := 12) (v := _) rfl (by decide +kernel) (by decide +kernel) (by decide +kernel) (by decide +kernel) (fun _ _ _ h => h) (by kernel_rfl) (by (intro w; go_simp; first | done | with_reducible rfl)) HC.out ?_; try simp only [Act.put, List.setIfInBounds_toArray, List.set_cons_zero, List.set_cons_succ])
                        (refine skip_l (i := 13) rfl (by decide +kernel) (by decide +kernel) (by decide +kernel) (by decide +kernel) (fun _ _ _ h => h) (by kernel_rfl) HC.out ?_; try simp only [Act.put, List.setIfInBounds_toArray, List.set_cons_zero, List.set_cons_succ])
                        (refine skip_l (i := 14) rfl (by decide +kernel) (by decide +kernel) (by decide +kernel) (by decide +kernel) (fun _ _ _ h => h) (by kernel_rfl) HC.out ?_; try simp only [Act.put, List.setIfInBounds_toArray, List.set_cons_zero, List.set_cons_succ])
                        (refine skip_l (i := 15) rfl (by decide +kernel) (by decide +kernel) (by decide +kernel) (by decide +kernel) (fun _ _ _ h => h) (by kernel_rfl) HC.out ?_; try simp only [Act.put, List.setIfInBounds_toArray, List.set_cons_zero, List.set_cons_succ])
                        (refine skip_l (i := 16) rfl (by decide +kernel) (by decide +kernel) (by decide +kernel) (by decide +kernel) (fun _ _ _ h => h) (by kernel_rfl) HC.out ?_; try simp only [Act.put, List.setIfInBounds_toArray, List.set_cons_zero, List.set_cons_succ])
                        (refine skip_l (i := 17) rfl (by decide +kernel) (by decide +kernel) (by decide +kernel) (by decide +kernel) (fun _ _ _ h => h) (by kernel_rfl) HC.out ?_; try simp only [Act.put, List.setIfInBounds_toArray, List.set_cons_zero, List.set_cons_succ])
                        (refine skip_l (i := 18) rfl (by decide +kernel) (by decide +kernel) (by decide +kernel) (by decide +kernel) (fun _ _ _ h => h) (by kernel_rfl) HC.out ?_; try simp only [Act.put, List.setIfInBounds_toArray, List.set_cons_zero, List.set_cons_succ])
                        (refine skip_l (i := 19) rfl (by decide +kernel) (by decide +kernel) (by decide +kernel) (by decide +kernel) (fun _ _ _ h => h) (by kernel_rfl) HC.out ?_; try simp only [Act.put, List.setIfInBounds_toArray, List.set_cons_zero, List.set_cons_succ])
                        (refine skip_l (i := 20) rfl (by decide +kernel) (by decide +kernel) (by decide +kernel) (by decide +kernel) (fun _ _ _ h => h) (by kernel_rfl) HC.out ?_; try simp only [Act.put, List.setIfInBounds_toArray, List.set_cons_zero, List.set_cons_succ])
                        (refine skip_l (i := 21) rfl (by decide +kernel) (by decide +kernel) (by decide +kernel) (by decide +kernel) (fun _ _ _ h => h) (by kernel_rfl) HC.out ?_; try simp only [Act.put, List.setIfInBounds_toArray, List.set_cons_zero, List.set_cons_succ])
                        (refine skip_l (i := 22) rfl (by decide +kernel) (by decide +kernel) (by decide +kernel) (by decide +kernel) (fun _ _ _ h => h) (by kernel_rfl) HC.out ?_; try simp only [Act.put, List.setIfInBounds_toArray, List.set_cons_zero, List.set_cons_succ])
                        (refine skip_l (i := 23) rfl (by decide +kernel) (by decide +kernel) (by decide +kernel) (by decide +kernel) (fun _ _ _ h => h) (by kernel_rfl) HC.out ?_; try simp only [Act.put, List.setIfInBounds_toArray, List.set_cons_zero, List.set_cons_succ])
                        (refine skip_l (i := 24) rfl (by decide +kernel) (by decide +kernel) (by decide +kernel) (by decide +kernel) (fun _ _ _ h => h) (by kernel_rfl) HC.out ?_; try simp only [Act.put, List.setIfInBounds_toArray, List.set_cons_zero, List.set_cons_succ])
                        (refine skip_l (i := 25) rfl (by decide +kernel) (by decide +kernel) (by decide +kernel) (by decide +kernel) (fun _ _ _ h => h) (by kernel_rfl) HC.out ?_; try simp only [Act.put, List.setIfInBounds_toArray, List.set_cons_zero, List.set_cons_succ])
                        (refine skip_l (i := 26) rfl (by decide +kernel) (by decide +kernel) (by decide +kernel) (by decide +kernel) (fun _ _ _ h => h) (by kernel_rfl) HC.out ?_; try simp only [Act.put, List.setIfInBounds_toArray, List.set_cons_zero, List.set_cons_succ])
                        (refine skip_l (i := 27) rfl (by decide +kernel) (by decide +kernel) (by decide +kernel) (by decide +kernel) (fun _ _ _ h => h) (by kernel_rfl) HC.out ?_; try simp only [Act.put, List.setIfInBounds_toArray, List.set_cons_zero, List.set_cons_succ])
                        (refine skip_l (i := 28) rfl (by decide +kernel) (by decide +kernel) (by decide +kernel) (by decide +kernel) (fun _ _ _ h => h) (by kernel_rfl) HC.out ?_; try simp only [Act.put, List.setIfInBounds_toArray, List.set_cons_zero, List.set_cons_succ])
                        (refine pure_l (i := 29) (v := _) rfl (by decide +kernel) (by decide +kernel) (by decide +kernel) (by decide +kernel) (fun _ _ _ h => h) (by kernel_rfl) (by (intro w; go_simp; first | done | with_reducible rfl)) HC.out ?_; try simp only [Act.put, List.setIfInBounds_toArray, List.set_cons_zero, List.set_cons_succ])
                        (refine pure_l (i := 30) (v := _) rfl (by decide +kernel) (by decide +kernel) (by decide +kernel) (by decide +kernel) (fun _ _ _ h => h) (by kernel_rfl) (by (intro w; go_simp; first | done | with_reducible rfl)) HC.out ?_; try simp only [Act.put, List.setIfInBounds_toArray, List.set_cons_zero, List.set_cons_succ])
                        have hcl := HC.out.2.2.1
                        have hfr := (HGM.out.rows i hin).frozen j
                        have hgl := (HGM.out.rows i hin).lt
                        (refine one_l (i := 31) (by decide +kernel) rfl (fun K hK => ?_))
                        go_simp
                        refine hK _ _ (fun h => absurd h (by decide)) ?_
                        clear hK K
                        (try simp only [Act.put, List.setIfInBounds_toArray, List.set_cons_zero, List.set_cons_succ])
                        have H6 := HGM.out.put (j := j) hin (true)
                        generalize World.setCell W3 _ _ = W6 at H6 ⊢
                        clear hcl hfr hgl HC HGM
                        refine done_l (by decide +kernel) ?_ _
                        go_wp2_with fail
                        go_roundw
                        case rel => exact ⟨j + 1, by omega, by simp, by rw [← HST.out]; exact H6⟩
                        case measure => (try simp only [intOf]); omega
                    · have hjj : j = n := by omega
                      subst hjj
                      go_wp2_with fail
                      go_roundw
                      case rel => exact ⟨i + 1, by omega, by simp, HGM.out.congr (fun a b _ hb => (walP_row G0 hb).symm) (Nat.le_refl _)⟩
                      case measure => (try simp only [intOf]); omega
                · have hii : i = n := by omega
                  subst hii
                  go_wp2_with fail
                  go_roundw
                  case rel => exact ⟨k + 1, by omega, by simp, HGM.out.congr (fun a b ha _ => (walP_end G0 ha).symm) (Nat.le_refl _)⟩
                  case measure => (try simp only [intOf]); omega
            · have hkk : k = n := by omega
              subst hkk
              go_wp2_with fail
              go_ret
              exact ⟨gb, rfl, by unfold gE; rw [HG0.out]; exact (HGM.out.congr (fun a b _ _ => (walP_zero G0 k a b).symm) (Nat.le_refl _)).mat, HGM.out.below⟩
end Go.Proofs.Ytodhianmaogfpaa
