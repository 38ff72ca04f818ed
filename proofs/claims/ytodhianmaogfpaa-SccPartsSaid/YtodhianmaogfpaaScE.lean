/- graph.components: its contract. -/
import Derived.Test.YtodhianmaogfpaaScD
namespace Go.Proofs.Ytodhianmaogfpaa
set_option linter.unusedSimpArgs false
set_option linter.unusedVariables false
open Go.RowKit
attribute [local go_sem ↓] Go.wp_at_zero Go.wp_at_succ
theorem lt_all {P : Nat → Prop} {k : Nat} (h : ∀ x, x < k → P x) (hk : P k) : ∀ x, x < k + 1 → P x := fun x hx => by
  rcases Nat.lt_or_ge x k with h1 | h1
  · exact h x h1
  · obtain rfl : x = k := by omega
    exact hk
theorem map_zero (n : Nat) : (List.range n).map (fun _ => 0) = List.replicate n 0 := by simp [List.map_const']
theorem fam_four {w : World} {B n : Nat} {V : Nat → Value} {m0 m1 m2 m3 : Bool} (h : Fam w B V (fun _ => List.replicate n 0) fun k => (k = 0 ∧ m0 = true) ∨ (k = 1 ∧ m1 = true) ∨ (k = 2 ∧ m2 = true) ∨ (k = 3 ∧ m3 = true)) (hB : B ≤ w.heap.size) (hn : n ≤ maxLen) {k : Nat} (hk : ¬ ((k = 0 ∧ m0 = true) ∨ (k = 1 ∧ m1 = true) ∨ (k = 2 ∧ m2 = true) ∨ (k = 3 ∧ m3 = true))) :
    Fam (w.alloc (.cells (madeCells #[.int .i64 0] n) 3)) B (upf V k (.slice (some ⟨w.heap.size, 0, none⟩) n n)) (fun _ => List.replicate n 0) fun j => ((j = 0 ∧ m0 = true) ∨ (j = 1 ∧ m1 = true) ∨ (j = 2 ∧ m2 = true) ∨ (j = 3 ∧ m3 = true)) ∨ j = k := by
  have h1 := h.add hk (Row.made w hB n hn) ((Below.refl _ _).alloc (Nat.le_refl _) _) (fun g hg => by simp [Value.ownBlock] at hg; omega)
  refine h1.congr (fun _ h => h) (fun _ _ => rfl) (fun j _ => ?_)
  by_cases e : j = k
  · rw [e, upf_at]
  · rw [upf_ne e]
/-- what is known when some of the four rows are made -/
def Four (w0 : World) (n : Nat) (m0 m1 m2 m3 : Bool) (x0 x1 x2 x3 : Value) (wj : World) : Prop :=
  Below w0.heap.size w0 wj ∧ ∃ V : Nat → Value, (m0 = true → x0 = V 0) ∧ (m1 = true → x1 = V 1) ∧ (m2 = true → x2 = V 2) ∧ (m3 = true → x3 = V 3) ∧ (∀ k, ((k = 0 ∧ m0 = true) ∨ (k = 1 ∧ m1 = true) ∨ (k = 2 ∧ m2 = true) ∨ (k = 3 ∧ m3 = true)) → ∃ g, V k = .slice (some ⟨g, 0, none⟩) n n) ∧
    Fam wj w0.heap.size V (fun _ => List.replicate n 0) fun k => (k = 0 ∧ m0 = true) ∨ (k = 1 ∧ m1 = true) ∨ (k = 2 ∧ m2 = true) ∨ (k = 3 ∧ m3 = true)
theorem four_0 {w0 wj : World} {n : Nat} {m1 m2 m3 : Bool} {x0 x1 x2 x3 : Value} (hn : n ≤ maxLen) (h : Four w0 n false m1 m2 m3 x0 x1 x2 x3 wj) : Four w0 n true m1 m2 m3 (.slice (some ⟨wj.heap.size, 0, none⟩) n n) x1 x2 x3 (wj.alloc (.cells (madeCells #[.int .i64 0] n) 3)) := by
  obtain ⟨hb, V, h0, h1, h2, h3, hg, hF⟩ := h
  have hF' := fam_four hF hb.size hn (k := 0) (by simp)
  refine ⟨below_alloc hb _, upf V 0 (.slice (some ⟨wj.heap.size, 0, none⟩) n n), fun _ => by rw [upf_at], fun h => by rw [upf_ne (by decide)]; exact h1 h, fun h => by rw [upf_ne (by decide)]; exact h2 h, fun h => by rw [upf_ne (by decide)]; exact h3 h, fun j hj => ?_, hF'.congr (fun j hj => ?_) (fun _ _ => rfl) (fun _ _ => rfl)⟩
  · by_cases e : j = 0
    · subst e; exact ⟨_, upf_at _ _ _⟩
    · rw [upf_ne e]
      exact hg j (by rcases hj with hj | hj | hj | hj <;> simp_all)
  · rcases hj with hj | hj | hj | hj <;> simp_all
theorem four_1 {w0 wj : World} {n : Nat} {m0 m2 m3 : Bool} {x0 x1 x2 x3 : Value} (hn : n ≤ maxLen) (h : Four w0 n m0 false m2 m3 x0 x1 x2 x3 wj) : Four w0 n m0 true m2 m3 x0 (.slice (some ⟨wj.heap.size, 0, none⟩) n n) x2 x3 (wj.alloc (.cells (madeCells #[.int .i64 0] n) 3)) := by
  obtain ⟨hb, V, h0, h1, h2, h3, hg, hF⟩ := h
  have hF' := fam_four hF hb.size hn (k := 1) (by simp)
  refine ⟨below_alloc hb _, upf V 1 (.slice (some ⟨wj.heap.size, 0, none⟩) n n), fun h => by rw [upf_ne (by decide)]; exact h0 h, fun _ => by rw [upf_at], fun h => by rw [upf_ne (by decide)]; exact h2 h, fun h => by rw [upf_ne (by decide)]; exact h3 h, fun j hj => ?_, hF'.congr (fun j hj => ?_) (fun _ _ => rfl) (fun _ _ => rfl)⟩
  · by_cases e : j = 1
    · subst e; exact ⟨_, upf_at _ _ _⟩
    · rw [upf_ne e]
      exact hg j (by rcases hj with hj | hj | hj | hj <;> simp_all)
  · rcases hj with hj | hj | hj | hj <;> simp_all
theorem four_2 {w0 wj : World} {n : Nat} {m0 m1 m3 : Bool} {x0 x1 x2 x3 : Value} (hn : n ≤ maxLen) (h : Four w0 n m0 m1 false m3 x0 x1 x2 x3 wj) : Four w0 n m0 m1 true m3 x0 x1 (.slice (some ⟨wj.heap.size, 0, none⟩) n n) x3 (wj.alloc (.cells (madeCells #[.int .i64 0] n) 3)) := by
  obtain ⟨hb, V, h0, h1, h2, h3, hg, hF⟩ := h
  have hF' := fam_four hF hb.size hn (k := 2) (by simp)
  refine ⟨below_alloc hb _, upf V 2 (.slice (some ⟨wj.heap.size, 0, none⟩) n n), fun h => by rw [upf_ne (by decide)]; exact h0 h, fun h => by rw [upf_ne (by decide)]; exact h1 h, fun _ => by rw [upf_at], fun h => by rw [upf_ne (by decide)]; exact h3 h, fun j hj => ?_, hF'.congr (fun j hj => ?_) (fun _ _ => rfl) (fun _ _ => rfl)⟩
  · by_cases e : j = 2
    · subst e; exact ⟨_, upf_at _ _ _⟩
    · rw [upf_ne e]
      exact hg j (by rcases hj with hj | hj | hj | hj <;> simp_all)
  · rcases hj with hj | hj | hj | hj <;> simp_all
theorem four_3 {w0 wj : World} {n : Nat} {m0 m1 m2 : Bool} {x0 x1 x2 x3 : Value} (hn : n ≤ maxLen) (h : Four w0 n m0 m1 m2 false x0 x1 x2 x3 wj) : Four w0 n m0 m1 m2 true x0 x1 x2 (.slice (some ⟨wj.heap.size, 0, none⟩) n n) (wj.alloc (.cells (madeCells #[.int .i64 0] n) 3)) := by
  obtain ⟨hb, V, h0, h1, h2, h3, hg, hF⟩ := h
  have hF' := fam_four hF hb.size hn (k := 3) (by simp)
  refine ⟨below_alloc hb _, upf V 3 (.slice (some ⟨wj.heap.size, 0, none⟩) n n), fun h => by rw [upf_ne (by decide)]; exact h0 h, fun h => by rw [upf_ne (by decide)]; exact h1 h, fun h => by rw [upf_ne (by decide)]; exact h2 h, fun _ => by rw [upf_at], fun j hj => ?_, hF'.congr (fun j hj => ?_) (fun _ _ => rfl) (fun _ _ => rfl)⟩
  · by_cases e : j = 3
    · subst e; exact ⟨_, upf_at _ _ _⟩
    · rw [upf_ne e]
      exact hg j (by rcases hj with hj | hj | hj | hj <;> simp_all)
  · rcases hj with hj | hj | hj | hj <;> simp_all
/-- the finder at the beginning -/
theorem four_fin {w0 w : World} {n : Nat} {gv : Value} {x0 x1 x2 x3 : Value} (h : Four w0 n true true true true x0 x1 x2 x3 w) : ∃ b0 b1 b2 b3, x0 = .slice (some ⟨b0, 0, none⟩) n n ∧ x1 = .slice (some ⟨b1, 0, none⟩) n n ∧ x2 = .slice (some ⟨b2, 0, none⟩) n n ∧ x3 = .slice (some ⟨b3, 0, none⟩) n n ∧
    Fin w0 (w.alloc (.cells #[gv, x0, x1, x2, .slice none 0 0, .int .i64 0, x3, .int .i64 0] 47)) w0.heap.size w.heap.size n gv b0 b1 b2 b3 ts0 (.slice none 0 0) := by
  obtain ⟨hb, V, h0, h1, h2, h3, hg, hF⟩ := h
  obtain ⟨b0, e0⟩ := hg 0 (by simp)
  obtain ⟨b1, e1⟩ := hg 1 (by simp)
  obtain ⟨b2, e2⟩ := hg 2 (by simp)
  obtain ⟨b3, e3⟩ := hg 3 (by simp)
  obtain rfl := h0 rfl
  obtain rfl := h1 rfl
  obtain rfl := h2 rfl
  obtain rfl := h3 rfl
  rw [e0, e1, e2, e3]
  refine ⟨b0, b1, b2, b3, rfl, rfl, rfl, rfl, blk_new1 _ _ _, ?_, hb.size, below_alloc hb _, KeepB.of_below (below_alloc hb _), by have := hb.size; simp; omega⟩
  have h5 := fam_nil (V := finV n b0 b1 b2 b3 (.slice none 0 0)) (L := tsL n ts0) (J := fun k => k = 4) (hF.congr (V' := finV n b0 b1 b2 b3 (.slice none 0 0)) (L' := tsL n ts0) (I' := fun k => k < 4) (fun k hk => by
      match k, hk with
      | 0, _ => exact .inl ⟨rfl, rfl⟩
      | 1, _ => exact .inr (.inl ⟨rfl, rfl⟩)
      | 2, _ => exact .inr (.inr (.inl ⟨rfl, rfl⟩))
      | 3, _ => exact .inr (.inr (.inr ⟨rfl, rfl⟩))) (fun k hk => by
      match k, hk with
      | 0, _ => exact e0.symm
      | 1, _ => exact e1.symm
      | 2, _ => exact e2.symm
      | 3, _ => exact e3.symm) (fun k hk => by
      match k, hk with
      | 0, _ => exact map_zero n
      | 1, _ => exact map_zero n
      | 2, _ => exact map_zero n
      | 3, _ => exact map_zero n)) (fun k hk _ => by subst hk; exact ⟨rfl, rfl⟩)
  exact (h5.congr (fun k hk => by rcases Nat.lt_or_ge k 4 with h | h; exact .inl h; exact .inr (by omega)) (fun _ _ => rfl) (fun _ _ => rfl)).alloc _
theorem bd0 (n : Nat) : Bd n ts0 := ⟨by simp [ts0], by
  show 0 + uns n (fun _ => 0) = n
  simp [uns]⟩
set_option maxRecDepth 100000 in
set_option maxHeartbeats 4000000 in
theorem components_any (w : World) (gb n : Nat) (adj : Nat → List Nat) (hG : Gph w gb n adj) (hadj : ∀ v x, x ∈ adj v → x < n) (hn : n ≤ 2000) (hmu : muN n adj (fun _ => 0) ≤ 1000000) :
    Calls Try.prog 17 #[.slice (some ⟨gb, 0, none⟩) n n] w fun e w' => ∃ (b3 : Nat) (s : TS), e = .returned (.tuple #[.slice (some ⟨b3, 0, none⟩) n n, .int .i64 (s.cnt : Nat)]) ∧ Row w' w.heap.size (.slice (some ⟨b3, 0, none⟩) n n) ((List.range n).map s.of) ∧ Below w.heap.size w w' ∧
      (∀ v, v < n → s.of v < s.cnt) ∧ (∀ v x, v < n → x < n → (s.of v = s.of x ↔ Rch adj v x ∧ Rch adj x v)) ∧ (∀ c, c < s.cnt → ∃ v, v < n ∧ s.of v = c) ∧ s.cnt ≤ n := by
  have HG := Lib.hid hG
  have HA := Lib.hid hadj
  have hml : n ≤ maxLen := by unfold maxLen; omega
  have hmk := run_make_row' (P := Try.prog) 26 3 (.int .i64 0) 8 Try.underlying26 infNat rfl .i64 .i64 n (by omega) (by omega)
  clear hG hadj
  go_enter Try.func17, Try.ntmps17
  go_wp2_with fail
  refine region_l (n := 12) (listed := #[false, false, false, false, false, false, false, false, false, false, false, false]) (by kernel_rfl) rfl rfl ?_
  (refine take_l (i := 0) (v := _) rfl (by decide +kernel) (by decide +kernel) (by decide +kernel) (fun _ _ _ h => h) (Or.inl ⟨by kernel_rfl, by (intro w; go_simp; first | done | with_reducible rfl)⟩) ?_; try simp only [Act.put, List.setIfInBounds_toArray, List.set_cons_zero, List.set_cons_succ])
  (refine take_l (i := 1) (v := _) rfl (by decide +kernel) (by decide +kernel) (by decide +kernel) (fun _ _ _ h => h) (Or.inl ⟨by kernel_rfl, by (intro w; go_simp; first | done | with_reducible rfl)⟩) ?_; try simp only [Act.put, List.setIfInBounds_toArray, List.set_cons_zero, List.set_cons_succ])
  (refine take_l (i := 3) (v := _) rfl (by decide +kernel) (by decide +kernel) (by decide +kernel) (fun _ _ _ h => h) (Or.inl ⟨by kernel_rfl, by (intro w; go_simp; first | done | with_reducible rfl)⟩) ?_; try simp only [Act.put, List.setIfInBounds_toArray, List.set_cons_zero, List.set_cons_succ])
  (refine take_l (i := 5) (v := _) rfl (by decide +kernel) (by decide +kernel) (by decide +kernel) (fun _ _ _ h => h) (Or.inl ⟨by kernel_rfl, by (intro w; go_simp; first | done | with_reducible rfl)⟩) ?_; try simp only [Act.put, List.setIfInBounds_toArray, List.set_cons_zero, List.set_cons_succ])
  (refine take_l (i := 7) (v := _) rfl (by decide +kernel) (by decide +kernel) (by decide +kernel) (fun _ _ _ h => h) (Or.inl ⟨by kernel_rfl, by (intro w; go_simp; first | done | with_reducible rfl)⟩) ?_; try simp only [Act.put, List.setIfInBounds_toArray, List.set_cons_zero, List.set_cons_succ])
  refine inv_l (J := fun listed a wj => ∃ (m0 m1 m2 m3 : Bool) (x0 x1 x2 x3 : Value), listed = #[true, true, m0, true, m1, true, m2, true, m3, false, false, false] ∧ a = { tmps := #[.slice (some ⟨gb, 0, none⟩) n n, undef, .slice none 0 0, .int .i64 0, .int .i64 n, undef, undef, .slice (some ⟨gb, 0, none⟩) n n, .int .i64 n, .slice (some ⟨gb, 0, none⟩) n n, .int .i64 n, x0, .int .i64 n, x1, .int .i64 n, x2, .int .i64 n, x3, undef, undef, undef, undef, undef, undef, undef, undef, undef, undef, undef, undef, undef, undef, undef, undef, undef, undef, undef, undef, undef, undef, undef, undef, undef, undef], defers := [] } ∧ Four w n m0 m1 m2 m3 x0 x1 x2 x3 wj) (n := 7) ⟨false, false, false, false, _, _, _, _, rfl, rfl, (Below.refl _ _).drew, fun _ => .slice none 0 0, nofun, nofun, nofun, nofun, fun k hk => by simp at hk, (fam0 _ _ _ _).congr (fun k hk => by simp at hk) (fun _ _ => rfl) (fun _ _ => rfl)⟩ rfl ?_
  rintro listed a wj ⟨m0, m1, m2, m3, x0, x1, x2, x3, rfl, rfl, h4⟩
  by_cases hall : m0 = true ∧ m1 = true ∧ m2 = true ∧ m3 = true
  · left
    obtain ⟨rfl, rfl, rfl, rfl⟩ := hall
    intro f
    show wpAny _ _ _ _ (f + 3) _ _ _
    obtain ⟨b0, b1, b2, b3, rfl, rfl, rfl, rfl, hF⟩ := four_fin (gv := .slice (some ⟨gb, 0, none⟩) n n) h4
    (refine take_l (i := 9) (v := _) rfl (by decide +kernel) (by decide +kernel) (by decide +kernel) (fun _ _ _ h => h) (Or.inl ⟨by kernel_rfl, by (intro w; go_simp; first | done | with_reducible rfl)⟩) ?_; try simp only [Act.put, List.setIfInBounds_toArray, List.set_cons_zero, List.set_cons_succ])
    refine wpAny_ready (rs := [10]) (by decide +kernel) (by simp) ?_
    refine AllReady.cons rfl (fun K hK => ?_) AllReady.nil
    go_simp
    refine hK _ _ ?_
    clear hK K
    (try simp only [Act.put, List.setIfInBounds_toArray, List.set_cons_zero, List.set_cons_succ])
    have HF := Lib.hid hF
    clear hF h4
    generalize World.alloc wj _ = W1 at HF ⊢
    generalize wj.heap.size = fb at HF ⊢
    (refine take_l (i := 11) (v := _) rfl (by decide +kernel) (by decide +kernel) (by decide +kernel) (fun _ _ _ h => h) (Or.inl ⟨by kernel_rfl, by (intro w; go_simp; first | done | with_reducible rfl)⟩) ?_; try simp only [Act.put, List.setIfInBounds_toArray, List.set_cons_zero, List.set_cons_succ])
    refine wpAny_done (by decide +kernel) ?_ _
    clear hmk
    go_wp2
    go_loopw [21] (fun i wr => ∃ (k : Nat) (s : TS) (sv : Value), k ≤ n ∧ i = .int .i64 k ∧ Fin w wr w.heap.size fb n (.slice (some ⟨gb, 0, none⟩) n n) b0 b1 b2 b3 s sv ∧ TI n adj s ∧ Bd n s ∧ s.todo = [] ∧ (∀ x, x < k → 0 < s.seen x) ∧ s.mu n adj ≤ muN n adj (fun _ => 0)) (fun i _ => n - (intOf i).toNat)
    case atStart => exact ⟨0, ts0, _, Nat.zero_le _, rfl, HF.out, ti0 HA.out, bd0 n, rfl, fun x h => by omega, by simp [TS.mu, ts0, muT_nil]⟩
    case round =>
      clear HF
      obtain ⟨k, s, sv, hk, rfl, hF, hI, hB, htd, hse, hmu2⟩ := hrel
      have HF := Lib.hid hF
      have HI := Lib.hid hI
      have HB := Lib.hid hB
      have HTD := Lib.hid htd
      have HSE := Lib.hid hse
      have HMU := Lib.hid hmu2
      clear hF hI hB htd hse hmu2
      by_cases hlt : k < n
      · have hk0 : (0 : Int) ≤ (k : Int) := Int.natCast_nonneg _
        have hk1 : (k : Int) < (n : Int) := by omega
        have hkt : ((k : Int)).toNat = k := Int.toNat_natCast _
        have c1 := HF.out.cells.2.1
        have cs := HF.out.seenAt hlt
        by_cases hs0 : s.seen k = 0
        · have hsb : ((s.seen k : Int) == 0) = true := by rw [hs0]; rfl
          go_wp2_with fail
          clear c1 cs
          refine (from_any wr s sv k HG.out HF.out HI.out HB.out HTD.out hlt hs0 hn (by have := HMU.out; omega)).mono ?_
          rintro e5 w5 ⟨rfl, s5, sv5, hF5, hI5, hB5, htd5, hsk, hmo, hmu5⟩
          have HF5 := Lib.hid hF5
          have HI5 := Lib.hid hI5
          have HB5 := Lib.hid hB5
          have HTD5 := Lib.hid htd5
          have HMO := Lib.hid hmo
          have HSK := Lib.hid hsk
          have HM5 := Lib.hid hmu5
          clear hF5 hI5 hB5 htd5 hsk hmo hmu5
          go_wp2_with fail
          go_roundw
          case rel => exact ⟨k + 1, s5, sv5, by omega, by simp, HF5.out, HI5.out, HB5.out, HTD5.out, lt_all (fun x hx => HMO.out x (HSE.out x hx)) HSK.out, Nat.le_trans HM5.out HMU.out⟩
          case measure => (try simp only [intOf]); omega
        · have hsb : ((s.seen k : Int) == 0) = false := by rw [beq_eq_false_iff_ne]; omega
          go_wp2_with fail
          go_roundw
          case rel => exact ⟨k + 1, s, sv, by omega, by simp, HF.out, HI.out, HB.out, HTD.out, lt_all HSE.out (by omega), HMU.out⟩
          case measure => (try simp only [intOf]); omega
      · obtain ⟨r1, r2, r3⟩ := HI.out.done HTD.out (fun v hv => HSE.out v (by omega))
        have R1 := Lib.hid r1
        have R2 := Lib.hid r2
        have R3 := Lib.hid r3
        have hcn : s.cnt ≤ n := by have h1 := HB.out.1; have h2 := HB.out.2; omega
        clear r1 r2 r3
        go_wp2_with fail
        have HC := Lib.hid (show (fun w' : World => w'.cell? ⟨fb, 6, none⟩ = some (.slice (some ⟨b3, 0, none⟩) n n) ∧ w'.cell? ⟨fb, 7, none⟩ = some (.int .i64 (s.cnt : Nat))) wr.drew from ⟨HF.out.cells.2.2.2.2.2.2.1, HF.out.cells.2.2.2.2.2.2.2⟩)
        have HF := Lib.hid HF.out.drew
        refine regionC_l (fun w' : World => w'.cell? ⟨fb, 6, none⟩ = some (.slice (some ⟨b3, 0, none⟩) n n) ∧ w'.cell? ⟨fb, 7, none⟩ = some (.int .i64 (s.cnt : Nat))) (fun j => true) (n := 10) (listed := #[false, false, false, false, false, false, false, false, false, false]) (by kernel_rfl) rfl rfl ?_
        generalize wr.drew = W2 at HF HC ⊢
        (refine pure_l (i := 0) (v := _) rfl (by decide +kernel) (by decide +kernel) (by decide +kernel) (by decide +kernel) (fun _ _ _ h => h) (by kernel_rfl) (by (intro w; go_simp; first | done | with_reducible rfl)) HC.out ?_; try simp only [Act.put, List.setIfInBounds_toArray, List.set_cons_zero, List.set_cons_succ])
        (refine pure_l (i := 1) (v := _) rfl (by decide +kernel) (by decide +kernel) (by decide +kernel) (by decide +kernel) (fun _ _ _ h => h) (by kernel_rfl) (by (intro w; go_simp; first | done | with_reducible rfl)) HC.out ?_; try simp only [Act.put, List.setIfInBounds_toArray, List.set_cons_zero, List.set_cons_succ])
        (refine pure_l (i := 2) (v := _) rfl (by decide +kernel) (by decide +kernel) (by decide +kernel) (by decide +kernel) (fun _ _ _ h => h) (by kernel_rfl) (by (intro w; go_simp; first | done | with_reducible rfl)) HC.out ?_; try simp only [Act.put, List.setIfInBounds_toArray, List.set_cons_zero, List.set_cons_succ])
        (refine pure_l (i := 4) (v := _) rfl (by decide +kernel) (by decide +kernel) (by decide +kernel) (by decide +kernel) (fun _ _ _ h => h) (by kernel_rfl) (by (intro w; go_simp; first | done | with_reducible rfl)) HC.out ?_; try simp only [Act.put, List.setIfInBounds_toArray, List.set_cons_zero, List.set_cons_succ])
        (refine pure_l (i := 5) (v := _) rfl (by decide +kernel) (by decide +kernel) (by decide +kernel) (by decide +kernel) (fun _ _ _ h => h) (by kernel_rfl) (by (intro w; go_simp; first | done | with_reducible rfl)) HC.out ?_; try simp only [Act.put, List.setIfInBounds_toArray, List.set_cons_zero, List.set_cons_succ])
        (refine pure_l (i := 6) (v := _) rfl (by decide +kernel) (by decide +kernel) (by decide +kernel) (by decide +kernel) (fun _ _ _ h => h) (by kernel_rfl) (by (intro w; go_simp; first | done | with_reducible rfl)) HC.out ?_; try simp only [Act.put, List.setIfInBounds_toArray, List.set_cons_zero, List.set_cons_succ])
        (refine load_l (i := 3) (v := _) rfl (by decide +kernel) (by decide +kernel) (by decide +kernel) (by decide +kernel) (fun _ _ _ h => h) ⟨by kernel_rfl, by (rintro w ⟨c0, c1⟩; go_simp; first | done | with_reducible rfl)⟩ HC.out ?_; try simp only [Act.put, List.setIfInBounds_toArray, List.set_cons_zero, List.set_cons_succ])
        (refine load_l (i := 7) (v := _) rfl (by decide +kernel) (by decide +kernel) (by decide +kernel) (by decide +kernel) (fun _ _ _ h => h) ⟨by kernel_rfl, by (rintro w ⟨c0, c1⟩; go_simp; first | done | with_reducible rfl)⟩ HC.out ?_; try simp only [Act.put, List.setIfInBounds_toArray, List.set_cons_zero, List.set_cons_succ])
        (refine pure_l (i := 8) (v := _) rfl (by decide +kernel) (by decide +kernel) (by decide +kernel) (by decide +kernel) (fun _ _ _ h => h) (by kernel_rfl) (by (intro w; go_simp; first | done | with_reducible rfl)) HC.out ?_; try simp only [Act.put, List.setIfInBounds_toArray, List.set_cons_zero, List.set_cons_succ])
        (refine pure_l (i := 9) (v := _) rfl (by decide +kernel) (by decide +kernel) (by decide +kernel) (by decide +kernel) (fun _ _ _ h => h) (by kernel_rfl) (by (intro w; go_simp; first | done | with_reducible rfl)) HC.out ?_; try simp only [Act.put, List.setIfInBounds_toArray, List.set_cons_zero, List.set_cons_succ])
        refine done_l (by decide +kernel) ?_ _
        go_wp2_with fail
        go_ret2
        exact ⟨b3, s, rfl, HF.out.row (k := 3) (by omega), HF.out.below, R1.out, R2.out, R3.out, hcn⟩
  · right
    refine ⟨fun hr => hall ⟨ready_all (by decide +kernel) hr 2 (by decide), ready_all (by decide +kernel) hr 4 (by decide), ready_all (by decide +kernel) hr 6 (by decide), ready_all (by decide +kernel) hr 8 (by decide)⟩, fun i hi => ?_⟩
    have hlt := lt_l (n := 12) rfl hi
    have hown := own_l hi
    have hcs : i = 0 ∨ i = 1 ∨ i = 2 ∨ i = 3 ∨ i = 4 ∨ i = 5 ∨ i = 6 ∨ i = 7 ∨ i = 8 ∨ i = 9 ∨ i = 10 ∨ i = 11 := by clear hi hown; omega
    clear hlt
    rcases hcs with rfl | rfl | rfl | rfl | rfl | rfl | rfl | rfl | rfl | rfl | rfl | rfl
    · exact Bool.noConfusion hown
    · exact Bool.noConfusion hown
    · obtain rfl : m0 = false := hown
      refine step_l rfl (fun K hK => ?_)
      clear hi hall
      go_simp
      refine hK _ _ ?_
      clear hK K
      simp only [Act.put, List.setIfInBounds_toArray, List.set_cons_zero, List.set_cons_succ]
      exact ⟨true, m1, m2, m3, _, _, _, _, rfl, rfl, four_0 hml h4⟩
    · exact Bool.noConfusion hown
    · obtain rfl : m1 = false := hown
      refine step_l rfl (fun K hK => ?_)
      clear hi hall
      go_simp
      refine hK _ _ ?_
      clear hK K
      simp only [Act.put, List.setIfInBounds_toArray, List.set_cons_zero, List.set_cons_succ]
      exact ⟨m0, true, m2, m3, _, _, _, _, rfl, rfl, four_1 hml h4⟩
    · exact Bool.noConfusion hown
    · obtain rfl : m2 = false := hown
      refine step_l rfl (fun K hK => ?_)
      clear hi hall
      go_simp
      refine hK _ _ ?_
      clear hK K
      simp only [Act.put, List.setIfInBounds_toArray, List.set_cons_zero, List.set_cons_succ]
      exact ⟨m0, m1, true, m3, _, _, _, _, rfl, rfl, four_2 hml h4⟩
    · exact Bool.noConfusion hown
    · obtain rfl : m3 = false := hown
      refine step_l rfl (fun K hK => ?_)
      clear hi hall
      go_simp
      refine hK _ _ ?_
      clear hK K
      simp only [Act.put, List.setIfInBounds_toArray, List.set_cons_zero, List.set_cons_succ]
      exact ⟨m0, m1, m2, true, _, _, _, _, rfl, rfl, four_3 hml h4⟩
    · exact absurd ⟨(dep_l (k := 2) hi rfl (by decide +kernel)), (dep_l (k := 4) hi rfl (by decide +kernel)), (dep_l (k := 6) hi rfl (by decide +kernel)), (dep_l (k := 8) hi rfl (by decide +kernel))⟩ hall
    · exact Bool.noConfusion (dep_l (k := 9) hi rfl (by decide +kernel) : false = true)
    · exact Bool.noConfusion (dep_l (k := 10) hi rfl (by decide +kernel) : false = true)
end Go.Proofs.Ytodhianmaogfpaa
