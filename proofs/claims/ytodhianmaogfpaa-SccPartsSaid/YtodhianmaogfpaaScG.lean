/- scc.Components: its first half. -/
import Derived.Test.YtodhianmaogfpaaScF
namespace Go.Proofs.Ytodhianmaogfpaa
set_option linter.unusedSimpArgs false
set_option linter.unusedVariables false
open Go.RowKit
attribute [local go_sem ↓] Go.wp_at_zero Go.wp_at_succ
/-- the best as a number -/
def bestV : Option Nat → Value
  | none => .int .i64 (-1)
  | some c => .int .i64 c
/-- what is gathered of the first v nodes -/
def Gath (w0 w : World) (n cnt pb kb lb : Nat) (of : Nat → Nat) (v : Nat) (P : List (Nat × Nat)) : Prop :=
  ∃ V : Nat → Value, CS w0 w cnt pb kb lb V (fun c => prtC v of c) (fun d => backP of P d) ((List.range cnt).map fun c => led of P c) [] (cI cnt)
theorem below_any {a w w1 : World} (h : Below a.heap.size a w) (k : Below w.heap.size w w1) : Below a.heap.size a w1 := below_next h k
theorem prt_len (v : Nat) (of : Nat → Nat) (c : Nat) : (prtC v of c).length ≤ v := by
  unfold prtC
  have := List.length_filter_le (fun x => of x == c) (List.range v)
  simpa using this
theorem back_len (of : Nat → Nat) (P : List (Nat × Nat)) (d : Nat) : (backP of P d).length ≤ P.length := by
  unfold backP
  rw [List.length_map]
  exact List.length_filter_le _ _
theorem prs_mono {adj : Nat → List Nat} {v e n : Nat} (hv : v < n) : (prsE adj v e).length ≤ (prs n adj).length := by
  have h1 : (prsE adj v e).length ≤ (prs (v + 1) adj).length := by
    rw [← prsE_end]
    unfold prsE
    simp
    omega
  have h2 : ∀ d, (prs (v + 1) adj).length ≤ (prs (v + 1 + d) adj).length := by
    intro d
    induction d with
    | zero => exact Nat.le_refl _
    | succ d ih =>
      refine Nat.le_trans ih ?_
      unfold prs
      rw [show v + 1 + (d + 1) = (v + 1 + d) + 1 by omega, List.range_succ, List.flatMap_append, List.length_append]
      omega
  have h3 := h2 (n - (v + 1))
  rw [show v + 1 + (n - (v + 1)) = n by omega] at h3
  omega
set_option maxRecDepth 100000 in
set_option maxHeartbeats 8000000 in
theorem comps1_any (n0 : Int) (A : Option Addr) (c : Nat) (l : List (Int × Int)) (n : Nat) (hN : max 0 (min n0 2000) = (n : Int)) (w : World) (hl : Edges w A c l)
    (hmu : muN n (adjE (vE n l)) (fun _ => 0) ≤ 1000000) (hpl : (prs n (adjE (vE n l))).length ≤ 1000000) :
    Calls Try.prog 9 #[.int .i64 n0, .slice A l.length c] w fun e w' => ∃ (out : List (List Nat)) (B : Option Addr) (d : Nat), e = .returned (.slice B out.length d) ∧ ListsN w.heap.size w' B d out ∧ CompsIs n (gE n (vE n l)) out ∧ Below w.heap.size w w' := by
  have HL := Lib.hid hl
  have hn2 : n ≤ 2000 := by omega
  clear hl
  go_enter Try.func9, Try.ntmps9
  go_wp2_with fail
  refine (build_any n0 A c l n hN w HL.out).mono ?_
  rintro e w1 ⟨gb, rfl, hG, -, hb1⟩
  have hGk := hG
  obtain ⟨E, hE⟩ : ∃ E, E = vE n l := ⟨_, rfl⟩
  rw [← hE] at hG hGk hmu hpl
  have HEN := Lib.hid (show inN n E by rw [hE]; exact vE_in n l)
  have HE := Lib.hid hE
  have HB1 := Lib.hid hb1
  have HG1 := Lib.hid hGk
  clear hE hG hGk hb1
  obtain ⟨adj, hadj⟩ : ∃ adj, adj = adjE E := ⟨_, rfl⟩
  have HAE := Lib.hid hadj
  have HG1 := Lib.hid (show Gph w1 gb n adj by rw [hadj]; exact HG1.out)
  rw [← hadj] at hmu hpl
  have HAL := Lib.hid (show ∀ v x, x ∈ adj v → x < n by rw [hadj]; exact adj_lt HEN.out)
  clear hadj
  go_wp2_with fail
  refine (components_any w1 gb n adj HG1.out HAL.out hn2 hmu).mono ?_
  rintro e w2 ⟨ob, s, rfl, hof, hb2, r1, r2, r3, hcn⟩
  generalize hofd : s.of = of at hof r1 r2 r3
  generalize hcd : s.cnt = cnt at r1 r3 hcn ⊢
  clear hofd hcd
  have HOF := Lib.hid hof
  have HG2 := Lib.hid (HG1.out.kept hb2)
  have HB2 := Lib.hid (below_next HB1.out hb2)
  have R1 := Lib.hid r1
  have HEM := Lib.hid (show Em n (gE n E) of cnt (prs n (adjE E)) from em_of HEN.out r1 (by rw [← HAE.out]; exact r2) r3)
  clear hof hb2 r1 r2 r3 HG1 HB1
  have hmk1 := run_make_row' (P := Try.prog) 23 26 (.slice none 0 0) 24 Try.underlying23 infRow rfl .i64 .i64 cnt (by omega) (by omega)
  have hmk2 := run_make_row' (P := Try.prog) 26 3 (.int .i64 0) 8 Try.underlying26 infNat rfl .i64 .i64 cnt (by omega) (by omega)
  go_wp2
  clear hmk1 hmk2
  generalize hW : ((w2.alloc _).alloc _).alloc _ = W
  have HC0 := Lib.hid (show Gath w2 W n cnt w2.heap.size (w2.heap.size + 1 + 1) (w2.heap.size + 1) of 0 [] from by
    rw [← hW]
    refine ⟨fun k => if k = 2 then .slice (some ⟨w2.heap.size + 1, 0, none⟩) cnt cnt else .slice none 0 0, ?_⟩
    have hB0 : Below w2.heap.size w2 (((w2.alloc (.cells (madeCells #[.slice none 0 0] cnt) 26)).alloc (.cells (madeCells #[.int .i64 0] cnt) 3)).alloc (.cells (madeCells #[.slice none 0 0] cnt) 26)) := below_alloc (below_alloc (below_alloc (Below.refl _ _) _) _) _
    have hV : ∀ k, k ≠ 2 → (fun k => if k = 2 then Value.slice (some ⟨w2.heap.size + 1, 0, none⟩) cnt cnt else .slice none 0 0) k = .slice none 0 0 := fun k hk => if_neg hk
    have hr : Row (w2.alloc (.cells (madeCells #[.slice none 0 0] cnt) 26) |>.alloc (.cells (madeCells #[.int .i64 0] cnt) 3)) w2.heap.size (.slice (some ⟨w2.heap.size + 1, 0, none⟩) cnt cnt) (List.replicate cnt 0) := by
      have := Row.made (B := w2.heap.size) (w2.alloc (.cells (madeCells #[.slice none 0 0] cnt) 26)) (by simp) cnt (by unfold maxLen; omega)
      simpa using this
    refine ⟨?_, ?_, by omega, if_pos rfl, ?_, hB0, Nat.le_refl _, by omega⟩
    · have h1 := ((blk_new1 w2 26 (madeCells #[.slice none 0 0] cnt)).alloc (.cells (madeCells #[.int .i64 0] cnt) 3)).alloc (.cells (madeCells #[.slice none 0 0] cnt) 26)
      rw [arr_made] at h1
      rw [show (fun i => (fun k => if k = 2 then Value.slice (some ⟨w2.heap.size + 1, 0, none⟩) cnt cnt else .slice none 0 0) (3 * i)) = fun _ => .slice none 0 0 from funext fun i => if_neg (by omega)]
      rw [arr_made]
      exact h1
    · have h1 := blk_new1 ((w2.alloc (.cells (madeCells #[.slice none 0 0] cnt) 26)).alloc (.cells (madeCells #[.int .i64 0] cnt) 3)) 26 (madeCells #[.slice none 0 0] cnt)
      rw [show (fun i => (fun k => if k = 2 then Value.slice (some ⟨w2.heap.size + 1, 0, none⟩) cnt cnt else .slice none 0 0) (3 * i + 1)) = fun _ => .slice none 0 0 from funext fun i => if_neg (by omega)]
      rw [arr_made] at h1 ⊢
      simpa using h1
    · have h0 : Fam (w2.alloc (.cells (madeCells #[.slice none 0 0] cnt) 26) |>.alloc (.cells (madeCells #[.int .i64 0] cnt) 3)) w2.heap.size (upf (fun _ => .slice none 0 0) 2 (.slice (some ⟨w2.heap.size + 1, 0, none⟩) cnt cnt)) (upf (fun _ => []) 2 (List.replicate cnt 0)) (fun j => False ∨ j = 2) :=
        Fam.add (fam0 w2 _ _ _) (fun h => h) hr (below_alloc (below_alloc (Below.refl _ _) _) _) (fun g hg => by simp [Value.ownBlock] at hg; omega)
      have h1 := fam_nil (J := fun k => cI cnt k ∧ k ≠ 2) h0 (fun k hk hnk => ⟨upf_ne hk.2, upf_ne hk.2⟩)
      refine (h1.alloc _).congr (fun k hk => ?_) (fun k _ => ?_) (fun k hk => ?_)
      · by_cases e : k = 2
        · exact .inl (.inr e)
        · exact .inr ⟨hk, e⟩
      · by_cases e : k = 2
        · subst e; rw [upf_at]; rfl
        · rw [upf_ne e]; exact if_neg e
      · by_cases e : k = 2
        · subst e; rw [upf_at]
          show (List.range cnt).map (fun c => led of [] c) = _
          simp [led, leadsP, List.map_const']
        · rw [upf_ne e]
          rcases hk with h | h | h
          · unfold cL; rw [if_pos h.1]; rfl
          · unfold cL; rw [if_neg (by omega), if_pos h.1]; rfl
          · exact absurd h e)
  have HBW := Lib.hid (show Below w2.heap.size w2 W from by rw [← hW]; exact below_alloc (below_alloc (below_alloc (Below.refl _ _) _) _) _)
  clear hW
  generalize w2.heap.size + 1 + 1 = kb at HC0 ⊢
  generalize w2.heap.size + 1 = lb at HC0 ⊢
  generalize w2.heap.size = pb at HC0 ⊢
  clear HBW
  go_loopw [36] (fun i wr => ∃ v : Nat, v ≤ n ∧ i = .int .i64 v ∧ Gath w2 wr n cnt pb kb lb of v (prs v adj)) (fun i _ => n - (intOf i).toNat)
  case atStart => exact ⟨0, Nat.zero_le _, rfl, HC0.out⟩
  case round =>
    clear HC0
    obtain ⟨v, hvn, rfl, V, hcs⟩ := hrel
    have HCS := Lib.hid hcs
    clear hcs
    by_cases hlt : v < n
    · have hv0 : (0 : Int) ≤ (v : Int) := Int.natCast_nonneg _
      have hv1 : (v : Int) < (n : Int) := by omega
      have hvt : ((v : Int)).toNat = v := Int.toNat_natCast _
      have hoc : of v < cnt := R1.out v hlt
      have ho0 : (0 : Int) ≤ (of v : Int) := Int.natCast_nonneg _
      have ho1 : (of v : Int) < (cnt : Int) := by omega
      have hot : ((of v : Int)).toNat = of v := Int.toNat_natCast _
      go_upto_region 9 with (fail)
      have HC := Lib.hid (show (fun w' : World => w'.cell? ⟨ob, v, none⟩ = some (.int .i64 (of v : Nat)) ∧ w'.cell? ⟨pb, of v, none⟩ = some (V (3 * of v))) wr.drew from ⟨Kept.of_below HCS.out.below _ _ (Row.cell HOF.out (map_get of hlt)), HCS.out.pAt hoc⟩)
      have HCS := Lib.hid HCS.out.drew
      refine regionC_l (fun w' : World => w'.cell? ⟨ob, v, none⟩ = some (.int .i64 (of v : Nat)) ∧ w'.cell? ⟨pb, of v, none⟩ = some (V (3 * of v))) (fun j => j != 16) (n := 17) (listed := #[false, false, false, false, false, false, false, false, false, false, false, false, false, false, false, false, false]) (by kernel_rfl) rfl rfl ?_
      generalize wr.drew = W3 at HCS HC ⊢
      (refine pure_l (i := 0) (v := _) rfl (by decide +kernel) (by decide +kernel) (by decide +kernel) (by decide +kernel) (fun _ _ _ h => h) (by kernel_rfl) (by (intro w; go_simp; first | done | with_reducible rfl)) HC.out ?_; try simp only [Act.put, List.setIfInBounds_toArray, List.set_cons_zero, List.set_cons_succ])
      (refine pure_l (i := 1) (v := _) rfl (by decide +kernel) (by decide +kernel) (by decide +kernel) (by decide +kernel) (fun _ _ _ h => h) (by kernel_rfl) (by (intro w; go_simp; first | done | with_reducible rfl)) HC.out ?_; try simp only [Act.put, List.setIfInBounds_toArray, List.set_cons_zero, List.set_cons_succ])
      (refine pure_l (i := 2) (v := _) rfl (by decide +kernel) (by decide +kernel) (by decide +kernel) (by decide +kernel) (fun _ _ _ h => h) (by kernel_rfl) (by (intro w; go_simp; first | done | with_reducible rfl)) HC.out ?_; try simp only [Act.put, List.setIfInBounds_toArray, List.set_cons_zero, List.set_cons_succ])
      (refine pure_l (i := 3) (v := _) rfl (by decide +kernel) (by decide +kernel) (by decide +kernel) (by decide +kernel) (fun _ _ _ h => h) (by kernel_rfl) (by (intro w; go_simp; first | done | with_reducible rfl)) HC.out ?_; try simp only [Act.put, List.setIfInBounds_toArray, List.set_cons_zero, List.set_cons_succ])
      (refine pure_l (i := 5) (v := _) rfl (by decide +kernel) (by decide +kernel) (by decide +kernel) (by decide +kernel) (fun _ _ _ h => h) (by kernel_rfl) (by (intro w; go_simp; first | done | with_reducible rfl)) HC.out ?_; try simp only [Act.put, List.setIfInBounds_toArray, List.set_cons_zero, List.set_cons_succ])
      (refine pure_l (i := 6) (v := _) rfl (by decide +kernel) (by decide +kernel) (by decide +kernel) (by decide +kernel) (fun _ _ _ h => h) (by kernel_rfl) (by (intro w; go_simp; first | done | with_reducible rfl)) HC.out ?_; try simp only [Act.put, List.setIfInBounds_toArray, List.set_cons_zero, List.set_cons_succ])
      (refine pure_l (i := 7) (v := _) rfl (by decide +kernel) (by decide +kernel) (by decide +kernel) (by decide +kernel) (fun _ _ _ h => h) (by kernel_rfl) (by (intro w; go_simp; first | done | with_reducible rfl)) HC.out ?_; try simp only [Act.put, List.setIfInBounds_toArray, List.set_cons_zero, List.set_cons_succ])
      (refine pure_l (i := 8) (v := _) rfl (by decide +kernel) (by decide +kernel) (by decide +kernel) (by decide +kernel) (fun _ _ _ h => h) (by kernel_rfl) (by (intro w; go_simp; first | done | with_reducible rfl)) HC.out ?_; try simp only [Act.put, List.setIfInBounds_toArray, List.set_cons_zero, List.set_cons_succ])
      (refine pure_l (i := 12) (v := _) rfl (by decide +kernel) (by decide +kernel) (by decide +kernel) (by decide +kernel) (fun _ _ _ h => h) (by kernel_rfl) (by (intro w; go_simp; first | done | with_reducible rfl)) HC.out ?_; try simp only [Act.put, List.setIfInBounds_toArray, List.set_cons_zero, List.set_cons_succ])
      (refine load_l (i := 4) (v := _) rfl (by decide +kernel) (by decide +kernel) (by decide +kernel) (by decide +kernel) (fun _ _ _ h => h) ⟨by kernel_rfl, by (rintro w ⟨c0, c1⟩; go_simp; first | done | with_reducible rfl)⟩ HC.out ?_; try simp only [Act.put, List.setIfInBounds_toArray, List.set_cons_zero, List.set_cons_succ])
      (refine load_l (i := 9) (v := _) rfl (by decide +kernel) (by decide +kernel) (by decide +kernel) (by decide +kernel) (fun _ _ _ h => h) ⟨by kernel_rfl, by (rintro w ⟨c0, c1⟩; go_simp; first | done | with_reducible rfl)⟩ HC.out ?_; try simp only [Act.put, List.setIfInBounds_toArray, List.set_cons_zero, List.set_cons_succ])
      (refine pure_l (i := 10) (v := _) rfl (by decide +kernel) (by decide +kernel) (by decide +kernel) (by decide +kernel) (fun _ _ _ h => h) (by kernel_rfl) (by (intro w; go_simp; first | done | with_reducible rfl)) HC.out ?_; try simp only [Act.put, List.setIfInBounds_toArray, List.set_cons_zero, List.set_cons_succ])
      (refine load_l (i := 11) (v := _) rfl (by decide +kernel) (by decide +kernel) (by decide +kernel) (by decide +kernel) (fun _ _ _ h => h) ⟨by kernel_rfl, by (rintro w ⟨c0, c1⟩; go_simp; first | done | with_reducible rfl)⟩ HC.out ?_; try simp only [Act.put, List.setIfInBounds_toArray, List.set_cons_zero, List.set_cons_succ])
      (refine one_l (i := 13) (by decide +kernel) rfl (fun K hK => ?_))
      go_simp
      refine hK _ _ (fun _ => ⟨Kept.alloc _ _ _ _ HC.out.1, Kept.alloc _ _ _ _ HC.out.2⟩) ?_
      clear hK K
      (try simp only [Act.put, List.setIfInBounds_toArray, List.set_cons_zero, List.set_cons_succ])
      have hI : cI cnt (3 * of v) := .inl ⟨by omega, by omega⟩
      have HROW := Lib.hid ((HCS.out.fam.own (3 * of v) hI).alloc (.cells #[.int .i64 v] 3))
      have HZ := Lib.hid (show w2.heap.size ≤ (W3.alloc (.cells #[.int .i64 v] 3)).heap.size by have := HCS.out.size; simp; omega)
      have hclen : (cL (fun c => prtC v of c) (fun d => backP of (prs v adj) d) ((List.range cnt).map fun c => led of (prs v adj) c) [] (3 * of v)).length ≤ 1000000000 := by rw [cL_p]; have := prt_len v of (of v); omega
      (refine one_l (i := 14) (by decide +kernel) rfl (fun K hK => ?_))
      refine step_row (by rfl) _ _ 26 (by rfl) Try.underlying26 w2.heap.size (V (3 * of v)) _ (by rfl) HROW.out v W3.heap.size 1 (by rfl) (blk_new1 _ _ _) hclen HZ.out ?_
      intro g2 cap w5 ho5 hg5 hat5
      have HP5 := Lib.hid (HROW.out.blk (HCS.out.P.alloc (.cells #[.int .i64 v] 3)) (by decide) hg5)
      have HK5 := Lib.hid (HROW.out.blk (HCS.out.K.alloc (.cells #[.int .i64 v] 3)) (by decide) hg5)
      have HB5 := Lib.hid (HROW.out.below (below_alloc HCS.out.below (.cells #[.int .i64 v] 3)) HZ.out hg5)
      have HF5 := Lib.hid ((HCS.out.fam.alloc (.cells #[.int .i64 v] 3)).app hI ho5 hg5 hat5)
      have HC := Lib.hid (show (fun w' : World => w'.cell? ⟨ob, v, none⟩ = some (.int .i64 (of v : Nat)) ∧ w'.cell? ⟨pb, of v, none⟩ = some (V (3 * of v))) w5 from ⟨Kept.of_below HB5.out _ _ (Row.cell HOF.out (map_get of hlt)), (HP5.out.cell _).trans (arr_get hoc)⟩)
      clear ho5 hg5 hat5 HROW HZ
      refine hK _ _ (fun _ => HC.out) ?_
      clear hK K hclen
      (try simp only [Act.put, List.setIfInBounds_toArray, List.set_cons_zero, List.set_cons_succ])
      (refine pure_l (i := 15) (v := _) rfl (by decide +kernel) (by decide +kernel) (by decide +kernel) (by decide +kernel) (fun _ _ _ h => h) (by kernel_rfl) (by (intro w; go_simp; first | done | with_reducible rfl)) HC.out ?_; try simp only [Act.put, List.setIfInBounds_toArray, List.set_cons_zero, List.set_cons_succ])
      have hcl := HC.out.2
      have hfr := HP5.out.frozen (of v)
      have hgl := HP5.out.lt
      (refine one_l (i := 16) (by decide +kernel) rfl (fun K hK => ?_))
      go_simp
      refine hK _ _ (fun h => absurd h (by decide)) ?_
      clear hK K
      (try simp only [Act.put, List.setIfInBounds_toArray, List.set_cons_zero, List.set_cons_succ])
      generalize hnv : Value.slice (some (⟨g2, 0, none⟩ : Addr)) _ cap = nv at HF5 ⊢
      have HCS6 := Lib.hid (HCS.out.appP HF5.out HP5.out HK5.out HB5.out)
      generalize World.setCell w5 _ _ = W6 at HCS6 ⊢
      clear hcl hfr hgl HC HP5 HK5 HB5 HF5 HCS hnv
      refine done_l (by decide +kernel) ?_ _
      obtain ⟨V2, hV2⟩ : ∃ V2, V2 = upf V (3 * of v) nv := ⟨_, rfl⟩
      rw [← hV2] at HCS6
      have HCS := Lib.hid (show CS w2 W6 cnt pb kb lb V2 (fun c => prtC (v + 1) of c) (fun d => backP of (prsE adj v 0) d) ((List.range cnt).map fun c => led of (prsE adj v 0) c) [] (cI cnt) from HCS6.out.congr (by rw [prt_succ, cL_p]) (by rw [prsE_zero]) (by rw [prsE_zero]) rfl)
      clear HCS6 hV2
      obtain ⟨GA, GC, hGB, hGR⟩ := HG2.out
      have hgr := hGR v hlt
      have hgc := Kept.of_below HCS.out.below _ _ ((hGB.cell v).trans (arr_get hlt))
      clear hGB hGR
      generalize GA v = ga at hgr hgc
      generalize GC v = gcc at hgr hgc
      have HGR := Lib.hid hgr
      have hgbd := Slc.bd hgr
      clear hgr
      go_wp2_with fail
      clear hgc
      clear ho0 ho1 hot
      go_loopw [60] (fun i wr => ∃ (e : Nat) (V : Nat → Value), e ≤ (adj v).length ∧ i = .int .i64 e ∧ CS w2 wr cnt pb kb lb V (fun c => prtC (v + 1) of c) (fun d => backP of (prsE adj v e) d) ((List.range cnt).map fun c => led of (prsE adj v e) c) [] (cI cnt)) (fun i _ => (adj v).length - (intOf i).toNat)
      case atStart => exact ⟨0, V2, Nat.zero_le _, rfl, HCS.out⟩
      case round =>
        clear HCS
        obtain ⟨e, V3, hel, rfl, hcs⟩ := hrel
        have HCS := Lib.hid hcs
        clear hcs
        have ho0 : (0 : Int) ≤ (of v : Int) := Int.natCast_nonneg _
        have ho1 : (of v : Int) < (cnt : Int) := by omega
        have hot : ((of v : Int)).toNat = of v := Int.toNat_natCast _
        by_cases hel2 : e < (adj v).length
        · obtain ⟨x, bA, oA, hx, rfl, hxc⟩ := Ints.at_ HGR.out hel2 (Kept.of_below HCS.out.below)
          have hxn : x < n := HAL.out v x (List.mem_of_getElem? hx)
          have hxo : of x < cnt := R1.out x hxn
          have HX := Lib.hid hx
          clear hx
          have he0 : (0 : Int) ≤ (e : Int) := Int.natCast_nonneg _
          have he1 : (e : Int) < ((adj v).length : Int) := by omega
          have het : ((e : Int)).toNat = e := Int.toNat_natCast _
          have hx0 : (0 : Int) ≤ (x : Int) := Int.natCast_nonneg _
          have hx1 : (x : Int) < (n : Int) := by omega
          have hxt : ((x : Int)).toNat = x := Int.toNat_natCast _
          have c0 := Kept.of_below HCS.out.below _ _ (Row.cell HOF.out (map_get of hlt))
          have c1 := Kept.of_below HCS.out.below _ _ (Row.cell HOF.out (map_get of hxn))
          by_cases hov : of v = of x
          · have hob : ((of v : Int) != (of x : Int)) = false := by simp [hov]
            go_wp2_with fail
            go_quiet (fail)
            go_wp2_with fail
            go_roundw
            case rel => exact ⟨e + 1, V3, by omega, by simp, (HCS.out.drewN _).congr rfl (by rw [prsE_snoc HX.out]; exact back_same of _ v x hov) (by rw [prsE_snoc HX.out]; exact congrArg (fun f => (List.range cnt).map f) (led_same of _ v x hov)) rfl⟩
            case measure => (try simp only [intOf]); omega
          · have hob : ((of v : Int) != (of x : Int)) = true := by rw [bne_iff_ne]; omega
            have cl : wr.cell? ⟨lb, of v, none⟩ = some (.int .i64 (led of (prsE adj v e) (of v) : Nat)) := HCS.out.lAt (.inr (.inr rfl)) hoc
            have fl := Row.frz (HCS.out.lRow (.inr (.inr rfl))) (of v)
            have ll := Row.lt (HCS.out.lRow (.inr (.inr rfl)))
            have hll : led of (prsE adj v e) (of v) ≤ 1000000 := by have h1 := led_le of (prsE adj v e) (fun _ => 0) (of v); have h2 := prs_mono (adj := adj) (e := e) hlt; have h3 : led of (prsE adj v e) (of v) ≤ (prsE adj v e).length := h1; omega
            go_wp2_with fail
            go_quiet (fail)
            go_upto_region 15 with (fail)
            have H4 : CS w2 (World.setCell (wr.drewN nq) ⟨lb, of v, none⟩ (.int .i64 ((led of (prsE adj v e) (of v) : Int) + 1))) cnt pb kb lb V3 _ _ _ [] (cI cnt) := (HCS.out.drewN nq).putL (.inr (.inr rfl)) (by simpa using hoc) (led of (prsE adj v e) (of v) + 1)
            generalize World.setCell (wr.drewN nq) _ _ = W4 at H4 ⊢
            clear c0 c1 cl fl ll hxc HCS
            have ho0 : (0 : Int) ≤ (of x : Int) := Int.natCast_nonneg _
            have ho1 : (of x : Int) < (cnt : Int) := by omega
            have hot : ((of x : Int)).toNat = of x := Int.toNat_natCast _
            have HC := Lib.hid (show (fun w' : World => w'.cell? ⟨ob, v, none⟩ = some (.int .i64 (of v : Nat)) ∧ w'.cell? ⟨ob, x, none⟩ = some (.int .i64 (of x : Nat)) ∧ w'.cell? ⟨kb, of x, none⟩ = some (V3 (3 * of x + 1))) W4.drew from ⟨Kept.of_below H4.below _ _ (Row.cell HOF.out (map_get of hlt)), Kept.of_below H4.below _ _ (Row.cell HOF.out (map_get of hxn)), H4.kAt hxo⟩)
            have HCS := Lib.hid H4.drew
            clear H4
            refine regionC_l (fun w' : World => w'.cell? ⟨ob, v, none⟩ = some (.int .i64 (of v : Nat)) ∧ w'.cell? ⟨ob, x, none⟩ = some (.int .i64 (of x : Nat)) ∧ w'.cell? ⟨kb, of x, none⟩ = some (V3 (3 * of x + 1))) (fun j => j != 19) (n := 20) (listed := #[false, false, false, false, false, false, false, false, false, false, false, false, false, false, false, false, false, false, false, false]) (by kernel_rfl) rfl rfl ?_
            generalize W4.drew = W5 at HCS HC ⊢
            (refine pure_l (i := 0) (v := _) rfl (by decide +kernel) (by decide +kernel) (by decide +kernel) (by decide +kernel) (fun _ _ _ h => h) (by kernel_rfl) (by (intro w; go_simp; first | done | with_reducible rfl)) HC.out ?_; try simp only [Act.put, List.setIfInBounds_toArray, List.set_cons_zero, List.set_cons_succ])
            (refine pure_l (i := 1) (v := _) rfl (by decide +kernel) (by decide +kernel) (by decide +kernel) (by decide +kernel) (fun _ _ _ h => h) (by kernel_rfl) (by (intro w; go_simp; first | done | with_reducible rfl)) HC.out ?_; try simp only [Act.put, List.setIfInBounds_toArray, List.set_cons_zero, List.set_cons_succ])
            (refine pure_l (i := 2) (v := _) rfl (by decide +kernel) (by decide +kernel) (by decide +kernel) (by decide +kernel) (fun _ _ _ h => h) (by kernel_rfl) (by (intro w; go_simp; first | done | with_reducible rfl)) HC.out ?_; try simp only [Act.put, List.setIfInBounds_toArray, List.set_cons_zero, List.set_cons_succ])
            (refine pure_l (i := 3) (v := _) rfl (by decide +kernel) (by decide +kernel) (by decide +kernel) (by decide +kernel) (fun _ _ _ h => h) (by kernel_rfl) (by (intro w; go_simp; first | done | with_reducible rfl)) HC.out ?_; try simp only [Act.put, List.setIfInBounds_toArray, List.set_cons_zero, List.set_cons_succ])
            (refine pure_l (i := 5) (v := _) rfl (by decide +kernel) (by decide +kernel) (by decide +kernel) (by decide +kernel) (fun _ _ _ h => h) (by kernel_rfl) (by (intro w; go_simp; first | done | with_reducible rfl)) HC.out ?_; try simp only [Act.put, List.setIfInBounds_toArray, List.set_cons_zero, List.set_cons_succ])
            (refine pure_l (i := 6) (v := _) rfl (by decide +kernel) (by decide +kernel) (by decide +kernel) (by decide +kernel) (fun _ _ _ h => h) (by kernel_rfl) (by (intro w; go_simp; first | done | with_reducible rfl)) HC.out ?_; try simp only [Act.put, List.setIfInBounds_toArray, List.set_cons_zero, List.set_cons_succ])
            (refine pure_l (i := 7) (v := _) rfl (by decide +kernel) (by decide +kernel) (by decide +kernel) (by decide +kernel) (fun _ _ _ h => h) (by kernel_rfl) (by (intro w; go_simp; first | done | with_reducible rfl)) HC.out ?_; try simp only [Act.put, List.setIfInBounds_toArray, List.set_cons_zero, List.set_cons_succ])
            (refine pure_l (i := 8) (v := _) rfl (by decide +kernel) (by decide +kernel) (by decide +kernel) (by decide +kernel) (fun _ _ _ h => h) (by kernel_rfl) (by (intro w; go_simp; first | done | with_reducible rfl)) HC.out ?_; try simp only [Act.put, List.setIfInBounds_toArray, List.set_cons_zero, List.set_cons_succ])
            (refine pure_l (i := 12) (v := _) rfl (by decide +kernel) (by decide +kernel) (by decide +kernel) (by decide +kernel) (fun _ _ _ h => h) (by kernel_rfl) (by (intro w; go_simp; first | done | with_reducible rfl)) HC.out ?_; try simp only [Act.put, List.setIfInBounds_toArray, List.set_cons_zero, List.set_cons_succ])
            (refine pure_l (i := 13) (v := _) rfl (by decide +kernel) (by decide +kernel) (by decide +kernel) (by decide +kernel) (fun _ _ _ h => h) (by kernel_rfl) (by (intro w; go_simp; first | done | with_reducible rfl)) HC.out ?_; try simp only [Act.put, List.setIfInBounds_toArray, List.set_cons_zero, List.set_cons_succ])
            (refine pure_l (i := 14) (v := _) rfl (by decide +kernel) (by decide +kernel) (by decide +kernel) (by decide +kernel) (fun _ _ _ h => h) (by kernel_rfl) (by (intro w; go_simp; first | done | with_reducible rfl)) HC.out ?_; try simp only [Act.put, List.setIfInBounds_toArray, List.set_cons_zero, List.set_cons_succ])
            (refine load_l (i := 4) (v := _) rfl (by decide +kernel) (by decide +kernel) (by decide +kernel) (by decide +kernel) (fun _ _ _ h => h) ⟨by kernel_rfl, by (rintro w ⟨c0, c1, c2⟩; go_simp; first | done | with_reducible rfl)⟩ HC.out ?_; try simp only [Act.put, List.setIfInBounds_toArray, List.set_cons_zero, List.set_cons_succ])
            (refine load_l (i := 9) (v := _) rfl (by decide +kernel) (by decide +kernel) (by decide +kernel) (by decide +kernel) (fun _ _ _ h => h) ⟨by kernel_rfl, by (rintro w ⟨c0, c1, c2⟩; go_simp; first | done | with_reducible rfl)⟩ HC.out ?_; try simp only [Act.put, List.setIfInBounds_toArray, List.set_cons_zero, List.set_cons_succ])
            (refine load_l (i := 15) (v := _) rfl (by decide +kernel) (by decide +kernel) (by decide +kernel) (by decide +kernel) (fun _ _ _ h => h) ⟨by kernel_rfl, by (rintro w ⟨c0, c1, c2⟩; go_simp; first | done | with_reducible rfl)⟩ HC.out ?_; try simp only [Act.put, List.setIfInBounds_toArray, List.set_cons_zero, List.set_cons_succ])
            (refine pure_l (i := 10) (v := _) rfl (by decide +kernel) (by decide +kernel) (by decide +kernel) (by decide +kernel) (fun _ _ _ h => h) (by kernel_rfl) (by (intro w; go_simp; first | done | with_reducible rfl)) HC.out ?_; try simp only [Act.put, List.setIfInBounds_toArray, List.set_cons_zero, List.set_cons_succ])
            (refine load_l (i := 11) (v := _) rfl (by decide +kernel) (by decide +kernel) (by decide +kernel) (by decide +kernel) (fun _ _ _ h => h) ⟨by kernel_rfl, by (rintro w ⟨c0, c1, c2⟩; go_simp; first | done | with_reducible rfl)⟩ HC.out ?_; try simp only [Act.put, List.setIfInBounds_toArray, List.set_cons_zero, List.set_cons_succ])
            (refine one_l (i := 16) (by decide +kernel) rfl (fun K hK => ?_))
            go_simp
            refine hK _ _ (fun _ => ⟨Kept.alloc _ _ _ _ HC.out.1, Kept.alloc _ _ _ _ HC.out.2.1, Kept.alloc _ _ _ _ HC.out.2.2⟩) ?_
            clear hK K
            (try simp only [Act.put, List.setIfInBounds_toArray, List.set_cons_zero, List.set_cons_succ])
            have hI : cI cnt (3 * of x + 1) := .inr (.inl ⟨by omega, by omega⟩)
            have HROW := Lib.hid ((HCS.out.fam.own (3 * of x + 1) hI).alloc (.cells #[.int .i64 (of v : Nat)] 3))
            have HZ := Lib.hid (show w2.heap.size ≤ (W5.alloc (.cells #[.int .i64 (of v : Nat)] 3)).heap.size by have := HCS.out.size; simp; omega)
            have hclen : (cL (fun c => prtC (v + 1) of c) (fun d => backP of (prsE adj v e) d) (((List.range cnt).map fun c => led of (prsE adj v e) c).set (of v) (led of (prsE adj v e) (of v) + 1)) [] (3 * of x + 1)).length ≤ 1000000000 := by rw [cL_b]; have h1 := back_len of (prsE adj v e) (of x); have h2 := prs_mono (adj := adj) (e := e) hlt; omega
            (refine one_l (i := 17) (by decide +kernel) rfl (fun K hK => ?_))
            refine step_row (by rfl) _ _ 26 (by rfl) Try.underlying26 w2.heap.size (V3 (3 * of x + 1)) _ (by rfl) HROW.out (of v) W5.heap.size 1 (by rfl) (blk_new1 _ _ _) hclen HZ.out ?_
            intro g2 cap w5 ho5 hg5 hat5
            have HP5 := Lib.hid (HROW.out.blk (HCS.out.P.alloc (.cells #[.int .i64 (of v : Nat)] 3)) (by decide) hg5)
            have HK5 := Lib.hid (HROW.out.blk (HCS.out.K.alloc (.cells #[.int .i64 (of v : Nat)] 3)) (by decide) hg5)
            have HB5 := Lib.hid (HROW.out.below (below_alloc HCS.out.below (.cells #[.int .i64 (of v : Nat)] 3)) HZ.out hg5)
            have HF5 := Lib.hid ((HCS.out.fam.alloc (.cells #[.int .i64 (of v : Nat)] 3)).app hI ho5 hg5 hat5)
            have HC := Lib.hid (show (fun w' : World => w'.cell? ⟨ob, v, none⟩ = some (.int .i64 (of v : Nat)) ∧ w'.cell? ⟨ob, x, none⟩ = some (.int .i64 (of x : Nat)) ∧ w'.cell? ⟨kb, of x, none⟩ = some (V3 (3 * of x + 1))) w5 from ⟨Kept.of_below HB5.out _ _ (Row.cell HOF.out (map_get of hlt)), Kept.of_below HB5.out _ _ (Row.cell HOF.out (map_get of hxn)), (HK5.out.cell _).trans (arr_get hxo)⟩)
            clear ho5 hg5 hat5 HROW HZ
            refine hK _ _ (fun _ => HC.out) ?_
            clear hK K hclen
            (try simp only [Act.put, List.setIfInBounds_toArray, List.set_cons_zero, List.set_cons_succ])
            (refine pure_l (i := 18) (v := _) rfl (by decide +kernel) (by decide +kernel) (by decide +kernel) (by decide +kernel) (fun _ _ _ h => h) (by kernel_rfl) (by (intro w; go_simp; first | done | with_reducible rfl)) HC.out ?_; try simp only [Act.put, List.setIfInBounds_toArray, List.set_cons_zero, List.set_cons_succ])
            have hcl := HC.out.2.2
            have hfr := HK5.out.frozen (of x)
            have hgl := HK5.out.lt
            (refine one_l (i := 19) (by decide +kernel) rfl (fun K hK => ?_))
            go_simp
            refine hK _ _ (fun h => absurd h (by decide)) ?_
            clear hK K
            (try simp only [Act.put, List.setIfInBounds_toArray, List.set_cons_zero, List.set_cons_succ])
            generalize hnv : Value.slice (some (⟨g2, 0, none⟩ : Addr)) _ cap = nv at HF5 ⊢
            have HCS6 := Lib.hid (HCS.out.appK HF5.out HP5.out HK5.out HB5.out)
            generalize World.setCell w5 _ _ = W6 at HCS6 ⊢
            clear hcl hfr hgl HC HP5 HK5 HB5 HF5 HCS hnv
            refine done_l (by decide +kernel) ?_ _
            go_wp2_with fail
            go_roundw
            case rel => exact ⟨e + 1, _, by omega, by simp, HCS6.out.congr rfl (by rw [prsE_snoc HX.out, back_snoc of _ v x hov, cL_b]) (by rw [prsE_snoc HX.out, map_set, led_snoc of _ v x hov]) rfl⟩
            case measure => (try simp only [intOf]); omega
        · have hee : e = (adj v).length := by omega
          subst hee
          go_wp2_with fail
          go_roundw
          case rel => exact ⟨v + 1, by omega, by simp, V3, HCS.out.congr rfl (by rw [prsE_end]) (by rw [prsE_end]) rfl⟩
          case measure => (try simp only [intOf]); omega
    · have hvv : n = v := by omega
      subst hvv
      have HEM := Lib.hid (show Em n (gE n E) of cnt (prs n adj) from by rw [HAE.out]; exact HEM.out)
      have hmk2 := run_make_row' (P := Try.prog) 26 3 (.int .i64 0) 8 Try.underlying26 infNat rfl .i64 .i64 cnt (by omega) (by omega)
      have HC0 := Lib.hid (HCS.out.addT (by unfold maxLen; omega))
      have HOZ := Lib.hid (show Outs w2 (wr.alloc (.cells (madeCells #[.int .i64 0] cnt) 3)) pb kb (upf V 5 (.slice (some ⟨wr.heap.size, 0, none⟩) cnt cnt)) (.slice none 0 0) [] from ⟨Own.nil_ _ _ _ _ _, fun g hg => by simp [Value.ownBlock] at hg⟩)
      obtain ⟨V', hV'⟩ : ∃ V', V' = upf V 5 (.slice (some ⟨wr.heap.size, 0, none⟩) cnt cnt) := ⟨_, rfl⟩
      have h5 : V' 5 = .slice (some ⟨wr.heap.size, 0, none⟩) cnt cnt := by rw [hV', upf_at]
      rw [← hV'] at HC0 HOZ
      have H5 := Lib.hid h5
      clear hV' h5
      go_wp2
      clear hmk2 HCS
      generalize World.alloc wr _ = W at HC0 HOZ ⊢
      generalize wr.heap.size = tb at H5 ⊢
      have HPP := Lib.hid (show (prs n adj).length ≤ 1000000 from hpl)
      go_loopw [14, 106] (fun ov i wr => ∃ (k : Nat) (told : Nat → Nat) (cl : List Nat), k ≤ cnt ∧ i = .int .i64 k ∧ cl.length = k ∧ Ek n (gE n E) of cnt k told ∧ (outK n (gE n E) k).2 = cl.map (fun c => prtC n of c) ∧ (∀ c ∈ cl, c < cnt) ∧
        CS w2 wr cnt pb kb lb V' (fun c => prtC n of c) (fun d => backP of (prs n adj) d) ((List.range cnt).map fun c => leadsP of (prs n adj) told c) ((List.range cnt).map told) (fun k => cI cnt k ∨ k = 5) ∧ Outs w2 wr pb kb V' ov cl) (fun _ i _ => cnt - (intOf i).toNat)
      case atStart => exact ⟨0, fun _ => 0, [], Nat.zero_le _, rfl, rfl, ek0, rfl, fun c h => by simp at h, HC0.out, HOZ.out⟩
      case round =>
        clear HC0 HOZ
        obtain ⟨k, told, cl, hk, rfl, hcl, hek, hou, hcm, hcs, hos⟩ := hrel
        have HCL := Lib.hid hcl
        have HEK := Lib.hid hek
        have HOU := Lib.hid hou
        have HCM := Lib.hid hcm
        have HCS := Lib.hid hcs
        have HOS := Lib.hid hos
        clear hcl hek hou hcm hcs hos
        by_cases hkc : k < cnt
        · go_wp2_with fail
          go_loopw [16, 110] (fun bv i wi => ∃ (m : Nat) (b : Option Nat), m ≤ cnt ∧ i = .int .i64 m ∧ bv = bestV b ∧ Best n of (prs n adj) told m b ∧
            CS w2 wi cnt pb kb lb V' (fun c => prtC n of c) (fun d => backP of (prs n adj) d) ((List.range cnt).map fun c => leadsP of (prs n adj) told c) ((List.range cnt).map told) (fun k => cI cnt k ∨ k = 5) ∧ Outs w2 wi pb kb V' u14 cl) (fun _ i _ => cnt - (intOf i).toNat)
          case atStart => exact ⟨0, none, Nat.zero_le _, rfl, rfl, best0, HCS.out, HOS.out⟩
          case round =>
            clear HCS HOS
            obtain ⟨m, b, hm, rfl, rfl, hbest, hcs, hos⟩ := hrel
            have HBS := Lib.hid hbest
            have HCS := Lib.hid hcs
            have HOS := Lib.hid hos
            clear hbest hcs hos
            by_cases hmc : m < cnt
            · have hm0 : (0 : Int) ≤ (m : Int) := Int.natCast_nonneg _
              have hm1 : (m : Int) < (cnt : Int) := by omega
              have hmt : ((m : Int)).toNat = m := Int.toNat_natCast _
              have cT := HCS.out.tAt H5.out hmc
              have cL := HCS.out.lAt (.inl (.inr (.inr rfl))) hmc
              by_cases ht0 : told m = 0
              · have htb : ((told m : Int) == 0) = true := by rw [ht0]; rfl
                by_cases hl0 : leadsP of (prs n adj) told m = 0
                · have hlb : ((leadsP of (prs n adj) told m : Int) == 0) = true := by rw [hl0]; rfl
                  have hok : okC of (prs n adj) told m := ⟨ht0, hl0⟩
                  rcases b with _ | bc
                  · rw [show bestV none = .int .i64 (-1) from rfl]
                    go_wp2_with fail
                    go_quiet (fail)
                    go_wp2_with fail
                    go_roundw
                    case rel => exact ⟨m + 1, some m, by omega, by simp, rfl, HBS.out.first hok, HCS.out.drewN _, HOS.out.drewN _⟩
                    case measure => (try simp only [intOf]); omega
                  · rw [show bestV (some bc) = .int .i64 bc from rfl]
                    have hbc : bc < cnt := by
                      rcases HBS.out with ⟨h, _⟩ | ⟨c', h, hc', _⟩
                      · cases h
                      · injection h with h; omega
                    obtain ⟨x1, hx1, hx1c⟩ := HEM.out.cmp.all m hmc
                    obtain ⟨x2, hx2, hx2c⟩ := HEM.out.cmp.all bc hbc
                    obtain ⟨f1, l1, e1, hf1, _, _⟩ := part_head hx1 hx1c
                    obtain ⟨f2, l2, e2, hf2, _, _⟩ := part_head hx2 hx2c
                    have hh1 : hdS n of m = f1 := by unfold hdS; rw [e1]; rfl
                    have hh2 : hdS n of bc = f2 := by unfold hdS; rw [e2]; rfl
                    have r1 := HCS.out.fam.own (3 * m) (.inl (.inl ⟨by omega, by omega⟩))
                    have r2 := HCS.out.fam.own (3 * bc) (.inl (.inl ⟨by omega, by omega⟩))
                    rw [cL_p] at r1 r2
                    obtain ⟨g1, p1, hv1, _⟩ := Own.form r1 (by rw [e1]; simp)
                    obtain ⟨g2, p2, hv2, _⟩ := Own.form r2 (by rw [e2]; simp)
                    have cP1 := HCS.out.pAt hmc
                    have cP2 := HCS.out.pAt hbc
                    rw [hv1] at r1 cP1
                    rw [hv2] at r2 cP2
                    have cF1 := Row.cell r1 (i := 0) (x := f1) (by rw [e1]; rfl)
                    have cF2 := Row.cell r2 (i := 0) (x := f2) (by rw [e2]; rfl)
                    rw [e1] at cP1
                    rw [e2] at cP2
                    have hb0 : (0 : Int) ≤ (bc : Int) := Int.natCast_nonneg _
                    have hb1 : (bc : Int) < (cnt : Int) := by omega
                    have hbt : ((bc : Int)).toNat = bc := Int.toNat_natCast _
                    have hbn : decide ((bc : Int) < 0) = false := decide_eq_false (by omega)
                    clear r1 r2 hv1 hv2 e1 e2 hx1c hx2c
                    by_cases hlt2 : f1 < f2
                    · have hfb : decide ((f1 : Int) < (f2 : Int)) = true := decide_eq_true (by omega)
                      have hfb2 : decide (f1 < f2) = true := decide_eq_true hlt2
                      have HB2' := Lib.hid (HBS.out.better hok (by rw [hh1, hh2]; exact hlt2))
                      clear hh1 hh2 hlt2
                      go_wp2_with fail
                      go_quiet (fail)
                      go_wp2_with fail
                      go_roundw
                      case rel => exact ⟨m + 1, some m, by omega, by simp, rfl, HB2'.out, HCS.out.drewN _, HOS.out.drewN _⟩
                      case measure => (try simp only [intOf]); omega
                    · have hfb : decide ((f1 : Int) < (f2 : Int)) = false := decide_eq_false (by omega)
                      have hfb2 : decide (f1 < f2) = false := decide_eq_false hlt2
                      have HB2' := Lib.hid (HBS.out.worse (by rw [hh1, hh2]; exact hlt2))
                      clear hh1 hh2 hlt2
                      go_wp2_with fail
                      go_quiet (fail)
                      go_wp2_with fail
                      go_roundw
                      case rel => exact ⟨m + 1, some bc, by omega, by simp, rfl, HB2'.out, HCS.out.drewN _, HOS.out.drewN _⟩
                      case measure => (try simp only [intOf]); omega
                · have hlb : ((leadsP of (prs n adj) told m : Int) == 0) = false := by rw [beq_eq_false_iff_ne]; omega
                  have HNK := Lib.hid (HBS.out.skip (fun h => hl0 h.2))
                  clear hl0
                  generalize hbz : bestV b = bz
                  have HBZ := Lib.hid hbz
                  clear hbz
                  go_wp2_with fail
                  go_quiet (fail)
                  go_wp2_with fail
                  go_roundw
                  case rel => exact ⟨m + 1, b, by omega, by simp, HBZ.out.symm, HNK.out, HCS.out.drewN _, HOS.out.drewN _⟩
                  case measure => (try simp only [intOf]); omega
              · have htb : ((told m : Int) == 0) = false := by rw [beq_eq_false_iff_ne]; omega
                have HNK := Lib.hid (HBS.out.skip (fun h => ht0 h.1))
                clear ht0
                generalize hbz : bestV b = bz
                have HBZ := Lib.hid hbz
                clear hbz
                go_wp2_with fail
                go_quiet (fail)
                go_wp2_with fail
                go_roundw
                case rel => exact ⟨m + 1, b, by omega, by simp, HBZ.out.symm, HNK.out, HCS.out.drewN _, HOS.out.drewN _⟩
                case measure => (try simp only [intOf]); omega
            · have hmm : cnt = m := by omega
              subst hmm
              obtain ⟨i1, c1, rfl, hc1, ht1, hi1, hic, hnx, hcp⟩ := best_next HEM.out HEK.out hkc HBS.out
              have HT1 := Lib.hid ht1
              have HIC := Lib.hid hic
              have HNX := Lib.hid hnx
              have HCP := Lib.hid hcp
              clear ht1 hic hnx hcp HBS
              rw [show bestV (some c1) = .int .i64 c1 from rfl]
              have hm0 : (0 : Int) ≤ (c1 : Int) := Int.natCast_nonneg _
              have hm1 : (c1 : Int) < (cnt : Int) := by omega
              have hmt : ((c1 : Int)).toNat = c1 := Int.toNat_natCast _
              have hI3 : cI cnt (3 * c1) ∨ 3 * c1 = 5 := .inl (.inl ⟨by omega, by omega⟩)
              have hI4 : cI cnt (3 * c1 + 1) ∨ 3 * c1 + 1 = 5 := .inl (.inr (.inl ⟨by omega, by omega⟩))
              have cT := HCS.out.tAt H5.out hc1
              have fT := Row.frz (HCS.out.tRow H5.out) c1
              have lT := Row.lt (HCS.out.tRow H5.out)
              have cP := HCS.out.pAt hc1
              have hne1 : pb ≠ tb := CS.rowNe (HCS.out.tRow H5.out) HCS.out.P
              have hne2 : tb ≠ pb := Ne.symm hne1
              obtain ⟨f1, l1, e1, hf1, _, _⟩ := part_head hi1 HIC.out
              have r1 := HCS.out.fam.own (3 * c1) hI3
              rw [cL_p] at r1
              obtain ⟨g1, p1, hv1, _⟩ := Own.form r1 (by rw [e1]; simp)
              have HV1 := Lib.hid hv1
              rw [hv1] at cP
              have r2 := HCS.out.fam.own (3 * c1 + 1) hI4
              rw [cL_b] at r2
              have hbl : (backP of (prs n adj) c1).length ≤ 1000000 := Nat.le_trans (back_len _ _ _) HPP.out
              obtain ⟨ka, kc, hvk, -⟩ := r2.slc (z := 8) (by omega)
              have HVK := Lib.hid hvk
              have H4 := HCS.out.putT H5.out (c := c1) (by simpa using hc1) 1
              have HO4 : Outs w2 (World.setCell wr ⟨tb, c1, none⟩ (.int .i64 1)) pb kb V' u14 cl := HOS.out.put (HCS.out.tRow H5.out) c1 (.int .i64 1)
              have H4 : CS w2 (World.setCell wr ⟨tb, c1, none⟩ (.int .i64 1)) cnt pb kb lb V' _ _ _ _ (fun k => cI cnt k ∨ k = 5) := H4
              have hz4 : (World.setCell wr ⟨tb, c1, none⟩ (.int .i64 1)).heap.size = wr.heap.size := by simp [World.setCell]
              have HCK := Lib.hid (show cl.length ≤ 2000 by have := HCL.out; omega)
              clear r1 r2 hvk hv1 e1 HCS HOS hf1
              go_wp2_with (at_builtin; generalize World.setCell wr _ _ = W4 at H4 HO4 hz4 ⊢; refine wpList_el2 (by rfl) _ _ 23 (by rfl) w2.heap.size 26 _ 1 24 Try.underlying23 infRow rfl (by omega) (ROut V') _ cl (by rfl) (HO4.own.alloc _) c1 [.slice (some ⟨g1, 0, none⟩) (prtC n of c1).length p1] wr.heap.size 1 (by rfl) (by rw [← hz4]; exact blk_new1 _ _ _) (by show [_] = [_]; rw [HV1.out]) rfl (by simp [Value.oneCell']) (by have := HCK.out; omega) (by omega) (by have := H4.size; simp; omega) ?_; intro g2 cap w5 ho5 hg5 hat5; have HCS := Lib.hid ((H4.alloc (.cells #[.slice (some ⟨g1, 0, none⟩) (prtC n of c1).length p1] 26)).grown (HO4.alloc _) hg5); have HOS := Lib.hid (show Outs w2 w5 pb kb V' _ (cl ++ [c1]) from ⟨ho5, fun g hg => by obtain rfl : g2 = g := (by simpa [Value.ownBlock] using hg); rcases hat5 with h | h; exact HO4.far _ h; exact ⟨fun e => by have := (H4.alloc (.cells #[.slice (some ⟨g1, 0, none⟩) (prtC n of c1).length p1] 26)).P.lt; omega, fun e => by have := (H4.alloc (.cells #[.slice (some ⟨g1, 0, none⟩) (prtC n of c1).length p1] 26)).K.lt; omega⟩⟩); have cK := HCS.out.kAt hc1; rw [HVK.out] at cK; clear ho5 hg5 hat5 H4 HO4 hz4)
              clear cT fT lT cP hne1 hne2
              go_loopw [161] (fun i wi => ∃ j : Nat, j ≤ (backP of (prs n adj) c1).length ∧ i = .int .i64 j ∧
                CS w2 wi cnt pb kb lb V' (fun c => prtC n of c) (fun d => backP of (prs n adj) d) ((List.range cnt).map (takeOff (fun c => leadsP of (prs n adj) told c) ((backP of (prs n adj) c1).take j))) (((List.range cnt).map told).set c1 1) (fun k => cI cnt k ∨ k = 5) ∧ Outs w2 wi pb kb V' (.slice (some ⟨g2, 0, none⟩) (cl.length + 1) cap) (cl ++ [c1])) (fun i _ => (backP of (prs n adj) c1).length - (intOf i).toNat)
              case atStart => exact ⟨0, Nat.zero_le _, rfl, HCS.out.congr rfl rfl (by rw [List.take_zero, off_zero]) rfl, HOS.out⟩
              case round =>
                clear HCS HOS
                obtain ⟨j, hj, rfl, hcs, hos⟩ := hrel
                have HCS := Lib.hid hcs
                have HOS := Lib.hid hos
                clear hcs hos
                by_cases hjl : j < (backP of (prs n adj) c1).length
                · have r2 := HCS.out.fam.own (3 * c1 + 1) hI4
                  rw [cL_b, HVK.out] at r2
                  obtain ⟨ka', kc', hke, hki⟩ := r2.slc (z := 8) (by omega)
                  injection hke with hke1 hke2 hke3
                  subst hke1 hke3
                  obtain ⟨x, bA, oA, hx, rfl, hxc⟩ := Ints.at_ hki hjl (Kept.refl _)
                  have hxm : x ∈ backP of (prs n adj) c1 := List.mem_of_getElem? hx
                  have hxcnt : x < cnt := by
                    obtain ⟨e, he, rfl⟩ := List.mem_map.1 hxm
                    exact HEM.out.cmp.lt _ (HEM.out.pm e (List.mem_filter.1 he).1).1
                  have hle : (backP of (prs n adj) c1).count x ≤ leadsP of (prs n adj) told x := by have := leads_tell (of := of) (P := prs n adj) HT1.out x; omega
                  have hpos := off_pos (l := fun c => leadsP of (prs n adj) told c) hle hx
                  have hmx : takeOff (fun c => leadsP of (prs n adj) told c) ((backP of (prs n adj) c1).take j) x ≤ 1000000 := by
                    have h1 := led_le of (prs n adj) told x
                    have h2 := HPP.out
                    show leadsP of (prs n adj) told x - _ ≤ _
                    omega
                  have HX := Lib.hid hx
                  have hj0 : (0 : Int) ≤ (j : Int) := Int.natCast_nonneg _
                  have hj1 : (j : Int) < ((backP of (prs n adj) c1).length : Int) := by omega
                  have hjt : ((j : Int)).toNat = j := Int.toNat_natCast _
                  have hx0 : (0 : Int) ≤ (x : Int) := Int.natCast_nonneg _
                  have hx1 : (x : Int) < (cnt : Int) := by omega
                  have hxt : ((x : Int)).toNat = x := Int.toNat_natCast _
                  have cl' := HCS.out.lAt (ld := takeOff (fun c => leadsP of (prs n adj) told c) ((backP of (prs n adj) c1).take j)) (.inl (.inr (.inr rfl))) hxcnt
                  have fl := Row.frz (HCS.out.lRow (.inl (.inr (.inr rfl)))) x
                  have ll := Row.lt (HCS.out.lRow (.inl (.inr (.inr rfl))))
                  have H6 := HCS.out.putL (.inl (.inr (.inr rfl))) (c := x) (by simpa using hxcnt) (takeOff (fun c => leadsP of (prs n adj) told c) ((backP of (prs n adj) c1).take j) x - 1)
                  have HO6 := HOS.out.put (HCS.out.lRow (.inl (.inr (.inr rfl)))) x (.int .i64 ((takeOff (fun c => leadsP of (prs n adj) told c) ((backP of (prs n adj) c1).take j) x - 1 : Nat)))
                  rw [show ((takeOff (fun c => leadsP of (prs n adj) told c) ((backP of (prs n adj) c1).take j) x - 1 : Nat) : Int) = (takeOff (fun c => leadsP of (prs n adj) told c) ((backP of (prs n adj) c1).take j) x : Int) - 1 from by omega] at H6 HO6
                  have HMS := Lib.hid (show (List.range cnt).map (takeOff (fun c => leadsP of (prs n adj) told c) ((backP of (prs n adj) c1).take (j + 1))) = ((List.range cnt).map (takeOff (fun c => leadsP of (prs n adj) told c) ((backP of (prs n adj) c1).take j))).set x (takeOff (fun c => leadsP of (prs n adj) told c) ((backP of (prs n adj) c1).take j) x - 1) from by rw [map_set, take_step hx, off_snoc])
                  generalize hto : takeOff (fun c => leadsP of (prs n adj) told c) ((backP of (prs n adj) c1).take j) x = to at cl' hpos hmx H6 HO6 HMS
                  clear hki hx hxm hle hto r2 hke2
                  go_wp2_with fail
                  go_roundw
                  case rel => exact ⟨j + 1, by omega, by simp, H6.congr rfl rfl HMS.out rfl, HO6⟩
                  case measure => (try simp only [intOf]); omega
                · have hjj : j = (backP of (prs n adj) c1).length := by omega
                  subst hjj
                  go_wp2_with fail
                  go_roundw
                  case rel => exact ⟨k + 1, upd told c1 1, cl ++ [c1], by omega, by simp, by have := HCL.out; simp; omega, HEK.out.tell HEM.out hi1 HIC.out HT1.out HNX.out, by rw [outK_some HNX.out, HOU.out, List.map_append, HCP.out]; rfl, fun c hc => by rcases List.mem_append.1 hc with h | h; exact HCM.out c h; rw [List.mem_singleton.1 h]; exact hc1, HCS.out.congr rfl rfl (by rw [List.take_length, off_told HT1.out]) (by rw [map_set]; rfl), HOS.out⟩
                  case measure => (try simp only [intOf]); omega
        · have hkk : k = cnt := by omega
          subst hkk
          obtain ⟨A9, C9, rfl, hL9⟩ := HOS.out.listsN HCS.out (fun c hc => .inl (.inl ⟨by omega, by have := HCM.out c hc; omega⟩)) (fun c => by have := prt_len n of c; omega) (by have := HCL.out; omega)
          have HL9 := Lib.hid hL9
          clear hL9
          go_wp2_with fail
          go_ret
          exact ⟨_, A9, C9, rfl, HL9.out.base HB2.out.size, (by rw [← HE.out]; exact ⟨_, HEK.out.all_told HEM.out.cmp, HOU.out.symm⟩), below_any HB2.out HCS.out.below⟩
end Go.Proofs.Ytodhianmaogfpaa
