/- The reference's Components: its contract. -/
import Derived.Test.YtodhianmaogfpaaScH
import Derived.Test.YtodhianmaogfpaaScF
namespace Go.Proofs.Ytodhianmaogfpaa
set_option linter.unusedSimpArgs false
set_option linter.unusedVariables false
open Go.RowKit
attribute [local go_sem ↓] Go.wp_at_zero Go.wp_at_succ
/-- is i ready, as far as the first j nodes say -/
def rdyT (G : Nat → Nat → Bool) (done : Nat → Bool) (i j : Nat) : Bool := !done i && (List.range j).all fun x => !G i x || G x i || done x
theorem rdy_zero (G : Nat → Nat → Bool) (done : Nat → Bool) (i : Nat) : rdyT G done i 0 = !done i := by simp [rdyT]
theorem rdy_succ (G : Nat → Nat → Bool) (done : Nat → Bool) (i j : Nat) : rdyT G done i (j + 1) = (rdyT G done i j && (!G i j || G j i || done j)) := by
  unfold rdyT
  rw [List.range_succ, List.all_append, ← Bool.and_assoc]
  simp
theorem rdy_end (G : Nat → Nat → Bool) (done : Nat → Bool) (i n : Nat) : rdyT G done i n = readyS n G done i := rfl
/-- the first j nodes of i's component -/
def cmpT (G : Nat → Nat → Bool) (i j : Nat) : List Nat := (List.range j).filter fun x => G i x && G x i
theorem cmp_yes {G : Nat → Nat → Bool} {i j : Nat} (h1 : G i j = true) (h2 : G j i = true) : cmpT G i (j + 1) = cmpT G i j ++ [j] := by
  unfold cmpT; rw [List.range_succ, List.filter_append]; simp [h1, h2]
theorem cmp_no {G : Nat → Nat → Bool} {i j : Nat} (h : (G i j && G j i) = false) : cmpT G i (j + 1) = cmpT G i j := by
  unfold cmpT; rw [List.range_succ, List.filter_append]; simp [h]
theorem cmp_len (G : Nat → Nat → Bool) (i j : Nat) : (cmpT G i j).length ≤ j := by
  unfold cmpT
  have := List.length_filter_le (fun x => G i x && G x i) (List.range j)
  simpa using this
def dnT (G : Nat → Nat → Bool) (done : Nat → Bool) (i j : Nat) (x : Nat) : Bool := done x || (decide (x < j) && (G i x && G x i))
theorem dn_zero (G : Nat → Nat → Bool) (done : Nat → Bool) (i : Nat) : dnT G done i 0 = done := by funext x; simp [dnT]
theorem dn_yes {G : Nat → Nat → Bool} {done : Nat → Bool} {i j : Nat} (h1 : G i j = true) (h2 : G j i = true) : dnT G done i (j + 1) = upf (dnT G done i j) j true := by
  funext x
  by_cases e : x = j
  · subst e; rw [upf_at]; simp [dnT, h1, h2]
  · rw [upf_ne e]
    unfold dnT
    have : decide (x < j + 1) = decide (x < j) := by rw [decide_eq_decide]; omega
    rw [this]
theorem dn_no {G : Nat → Nat → Bool} {done : Nat → Bool} {i j : Nat} (h : (G i j && G j i) = false) : dnT G done i (j + 1) = dnT G done i j := by
  funext x
  unfold dnT
  by_cases e : x = j
  · subst e; rw [h]; simp
  · have : decide (x < j + 1) = decide (x < j) := by rw [decide_eq_decide]; omega
    rw [this]
/-- how many are not told -/
def und (n : Nat) (done : Nat → Bool) : Nat := (List.range n).countP fun x => !done x
theorem und_lt {n i : Nat} {G : Nat → Nat → Bool} {done : Nat → Bool} (hi : i < n) (hd : done i = false) (hg : G i i = true) : und n (dnT G done i n) < und n done := by
  unfold und
  have h1 : ∀ x ∈ List.range n, (!dnT G done i n x) = true → (!done x) = true := fun x _ h => by
    simp only [dnT, Bool.not_eq_true', Bool.or_eq_false_iff] at h
    simp [h.1]
  have hs : (List.range n).countP (fun x => !dnT G done i n x) + 1 ≤ (List.range n).countP fun x => !done x := by
    obtain ⟨a, b, hab⟩ := List.append_of_mem (List.mem_range.2 hi)
    rw [hab] at h1 ⊢
    rw [List.countP_append, List.countP_append, List.countP_cons, List.countP_cons]
    have h2 : (!dnT G done i n i) = false := by simp [dnT, hi, hg]
    have h3 : (!done i) = true := by simp [hd]
    rw [h2, h3]
    have ha := List.countP_mono_left (l := a) (p := fun x => !dnT G done i n x) (q := fun x => !done x) (fun x hx h => h1 x (by simp [hx]) h)
    have hb := List.countP_mono_left (l := b) (p := fun x => !dnT G done i n x) (q := fun x => !done x) (fun x hx h => h1 x (by simp [hx]) h)
    simp only [if_true, Bool.false_eq_true, if_false]
    omega
  omega
/-- the told components so far: rows by number -/
abbrev OutR (w : World) (B : Nat) (V : Nat → Value) (ov : Value) (m : Nat) : Prop := Own w B 26 1 (fun cs i => cs = [V i]) ov (List.range m)
theorem OutR.lists {w : World} {B : Nat} {V : Nat → Value} {L : Nat → List Nat} {ov : Value} {m : Nat} (h : OutR w B V ov m) (hF : Fam w B V L fun i => i < m) (hp : ∀ c, c < m → (L c).length ≤ 1000000) (hl : m ≤ 1000000) : ∃ A C, ov = .slice A ((List.range m).map L).length C ∧ Lists w A C ((List.range m).map L) := by
  obtain ⟨css, h1, h2, h3⟩ := h
  have h4 : Own w B 26 1 (RLst w) ov ((List.range m).map L) := by
    refine ⟨css, by simpa using h1, fun i cs x hcs hx => ?_, by simpa using h3⟩
    rw [List.getElem?_map] at hx
    obtain ⟨y, hy, rfl⟩ := Option.map_eq_some_iff.1 hx
    obtain ⟨e1, e2⟩ := h2 i cs y hcs hy
    have hym : y < m := List.mem_range.1 (List.mem_of_getElem? hy)
    refine ⟨?_, e2⟩
    obtain ⟨A, C, e3, e4⟩ := (hF.own y hym).slc (z := 8) (by have := hp y hym; omega)
    exact ⟨A, C, by rw [e1, e3], e4⟩
  exact h4.slc (z := 24) (by simp; omega)
theorem OutR.congr {w : World} {B : Nat} {V V' : Nat → Value} {ov : Value} {m : Nat} (h : OutR w B V ov m) (hV : ∀ i, i < m → V' i = V i) : OutR w B V' ov m := by
  obtain ⟨css, h1, h2, h3⟩ := h
  refine ⟨css, h1, fun i cs x hcs hx => ?_, h3⟩
  obtain ⟨e1, e2⟩ := h2 i cs x hcs hx
  refine ⟨?_, e2⟩
  show cs = [V' x]
  rw [hV x (List.mem_range.1 (List.mem_of_getElem? hx))]
  exact e1
theorem und0 (n : Nat) : und n (fun _ => false) ≤ n := by
  unfold und
  simp
theorem ready_congr {n i : Nat} {G : Nat → Nat → Bool} {d1 d2 : Nat → Bool} (h : ∀ x, x < n → d1 x = d2 x) (hi : i < n) : readyS n G d1 i = readyS n G d2 i := by
  rw [Bool.eq_iff_iff, ready_iff, ready_iff, h i hi]
  refine and_congr_right fun _ => ⟨fun hh j hj hg => ?_, fun hh j hj hg => ?_⟩
  · rw [← h j hj]; exact hh j hj hg
  · rw [h j hj]; exact hh j hj hg
theorem next_congr {n : Nat} {G : Nat → Nat → Bool} {d1 d2 : Nat → Bool} (h : ∀ x, x < n → d1 x = d2 x) : nextS n G d1 = nextS n G d2 := by
  cases h1 : nextS n G d1 with
  | none =>
    symm
    rw [next_none] at h1 ⊢
    intro i hi
    rw [← ready_congr h hi]; exact h1 i hi
  | some i =>
    symm
    rw [next_iff] at h1 ⊢
    obtain ⟨a, b, c⟩ := h1
    exact ⟨a, by rw [← ready_congr h a]; exact b, fun j hj => by rw [← ready_congr h (by omega)]; exact c j hj⟩
theorem far3 {w : World} {B : Nat} {V : Nat → Value} {L : Nat → List Nat} {I : Nat → Prop} {g t : Nat} {cs : Array Value} (h : Fam w B V L I) (hB : Blk w g t cs) (hne : t ≠ 3) (i : Nat) (u : Value) : Fam (w.setCell ⟨g, i, none⟩ u) B V L I :=
  h.other (fun cur hc => by
    unfold Blk at hB
    rw [show (⟨g, i, none⟩ : Addr).block = g from rfl, hB] at hc
    injection hc with hc
    injection hc with _ hc
    exact hne hc) u
theorem farO {α : Type} {w : World} {B e k : Nat} {R : List Value → α → Prop} {v : Value} {l : List α} {g t : Nat} {cs : Array Value} (h : Own w B e k R v l) (hB : Blk w g t cs) (hne : t ≠ e) (i : Nat) (u : Value) : Own (w.setCell ⟨g, i, none⟩ u) B e k R v l :=
  h.setCell (p := ⟨g, i, none⟩) (fun cur hc => by
    unfold Blk at hB
    rw [show (⟨g, i, none⟩ : Addr).block = g from rfl, hB] at hc
    injection hc with hc
    injection hc with _ hc
    exact hne hc) u
set_option maxRecDepth 100000 in
set_option maxHeartbeats 8000000 in
theorem rcomps_any (n : Nat) (hn : n ≤ 1000) (A : Option Addr) (c : Nat) (l : List (Int × Int)) (w : World) (hl : Edges w A c l) :
    Calls Try.prog 10 #[.int .i64 n, .slice A l.length c] w fun e w' => ∃ (out : List (List Nat)) (B : Option Addr) (d : Nat), e = .returned (.slice B out.length d) ∧ Lists w' B d out ∧ CompsIs n (gE n (vE n l)) out ∧ Below w.heap.size w w' := by
  have HL := Lib.hid hl
  clear hl
  have hmk2 := run_make_row' (P := Try.prog) 30 4 (.bool false) 1 Try.underlying30 infBol rfl .i64 .i64 n (by omega) (by omega)
  obtain ⟨G, hGe⟩ : ∃ G, G = gE n (vE n l) := ⟨_, rfl⟩
  have HGR := Lib.hid (show Gr n G by rw [hGe]; exact gE_gr)
  rw [← hGe]
  have HGE := Lib.hid hGe
  clear hGe
  go_enter Try.func10, Try.ntmps10
  go_wp2_with fail
  refine (graph_any n hn A c l w HL.out).mono ?_
  rintro e w1 ⟨gb, rfl, hM, hb1⟩
  rw [← HGE.out] at hM
  obtain ⟨bf, hM1, hM2⟩ := hM
  have HM1 := Lib.hid hM1
  have HM2 := Lib.hid hM2
  have HB1 := Lib.hid hb1
  clear hM1 hM2 hb1
  go_wp2
  clear hmk2
  have HD0 := Lib.hid (show Blk (w1.alloc (.cells (madeCells #[.bool false] n) 4)) w1.heap.size 4 (rowB n fun _ => false) from by have h := blk_new1 w1 4 (madeCells #[.bool false] n); rw [rowB_made] at h ⊢; exact h)
  have HB0 := Lib.hid (show Below w1.heap.size w1 (w1.alloc (.cells (madeCells #[.bool false] n) 4)) from below_alloc (Below.refl _ _) _)
  have hdb : w1.heap.size ≤ w1.heap.size := Nat.le_refl _
  generalize World.alloc w1 _ = W0 at HD0 HB0 ⊢
  generalize hdbe : w1.heap.size = db at HD0 ⊢
  have hdb2 : w1.heap.size ≤ db := by omega
  clear hdb hdbe
  go_loopg [7] (und n (fun _ => false)) (fun k ov wr => ∃ (r m : Nat) (V : Nat → Value) (L : Nat → List Nat) (done : Nat → Bool), k = und n done ∧ (∀ x, x < n → done x = (outK n G r).1 x) ∧ (outK n G r).2 = (List.range m).map L ∧ (∀ i, i < m → (L i).length ≤ n) ∧ m ≤ r ∧ r + und n done ≤ n ∧
    Fam wr w1.heap.size V L (fun i => i < m) ∧ OutR wr w1.heap.size V ov m ∧ Blk wr db 4 (rowB n done) ∧ Below w1.heap.size w1 wr)
  case atStart => exact ⟨0, 0, fun _ => .slice none 0 0, fun _ => [], fun _ => false, rfl, fun x _ => rfl, rfl, fun i h => absurd h (by omega), Nat.le_refl _, by have := und0 n; omega, (fam0 _ _ _ _).congr (fun k h => absurd h (by omega)) (fun _ _ => rfl) (fun _ _ => rfl), Own.nil_ _ _ _ _ _, HD0.out, HB0.out⟩
  case round =>
    clear HD0 HB0
    obtain ⟨r, m, V, L, done, hk, hdn, hou, hll, hmr, hrn, hF, hO, hD, hB⟩ := hrel
    have HK := Lib.hid hk
    have HDN := Lib.hid hdn
    have HOU := Lib.hid hou
    have HLL := Lib.hid hll
    have HF := Lib.hid hF
    have HO := Lib.hid hO
    have HD := Lib.hid hD
    have HB := Lib.hid hB
    clear hk hdn hou hll hF hO hD hB
    have hbd3 : ∀ o, w1.heap.size ≤ o → True := fun _ _ => trivial
    go_wp2_with fail
    go_loopw [8, 20] (fun nx i wi => ∃ i' : Nat, i' ≤ n ∧ i = .int .i64 i' ∧ nx = .int .i64 (-1) ∧ wi = wr ∧ ∀ a, a < i' → readyS n G done a = false) (fun _ i _ => n - (intOf i).toNat)
    case atStart => exact ⟨0, Nat.zero_le _, rfl, rfl, rfl, fun a h => absurd h (by omega)⟩
    case round =>
      obtain ⟨i, hi, rfl, rfl, rfl, hno⟩ := hrel
      have HNO := Lib.hid hno
      clear hno
      by_cases hin : i < n
      · have hi0 : (0 : Int) ≤ (i : Int) := Int.natCast_nonneg _
        have hi1 : (i : Int) < (n : Int) := by omega
        have hit : ((i : Int)).toNat = i := Int.toNat_natCast _
        have cD := (HD.out.cell i).trans (arr_get hin)
        go_wp2_with fail
        go_loopw [10, 29] (fun rv j wi => ∃ j' : Nat, j' ≤ n ∧ j = .int .i64 j' ∧ rv = .bool (rdyT G done i j') ∧ wi = wr) (fun _ j _ => n - (intOf j).toNat)
        case atStart => exact ⟨0, Nat.zero_le _, rfl, by rw [rdy_zero], rfl⟩
        case round =>
          obtain ⟨j, hj, rfl, rfl, rfl⟩ := hrel
          have HRS := Lib.hid (rdy_succ G done i j)
          by_cases hjn : j < n
          · have hj0 : (0 : Int) ≤ (j : Int) := Int.natCast_nonneg _
            have hj1 : (j : Int) < (n : Int) := by omega
            have hjt : ((j : Int)).toNat = j := Int.toNat_natCast _
            have c1 := Kept.of_below HB.out _ _ (HM1.out i hin)
            have c2 := Kept.of_below HB.out _ _ (HM1.out j hjn)
            have c3 := Kept.of_below HB.out _ _ (HM2.out i j hin hjn)
            have c4 := Kept.of_below HB.out _ _ (HM2.out j i hjn hin)
            have c5 := (HD.out.cell j).trans (arr_get hjn)
            generalize hr1 : rdyT G done i j = r1 at HRS ⊢
            generalize hg1 : G i j = g1 at HRS c3
            generalize hg2 : G j i = g2 at HRS c4
            generalize hd2 : done j = d2 at HRS c5
            clear hr1 hg1 hg2 hd2
            rcases r1 with _ | _
            · go_wp2_with fail
              go_roundw
              case rel => exact ⟨j + 1, by omega, by simp, by rw [HRS.out]; rfl, trivial⟩
              case measure => (try simp only [intOf]); omega
            · rcases g1 with _ | _
              · go_wp2_with fail
                go_roundw
                case rel => exact ⟨j + 1, by omega, by simp, by rw [HRS.out]; rfl, trivial⟩
                case measure => (try simp only [intOf]); omega
              · rcases g2 with _ | _
                · go_wp2_with fail
                  go_roundw
                  case rel => exact ⟨j + 1, by omega, by simp, by rw [HRS.out]; simp, trivial⟩
                  case measure => (try simp only [intOf]); omega
                · go_wp2_with fail
                  go_roundw
                  case rel => exact ⟨j + 1, by omega, by simp, by rw [HRS.out]; rfl, trivial⟩
                  case measure => (try simp only [intOf]); omega
          · have hjj : n = j := by omega
            subst hjj
            clear HRS
            have hnn : decide ((n : Int) < (n : Int)) = false := decide_eq_false (by omega)
            have HRD := Lib.hid (rdy_end G done i n)
            rcases hrd : rdyT G done i n
            · have hno2 : ∀ a, a < i + 1 → readyS n G done a = false := lt_all HNO.out (by rw [← HRD.out, hrd])
              have HN2 := Lib.hid hno2
              clear hno2 hrd
              go_wp2_with fail
              go_roundw
              case rel => exact ⟨i + 1, by omega, by simp, rfl, trivial, HN2.out⟩
              case measure => (try simp only [intOf]); omega
            · have hrs : readyS n G done i = true := by rw [← HRD.out, hrd]
              have HNX := Lib.hid (next_iff.2 ⟨hin, hrs, HNO.out⟩)
              have hdi : done i = false := (ready_iff.1 hrs).1
              have HUN := Lib.hid (und_lt (G := G) hin hdi (HGR.out.rf i hin))
              have hin0 : decide ((i : Int) < 0) = false := decide_eq_false (by omega)
              clear hrs hrd HRD HNO hdi cD
              go_wp2_with fail
              have HV0 := Lib.hid ((fam_nil (V := upf V m (.slice none 0 0)) (L := upf L m (cmpT G i 0)) (J := fun k => k = m) (HF.out.congr (V' := upf V m (.slice none 0 0)) (L' := upf L m (cmpT G i 0)) (I' := fun i => i < m) (fun _ h => h) (fun k hk => upf_ne (by omega)) (fun k hk => upf_ne (by omega))) (fun k hk _ => by subst hk; exact ⟨upf_at _ _ _, upf_at _ _ _⟩)).congr (I' := fun i => i < m + 1) (fun k hk => by rcases Nat.lt_or_ge k m with h | h; exact .inl h; exact .inr (by omega)) (fun _ _ => rfl) (fun _ _ => rfl))
              go_loopw [12, 66] (fun cv j wi => ∃ (j' : Nat) (V' : Nat → Value), j' ≤ n ∧ j = .int .i64 j' ∧ cv = V' m ∧ Fam wi w1.heap.size V' (upf L m (cmpT G i j')) (fun i => i < m + 1) ∧ (∀ x, x < m → V' x = V x) ∧ OutR wi w1.heap.size V u7 m ∧ Blk wi db 4 (rowB n (dnT G done i j')) ∧ Below w1.heap.size w1 wi) (fun _ j _ => n - (intOf j).toNat)
              case atStart => exact ⟨0, upf V m (.slice none 0 0), Nat.zero_le _, rfl, (upf_at _ _ _).symm, HV0.out, fun x hx => upf_ne (by omega), HO.out, by rw [dn_zero]; exact HD.out, HB.out⟩
              case round =>
                clear HV0 HO HD HB HF
                obtain ⟨j, V', hj, rfl, rfl, hF, hVV, hO, hD, hB⟩ := hrel
                have HF := Lib.hid hF
                have HVV := Lib.hid hVV
                have HO := Lib.hid hO
                have HD := Lib.hid hD
                have HB := Lib.hid hB
                clear hF hVV hO hD hB
                by_cases hjn : j < n
                · have hj0 : (0 : Int) ≤ (j : Int) := Int.natCast_nonneg _
                  have hj1 : (j : Int) < (n : Int) := by omega
                  have hjt : ((j : Int)).toNat = j := Int.toNat_natCast _
                  have c1 := Kept.of_below HB.out _ _ (HM1.out i hin)
                  have c2 := Kept.of_below HB.out _ _ (HM1.out j hjn)
                  have c3 := Kept.of_below HB.out _ _ (HM2.out i j hin hjn)
                  have c4 := Kept.of_below HB.out _ _ (HM2.out j i hjn hin)
                  by_cases hgg : (G i j && G j i) = true
                  · have hg1 : G i j = true := by rw [Bool.and_eq_true] at hgg; exact hgg.1
                    have hg2 : G j i = true := by rw [Bool.and_eq_true] at hgg; exact hgg.2
                    rw [hg1] at c3
                    rw [hg2] at c4
                    have HCM := Lib.hid (cmp_yes hg1 hg2)
                    have HDY := Lib.hid (dn_yes (done := done) hg1 hg2)
                    have hcl : (upf L m (cmpT G i j) m).length ≤ 1000000000 := by rw [upf_at]; have := cmp_len G i j; omega
                    clear hgg hg1 hg2
                    go_wp2_with (at_builtin; refine list_row (by rfl) _ _ 26 (by rfl) Try.underlying26 w1.heap.size (V' m) (upf L m (cmpT G i j) m) (by rfl) ((HF.out.own m (by omega)).alloc _) j wr.heap.size 1 (by rfl) (blk_new1 _ _ _) hcl (by have := HB.out.size; simp; omega) ?_; intro g2 cap w5 ho5 hg5 hat5; have HD5 := Lib.hid (((HF.out.own m (by omega)).alloc (.cells #[.int .i64 j] 3)).blk (HD.out.alloc _) (by decide) hg5); have HB5 := Lib.hid (((HF.out.own m (by omega)).alloc (.cells #[.int .i64 j] 3)).below (below_alloc HB.out (.cells #[.int .i64 j] 3)) (by have := HB.out.size; simp; omega) hg5); have HO5 := Lib.hid (Own.far (HO.out.alloc (.cells #[.int .i64 j] 3)) ((HF.out.own m (by omega)).alloc (.cells #[.int .i64 j] 3)) (by decide) hg5); have HF5 := Lib.hid ((HF.out.alloc (.cells #[.int .i64 j] 3)).app (k := m) (by omega) ho5 hg5 hat5); have cD := (HD5.out.cell j).trans (arr_get hjn); have fD := HD5.out.frozen j; have lD := HD5.out.lt; clear ho5 hg5 hat5)
                    go_roundw
                    case rel => exact ⟨j + 1, upf V' m (.slice (some ⟨g2, 0, none⟩) ((upf L m (cmpT G i j) m).length + 1) cap), by omega, by simp, (upf_at _ _ _).symm, (far3 HF5.out HD5.out (by decide) j _).congr (fun _ h => h) (fun _ _ => rfl) (fun k hk => by rw [HCM.out]; by_cases e : k = m; (subst e; rw [upf_at, upf_at, upf_at]); (rw [upf_ne e, upf_ne e, upf_ne e])), fun x hx => (upf_ne (by omega)).trans (HVV.out x hx), farO HO5.out HD5.out (by decide) j _, by rw [HDY.out, ← rowB_set]; exact HD5.out.set_ j _, HB5.out.setCell hdb2 _⟩
                    case measure => (try simp only [intOf]); omega
                  · have hgf : (G i j && G j i) = false := by simpa using hgg
                    have HCM := Lib.hid (cmp_no hgf)
                    have HDY := Lib.hid (dn_no (done := done) hgf)
                    generalize hq1 : G i j = q1 at c3 hgf
                    generalize hq2 : G j i = q2 at c4 hgf
                    clear hq1 hq2 hgg
                    rcases q1 with _ | _
                    · go_wp2_with fail
                      go_roundw
                      case rel => exact ⟨j + 1, V', by omega, by simp, rfl, by rw [HCM.out]; exact HF.out, HVV.out, HO.out, by rw [HDY.out]; exact HD.out, HB.out⟩
                      case measure => (try simp only [intOf]); omega
                    · have hq2 : q2 = false := by simpa using hgf
                      subst hq2
                      go_wp2_with fail
                      go_roundw
                      case rel => exact ⟨j + 1, V', by omega, by simp, rfl, by rw [HCM.out]; exact HF.out, HVV.out, HO.out, by rw [HDY.out]; exact HD.out, HB.out⟩
                      case measure => (try simp only [intOf]); omega
                · have hjj : n = j := by omega
                  subst hjj
                  have hcm : i ∈ cmpT G i n := List.mem_filter.2 ⟨List.mem_range.2 hin, by simp [HGR.out.rf i hin]⟩
                  have hpos : 0 < (upf L m (cmpT G i n) m).length := by rw [upf_at]; exact List.length_pos_of_mem hcm
                  obtain ⟨g1, p1, hv1, _⟩ := Own.form (HF.out.own m (by omega)) hpos
                  have HV1 := Lib.hid hv1
                  rw [hv1]
                  have HO2 := Lib.hid (HO.out.congr HVV.out)
                  have hml : (List.range m).length ≤ 1000 := by simp; omega
                  clear hv1 hcm hpos
                  go_wp2_with (at_builtin; refine wpList_el2 (by rfl) _ _ 23 (by rfl) w1.heap.size 26 _ 1 24 Try.underlying23 infRow rfl (by omega) (fun cs i => cs = [V' i]) u7 (List.range m) (by rfl) (HO2.out.alloc _) m [.slice (some ⟨g1, 0, none⟩) (upf L m (cmpT G i n) m).length p1] wr.heap.size 1 (by rfl) (blk_new1 _ _ _) (by show [_] = [_]; rw [HV1.out]) rfl (by simp [Value.oneCell']) (by omega) (by omega) (by have := HB.out.size; simp; omega) ?_; intro g2 cap w5 ho5 hg5 hat5; have HD5 := Lib.hid ((HO2.out.alloc (.cells #[.slice (some ⟨g1, 0, none⟩) (upf L m (cmpT G i n) m).length p1] 26)).blk (HD.out.alloc _) (by decide) hg5); have HB5 := Lib.hid ((HO2.out.alloc (.cells #[.slice (some ⟨g1, 0, none⟩) (upf L m (cmpT G i n) m).length p1] 26)).below (below_alloc HB.out _) (by have := HB.out.size; simp; omega) hg5); have HF5 := Lib.hid ((HF.out.alloc (.cells #[.slice (some ⟨g1, 0, none⟩) (upf L m (cmpT G i n) m).length p1] 26)).keep (T := fun t => t = 3) (Own.keep (HO2.out.alloc (.cells #[.slice (some ⟨g1, 0, none⟩) (upf L m (cmpT G i n) m).length p1] 26)) hg5 (by decide)) rfl); have HO5 := Lib.hid ho5; clear ho5 hg5 hat5)
                  go_roundg (und n (dnT G done i n))
                  case measure => have := HUN.out; have := HK.out; omega
                  case rel =>
                    have hnx : nextS n G (outK n G r).1 = some i := by rw [← next_congr HDN.out]; exact HNX.out
                    refine ⟨r + 1, m + 1, V', upf L m (cmpT G i n), dnT G done i n, rfl, fun x hx => ?_, ?_, fun k hk => ?_, by omega, by have := HUN.out; omega, HF5.out, ?_, HD5.out, HB5.out⟩
                    · rw [outK_some hnx]
                      show dnT G done i n x = ((outK n G r).1 x || (G i x && G x i))
                      unfold dnT
                      rw [HDN.out x hx]
                      simp [hx]
                    · rw [outK_some hnx]
                      show (outK n G r).2 ++ [compS n G i] = _
                      rw [HOU.out, List.range_succ, List.map_append]
                      congr 1
                      · apply List.map_congr_left
                        intro k hk
                        rw [upf_ne (by have := List.mem_range.1 hk; omega)]
                      · simp [upf_at]; rfl
                    · by_cases e : k = m
                      · rw [e, upf_at]; exact cmp_len G i n
                      · rw [upf_ne e]; exact HLL.out k (by omega)
                    · have h := HO5.out
                      rw [← List.range_succ, List.length_range] at h
                      exact h
      · have hii : n = i := by omega
        subst hii
        have HST := Lib.hid (show nextS n G (outK n G r).1 = none from by
          rw [← next_congr HDN.out, next_none]
          intro a ha
          exact HNO.out a ha)
        obtain ⟨A9, C9, rfl, hL9⟩ := HO.out.lists HF.out (fun c hc => by have := HLL.out c hc; omega) (by omega)
        have HL9 := Lib.hid hL9
        clear hL9
        go_wp2_with fail
        go_ret
        exact ⟨_, A9, C9, rfl, HL9.out, ⟨r, HST.out, HOU.out.symm⟩, below_next HB1.out HB.out⟩
end Go.Proofs.Ytodhianmaogfpaa
