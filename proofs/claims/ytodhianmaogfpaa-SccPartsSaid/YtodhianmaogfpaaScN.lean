/- scc.Reach: its contract. -/
import Derived.Test.YtodhianmaogfpaaScM
namespace Go.Proofs.Ytodhianmaogfpaa
set_option linter.unusedSimpArgs false
set_option linter.unusedVariables false
open Go.RowKit
attribute [local go_sem ↓] Go.wp_at_zero Go.wp_at_succ
theorem Row.one {w : World} {B : Nat} (hB : B ≤ w.heap.size) (x : Nat) : Row (w.alloc (.cells #[.int .i64 x] 3)) B (.slice (some ⟨w.heap.size, 0, none⟩) 1 1) [x] := by
  refine ⟨[[.int .i64 x]], by simp, fun i cs y h1 h2 => ?_, by simp, .inr ⟨w.heap.size, 1, #[.int .i64 x], by simp, hB, heap_alloc_new w _, by simp, by unfold maxLen; omega, by simp, by simp⟩⟩
  rcases i with _ | i
  · simp at h1 h2
    subst h1 h2
    exact ⟨rfl, rfl⟩
  · simp at h1
theorem rs0 {w1 : World} {n r : Nat} (hn : n ≤ maxLen) (hr : r < n) : RS w1 ((w1.alloc (.cells ((madeCells #[.int .i64 0] n).setIfInBounds r (.int .i64 1)) 3)).alloc (.cells #[.int .i64 r] 3)) n w1.heap.size [r] (.slice (some ⟨w1.heap.size + 1, 0, none⟩) 1 1) [r] := by
  have h0 := Row.made w1 (B := w1.heap.size) (Nat.le_refl _) n hn
  have h1 := h0.put (i := r) (by simpa using hr) 1
  rw [World.setCell_alloc_new] at h1
  have h2 : (List.replicate n 0).set r 1 = (List.range n).map (mt [r]) := by
    have : List.replicate n 0 = (List.range n).map fun _ => 0 := by simp [List.map_const']
    rw [this, map_set]
    apply List.map_congr_left
    intro v _
    show upf (fun _ => 0) r 1 v = if v ∈ [r] then 1 else 0
    unfold upf
    simp
  rw [h2] at h1
  have h3 : Row ((w1.alloc (.cells ((madeCells #[.int .i64 0] n).setIfInBounds r (.int .i64 1)) 3)).alloc (.cells #[.int .i64 r] 3)) w1.heap.size (.slice (some ⟨w1.heap.size + 1, 0, none⟩) 1 1) [r] := by
    have := Row.one (w := w1.alloc (.cells ((madeCells #[.int .i64 0] n).setIfInBounds r (.int .i64 1)) 3)) (B := w1.heap.size) (by simp) r
    simpa using this
  refine ⟨Own.alloc h1 _, h3, by simp [Value.ownBlock], below_alloc (below_alloc (Below.refl _ _) _) _⟩
set_option maxRecDepth 100000 in
set_option maxHeartbeats 1000000 in
theorem reachN_any (n0 : Int) (A : Option Addr) (c : Nat) (l : List (Int × Int)) (n : Nat) (hN : max 0 (min n0 2000) = (n : Int)) (f : Int) (w : World) (hl : Edges w A c l) :
    Calls Try.prog 13 #[.int .i64 n0, .slice A l.length c, .int .i64 f] w fun e w' => ∃ (out : List Nat) (B : Option Addr) (d : Nat), e = .returned (.slice B out.length d) ∧ IntsN w.heap.size w' B d out ∧ out = reachV n (vE n l) f ∧ Below w.heap.size w w' := by
  have HL := Lib.hid hl
  have hn2 : n ≤ 2000 := by omega
  clear hl
  by_cases h1 : f < 0
  · have hd : decide (f < 0) = true := decide_eq_true h1
    have HV := Lib.hid (show [] = reachV n (vE n l) f by unfold reachV; rw [if_neg (by omega)])
    clear h1
    go_enter Try.func13, Try.ntmps13
    go_wp2_with fail
    refine (build_any n0 A c l n hN w HL.out).mono ?_
    rintro e w1 ⟨gb, rfl, hG, hgl, hb1⟩
    clear hG
    go_wp2
    go_ret
    exact ⟨[], none, 0, rfl, ⟨Slc.nil_ (Nat.zero_le _), fun a ha => by cases ha⟩, HV.out, hb1⟩
  · by_cases h2 : (n : Int) ≤ f
    · have hd : decide (f < 0) = false := decide_eq_false h1
      have hd2 : decide ((n : Int) ≤ f) = true := decide_eq_true h2
      have HV := Lib.hid (show [] = reachV n (vE n l) f by unfold reachV; rw [if_neg (by omega)])
      clear h1 h2
      go_enter Try.func13, Try.ntmps13
      go_wp2_with fail
      refine (build_any n0 A c l n hN w HL.out).mono ?_
      rintro e w1 ⟨gb, rfl, hG, hgl, hb1⟩
      clear hG
      go_wp2
      go_ret
      exact ⟨[], none, 0, rfl, ⟨Slc.nil_ (Nat.zero_le _), fun a ha => by cases ha⟩, HV.out, hb1⟩
    · obtain ⟨r, rfl⟩ : ∃ r : Nat, f = (r : Int) := ⟨f.toNat, by omega⟩
      have hrn : r < n := by omega
      have hmk := run_make_row' (P := Try.prog) 26 3 (.int .i64 0) 8 Try.underlying26 infNat rfl .i64 .i64 n (by omega) (by omega)
      have hd : decide ((r : Int) < 0) = false := decide_eq_false h1
      have hd2 : decide ((n : Int) ≤ (r : Int)) = false := decide_eq_false h2
      have hd3 : decide (n ≤ r) = false := decide_eq_false (by omega)
      have hf0 : (0 : Int) ≤ (r : Int) := by omega
      have hf1 : (r : Int) < (n : Int) := by omega
      have hft : ((r : Int)).toNat = r := Int.toNat_natCast _
      clear h1 h2
      go_enter Try.func13, Try.ntmps13
      go_wp2_with fail
      refine (build_any n0 A c l n hN w HL.out).mono ?_
      rintro e w1 ⟨gb, rfl, hG, hgl, hb1⟩
      have HG := Lib.hid hG
      have HB1 := Lib.hid hb1
      clear hG hb1 hgl
      have hR0 := Row.made w1 (B := w1.heap.size) (Nat.le_refl _) n (by unfold maxLen; omega)
      have cM : (w1.alloc (.cells (madeCells #[.int .i64 0] n) 3)).cell? ⟨w1.heap.size, r, none⟩ = some (.int .i64 0) := Row.cell (x := 0) hR0 (by simp [hrn])
      have fM := Row.frz hR0 r
      go_wp2_with fail
      clear cM fM hR0 hmk
      have HS0 := Lib.hid (rs0 (w1 := w1) (n := n) (r := r) (by unfold maxLen; omega) hrn)
      have HE := Lib.hid (vE_in n l)
      obtain ⟨adj, hadj⟩ : ∃ adj, adj = adjE (vE n l) := ⟨_, rfl⟩
      have HADJ := Lib.hid hadj
      rw [← hadj] at HG
      have HAL := Lib.hid (fun v x (h : x ∈ adj v) => adj_lt HE.out v x (hadj ▸ h))
      clear hadj
      obtain ⟨GA, GC, hGB, hGR⟩ := HG.out
      have HGB := Lib.hid hGB
      have HGR := Lib.hid hGR
      clear hGB hGR HG
      obtain ⟨mb, hmb⟩ : ∃ mb, mb = w1.heap.size := ⟨_, rfl⟩
      have HS1 := Lib.hid (show RS w1 ((w1.alloc (.cells ((madeCells #[.int .i64 0] n).setIfInBounds r (.int .i64 1)) 3)).alloc (.cells #[.int .i64 r] 3)) n mb [r] (.slice (some ⟨w1.heap.size + 1, 0, none⟩) 1 1) [r] by rw [hmb]; exact HS0.out)
      clear HS0
      rw [← hmb]
      have HMB := Lib.hid hmb
      clear hmb
      go_loopw [9, 10] (fun ov iv wr => ∃ (i : Nat) (q : List Nat) (cap g : Nat), iv = .int .i64 i ∧ ov = .slice (some ⟨g, 0, none⟩) q.length cap ∧ RI n adj r q i ∧ RS w1 wr n mb q ov q) (fun _ iv _ => n - (intOf iv).toNat)
      case atStart => exact ⟨0, [r], 1, mb + 1, rfl, rfl, ri0 hrn, by have := HS1.out; rw [← HMB.out] at this; exact this⟩
      case round =>
        clear HS1
        obtain ⟨i, q, cap, g, rfl, rfl, hri, hrs⟩ := hrel
        have hil := hri.le
        have hqn := hri.len
        have HRI := Lib.hid hri
        have HRS := Lib.hid hrs
        clear hri hrs
        by_cases hlt : i < q.length
        · obtain ⟨u, hu⟩ : ∃ u, q[i]? = some u := ⟨_, List.getElem?_eq_getElem hlt⟩
          have hun := (HRI.out.rch u (List.mem_of_getElem? hu)).1
          have hqc := Row.cell HRS.out.out hu
          have hgc := Kept.of_below HRS.out.below _ _ ((HGB.out.cell u).trans (arr_get hun))
          have HU := Lib.hid hu
          have hi0 : (0 : Int) ≤ (i : Int) := Int.natCast_nonneg _
          have hi1 : (i : Int) < (q.length : Int) := by omega
          have hit : ((i : Int)).toNat = i := Int.toNat_natCast _
          have hu0 : (0 : Int) ≤ (u : Int) := Int.natCast_nonneg _
          have hu1 : (u : Int) < (n : Int) := by omega
          have hut : ((u : Int)).toNat = u := Int.toNat_natCast _
          have hbdG := (HGR.out u hun).bd
          have HR := Lib.hid (HGR.out u hun)
          obtain ⟨ga, hga⟩ : ∃ ga, ga = GA u := ⟨_, rfl⟩
          rw [← hga] at HR hgc
          clear hu hga
          go_wp2_with fail
          clear hqc hgc hi0 hi1 hit hu0 hu1 hut
          go_loopw [9, 46] (fun ov ev wi => ∃ (e : Nat) (q' : List Nat) (cap' g' : Nat), e ≤ (adj u).length ∧ ev = .int .i64 e ∧ ov = .slice (some ⟨g', 0, none⟩) q'.length cap' ∧ RI n adj r q' i ∧ q'[i]? = some u ∧ (∀ x ∈ (adj u).take e, x ∈ q') ∧ RS w1 wi n mb q' ov q') (fun _ ev _ => (adj u).length - (intOf ev).toNat)
          case atStart => exact ⟨0, q, cap, g, Nat.zero_le _, rfl, rfl, HRI.out, HU.out, by simp, HRS.out⟩
          case round =>
            clear HRI HRS HU
            obtain ⟨e, q', cap', g', he, rfl, rfl, hri, hu, hall, hrs⟩ := hrel
            have hqn' := hri.len
            have HRI := Lib.hid hri
            have HU := Lib.hid hu
            have HALL := Lib.hid hall
            have HRS := Lib.hid hrs
            clear hri hu hall hrs
            by_cases hel : e < (adj u).length
            · obtain ⟨x, bA, oA, hx, rfl, hxc⟩ := Ints.at_ HR.out hel (Kept.of_below HRS.out.below)
              have hxn := HAL.out u x (List.mem_of_getElem? hx)
              have HX := Lib.hid hx
              have he0 : (0 : Int) ≤ (e : Int) := Int.natCast_nonneg _
              have he1 : (e : Int) < ((adj u).length : Int) := by omega
              have het : ((e : Int)).toNat = e := Int.toNat_natCast _
              have hx0 : (0 : Int) ≤ (x : Int) := Int.natCast_nonneg _
              have hx1 : (x : Int) < (n : Int) := by omega
              have hxt : ((x : Int)).toNat = x := Int.toNat_natCast _
              clear hx
              by_cases hxq : x ∈ q'
              · have hm1 : mt q' x = 1 := by unfold mt; rw [if_pos hxq]
                have hmc : wr.cell? ⟨mb, x, none⟩ = some (.int .i64 1) := by have := HRS.out.at_ hxn; rw [hm1] at this; exact this
                have HXQ := Lib.hid hxq
                clear hxq hm1
                go_wp2_with fail
                go_roundw
                case rel => exact ⟨e + 1, q', cap', g', by omega, by simp, rfl, HRI.out, HU.out, fun y hy => by rw [take_step HX.out] at hy; rcases List.mem_append.1 hy with h | h; exact HALL.out y h; rw [List.mem_singleton.1 h]; exact HXQ.out, HRS.out⟩
                case measure => (try simp only [intOf]); omega
              · have hm1 : mt q' x = 0 := by unfold mt; rw [if_neg hxq]
                have hmc : wr.cell? ⟨mb, x, none⟩ = some (.int .i64 0) := by have := HRS.out.at_ hxn; rw [hm1] at this; exact this
                have HXQ := Lib.hid hxq
                have fM := Row.frz HRS.out.met x
                have H4 := HRS.out.put hxn
                have hz4 : (World.setCell wr ⟨mb, x, none⟩ (.int .i64 1)).heap.size = wr.heap.size := by simp [World.setCell]
                have HRI2 := Lib.hid (HRI.out.push HU.out (List.mem_of_getElem? HX.out) hxn hxq)
                clear hxq hm1
                go_wp2_with (at_builtin; generalize World.setCell wr _ _ = W4 at H4 hz4 ⊢; refine list_row (by rfl) _ _ 26 (by rfl) Try.underlying26 w1.heap.size _ q' (by rfl) (H4.alloc _).out x wr.heap.size 1 (by rfl) (by rw [← hz4]; exact blk_new1 _ _ _) (by omega) (by have := H4.below.size; simp; omega) ?_; intro g2 cap2 w5 ho5 hg5 hat5; have HS5 := Lib.hid ((H4.alloc _).app ho5 hg5 hat5); clear ho5 hg5 hat5 H4 hz4)
                go_roundw
                case rel => exact ⟨e + 1, q' ++ [x], cap2, g2, by omega, by simp, by simp, HRI2.out, by rw [List.getElem?_append_left (List.getElem?_eq_some_iff.1 HU.out).1]; exact HU.out, fun y hy => by rw [take_step HX.out] at hy; rcases List.mem_append.1 hy with h | h; exact List.mem_append_left _ (HALL.out y h); exact List.mem_append_right _ h, HS5.out⟩
                case measure => (try simp only [intOf]); omega
            · have hall : ∀ x ∈ adj u, x ∈ q' := by
                have := HALL.out
                rw [List.take_of_length_le (by omega)] at this
                exact this
              have HRI2 := Lib.hid (HRI.out.next HU.out hall)
              clear hall
              go_wp2_with fail
              go_roundw
              case rel => exact ⟨i + 1, q', cap', g', by simp, rfl, HRI2.out, HRS.out⟩
              case measure => (try simp only [intOf]); omega
        · have hqi : i = q.length := by omega
          have hT := HRI.out
          rw [HADJ.out] at hT
          have HT := Lib.hid (hT.told HE.out hrn hqi)
          have HNE := Lib.hid (show q ≠ [] from fun h => by have := HRI.out.st; rw [h] at this; cases this)
          clear hT
          go_wp2_with fail
          refine (sortRow HRS.out.out HNE.out (by omega) HRS.out.below).mono ?_
          rintro e w6 ⟨rfl, hrow, hb6⟩
          obtain ⟨A6, c6, hv6, hs6⟩ := Row.newN hrow (by rw [srtN_len]; omega)
          have hv6' := hv6
          injection hv6' with e1 e2 e3
          have HS6 := Lib.hid (show IntsN w.heap.size w6 A6 c6 (srtN q) from hs6.base HB1.out.size)
          have HB6 := Lib.hid (below_next HB1.out hb6)
          have HV6 := Lib.hid hv6
          clear hrow hs6 hb6 hv6 e2 e1 e3
          go_wp2_with fail
          go_ret
          exact ⟨srtN q, A6, c6, by rw [HV6.out]; rfl, HS6.out, HT.out, HB6.out⟩
theorem reach_any (n0 : Int) (A : Option Addr) (c : Nat) (l : List (Int × Int)) (n : Nat) (hN : max 0 (min n0 2000) = (n : Int)) (f : Int) (w : World) (hl : Edges w A c l) :
    Calls Try.prog 13 #[.int .i64 n0, .slice A l.length c, .int .i64 f] w fun e w' => ∃ (out : List Nat) (B : Option Addr) (d : Nat), e = .returned (.slice B out.length d) ∧ Ints w' B d out ∧ out = reachV n (vE n l) f ∧ Below w.heap.size w w' :=
  (reachN_any n0 A c l n hN f w hl).mono fun _ _ ⟨out, B, d, h1, h2, h3, h4⟩ => ⟨out, B, d, h1, h2.1, h3, h4⟩
end Go.Proofs.Ytodhianmaogfpaa
