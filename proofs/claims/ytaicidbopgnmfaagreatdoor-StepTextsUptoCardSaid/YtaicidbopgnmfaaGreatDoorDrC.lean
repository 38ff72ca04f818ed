/- The contract of step.Parse. -/
import Derived.Test.YtaicidbopgnmfaaGreatDoorDrP
import Derived.Test.YtaicidbopgnmfaaGreatDoorWdA
namespace Go.Proofs.YtaicidbopgnmfaaGreatDoor
set_option linter.unusedSimpArgs false
set_option linter.unusedVariables false
open Go.RowKit
attribute [local go_sem ↓] Go.wp_at_zero Go.wp_at_succ
/-- a step and an error returned -/
def RetPS (w : World) (r : Stp × Int) (e : Ending) (w' : World) : Prop := e = .returned (.tuple #[.agg #[.int .i64 r.1.kind, .string (bs r.1.name), .string (bs r.1.ver)], .int .i64 r.2]) ∧ Below w.heap.size w w'
theorem parseW_bad {ws : List (List UInt8)} (h : ws.length ≠ 2 ∧ ws.length ≠ 3) : parseW ws = (⟨0, [], []⟩, 3) := by
  match ws, h with
  | [], _ => rfl
  | [_], _ => rfl
  | [_, _], h => exact absurd rfl h.1
  | [_, _, _], h => exact absurd rfl h.2
  | _ :: _ :: _ :: _ :: _, _ => rfl
theorem parse2_no {a b : List UInt8} (h : mayT ⟨kindW a, b, []⟩ = false) : parseW [a, b] = (⟨0, [], []⟩, 3) := by unfold parseW; dsimp only; rw [h]; rfl
theorem parse2_yes {a b : List UInt8} (h : mayT ⟨kindW a, b, []⟩ = true) : parseW [a, b] = (⟨kindW a, b, []⟩, 0) := by unfold parseW; dsimp only; rw [h]; rfl
theorem parse3_no {a b v : List UInt8} (h : mayT ⟨kindW a, b, v⟩ = false) : parseW [a, b, v] = (⟨0, [], []⟩, 3) := by unfold parseW; dsimp only; rw [h]; rfl
theorem parse3_yes {a b v : List UInt8} (h : mayT ⟨kindW a, b, v⟩ = true) : parseW [a, b, v] = (⟨kindW a, b, v⟩, 0) := by unfold parseW; dsimp only; rw [h]; rfl
set_option maxRecDepth 100000 in
set_option maxHeartbeats 2000000 in
theorem parseS_any (l : List UInt8) (hl : l.length ≤ 4294967296) (w : World) : Calls Tryz.prog 34 #[.string (bs l)] w (RetPS w (parseT l)) := by
  obtain ⟨G, hG⟩ : ∃ G, G = parseT l := ⟨_, rfl⟩
  rw [← hG]
  have HSH := Lib.hid (fun x (hx : x ∈ wordsS l) => show short x by
    have := words_short l [] x hx
    unfold short
    simp at this
    omega)
  have K0 := Lib.hid (blk_new1 w 24 #[.int .i64 0, .string (bs []), .string (bs [])])
  have HB0 := Lib.hid (below_alloc (Below.refl w.heap.size w) (.cells #[.int .i64 0, .string (bs []), .string (bs [])] 24))
  have HQ := Lib.hid (words_any l hl (w.alloc (.cells #[.int .i64 0, .string (bs []), .string (bs [])] 24)))
  obtain ⟨ws, hws⟩ : ∃ ws, ws = wordsS l := ⟨_, rfl⟩
  rw [← hws] at HQ HSH
  have HG := Lib.hid (show G = parseW ws by rw [hG, hws]; rfl)
  clear hG hws
  go_enter Tryz.func34, Tryz.ntmps34
  go_wp2_with fail
  refine HQ.out.mono ?_
  rintro e w1 ⟨A, c, rfl, hs, hb⟩
  have K0 := Lib.hid (K0.out.next hb)
  have HB := Lib.hid (below_next HB0.out hb)
  have HS := Lib.hid hs
  have HLT := Lib.hid (K0.out.lt)
  clear hs hb HQ HB0
  by_cases h23 : ws.length = 2 ∨ ws.length = 3
  · rcases ws with _ | ⟨a, _ | ⟨b, _ | ⟨v, _ | ⟨x, t⟩⟩⟩⟩
    · simp at h23
    · simp at h23
    · have HSB := Lib.hid (HSH.out b (by simp))
      clear HSH h23
      obtain ⟨_, g, o, h0, rfl, e0⟩ := HS.out.at_ (i := 0) (by simp) (Kept.refl _)
      obtain rfl := Option.some.inj h0
      obtain ⟨_, g', o', h1, hA, e1⟩ := HS.out.at_ (i := 1) (by simp) (Kept.refl _)
      obtain rfl := Option.some.inj h1
      obtain ⟨rfl, rfl⟩ : g = g' ∧ o = o' := by injection hA with hA; injection hA with h1 h2; exact ⟨h1, h2⟩
      clear h0 h1 hA
      go_wp2
      clear e1
      go_loopw [6] (fun i wr => ∃ k : Nat, k ≤ 5 ∧ i = .int .i64 k ∧ Below w1.heap.size w1 wr ∧ Blk wr w1.heap.size 24 #[.int .i64 (kwS k a), .string (bs b), .string (bs [])]) (fun i _ => 5 - (intOf i).toNat)
      case atStart => exact ⟨1, by omega, rfl, below_alloc (Below.refl _ _) _, by rw [kw_one]; exact blk_new1 _ _ _⟩
      case round =>
        clear e0
        obtain ⟨k, hk, rfl, hb, hB⟩ := hrel
        have HBw := Lib.hid hb
        have K5 := Lib.hid hB
        have fz := fun n => (hB.drewN n).frozen 0
        have p0 := hB.cell 0
        simp only [List.getElem?_toArray, List.getElem?_cons_zero, List.getElem?_cons_succ] at p0
        obtain ⟨_, g2, o2, h0, hA, e0⟩ := HS.out.at_ (i := 0) (by simp) (Kept.of_below HBw.out)
        obtain rfl := Option.some.inj h0
        obtain ⟨rfl, rfl⟩ : g = g2 ∧ o = o2 := by injection hA with hA; injection hA with h1 h2; exact ⟨h1, h2⟩
        rw [Nat.add_zero] at e0
        clear hb hB h0 hA
        by_cases hk5 : k < 5
        · have hkd : decide ((k : Int) ≤ 4) = true := decide_eq_true (by omega)
          by_cases he : wordS (k : Int) = a
          · have HE := Lib.hid (show kwS (k + 1) a = k by rw [kwS, if_pos he])
            have heb : (wordS (k : Int) == a) = true := by simpa using he
            clear he
            go_wp2_with fail
            go_quiet ((go_at_call 56; exact Calls.quiet_of_same ((word_any k _).mono fun _ _ h => ⟨h.1, h.2.symm⟩)))
            go_wp2
            go_roundw
            case rel => exact ⟨k + 1, by omega, by simp, (below_drewN HBw.out _).setCell (Nat.le_refl _) _, by rw [HE.out]; exact (K5.out.drewN _).set_ 0 _⟩
            case measure => (try simp only [intOf]); omega
          · have HE := Lib.hid (show kwS (k + 1) a = kwS k a by rw [kwS, if_neg he])
            have heb : (wordS (k : Int) == a) = false := by simpa using he
            clear he
            go_wp2_with fail
            go_quiet ((go_at_call 56; exact Calls.quiet_of_same ((word_any k _).mono fun _ _ h => ⟨h.1, h.2.symm⟩)))
            go_wp2
            go_roundw
            case rel => exact ⟨k + 1, by omega, by simp, below_drewN HBw.out _, by rw [HE.out]; exact K5.out.drewN _⟩
            case measure => (try simp only [intOf]); omega
        · obtain rfl : k = 5 := by omega
          clear hk hk5
          have K5 := Lib.hid (show Blk wr w1.heap.size 24 #[.int .i64 (kindW a), .string (bs b), .string (bs [])] from K5.out)
          have K0 := Lib.hid (K0.out.next HBw.out)
          have HB := Lib.hid (below_next HB.out HBw.out)
          have hg5 : w.heap.size ≠ w1.heap.size := by have := HLT.out; omega
          obtain ⟨W, hW⟩ : ∃ W : World, W = wr := ⟨_, rfl⟩
          subst hW
          clear e0 fz p0 HBw
          have c0 := K0.out.cell 0
          have c1 := K0.out.cell 1
          have c2 := K0.out.cell 2
          simp only [List.getElem?_toArray, List.getElem?_cons_zero, List.getElem?_cons_succ] at c0 c1 c2
          have f0 := K0.out.frozen 0
          have f1 := K0.out.frozen 1
          have f2 := K0.out.frozen 2
          have hsz := K0.out.lt
          have g0 := K5.out.cell 0
          have g1 := K5.out.cell 1
          have g2 := K5.out.cell 2
          simp only [List.getElem?_toArray, List.getElem?_cons_zero, List.getElem?_cons_succ] at g0 g1 g2
          go_wp2_with fail
          clear g0 g1 g2
          have HQ := Lib.hid (mayT_any (kindW a) b [] W HSB.out)
          refine HQ.out.mono ?_
          rintro e w6 ⟨rfl, hb6⟩
          have K06 := Lib.hid (K0.out.next hb6)
          have K56 := Lib.hid (K5.out.next hb6)
          have HB6 := Lib.hid (below_next HB.out hb6)
          clear hb6 HQ c0 c1 c2 f0 f1 f2 hsz
          have c0 := K06.out.cell 0
          have c1 := K06.out.cell 1
          have c2 := K06.out.cell 2
          simp only [List.getElem?_toArray, List.getElem?_cons_zero, List.getElem?_cons_succ] at c0 c1 c2
          have f0 := K06.out.frozen 0
          have f1 := K06.out.frozen 1
          have f2 := K06.out.frozen 2
          have hsz := K06.out.lt
          have g0 := K56.out.cell 0
          have g1 := K56.out.cell 1
          have g2 := K56.out.cell 2
          simp only [List.getElem?_toArray, List.getElem?_cons_zero, List.getElem?_cons_succ] at g0 g1 g2
          rcases hm : mayT ⟨kindW a, b, []⟩
          · have HG := Lib.hid (HG.out.trans (parse2_no hm))
            clear hm
            go_wp2
            refine bodyPost_ret (v := .tuple #[.agg #[.int .i64 0, .string (bs []), .string (bs [])], .int .i64 3]) (by simp [results, Tryz.results34, go_sem, c0, c1, c2, hsz]; rfl) rfl ?_
            have hb0 := HB6.out
            exact ⟨by rw [HG.out], ((hb0.setCell (Nat.le_refl _) _).setCell (Nat.le_refl _) _).setCell (Nat.le_refl _) _⟩
          · have HG := Lib.hid (HG.out.trans (parse2_yes hm))
            clear hm
            go_wp2
            refine bodyPost_ret (v := .tuple #[.agg #[.int .i64 (kindW a), .string (bs b), .string (bs [])], .int .i64 0]) (by simp [results, Tryz.results34, go_sem, c0, c1, c2, hsz]; try rfl) rfl ?_
            have hb0 := HB6.out
            exact ⟨by rw [HG.out], ((hb0.setCell (Nat.le_refl _) _).setCell (Nat.le_refl _) _).setCell (Nat.le_refl _) _⟩
    · have HSB := Lib.hid (HSH.out b (by simp))
      clear HSH h23
      obtain ⟨_, g, o, h0, rfl, e0⟩ := HS.out.at_ (i := 0) (by simp) (Kept.refl _)
      obtain rfl := Option.some.inj h0
      obtain ⟨_, g', o', h1, hA, e1⟩ := HS.out.at_ (i := 1) (by simp) (Kept.refl _)
      obtain rfl := Option.some.inj h1
      obtain ⟨rfl, rfl⟩ : g = g' ∧ o = o' := by injection hA with hA; injection hA with h1 h2; exact ⟨h1, h2⟩
      clear h0 h1 hA
      go_wp2
      clear e1
      go_loopw [6] (fun i wr => ∃ k : Nat, k ≤ 5 ∧ i = .int .i64 k ∧ Below w1.heap.size w1 wr ∧ Blk wr w1.heap.size 24 #[.int .i64 (kwS k a), .string (bs b), .string (bs [])]) (fun i _ => 5 - (intOf i).toNat)
      case atStart => exact ⟨1, by omega, rfl, below_alloc (Below.refl _ _) _, by rw [kw_one]; exact blk_new1 _ _ _⟩
      case round =>
        clear e0
        obtain ⟨k, hk, rfl, hb, hB⟩ := hrel
        have HBw := Lib.hid hb
        have K5 := Lib.hid hB
        have fz := fun n => (hB.drewN n).frozen 0
        have p0 := hB.cell 0
        simp only [List.getElem?_toArray, List.getElem?_cons_zero, List.getElem?_cons_succ] at p0
        obtain ⟨_, g2, o2, h0, hA, e0⟩ := HS.out.at_ (i := 0) (by simp) (Kept.of_below HBw.out)
        obtain rfl := Option.some.inj h0
        obtain ⟨rfl, rfl⟩ : g = g2 ∧ o = o2 := by injection hA with hA; injection hA with h1 h2; exact ⟨h1, h2⟩
        rw [Nat.add_zero] at e0
        clear hb hB h0 hA
        by_cases hk5 : k < 5
        · have hkd : decide ((k : Int) ≤ 4) = true := decide_eq_true (by omega)
          by_cases he : wordS (k : Int) = a
          · have HE := Lib.hid (show kwS (k + 1) a = k by rw [kwS, if_pos he])
            have heb : (wordS (k : Int) == a) = true := by simpa using he
            clear he
            go_wp2_with fail
            go_quiet ((go_at_call 56; exact Calls.quiet_of_same ((word_any k _).mono fun _ _ h => ⟨h.1, h.2.symm⟩)))
            go_wp2
            go_roundw
            case rel => exact ⟨k + 1, by omega, by simp, (below_drewN HBw.out _).setCell (Nat.le_refl _) _, by rw [HE.out]; exact (K5.out.drewN _).set_ 0 _⟩
            case measure => (try simp only [intOf]); omega
          · have HE := Lib.hid (show kwS (k + 1) a = kwS k a by rw [kwS, if_neg he])
            have heb : (wordS (k : Int) == a) = false := by simpa using he
            clear he
            go_wp2_with fail
            go_quiet ((go_at_call 56; exact Calls.quiet_of_same ((word_any k _).mono fun _ _ h => ⟨h.1, h.2.symm⟩)))
            go_wp2
            go_roundw
            case rel => exact ⟨k + 1, by omega, by simp, below_drewN HBw.out _, by rw [HE.out]; exact K5.out.drewN _⟩
            case measure => (try simp only [intOf]); omega
        · obtain rfl : k = 5 := by omega
          clear hk hk5
          have K5 := Lib.hid (show Blk wr w1.heap.size 24 #[.int .i64 (kindW a), .string (bs b), .string (bs [])] from K5.out)
          have K0 := Lib.hid (K0.out.next HBw.out)
          have HB := Lib.hid (below_next HB.out HBw.out)
          have hg5 : w.heap.size ≠ w1.heap.size := by have := HLT.out; omega
          obtain ⟨_, g3, o3, h0, hA, e2⟩ := HS.out.at_ (i := 2) (by simp) (Kept.of_below HBw.out)
          obtain rfl := Option.some.inj h0
          obtain ⟨rfl, rfl⟩ : g = g3 ∧ o = o3 := by injection hA with hA; injection hA with h1 h2; exact ⟨h1, h2⟩
          clear h0 hA e0 fz p0
          have fz2 := K5.out.frozen 2
          have c0 := K0.out.cell 0
          have c1 := K0.out.cell 1
          have c2 := K0.out.cell 2
          simp only [List.getElem?_toArray, List.getElem?_cons_zero, List.getElem?_cons_succ] at c0 c1 c2
          have f0 := K0.out.frozen 0
          have f1 := K0.out.frozen 1
          have f2 := K0.out.frozen 2
          have hsz := K0.out.lt
          have g0 := K5.out.cell 0
          have g1 := K5.out.cell 1
          have g2 := K5.out.cell 2
          simp only [List.getElem?_toArray, List.getElem?_cons_zero, List.getElem?_cons_succ] at g0 g1 g2
          go_wp2_with fail
          obtain ⟨W, hW⟩ : ∃ W : World, W = wr.setCell ⟨w1.heap.size, 2, none⟩ (.string (bs v)) := ⟨_, rfl⟩
          have K5 := Lib.hid (show Blk W w1.heap.size 24 #[.int .i64 (kindW a), .string (bs b), .string (bs v)] by rw [hW]; exact K5.out.set_ 2 _)
          have K0 := Lib.hid (show Blk W w.heap.size 24 #[.int .i64 0, .string (bs []), .string (bs [])] by rw [hW]; exact K0.out.far hg5 _)
          have HB := Lib.hid (show Below w.heap.size w W by rw [hW]; exact HB.out.setCell (Nat.le_of_lt HLT.out) _)
          rw [← hW]
          clear hW HBw fz2 e2 g0 g1 g2
          have HQ := Lib.hid (mayT_any (kindW a) b v W HSB.out)
          refine HQ.out.mono ?_
          rintro e w6 ⟨rfl, hb6⟩
          have K06 := Lib.hid (K0.out.next hb6)
          have K56 := Lib.hid (K5.out.next hb6)
          have HB6 := Lib.hid (below_next HB.out hb6)
          clear hb6 HQ c0 c1 c2 f0 f1 f2 hsz
          have c0 := K06.out.cell 0
          have c1 := K06.out.cell 1
          have c2 := K06.out.cell 2
          simp only [List.getElem?_toArray, List.getElem?_cons_zero, List.getElem?_cons_succ] at c0 c1 c2
          have f0 := K06.out.frozen 0
          have f1 := K06.out.frozen 1
          have f2 := K06.out.frozen 2
          have hsz := K06.out.lt
          have g0 := K56.out.cell 0
          have g1 := K56.out.cell 1
          have g2 := K56.out.cell 2
          simp only [List.getElem?_toArray, List.getElem?_cons_zero, List.getElem?_cons_succ] at g0 g1 g2
          rcases hm : mayT ⟨kindW a, b, v⟩
          · have HG := Lib.hid (HG.out.trans (parse3_no hm))
            clear hm
            go_wp2
            refine bodyPost_ret (v := .tuple #[.agg #[.int .i64 0, .string (bs []), .string (bs [])], .int .i64 3]) (by simp [results, Tryz.results34, go_sem, c0, c1, c2, hsz]; rfl) rfl ?_
            have hb0 := HB6.out
            exact ⟨by rw [HG.out], ((hb0.setCell (Nat.le_refl _) _).setCell (Nat.le_refl _) _).setCell (Nat.le_refl _) _⟩
          · have HG := Lib.hid (HG.out.trans (parse3_yes hm))
            clear hm
            go_wp2
            refine bodyPost_ret (v := .tuple #[.agg #[.int .i64 (kindW a), .string (bs b), .string (bs v)], .int .i64 0]) (by simp [results, Tryz.results34, go_sem, c0, c1, c2, hsz]; try rfl) rfl ?_
            have hb0 := HB6.out
            exact ⟨by rw [HG.out], ((hb0.setCell (Nat.le_refl _) _).setCell (Nat.le_refl _) _).setCell (Nat.le_refl _) _⟩
    · simp at h23
  · have HG := Lib.hid (HG.out.trans (parseW_bad (by omega)))
    obtain ⟨n, hn⟩ : ∃ n, n = ws.length := ⟨_, rfl⟩
    rw [← hn]
    have h2 : ((n : Int) != 2) = true := by rw [bne_iff_ne]; omega
    have h3 : ((n : Int) != 3) = true := by rw [bne_iff_ne]; omega
    clear h23 hn HSH HS
    have c0 := K0.out.cell 0
    have c1 := K0.out.cell 1
    have c2 := K0.out.cell 2
    simp only [List.getElem?_toArray, List.getElem?_cons_zero, List.getElem?_cons_succ] at c0 c1 c2
    have f0 := K0.out.frozen 0
    have f1 := K0.out.frozen 1
    have f2 := K0.out.frozen 2
    have hsz := K0.out.lt
    go_wp2
    refine bodyPost_ret (v := .tuple #[.agg #[.int .i64 0, .string (bs []), .string (bs [])], .int .i64 3]) (by simp [results, Tryz.results34, go_sem, c0, c1, c2, hsz]; rfl) rfl ?_
    have hb0 := HB.out
    exact ⟨by rw [HG.out], ((hb0.setCell (Nat.le_refl _) _).setCell (Nat.le_refl _) _).setCell (Nat.le_refl _) _⟩
end Go.Proofs.YtaicidbopgnmfaaGreatDoor
