/- The contract of the reference's Parse of a step. -/
import Derived.Test.YtaicidbopgnmfaaGreatDoorDrD
namespace Go.Proofs.YtaicidbopgnmfaaGreatDoor
set_option linter.unusedSimpArgs false
set_option linter.unusedVariables false
open Go.RowKit
attribute [local go_sem ↓] Go.wp_at_zero Go.wp_at_succ
set_option maxRecDepth 100000 in
set_option maxHeartbeats 2000000 in
theorem rparseS_any (l : List UInt8) (hl : l.length ≤ 4294967296) (w : World) : Calls Tryz.prog 35 #[.string (bs l)] w (RetPS w (parseT l)) := by
  obtain ⟨G, hG⟩ : ∃ G, G = parseT l := ⟨_, rfl⟩
  rw [← hG]
  have HSH := Lib.hid (fun x (hx : x ∈ wordsS l) => show short x by
    have := words_short l [] x hx
    unfold short
    simp at this
    omega)
  have K0 := Lib.hid (blk_new1 w 24 #[.int .i64 0, .string (bs []), .string (bs [])])
  have HB0 := Lib.hid (below_alloc (Below.refl w.heap.size w) (.cells #[.int .i64 0, .string (bs []), .string (bs [])] 24))
  have HQ := Lib.hid (rwords_any l hl (w.alloc (.cells #[.int .i64 0, .string (bs []), .string (bs [])] 24)))
  obtain ⟨ws, hws⟩ : ∃ ws, ws = wordsS l := ⟨_, rfl⟩
  rw [← hws] at HQ HSH
  have HG := Lib.hid (show G = parseW ws by rw [hG, hws]; rfl)
  clear hG hws
  go_enter Tryz.func35, Tryz.ntmps35
  go_wp2_with fail
  refine HQ.out.mono ?_
  rintro e w1 ⟨A, c, rfl, hs, hb⟩
  have K0 := Lib.hid (K0.out.next hb)
  have HB := Lib.hid (below_next HB0.out hb)
  have HLT := Lib.hid (K0.out.lt)
  have HS0 := Lib.hid hs
  clear hs hb HQ HB0
  by_cases h23 : ws.length = 2 ∨ ws.length = 3
  · have HS := HS0
    have HSV0 := Lib.hid (show short [] by unfold short; simp)
    rcases ws with _ | ⟨a, _ | ⟨b, _ | ⟨v, _ | ⟨x, t⟩⟩⟩⟩
    · simp at h23
    · simp at h23
    · have HSB := Lib.hid (HSH.out b (by simp))
      have HSV := HSV0
      clear HSH h23 HS0
      obtain ⟨_, g, o, h0, rfl, _⟩ := HS.out.at_ (i := 0) (by simp) (Kept.refl _)
      obtain rfl := Option.some.inj h0
      clear h0
      go_wp2_with fail
      go_loopw [21] (fun i wr => ∃ k : Nat, k ≤ 5 ∧ i = .int .i64 k ∧ Below w1.heap.size w1 wr ∧ Blk wr w1.heap.size 24 #[.int .i64 (kwS k a), .string (bs []), .string (bs [])]) (fun i _ => 5 - (intOf i).toNat)
      case atStart => exact ⟨0, by omega, rfl, below_alloc (Below.refl _ _) _, blk_new1 _ _ _⟩
      case round =>
        obtain ⟨k, hk, rfl, hb, hB⟩ := hrel
        have HBw := Lib.hid hb
        have K5 := Lib.hid hB
        obtain ⟨_, g2, o2, h0, hA, e0⟩ := HS.out.at_ (i := 0) (by simp) (Kept.of_below HBw.out)
        obtain rfl := Option.some.inj h0
        obtain ⟨rfl, rfl⟩ : g = g2 ∧ o = o2 := by injection hA with hA; injection hA with h1 h2; exact ⟨h1, h2⟩
        rw [Nat.add_zero] at e0
        clear hb hB h0 hA
        have p0 := K5.out.cell 0
        have p1 := K5.out.cell 1
        have p2 := K5.out.cell 2
        simp only [List.getElem?_toArray, List.getElem?_cons_zero, List.getElem?_cons_succ] at p0 p1 p2
        have q0 := K5.out.frozen 0
        have q1 := K5.out.frozen 1
        have q2 := K5.out.frozen 2
        obtain rfl | rfl | rfl | rfl | rfl | rfl : k = 0 ∨ k = 1 ∨ k = 2 ∨ k = 3 ∨ k = 4 ∨ k = 5 := by omega
        · have hix := ix5_0
          go_wp2_with fail
          go_roundw
          case rel => exact ⟨1, by omega, rfl, HBw.out, by rw [kw_one]; exact K5.out⟩
          case measure => (try simp only [intOf]); omega
        · by_cases he : a = [100, 101, 99, 111, 110, 102, 105, 103, 117, 114, 101]
          · have HE := Lib.hid (show kwS (1 + 1) a = 1 by rw [kwS, if_pos (by rw [he]; decide)]; rfl)
            have heb : (a == [100, 101, 99, 111, 110, 102, 105, 103, 117, 114, 101]) = true := by simpa using he
            have hix := ix5_1
            clear he
            go_wp2_with fail
            go_roundw
            case rel => exact ⟨1 + 1, by omega, rfl, HBw.out.setCell (Nat.le_refl _) _, by rw [HE.out]; exact K5.out.set_ 0 _⟩
            case measure => (try simp only [intOf]); omega
          · have HE := Lib.hid (show kwS (1 + 1) a = kwS 1 a by rw [kwS, if_neg (fun e => he (by rw [← e]; decide))])
            have heb : (a == [100, 101, 99, 111, 110, 102, 105, 103, 117, 114, 101]) = false := by simpa using he
            have hix := ix5_1
            clear he
            go_wp2_with fail
            go_roundw
            case rel => exact ⟨1 + 1, by omega, rfl, HBw.out, by rw [HE.out]; exact K5.out⟩
            case measure => (try simp only [intOf]); omega
        · by_cases he : a = [114, 101, 109, 111, 118, 101]
          · have HE := Lib.hid (show kwS (2 + 1) a = 2 by rw [kwS, if_pos (by rw [he]; decide)]; rfl)
            have heb : (a == [114, 101, 109, 111, 118, 101]) = true := by simpa using he
            have hix := ix5_2
            clear he
            go_wp2_with fail
            go_roundw
            case rel => exact ⟨2 + 1, by omega, rfl, HBw.out.setCell (Nat.le_refl _) _, by rw [HE.out]; exact K5.out.set_ 0 _⟩
            case measure => (try simp only [intOf]); omega
          · have HE := Lib.hid (show kwS (2 + 1) a = kwS 2 a by rw [kwS, if_neg (fun e => he (by rw [← e]; decide))])
            have heb : (a == [114, 101, 109, 111, 118, 101]) = false := by simpa using he
            have hix := ix5_2
            clear he
            go_wp2_with fail
            go_roundw
            case rel => exact ⟨2 + 1, by omega, rfl, HBw.out, by rw [HE.out]; exact K5.out⟩
            case measure => (try simp only [intOf]); omega
        · by_cases he : a = [117, 110, 112, 97, 99, 107]
          · have HE := Lib.hid (show kwS (3 + 1) a = 3 by rw [kwS, if_pos (by rw [he]; decide)]; rfl)
            have heb : (a == [117, 110, 112, 97, 99, 107]) = true := by simpa using he
            have hix := ix5_3
            clear he
            go_wp2_with fail
            go_roundw
            case rel => exact ⟨3 + 1, by omega, rfl, HBw.out.setCell (Nat.le_refl _) _, by rw [HE.out]; exact K5.out.set_ 0 _⟩
            case measure => (try simp only [intOf]); omega
          · have HE := Lib.hid (show kwS (3 + 1) a = kwS 3 a by rw [kwS, if_neg (fun e => he (by rw [← e]; decide))])
            have heb : (a == [117, 110, 112, 97, 99, 107]) = false := by simpa using he
            have hix := ix5_3
            clear he
            go_wp2_with fail
            go_roundw
            case rel => exact ⟨3 + 1, by omega, rfl, HBw.out, by rw [HE.out]; exact K5.out⟩
            case measure => (try simp only [intOf]); omega
        · by_cases he : a = [99, 111, 110, 102, 105, 103, 117, 114, 101]
          · have HE := Lib.hid (show kwS (4 + 1) a = 4 by rw [kwS, if_pos (by rw [he]; decide)]; rfl)
            have heb : (a == [99, 111, 110, 102, 105, 103, 117, 114, 101]) = true := by simpa using he
            have hix := ix5_4
            clear he
            go_wp2_with fail
            go_roundw
            case rel => exact ⟨4 + 1, by omega, rfl, HBw.out.setCell (Nat.le_refl _) _, by rw [HE.out]; exact K5.out.set_ 0 _⟩
            case measure => (try simp only [intOf]); omega
          · have HE := Lib.hid (show kwS (4 + 1) a = kwS 4 a by rw [kwS, if_neg (fun e => he (by rw [← e]; decide))])
            have heb : (a == [99, 111, 110, 102, 105, 103, 117, 114, 101]) = false := by simpa using he
            have hix := ix5_4
            clear he
            go_wp2_with fail
            go_roundw
            case rel => exact ⟨4 + 1, by omega, rfl, HBw.out, by rw [HE.out]; exact K5.out⟩
            case measure => (try simp only [intOf]); omega
        · have K0 := Lib.hid (K0.out.next HBw.out)
          have HB := Lib.hid (below_next HB.out HBw.out)
          have hg5 : w.heap.size ≠ w1.heap.size := by have := HLT.out; omega
          have HL1 := HLT
          obtain ⟨_, g3, o3, h0, hA, e1⟩ := HS.out.at_ (i := 1) (by simp) (Kept.of_below HBw.out)
          obtain rfl := Option.some.inj h0
          obtain ⟨rfl, rfl⟩ : g = g3 ∧ o = o3 := by injection hA with hA; injection hA with h1 h2; exact ⟨h1, h2⟩
          clear h0 hA e0
          have c0 := K0.out.cell 0
          have c1 := K0.out.cell 1
          have c2 := K0.out.cell 2
          simp only [List.getElem?_toArray, List.getElem?_cons_zero, List.getElem?_cons_succ] at c0 c1 c2
          have f0 := K0.out.frozen 0
          have f1 := K0.out.frozen 1
          have f2 := K0.out.frozen 2
          have hsz := K0.out.lt
          go_wp2_with fail
          obtain ⟨W, hW⟩ : ∃ W : World, W = wr.setCell ⟨w1.heap.size, 1, none⟩ (.string (bs b)) := ⟨_, rfl⟩
          have K5 := Lib.hid (show Blk W w1.heap.size 24 #[.int .i64 (kindW a), .string (bs b), .string (bs [])] by rw [hW]; exact K5.out.set_ 1 _)
          have K0 := Lib.hid (show Blk W w.heap.size 24 #[.int .i64 0, .string (bs []), .string (bs [])] by rw [hW]; exact K0.out.far hg5 _)
          have HB := Lib.hid (show Below w.heap.size w W by rw [hW]; exact HB.out.setCell (Nat.le_of_lt HL1.out) _)
          rw [← hW]
          clear hW HBw p0 p1 p2 q0 q1 q2 e1
          have HQ := Lib.hid (rtext_any (kindW a) b [] W HSB.out HSV.out)
          refine HQ.out.mono ?_
          rintro e w6 ⟨rfl, hb6⟩
          have K06 := Lib.hid (K0.out.next hb6)
          have K56 := Lib.hid (K5.out.next hb6)
          have HB6 := Lib.hid (below_next HB.out hb6)
          clear hb6 HQ c0 c1 c2 f0 f1 f2 hsz
          have c0 := K06.out.cell 0
          have c1 := K06.out.cell 1
          have c2 := K06.out.cell 2
          simp only [List.getElem?_toArray, List.getElem?_cons_zero, List.getElem?_cons_succ] at c0 c1 c2
          have f0 := K06.out.frozen 0
          have f1 := K06.out.frozen 1
          have f2 := K06.out.frozen 2
          have hsz := K06.out.lt
          have g0 := K56.out.cell 0
          have g1 := K56.out.cell 1
          have g2 := K56.out.cell 2
          simp only [List.getElem?_toArray, List.getElem?_cons_zero, List.getElem?_cons_succ] at g0 g1 g2
          rcases hm : mayT ⟨kindW a, b, []⟩
          · have HG := Lib.hid (HG.out.trans (parse2_no hm))
            have HT := Lib.hid (textT_no hm)
            clear hm
            rw [HT.out]
            go_wp2
            refine bodyPost_ret (v := .tuple #[.agg #[.int .i64 0, .string (bs []), .string (bs [])], .int .i64 3]) (by simp [results, Tryz.results35, go_sem, c0, c1, c2, hsz]; try rfl) rfl ?_
            have hb0 := HB6.out
            exact ⟨by rw [HG.out], ((hb0.setCell (Nat.le_refl _) _).setCell (Nat.le_refl _) _).setCell (Nat.le_refl _) _⟩
          · have HG := Lib.hid (HG.out.trans (parse2_yes hm))
            have htn : textT ⟨kindW a, b, []⟩ ≠ [] := fun e => by rw [(textT_nil _).1 e] at hm; cases hm
            obtain ⟨T, hT⟩ : ∃ T, T = textT ⟨kindW a, b, []⟩ := ⟨_, rfl⟩
            rw [← hT] at htn ⊢
            have hTb : T.isEmpty = false := by simpa using htn
            have hTb2 : (T == []) = false := by simpa using htn
            clear hm hT htn
            go_wp2
            refine bodyPost_ret (v := .tuple #[.agg #[.int .i64 (kindW a), .string (bs b), .string (bs [])], .int .i64 0]) (by simp [results, Tryz.results35, go_sem, c0, c1, c2, hsz]; try rfl) rfl ?_
            have hb0 := HB6.out
            exact ⟨by rw [HG.out], ((hb0.setCell (Nat.le_refl _) _).setCell (Nat.le_refl _) _).setCell (Nat.le_refl _) _⟩
    · have HSB := Lib.hid (HSH.out b (by simp))
      have HSV := Lib.hid (HSH.out v (by simp))
      clear HSH h23 HS0
      obtain ⟨_, g, o, h0, rfl, _⟩ := HS.out.at_ (i := 0) (by simp) (Kept.refl _)
      obtain rfl := Option.some.inj h0
      clear h0
      go_wp2_with fail
      go_loopw [21] (fun i wr => ∃ k : Nat, k ≤ 5 ∧ i = .int .i64 k ∧ Below w1.heap.size w1 wr ∧ Blk wr w1.heap.size 24 #[.int .i64 (kwS k a), .string (bs []), .string (bs [])]) (fun i _ => 5 - (intOf i).toNat)
      case atStart => exact ⟨0, by omega, rfl, below_alloc (Below.refl _ _) _, blk_new1 _ _ _⟩
      case round =>
        obtain ⟨k, hk, rfl, hb, hB⟩ := hrel
        have HBw := Lib.hid hb
        have K5 := Lib.hid hB
        obtain ⟨_, g2, o2, h0, hA, e0⟩ := HS.out.at_ (i := 0) (by simp) (Kept.of_below HBw.out)
        obtain rfl := Option.some.inj h0
        obtain ⟨rfl, rfl⟩ : g = g2 ∧ o = o2 := by injection hA with hA; injection hA with h1 h2; exact ⟨h1, h2⟩
        rw [Nat.add_zero] at e0
        clear hb hB h0 hA
        have p0 := K5.out.cell 0
        have p1 := K5.out.cell 1
        have p2 := K5.out.cell 2
        simp only [List.getElem?_toArray, List.getElem?_cons_zero, List.getElem?_cons_succ] at p0 p1 p2
        have q0 := K5.out.frozen 0
        have q1 := K5.out.frozen 1
        have q2 := K5.out.frozen 2
        obtain rfl | rfl | rfl | rfl | rfl | rfl : k = 0 ∨ k = 1 ∨ k = 2 ∨ k = 3 ∨ k = 4 ∨ k = 5 := by omega
        · have hix := ix5_0
          go_wp2_with fail
          go_roundw
          case rel => exact ⟨1, by omega, rfl, HBw.out, by rw [kw_one]; exact K5.out⟩
          case measure => (try simp only [intOf]); omega
        · by_cases he : a = [100, 101, 99, 111, 110, 102, 105, 103, 117, 114, 101]
          · have HE := Lib.hid (show kwS (1 + 1) a = 1 by rw [kwS, if_pos (by rw [he]; decide)]; rfl)
            have heb : (a == [100, 101, 99, 111, 110, 102, 105, 103, 117, 114, 101]) = true := by simpa using he
            have hix := ix5_1
            clear he
            go_wp2_with fail
            go_roundw
            case rel => exact ⟨1 + 1, by omega, rfl, HBw.out.setCell (Nat.le_refl _) _, by rw [HE.out]; exact K5.out.set_ 0 _⟩
            case measure => (try simp only [intOf]); omega
          · have HE := Lib.hid (show kwS (1 + 1) a = kwS 1 a by rw [kwS, if_neg (fun e => he (by rw [← e]; decide))])
            have heb : (a == [100, 101, 99, 111, 110, 102, 105, 103, 117, 114, 101]) = false := by simpa using he
            have hix := ix5_1
            clear he
            go_wp2_with fail
            go_roundw
            case rel => exact ⟨1 + 1, by omega, rfl, HBw.out, by rw [HE.out]; exact K5.out⟩
            case measure => (try simp only [intOf]); omega
        · by_cases he : a = [114, 101, 109, 111, 118, 101]
          · have HE := Lib.hid (show kwS (2 + 1) a = 2 by rw [kwS, if_pos (by rw [he]; decide)]; rfl)
            have heb : (a == [114, 101, 109, 111, 118, 101]) = true := by simpa using he
            have hix := ix5_2
            clear he
            go_wp2_with fail
            go_roundw
            case rel => exact ⟨2 + 1, by omega, rfl, HBw.out.setCell (Nat.le_refl _) _, by rw [HE.out]; exact K5.out.set_ 0 _⟩
            case measure => (try simp only [intOf]); omega
          · have HE := Lib.hid (show kwS (2 + 1) a = kwS 2 a by rw [kwS, if_neg (fun e => he (by rw [← e]; decide))])
            have heb : (a == [114, 101, 109, 111, 118, 101]) = false := by simpa using he
            have hix := ix5_2
            clear he
            go_wp2_with fail
            go_roundw
            case rel => exact ⟨2 + 1, by omega, rfl, HBw.out, by rw [HE.out]; exact K5.out⟩
            case measure => (try simp only [intOf]); omega
        · by_cases he : a = [117, 110, 112, 97, 99, 107]
          · have HE := Lib.hid (show kwS (3 + 1) a = 3 by rw [kwS, if_pos (by rw [he]; decide)]; rfl)
            have heb : (a == [117, 110, 112, 97, 99, 107]) = true := by simpa using he
            have hix := ix5_3
            clear he
            go_wp2_with fail
            go_roundw
            case rel => exact ⟨3 + 1, by omega, rfl, HBw.out.setCell (Nat.le_refl _) _, by rw [HE.out]; exact K5.out.set_ 0 _⟩
            case measure => (try simp only [intOf]); omega
          · have HE := Lib.hid (show kwS (3 + 1) a = kwS 3 a by rw [kwS, if_neg (fun e => he (by rw [← e]; decide))])
            have heb : (a == [117, 110, 112, 97, 99, 107]) = false := by simpa using he
            have hix := ix5_3
            clear he
            go_wp2_with fail
            go_roundw
            case rel => exact ⟨3 + 1, by omega, rfl, HBw.out, by rw [HE.out]; exact K5.out⟩
            case measure => (try simp only [intOf]); omega
        · by_cases he : a = [99, 111, 110, 102, 105, 103, 117, 114, 101]
          · have HE := Lib.hid (show kwS (4 + 1) a = 4 by rw [kwS, if_pos (by rw [he]; decide)]; rfl)
            have heb : (a == [99, 111, 110, 102, 105, 103, 117, 114, 101]) = true := by simpa using he
            have hix := ix5_4
            clear he
            go_wp2_with fail
            go_roundw
            case rel => exact ⟨4 + 1, by omega, rfl, HBw.out.setCell (Nat.le_refl _) _, by rw [HE.out]; exact K5.out.set_ 0 _⟩
            case measure => (try simp only [intOf]); omega
          · have HE := Lib.hid (show kwS (4 + 1) a = kwS 4 a by rw [kwS, if_neg (fun e => he (by rw [← e]; decide))])
            have heb : (a == [99, 111, 110, 102, 105, 103, 117, 114, 101]) = false := by simpa using he
            have hix := ix5_4
            clear he
            go_wp2_with fail
            go_roundw
            case rel => exact ⟨4 + 1, by omega, rfl, HBw.out, by rw [HE.out]; exact K5.out⟩
            case measure => (try simp only [intOf]); omega
        · have K0 := Lib.hid (K0.out.next HBw.out)
          have HB := Lib.hid (below_next HB.out HBw.out)
          have hg5 : w.heap.size ≠ w1.heap.size := by have := HLT.out; omega
          have HL1 := HLT
          obtain ⟨_, g3, o3, h0, hA, e1⟩ := HS.out.at_ (i := 1) (by simp) (Kept.of_below HBw.out)
          obtain rfl := Option.some.inj h0
          obtain ⟨rfl, rfl⟩ : g = g3 ∧ o = o3 := by injection hA with hA; injection hA with h1 h2; exact ⟨h1, h2⟩
          clear h0 hA e0
          obtain ⟨_, g4, o4, h0, hA, e2⟩ := HS.out.at_ (i := 2) (by simp) (Kept.of_below HBw.out)
          obtain rfl := Option.some.inj h0
          obtain ⟨rfl, rfl⟩ : g = g4 ∧ o = o4 := by injection hA with hA; injection hA with h1 h2; exact ⟨h1, h2⟩
          have e3 : (wr.setCell ⟨w1.heap.size, 1, none⟩ (.string (bs b))).cell? ⟨g, o + 2, none⟩ = some (.string (bs v)) := by
            obtain ⟨_, g5, o5, h5, hA5, e5⟩ := HS.out.at_ (i := 2) (by simp) (Kept.of_below (HBw.out.setCell (p := ⟨w1.heap.size, 1, none⟩) (Nat.le_refl _) (.string (bs b))))
            obtain rfl := Option.some.inj h5
            obtain ⟨rfl, rfl⟩ : g = g5 ∧ o = o5 := by injection hA5 with hA; injection hA with h1 h2; exact ⟨h1, h2⟩
            exact e5
          clear h0 hA
          have c0 := K0.out.cell 0
          have c1 := K0.out.cell 1
          have c2 := K0.out.cell 2
          simp only [List.getElem?_toArray, List.getElem?_cons_zero, List.getElem?_cons_succ] at c0 c1 c2
          have f0 := K0.out.frozen 0
          have f1 := K0.out.frozen 1
          have f2 := K0.out.frozen 2
          have hsz := K0.out.lt
          go_wp2_with fail
          obtain ⟨W, hW⟩ : ∃ W : World, W = (wr.setCell ⟨w1.heap.size, 1, none⟩ (.string (bs b))).setCell ⟨w1.heap.size, 2, none⟩ (.string (bs v)) := ⟨_, rfl⟩
          have K5 := Lib.hid (show Blk W w1.heap.size 24 #[.int .i64 (kindW a), .string (bs b), .string (bs v)] by rw [hW]; exact (K5.out.set_ 1 _).set_ 2 _)
          have K0 := Lib.hid (show Blk W w.heap.size 24 #[.int .i64 0, .string (bs []), .string (bs [])] by rw [hW]; exact (K0.out.far hg5 _).far hg5 _)
          have HB := Lib.hid (show Below w.heap.size w W by rw [hW]; exact (HB.out.setCell (Nat.le_of_lt HL1.out) _).setCell (Nat.le_of_lt HL1.out) _)
          rw [← hW]
          clear hW HBw p0 p1 p2 q0 q1 q2 e1 e2 e3
          have HQ := Lib.hid (rtext_any (kindW a) b v W HSB.out HSV.out)
          refine HQ.out.mono ?_
          rintro e w6 ⟨rfl, hb6⟩
          have K06 := Lib.hid (K0.out.next hb6)
          have K56 := Lib.hid (K5.out.next hb6)
          have HB6 := Lib.hid (below_next HB.out hb6)
          clear hb6 HQ c0 c1 c2 f0 f1 f2 hsz
          have c0 := K06.out.cell 0
          have c1 := K06.out.cell 1
          have c2 := K06.out.cell 2
          simp only [List.getElem?_toArray, List.getElem?_cons_zero, List.getElem?_cons_succ] at c0 c1 c2
          have f0 := K06.out.frozen 0
          have f1 := K06.out.frozen 1
          have f2 := K06.out.frozen 2
          have hsz := K06.out.lt
          have g0 := K56.out.cell 0
          have g1 := K56.out.cell 1
          have g2 := K56.out.cell 2
          simp only [List.getElem?_toArray, List.getElem?_cons_zero, List.getElem?_cons_succ] at g0 g1 g2
          rcases hm : mayT ⟨kindW a, b, v⟩
          · have HG := Lib.hid (HG.out.trans (parse3_no hm))
            have HT := Lib.hid (textT_no hm)
            clear hm
            rw [HT.out]
            go_wp2
            refine bodyPost_ret (v := .tuple #[.agg #[.int .i64 0, .string (bs []), .string (bs [])], .int .i64 3]) (by simp [results, Tryz.results35, go_sem, c0, c1, c2, hsz]; try rfl) rfl ?_
            have hb0 := HB6.out
            exact ⟨by rw [HG.out], ((hb0.setCell (Nat.le_refl _) _).setCell (Nat.le_refl _) _).setCell (Nat.le_refl _) _⟩
          · have HG := Lib.hid (HG.out.trans (parse3_yes hm))
            have htn : textT ⟨kindW a, b, v⟩ ≠ [] := fun e => by rw [(textT_nil _).1 e] at hm; cases hm
            obtain ⟨T, hT⟩ : ∃ T, T = textT ⟨kindW a, b, v⟩ := ⟨_, rfl⟩
            rw [← hT] at htn ⊢
            have hTb : T.isEmpty = false := by simpa using htn
            have hTb2 : (T == []) = false := by simpa using htn
            clear hm hT htn
            go_wp2
            refine bodyPost_ret (v := .tuple #[.agg #[.int .i64 (kindW a), .string (bs b), .string (bs v)], .int .i64 0]) (by simp [results, Tryz.results35, go_sem, c0, c1, c2, hsz]; try rfl) rfl ?_
            have hb0 := HB6.out
            exact ⟨by rw [HG.out], ((hb0.setCell (Nat.le_refl _) _).setCell (Nat.le_refl _) _).setCell (Nat.le_refl _) _⟩
    · simp at h23
  · have HG := Lib.hid (HG.out.trans (parseW_bad (by omega)))
    obtain ⟨n, hn⟩ : ∃ n, n = ws.length := ⟨_, rfl⟩
    rw [← hn]
    by_cases h2 : n < 2
    · have h2 : decide ((n : Int) < 2) = true := decide_eq_true (by omega)
      clear h23 hn HSH HS0
      have c0 := fun (o : Obj) => (K0.out.alloc o).cell 0
      have c1 := fun (o : Obj) => (K0.out.alloc o).cell 1
      have c2 := fun (o : Obj) => (K0.out.alloc o).cell 2
      simp only [List.getElem?_toArray, List.getElem?_cons_zero, List.getElem?_cons_succ] at c0 c1 c2
      have f0 := fun (o : Obj) => (K0.out.alloc o).frozen 0
      have f1 := fun (o : Obj) => (K0.out.alloc o).frozen 1
      have f2 := fun (o : Obj) => (K0.out.alloc o).frozen 2
      have hsz := fun (o : Obj) => (K0.out.alloc o).lt
      have HBA := Lib.hid (fun (o : Obj) => below_alloc HB.out o)
      go_wp2
      refine bodyPost_ret (v := .tuple #[.agg #[.int .i64 0, .string (bs []), .string (bs [])], .int .i64 3]) (by simp [results, Tryz.results35, go_sem, c0, c1, c2, hsz]; try rfl) rfl ?_
      have hb0 := HBA.out
      exact ⟨by rw [HG.out], (((hb0 _).setCell (Nat.le_refl _) _).setCell (Nat.le_refl _) _).setCell (Nat.le_refl _) _⟩
    · have h3 : decide (3 < (n : Int)) = true := decide_eq_true (by omega)
      have h2 : decide ((n : Int) < 2) = false := decide_eq_false (by omega)
      clear h23 hn HSH HS0
      have c0 := fun (o : Obj) => (K0.out.alloc o).cell 0
      have c1 := fun (o : Obj) => (K0.out.alloc o).cell 1
      have c2 := fun (o : Obj) => (K0.out.alloc o).cell 2
      simp only [List.getElem?_toArray, List.getElem?_cons_zero, List.getElem?_cons_succ] at c0 c1 c2
      have f0 := fun (o : Obj) => (K0.out.alloc o).frozen 0
      have f1 := fun (o : Obj) => (K0.out.alloc o).frozen 1
      have f2 := fun (o : Obj) => (K0.out.alloc o).frozen 2
      have hsz := fun (o : Obj) => (K0.out.alloc o).lt
      have HBA := Lib.hid (fun (o : Obj) => below_alloc HB.out o)
      go_wp2
      refine bodyPost_ret (v := .tuple #[.agg #[.int .i64 0, .string (bs []), .string (bs [])], .int .i64 3]) (by simp [results, Tryz.results35, go_sem, c0, c1, c2, hsz]; try rfl) rfl ?_
      have hb0 := HBA.out
      exact ⟨by rw [HG.out], (((hb0 _).setCell (Nat.le_refl _) _).setCell (Nat.le_refl _) _).setCell (Nat.le_refl _) _⟩
end Go.Proofs.YtaicidbopgnmfaaGreatDoor
