/- The contract of text.Good, for any text: the first place at which it is no good one. -/
import Derived.Test.YtcbomomlojhghaaDoorReqA
import Derived.Test.YtcbomomlojhghaaDoorPk
import Derived.Test.YtcbomomlojhghaaDoorWd
import Derived.Lib.OthersKept
namespace Go.Proofs.YtcbomomlojhghaaDoor
set_option linter.unusedSimpArgs false
set_option linter.unusedVariables false
open Go.RowKit
theorem tabs_kept {g3 g4 : Nat} {w w' : World} (h : Lib.Utf8Tabs g3 g4 w) (hk : Kept w w') : Lib.Utf8Tabs g3 g4 w' := ⟨fun c hc => hk _ _ (h.1 c hc), fun i hi => ⟨hk _ _ (h.2 i hi).1, hk _ _ (h.2 i hi).2⟩⟩
def decA (l : List UInt8) (p : Nat) : Nat × Nat := Utf8.decode (bs l) p
theorem decA_wide (l : List UInt8) (p : Nat) : 1 ≤ (decA l p).2 := by
  unfold decA
  rw [decode_bs]
  rcases Lib.decodeN_cases (l.length - p) (l.getD p 0).toNat (l.getD (p + 1) 0).toNat (l.getD (p + 2) 0).toNat (l.getD (p + 3) 0).toNat with ⟨_, h⟩ | ⟨_, _, _, _, h⟩ | ⟨_, _, _, _, _, h⟩ | ⟨_, h⟩ | h
  · rw [h]; simp
  · rw [h]; simp
  · rw [h]; simp
  · rw [h]; simp
  · rw [h]; simp
theorem getD_drop (l : List UInt8) (p k : Nat) : (l.drop p).getD k 0 = l.getD (p + k) 0 := by simp [List.getD, List.getElem?_drop]
theorem dec_drop {l : List UInt8} {p : Nat} (h : p < l.length) : Lib.decodeGo (bs (l.drop p)) = decA l p := by
  unfold Lib.decodeGo decA
  rw [if_neg (by show (l.drop p).length ≠ 0; rw [List.length_drop]; omega), decode_bs, decode_bs, List.length_drop, getD_drop, getD_drop, getD_drop, getD_drop]
  rfl
def badR (d : Nat × Nat) : Bool := (d.1 == 65533 && d.2 == 1) || (decide (d.1 < 32) && !(d.1 == 9)) || d.1 == 127
/-- the first place that is no good one, from p on; -1: none -/
def goodN (l : List UInt8) : Nat → Nat → Int
  | 0, _ => -1
  | f + 1, p => if l.length ≤ p then -1 else if badR (decA l p) then (p : Int) else goodN l f (p + (decA l p).2)
def goodI (l : List UInt8) : Int := goodN l (l.length + 1) 0
theorem below_iterAt {B : Nat} {a w : World} (h : Below B a w) {k : Nat} (hk : B ≤ k) (s : ByteArray) (p : Nat) : Below B a (w.iterAt k s p) := h.trans ⟨rfl, rfl, rfl, by simp [World.iterAt], fun j hj => by
  simp only [World.iterAt]
  rw [Array.getElem?_setIfInBounds_ne (by omega)]⟩
set_option maxRecDepth 100000 in
set_option maxHeartbeats 2000000 in
theorem goodG_any (l : List UInt8) (hl : l.length ≤ 140737488351232) (w : World) (hT : Lib.Utf8Tabs 0 1 w) :
    Calls Tryd.prog 62 #[.string (bs l)] w fun e w' => e = .returned (.int .i64 (goodI l)) ∧ Below w.heap.size w w' := by
  have HT := Lib.hid hT
  obtain ⟨G, hG⟩ : ∃ G, G = goodI l := ⟨_, rfl⟩
  rw [← hG]
  have HG := Lib.hid (show G = goodN l (l.length + 1) 0 from hG)
  clear hG hT
  go_enter Tryd.func62, Tryd.ntmps62
  go_wp2
  go_loopw [3] (fun _ w' => ∃ (p f : Nat), l.length + 1 ≤ f + p ∧ G = goodN l f p ∧ w'.heap[w.heap.size]? = some (.stringIter (bs l) p) ∧ Below w.heap.size w w') (fun _ w' => l.length - w'.iterPos w.heap.size)
  case atStart => exact ⟨0, l.length + 1, Nat.le_refl _, HG.out, by show (w.heap.push _)[w.heap.size]? = _; simp, iter_below _ _ _⟩
  case round =>
    obtain ⟨p, f, hf, hg, hit, hb⟩ := hrel
    have HG := Lib.hid hg
    have HIT := Lib.hid hit
    have HB := Lib.hid hb
    have hpos : wr.iterPos w.heap.size = p := by simp [World.iterPos, hit]
    clear hg hit hb
    by_cases hp : p < l.length
    · have hwd := decA_wide l p
      obtain ⟨⟨r, n⟩, hd⟩ : ∃ d, d = decA l p := ⟨_, rfl⟩
      rw [← hd] at hwd
      dsimp only at hwd
      have HD := Lib.hid hd.symm
      obtain ⟨f, rfl⟩ : ∃ g, f = g + 1 := ⟨f - 1, by omega⟩
      have hgo := HG.out
      rw [goodN, if_neg (by omega), ← hd] at hgo
      have HGO := Lib.hid hgo
      have hnx := fun ty => Lib.run_next_any_at (P := Tryd.prog) wr w.heap.size (bs l) p ty HIT.out hp
      rw [show Utf8.decode (bs l) p = (r, n) from hd.symm] at hnx
      dsimp only at hnx
      have HIW := Lib.hid (Lib.iterAt_heap wr w.heap.size (bs l) p (p + n) HIT.out)
      have HBW := Lib.hid (below_iterAt HB.out (Nat.le_refl _) (bs l) (p + n))
      clear hd hgo
      go_wp2_with fail
      have HQ := Lib.hid (Tryd.utf8_DecodeRuneInString (bs (l.drop p)) _ (tabs_kept HT.out (Kept.of_below HBW.out)))
      rw [dec_drop hp, HD.out] at HQ
      refine HQ.out.mono ?_
      rintro e w2 ⟨rfl, hb2⟩
      have HIT2 := Lib.hid (show w2.heap[w.heap.size]? = some (.stringIter (bs l) (p + n)) by rw [hb2.block w.heap.size (Array.getElem?_eq_some_iff.1 HIW.out).1]; exact HIW.out)
      have HB2 := Lib.hid (below_next HBW.out hb2)
      have hpos2 : w2.iterPos w.heap.size = p + n := by simp [World.iterPos, HIT2.out]
      clear hb2 HQ hnx HIW HBW HIT HB
      dsimp only
      rcases hbr : badR (r, n)
      · have HG2 := Lib.hid (show G = goodN l f (p + n) by rw [HGO.out, hbr]; rfl)
        unfold badR at hbr
        simp only [Bool.or_eq_false_iff, Bool.and_eq_false_iff, beq_eq_false_iff_ne, decide_eq_false_iff_not, Bool.not_eq_false', beq_iff_eq] at hbr
        obtain ⟨⟨h1, h2⟩, h3⟩ := hbr
        have e5 : decide ((r : Int) = 127) = false := decide_eq_false (by omega)
        have e5b : ((r : Int) == 127) = false := by rw [beq_eq_false_iff_ne]; omega
        have hcase : (r = 65533 ∧ n ≠ 1) ∨ (r ≠ 65533 ∧ 32 ≤ r) ∨ (r ≠ 65533 ∧ r < 32 ∧ r = 9) := by omega
        clear h1 h2 h3
        rcases hcase with ⟨g1, g2⟩ | ⟨g1, g2⟩ | ⟨g1, g2, g3⟩
        · have e1 : decide ((r : Int) = 65533) = true := decide_eq_true (by omega)
          have e1b : ((r : Int) == 65533) = true := by rw [beq_iff_eq]; omega
          have e2 : ((n : Int) == 1) = false := by rw [beq_eq_false_iff_ne]; omega
          have e2b : decide ((n : Int) = 1) = false := decide_eq_false (by omega)
          have e3 : decide ((r : Int) < 32) = false := decide_eq_false (by omega)
          clear g1 g2
          go_wp2
          go_roundw
          case rel => exact ⟨p + n, f, by omega, HG2.out, HIT2.out, HB2.out⟩
          case measure => rw [hpos2, hpos]; omega
        · have e1 : decide ((r : Int) = 65533) = false := decide_eq_false (by omega)
          have e1b : ((r : Int) == 65533) = false := by rw [beq_eq_false_iff_ne]; omega
          have e3 : decide ((r : Int) < 32) = false := decide_eq_false (by omega)
          clear g1 g2
          go_wp2
          go_roundw
          case rel => exact ⟨p + n, f, by omega, HG2.out, HIT2.out, HB2.out⟩
          case measure => rw [hpos2, hpos]; omega
        · have e1 : decide ((r : Int) = 65533) = false := decide_eq_false (by omega)
          have e1b : ((r : Int) == 65533) = false := by rw [beq_eq_false_iff_ne]; omega
          have e3 : decide ((r : Int) < 32) = true := decide_eq_true (by omega)
          have e4 : ((r : Int) != 9) = false := by rw [g3]; rfl
          clear g1 g2 g3
          go_wp2
          go_roundw
          case rel => exact ⟨p + n, f, by omega, HG2.out, HIT2.out, HB2.out⟩
          case measure => rw [hpos2, hpos]; omega
      · have HG2 := Lib.hid (show G = (p : Int) by rw [HGO.out, hbr]; rfl)
        unfold badR at hbr
        simp only [Bool.or_eq_true, Bool.and_eq_true, beq_iff_eq, decide_eq_true_eq, Bool.not_eq_true', beq_eq_false_iff_ne] at hbr
        have hcase : (r = 65533 ∧ n = 1) ∨ (r ≠ 65533 ∧ r < 32 ∧ r ≠ 9) ∨ r = 127 := by omega
        clear hbr
        rcases hcase with ⟨g1, g2⟩ | ⟨g1, g2, g3⟩ | g1
        · have e1 : decide ((r : Int) = 65533) = true := decide_eq_true (by omega)
          have e1b : ((r : Int) == 65533) = true := by rw [beq_iff_eq]; omega
          have e2 : ((n : Int) == 1) = true := by rw [beq_iff_eq]; omega
          have e2b : decide ((n : Int) = 1) = true := decide_eq_true (by omega)
          clear g1 g2
          go_wp2
          go_ret
          exact ⟨by rw [HG2.out]; rfl, HB2.out⟩
        · have e1 : decide ((r : Int) = 65533) = false := decide_eq_false (by omega)
          have e1b : ((r : Int) == 65533) = false := by rw [beq_eq_false_iff_ne]; omega
          have e3 : decide ((r : Int) < 32) = true := decide_eq_true (by omega)
          have e4 : ((r : Int) != 9) = true := by rw [bne_iff_ne]; omega
          clear g1 g2 g3
          go_wp2
          go_ret
          exact ⟨by rw [HG2.out]; rfl, HB2.out⟩
        · have e1 : decide ((r : Int) = 65533) = false := decide_eq_false (by omega)
          have e1b : ((r : Int) == 65533) = false := by rw [beq_eq_false_iff_ne]; omega
          have e3 : decide ((r : Int) < 32) = false := decide_eq_false (by omega)
          have e5 : decide ((r : Int) = 127) = true := decide_eq_true (by omega)
          have e5b : ((r : Int) == 127) = true := by rw [beq_iff_eq]; omega
          clear g1
          go_wp2
          go_ret
          exact ⟨by rw [HG2.out]; rfl, HB2.out⟩
    · have hnx := fun ty => Lib.run_next_end_at (P := Tryd.prog) wr w.heap.size (bs l) p ty HIT.out (by show ¬ p < l.length; exact hp)
      have HGE := Lib.hid (show G = -1 by
        rw [HG.out]
        rcases f with _ | f
        · rfl
        · rw [goodN, if_pos (by omega)])
      go_wp2
      go_ret
      exact ⟨by rw [HGE.out]; rfl, HB.out⟩
end Go.Proofs.YtcbomomlojhghaaDoor
