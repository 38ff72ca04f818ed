/- The contract of the reference's Good, for any text: the program's place. -/
import Derived.Test.YtcbomomlojhghaaDoorRgB
import Derived.Test.YtcbomomlojhghaaDoorSzP
namespace Go.Proofs.YtcbomomlojhghaaDoor
set_option linter.unusedSimpArgs false
set_option linter.unusedVariables false
open Go.RowKit
theorem sizeS_le (l : List UInt8) : sizeS l ≤ 4 := by
  unfold sizeS sizeF
  repeat' split
  all_goals omega
set_option maxRecDepth 100000 in
set_option maxHeartbeats 1000000 in
theorem rgood_any (l : List UInt8) (hl : l.length ≤ 1000000) (w : World) : Calls Tryd.prog 67 #[.string (bs l)] w fun e w' => e = .returned (.int .i64 (goodI l)) ∧ w = w' := by
  obtain ⟨G, hG⟩ : ∃ G, G = goodI l := ⟨_, rfl⟩
  rw [← hG]
  have HG := Lib.hid (show G = goodN l (l.length + 1) 0 from hG)
  clear hG
  go_enter Tryd.func67, Tryd.ntmps67
  go_wp2
  go_loopw [3] (fun i wr => ∃ (p f : Nat), l.length + 1 ≤ f + p ∧ p ≤ l.length + 4 ∧ i = .int .i64 p ∧ G = goodN l f p ∧ wr = w) (fun i _ => l.length - (intOf i).toNat)
  case atStart => exact ⟨0, l.length + 1, Nat.le_refl _, by omega, rfl, HG.out, rfl⟩
  case round =>
    obtain ⟨p, f, hf, hp4, rfl, hg, rfl⟩ := hrel
    have HG := Lib.hid hg
    clear hg
    by_cases hp : p < l.length
    · obtain ⟨f, rfl⟩ : ∃ g, f = g + 1 := ⟨f - 1, by omega⟩
      have hgo := HG.out
      rw [goodN, if_neg (by omega)] at hgo
      have hsb := size_bad hp
      have hs4 := sizeS_le (l.drop p)
      have HQ := Lib.hid (rsize_any (l[p]) (l.drop (p + 1)) wr)
      rw [← List.drop_eq_getElem_cons hp] at HQ
      rw [show l.getD p 0 = l[p] by rw [List.getD_eq_getElem?_getD, List.getElem?_eq_getElem hp]; rfl] at hsb
      have ix := fun W => ix_str l p hp W
      generalize sizeS (l.drop p) = s at HQ hsb hs4
      generalize l[p] = ch at hsb ix
      obtain ⟨hb1, hb2⟩ := hsb
      have HGO := Lib.hid hgo
      have HB1 := Lib.hid hb1
      have HB2 := Lib.hid hb2
      clear hgo hb1 hb2 HG
      go_wp2_with fail
      refine HQ.out.mono ?_
      rintro e w2 ⟨rfl, rfl⟩
      clear HQ
      dsimp only
      have hcl := ch.toNat_lt
      by_cases hs0 : s = 0
      · have e1 : ((s : Int) == 0) = true := by rw [beq_iff_eq]; omega
        have e2 : decide ((s : Int) = 0) = true := decide_eq_true (by omega)
        have HG2 := Lib.hid (show G = (p : Int) by rw [HGO.out, HB1.out, hs0]; rfl)
        go_wp2
        go_ret
        exact ⟨by rw [HG2.out]; rfl, rfl⟩
      · have e1 : ((s : Int) == 0) = false := by rw [beq_eq_false_iff_ne]; omega
        have e2 : decide ((s : Int) = 0) = false := decide_eq_false (by omega)
        have e9 : decide (s = 0) = false := decide_eq_false hs0
        have HB3 := Lib.hid (HB2.out hs0)
        by_cases h32 : ch.toNat < 32
        · have e3 : decide (ch.toNat < 32) = true := decide_eq_true h32
          have e3' : decide ((ch.toNat : Int) < 32) = true := decide_eq_true (by omega)
          by_cases h9 : ch.toNat = 9
          · have e4 : ((ch.toNat : Int) != 9) = false := by rw [h9]; rfl
            have e5 : ((ch.toNat : Int) == 127) = false := by rw [beq_eq_false_iff_ne]; omega
            have e6 : decide ((ch.toNat : Int) = 127) = false := decide_eq_false (by omega)
            have HG2 := Lib.hid (show G = goodN l f (p + s) by
              rw [HGO.out, HB1.out, e9, e3, decide_eq_true h9, show decide (ch.toNat = 127) = false from decide_eq_false (by omega), HB3.out]; rfl)
            go_wp2
            go_roundw
            case rel => exact ⟨p + s, f, by omega, by omega, by simp, HG2.out, by first | rfl | trivial⟩
            case measure => (try simp only [intOf]); omega
          · have e4 : ((ch.toNat : Int) != 9) = true := by rw [bne_iff_ne]; omega
            have HG2 := Lib.hid (show G = (p : Int) by
              rw [HGO.out, HB1.out, e9, e3, decide_eq_false h9]; rfl)
            go_wp2
            go_ret
            exact ⟨by rw [HG2.out]; rfl, rfl⟩
        · have e3 : decide (ch.toNat < 32) = false := decide_eq_false h32
          have e3' : decide ((ch.toNat : Int) < 32) = false := decide_eq_false (by omega)
          by_cases h7 : ch.toNat = 127
          · have e5 : ((ch.toNat : Int) == 127) = true := by rw [beq_iff_eq]; omega
            have e6 : decide ((ch.toNat : Int) = 127) = true := decide_eq_true (by omega)
            have HG2 := Lib.hid (show G = (p : Int) by
              rw [HGO.out, HB1.out, e9, e3, decide_eq_true h7]; rfl)
            go_wp2
            go_ret
            exact ⟨by rw [HG2.out]; rfl, rfl⟩
          · have e5 : ((ch.toNat : Int) == 127) = false := by rw [beq_eq_false_iff_ne]; omega
            have e6 : decide ((ch.toNat : Int) = 127) = false := decide_eq_false (by omega)
            have HG2 := Lib.hid (show G = goodN l f (p + s) by
              rw [HGO.out, HB1.out, e9, e3, decide_eq_false h7, HB3.out]; rfl)
            go_wp2
            go_roundw
            case rel => exact ⟨p + s, f, by omega, by omega, by simp, HG2.out, by first | rfl | trivial⟩
            case measure => (try simp only [intOf]); omega
    · have HGE := Lib.hid (show G = -1 by
        rw [HG.out]
        rcases f with _ | f
        · rfl
        · rw [goodN, if_pos (by omega)])
      go_wp2
      go_ret
      exact ⟨by rw [HGE.out]; rfl, rfl⟩
end Go.Proofs.YtcbomomlojhghaaDoor
