/- The law RequestParses. -/
import Derived.Test.YtcbomomlojhghaaDoorRgF
namespace Go.Proofs.YtcbomomlojhghaaDoor
set_option linter.unusedSimpArgs false
set_option linter.unusedVariables false
open Go.RowKit
attribute [local go_sem ↓] Go.wp_at_zero Go.wp_at_succ
set_option maxRecDepth 100000 in
theorem same17_any (l : List Stp) (A : Option Addr) (c : Nat) (A' : Option Addr) (c' : Nat) (w : World) (h1 : Stps w A c l) (h2 : Stps w A' c' l) :
    Calls Tryd.prog 17 #[.slice A l.length c, .slice A' l.length c'] w fun e w' => e = .returned (.bool true) ∧ Below w.heap.size w w' := by
  have H1 := Lib.hid h1
  have H2 := Lib.hid h2
  have hbd := Slc.bd h1
  clear h1 h2
  go_enter Tryd.func17, Tryd.ntmps17
  go_wp2
  go_loopw [13] (fun i wr => ∃ k : Nat, k ≤ l.length ∧ i = .int .i64 k ∧ Below w.heap.size w wr) (fun i _ => l.length - (intOf i).toNat)
  case atStart => exact ⟨0, Nat.zero_le _, rfl, Below.refl _ _⟩
  case round =>
    obtain ⟨k, hk, rfl, hb⟩ := hrel
    have HB := Lib.hid hb
    clear hb
    by_cases hlt : k < l.length
    · obtain ⟨⟨kd, nm, vr⟩, b, o, hst, rfl, e0, e1, e2⟩ := H1.out.at_ hlt (Kept.of_below HB.out)
      obtain ⟨st2, b2, o2, hst2, rfl, d0, d1, d2⟩ := H2.out.at_ hlt (Kept.of_below HB.out)
      obtain rfl : (⟨kd, nm, vr⟩ : Stp) = st2 := Option.some.inj (hst.symm.trans hst2)
      dsimp only at e0 e1 e2 d0 d1 d2
      clear hst hst2
      go_wp2
      go_quiet (fail)
      go_wp2
      go_roundw
      case rel => exact ⟨k + 1, by omega, by simp, by first | exact HB.out | exact below_drewN HB.out _⟩
      case measure => (try simp only [intOf]); omega
    · go_wp2
      go_ret
      exact ⟨rfl, HB.out⟩
set_option maxRecDepth 100000 in
set_option maxHeartbeats 1000000 in
theorem law_parses17 (A : Option Addr) (c : Nat) (l : List UInt8) (w : World) (hs : Bts w A c l) (hT : Lib.Utf8Tabs 0 1 w) :
    Calls Tryd.prog 4 #[.slice A l.length c] w fun e w' => e = .returned (.bool true) ∧ Below w.heap.size w w' := by
  have HQ1 := Lib.hid (qParseB_any l A c w hs hT)
  have HQ2 := Lib.hid (fun (W : World) (h : Below w.heap.size w W) => rAsks_any l A c W (hs.kept (Kept.of_below h)))
  obtain ⟨⟨L, E, i⟩, hr⟩ : ∃ r, r = parseR l := ⟨_, rfl⟩
  rw [← hr] at HQ1 HQ2
  clear hr hs hT
  go_enter Tryd.func4, Tryd.ntmps4
  go_wp2_with fail
  refine HQ1.out.mono ?_
  rintro e w1 ⟨A1, c1, rfl, hs1, hb1⟩
  have HB1 := Lib.hid (below_alloc hb1 (.cells #[.int .i64 E, .int .i64 i] 44))
  have K1 := Lib.hid (blk_new1 w1 44 #[.int .i64 E, .int .i64 i])
  have HS1 := Lib.hid (hs1.kept (Kept.alloc w1 (.cells #[.int .i64 E, .int .i64 i] 44)))
  clear hs1 hb1 HQ1
  dsimp only at HS1 ⊢
  go_wp2_with fail
  generalize w1.alloc (.cells #[.int .i64 E, .int .i64 i] 44) = W1 at HB1 K1 HS1 ⊢
  refine (HQ2.out _ HB1.out).mono ?_
  rintro e w2 ⟨A2, c2, rfl, hs2, hb2⟩
  have HB2 := Lib.hid (below_alloc (below_next HB1.out hb2) (.cells #[.int .i64 E, .int .i64 i] 44))
  have K1 := Lib.hid ((K1.out.next hb2).alloc (.cells #[.int .i64 E, .int .i64 i] 44))
  have K2 := Lib.hid (blk_new1 w2 44 #[.int .i64 E, .int .i64 i])
  have HS1 := Lib.hid ((HS1.out.kept (Kept.of_below hb2)).kept (Kept.alloc w2 (.cells #[.int .i64 E, .int .i64 i] 44)))
  have HS2 := Lib.hid (hs2.kept (Kept.alloc w2 (.cells #[.int .i64 E, .int .i64 i] 44)))
  clear hs2 hb2 HQ2
  dsimp only at HS2 ⊢
  go_wp2_with fail
  generalize hW : w2.alloc (.cells #[.int .i64 E, .int .i64 i] 44) = W2 at HB2 K1 K2 HS1 HS2 ⊢
  refine (same17_any L A1 c1 A2 c2 W2 HS1.out HS2.out).mono ?_
  rintro e w3 ⟨rfl, hb3⟩
  have HB3 := Lib.hid (below_next HB2.out hb3)
  have K1 := K1.out.next hb3
  have K2 := K2.out.next hb3
  have a0 := K1.cell 0
  have a1 := K1.cell 1
  have b0 := K2.cell 0
  have b1 := K2.cell 1
  simp only [List.getElem?_toArray, List.getElem?_cons_zero, List.getElem?_cons_succ] at a0 a1 b0 b1
  clear hb3 HB2 HB1 HS1 HS2
  go_wp2_with fail
  refine (awake17_any _).mono ?_
  rintro e w4 ⟨rfl, hb4⟩
  go_wp2
  go_ret
  exact ⟨rfl, below_next HB3.out hb4⟩
end Go.Proofs.YtcbomomlojhghaaDoor
