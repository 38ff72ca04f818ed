/- The contract of text.Lines at the bytes of layer 17's awake: its two lines. -/
import Derived.Test.YtcbomomlojhghaaDoorSpA
import Derived.Laws.BytesArg
import Derived.Lib.SlBytesConst
namespace Go.Proofs.YtcbomomlojhghaaDoor
set_option linter.unusedSimpArgs false
set_option linter.unusedVariables false
open Go.RowKit
attribute [local go_sem ↓] Go.wp_at_zero Go.wp_at_succ
def askN : List Int := askT.map fun x => (x.toNat : Int)
/-- the text's bytes lie in a block -/
def BytesAt (w : World) (b : Nat) : Prop := ∀ i, i < 23 → w.cell? ⟨b, 0 + i, none⟩ = some (.int .u8 (askN.getD i 0))
theorem conv_ask {W : World} {b c : Nat} (h : BytesAt W b) : (Go.convert 41 9 (.slice (some ⟨b, 0, none⟩) 23 c)).run Tryd.prog W = .ok (.string (bs askT)) W := by
  have h1 := run_convert_bytes_arg (P := Tryd.prog) W 41 5 Tryd.underlying41 (by kernel_rfl) b 0 23 c askN (by decide) h 9 Tryd.underlying9
  rw [show strOfNums askN = bs askT by decide] at h1
  exact h1
set_option maxRecDepth 100000 in
set_option maxHeartbeats 800000 in
theorem lines_ask (b c : Nat) (w : World) (hc : BytesAt w b) :
    Calls Tryd.prog 38 #[.slice (some ⟨b, 0, none⟩) 23 c] w fun e w' => ∃ g, e = .returned (.tuple #[.slice (some ⟨g, 0, none⟩) 2 3, .agg #[.int .i64 0, .int .i64 0]]) ∧ Blk w' g 9 #[.string (bs askA), .string (bs askB), .string (bs [])] ∧ Below w.heap.size w w' := by
  have K0 := Lib.hid (blk_new1 w 44 #[.int .i64 0, .int .i64 0])
  have HB0 := Lib.hid (below_alloc (Below.refl w.heap.size w) (.cells #[.int .i64 0, .int .i64 0] 44))
  have HCV := Lib.hid (conv_ask (c := c) (W := w.alloc (.cells #[.int .i64 0, .int .i64 0] 44)) (b := b) fun i hi => Lib.cell?_alloc_marked _ (hc i hi))
  have HQ := Lib.hid (split_ask (w.alloc (.cells #[.int .i64 0, .int .i64 0] 44)))
  clear hc
  go_enter Tryd.func38, Tryd.ntmps38
  go_wp2_with fail
  rw [HCV.out]
  clear HCV
  go_wp2_with fail
  refine HQ.out.mono ?_
  rintro e w2 ⟨rfl, hB, hb⟩
  have HLT := Lib.hid (K0.out.lt)
  have K0 := Lib.hid (K0.out.next hb)
  have HB := Lib.hid (below_next HB0.out hb)
  have KB := Lib.hid (show Blk w2 (w.heap.size + 1) 9 #[.string (bs askA), .string (bs askB), .string (bs [])] by simpa using hB)
  clear hB hb HQ HB0
  have b2 := KB.out.cell 2
  simp only [List.getElem?_toArray, List.getElem?_cons_zero, List.getElem?_cons_succ] at b2
  have hbb : ((bs [] : ByteArray) == bs []) = true := by decide
  go_wp2
  clear b2
  go_loopw [28] (fun i wr => ∃ k : Nat, k ≤ 2 ∧ i = .int .i64 k ∧ Blk wr w.heap.size 44 #[.int .i64 0, .int .i64 0] ∧ Blk wr (w.heap.size + 1) 9 #[.string (bs askA), .string (bs askB), .string (bs [])] ∧ Below w.heap.size w wr) (fun i _ => 2 - (intOf i).toNat)
  case atStart => exact ⟨0, by omega, rfl, K0.out, KB.out, HB.out⟩
  case round =>
    clear K0 KB HB
    obtain ⟨k, hk, rfl, hk0, hkb, hb⟩ := hrel
    have K0 := Lib.hid hk0
    have KB := Lib.hid hkb
    have HB := Lib.hid hb
    clear hk0 hkb hb
    have b0 := KB.out.cell 0
    have b1 := KB.out.cell 1
    simp only [List.getElem?_toArray, List.getElem?_cons_zero, List.getElem?_cons_succ] at b0 b1
    obtain rfl | rfl | rfl : k = 0 ∨ k = 1 ∨ k = 2 := by omega
    · have hsz : (bs askA).size = 12 := by decide
      go_wp2_with fail
      have HQ := Lib.hid (good_any askA (by decide) (by decide) wr)
      refine HQ.out.mono ?_
      rintro e w3 ⟨rfl, hb3⟩
      have K0 := Lib.hid (K0.out.next hb3)
      have KB := Lib.hid (KB.out.next hb3)
      have HB := Lib.hid (below_next HB.out hb3)
      clear hb3 HQ b0 b1
      go_wp2
      go_roundw
      case rel => exact ⟨1, by omega, rfl, K0.out, KB.out, HB.out⟩
      case measure => (try simp only [intOf]); omega
    · have hsz : (bs askB).size = 9 := by decide
      go_wp2_with fail
      have HQ := Lib.hid (good_any askB (by decide) (by decide) wr)
      refine HQ.out.mono ?_
      rintro e w3 ⟨rfl, hb3⟩
      have K0 := Lib.hid (K0.out.next hb3)
      have KB := Lib.hid (KB.out.next hb3)
      have HB := Lib.hid (below_next HB.out hb3)
      clear hb3 HQ b0 b1
      go_wp2
      go_roundw
      case rel => exact ⟨2, by omega, rfl, K0.out, KB.out, HB.out⟩
      case measure => (try simp only [intOf]); omega
    · have f0 := K0.out.frozen 0
      have f1 := K0.out.frozen 1
      have c0 := K0.out.cell 0
      have c1 := K0.out.cell 1
      simp only [List.getElem?_toArray, List.getElem?_cons_zero, List.getElem?_cons_succ] at c0 c1
      have hsz := K0.out.lt
      have hne : w.heap.size + 1 ≠ w.heap.size := by omega
      clear b0 b1
      go_wp2
      refine bodyPost_ret (v := .tuple #[.slice (some ⟨w.heap.size + 1, 0, none⟩) 2 3, .agg #[.int .i64 0, .int .i64 0]]) (by simp [results, Tryd.results38, go_sem, c0, c1, hsz]; (try rfl)) rfl ?_
      have hb0 := HB.out
      exact ⟨w.heap.size + 1, rfl, (KB.out.far hne _).far hne _, ((hb0.setCell (Nat.le_refl _) _).setCell (Nat.le_refl _) _)⟩
end Go.Proofs.YtcbomomlojhghaaDoor
