/- strings.Split at the text of layer 17's awake, parted at line ends. -/
import Derived.Test.YtcbomomlojhghaaDoorGoA
import Derived.Test.YtcbomomlojhghaaDoorNl
import Derived.Deep.RegionWith
import Derived.Deep.DrawnRows
namespace Go.Proofs.YtcbomomlojhghaaDoor
set_option linter.unusedSimpArgs false
set_option linter.unusedVariables false
open Go.RowKit
attribute [local go_sem ↓] Go.wp_at_zero Go.wp_at_succ
def askA : List UInt8 := [105, 110, 115, 116, 97, 108, 108, 32, 97, 97, 61, 49]
def askB : List UInt8 := [114, 101, 109, 111, 118, 101, 32, 98, 98]
theorem make3 (W : World) : (Instr.makeSlice 73 (.int .i64 3) (.int .i64 3)).run Tryd.prog W = .ok (.slice (some ⟨W.heap.size, 0, none⟩) 3 3) (W.alloc (.cells #[.string (bs []), .string (bs []), .string (bs [])] 9)) := by kernel_rfl
def askT : List UInt8 := askA ++ 10 :: (askB ++ [10])
def askR : List UInt8 := askB ++ [10]
set_option maxRecDepth 100000 in
set_option maxHeartbeats 800000 in
theorem split_ask (w : World) :
    Calls Tryd.prog 61 #[.string (bs askT), .string ⟨#[10]⟩] w fun e w' => e = .returned (.slice (some ⟨w.heap.size, 0, none⟩) 3 3) ∧ Blk w' w.heap.size 9 #[.string (bs askA), .string (bs askB), .string (bs [])] ∧ Below w.heap.size w w' := by
  have HC := Lib.hid (Tryd.strings_Count_one (bs askT) 10 w)
  have HCN := Lib.hid (show (Lib.countByte (bs askT).data.toList 10) = 2 by decide)
  have hsz : (bs askT).size = 23 := by decide
  go_enter Tryd.func61, Tryd.ntmps61
  go_wp2_with (go_at_call 85; go_in)
  rw [HCN.out] at HC
  refine HC.out.mono ?_
  rintro e w1 ⟨rfl, rfl⟩
  clear HC HCN
  go_wp2_with fail
  rw [show (min 3 24 : Int) = 3 from rfl]
  have hmk := make3 w1
  rw [hmk]
  clear hmk
  go_wp2
  go_loopw [0, 10] (fun v i wr => Below w1.heap.size w1 wr ∧ ((v = .string (bs askT) ∧ i = .int .i64 0 ∧ Blk wr w1.heap.size 9 #[.string (bs []), .string (bs []), .string (bs [])]) ∨ (v = .string (bs askR) ∧ i = .int .i64 1 ∧ Blk wr w1.heap.size 9 #[.string (bs askA), .string (bs []), .string (bs [])]) ∨ (v = .string (bs []) ∧ i = .int .i64 2 ∧ Blk wr w1.heap.size 9 #[.string (bs askA), .string (bs askB), .string (bs [])]))) (fun _ i _ => 3 - (intOf i).toNat)
  case atStart => exact ⟨below_alloc (Below.refl _ _) _, .inl ⟨rfl, rfl, blk_new1 _ _ _⟩⟩
  case round =>
    obtain ⟨hb, h⟩ := hrel
    have HB := Lib.hid hb
    clear hb
    rcases h with ⟨rfl, rfl, hk⟩ | ⟨rfl, rfl, hk⟩ | ⟨rfl, rfl, hk⟩
    · have HK := Lib.hid hk
      have hlt := hk.lt
      have f0 := hk.frozen 0
      have c0 := hk.cell 0
      simp only [List.getElem?_toArray, List.getElem?_cons_zero, List.getElem?_cons_succ] at c0
      clear hk
      have HI := Lib.hid (Tryd.strings_Index_one (bs askT) 10 wr)
      rw [show Lib.indexByte (bs askT).data.toList 10 = 12 by decide] at HI
      go_wp2_with (go_at_call 99; refine HI.out.mono ?_; rintro e w2 ⟨rfl, rfl⟩)
      go_roundw
      case rel => exact ⟨HB.out.setCell (Nat.le_refl _) _, .inr (.inl ⟨rfl, rfl, HK.out.set_ 0 _⟩)⟩
      case measure => (try simp only [intOf]); omega
    · have HK := Lib.hid hk
      have hlt := hk.lt
      have f1 := hk.frozen 1
      have c1 := hk.cell 1
      simp only [List.getElem?_toArray, List.getElem?_cons_zero, List.getElem?_cons_succ] at c1
      clear hk
      have hsr : (bs askR).size = 10 := by decide
      have HI := Lib.hid (Tryd.strings_Index_one (bs askR) 10 wr)
      rw [show Lib.indexByte (bs askR).data.toList 10 = 9 by decide] at HI
      go_wp2_with (go_at_call 99; refine HI.out.mono ?_; rintro e w2 ⟨rfl, rfl⟩)
      go_roundw
      case rel => exact ⟨HB.out.setCell (Nat.le_refl _) _, .inr (.inr ⟨rfl, rfl, HK.out.set_ 1 _⟩)⟩
      case measure => (try simp only [intOf]); omega
    · have HK := Lib.hid hk
      have hlt := hk.lt
      have f2 := hk.frozen 2
      have c2 := hk.cell 2
      simp only [List.getElem?_toArray, List.getElem?_cons_zero, List.getElem?_cons_succ] at c2
      clear hk
      go_wp2_with fail
      go_ret
      exact ⟨rfl, HK.out.set_ 2 _, HB.out.setCell (Nat.le_refl _) _⟩
end Go.Proofs.YtcbomomlojhghaaDoor
