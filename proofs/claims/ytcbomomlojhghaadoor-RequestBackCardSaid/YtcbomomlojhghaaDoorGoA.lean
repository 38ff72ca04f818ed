/- The contract of text.Good at plain ASCII texts. -/
import Derived.Test.YtcbomomlojhghaaDoorReqA
namespace Go.Proofs.YtcbomomlojhghaaDoor
set_option linter.unusedSimpArgs false
set_option linter.unusedVariables false
open Go.RowKit
def plainB (c : UInt8) : Bool := decide (32 ≤ c.toNat ∧ c.toNat < 127) || decide (c.toNat = 9)
set_option maxRecDepth 100000 in
set_option maxHeartbeats 800000 in
theorem good_any (l : List UInt8) (hl : l.length ≤ 140737488351232) (hp : l.all plainB = true) (w : World) :
    Calls Tryd.prog 62 #[.string (bs l)] w fun e w' => e = .returned (.int .i64 (-1)) ∧ Below w.heap.size w w' := by
  have HP := Lib.hid hp
  clear hp
  go_enter Tryd.func62, Tryd.ntmps62
  go_wp2
  go_loopw [3] (fun _ w' => ∃ k : Nat, k ≤ l.length ∧ w' = w.iter (bs l) k) (fun _ w' => l.length - w'.iterPos w.heap.size)
  case atStart => exact ⟨0, Nat.zero_le _, rfl⟩
  case round =>
    obtain ⟨k, hk, rfl⟩ := hrel
    by_cases hp : k < l.length
    · obtain ⟨c, hc⟩ : ∃ c, l[k]? = some c := ⟨_, List.getElem?_eq_getElem hp⟩
      have HC := Lib.hid hc
      have hpc : plainB c = true := List.all_eq_true.1 HP.out c (List.mem_of_getElem? hc)
      have hpc2 : (32 ≤ c.toNat ∧ c.toNat < 127) ∨ c.toNat = 9 := by simpa [plainB] using hpc
      clear hc hpc
      have hnx := next_byte (P := Tryd.prog) w l k c HC.out (by omega)
      go_wp2_with fail
      refine (Tryd.utf8_DecodeRuneInString_ascii (bs (l.drop k)) c _ (by have h := HC.out; show (l.drop k)[0]? = some c; rw [List.getElem?_drop]; exact h) (by omega)).mono ?_
      rintro e w2 ⟨rfl, rfl⟩
      have d1 : decide ((c.toNat : Int) = 65533) = false := decide_eq_false (by omega)
      have d3 : ((c.toNat : Int) == 127) = false := by rw [beq_eq_false_iff_ne]; omega
      have d4 : ((c.toNat : Int) == 65533) = false := by rw [beq_eq_false_iff_ne]; omega
      rcases hpc2 with ⟨h1, h2⟩ | h9
      · have d2 : decide ((c.toNat : Int) < 32) = false := decide_eq_false (by omega)
        go_wp2
        go_roundw
        case rel => exact ⟨k + 1, hp, rfl⟩
        case measure => simp; omega
      · have d2 : decide ((c.toNat : Int) < 32) = true := decide_eq_true (by omega)
        have d5 : ((c.toNat : Int) != 9) = false := by rw [h9]; rfl
        go_wp2
        go_roundw
        case rel => exact ⟨k + 1, hp, rfl⟩
        case measure => simp; omega
    · have hnx := next_end (P := Tryd.prog) w l k (by omega)
      go_wp2
      go_ret
      exact ⟨rfl, iter_below _ _ _⟩
end Go.Proofs.YtcbomomlojhghaaDoor
