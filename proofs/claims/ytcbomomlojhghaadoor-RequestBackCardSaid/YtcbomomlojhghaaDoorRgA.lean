/- The contracts of the reference's at, size. -/
import Derived.Test.YtcbomomlojhghaaDoorReqA
namespace Go.Proofs.YtcbomomlojhghaaDoor
set_option linter.unusedSimpArgs false
set_option linter.unusedVariables false
open Go.RowKit
/-- is the byte at this place between these? -/
def atB (l : List UInt8) (i lo hi : Nat) : Bool := decide (i < l.length) && (decide (lo ≤ (l.getD i 0).toNat) && decide ((l.getD i 0).toNat ≤ hi))
set_option maxRecDepth 100000 in
set_option maxHeartbeats 400000 in
theorem rat_any (l : List UInt8) (i lo hi : Nat) (w : World) : Calls Tryd.prog 102 #[.string (bs l), .int .i64 i, .int .u8 lo, .int .u8 hi] w fun e w' => e = .returned (.bool (atB l i lo hi)) ∧ w = w' := by
  have hsz : (bs l).size = l.length := rfl
  obtain ⟨G, hG⟩ : ∃ G, G = atB l i lo hi := ⟨_, rfl⟩
  rw [← hG]
  have HG := Lib.hid (show ∀ h : i < l.length, G = (decide (lo ≤ (l[i]).toNat) && decide ((l[i]).toNat ≤ hi)) from fun h => by
    rw [hG, atB, decide_eq_true h, Bool.true_and, show l.getD i 0 = l[i] by rw [List.getD_eq_getElem?_getD, List.getElem?_eq_getElem h]; rfl])
  have HN := Lib.hid (show ¬ i < l.length → G = false from fun h => by rw [hG, atB, decide_eq_false h]; rfl)
  clear hG
  go_enter Tryd.func102, Tryd.ntmps102
  go_wp2
  all_goals go_ret
  all_goals refine ⟨?_, rfl⟩
  all_goals go_tidy
  all_goals first
    | (have h := HN.out (by assumption); simp [h]; done)
    | (have h := HG.out (by assumption); simp [h]; done)
    | (have h := HG.out (by assumption); simp [h]; omega)
    | (have h := HG.out (by assumption); rw [h]; simp_all; done)
    | (have h := HG.out (by assumption); rw [h]; simp_all; omega)
    | (rename_i hA hB; have h := HG.out hA; rw [h, show decide (lo ≤ (l[i]).toNat) = true from decide_eq_true hB, Bool.true_and]; rfl)
/-- the size of the character at the beginning, by its shortest form, its first byte and the tests of the others known; 0: none -/
def sizeF (c : Nat) (b0 b1 b2 b3 b4 b5 b6 : Bool) : Nat :=
  if c < 128 then 1
  else if 194 ≤ c ∧ c ≤ 223 ∧ b0 = true then 2
  else if c = 224 ∧ b1 = true ∧ b2 = true then 3
  else if c = 237 ∧ b3 = true ∧ b2 = true then 3
  else if 225 ≤ c ∧ c ≤ 239 ∧ c ≠ 237 ∧ b0 = true ∧ b2 = true then 3
  else if c = 240 ∧ b4 = true ∧ b2 = true ∧ b5 = true then 4
  else if c = 244 ∧ b6 = true ∧ b2 = true ∧ b5 = true then 4
  else if 241 ≤ c ∧ c ≤ 243 ∧ b0 = true ∧ b2 = true ∧ b5 = true then 4
  else 0
def sizeS (l : List UInt8) : Nat := sizeF (l.getD 0 0).toNat (atB l 1 128 191) (atB l 1 160 191) (atB l 2 128 191) (atB l 1 128 159) (atB l 1 144 191) (atB l 3 128 191) (atB l 1 128 143)
end Go.Proofs.YtcbomomlojhghaaDoor
