/- Law 10's awake: its contract. -/
import Derived.Test.YtflmocamfedbdaaGreatDoorIxB
namespace Go.Proofs.YtflmocamfedbdaaGreatDoor
set_option linter.unusedSimpArgs false
set_option linter.unusedVariables false
open Go.RowKit

def wkA : Pkg := ⟨[97, 97], [49], [], [], [], [], [], [], false⟩
def wkB : Pkg := ⟨[98, 98], [49], [], [], [], [], [], [⟨[97, 97], [51]⟩], false⟩
def wkC : Pkg := ⟨[97, 97], [50], [], [], [], [], [], [], false⟩
def wkL : List Pkg := [wkA, wkB, wkC]
def wkT : Atm := ⟨[97, 97], 4, [50]⟩
theorem wk_may : mayAllE wkL = 0 := by decide +kernel
theorem wk_srt : srt pLt wkL = [wkC, wkA, wkB] := by decide +kernel
theorem wk_meets : plcS (satP wkT) [wkC, wkA, wkB] = [0, 2] := by decide +kernel
theorem wk_few : ∀ p ∈ wkL, fewO p := fun p hp => by
  simp only [wkL, List.mem_cons, List.not_mem_nil, or_false] at hp
  rcases hp with rfl | rfl | rfl <;> (refine ⟨⟨by decide, ?_⟩, ⟨by decide, ?_⟩, ⟨by decide, ?_⟩, by decide, by decide, by decide⟩ <;> (intro x hx; cases hx))
theorem shortW {l : List UInt8} (h : l.length ≤ 1000) : short l := by unfold short; omega
def wkR : Raw := ⟨none, none, none, none, none, none, 0, 0, 0, 0, 0, 0⟩
theorem wk_pkgs (w : World) : Pkgs ((w.alloc (.cells #[.string (bs [97, 97]), .string (bs [51])] 38)).alloc (.cells #[.string (bs [97, 97]), .string (bs [49]), .slice none 0 0, .slice none 0 0, .slice none 0 0, .slice none 0 0, .slice none 0 0, .slice none 0 0, .bool false, .string (bs [98, 98]), .string (bs [49]), .slice none 0 0, .slice none 0 0, .slice none 0 0, .slice none 0 0, .slice none 0 0, .slice (some ⟨w.heap.size, 0, none⟩) 1 1, .bool false, .string (bs [97, 97]), .string (bs [50]), .slice none 0 0, .slice none 0 0, .slice none 0 0, .slice none 0 0, .slice none 0 0, .slice none 0 0, .bool false] 26)) (some ⟨w.heap.size + 1, 0, none⟩) 3 wkL := by
  have hB1 := (Blk.new w 38 #[.string (bs [97, 97]), .string (bs [51])]).alloc (.cells #[.string (bs [97, 97]), .string (bs [49]), .slice none 0 0, .slice none 0 0, .slice none 0 0, .slice none 0 0, .slice none 0 0, .slice none 0 0, .bool false, .string (bs [98, 98]), .string (bs [49]), .slice none 0 0, .slice none 0 0, .slice none 0 0, .slice none 0 0, .slice none 0 0, .slice (some ⟨w.heap.size, 0, none⟩) 1 1, .bool false, .string (bs [97, 97]), .string (bs [50]), .slice none 0 0, .slice none 0 0, .slice none 0 0, .slice none 0 0, .slice none 0 0, .slice none 0 0, .bool false] 26)
  have hB2 := blk_new2 w (.cells #[.string (bs [97, 97]), .string (bs [51])] 38) 26 #[.string (bs [97, 97]), .string (bs [49]), .slice none 0 0, .slice none 0 0, .slice none 0 0, .slice none 0 0, .slice none 0 0, .slice none 0 0, .bool false, .string (bs [98, 98]), .string (bs [49]), .slice none 0 0, .slice none 0 0, .slice none 0 0, .slice none 0 0, .slice none 0 0, .slice (some ⟨w.heap.size, 0, none⟩) 1 1, .bool false, .string (bs [97, 97]), .string (bs [50]), .slice none 0 0, .slice none 0 0, .slice none 0 0, .slice none 0 0, .slice none 0 0, .slice none 0 0, .bool false]
  generalize ((w.alloc _).alloc _) = W at hB1 hB2 ⊢
  have hP : Prvs W (some ⟨w.heap.size, 0, none⟩) 1 [⟨[97, 97], [51]⟩] := slcB [[.string (bs [97, 97]), .string (bs [51])]] hB1 rfl rfl (fun i cs x h1 h2 => by
    rcases i with _ | i
    · simp at h1 h2
      subst h1 h2
      exact ⟨⟨rfl, shortW (by decide), shortW (by decide)⟩, rfl⟩
    · simp at h1) rfl (by decide) (by decide) (by decide)
  exact slcB [encK wkR wkA, encK ⟨none, none, none, none, none, some ⟨w.heap.size, 0, none⟩, 0, 0, 0, 0, 0, 1⟩ wkB, encK wkR wkC] hB2 rfl rfl (fun i cs x h1 h2 => by
    rcases i with _ | _ | _ | i
    · simp [wkL] at h1 h2
      subst h1 h2
      exact ⟨⟨_, rfl, shortW (by decide), shortW (by decide), Slc.nil_ (Nat.zero_le _), Slc.nil_ (Nat.zero_le _), Slc.nil_ (Nat.zero_le _), Slc.nil_ (Nat.zero_le _), Slc.nil_ (Nat.zero_le _), Slc.nil_ (Nat.zero_le _)⟩, rfl⟩
    · simp [wkL] at h1 h2
      subst h1 h2
      exact ⟨⟨_, rfl, shortW (by decide), shortW (by decide), Slc.nil_ (Nat.zero_le _), Slc.nil_ (Nat.zero_le _), Slc.nil_ (Nat.zero_le _), Slc.nil_ (Nat.zero_le _), Slc.nil_ (Nat.zero_le _), hP⟩, rfl⟩
    · simp [wkL] at h1 h2
      subst h1 h2
      exact ⟨⟨_, rfl, shortW (by decide), shortW (by decide), Slc.nil_ (Nat.zero_le _), Slc.nil_ (Nat.zero_le _), Slc.nil_ (Nat.zero_le _), Slc.nil_ (Nat.zero_le _), Slc.nil_ (Nat.zero_le _), Slc.nil_ (Nat.zero_le _)⟩, rfl⟩
    · simp at h1) rfl (by decide) (by decide) (by decide)
set_option maxRecDepth 100000 in
set_option maxHeartbeats 400000 in
theorem awake10_any (w : World) : Calls Tryz.prog 14 #[] w fun e w' => e = .returned (.bool true) ∧ Below w.heap.size w w' := by
  go_enter Tryz.func14, Tryz.ntmps14
  go_wp2_with fail
  have hb0 : Below w.heap.size w ((w.alloc (.cells #[.string (bs [97, 97]), .string (bs [51])] 38)).alloc (.cells #[.string (bs [97, 97]), .string (bs [49]), .slice none 0 0, .slice none 0 0, .slice none 0 0, .slice none 0 0, .slice none 0 0, .slice none 0 0, .bool false, .string (bs [98, 98]), .string (bs [49]), .slice none 0 0, .slice none 0 0, .slice none 0 0, .slice none 0 0, .slice none 0 0, .slice (some ⟨w.heap.size, 0, none⟩) 1 1, .bool false, .string (bs [97, 97]), .string (bs [50]), .slice none 0 0, .slice none 0 0, .slice none 0 0, .slice none 0 0, .slice none 0 0, .slice none 0 0, .bool false] 26)) := below_alloc (below_alloc (Below.refl _ _) _) _
  refine (new_yes _ 3 wkL _ (wk_pkgs w) wk_few wk_may).mono ?_
  rintro e w1 ⟨x, rfl, hx, hb1⟩
  rw [wk_srt] at hx
  have HB1 := Lib.hid (below_next hb0 hb1)
  have HX := Lib.hid hx
  clear hb0 hb1 hx
  go_wp2_with fail
  refine (meetsIx_any x _ wkT _ HX.out (by decide) ⟨shortW (by decide), shortW (by decide)⟩).mono ?_
  rintro e w2 ⟨A, c, rfl, hv, hb2⟩
  rw [wk_meets] at hv ⊢
  have HB2 := Lib.hid (below_next HB1.out hb2)
  have hbd := hv.bd
  obtain ⟨y, b, o, hy, rfl, e0⟩ := hv.at_ (i := 0) (by simp) (Kept.refl _)
  obtain rfl : 0 = y := by simpa using hy
  obtain ⟨z, b', o', hz, hA, e1⟩ := hv.at_ (i := 1) (by simp) (Kept.refl _)
  obtain rfl : 2 = z := by simpa using hz
  injection hA with hA
  injection hA with hA1 hA2
  subst hA1 hA2
  simp only [Nat.add_zero] at e0
  clear hv hy hz hb2
  go_wp2
  go_ret
  exact ⟨rfl, HB2.out⟩
end Go.Proofs.YtflmocamfedbdaaGreatDoor
