/- Slices of strings: what they read as; slices.Contains at them. -/
import Derived.Test.YtflmocamfedbdaaGreatDoorMk
import Derived.Test.YtflmocamfedbdaaGreatDoorVerA
namespace Go.Proofs.YtflmocamfedbdaaGreatDoor
set_option linter.unusedSimpArgs false
set_option linter.unusedVariables false
open Go.RowKit

def RStr (cs : List Value) (n : List UInt8) : Prop := cs = [.string (bs n)]
def Strs (w : World) (A : Option Addr) (c : Nat) (l : List (List UInt8)) : Prop := Slc w 1 16 RStr A c l
theorem Strs.kept {w w' : World} {A : Option Addr} {c : Nat} {l : List (List UInt8)} (h : Strs w A c l) (hk : Kept w w') : Strs w' A c l := Slc.mono h hk fun _ _ h => h
theorem Strs.at_ {w w' : World} {A : Option Addr} {c : Nat} {l : List (List UInt8)} {i : Nat} (h : Strs w A c l) (hi : i < l.length) (hk : Kept w w') : ∃ x b o, l[i]? = some x ∧ A = some ⟨b, o, none⟩ ∧ w'.cell? ⟨b, o + i, none⟩ = some (.string (bs x)) := by
  obtain ⟨x, b, o, cs, h1, h2, rfl, _, h4⟩ := Slc.at_ h hi
  refine ⟨x, b, o, h1, h2, ?_⟩
  have := rangeAt_kept hk h4 0 _ rfl
  simpa using this
theorem infStr' : (Tryz.prog.info? 9).map (fun i => (i.zero, i.size, i.bytes)) = some (some (.string (bs [])), 1, 16) := by kernel_rfl
theorem conN_eq (n : List UInt8) (l : List (List UInt8)) : (l.any fun y => decide (y = n)) = l.contains n := by
  rw [Bool.eq_iff_iff]; simp
set_option maxRecDepth 100000 in
theorem idxN_any (A : Option Addr) (c : Nat) (l : List (List UInt8)) (n : List UInt8) (w : World) (hl : Strs w A c l) :
    Calls Tryz.prog 111 #[.slice A l.length c, .string (bs n)] w fun e w' => e = .returned (.int .i64 (idxS (fun y => decide (y = n)) l)) ∧ w = w' := by
  have hbd := hl.bd
  have HL := Lib.hid hl
  clear hl
  go_enter Tryz.func111, Tryz.ntmps111
  go_wp2
  go_loop [8] (fun i => ∃ k : Nat, k ≤ l.length ∧ i = .int .i64 k ∧ (l.take k).any (fun y => decide (y = n)) = false) (fun i => l.length - (intOf i).toNat)
  case atStart => exact ⟨0, Nat.zero_le _, rfl, rfl⟩
  case round =>
    obtain ⟨k, hk, rfl, hn⟩ := hrel
    have HN := Lib.hid hn
    clear hn
    by_cases hlt : k < l.length
    · obtain ⟨q, b, o, hq, rfl, e0⟩ := HL.out.at_ hlt (Kept.refl _)
      have HQ := Lib.hid hq
      clear hq
      by_cases hnm : q = n
      · subst hnm
        go_wp2
        go_ret
        exact ⟨by rw [idx_at HQ.out (by simp) HN.out]; rfl, rfl⟩
      · have hne : (n == q) = false := by simpa using (fun h : n = q => hnm h.symm)
        go_wp2
        go_round
        case rel => exact ⟨k + 1, by omega, by simp, any_step HQ.out (by simpa using hnm) HN.out⟩
        case measure => (try simp only [intOf]); omega
    · go_wp2
      go_ret
      exact ⟨by rw [idx_no (any_end hk hlt HN.out)]; rfl, rfl⟩
set_option maxRecDepth 100000 in
theorem conN_any (A : Option Addr) (c : Nat) (l : List (List UInt8)) (n : List UInt8) (w : World) (hl : Strs w A c l) :
    Calls Tryz.prog 82 #[.slice A l.length c, .string (bs n)] w fun e w' => e = .returned (.bool (l.contains n)) ∧ w = w' := by
  have HI := Lib.hid (show decide (0 ≤ idxS (fun y => decide (y = n)) l) = l.contains n by rw [idx_any, conN_eq])
  go_enter Tryz.func82, Tryz.ntmps82
  go_wp2_with (go_at_call 111; refine (idxN_any _ _ _ _ _ hl).mono ?_; rintro e w1 ⟨rfl, rfl⟩)
  go_ret
  exact ⟨by rw [← HI.out]; rfl, rfl⟩
end Go.Proofs.YtflmocamfedbdaaGreatDoor
