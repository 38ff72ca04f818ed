/- Steps and asks: kind, name, version; in memory. -/
import Derived.Test.YtcbomomlojhghaaDoorPk
namespace Go.Proofs.YtcbomomlojhghaaDoor
set_option linter.unusedSimpArgs false
set_option linter.unusedVariables false
open Go.RowKit
structure Stp where
  kind : Int
  name : List UInt8
  ver : List UInt8
  deriving DecidableEq
def RStp (cs : List Value) (x : Stp) : Prop := cs = [.int .i64 x.kind, .string (bs x.name), .string (bs x.ver)]
def Stps (w : World) (A : Option Addr) (c : Nat) (l : List Stp) : Prop := Slc w 3 40 RStp A c l
theorem Stps.kept {w w' : World} {A : Option Addr} {c : Nat} {l : List Stp} (h : Stps w A c l) (hk : Kept w w') : Stps w' A c l := Slc.mono h hk fun _ _ h => h
theorem Stps.at_ {w w' : World} {A : Option Addr} {c : Nat} {l : List Stp} {i : Nat} (h : Stps w A c l) (hi : i < l.length) (hk : Kept w w') : ∃ x b o, l[i]? = some x ∧ A = some ⟨b, o, none⟩ ∧ w'.cell? ⟨b, o + i * 3, none⟩ = some (.int .i64 x.kind) ∧ w'.cell? ⟨b, o + i * 3 + 1, none⟩ = some (.string (bs x.name)) ∧ w'.cell? ⟨b, o + i * 3 + 2, none⟩ = some (.string (bs x.ver)) := by
  obtain ⟨x, b, o, cs, h1, h2, rfl, _, h4⟩ := Slc.at_ h hi
  exact ⟨x, b, o, h1, h2, range3 (rangeAt_kept hk h4)⟩
theorem stp_one (k : Int) (n v : List UInt8) : ∀ u ∈ [Value.int .i64 k, .string (bs n), .string (bs v)], u.oneCell' = true := by simp [Value.oneCell']
theorem stp_oneR : ∀ cs y, RStp cs y → ∀ u ∈ cs, u.oneCell' = true := fun cs y h u hu => by
  subst h
  exact stp_one _ _ _ u hu
end Go.Proofs.YtcbomomlojhghaaDoor
