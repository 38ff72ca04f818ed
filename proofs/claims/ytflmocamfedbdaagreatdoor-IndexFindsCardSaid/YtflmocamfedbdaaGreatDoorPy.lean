/- A slice of bools that came in, opened. A slice of strings that came in, opened. For any call that leaves a world that only grew: the row's last step. And a world in which the two listed tables hold what the program's text lays. -/
import Derived.Test.YtflmocamfedbdaaGreatDoorPz
import Derived.Test.YtflmocamfedbdaaGreatDoorNl
import Derived.Test.YtflmocamfedbdaaGreatDoorCards
import Derived.Test.YtflmocamfedbdaaGreatDoorTie
import Derived.Test.YtflmocamfedbdaaGreatDoorVb
import Derived.WalkKit
import Derived.ProofKit
import Derived.OpenShut
import Derived.Below
import Derived.ChangeSame
import Derived.Deep.DeepHandedRow
import Derived.Lib.LaidTab
import Derived.ChangeMaps5
namespace Go.Proofs.YtflmocamfedbdaaGreatDoor
set_option linter.unusedSimpArgs false
set_option linter.unusedVariables false
open Go.RowKit Go.ChangeShapes Go.WideShapes Go.Deep
def RBool (cs : List Value) (b : Bool) : Prop := cs = [.bool b]
def Bols (w : World) (A : Option Addr) (c : Nat) (l : List Bool) : Prop := Slc w 1 1 RBool A c l
theorem Bols.kept {w w' : World} {A : Option Addr} {c : Nat} {l : List Bool} (h : Bols w A c l) (hk : Kept w w') : Bols w' A c l := Slc.mono h hk fun _ _ h => h
theorem Bols.at_ {w w' : World} {A : Option Addr} {c : Nat} {l : List Bool} {i : Nat} (h : Bols w A c l) (hi : i < l.length) (hk : Kept w w') : ∃ x b o, l[i]? = some x ∧ A = some ⟨b, o, none⟩ ∧ w'.cell? ⟨b, o + i, none⟩ = some (.bool x) := by
  obtain ⟨x, b, o, cs, h1, h2, rfl, _, h4⟩ := Slc.at_ h hi
  refine ⟨x, b, o, h1, h2, ?_⟩
  have := rangeAt_kept hk h4 0 _ rfl
  simpa using this
section
variable {H : Type} {enc : TypeId × Value → H} {w : World} {v : Value} {d : DataW H} {p : List MemPlace}
set_option maxRecDepth 100000 in
theorem Bools.of_arg {r : Reach} {b : Nat} {spare : Nat → Bool} {held : Bool} (hv : Value.okWide Tryz.prog w r b 74 v) (h : DataW.Trod enc Tryz.prog w 0 spare held 74 v d p) (hw : Lite Tryz.prog 74 d) : ∃ A c l, v = .slice A l.length c ∧ Bols w A c l := by
  obtain ⟨fuel, hf⟩ := h
  obtain ⟨A, c, l, he, hs⟩ := slc_open (R := RBool) (k := 1) (z := 1) Tryz.underlying74 (by kernel_rfl) (by decide) (by kernel_rfl) (fun _ _ _ h _ => by
    obtain ⟨k, h1, _⟩ := DataW.trod_bool Tryz.underlying4 h
    exact ⟨k, h1⟩) hf hw
  exact ⟨A, c, l, slice_cells (P := Tryz.prog) (t := 74) (e := 4) Tryz.underlying74 hv he, hs⟩
end
end Go.Proofs.YtflmocamfedbdaaGreatDoor
namespace Go.Proofs.YtflmocamfedbdaaGreatDoor
set_option linter.unusedSimpArgs false
set_option linter.unusedVariables false
open Go.RowKit Go.ChangeShapes Go.WideShapes Go.Deep
section
variable {H : Type} {enc : TypeId × Value → H} {w : World} {v : Value} {d : DataW H} {p : List MemPlace}
set_option maxRecDepth 100000 in
theorem Strs.of_arg {r : Reach} {b : Nat} {spare : Nat → Bool} {held : Bool} (hv : Value.okWide Tryz.prog w r b 51 v) (h : DataW.Trod enc Tryz.prog w 0 spare held 51 v d p) (hw : Lite Tryz.prog 51 d) : ∃ A c l, v = .slice A l.length c ∧ Strs w A c l := by
  obtain ⟨fuel, hf⟩ := h
  obtain ⟨A, c, l, he, hs⟩ := slc_open (R := RStr) (k := 1) (z := 16) Tryz.underlying51 (by kernel_rfl) (by decide) (by kernel_rfl) (fun _ _ _ h _ => by
    obtain ⟨k, h1, _⟩ := DataW.trod_string Tryz.underlying9 h
    exact ⟨k.data.toList, h1⟩) hf hw
  exact ⟨A, c, l, slice_cells (P := Tryz.prog) (t := 51) (e := 9) Tryz.underlying51 hv he, hs⟩
end
end Go.Proofs.YtflmocamfedbdaaGreatDoor
namespace Go.Proofs.YtflmocamfedbdaaGreatDoor
set_option linter.unusedSimpArgs false
set_option linter.unusedVariables false
open Go.ChangeShapes Go.WideShapes Go.ChangeAt Go.RowKit
section
variable {H : Type} {enc : TypeId × Value → H} {P : Program}
theorem post_of_below {f : Func} {s : ChangeSpec} {apart fresh handsOn again : Bool} {W W' : World} {args : Array Value} {v : Value} {ds gs : List (DataW H)} {before pa pv : List MemPlace}
    (hW : DataW.Whole enc P f.params.toList s.vars apart W args.toList ds gs before)
    (hres : ∀ (b : Nat) (sp : Nat → Bool) (hd : Bool), DataW.TrodAll enc P W' b sp hd f.resultTypes.toList (v.resultList f.resultTypes.size) (s.fn H (ds ++ gs)).results [])
    (hargs : ∀ sp : Nat → Bool, (∀ p ∈ before, sp p.block = true) → DataW.TrodAll enc P W' 0 sp true f.params.toList args.toList (s.fn H (ds ++ gs)).args pa)
    (hvars : ∀ sp : Nat → Bool, (∀ p ∈ before, sp p.block = true) → DataW.TrodVars enc P W' sp s.vars (s.fn H (ds ++ gs)).vars pv)
    (hps : before = pa ++ pv) (hb : Below W.heap.size W W')
    (hok : ∀ (j : Nat) (t : TypeId) (r : Value), f.resultTypes[j]? = some t → (v.resultList f.resultTypes.size)[j]? = some r → Value.okWide P W' .any 0 t r) :
    s.post enc P f apart fresh handsOn again W args v W' := by
  have hlt : ∀ p ∈ before, p.block < W.heap.size := fun p hp => hW.lt p hp
  have hold : ∀ p ∈ before, (fun b => decide (b < W.heap.size)) p.block = true := fun p hp => by simpa using hlt p hp
  refine ⟨ds, gs, before, [], pa, pv, hW, hres _ _ _, hargs _ hold, hvars _ hold, World.keptBut_mono (fun p hp => ⟨hp, ?_⟩) (hb.frame (· ∈ before)), fun _ => ?_⟩
  · rw [hps, List.mem_append] at hp
    exact Or.inr hp
  · obtain ⟨_, _, _, _, _, hz, hn⟩ := hW
    refine ⟨hok, _, _, ([] ++ pa) ++ pv, ⟨[] ++ pa, pv, trodAll_append (hargs _ (fun _ _ => rfl)) (hres _ _ _), hvars _ (fun _ _ => rfl), rfl, ?_, ?_⟩, ?_⟩
    · intro b off hp
      have hin : MemPlace.cell b off ∈ before := by rw [hps]; simpa using hp
      rw [hb.frozen (hlt _ hin)]
      exact hz b off hin
    · intro ha
      have := hn ha
      rw [hps] at this
      simpa using this
    · intro p hp _
      rw [hps]
      simpa using hp
end
theorem own : ownKnob Tryz.prog.godebug = none := by kernel_rfl
def setFirst : Obj → Obj
  | .cells _ t frozen => .cells (Go.Pinned.utf8FirstZ.map (fun (n : Nat) => Value.int .u8 (n : Int))).toArray t frozen
  | o => o
def setRanges : Obj → Obj
  | .cells _ t frozen => .cells #[.int .u8 128, .int .u8 191, .int .u8 160, .int .u8 191, .int .u8 128, .int .u8 159, .int .u8 144, .int .u8 191, .int .u8 128, .int .u8 143, .int .u8 0, .int .u8 0, .int .u8 0, .int .u8 0, .int .u8 0, .int .u8 0, .int .u8 0, .int .u8 0, .int .u8 0, .int .u8 0, .int .u8 0, .int .u8 0, .int .u8 0, .int .u8 0, .int .u8 0, .int .u8 0, .int .u8 0, .int .u8 0, .int .u8 0, .int .u8 0, .int .u8 0, .int .u8 0] t frozen
  | o => o
noncomputable def laidWorld (os : Os) : World :=
  { World.holding Tryz.prog os ⟨#[], #[], []⟩ with heap := ((World.holding Tryz.prog os ⟨#[], #[], []⟩).heap.modify 1 setFirst).modify 2 setRanges }
end Go.Proofs.YtflmocamfedbdaaGreatDoor
