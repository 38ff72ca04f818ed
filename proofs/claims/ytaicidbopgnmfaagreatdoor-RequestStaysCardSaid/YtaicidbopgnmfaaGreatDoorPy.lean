/- Steps in memory. A step, a slice of steps that came in, opened. For any call that leaves a world that only grew: the row's last step. And a world in which the two listed tables hold what the program's text lays. -/
import Derived.Test.YtaicidbopgnmfaaGreatDoorDa
import Derived.Test.YtaicidbopgnmfaaGreatDoorPz
import Derived.OpenShut
import Derived.Test.YtaicidbopgnmfaaGreatDoorCards
import Derived.Test.YtaicidbopgnmfaaGreatDoorTie
import Derived.Test.YtaicidbopgnmfaaGreatDoorVb
import Derived.WalkKit
import Derived.ProofKit
import Derived.Below
import Derived.ChangeSame
import Derived.Deep.DeepHandedRow
import Derived.Lib.LaidTab
import Derived.ChangeMaps5
namespace Go.Proofs.YtaicidbopgnmfaaGreatDoor
set_option linter.unusedSimpArgs false
set_option linter.unusedVariables false
open Go.RowKit
def RStp (cs : List Value) (x : Stp) : Prop := cs = [.int .i64 x.kind, .string (bs x.name), .string (bs x.ver)]
def Stps (w : World) (A : Option Addr) (c : Nat) (l : List Stp) : Prop := Slc w 3 40 RStp A c l
theorem Stps.kept {w w' : World} {A : Option Addr} {c : Nat} {l : List Stp} (h : Stps w A c l) (hk : Kept w w') : Stps w' A c l := Slc.mono h hk fun _ _ h => h
theorem Stps.at_ {w w' : World} {A : Option Addr} {c : Nat} {l : List Stp} {i : Nat} (h : Stps w A c l) (hi : i < l.length) (hk : Kept w w') : ∃ x b o, l[i]? = some x ∧ A = some ⟨b, o, none⟩ ∧ w'.cell? ⟨b, o + i * 3, none⟩ = some (.int .i64 x.kind) ∧ w'.cell? ⟨b, o + i * 3 + 1, none⟩ = some (.string (bs x.name)) ∧ w'.cell? ⟨b, o + i * 3 + 2, none⟩ = some (.string (bs x.ver)) := by
  obtain ⟨x, b, o, cs, h1, h2, rfl, _, h4⟩ := Slc.at_ h hi
  exact ⟨x, b, o, h1, h2, range3 (rangeAt_kept hk h4)⟩
theorem stp_one (k : Int) (n v : List UInt8) : ∀ u ∈ [Value.int .i64 k, .string (bs n), .string (bs v)], u.oneCell' = true := by simp [Value.oneCell']
theorem stp_oneR : ∀ cs y, RStp cs y → ∀ u ∈ cs, u.oneCell' = true := fun cs y h u hu => by
  subst h
  exact stp_one _ _ _ u hu
end Go.Proofs.YtaicidbopgnmfaaGreatDoor
namespace Go.Proofs.YtaicidbopgnmfaaGreatDoor
set_option linter.unusedSimpArgs false
set_option linter.unusedVariables false
open Go.RowKit Go.ChangeShapes Go.WideShapes Go.Deep
section
variable {H : Type} {enc : TypeId × Value → H} {w : World} {spare : Nat → Bool} {held : Bool} {fuel : Nat} {cs : List Value} {x : DataW H × List MemPlace}
theorem stp_open (h : DataW.trod enc Tryz.prog w 0 spare held fuel 24 cs = some x) (hw : Lite Tryz.prog 24 x.1) : ∃ a, RStp cs a := by
  obtain ⟨hl, n, hf⟩ := fields_open Tryz.underlying24 (by kernel_rfl) (by kernel_rfl) h hw
  obtain ⟨v0, y0, c0, t0, w0⟩ := hf 0 _ rfl
  obtain ⟨v1, y1, c1, t1, w1⟩ := hf 1 _ rfl
  obtain ⟨v2, y2, c2, t2, w2⟩ := hf 2 _ rfl
  obtain ⟨k0, rfl⟩ := int_open Tryz.underlying3 t0
  obtain ⟨l1, rfl, s1⟩ := str_open Tryz.underlying9 t1 w1
  obtain ⟨l2, rfl, s2⟩ := str_open Tryz.underlying9 t2 w2
  match cs, hl with
  | [c0', c1', c2'], _ =>
    simp at c0 c1 c2
    subst c0 c1 c2
    exact ⟨⟨k0, l1, l2⟩, rfl⟩
end
section
variable {H : Type} {enc : TypeId × Value → H} {w : World} {v : Value} {d : DataW H} {p : List MemPlace}
set_option maxRecDepth 100000 in
theorem Stp.of_arg {r : Reach} {b : Nat} {spare : Nat → Bool} {held : Bool} (hv : Value.okWide Tryz.prog w r b 24 v) (h : DataW.Trod enc Tryz.prog w 0 spare held 24 v d p) (hw : Lite Tryz.prog 24 d) :
    ∃ (k : Int) (n m : List UInt8), v = .agg #[.int .i64 k, .string (bs n), .string (bs m)] := by
  obtain ⟨fuel, hf⟩ := h
  obtain ⟨l, he⟩ := stp_open hf hw
  unfold Value.okWide at hv
  rw [Tryz.underlying24] at hv
  obtain ⟨cs, rfl, _⟩ := hv
  simp only [Value.cells] at he
  refine ⟨l.kind, l.name, l.ver, ?_⟩
  obtain ⟨cs⟩ := cs
  unfold RStp at he
  simp only at he
  subst he
  rfl
set_option maxRecDepth 100000 in
theorem Stps.of_arg {r : Reach} {b : Nat} {spare : Nat → Bool} {held : Bool} (hv : Value.okWide Tryz.prog w r b 34 v) (h : DataW.Trod enc Tryz.prog w 0 spare held 34 v d p) (hw : Lite Tryz.prog 34 d) :
    ∃ A c l, v = .slice A l.length c ∧ Stps w A c l := by
  obtain ⟨fuel, hf⟩ := h
  obtain ⟨A, c, l, he, hs⟩ := slc_open (R := RStp) (k := 3) (z := 40) Tryz.underlying34 (by kernel_rfl) (by decide) (by kernel_rfl) (fun _ _ _ h hw => stp_open h hw) hf hw
  exact ⟨A, c, l, slice_cells (P := Tryz.prog) (t := 34) (e := 24) Tryz.underlying34 hv he, hs⟩
end
end Go.Proofs.YtaicidbopgnmfaaGreatDoor
namespace Go.Proofs.YtaicidbopgnmfaaGreatDoor
set_option linter.unusedSimpArgs false
set_option linter.unusedVariables false
open Go.ChangeShapes Go.WideShapes Go.ChangeAt Go.RowKit
section
variable {H : Type} {enc : TypeId × Value → H} {P : Program}
theorem post_of_below {f : Func} {s : ChangeSpec} {apart fresh handsOn again : Bool} {W W' : World} {args : Array Value} {v : Value} {ds gs : List (DataW H)} {before pa pv : List MemPlace}
    (hW : DataW.Whole enc P f.params.toList s.vars apart W args.toList ds gs before)
    (hres : ∀ (b : Nat) (sp : Nat → Bool) (hd : Bool), DataW.TrodAll enc P W' b sp hd f.resultTypes.toList (v.resultList f.resultTypes.size) (s.fn H (ds ++ gs)).results [])
    (hargs : ∀ sp : Nat → Bool, (∀ p ∈ before, sp p.block = true) → DataW.TrodAll enc P W' 0 sp true f.params.toList args.toList (s.fn H (ds ++ gs)).args pa)
    (hvars : ∀ sp : Nat → Bool, (∀ p ∈ before, sp p.block = true) → DataW.TrodVars enc P W' sp s.vars (s.fn H (ds ++ gs)).vars pv)
    (hps : before = pa ++ pv) (hb : Below W.heap.size W W')
    (hok : ∀ (j : Nat) (t : TypeId) (r : Value), f.resultTypes[j]? = some t → (v.resultList f.resultTypes.size)[j]? = some r → Value.okWide P W' .any 0 t r) :
    s.post enc P f apart fresh handsOn again W args v W' := by
  have hlt : ∀ p ∈ before, p.block < W.heap.size := fun p hp => hW.lt p hp
  have hold : ∀ p ∈ before, (fun b => decide (b < W.heap.size)) p.block = true := fun p hp => by simpa using hlt p hp
  refine ⟨ds, gs, before, [], pa, pv, hW, hres _ _ _, hargs _ hold, hvars _ hold, World.keptBut_mono (fun p hp => ⟨hp, ?_⟩) (hb.frame (· ∈ before)), fun _ => ?_⟩
  · rw [hps, List.mem_append] at hp
    exact Or.inr hp
  · obtain ⟨_, _, _, _, _, hz, hn⟩ := hW
    refine ⟨hok, _, _, ([] ++ pa) ++ pv, ⟨[] ++ pa, pv, trodAll_append (hargs _ (fun _ _ => rfl)) (hres _ _ _), hvars _ (fun _ _ => rfl), rfl, ?_, ?_⟩, ?_⟩
    · intro b off hp
      have hin : MemPlace.cell b off ∈ before := by rw [hps]; simpa using hp
      rw [hb.frozen (hlt _ hin)]
      exact hz b off hin
    · intro ha
      have := hn ha
      rw [hps] at this
      simpa using this
    · intro p hp _
      rw [hps]
      simpa using hp
end
theorem own : ownKnob Tryz.prog.godebug = none := by kernel_rfl
def setFirst : Obj → Obj
  | .cells _ t frozen => .cells (Go.Pinned.utf8FirstZ.map (fun (n : Nat) => Value.int .u8 (n : Int))).toArray t frozen
  | o => o
def setRanges : Obj → Obj
  | .cells _ t frozen => .cells #[.int .u8 128, .int .u8 191, .int .u8 160, .int .u8 191, .int .u8 128, .int .u8 159, .int .u8 144, .int .u8 191, .int .u8 128, .int .u8 143, .int .u8 0, .int .u8 0, .int .u8 0, .int .u8 0, .int .u8 0, .int .u8 0, .int .u8 0, .int .u8 0, .int .u8 0, .int .u8 0, .int .u8 0, .int .u8 0, .int .u8 0, .int .u8 0, .int .u8 0, .int .u8 0, .int .u8 0, .int .u8 0, .int .u8 0, .int .u8 0, .int .u8 0, .int .u8 0] t frozen
  | o => o
noncomputable def laidWorld (os : Os) : World :=
  { World.holding Tryz.prog os ⟨#[], #[], []⟩ with heap := ((World.holding Tryz.prog os ⟨#[], #[], []⟩).heap.modify 1 setFirst).modify 2 setRanges }
end Go.Proofs.YtaicidbopgnmfaaGreatDoor
