/- A cost that came in: an array of five numbers, opened. -/
import Derived.Test.YthgghkicdclinaaDoorPo
import Derived.Test.YthgghkicdclinaaDoorPa
import Derived.OpenShut
namespace Go.Proofs.YthgghkicdclinaaDoor
set_option linter.unusedSimpArgs false
set_option linter.unusedVariables false
open Go.RowKit Go.ChangeShapes Go.WideShapes Go.Deep
section
variable {H : Type} {enc : TypeId × Value → H} {w : World} {v : Value} {d : DataW H} {p : List MemPlace}
set_option maxRecDepth 100000 in
theorem Cost.of_arg5 {r : Reach} {b : Nat} {spare : Nat → Bool} {held : Bool} (hv : Value.okWide Tryd.prog w r b 43 v) (h : DataW.Trod enc Tryd.prog w 0 spare held 43 v d p) : ∃ a0 a1 a2 a3 a4 : Int, v = .agg #[.int .i64 a0, .int .i64 a1, .int .i64 a2, .int .i64 a3, .int .i64 a4] := by
  obtain ⟨fuel, hf⟩ := h
  obtain ⟨xs, m, hm, hx, hl, hlen, hi⟩ := DataW.trod_array Tryd.underlying43 hf
  have hc3 : Tryd.prog.cellsOf 3 = 1 := by kernel_rfl
  have hc43 : Tryd.prog.cellsOf 43 = 5 := by kernel_rfl
  rw [hc43] at hl
  rw [hc3] at hi
  unfold Value.okWide at hv
  rw [Tryd.underlying43] at hv
  obtain ⟨cs, rfl, _, _⟩ := hv
  simp only [Value.cells] at hl hi
  obtain ⟨l⟩ := cs
  match l, hl with
  | [v0, v1, v2, v3, v4], _ =>
    have t : ∀ i (u : Value), i < 5 → (([v0, v1, v2, v3, v4].drop (i * 1)).take 1) = [u] → ∃ k : Int, u = .int .i64 k := fun i u h5 hu => by
      have h1 := hi i h5
      rw [hu] at h1
      have hs : xs[i]? = some (xs[i]'(by omega)) := List.getElem?_eq_getElem (by omega)
      exact int_open Tryd.underlying3 (h1.trans hs)
    obtain ⟨a0, rfl⟩ := t 0 v0 (by omega) rfl
    obtain ⟨a1, rfl⟩ := t 1 v1 (by omega) rfl
    obtain ⟨a2, rfl⟩ := t 2 v2 (by omega) rfl
    obtain ⟨a3, rfl⟩ := t 3 v3 (by omega) rfl
    obtain ⟨a4, rfl⟩ := t 4 v4 (by omega) rfl
    exact ⟨a0, a1, a2, a3, a4, rfl⟩
end
end Go.Proofs.YthgghkicdclinaaDoor
