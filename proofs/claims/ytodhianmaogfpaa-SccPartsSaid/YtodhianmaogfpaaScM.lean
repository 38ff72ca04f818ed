/- A row of numbers put in order; the rows of scc.Reach. -/
import Derived.Test.YtodhianmaogfpaaScJ
import Derived.Test.YtodhianmaogfpaaTjI
import Derived.Lib.OwnBridge
namespace Go.Proofs.Ytodhianmaogfpaa
set_option linter.unusedSimpArgs false
set_option linter.unusedVariables false
open Go.RowKit
theorem flat_ofN : ∀ l : List Nat, (l.flatMap fun (e : Nat) => [Value.int .i64 e]) = (ofN l).map (Value.int .i64)
  | [] => rfl
  | a :: l => by rw [List.flatMap_cons, flat_ofN l]; rfl
theorem row_enc {w : World} {B : Nat} {v : Value} {l : List Nat} (h : Row w B v l) : w.ownsRow B 3 1 v l.length ((ofN l).map (Value.int .i64)) := by
  obtain ⟨css, hl, hR, ho⟩ := h
  have : css.flatten = (ofN l).map (Value.int .i64) := by
    have hc : css = l.map fun (e : Nat) => [Value.int .i64 e] := by
      apply List.ext_getElem (by simpa using hl)
      intro i h1 h2
      have hi : i < l.length := by simpa using h2
      obtain ⟨h3, _⟩ := hR i _ _ (List.getElem?_eq_getElem h1) (List.getElem?_eq_getElem hi)
      rw [List.getElem_map]
      exact h3
    rw [hc, ← List.flatMap_def, flat_ofN]
  rw [← this]
  exact ho
theorem enc_row {w : World} {B : Nat} {v : Value} {l : List Nat} (h : w.ownsRow B 3 1 v l.length ((ofN l).map (Value.int .i64))) : Row w B v l := by
  refine ⟨l.map fun (e : Nat) => [Value.int .i64 e], by simp, fun i cs x h1 h2 => ?_, ?_⟩
  · rw [List.getElem?_map, h2] at h1
    simp at h1
    subst h1
    exact ⟨rfl, rfl⟩
  · rw [← List.flatMap_def]
    rw [flat_ofN]
    exact h
theorem below_grow {w0 W : World} (h : Below w0.heap.size w0 W) (os : Array Obj) : Below w0.heap.size w0 (Sort.grow W os) :=
  ⟨h.os, h.tape, h.output, by show _ ≤ (W.heap ++ os).size; rw [Array.size_append]; have := h.size; omega, fun k hk => (Sort.heap_grow_old W os (by have := h.size; omega)).trans (h.block k hk)⟩
theorem sortRow {w0 w : World} {v : Value} {q : List Nat} (h : Row w w0.heap.size v q) (hq : q ≠ []) (hl : q.length ≤ 1000000) (hb : Below w0.heap.size w0 w) :
    Calls Try.prog 18 #[v] w fun e w' => e = .returned (.tuple #[]) ∧ Row w' w0.heap.size v (srtN q) ∧ Below w0.heap.size w0 w' := by
  have he := row_enc h
  obtain ⟨g, cap, rfl, hbg, hlt, _, _, hlen, hH⟩ := Lib.holds_of_ownsRow he (by
    intro e
    subst e
    obtain ⟨_, _, _, _, ho⟩ := h
    rcases ho with ⟨_, h0⟩ | ⟨_, _, _, h0, _⟩
    · exact hq (List.eq_nil_of_length_eq_zero h0)
    · cases h0)
  have hc := Try.slices_Sort_int g 0 cap (ofN q) w hH hlt (by rw [hlen]; omega)
  rw [hlen] at hc
  refine hc.mono ?_
  rintro e w' ⟨rfl, n, os, rfl⟩
  have hs : ((ofN q).mergeSort fun x y => decide (x ≤ y)).length = q.length := by rw [List.length_mergeSort]; exact hlen
  refine ⟨rfl, ?_, below_grow (Lib.below_putRow hb hbg) os⟩
  have h1 := Lib.ownsRow_putRow (q := n) (k := q.length) he hs (Nat.le_refl _)
  rw [List.take_of_length_le (by rw [hs]; exact Nat.le_refl _), ← ofN_srt] at h1
  rw [← ofN_srt]
  have h2 : Row (Sort.putRow (Value.int .i64) (Sort.ahead w n) g 0 (ofN (srtN q)).toArray) w0.heap.size (.slice (some ⟨g, 0, none⟩) q.length cap) (srtN q) := enc_row (by rw [srtN_len]; exact h1)
  refine Own.same h2 fun g' hg' => ?_
  obtain ⟨_, cur, hcur⟩ := Own.base h2 hg'
  exact Sort.heap_grow_old _ os (heap_lt hcur)
/-- the two rows of a search -/
structure RS (w1 wr : World) (n mb : Nat) (mq : List Nat) (ov : Value) (oq : List Nat) : Prop where
  met : Row wr w1.heap.size (.slice (some ⟨mb, 0, none⟩) n n) ((List.range n).map (mt mq))
  out : Row wr w1.heap.size ov oq
  far : ov.ownBlock ≠ some mb
  below : Below w1.heap.size w1 wr
section
variable {w1 wr w' : World} {n mb : Nat} {mq oq : List Nat} {ov : Value}
theorem RS.put (h : RS w1 wr n mb mq ov oq) {x : Nat} (hx : x < n) : RS w1 (wr.setCell ⟨mb, x, none⟩ (.int .i64 1)) n mb (mq ++ [x]) ov oq := by
  refine ⟨?_, h.out.same fun g hg => Below.heap_setCell wr ⟨mb, x, none⟩ _ g (fun e => h.far (hg.trans (congrArg some e))), h.far, h.below.setCell (Row.low h.met) _⟩
  rw [mt_push, ← map_set]
  exact h.met.put (by simpa using hx) 1
theorem RS.alloc (h : RS w1 wr n mb mq ov oq) (o : Obj) : RS w1 (wr.alloc o) n mb mq ov oq := ⟨h.met.alloc o, h.out.alloc o, h.far, h.below.alloc h.below.size o⟩
theorem RS.app (h : RS w1 wr n mb mq ov oq) {g m cap : Nat} {q' : List Nat} (ho : Row w' w1.heap.size (.slice (some ⟨g, 0, none⟩) m cap) q') (hg : wr.grownBy w' ov.ownBlock) (hat : ov.ownBlock = some g ∨ g = wr.heap.size) : RS w1 w' n mb mq (.slice (some ⟨g, 0, none⟩) m cap) q' := by
  refine ⟨h.met.same fun k hk => ?_, ho, fun e => ?_, h.below.grown hg h.below.size fun k hk => (h.out.base hk).1⟩
  · obtain rfl : mb = k := by simpa [Value.ownBlock] using hk
    exact hg.block mb (Row.lt h.met) fun e => h.far e.symm
  · obtain rfl : g = mb := by simpa [Value.ownBlock] using e
    rcases hat with h1 | h1
    · exact h.far h1
    · have := Row.lt h.met; omega
theorem RS.at_ (h : RS w1 wr n mb mq ov oq) {x : Nat} (hx : x < n) : wr.cell? ⟨mb, x, none⟩ = some (.int .i64 (mt mq x : Nat)) := Row.cell h.met (map_get _ hx)
end
end Go.Proofs.Ytodhianmaogfpaa
