/- From what an argument reads as to what the walks say of it: edges. -/
import Derived.Test.YtodhianmaogfpaaScA
import Derived.Test.YtodhianmaogfpaaProg
import Derived.Deep.Fields
import Derived.ChangeSame
import Derived.OpenShut
namespace Go.Proofs.Ytodhianmaogfpaa
set_option linter.unusedSimpArgs false
set_option linter.unusedVariables false
open Go.RowKit Go.ChangeShapes Go.WideShapes Go.Deep
section
variable {H : Type} {enc : TypeId × Value → H} {P : Program} {w : World} {spare : Nat → Bool} {held : Bool}
def Lite (P : Program) (t : TypeId) (d : DataW H) : Prop := ∀ m ∈ d.weights P t, m ≤ reachBytes
theorem addr_plain {a : Addr} {v : Value} (h : w.cell? (a.add 0) = some v) : a = ⟨a.block, a.off, none⟩ := by
  have h0 : a.add 0 = a := by simp [Addr.add]
  rw [h0] at h
  unfold World.cell? at h
  split at h
  · split at h
    · cases h
    · rename_i hs
      obtain ⟨b, o, s⟩ := a
      cases s with
      | none => rfl
      | some s => simp at hs
  · cases h
theorem weightsAll_mem : ∀ {l : List (DataW H)} {e : TypeId} {d : DataW H}, d ∈ l → ∀ n ∈ d.weights P e, n ∈ DataW.weightsAll P e l
  | x :: r, e, d, hd, n, hn => by
    simp only [DataW.weightsAll, List.mem_append]
    rcases List.mem_cons.1 hd with rfl | hd
    · exact .inl hn
    · exact .inr (weightsAll_mem hd n hn)
theorem slc_open {α : Type} {R : List Value → α → Prop} {t e : TypeId} {k z fuel : Nat} {cs : List Value} {x : DataW H × List MemPlace} (ht : P.underlying t = some (.slice e)) (hc : P.cellsOf e = k) (hk : 0 < k) (hz : P.bytesOf e = z)
    (hel : ∀ n cs y, DataW.trod enc P w 0 spare held n e cs = some y → Lite P e y.1 → ∃ a : α, R cs a)
    (h : DataW.trod enc P w 0 spare held fuel t cs = some x) (hw : Lite P t x.1) : ∃ A c l, cs = [.slice A l.length c] ∧ Slc w k z R A c l := by
  rcases open_slice ht h with ⟨rfl, rfl⟩ | ⟨a, len, cap, m, n, D, Pl, rfl, hb, hl, hm, hmm, rfl, hx⟩
  · exact ⟨none, 0, [], rfl, Slc.nil_ (by omega)⟩
  have hle : len ≤ m := by rw [hmm]; split <;> omega
  have hlen : len * z ≤ 140737488351232 := by
    have h1 : ((((List.range len).map D).length + ((List.range (m - len)).map fun j => D (len + j)).length) * P.bytesOf e) ≤ reachBytes := hw _ (by
      unfold DataW.weights
      rw [ht]
      exact List.mem_cons_self ..)
    simp only [List.length_map, List.length_range] at h1
    rw [hz] at h1
    have h2 : len * z ≤ (len + (m - len)) * z := Nat.mul_le_mul_right z (by omega)
    have h3 : reachBytes = 140737488351232 := rfl
    omega
  have each : ∀ i, i < len → ∃ x : α, ∃ cs, R cs x ∧ w.cells? 0 (a.add (i * P.cellsOf e)) (P.cellsOf e) = some cs := fun i hi => by
    obtain ⟨cs', h1, h2⟩ := hx i (by omega)
    obtain ⟨y, hy⟩ := hel n cs' _ h2 (fun q hq => hw q (by
      unfold DataW.weights
      rw [ht]
      exact List.mem_cons_of_mem _ (List.mem_append_left _ (weightsAll_mem (d := D i) (List.mem_map.2 ⟨i, List.mem_range.2 hi, rfl⟩) q hq))))
    exact ⟨y, cs', hy, h1⟩
  rcases Nat.eq_zero_or_pos len with h0 | h0
  · subst h0
    exact ⟨some a, cap, [], rfl, Slc.nil_ (by unfold maxLen at hm; omega)⟩
  have : Nonempty α := ⟨(each 0 h0).choose⟩
  have : Inhabited α := ⟨(each 0 h0).choose⟩
  obtain ⟨f, hf⟩ := choose_lt each
  have ha : a = ⟨a.block, a.off, none⟩ := by
    obtain ⟨cs', _, h1⟩ := hf 0 h0
    obtain ⟨_, hlen', hat⟩ := World.cells?_some h1
    have h2 := hat 0 (by omega)
    rw [List.getElem?_eq_getElem (by omega)] at h2
    rw [Nat.zero_mul] at h2
    have h3 : a.add 0 = a := by simp [Addr.add]
    rw [h3] at h2
    exact addr_plain h2
  refine ⟨some a, cap, (List.range len).map f, by simp, by simpa using hl, by unfold maxLen at hm; omega, by simpa using hlen, fun _ => ⟨a.block, a.off, by rw [← ha], fun i x hi => ?_⟩⟩
  have hil : i < len := by
    have := (List.getElem?_eq_some_iff.1 hi).1
    simpa using this
  have hxi : x = f i := by
    rw [List.getElem?_map, List.getElem?_range hil] at hi
    exact (Option.some.inj hi).symm
  subst hxi
  obtain ⟨cs', hr, h1⟩ := hf i hil
  obtain ⟨_, hlen', hat⟩ := World.cells?_some h1
  refine ⟨cs', hr, by omega, fun j v hj => ?_⟩
  have hjl : j < P.cellsOf e := by
    have := (List.getElem?_eq_some_iff.1 hj).1
    omega
  have h2 := hat j hjl
  rw [Go.Deep.add_add, hc, ha, Addr.add_mid] at h2
  rw [Nat.add_assoc]
  exact h2.trans hj

theorem fields_open {t : TypeId} {fs : Array Field} {fuel : Nat} {cs : List Value} {x : DataW H × List MemPlace} (he : P.underlying t = some (.struct fs)) (hone : oneCellFields P fs = true) (hC : P.cellsOf t = fs.size)
    (h : DataW.trod enc P w 0 spare held fuel t cs = some x) (hw : Lite P t x.1) :
    cs.length = fs.size ∧ ∃ n, ∀ (j : Nat) (f : Field), fs[j]? = some f → ∃ v y, cs[j]? = some v ∧ DataW.trod enc P w 0 spare held n f.type [v] = some y ∧ Lite P f.type y.1 := by
  obtain ⟨ys, n, hn, hy, hlen, hyl, hf⟩ := DataW.trod_struct he h
  subst hy
  refine ⟨by omega, n, fun j f hj => ?_⟩
  obtain ⟨ho, hk⟩ := hone_of hone j f hj
  have hjl : j < fs.size := (Array.getElem?_eq_some_iff.1 hj).1
  have h1 := hf j f hj
  rw [ho, hk] at h1
  have hv : cs[j]? = some (cs[j]'(by omega)) := List.getElem?_eq_getElem (by omega)
  have hone' : (cs.drop j).take 1 = [cs[j]'(by omega)] := by
    rw [List.drop_eq_getElem_cons (by omega)]
    rfl
  rw [hone'] at h1
  have hys : ys[j]? = some (ys[j]'(by omega)) := List.getElem?_eq_getElem (by omega)
  refine ⟨_, _, hv, h1.trans hys, fun m hm => hw m ?_⟩
  unfold DataW.weights
  rw [he]
  exact DataW.weights_mem_each (j := j) (t := f.type) (by rw [List.getElem?_map, Array.getElem?_toList, hj]; rfl) (by rw [List.getElem?_map, hys]; rfl) m hm
theorem str_open {t : TypeId} {n : Nat} {v : Value} {y : DataW H × List MemPlace} (ht : P.underlying t = some .string) (h : DataW.trod enc P w 0 spare held n t [v] = some y) (hw : Lite P t y.1) : ∃ l, v = .string (bs l) ∧ short l := by
  obtain ⟨s, h1, rfl, h2⟩ := DataW.trod_string ht h
  obtain rfl : v = .string s := by simpa using h1
  refine ⟨s.data.toList, rfl, ?_⟩
  have := hw s.data.toList.length (by simp [DataW.weights])
  exact this
theorem int_open {t : TypeId} {n : Nat} {v : Value} {y : DataW H × List MemPlace} (ht : P.underlying t = some (.int .i64)) (h : DataW.trod enc P w 0 spare held n t [v] = some y) : ∃ k : Int, v = .int .i64 k := by
  obtain ⟨k, h1, _, _⟩ := DataW.trod_int ht h
  exact ⟨k, by simpa using h1⟩
theorem bool_open {t : TypeId} {n : Nat} {v : Value} {y : DataW H × List MemPlace} (ht : P.underlying t = some .bool) (h : DataW.trod enc P w 0 spare held n t [v] = some y) : ∃ k : Bool, v = .bool k := by
  obtain ⟨k, h1, _⟩ := DataW.trod_bool ht h
  exact ⟨k, by simpa using h1⟩
end
section
variable {H : Type} {enc : TypeId × Value → H} {w : World} {v : Value} {d : DataW H} {p : List MemPlace}
theorem slice_cells {P : Program} {t e : TypeId} {r : Reach} {b : Nat} (ht : P.underlying t = some (.slice e)) (hv : Value.okWide P w r b t v) {A : Option Addr} {n c : Nat} (h : v.cells.toList = [.slice A n c]) : v = .slice A n c := by
  obtain ⟨a, len, cap, rfl⟩ := okWide_slice ht hv
  simpa [Value.cells] using h
set_option maxRecDepth 100000 in
theorem edge_open {spare : Nat → Bool} {held : Bool} {fuel : Nat} {cs : List Value} {x : DataW H × List MemPlace} (hf : DataW.trod enc Try.prog w 0 spare held fuel 29 cs = some x) : ∃ e, REdge cs e := by
  obtain ⟨xs, m, hm, hx, hl, hlen, hi⟩ := DataW.trod_array Try.underlying29 hf
  have hc3 : Try.prog.cellsOf 3 = 1 := by kernel_rfl
  have hc43 : Try.prog.cellsOf 29 = 2 := by kernel_rfl
  rw [hc43] at hl
  rw [hc3] at hi
  match cs, hl with
  | [v0, v1], _ =>
    have t : ∀ i (u : Value), i < 2 → (([v0, v1].drop (i * 1)).take 1) = [u] → ∃ k : Int, u = .int .i64 k := fun i u h5 hu => by
      have h1 := hi i h5
      rw [hu] at h1
      have hs : xs[i]? = some (xs[i]'(by omega)) := List.getElem?_eq_getElem (by omega)
      exact int_open Try.underlying3 (h1.trans hs)
    obtain ⟨a0, rfl⟩ := t 0 v0 (by omega) rfl
    obtain ⟨a1, rfl⟩ := t 1 v1 (by omega) rfl
    exact ⟨(a0, a1), rfl⟩
set_option maxRecDepth 100000 in
theorem Edges.of_arg {r : Reach} {b : Nat} {spare : Nat → Bool} {held : Bool} (hv : Value.okWide Try.prog w r b 22 v) (h : DataW.Trod enc Try.prog w 0 spare held 22 v d p) (hw : Lite Try.prog 22 d) : ∃ A c l, v = .slice A l.length c ∧ Edges w A c l := by
  obtain ⟨fuel, hf⟩ := h
  obtain ⟨A, c, l, he, hs⟩ := slc_open (R := REdge) (k := 2) (z := 16) Try.underlying22 (by kernel_rfl) (by decide) (by kernel_rfl) (fun _ _ _ h hw => edge_open h) hf hw
  exact ⟨A, c, l, slice_cells (P := Try.prog) (t := 22) (e := 29) Try.underlying22 hv he, hs⟩
theorem Int.of_arg {r : Reach} {b : Nat} (hv : Value.okWide Try.prog w r b 3 v) : ∃ k : Int, v = .int .i64 k := by
  obtain ⟨k, rfl, _⟩ := okWide_int Try.underlying3 hv
  exact ⟨k, rfl⟩
theorem Bool.of_arg {r : Reach} {b : Nat} (hv : Value.okWide Try.prog w r b 4 v) : ∃ k : Bool, v = .bool k := by
  obtain ⟨k, rfl⟩ := okWide_bool Try.underlying4 hv
  exact ⟨k, rfl⟩
end
end Go.Proofs.Ytodhianmaogfpaa
