/- From what an argument reads as to what the walks say of it: packages, entries, atoms, violations. -/
import Derived.Test.YtcbomomlojhghaaDoorPk
import Derived.Test.YtcbomomlojhghaaDoorProg
import Derived.Deep.Fields
import Derived.ChangeSame
namespace Go.Proofs.YtcbomomlojhghaaDoor
set_option linter.unusedSimpArgs false
set_option linter.unusedVariables false
open Go.RowKit Go.ChangeShapes Go.WideShapes Go.Deep
section
variable {H : Type} {enc : TypeId × Value → H} {P : Program} {w : World} {spare : Nat → Bool} {held : Bool}
def Lite (P : Program) (t : TypeId) (d : DataW H) : Prop := ∀ m ∈ d.weights P t, m ≤ reachBytes
theorem addr_plain {a : Addr} {v : Value} (h : w.cell? (a.add 0) = some v) : a = ⟨a.block, a.off, none⟩ := by
  have h0 : a.add 0 = a := by simp [Addr.add]
  rw [h0] at h
  unfold World.cell? at h
  split at h
  · split at h
    · cases h
    · rename_i hs
      obtain ⟨b, o, s⟩ := a
      cases s with
      | none => rfl
      | some s => simp at hs
  · cases h
theorem weightsAll_mem : ∀ {l : List (DataW H)} {e : TypeId} {d : DataW H}, d ∈ l → ∀ n ∈ d.weights P e, n ∈ DataW.weightsAll P e l
  | x :: r, e, d, hd, n, hn => by
    simp only [DataW.weightsAll, List.mem_append]
    rcases List.mem_cons.1 hd with rfl | hd
    · exact .inl hn
    · exact .inr (weightsAll_mem hd n hn)
theorem slc_open {α : Type} {R : List Value → α → Prop} {t e : TypeId} {k z fuel : Nat} {cs : List Value} {x : DataW H × List MemPlace} (ht : P.underlying t = some (.slice e)) (hc : P.cellsOf e = k) (hk : 0 < k) (hz : P.bytesOf e = z)
    (hel : ∀ n cs y, DataW.trod enc P w 0 spare held n e cs = some y → Lite P e y.1 → ∃ a : α, R cs a)
    (h : DataW.trod enc P w 0 spare held fuel t cs = some x) (hw : Lite P t x.1) : ∃ A c l, cs = [.slice A l.length c] ∧ Slc w k z R A c l := by
  rcases open_slice ht h with ⟨rfl, rfl⟩ | ⟨a, len, cap, m, n, D, Pl, rfl, hb, hl, hm, hmm, rfl, hx⟩
  · exact ⟨none, 0, [], rfl, Slc.nil_ (by omega)⟩
  have hle : len ≤ m := by rw [hmm]; split <;> omega
  have hlen : len * z ≤ 140737488351232 := by
    have h1 : ((((List.range len).map D).length + ((List.range (m - len)).map fun j => D (len + j)).length) * P.bytesOf e) ≤ reachBytes := hw _ (by
      unfold DataW.weights
      rw [ht]
      exact List.mem_cons_self ..)
    simp only [List.length_map, List.length_range] at h1
    rw [hz] at h1
    have h2 : len * z ≤ (len + (m - len)) * z := Nat.mul_le_mul_right z (by omega)
    have h3 : reachBytes = 140737488351232 := rfl
    omega
  have each : ∀ i, i < len → ∃ x : α, ∃ cs, R cs x ∧ w.cells? 0 (a.add (i * P.cellsOf e)) (P.cellsOf e) = some cs := fun i hi => by
    obtain ⟨cs', h1, h2⟩ := hx i (by omega)
    obtain ⟨y, hy⟩ := hel n cs' _ h2 (fun q hq => hw q (by
      unfold DataW.weights
      rw [ht]
      exact List.mem_cons_of_mem _ (List.mem_append_left _ (weightsAll_mem (d := D i) (List.mem_map.2 ⟨i, List.mem_range.2 hi, rfl⟩) q hq))))
    exact ⟨y, cs', hy, h1⟩
  rcases Nat.eq_zero_or_pos len with h0 | h0
  · subst h0
    exact ⟨some a, cap, [], rfl, Slc.nil_ (by unfold maxLen at hm; omega)⟩
  have : Nonempty α := ⟨(each 0 h0).choose⟩
  have : Inhabited α := ⟨(each 0 h0).choose⟩
  obtain ⟨f, hf⟩ := choose_lt each
  have ha : a = ⟨a.block, a.off, none⟩ := by
    obtain ⟨cs', _, h1⟩ := hf 0 h0
    obtain ⟨_, hlen', hat⟩ := World.cells?_some h1
    have h2 := hat 0 (by omega)
    rw [List.getElem?_eq_getElem (by omega)] at h2
    rw [Nat.zero_mul] at h2
    have h3 : a.add 0 = a := by simp [Addr.add]
    rw [h3] at h2
    exact addr_plain h2
  refine ⟨some a, cap, (List.range len).map f, by simp, by simpa using hl, by unfold maxLen at hm; omega, by simpa using hlen, fun _ => ⟨a.block, a.off, by rw [← ha], fun i x hi => ?_⟩⟩
  have hil : i < len := by
    have := (List.getElem?_eq_some_iff.1 hi).1
    simpa using this
  have hxi : x = f i := by
    rw [List.getElem?_map, List.getElem?_range hil] at hi
    exact (Option.some.inj hi).symm
  subst hxi
  obtain ⟨cs', hr, h1⟩ := hf i hil
  obtain ⟨_, hlen', hat⟩ := World.cells?_some h1
  refine ⟨cs', hr, by omega, fun j v hj => ?_⟩
  have hjl : j < P.cellsOf e := by
    have := (List.getElem?_eq_some_iff.1 hj).1
    omega
  have h2 := hat j hjl
  rw [Go.Deep.add_add, hc, ha, Addr.add_mid] at h2
  rw [Nat.add_assoc]
  exact h2.trans hj

theorem fields_open {t : TypeId} {fs : Array Field} {fuel : Nat} {cs : List Value} {x : DataW H × List MemPlace} (he : P.underlying t = some (.struct fs)) (hone : oneCellFields P fs = true) (hC : P.cellsOf t = fs.size)
    (h : DataW.trod enc P w 0 spare held fuel t cs = some x) (hw : Lite P t x.1) :
    cs.length = fs.size ∧ ∃ n, ∀ (j : Nat) (f : Field), fs[j]? = some f → ∃ v y, cs[j]? = some v ∧ DataW.trod enc P w 0 spare held n f.type [v] = some y ∧ Lite P f.type y.1 := by
  obtain ⟨ys, n, hn, hy, hlen, hyl, hf⟩ := DataW.trod_struct he h
  subst hy
  refine ⟨by omega, n, fun j f hj => ?_⟩
  obtain ⟨ho, hk⟩ := hone_of hone j f hj
  have hjl : j < fs.size := (Array.getElem?_eq_some_iff.1 hj).1
  have h1 := hf j f hj
  rw [ho, hk] at h1
  have hv : cs[j]? = some (cs[j]'(by omega)) := List.getElem?_eq_getElem (by omega)
  have hone' : (cs.drop j).take 1 = [cs[j]'(by omega)] := by
    rw [List.drop_eq_getElem_cons (by omega)]
    rfl
  rw [hone'] at h1
  have hys : ys[j]? = some (ys[j]'(by omega)) := List.getElem?_eq_getElem (by omega)
  refine ⟨_, _, hv, h1.trans hys, fun m hm => hw m ?_⟩
  unfold DataW.weights
  rw [he]
  exact DataW.weights_mem_each (j := j) (t := f.type) (by rw [List.getElem?_map, Array.getElem?_toList, hj]; rfl) (by rw [List.getElem?_map, hys]; rfl) m hm
theorem str_open {t : TypeId} {n : Nat} {v : Value} {y : DataW H × List MemPlace} (ht : P.underlying t = some .string) (h : DataW.trod enc P w 0 spare held n t [v] = some y) (hw : Lite P t y.1) : ∃ l, v = .string (bs l) ∧ short l := by
  obtain ⟨s, h1, rfl, h2⟩ := DataW.trod_string ht h
  obtain rfl : v = .string s := by simpa using h1
  refine ⟨s.data.toList, rfl, ?_⟩
  have := hw s.data.toList.length (by simp [DataW.weights])
  exact this
theorem int_open {t : TypeId} {n : Nat} {v : Value} {y : DataW H × List MemPlace} (ht : P.underlying t = some (.int .i64)) (h : DataW.trod enc P w 0 spare held n t [v] = some y) : ∃ k : Int, v = .int .i64 k := by
  obtain ⟨k, h1, _, _⟩ := DataW.trod_int ht h
  exact ⟨k, by simpa using h1⟩
theorem bool_open {t : TypeId} {n : Nat} {v : Value} {y : DataW H × List MemPlace} (ht : P.underlying t = some .bool) (h : DataW.trod enc P w 0 spare held n t [v] = some y) : ∃ k : Bool, v = .bool k := by
  obtain ⟨k, h1, _⟩ := DataW.trod_bool ht h
  exact ⟨k, by simpa using h1⟩
end
section
variable {H : Type} {enc : TypeId × Value → H} {w : World} {spare : Nat → Bool} {held : Bool} {fuel : Nat} {cs : List Value} {x : DataW H × List MemPlace}
theorem atm_open (h : DataW.trod enc Tryd.prog w 0 spare held fuel 99 cs = some x) (hw : Lite Tryd.prog 99 x.1) : ∃ a, RAtm cs a := by
  obtain ⟨hl, n, hf⟩ := fields_open Tryd.underlying99 (by kernel_rfl) (by kernel_rfl) h hw
  obtain ⟨v0, y0, c0, t0, w0⟩ := hf 0 _ rfl
  obtain ⟨v1, y1, c1, t1, w1⟩ := hf 1 _ rfl
  obtain ⟨v2, y2, c2, t2, w2⟩ := hf 2 _ rfl
  obtain ⟨l0, rfl, s0⟩ := str_open Tryd.underlying9 t0 w0
  obtain ⟨k1, rfl⟩ := int_open Tryd.underlying3 t1
  obtain ⟨l2, rfl, s2⟩ := str_open Tryd.underlying9 t2 w2
  match cs, hl with
  | [c0', c1', c2'], _ =>
    simp at c0 c1 c2
    subst c0 c1 c2
    exact ⟨⟨l0, k1, l2⟩, rfl, s0, s2⟩
theorem prv_open (h : DataW.trod enc Tryd.prog w 0 spare held fuel 101 cs = some x) (hw : Lite Tryd.prog 101 x.1) : ∃ a, RPrv cs a := by
  obtain ⟨hl, n, hf⟩ := fields_open Tryd.underlying101 (by kernel_rfl) (by kernel_rfl) h hw
  obtain ⟨v0, y0, c0, t0, w0⟩ := hf 0 _ rfl
  obtain ⟨v1, y1, c1, t1, w1⟩ := hf 1 _ rfl
  obtain ⟨l0, rfl, s0⟩ := str_open Tryd.underlying9 t0 w0
  obtain ⟨l1, rfl, s1⟩ := str_open Tryd.underlying9 t1 w1
  match cs, hl with
  | [c0', c1'], _ =>
    simp at c0 c1
    subst c0 c1
    exact ⟨⟨l0, l1⟩, rfl, s0, s1⟩
theorem atms_open {t : TypeId} (ht : Tryd.prog.underlying t = some (.slice 99)) (h : DataW.trod enc Tryd.prog w 0 spare held fuel t cs = some x) (hw : Lite Tryd.prog t x.1) : ∃ A c l, cs = [.slice A l.length c] ∧ Atms w A c l :=
  slc_open ht (by kernel_rfl) (by decide) (by kernel_rfl) (fun _ _ _ h hw => atm_open h hw) h hw
theorem cls_open (h : DataW.trod enc Tryd.prog w 0 spare held fuel 56 cs = some x) (hw : Lite Tryd.prog 56 x.1) : ∃ l, RCls w cs l := by
  obtain ⟨A, c, l, h1, h2⟩ := atms_open Tryd.underlying56 h hw
  exact ⟨l, A, c, h1, h2⟩
theorem clss_open {t : TypeId} (ht : Tryd.prog.underlying t = some (.slice 56)) (h : DataW.trod enc Tryd.prog w 0 spare held fuel t cs = some x) (hw : Lite Tryd.prog t x.1) : ∃ A c l, cs = [.slice A l.length c] ∧ Clss w A c l :=
  slc_open ht (by kernel_rfl) (by decide) (by kernel_rfl) (fun _ _ _ h hw => cls_open h hw) h hw
theorem prvs_open {t : TypeId} (ht : Tryd.prog.underlying t = some (.slice 101)) (h : DataW.trod enc Tryd.prog w 0 spare held fuel t cs = some x) (hw : Lite Tryd.prog t x.1) : ∃ A c l, cs = [.slice A l.length c] ∧ Prvs w A c l :=
  slc_open ht (by kernel_rfl) (by decide) (by kernel_rfl) (fun _ _ _ h hw => prv_open h hw) h hw
theorem pkg_open (h : DataW.trod enc Tryd.prog w 0 spare held fuel 28 cs = some x) (hw : Lite Tryd.prog 28 x.1) : ∃ p, RPkg w cs p := by
  obtain ⟨hl, n, hf⟩ := fields_open Tryd.underlying28 (by kernel_rfl) (by kernel_rfl) h hw
  obtain ⟨v0, y0, c0, t0, w0⟩ := hf 0 _ rfl
  obtain ⟨v1, y1, c1, t1, w1⟩ := hf 1 _ rfl
  obtain ⟨v2, y2, c2, t2, w2⟩ := hf 2 _ rfl
  obtain ⟨v3, y3, c3, t3, w3⟩ := hf 3 _ rfl
  obtain ⟨v4, y4, c4, t4, w4⟩ := hf 4 _ rfl
  obtain ⟨v5, y5, c5, t5, w5⟩ := hf 5 _ rfl
  obtain ⟨v6, y6, c6, t6, w6⟩ := hf 6 _ rfl
  obtain ⟨v7, y7, c7, t7, w7⟩ := hf 7 _ rfl
  obtain ⟨v8, y8, c8, t8, w8⟩ := hf 8 _ rfl
  obtain ⟨l0, rfl, s0⟩ := str_open Tryd.underlying9 t0 w0
  obtain ⟨l1, rfl, s1⟩ := str_open Tryd.underlying9 t1 w1
  obtain ⟨A2, k2, l2, e2, s2⟩ := clss_open Tryd.underlying24 t2 w2
  obtain ⟨A3, k3, l3, e3, s3⟩ := clss_open Tryd.underlying24 t3 w3
  obtain ⟨A4, k4, l4, e4, s4⟩ := clss_open Tryd.underlying24 t4 w4
  obtain ⟨A5, k5, l5, e5, s5⟩ := atms_open Tryd.underlying25 t5 w5
  obtain ⟨A6, k6, l6, e6, s6⟩ := atms_open Tryd.underlying25 t6 w6
  obtain ⟨A7, k7, l7, e7, s7⟩ := prvs_open Tryd.underlying26 t7 w7
  obtain ⟨b8, rfl⟩ := bool_open Tryd.underlying4 t8
  match cs, hl with
  | [_, _, _, _, _, _, _, _, _], _ =>
    simp at c0 c1 c2 c3 c4 c5 c6 c7 c8 e2 e3 e4 e5 e6 e7
    subst c0 c1 c2 c3 c4 c5 c6 c7 c8
    subst e2 e3 e4 e5 e6 e7
    exact ⟨⟨l0, l1, l2, l3, l4, l5, l6, l7, b8⟩, ⟨A2, A3, A4, A5, A6, A7, k2, k3, k4, k5, k6, k7⟩, rfl, s0, s1, s2, s3, s4, s5, s6, s7⟩
theorem len3 {α : Type} {l : List α} (h : l.length = 3) : ∃ a b c, l = [a, b, c] := by
  match l, h with
  | [a, b, c], _ => exact ⟨a, b, c, rfl⟩
theorem len11 {α : Type} {l : List α} (h : l.length = 11) : ∃ a b c d e f g h i j k, l = [a, b, c, d, e, f, g, h, i, j, k] := by
  match l, h with
  | [a, b, c, d, e, f, g, h, i, j, k], _ => exact ⟨a, b, c, d, e, f, g, h, i, j, k, rfl⟩
set_option maxRecDepth 100000 in
theorem ent_open (h : DataW.trod enc Tryd.prog w 0 spare held fuel 58 cs = some x) (hw : Lite Tryd.prog 58 x.1) : ∃ p, REnt w cs p := by
  obtain ⟨ys, n, hn, hy, hlen, hyl, hf⟩ := DataW.trod_struct Tryd.underlying58 h
  subst hy
  have hlen' : cs.length = 11 := hlen.trans (by kernel_rfl)
  have hlit : ∀ (j : Nat) (y : DataW H × List MemPlace) (t : TypeId), ys[j]? = some y → ((#[_, _, _] : Array Field).toList.map (·.type))[j]? = some t → Lite Tryd.prog t y.1 := fun j y t hj ht m hm => hw m (by
    unfold DataW.weights
    rw [Tryd.underlying58]
    exact DataW.weights_mem_each (j := j) (t := t) ht (by rw [List.getElem?_map, hj]; rfl) m hm)
  have h0 := hf 0 _ rfl
  have h1 := hf 1 _ rfl
  have h2 := hf 2 _ rfl
  have k0 : Tryd.prog.cellsOf 28 = 9 := by kernel_rfl
  have k4 : Tryd.prog.cellsOf 4 = 1 := by kernel_rfl
  obtain ⟨d0, d1, d2, d3, d4, d5, d6, d7, d8, d9, d10, rfl⟩ := len11 hlen'
  obtain ⟨y0, y1, y2, rfl⟩ := len3 (hyl.trans (by rfl))
  have g0 : DataW.trod enc Tryd.prog w 0 spare held n 28 [d0, d1, d2, d3, d4, d5, d6, d7, d8] = some y0 := by
    rw [show [d0, d1, d2, d3, d4, d5, d6, d7, d8] = (([d0, d1, d2, d3, d4, d5, d6, d7, d8, d9, d10] : List Value).drop 0).take (Tryd.prog.cellsOf 28) from by rw [k0]; rfl]
    exact h0
  have g1 : DataW.trod enc Tryd.prog w 0 spare held n 4 [d9] = some y1 := by
    rw [show [d9] = (([d0, d1, d2, d3, d4, d5, d6, d7, d8, d9, d10] : List Value).drop 9).take (Tryd.prog.cellsOf 4) from by rw [k4]; rfl]
    exact h1
  have g2 : DataW.trod enc Tryd.prog w 0 spare held n 4 [d10] = some y2 := by
    rw [show [d10] = (([d0, d1, d2, d3, d4, d5, d6, d7, d8, d9, d10] : List Value).drop 10).take (Tryd.prog.cellsOf 4) from by rw [k4]; rfl]
    exact h2
  obtain ⟨p, r, he, hr⟩ := pkg_open g0 (hlit 0 y0 _ rfl rfl)
  obtain ⟨b1, rfl⟩ := bool_open Tryd.underlying4 g1
  obtain ⟨b2, rfl⟩ := bool_open Tryd.underlying4 g2
  simp only [encK, List.cons.injEq, and_true] at he
  obtain ⟨rfl, rfl, rfl, rfl, rfl, rfl, rfl, rfl, rfl⟩ := he
  exact ⟨⟨p, b1, b2⟩, r, rfl, hr⟩
end
section
variable {H : Type} {enc : TypeId × Value → H} {w : World} {v : Value} {d : DataW H} {p : List MemPlace}
theorem slice_cells {P : Program} {t e : TypeId} {r : Reach} {b : Nat} (ht : P.underlying t = some (.slice e)) (hv : Value.okWide P w r b t v) {A : Option Addr} {n c : Nat} (h : v.cells.toList = [.slice A n c]) : v = .slice A n c := by
  obtain ⟨a, len, cap, rfl⟩ := okWide_slice ht hv
  simpa [Value.cells] using h
set_option maxRecDepth 100000 in
theorem Ents.of_arg {r : Reach} {b : Nat} {spare : Nat → Bool} {held : Bool} (hv : Value.okWide Tryd.prog w r b 23 v) (h : DataW.Trod enc Tryd.prog w 0 spare held 23 v d p) (hw : Lite Tryd.prog 23 d) : ∃ A c l, v = .slice A l.length c ∧ Ents w A c l := by
  obtain ⟨fuel, hf⟩ := h
  obtain ⟨A, c, l, he, hs⟩ := slc_open (R := REnt w) (k := 11) (z := 192) Tryd.underlying23 (by kernel_rfl) (by decide) (by kernel_rfl) (fun _ _ _ h hw => ent_open h hw) hf hw
  exact ⟨A, c, l, slice_cells (P := Tryd.prog) (t := 23) (e := 58) Tryd.underlying23 hv he, hs⟩
set_option maxRecDepth 100000 in
theorem Pkgs.of_arg {r : Reach} {b : Nat} {spare : Nat → Bool} {held : Bool} (hv : Value.okWide Tryd.prog w r b 22 v) (h : DataW.Trod enc Tryd.prog w 0 spare held 22 v d p) (hw : Lite Tryd.prog 22 d) : ∃ A c l, v = .slice A l.length c ∧ Pkgs w A c l := by
  obtain ⟨fuel, hf⟩ := h
  obtain ⟨A, c, l, he, hs⟩ := slc_open (R := RPkg w) (k := 9) (z := 184) Tryd.underlying22 (by kernel_rfl) (by decide) (by kernel_rfl) (fun _ _ _ h hw => pkg_open h hw) hf hw
  exact ⟨A, c, l, slice_cells (P := Tryd.prog) (t := 22) (e := 28) Tryd.underlying22 hv he, hs⟩
end
end Go.Proofs.YtcbomomlojhghaaDoor
