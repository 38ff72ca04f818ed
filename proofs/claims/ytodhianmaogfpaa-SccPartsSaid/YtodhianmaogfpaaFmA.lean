/- Rows of numbers, each in a block of its own: a family of them, told apart. -/
import Derived.Test.YtodhianmaogfpaaProg
import Derived.Test.YtodhianmaogfpaaOs
namespace Go.Proofs.Ytodhianmaogfpaa
set_option linter.unusedSimpArgs false
set_option linter.unusedVariables false
open Go.RowKit
def upf {α : Type} (f : Nat → α) (k : Nat) (v : α) : Nat → α := fun j => if j = k then v else f j
theorem upf_at {α : Type} (f : Nat → α) (k : Nat) (v : α) : upf f k v k = v := by simp [upf]
theorem upf_ne {α : Type} {f : Nat → α} {k j : Nat} {v : α} (h : j ≠ k) : upf f k v j = f j := by simp [upf, h]
def RNat (cs : List Value) (n : Nat) : Prop := cs = [.int .i64 n]
theorem infNat : (Try.prog.info? 3).map (fun i => (i.zero, i.size, i.bytes)) = some (some (.int .i64 0), 1, 8) := by kernel_rfl
abbrev Row (w : World) (B : Nat) (v : Value) (l : List Nat) : Prop := Own w B 3 1 RNat v l
section
variable {w w' : World} {B : Nat} {v : Value} {l : List Nat} {g n cap : Nat}
theorem Row.cell (h : Row w B (.slice (some ⟨g, 0, none⟩) n cap) l) {i x : Nat} (hx : l[i]? = some x) : w.cell? ⟨g, i, none⟩ = some (.int .i64 x) := by
  obtain ⟨A, c, hv, hs⟩ := h.slc (z := 0) (by simp)
  injection hv with hv
  subst hv
  obtain ⟨y, b, o, cs, hy, hA, rfl, _, hr⟩ := hs.at_ (List.getElem?_eq_some_iff.1 hx).1
  injection hA with hA
  injection hA with h1 h2
  subst h1 h2
  obtain rfl : y = x := Option.some.inj (hy.symm.trans hx)
  have := hr 0 _ rfl
  simpa using this
theorem Row.len (h : Row w B (.slice (some ⟨g, 0, none⟩) n cap) l) : n = l.length := by
  obtain ⟨css, _, _, _, ho⟩ := h
  rcases ho with ⟨hv, _⟩ | ⟨_, _, _, hv, _⟩
  · cases hv
  · injection hv
theorem Row.capB (h : Row w B (.slice (some ⟨g, 0, none⟩) n cap) l) : l.length ≤ cap ∧ cap ≤ maxLen := by
  obtain ⟨css, _, _, _, ho⟩ := h
  rcases ho with ⟨hv, _⟩ | ⟨_, _, _, hv, _, _, h1, h2, _⟩
  · cases hv
  · injection hv with e1 e2 e3
    subst e3
    exact ⟨h1, h2⟩
theorem Row.low (h : Row w B (.slice (some ⟨g, 0, none⟩) n cap) l) : B ≤ g := (Own.base h (g := g) rfl).1
theorem Row.frz (h : Row w B (.slice (some ⟨g, 0, none⟩) n cap) l) (j : Nat) : w.frozen? ⟨g, j, none⟩ = false := Own.frz h j
theorem Row.lt (h : Row w B (.slice (some ⟨g, 0, none⟩) n cap) l) : g < w.heap.size := Own.sizeLt h
theorem Row.put (h : Row w B (.slice (some ⟨g, 0, none⟩) n cap) l) {i : Nat} (hi : i < l.length) (y : Nat) : Row (w.setCell ⟨g, i, none⟩ (.int .i64 y)) B (.slice (some ⟨g, 0, none⟩) n cap) (l.set i y) := by
  have := Own.set (j := 0) (y := y) (u := .int .i64 y) h (List.getElem?_eq_getElem hi) (by omega) (fun cs hcs => by rw [hcs]; rfl)
  simpa using this
/-- a row cut short -/
theorem Own.cut {α : Type} {e : TypeId} {k : Nat} {R : List Value → α → Prop} {l : List α} (h : Own w B e k R (.slice (some ⟨g, 0, none⟩) n cap) l) {m : Nat} (hm : m ≤ l.length) : Own w B e k R (.slice (some ⟨g, 0, none⟩) m cap) (l.take m) := by
  obtain ⟨css, hl, hR, hlen, ho⟩ := h
  have hkl := own_lens hl hR
  rcases ho with ⟨hv, _⟩ | ⟨g', cap', cur, hv, hb, hg, hnc, hcm, hcs, hxs⟩
  · cases hv
  · injection hv with h1 h2 h3
    injection h1 with h1
    injection h1 with h1
    subst h1 h2 h3
    have hfl : (css.take m).flatten = css.flatten.take (m * k) := by
      clear hlen hxs hg hcs hnc hR
      induction css generalizing m l with
      | nil => simp
      | cons c css ih =>
        cases m with
        | zero => simp
        | succ m =>
          cases l with
          | nil => simp at hl
          | cons x l =>
            have hc : c.length = k := hkl c (by simp)
            rw [List.take_succ_cons, List.flatten_cons, List.flatten_cons, Nat.succ_mul, Nat.add_comm, List.take_append, List.take_of_length_le (by omega : c.length ≤ k + m * k), hc, Nat.add_sub_cancel_left, ih (m := m) (l := l) (by simpa using hm) (by simpa using hl) (fun c' hc' => hkl c' (by simp [hc']))]
    have hml : (l.take m).length = m := by rw [List.length_take]; omega
    refine ⟨css.take m, by simp [hl], fun i cs x h1 h2 => ?_, ?_, .inr ⟨g, cap, cur, by rw [hml], hb, hg, by omega, hcm, hcs, ?_⟩⟩
    · have him : i < m := by have := (List.getElem?_eq_some_iff.1 h2).1; omega
      rw [List.getElem?_take_of_lt him] at h1 h2
      exact hR i cs x h1 h2
    · rw [hfl, List.length_take, hlen, hml]
      exact Nat.min_eq_left (Nat.mul_le_mul_right k hm)
    · rw [hfl, ← hxs, hml, List.take_take, Nat.min_eq_left (Nat.mul_le_mul_right k hm)]
theorem madeCells_toList (z : Value) (n : Nat) : (madeCells #[z] n).toList = List.replicate n z := by
  simp [madeCells, Nat.mod_one, List.map_const']
/-- a row just made -/
theorem Row.made (w : World) (hB : B ≤ w.heap.size) (n : Nat) (hn : n ≤ maxLen) : Row (w.alloc (.cells (madeCells #[.int .i64 0] n) 3)) B (.slice (some ⟨w.heap.size, 0, none⟩) n n) (List.replicate n 0) := by
  refine ⟨List.replicate n [.int .i64 0], by simp, fun i cs x h1 h2 => ?_, by simp, .inr ⟨w.heap.size, n, madeCells #[.int .i64 0] n, by simp, hB, heap_alloc_new w _, by simp, hn, ?_, ?_⟩⟩
  · rw [List.getElem?_replicate] at h1 h2
    by_cases hi : i < n
    · rw [if_pos hi] at h1 h2
      injection h1 with h1
      injection h2 with h2
      subst h1 h2
      exact ⟨rfl, rfl⟩
    · rw [if_neg hi] at h1; cases h1
  · have := congrArg List.length (madeCells_toList (.int .i64 0) n); simpa using this
  · rw [madeCells_toList]; simp
end
/-- a family of rows, told apart -/
structure Fam (w : World) (B : Nat) (V : Nat → Value) (L : Nat → List Nat) (I : Nat → Prop) : Prop where
  own : ∀ k, I k → Row w B (V k) (L k)
  apart : ∀ j k, I j → I k → j ≠ k → ∀ g, (V j).ownBlock = some g → (V k).ownBlock ≠ some g
section
variable {w w' : World} {B : Nat} {V : Nat → Value} {L : Nat → List Nat} {I : Nat → Prop} {k g n cap : Nat}
theorem Fam.keep {T : Nat → Prop} (h : Fam w B V L I) (hk : KeepB T w w') (hT : T 3) : Fam w' B V L I := ⟨fun k hi => hk.own (h.own k hi) hT, h.apart⟩
theorem Fam.alloc (h : Fam w B V L I) (o : Obj) : Fam (w.alloc o) B V L I := ⟨fun k hi => (h.own k hi).alloc o, h.apart⟩
theorem Fam.drewN (h : Fam w B V L I) (m : Nat) : Fam (w.drewN m) B V L I := ⟨fun k hi => (h.own k hi).drewN m, h.apart⟩
theorem Fam.next (h : Fam w B V L I) (hb : Below w.heap.size w w') : Fam w' B V L I := ⟨fun k hi => (h.own k hi).next hb, h.apart⟩
/-- a store into a block of another type -/
theorem Fam.other (h : Fam w B V L I) {p : Addr} (hp : ∀ cur, w.heap[p.block]? ≠ some (.cells cur 3 (0, 0))) (u : Value) : Fam (w.setCell p u) B V L I := ⟨fun k hi => (h.own k hi).setCell hp u, h.apart⟩
theorem Fam.congr (h : Fam w B V L I) {V' : Nat → Value} {L' : Nat → List Nat} {I' : Nat → Prop} (hI : ∀ k, I' k → I k) (hV : ∀ k, I' k → V' k = V k) (hL : ∀ k, I' k → L' k = L k) : Fam w B V' L' I' :=
  ⟨fun k hi => by rw [hV k hi, hL k hi]; exact h.own k (hI k hi), fun j k hj hk hne g => by rw [hV j hj, hV k hk]; exact h.apart j k (hI j hj) (hI k hk) hne g⟩
theorem Fam.put (h : Fam w B V L I) (hk : I k) (hv : V k = .slice (some ⟨g, 0, none⟩) n cap) {i : Nat} (hi : i < (L k).length) (y : Nat) : Fam (w.setCell ⟨g, i, none⟩ (.int .i64 y)) B V (upf L k ((L k).set i y)) I := by
  refine ⟨fun j hj => ?_, h.apart⟩
  by_cases e : j = k
  · subst e
    rw [upf_at, hv]
    have := h.own j hj
    rw [hv] at this
    exact this.put hi y
  · rw [upf_ne e]
    refine (h.own j hj).same fun g' hg' => Below.heap_setCell w ⟨g, i, none⟩ _ g' ?_
    intro e2
    subst e2
    exact h.apart j k hj hk e g' hg' (by rw [hv]; rfl)
/-- a row that grew -/
theorem Fam.app (h : Fam w B V L I) (hk : I k) {l : List Nat} (ho : Row w' B (.slice (some ⟨g, 0, none⟩) n cap) l) (hg : w.grownBy w' (V k).ownBlock) (hat : (V k).ownBlock = some g ∨ g = w.heap.size) : Fam w' B (upf V k (.slice (some ⟨g, 0, none⟩) n cap)) (upf L k l) I := by
  have hne : ∀ j, I j → j ≠ k → ∀ g', (V j).ownBlock = some g' → g' ≠ g := by
    intro j hj hjk g' hg' e
    subst e
    rcases hat with hat | hat
    · exact h.apart j k hj hk hjk g' hg' hat
    · obtain ⟨_, cur, hc⟩ := (h.own j hj).base hg'
      have := heap_lt hc
      omega
  refine ⟨fun j hj => ?_, fun i j hi hj hij g' hg' => ?_⟩
  · by_cases e : j = k
    · subst e; rw [upf_at, upf_at]; exact ho
    · rw [upf_ne e, upf_ne e]
      refine (h.own j hj).same fun g' hg' => ?_
      obtain ⟨_, cur, hc⟩ := (h.own j hj).base hg'
      exact hg.block g' (heap_lt hc) (fun he => h.apart j k hj hk e g' hg' he.symm)
  · by_cases e : i = k
    · subst e
      rw [upf_at] at hg'
      rw [upf_ne (Ne.symm hij)]
      obtain rfl : g = g' := by simpa [Value.ownBlock] using hg'
      exact fun he => hne j hj (Ne.symm hij) g he rfl
    · rw [upf_ne e] at hg'
      by_cases e2 : j = k
      · subst e2
        rw [upf_at]
        intro he
        obtain rfl : g = g' := by simpa [Value.ownBlock] using he
        exact hne i hi e g hg' rfl
      · rw [upf_ne e2]; exact h.apart i j hi hj hij g' hg'
/-- a row cut short -/
theorem Fam.cut (h : Fam w B V L I) (hk : I k) (hv : V k = .slice (some ⟨g, 0, none⟩) n cap) {m : Nat} (hm : m ≤ (L k).length) : Fam w B (upf V k (.slice (some ⟨g, 0, none⟩) m cap)) (upf L k ((L k).take m)) I := by
  refine ⟨fun j hj => ?_, fun i j hi hj hij g' hg' => ?_⟩
  · by_cases e : j = k
    · subst e
      rw [upf_at, upf_at]
      have := h.own j hj
      rw [hv] at this
      exact Own.cut this hm
    · rw [upf_ne e, upf_ne e]; exact h.own j hj
  · have hb : ∀ x, (upf V k (.slice (some ⟨g, 0, none⟩) m cap) x).ownBlock = (V x).ownBlock := by
      intro x
      by_cases e : x = k
      · subst e; rw [upf_at, hv]; rfl
      · rw [upf_ne e]
    rw [hb] at hg' ⊢
    exact h.apart i j hi hj hij g' hg'
/-- a row more -/
theorem Fam.add (h : Fam w B V L I) (hk : ¬ I k) {v : Value} {l : List Nat} (ho : Row w' B v l) (hb : Below w.heap.size w w') (hv : ∀ g, v.ownBlock = some g → w.heap.size ≤ g) : Fam w' B (upf V k v) (upf L k l) (fun j => I j ∨ j = k) := by
  have hold : ∀ j, I j → ∀ g, (V j).ownBlock = some g → g < w.heap.size := fun j hj g hg => let ⟨_, _, hc⟩ := (h.own j hj).base hg; heap_lt hc
  have hnk : ∀ j, I j → j ≠ k := fun j hj e => hk (e ▸ hj)
  refine ⟨fun j hj => ?_, fun i j hi hj hij g' hg' => ?_⟩
  · by_cases e : j = k
    · subst e; rw [upf_at, upf_at]; exact ho
    · rw [upf_ne e, upf_ne e]; exact (h.own j (hj.resolve_right e)).next hb
  · by_cases e : i = k
    · subst e
      rw [upf_at] at hg'
      rw [upf_ne (Ne.symm hij)]
      intro he
      have h1 := hold j (hj.resolve_right (Ne.symm hij)) g' he
      have h2 := hv g' hg'
      omega
    · rw [upf_ne e] at hg'
      have h1 := hold i (hi.resolve_right e) g' hg'
      by_cases e2 : j = k
      · subst e2
        rw [upf_at]
        intro he
        have h2 := hv g' he
        omega
      · rw [upf_ne e2]; exact h.apart i j (hi.resolve_right e) (hj.resolve_right e2) hij g' hg'
end
theorem fam0 (w : World) (B : Nat) (V : Nat → Value) (L : Nat → List Nat) : Fam w B V L fun _ => False := ⟨fun _ h => h.elim, fun _ _ h => h.elim⟩
/-- many nil rows -/
theorem fam_nil {w : World} {B : Nat} {V : Nat → Value} {L : Nat → List Nat} {I J : Nat → Prop} (h : Fam w B V L I) (hJ : ∀ k, J k → ¬ I k → V k = .slice none 0 0 ∧ L k = []) : Fam w B V L (fun k => I k ∨ J k) := by
  classical
  have hn : ∀ k, (I k ∨ J k) → ¬ I k → V k = .slice none 0 0 ∧ L k = [] := fun k hk hi => hJ k (hk.resolve_left hi) hi
  refine ⟨fun k hk => ?_, fun i j hi hj hij g hg => ?_⟩
  · by_cases e : I k
    · exact h.own k e
    · obtain ⟨h1, h2⟩ := hn k hk e
      rw [h1, h2]; exact Own.nil_ _ _ _ _ _
  · by_cases e : I i
    · by_cases e2 : I j
      · exact h.apart i j e e2 hij g hg
      · rw [(hn j hj e2).1]; simp [Value.ownBlock]
    · rw [(hn i hi e).1] at hg; simp [Value.ownBlock] at hg
/-- an array of values -/
def arrV (n : Nat) (V : Nat → Value) : Array Value := ((List.range n).map V).toArray
theorem arr_size (n : Nat) (V : Nat → Value) : (arrV n V).size = n := by simp [arrV]
theorem arr_get {n i : Nat} {V : Nat → Value} (h : i < n) : (arrV n V)[i]? = some (V i) := by simp [arrV, h]
theorem arr_set {n i : Nat} {V : Nat → Value} (v : Value) : (arrV n V).setIfInBounds i v = arrV n (upf V i v) := by
  apply Array.ext_getElem?
  intro j
  rw [Array.getElem?_setIfInBounds, arr_size]
  by_cases hj : j < n
  · rw [arr_get hj, arr_get hj]
    by_cases e : i = j
    · subst e; rw [if_pos rfl, if_pos hj, upf_at]
    · rw [if_neg e, upf_ne (Ne.symm e)]
  · have h1 : (arrV n V)[j]? = none := by rw [Array.getElem?_eq_none]; rw [arr_size]; omega
    have h2 : (arrV n (upf V i v))[j]? = none := by rw [Array.getElem?_eq_none]; rw [arr_size]; omega
    rw [h1, h2]
    by_cases e : i = j
    · rw [if_pos e, if_neg (by omega)]
    · rw [if_neg e]
theorem arr_made (z : Value) (n : Nat) : madeCells #[z] n = arrV n fun _ => z := by
  apply Array.toList_inj.1
  rw [madeCells_toList]
  simp [arrV, List.map_const']
end Go.Proofs.Ytodhianmaogfpaa
