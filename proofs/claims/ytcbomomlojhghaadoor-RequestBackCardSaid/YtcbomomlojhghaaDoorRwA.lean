/- Rows of the call's own, of elements of many cells: cut short, a stretch moved to the left, zeros behind the end; clear at many cells. -/
import Derived.Test.YtcbomomlojhghaaDoorOw
import Derived.Test.YtcbomomlojhghaaDoorOs
import Derived.Laws.IdiomCopy
import Derived.Lib.SliceRun
import Derived.ArgAppend
import Derived.Deep.RegionLaw
namespace Go.Proofs.YtcbomomlojhghaaDoor
set_option linter.unusedSimpArgs false
set_option linter.unusedVariables false
open Go.RowKit
def putL (cur : Array Value) (o : Nat) : List Value → Array Value
  | [] => cur
  | v :: vs => putL (cur.setIfInBounds o v) (o + 1) vs
theorem setCells_heap {b e : Nat} {fz : Nat × Nat} : ∀ (vs : List Value) (o : Nat) (w : World) (cur : Array Value), w.heap[b]? = some (.cells cur e fz) → (w.setCells b o vs).heap[b]? = some (.cells (putL cur o vs) e fz)
  | [], _, _, _, h => h
  | v :: vs, o, w, cur, h => setCells_heap vs (o + 1) _ _ (by simp [World.setCell, Array.getElem?_modify, h])
theorem setCells_far {b k : Nat} (hk : k ≠ b) : ∀ (vs : List Value) (o : Nat) (w : World), (w.setCells b o vs).heap[k]? = w.heap[k]?
  | [], _, _ => rfl
  | v :: vs, o, w => (setCells_far hk vs (o + 1) _).trans (Below.heap_setCell w ⟨b, o, none⟩ v k hk)
theorem setCells_hsize (b : Nat) : ∀ (vs : List Value) (o : Nat) (w : World), (w.setCells b o vs).heap.size = w.heap.size
  | [], _, _ => rfl
  | v :: vs, o, w => by rw [World.setCells, setCells_hsize b vs]; simp [World.setCell]
theorem below_setCellsR {B b : Nat} {a : World} (hb : B ≤ b) : ∀ (vs : List Value) (o : Nat) (w : World), Below B a w → Below B a (w.setCells b o vs)
  | [], _, _, h => h
  | v :: vs, o, w, h => below_setCellsR hb vs (o + 1) _ (h.setCell (p := ⟨b, o, none⟩) hb v)
theorem putL_size : ∀ (vs : List Value) (o : Nat) (cur : Array Value), (putL cur o vs).size = cur.size
  | [], _, _ => rfl
  | v :: vs, o, cur => by rw [putL, putL_size vs]; simp
theorem putL_list : ∀ (vs : List Value) (o : Nat) (cur : Array Value), o + vs.length ≤ cur.size → (putL cur o vs).toList = cur.toList.take o ++ vs ++ cur.toList.drop (o + vs.length)
  | [], o, cur, _ => by simp [putL]
  | v :: vs, o, cur, h => by
    rw [List.length_cons] at h
    rw [putL, putL_list vs (o + 1) _ (by simp; omega), Array.toList_setIfInBounds, List.length_cons]
    have hs : o < cur.toList.length := by simp; omega
    have h1 : (cur.toList.set o v).take (o + 1) = cur.toList.take o ++ [v] := by
      apply List.ext_getElem?
      intro i
      rw [List.getElem?_take, List.getElem?_append, List.length_take, Nat.min_eq_left (by omega), List.getElem?_set]
      rcases Nat.lt_trichotomy i o with hi | hi | hi
      · rw [if_pos (by omega), if_neg (by omega), if_pos hi, List.getElem?_take, if_pos hi]
      · subst hi
        rw [if_pos (by omega), if_pos rfl, if_pos hs, if_neg (by omega), Nat.sub_self]; rfl
      · rw [if_neg (by omega), if_neg (by omega), show i - o = (i - o - 1) + 1 from by omega]; rfl
    have h2 : (cur.toList.set o v).drop (o + 1 + vs.length) = cur.toList.drop (o + (vs.length + 1)) := by
      apply List.ext_getElem?
      intro i
      rw [List.getElem?_drop, List.getElem?_drop, List.getElem?_set, if_neg (by omega)]
      congr 1
      omega
    rw [h1, h2]
    simp
theorem flat_takeR {α : Type} {k : Nat} : ∀ {css : List (List α)} (i : Nat), (∀ cs ∈ css, cs.length = k) → (css.take i).flatten = css.flatten.take (i * k)
  | css, 0, _ => by simp
  | [], i + 1, _ => by simp
  | c :: css, i + 1, h => by
    have hc : c.length = k := h c (List.mem_cons_self ..)
    rw [List.take_succ_cons, List.flatten_cons, List.flatten_cons, flat_takeR i (fun x hx => h x (List.mem_cons_of_mem _ hx)), show (i + 1) * k = c.length + i * k from by rw [hc, Nat.succ_mul]; omega, List.take_length_add_append]
theorem flat_dropR {α : Type} {k : Nat} : ∀ {css : List (List α)} (i : Nat), (∀ cs ∈ css, cs.length = k) → (css.drop i).flatten = css.flatten.drop (i * k)
  | css, 0, _ => by simp
  | [], i + 1, _ => by simp
  | c :: css, i + 1, h => by
    have hc : c.length = k := h c (List.mem_cons_self ..)
    rw [List.drop_succ_cons, List.flatten_cons, flat_dropR i (fun x hx => h x (List.mem_cons_of_mem _ hx)), show (i + 1) * k = c.length + i * k from by rw [hc, Nat.succ_mul]; omega, List.drop_length_add_append]
theorem flat_lenR {α : Type} {k : Nat} : ∀ {css : List (List α)}, (∀ cs ∈ css, cs.length = k) → css.flatten.length = css.length * k
  | [], _ => by simp
  | c :: css, h => by
    rw [List.flatten_cons, List.length_append, flat_lenR (fun x hx => h x (List.mem_cons_of_mem _ hx)), h c (List.mem_cons_self ..), List.length_cons, Nat.succ_mul]
    omega
section
variable {α : Type} {w w' : World} {B : Nat} {e : TypeId} {k : Nat} {R : List Value → α → Prop} {g n cap : Nat} {l : List α}
theorem Own.rawc (h : Own w B e k R (.slice (some ⟨g, 0, none⟩) n cap) l) : n = l.length ∧ B ≤ g ∧ ∃ (cur : Array Value) (css : List (List Value)), w.heap[g]? = some (.cells cur e (0, 0)) ∧ l.length ≤ cap ∧ cap ≤ maxLen ∧ cur.size = cap * k ∧
    css.length = l.length ∧ (∀ (i : Nat) (cs : List Value) (x : α), css[i]? = some cs → l[i]? = some x → R cs x ∧ cs.length = k) ∧ cur.toList.take (l.length * k) = css.flatten := by
  obtain ⟨css, hl, hR, hlen, ho⟩ := h
  rcases ho with ⟨hv, _⟩ | ⟨g', cap', cur, hv, hb, hg, hnc, hcm, hcs, hxs⟩
  · cases hv
  · injection hv with h1 h2 h3
    injection h1 with h1
    injection h1 with h1
    subst h1 h2 h3
    exact ⟨rfl, hb, cur, css, hg, hnc, hcm, hcs, hl, hR, hxs⟩
theorem Own.of_rawc {cur : Array Value} {css : List (List Value)} (hb : B ≤ g) (hg : w.heap[g]? = some (.cells cur e (0, 0))) (hn : l.length ≤ cap) (hm : cap ≤ maxLen) (hc : cur.size = cap * k) (hl : css.length = l.length)
    (hR : ∀ (i : Nat) (cs : List Value) (x : α), css[i]? = some cs → l[i]? = some x → R cs x ∧ cs.length = k) (hx : cur.toList.take (l.length * k) = css.flatten) : Own w B e k R (.slice (some ⟨g, 0, none⟩) l.length cap) l :=
  ⟨css, hl, hR, by rw [flat_lenR (own_lens hl hR), hl], .inr ⟨g, cap, cur, rfl, hb, hg, hn, hm, hc, hx⟩⟩
theorem Own.cap_le (h : Own w B e k R (.slice (some ⟨g, 0, none⟩) n cap) l) : l.length ≤ cap ∧ cap ≤ maxLen := by
  obtain ⟨_, _, _, _, _, h1, h2, _⟩ := h.rawc
  exact ⟨h1, h2⟩
/-- cut short -/
theorem Own.cut (h : Own w B e k R (.slice (some ⟨g, 0, none⟩) n cap) l) {m : Nat} (hm : m ≤ l.length) : Own w B e k R (.slice (some ⟨g, 0, none⟩) m cap) (l.take m) := by
  obtain ⟨_, hb, cur, css, hg, hnc, hcm, hcs, hl, hR, hx⟩ := h.rawc
  have hml : (l.take m).length = m := by simp; omega
  have := Own.of_rawc (l := l.take m) (css := css.take m) (R := R) hb hg (by omega) hcm hcs (by simp; omega) (fun i cs x h1 h2 => by
    rw [List.getElem?_take] at h1 h2
    split at h1
    · rename_i hi
      rw [if_pos hi] at h2
      exact hR i cs x h1 h2
    · cases h1) (by
    rw [hml, flat_takeR m (own_lens hl hR), ← hx, List.take_take, Nat.min_eq_left (Nat.mul_le_mul_right _ hm)])
  rwa [hml] at this
/-- every cell of the row's room is there and may be stored -/
theorem Own.spare (h : Own w B e k R (.slice (some ⟨g, 0, none⟩) n cap) l) {j : Nat} (hj : j < cap * k) : (w.cell? ⟨g, j, none⟩).isSome = true ∧ w.frozen? ⟨g, j, none⟩ = false := by
  obtain ⟨_, hb, cur, css, hg, hnc, hcm, hcs, hl, hR, hx⟩ := h.rawc
  refine ⟨?_, h.frz j⟩
  rw [cell_of_row w g j cur e (0, 0) hg, Array.getElem?_eq_getElem (by omega)]
  rfl
/-- the cells from element j on -/
theorem Own.tail (h : Own w B e k R (.slice (some ⟨g, 0, none⟩) n cap) l) (hone : ∀ cs x, R cs x → ∀ u ∈ cs, u.oneCell' = true) (j : Nat) (hj : j ≤ l.length) : ∃ news : List Value, news.length = (l.length - j) * k ∧ (∀ t u, news[t]? = some u → w.cell? ⟨g, j * k + t, none⟩ = some u) ∧ (∀ u ∈ news, u.oneCell' = true) ∧
    ∀ i, i ≤ j → Own (w.setCells g (i * k) news) B e k R (.slice (some ⟨g, 0, none⟩) (l.length - (j - i)) cap) (l.take i ++ l.drop j) := by
  obtain ⟨_, hb, cur, css, hg, hnc, hcm, hcs, hl, hR, hx⟩ := h.rawc
  have hls := own_lens hl hR
  have hfl := flat_lenR hls
  have hnl : (css.drop j).flatten.length = (l.length - j) * k := by
    rw [flat_lenR (fun c hc => hls c (List.mem_of_mem_drop hc)), List.length_drop, hl]
  have hck : l.length * k ≤ cap * k := Nat.mul_le_mul_right _ hnc
  refine ⟨(css.drop j).flatten, hnl, fun t u ht => ?_, fun u hu => ?_, fun i hi => ?_⟩
  · rw [flat_dropR j hls, ← hx, List.getElem?_drop] at ht
    rw [cell_of_row w g _ cur e (0, 0) hg]
    rw [List.getElem?_take] at ht
    split at ht
    · simpa using ht
    · cases ht
  · obtain ⟨cs, hc, hu⟩ := List.mem_flatten.1 hu
    obtain ⟨i, hi, rfl⟩ := List.mem_iff_getElem.1 (List.mem_of_mem_drop hc)
    exact hone _ _ (hR i _ _ (List.getElem?_eq_getElem hi) (List.getElem?_eq_getElem (by omega : i < l.length))).1 u hu
  · have hlen : (l.take i ++ l.drop j).length = l.length - (j - i) := by simp; omega
    have hik : i * k ≤ l.length * k := Nat.mul_le_mul_right _ (by omega)
    have hsum : i * k + (l.length - j) * k = (l.length - (j - i)) * k := by rw [← Nat.add_mul]; congr 1; omega
    have hsum2 : (l.length - (j - i)) * k ≤ l.length * k := Nat.mul_le_mul_right _ (by omega)
    have := Own.of_rawc (w := w.setCells g (i * k) (css.drop j).flatten) (l := l.take i ++ l.drop j) (css := css.take i ++ css.drop j) (R := R) (cap := cap) hb (setCells_heap _ _ _ _ hg) (by omega) hcm (by rw [putL_size]; exact hcs) (by simp; omega) (fun t cs x h1 h2 => by
      rw [List.getElem?_append, List.length_take, Nat.min_eq_left (by omega)] at h1 h2
      by_cases ht : t < i
      · rw [if_pos ht, List.getElem?_take, if_pos ht] at h1 h2
        exact hR t cs x h1 h2
      · rw [if_neg ht, List.getElem?_drop] at h1 h2
        exact hR _ cs x h1 h2) (by
      rw [hlen, putL_list _ _ _ (by rw [hnl]; omega), List.flatten_append, List.take_append_of_le_length (by simp [hnl]; omega), List.take_of_length_le (by simp [hnl]; omega), flat_takeR i hls, ← hx, List.take_take, Nat.min_eq_left hik])
    rwa [hlen] at this
/-- zeros, or whatever, behind the end -/
theorem Own.behind (h : Own w B e k R (.slice (some ⟨g, 0, none⟩) n cap) l) (o : Nat) (ho : l.length * k ≤ o) (vs : List Value) (hv : o + vs.length ≤ cap * k) : Own (w.setCells g o vs) B e k R (.slice (some ⟨g, 0, none⟩) n cap) l := by
  obtain ⟨rfl, hb, cur, css, hg, hnc, hcm, hcs, hl, hR, hx⟩ := h.rawc
  refine Own.of_rawc hb (setCells_heap _ _ _ _ hg) hnc hcm (by rw [putL_size]; exact hcs) hl hR ?_
  rw [putL_list _ _ _ (by omega), List.append_assoc, List.take_append_of_le_length (by simp; omega), List.take_take, Nat.min_eq_left ho, hx]
end
section
variable {P : Program}
theorem zeros_len (zc : Array Value) (n : Nat) : (Builtin.zeroCells zc n).toList.length = n * zc.size := by simp [Builtin.zeroCells]
theorem zeros_one (zc : Array Value) (n : Nat) (h : ∀ u ∈ zc.toList, u.oneCell' = true) : ∀ u ∈ (Builtin.zeroCells zc n).toList, u.oneCell' = true := fun u hu => by
  simp only [Builtin.zeroCells, Array.toList_map, List.mem_map] at hu
  obtain ⟨i, hi, rfl⟩ := hu
  have hi2 : i < n * zc.size := by simpa using hi
  have hz : 0 < zc.size := by
    rcases Nat.eq_zero_or_pos zc.size with h0 | h0
    · rw [h0] at hi2; omega
    · exact h0
  have hlt : i % zc.size < zc.size := Nat.mod_lt _ hz
  rw [getElem!_pos zc _ hlt]
  exact h _ (by simp)
/-- clear of a slice of elements of many cells -/
theorem run_clear_many (w : World) (t e ty : TypeId) (z : Value) (ht : P.underlying t = some (.slice e)) (hv : ∀ w, (zeroValue e).run P w = .ok z w) (hone : ∀ u ∈ z.cells.toList, u.oneCell' = true) (b o n c : Nat) (hn : 0 < n)
    (hc : ∀ j, j < n * z.cells.size → (w.cell? ⟨b, o + j, none⟩).isSome = true) (hf : ∀ j, j < n * z.cells.size → w.frozen? ⟨b, o + j, none⟩ = false) :
    (Builtin.clear_ #[t] ty #[.slice (some ⟨b, o, none⟩) n c]).run P w = .ok (.tuple #[]) (w.setCells b o (Builtin.zeroCells z.cells n).toList) := by
  have hst := run_storeCells_cells (P := P) b o (Builtin.zeroCells z.cells n).toList 0 w (by rw [zeros_len]; simpa using hc) (by rw [zeros_len]; simpa using hf) (zeros_one _ _ hone)
  simp only [Nat.add_zero] at hst
  obtain ⟨m, rfl⟩ : ∃ m, n = m + 1 := ⟨n - 1, by omega⟩
  simp [Builtin.clear_, run_underlying ht, hv, hst]
end
end Go.Proofs.YtcbomomlojhghaaDoor
