/- Who is reached, plainly; a row of numbers put in order. -/
import Derived.Test.YtodhianmaogfpaaTjH
namespace Go.Proofs.Ytodhianmaogfpaa
set_option linter.unusedSimpArgs false
set_option linter.unusedVariables false
theorem srt_ext : ∀ {l m : List Int}, l.Pairwise (· < ·) → m.Pairwise (· < ·) → (∀ x, x ∈ l ↔ x ∈ m) → l = m
  | [], [], _, _, _ => rfl
  | [], b :: m, _, _, h => absurd ((h b).2 (List.mem_cons_self ..)) (by simp)
  | a :: l, [], _, _, h => absurd ((h a).1 (List.mem_cons_self ..)) (by simp)
  | a :: l, b :: m, hl, hm, h => by
    obtain ⟨hl1, hl2⟩ := List.pairwise_cons.1 hl
    obtain ⟨hm1, hm2⟩ := List.pairwise_cons.1 hm
    have hab : a = b := by
      rcases List.mem_cons.1 ((h a).1 (List.mem_cons_self ..)) with e | h1
      · exact e
      · rcases List.mem_cons.1 ((h b).2 (List.mem_cons_self ..)) with e | h2
        · exact e.symm
        · have := hm1 a h1; have := hl1 b h2; omega
    subst hab
    rw [srt_ext hl2 hm2 fun x => ?_]
    constructor
    · intro hx
      rcases List.mem_cons.1 ((h x).1 (List.mem_cons_of_mem _ hx)) with e | h1
      · subst e; have := hl1 x hx; omega
      · exact h1
    · intro hx
      rcases List.mem_cons.1 ((h x).2 (List.mem_cons_of_mem _ hx)) with e | h1
      · subst e; have := hm1 x hx; omega
      · exact h1
def ofN (l : List Nat) : List Int := l.map fun (x : Nat) => (x : Int)
def srtN (q : List Nat) : List Nat := ((ofN q).mergeSort fun x y => decide (x ≤ y)).map Int.toNat
theorem mem_ofN {l : List Nat} {x : Int} : x ∈ ofN l ↔ ∃ k ∈ l, (k : Int) = x := by simp [ofN]
theorem ofN_srt (q : List Nat) : ofN (srtN q) = (ofN q).mergeSort fun x y => decide (x ≤ y) := by
  unfold srtN
  unfold ofN
  rw [List.map_map]
  refine (List.map_congr_left fun x hx => ?_).trans (List.map_id _)
  have hx := (List.mergeSort_perm _ _).mem_iff.1 hx
  obtain ⟨k, _, rfl⟩ := List.mem_map.1 hx
  simp
theorem srtN_len (q : List Nat) : (srtN q).length = q.length := by simp [srtN, ofN, List.length_mergeSort]
theorem ofN_inj : ∀ {a b : List Nat}, ofN a = ofN b → a = b
  | [], [], _ => rfl
  | [], _ :: _, h => by simp [ofN] at h
  | _ :: _, [], h => by simp [ofN] at h
  | x :: a, y :: b, h => by
    simp only [ofN, List.map_cons, List.cons.injEq] at h
    have h1 : x = y := by omega
    rw [h1, ofN_inj (a := a) (b := b) h.2]
theorem range_lt : ∀ n, (List.range n).Pairwise (· < ·) := fun n => List.pairwise_lt_range
theorem srtN_is {n : Nat} {p : Nat → Bool} {q : List Nat} (hn : q.Pairwise (· ≠ ·)) (hm : ∀ x, x ∈ q ↔ x < n ∧ p x = true) : srtN q = (List.range n).filter p := by
  apply ofN_inj
  rw [ofN_srt]
  apply srt_ext
  · have h1 := List.pairwise_mergeSort (le := fun x y : Int => decide (x ≤ y)) (fun a b c h1 h2 => by simp at *; omega) (fun a b => by simp; omega) (ofN q)
    have hnd : (ofN q).Pairwise (· ≠ ·) := by
      unfold ofN
      rw [List.pairwise_map]
      exact hn.imp fun h => by omega
    have h2 : ((ofN q).mergeSort fun x y => decide (x ≤ y)).Pairwise (· ≠ ·) := ((List.mergeSort_perm _ _).pairwise_iff (fun {a b} h => Ne.symm h)).2 hnd
    refine (List.pairwise_and_iff.2 ⟨h1, h2⟩).imp fun {a b} h => ?_
    have h3 := h.1
    have h4 := h.2
    simp at h3
    omega
  · unfold ofN
    rw [List.pairwise_map]
    exact ((range_lt n).filter _).imp fun h => by omega
  · intro x
    rw [(List.mergeSort_perm _ _).mem_iff, mem_ofN, mem_ofN]
    constructor
    · rintro ⟨k, hk, rfl⟩
      obtain ⟨h1, h2⟩ := (hm k).1 hk
      exact ⟨k, List.mem_filter.2 ⟨List.mem_range.2 h1, h2⟩, rfl⟩
    · rintro ⟨k, hk, rfl⟩
      obtain ⟨h1, h2⟩ := List.mem_filter.1 hk
      exact ⟨k, (hm k).2 ⟨List.mem_range.1 h1, h2⟩, rfl⟩
/-- the search for what is reached -/
structure RI (n : Nat) (adj : Nat → List Nat) (f : Nat) (q : List Nat) (i : Nat) : Prop where
  nd : q.Pairwise (· ≠ ·)
  rch : ∀ x ∈ q, x < n ∧ Rch adj f x
  st : f ∈ q
  le : i ≤ q.length
  shut : ∀ j u, j < i → q[j]? = some u → ∀ w ∈ adj u, w ∈ q
theorem ri0 {n : Nat} {adj : Nat → List Nat} {f : Nat} (hf : f < n) : RI n adj f [f] 0 := ⟨by simp, fun x hx => by obtain rfl := List.mem_singleton.1 hx; exact ⟨hf, .refl _⟩, by simp, Nat.zero_le _, fun j u h => absurd h (Nat.not_lt_zero _)⟩
theorem RI.len {n : Nat} {adj : Nat → List Nat} {f : Nat} {q : List Nat} {i : Nat} (h : RI n adj f q i) : q.length ≤ n := by
  have := len_sub (m := List.range n) h.nd fun x hx => List.mem_range.2 (h.rch x hx).1
  simpa using this
theorem RI.push {n : Nat} {adj : Nat → List Nat} {f : Nat} {q : List Nat} {i u w : Nat} (h : RI n adj f q i) (hu : q[i]? = some u) (hw : w ∈ adj u) (hn : w < n) (hq : w ∉ q) : RI n adj f (q ++ [w]) i := by
  refine ⟨?_, fun x hx => ?_, List.mem_append_left _ h.st, by have := h.le; simp; omega, fun j v hj hv y hy => ?_⟩
  · rw [List.pairwise_append]
    exact ⟨h.nd, by simp, fun a ha b hb => by obtain rfl := List.mem_singleton.1 hb; intro e; subst e; exact hq ha⟩
  · rcases List.mem_append.1 hx with hx | hx
    · exact h.rch x hx
    · obtain rfl := List.mem_singleton.1 hx
      exact ⟨hn, (h.rch u (List.mem_of_getElem? hu)).2.trans (.edge hw)⟩
  · have hl := h.le
    rw [List.getElem?_append_left (by omega)] at hv
    exact List.mem_append_left _ (h.shut j v hj hv y hy)
theorem RI.next {n : Nat} {adj : Nat → List Nat} {f : Nat} {q : List Nat} {i u : Nat} (h : RI n adj f q i) (hu : q[i]? = some u) (hs : ∀ w ∈ adj u, w ∈ q) : RI n adj f q (i + 1) := by
  refine ⟨h.nd, h.rch, h.st, ?_, fun j v hj hv => ?_⟩
  · have := (List.getElem?_eq_some_iff.1 hu).1; omega
  · rcases Nat.lt_or_ge j i with h1 | h1
    · exact h.shut j v h1 hv
    · obtain rfl : j = i := by omega
      rw [hu] at hv
      injection hv with hv
      subst hv
      exact hs
theorem RI.fin {n : Nat} {adj : Nat → List Nat} {f : Nat} {q : List Nat} {i : Nat} (h : RI n adj f q i) (hi : i = q.length) {x : Nat} : x ∈ q ↔ x < n ∧ Rch adj f x := by
  constructor
  · exact h.rch x
  · rintro ⟨_, hx⟩
    refine hx.shut (P := fun x => x ∈ q) (fun u y hu hy => ?_) h.st
    obtain ⟨j, hj⟩ := List.getElem?_of_mem hu
    exact h.shut j u (by have := (List.getElem?_eq_some_iff.1 hj).1; omega) hj y hy
/-- what a search from f tells -/
def reachV (n : Nat) (E : List (Nat × Nat)) (f : Int) : List Nat := if 0 ≤ f ∧ f < (n : Int) then (List.range n).filter (gE n E f.toNat) else []
theorem RI.told {n : Nat} {E : List (Nat × Nat)} (hE : inN n E) {f : Nat} (hf : f < n) {q : List Nat} {i : Nat} (h : RI n (adjE E) f q i) (hi : i = q.length) : srtN q = reachV n E f := by
  unfold reachV
  rw [if_pos ⟨by omega, by omega⟩]
  refine srtN_is h.nd fun x => ?_
  rw [h.fin hi, gE_iff hE (by omega : (f : Int).toNat < n)]
  simp
def mt (q : List Nat) (v : Nat) : Nat := if v ∈ q then 1 else 0
theorem mt_push {q : List Nat} {w : Nat} : mt (q ++ [w]) = upf (mt q) w 1 := by
  funext v
  unfold mt
  by_cases e : v = w
  · subst e; rw [upf_at]; simp
  · rw [upf_ne e]; simp [e]
end Go.Proofs.Ytodhianmaogfpaa
