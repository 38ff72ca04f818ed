/- Plainly: the steps that can be done rise, and a step is done just if it is listed. -/
import Derived.Test.YtaicidbopgnmfaaGreatDoorDqE
namespace Go.Proofs.YtaicidbopgnmfaaGreatDoor
set_option linter.unusedSimpArgs false
set_option linter.unusedVariables false
open Go.RowKit
theorem sV_isV {a b : List UInt8} (h : sameV a b = true) : isV a = true ∧ isV b = true := by
  unfold sameV cmpV at h
  unfold isV
  rcases ha : verS a with _ | ⟨e, u, r⟩ <;> rcases hb : verS b with _ | ⟨f, v, s⟩ <;> simp [ha, hb] at h ⊢
theorem sV_zero {a b : List UInt8} (h : sameV a b = true) : (cmpV a b).1 = 0 := by
  unfold sameV at h
  rw [Bool.and_eq_true] at h
  exact of_decide_eq_true h.2
theorem sV_of {a b : List UInt8} (ha : isV a = true) (hb : isV b = true) (h : (cmpV a b).1 = 0) : sameV a b = true := by
  unfold isV at ha hb
  obtain ⟨⟨x, y, z⟩, hv⟩ := Option.isSome_iff_exists.1 ha
  obtain ⟨⟨x', y', z'⟩, hv'⟩ := Option.isSome_iff_exists.1 hb
  unfold sameV
  rw [h]
  simp [cmpV, hv, hv']
theorem sV_self {a : List UInt8} (h : isV a = true) : sameV a a = true := sV_of h h (cmpV_self a)
theorem sV_swap {a b : List UInt8} (h : sameV a b = true) : sameV b a = true := by
  obtain ⟨ha, hb⟩ := sV_isV h
  refine sV_of hb ha ?_
  rw [cmpV_swap a b, sV_zero h]
  rfl
theorem sV_trans {a b c : List UInt8} (h1 : sameV a b = true) (h2 : sameV b c = true) : sameV a c = true := by
  obtain ⟨ha, hb⟩ := sV_isV h1
  obtain ⟨_, hc⟩ := sV_isV h2
  refine sV_of ha hc ?_
  have h := cmpV_ord ha hb hc
  rw [sV_zero h1, sV_zero h2] at h
  unfold ord at h
  omega
theorem sV_congr {v v' : List UInt8} (h : sameV v v' = true) (x : List UInt8) : sameV x v = sameV x v' := by
  rw [Bool.eq_iff_iff]
  exact ⟨fun h1 => sV_trans h1 h, fun h1 => sV_trans h1 (sV_swap h)⟩
theorem do_ver {s : List Ent} {fr : List Pkg} {n v v' : List UInt8} (h : sameV v v' = true) : doS s ⟨3, n, v⟩ fr = doS s ⟨3, n, v'⟩ fr := by
  have hf : fndP n v = fndP n v' := funext fun p => by unfold fndP; rw [sV_congr h]
  have hb : badK ⟨3, n, v⟩ = badK ⟨3, n, v'⟩ := by simp [badK]
  have ht : turnS s ⟨3, n, v⟩ fr = turnS s ⟨3, n, v'⟩ fr := by
    unfold turnS
    dsimp only
    rw [hf]
  unfold doS
  rw [hb, ht]
theorem all_mem {s : List Ent} {fr : List Pkg} {st : Stp} : st ∈ allS s fr ↔ st ∈ mayL s fr ∧ doneB s fr st = true := by
  unfold allS
  rw [mem_srt, List.mem_filter]
/-- is it that step? -/
def inB (st x : Stp) : Bool := decide (x.kind = st.kind) && decide (x.name = st.name) && (decide (x.kind ≠ 3) && decide (st.ver = []) || decide (x.kind = 3) && sameV x.ver st.ver)
theorem listed (s : List Ent) (fr : List Pkg) (st : Stp) : (allS s fr).any (inB st) = doneB s fr st := by
  rw [Bool.eq_iff_iff, List.any_eq_true]
  constructor
  · rintro ⟨x, hx, hb⟩
    obtain ⟨hm, hd⟩ := all_mem.1 hx
    have hg := done_good hm hd
    obtain ⟨k, n, v⟩ := x
    obtain ⟨k', n', v'⟩ := st
    unfold inB at hb
    simp only [Bool.and_eq_true, Bool.or_eq_true, decide_eq_true_eq] at hb
    obtain ⟨⟨rfl, rfl⟩, h3 | h3⟩ := hb
    · obtain ⟨h3, rfl⟩ := h3
      obtain rfl : v = [] := hg.2 h3
      exact hd
    · obtain ⟨rfl, h4⟩ := h3
      unfold doneB at hd ⊢
      rw [← do_ver h4]
      exact hd
  · intro hd
    have did := do_did (of_decide_eq_true hd)
    have hk := did.kind
    obtain ⟨k, n, v⟩ := st
    unfold badK at hk
    simp only [Bool.or_eq_false_iff, Bool.not_eq_false', Bool.and_eq_true, decide_eq_true_eq, Bool.and_eq_false_iff, decide_eq_false_iff_not] at hk
    obtain ⟨⟨k1, k2⟩, kv⟩ := hk
    have other : k ≠ 3 → ∀ y : Ent, s.find? (nameE n) = some y → ∃ x, x ∈ allS s fr ∧ inB ⟨k, n, v⟩ x = true := fun h3 y hy => by
      obtain ⟨ym, yn⟩ := find_name hy
      obtain rfl : v = [] := by
        rcases kv with kv | kv
        · exact absurd h3 kv
        · exact Classical.not_not.1 kv
      refine ⟨⟨k, n, []⟩, all_mem.2 ⟨?_, hd⟩, by simp [inB, h3]⟩
      unfold mayL
      refine List.mem_append_left _ (List.mem_flatMap.2 ⟨y, ym, ?_⟩)
      unfold may3
      rw [yn]
      obtain rfl | rfl | rfl : k = 1 ∨ k = 2 ∨ k = 4 := by omega
      · simp
      · simp
      · simp
    rcases turn_ok did.turn with ⟨h3, p, hp, _, _⟩ | ⟨h2, y, hy, _, _⟩ | ⟨h3, h2, y, hy, _, _⟩
    · obtain rfl : k = 3 := h3
      have h4 := List.find?_some hp
      unfold fndP at h4
      simp only [Bool.and_eq_true, decide_eq_true_eq] at h4
      obtain ⟨hn, hs⟩ := h4
      refine ⟨⟨3, n, p.ver⟩, all_mem.2 ⟨?_, ?_⟩, by simp [inB, hs]⟩
      · unfold mayL
        exact List.mem_append_right _ (List.mem_map.2 ⟨p, List.mem_of_find?_eq_some hp, by rw [hn]⟩)
      · unfold doneB at hd ⊢
        rw [do_ver hs]
        exact hd
    · exact other (by have : k = 2 := h2; omega) y hy
    · exact other h3 y hy
theorem insR_perm {α : Type} {lt : α → α → Bool} {y : α} : ∀ l : List α, (insR lt l y).Perm (y :: l)
  | [] => .refl _
  | x :: l => by
    unfold insR
    split
    · exact .refl _
    · exact ((insR_perm l).cons x).trans (.swap y x l)
theorem mrg_perm {α : Type} {lt : α → α → Bool} : ∀ (R L : List α), (mrg lt L R).Perm (R ++ L)
  | [], L => .refl _
  | y :: R, L => by
    rw [mrg_cons]
    exact (mrg_perm R _).trans (((insR_perm L).append_left R).trans List.perm_middle)
theorem srt_permS {α : Type} {lt : α → α → Bool} (l : List α) : (srt lt l).Perm l := by
  have := mrg_perm (lt := lt) l []
  rw [List.append_nil] at this
  exact this
theorem mayL_nd {s : List Ent} {fr : List Pkg} (h1 : mayEntsE s = 0) (h2 : mayAllE fr = 0) : (mayL s fr).Nodup := by
  unfold mayL List.Nodup
  rw [List.pairwise_append]
  refine ⟨?_, ?_, ?_⟩
  · rw [List.pairwise_flatMap]
    refine ⟨fun x _ => by simp [may3], List.Pairwise.imp ?_ (ents_up h1).nd⟩
    intro x y hxy a ha b hb hab
    have n1 : a.name = x.pkg.name := by
      simp only [may3, List.mem_cons, List.not_mem_nil, or_false] at ha
      rcases ha with rfl | rfl | rfl <;> rfl
    have n2 : b.name = y.pkg.name := by
      simp only [may3, List.mem_cons, List.not_mem_nil, or_false] at hb
      rcases hb with rfl | rfl | rfl <;> rfl
    exact hxy (by rw [← n1, ← n2, hab])
  · rw [List.pairwise_map, List.pairwise_iff_getElem]
    intro i j hi hj hij he
    obtain ⟨_, h3, h4, _⟩ := mayAll_zero h2
    have hd := dup_no h4 hij (List.getElem?_eq_getElem hi) (List.getElem?_eq_getElem hj)
    injection he with _ e1 e2
    unfold dupB at hd
    rw [e1, ← e2, sV_self (mayE_v (h3 _ (List.getElem_mem hi)))] at hd
    simp at hd
  · intro a ha b hb hab
    obtain ⟨x, _, hx⟩ := List.mem_flatMap.1 ha
    obtain ⟨p, _, rfl⟩ := List.mem_map.1 hb
    subst hab
    simp [may3] at hx
theorem allS_nd {s : List Ent} {fr : List Pkg} (h1 : mayEntsE s = 0) (h2 : mayAllE fr = 0) : (allS s fr).Nodup := (srt_permS _).nodup_iff.2 ((mayL_nd h1 h2).filter _)
theorem allS_up {s : List Ent} {fr : List Pkg} (h1 : mayEntsE s = 0) (h2 : mayAllE fr = 0) : (allS s fr).Pairwise fun x y => stLt x y = true := by
  refine ((srt_ris stSW _).and (allS_nd h1 h2)).imp ?_
  rintro x y ⟨h, hn⟩
  rcases hx : stLt x y
  · exact absurd (st_tot hx h) hn
  · rfl
theorem allS_at {s : List Ent} {fr : List Pkg} (h1 : mayEntsE s = 0) (h2 : mayAllE fr = 0) {i : Nat} {x y : Stp} (hx : (allS s fr)[i]? = some x) (hy : (allS s fr)[i + 1]? = some y) : decide (stK x y < 0) = true := by
  obtain ⟨a1, rfl⟩ := List.getElem?_eq_some_iff.1 hx
  obtain ⟨a2, rfl⟩ := List.getElem?_eq_some_iff.1 hy
  have h := List.pairwise_iff_getElem.1 (allS_up h1 h2) i (i + 1) a1 a2 (by omega)
  obtain ⟨m1, d1⟩ := all_mem.1 (List.getElem_mem a1)
  obtain ⟨m2, d2⟩ := all_mem.1 (List.getElem_mem a2)
  rw [stK_good (done_good m1 d1) (done_good m2 d2)]
  exact h
/-- a step that is done leaves something, but for one that removes -/
theorem do_some {s : List Ent} {fr : List Pkg} {st : Stp} (h : doneB s fr st = true) (h2 : st.kind ≠ 2) : (doS s st fr).1.length ≠ 0 := by
  have did := do_did (of_decide_eq_true h)
  rcases turn_ok did.turn with ⟨_, p, _, ht, _⟩ | ⟨h3, _⟩ | ⟨_, _, y, hy, _, ht⟩
  · rw [ht]
    unfold unpS
    rw [srt_len, List.length_append, List.length_singleton]
    omega
  · exact absurd h3 h2
  · rw [ht]
    unfold confS
    rw [List.length_map]
    have := List.length_pos_of_mem (find_name hy).1
    omega
end Go.Proofs.YtaicidbopgnmfaaGreatDoor
