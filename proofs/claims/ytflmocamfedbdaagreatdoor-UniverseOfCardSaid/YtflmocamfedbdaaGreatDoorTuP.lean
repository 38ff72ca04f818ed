/- Packages in another order: whether they may be, and the row in which they are sorted, are the same; the reference's rows of packages and of names are the sorted ones: plainly. -/
import Derived.Test.YtflmocamfedbdaaGreatDoorMlP
import Derived.Test.YtflmocamfedbdaaGreatDoorSoQ
import Derived.Test.YtflmocamfedbdaaGreatDoorInP
import Derived.Test.YtflmocamfedbdaaGreatDoorMk
namespace Go.Proofs.YtflmocamfedbdaaGreatDoor
set_option linter.unusedSimpArgs false
set_option linter.unusedVariables false
open Go.RowKit

theorem sameV_swap (a b : List UInt8) : sameV a b = sameV b a := by
  unfold sameV
  have h1 := cmpV_swap a b
  have h2 : (cmpV a b).2 = (cmpV b a).2 := by
    unfold cmpV
    rcases verS a with _ | ⟨e, u, r⟩ <;> rcases verS b with _ | ⟨f, v, s⟩ <;> rfl
  rw [h2]
  congr 1
  simp only [decide_eq_decide]
  omega
theorem dupB_swap (p q : Pkg) : dupB p q = dupB q p := by
  unfold dupB
  rw [sameV_swap]
  congr 1
  simp only [decide_eq_decide]
  exact eq_comm
theorem dupT_iff {l : List Pkg} : dupT l l.length = false ↔ l.Pairwise fun q p => dupB p q = false := by
  constructor
  · intro h
    rw [List.pairwise_iff_getElem]
    intro i j hi hj hij
    exact dup_no h hij (List.getElem?_eq_getElem hi) (List.getElem?_eq_getElem hj)
  · intro h
    rw [List.pairwise_iff_getElem] at h
    unfold dupT
    rw [List.any_eq_false]
    intro j hj
    rw [List.mem_range] at hj
    rw [List.getElem?_eq_getElem hj]
    simp only [Bool.not_eq_true]
    rw [List.any_eq_false]
    intro q hq
    obtain ⟨i, hi, rfl⟩ := List.mem_iff_getElem.1 hq
    rw [List.length_take] at hi
    rw [List.getElem_take]
    have := h i j (by omega) hj (by omega)
    simp [this]
theorem mayAll_iff {l : List Pkg} : mayAllE l = 0 ↔ l.length ≤ 24 ∧ (∀ q ∈ l, mayE q = 0) ∧ (l.Pairwise fun q p => dupB p q = false) ∧ (nmsS l).length ≤ 10 := by
  constructor
  · intro h
    obtain ⟨h1, h2, h3, h4⟩ := mayAll_zero h
    exact ⟨h1, h2, dupT_iff.1 h3, h4⟩
  · rintro ⟨h1, h2, h3, h4⟩
    rw [mayAll_end (by omega) h2 (dupT_iff.2 h3), if_neg (by omega)]
theorem nmsF_nodup {ns : List (List UInt8)} (h : ns.Nodup) (p : Pkg) : (nmsF ns p).Nodup := by
  unfold nmsF
  by_cases hc : ns.contains p.name = true
  · rw [if_pos hc]; exact h
  · rw [if_neg hc]
    rw [List.nodup_append]
    refine ⟨h, by simp, ?_⟩
    intro a ha b hb e
    rw [List.mem_singleton] at hb
    subst hb e
    exact hc (by simpa using ha)
theorem nms_nodup : ∀ (l : List Pkg) {ns : List (List UInt8)}, ns.Nodup → (l.foldl nmsF ns).Nodup
  | [], _, h => h
  | p :: l, _, h => nms_nodup l (nmsF_nodup h p)
theorem nmsS_nodup (l : List Pkg) : (nmsS l).Nodup := nms_nodup l List.nodup_nil
theorem nmsS_mem {l : List Pkg} {n : List UInt8} : n ∈ nmsS l ↔ ∃ p ∈ l, p.name = n := by
  have := nms_mem (n := n) (l := l) (ns := [])
  simpa [nmsS] using this
theorem nms_perm {l m : List Pkg} (h : l.Perm m) : (nmsS l).Perm (nmsS m) := by
  rw [List.perm_ext_iff_of_nodup (nmsS_nodup l) (nmsS_nodup m)]
  intro n
  rw [nmsS_mem, nmsS_mem]
  constructor
  · rintro ⟨p, hp, e⟩; exact ⟨p, h.mem_iff.1 hp, e⟩
  · rintro ⟨p, hp, e⟩; exact ⟨p, h.mem_iff.2 hp, e⟩
theorem mayAll_rev {l : List Pkg} : mayAllE l.reverse = 0 ↔ mayAllE l = 0 := by
  rw [mayAll_iff, mayAll_iff, List.length_reverse, List.pairwise_reverse, (nms_perm (List.reverse_perm l)).length_eq]
  have : (fun a b : Pkg => dupB a b = false) = fun q p => dupB p q = false := by
    funext a b
    rw [dupB_swap]
  rw [this]
  simp
theorem pLt_tri {p q : Pkg} (hp : isV p.ver = true) (hq : isV q.ver = true) (h : dupB p q = false) : pLt p q = true ∨ pLt q p = true := by
  have hs := pCmp_swap p q
  simp only [pLt, decide_eq_true_eq]
  by_cases h0 : pCmp p q = 0
  · exfalso
    unfold pCmp orS at h0
    have h1 : cmpB p.name q.name = 0 := by
      by_cases h1 : cmpB p.name q.name = 0
      · exact h1
      · simp [h1] at h0
    have h2 : cmpX q.ver p.ver = 0 := by
      by_cases h2 : cmpX q.ver p.ver = 0
      · exact h2
      · simp [h1, h2] at h0
    rw [cmpX_of hq hp] at h2
    have h3 : (cmpV q.ver p.ver).2 = true := cmp_both hq hp
    have h4 := cmpB_zero.1 h1
    unfold dupB sameV at h
    simp [h4, h2, h3] at h
  · omega
theorem srt_perm {α : Type} {lt : α → α → Bool} (hs : SW lt) {l m : List α} (hp : l.Perm m) (h : l.Pairwise fun x y => lt x y = true ∨ lt y x = true) : srt lt l = srt lt m := by
  unfold srt mrg
  refine List.Perm.foldl_eq' hp (fun x hx y hy z => ?_) []
  obtain ⟨i, hi, rfl⟩ := List.mem_iff_getElem.1 hx
  obtain ⟨j, hj, rfl⟩ := List.mem_iff_getElem.1 hy
  rw [List.pairwise_iff_getElem] at h
  rcases Nat.lt_trichotomy i j with hij | rfl | hij
  · rcases h i j hi hj hij with h1 | h1
    · exact (insR_comm hs h1 z).symm
    · exact insR_comm hs h1 z
  · rfl
  · rcases h j i hj hi hij with h1 | h1
    · exact insR_comm hs h1 z
    · exact (insR_comm hs h1 z).symm
theorem pLt_pair {l : List Pkg} (h : mayAllE l = 0) : l.Pairwise fun x y => pLt x y = true ∨ pLt y x = true := by
  obtain ⟨h1, h2, h3, h4⟩ := mayAll_iff.1 h
  rw [List.pairwise_iff_getElem] at h3 ⊢
  intro i j hi hj hij
  have := h3 i j hi hj hij
  rw [dupB_swap] at this
  exact pLt_tri (may_nv (h2 _ (List.getElem_mem hi))).2 (may_nv (h2 _ (List.getElem_mem hj))).2 this
theorem srt_rev {l : List Pkg} (h : mayAllE l = 0) : srt pLt l.reverse = srt pLt l :=
  (srt_perm pSW (List.reverse_perm l).symm (pLt_pair h)).symm
theorem sat_any0 {p : Pkg} {a : Atm} (hv : isV p.ver = true) (h : satS p a = true) : satS p ⟨a.name, 0, []⟩ = true := by
  simp only [satS, mayA, Bool.and_eq_true, Bool.or_eq_true, decide_eq_true_eq] at h
  obtain ⟨⟨hn, _⟩, h⟩ := h
  rcases h with ⟨h, _⟩ | h
  · simp [satS, mayA, hn, h, holdsS, hv]
  · rw [List.any_eq_true] at h
    obtain ⟨x, hx, hm⟩ := h
    have h2 : p.prv.any (meetsP ⟨a.name, 0, []⟩) = true := List.any_eq_true.2 ⟨x, hx, by
      simp only [meetsP, Bool.and_eq_true, decide_eq_true_eq] at hm ⊢
      exact ⟨hm.1, by simp⟩⟩
    simp [satS, mayA, hn, h2]
/-- the names of packages, rising, each once -/
def blS (x y : List UInt8) : Prop := Op.bytesLess x y = true
def insN : List (List UInt8) → List UInt8 → List (List UInt8)
  | [], n => [n]
  | x :: l, n => if Op.bytesLess x n then x :: insN l n else if x = n then x :: l else n :: x :: l
def nmR (l : List Pkg) : List (List UInt8) := l.foldl (fun ns p => insN ns p.name) []
theorem insN_mem {n m : List UInt8} : ∀ {l : List (List UInt8)}, m ∈ insN l n ↔ m = n ∨ m ∈ l
  | [] => by simp [insN]
  | x :: l => by
    unfold insN
    by_cases h : Op.bytesLess x n = true
    · rw [if_pos h, List.mem_cons, insN_mem, List.mem_cons]
      constructor
      · rintro (h | h | h)
        · exact .inr (.inl h)
        · exact .inl h
        · exact .inr (.inr h)
      · rintro (h | h | h)
        · exact .inr (.inl h)
        · exact .inl h
        · exact .inr (.inr h)
    · rw [if_neg h]
      by_cases hx : x = n
      · rw [if_pos hx]
        subst hx
        simp
      · rw [if_neg hx]
        simp
theorem insN_ris {n : List UInt8} : ∀ {l : List (List UInt8)}, l.Pairwise blS → (insN l n).Pairwise blS
  | [], _ => by simp [insN]
  | x :: l, h => by
    have h1 := List.pairwise_cons.1 h
    unfold insN
    by_cases hx : Op.bytesLess x n = true
    · rw [if_pos hx]
      refine List.pairwise_cons.2 ⟨fun m hm => ?_, insN_ris h1.2⟩
      rcases insN_mem.1 hm with rfl | hm
      · exact hx
      · exact h1.1 m hm
    · rw [if_neg hx]
      by_cases he : x = n
      · rw [if_pos he]; exact h
      · rw [if_neg he]
        have hnx : Op.bytesLess n x = true := by
          rcases hnx : Op.bytesLess n x
          · exact absurd (bl_tri (by simpa using hx) hnx) he
          · rfl
        refine List.pairwise_cons.2 ⟨fun m hm => ?_, h⟩
        rcases List.mem_cons.1 hm with rfl | hm
        · exact hnx
        · exact bl_trans hnx (h1.1 m hm)
theorem nmR_aux : ∀ (l : List Pkg) {ns : List (List UInt8)}, ns.Pairwise blS → (l.foldl (fun ns p => insN ns p.name) ns).Pairwise blS ∧ ∀ n, n ∈ l.foldl (fun ns p => insN ns p.name) ns ↔ n ∈ ns ∨ ∃ p ∈ l, p.name = n
  | [], ns, h => ⟨h, fun n => by simp⟩
  | p :: l, ns, h => by
    have h1 := nmR_aux l (insN_ris (n := p.name) h)
    refine ⟨h1.1, fun n => ?_⟩
    rw [List.foldl_cons, h1.2, insN_mem]
    constructor
    · rintro ((rfl | h) | ⟨q, hq, e⟩)
      · exact .inr ⟨p, by simp, rfl⟩
      · exact .inl h
      · exact .inr ⟨q, by simp [hq], e⟩
    · rintro (h | ⟨q, hq, e⟩)
      · exact .inl (.inr h)
      · rcases List.mem_cons.1 hq with rfl | hq
        · exact .inl (.inl e.symm)
        · exact .inr ⟨q, hq, e⟩
theorem ris_eq : ∀ {a b : List (List UInt8)}, a.Pairwise blS → b.Pairwise blS → (∀ n, n ∈ a ↔ n ∈ b) → a = b
  | [], [], _, _, _ => rfl
  | [], y :: b, _, _, h => by have := (h y).2 (by simp); cases this
  | x :: a, [], _, _, h => by have := (h x).1 (by simp); cases this
  | x :: a, y :: b, ha, hb, h => by
    have h1 := List.pairwise_cons.1 ha
    have h2 := List.pairwise_cons.1 hb
    have hxy : x = y := by
      rcases List.mem_cons.1 ((h x).1 (by simp)) with e | hx
      · exact e
      · rcases List.mem_cons.1 ((h y).2 (by simp)) with e | hy
        · exact e.symm
        · have h3 : Op.bytesLess x y = true := h1.1 y hy
          have h4 : Op.bytesLess y x = true := h2.1 x hx
          rw [bl_asym h3] at h4; cases h4
    subst hxy
    rw [ris_eq h1.2 h2.2 fun n => ?_]
    have hn := h n
    simp only [List.mem_cons] at hn
    have hxa : x ∉ a := fun hx => by
      have h3 : Op.bytesLess x x = true := h1.1 x hx
      rw [bytesLess_same] at h3; cases h3
    have hxb : x ∉ b := fun hx => by
      have h3 : Op.bytesLess x x = true := h2.1 x hx
      rw [bytesLess_same] at h3; cases h3
    constructor
    · intro hna
      rcases hn.1 (.inr hna) with rfl | h
      · exact absurd hna hxa
      · exact h
    · intro hnb
      rcases hn.2 (.inr hnb) with rfl | h
      · exact absurd hnb hxb
      · exact h
/-- names as they first stand in a row that rises by name: the same -/
theorem run_ris {s : List Pkg} (h : s.Pairwise fun p q => Op.bytesLess q.name p.name = false) : ∀ k, k ≤ s.length → (runS s k).Pairwise blS ∧ (∀ n, n ∈ runS s k ↔ ∃ p ∈ s.take k, p.name = n)
  | 0, _ => by simp [runS]
  | 1, hk => by
    have h0 := List.getElem?_eq_getElem (l := s) (i := 0) (by omega)
    rw [runS_zero h0, take_step h0]
    simp [eq_comm]
  | k + 2, hk => by
    have ih := run_ris h (k + 1) (by omega)
    have hp := List.getElem?_eq_getElem (l := s) (i := k) (by omega)
    have hq := List.getElem?_eq_getElem (l := s) (i := k + 1) (by omega)
    have hle : ∀ m ∈ runS s (k + 1), Op.bytesLess s[k + 1].name m = false := fun m hm => by
      obtain ⟨p, hp, rfl⟩ := (ih.2 m).1 hm
      obtain ⟨i, hi, rfl⟩ := List.mem_iff_getElem.1 hp
      rw [List.length_take] at hi
      rw [List.getElem_take]
      rw [List.pairwise_iff_getElem] at h
      exact h i (k + 1) (by omega) (by omega) (by omega)
    have hpm : s[k].name ∈ runS s (k + 1) := (ih.2 _).2 ⟨s[k], by rw [take_step hp]; exact List.mem_append.2 (.inr (List.mem_singleton.2 rfl)), rfl⟩
    by_cases he : s[k].name = s[k + 1].name
    · rw [runS_same hq hp he]
      refine ⟨ih.1, fun n => ?_⟩
      rw [ih.2, take_step hq]
      constructor
      · rintro ⟨p, hp, e⟩; exact ⟨p, List.mem_append.2 (.inl hp), e⟩
      · rintro ⟨p, hp, e⟩
        rcases List.mem_append.1 hp with hp | hp
        · exact ⟨p, hp, e⟩
        · rw [List.mem_singleton] at hp
          subst hp
          exact (ih.2 n).1 (by rw [← e, ← he]; exact hpm)
    · rw [runS_new hq hp he]
      refine ⟨?_, fun n => ?_⟩
      · rw [List.pairwise_append]
        refine ⟨ih.1, by simp, fun m hm n hn => ?_⟩
        simp at hn
        subst hn
        show Op.bytesLess m _ = true
        rcases hx : Op.bytesLess m s[k + 1].name
        · exfalso
          have he2 := bl_tri hx (hle m hm)
          -- m is the last name, so is the one ahead
          have hpw := h
          rw [List.pairwise_iff_getElem] at hpw
          obtain ⟨p, hp2, e⟩ := (ih.2 m).1 hm
          obtain ⟨i, hi, e2⟩ := List.mem_iff_getElem.1 hp2
          rw [List.length_take] at hi
          rw [List.getElem_take] at e2
          have h1 : Op.bytesLess s[k].name s[k + 1].name = true := by
            rcases h1 : Op.bytesLess s[k].name s[k + 1].name
            · exact absurd (bl_tri h1 (hle _ hpm)) he
            · rfl
          by_cases hik : i = k
          · subst hik
            rw [e2] at he
            exact he (by rw [e, he2])
          · have h2 := hpw i k (by omega) (by omega) (by omega)
            rw [e2, e, he2, h1] at h2
            cases h2
        · rfl
      · rw [List.mem_append, ih.2, take_step hq]
        constructor
        · rintro (⟨p, hp, e⟩ | hn)
          · exact ⟨p, List.mem_append.2 (.inl hp), e⟩
          · rw [List.mem_singleton] at hn
            exact ⟨s[k + 1], List.mem_append.2 (.inr (List.mem_singleton.2 rfl)), hn.symm⟩
        · rintro ⟨p, hp, e⟩
          rcases List.mem_append.1 hp with hp | hp
          · exact .inl ⟨p, hp, e⟩
          · rw [List.mem_singleton] at hp
            subst hp
            exact .inr (by simp [e])
theorem pRis_name {s : List Pkg} (h : Ris pLt s) : s.Pairwise fun p q => Op.bytesLess q.name p.name = false :=
  List.Pairwise.imp (fun {p q} hpq => by
    rcases hx : Op.bytesLess q.name p.name
    · rfl
    · exfalso
      have h1 : cmpB q.name p.name = -1 := by simp [cmpB, hx]
      simp [pLt, pCmp, orS, h1] at hpq) h
theorem run_names (l : List Pkg) : runS (srt pLt l) l.length = nmR l := by
  have h1 := run_ris (pRis_name (srt_ris pSW l)) l.length (by rw [srt_len]; exact Nat.le_refl _)
  have h2 := nmR_aux l (ns := []) .nil
  refine ris_eq h1.1 h2.1 fun n => ?_
  rw [h1.2]
  show _ ↔ n ∈ l.foldl (fun ns p => insN ns p.name) []
  rw [h2.2, List.take_of_length_le (by rw [srt_len]; exact Nat.le_refl _)]
  simp [mem_srt]
end Go.Proofs.YtflmocamfedbdaaGreatDoor
