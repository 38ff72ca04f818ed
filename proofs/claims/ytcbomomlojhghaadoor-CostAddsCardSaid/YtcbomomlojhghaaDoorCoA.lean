/- Plain laws of costs: a whole turned round, one more, one taken out. -/
import Derived.Test.YtcbomomlojhghaaDoorStT
import Derived.Test.YtcbomomlojhghaaDoorMaE
namespace Go.Proofs.YtcbomomlojhghaaDoor
set_option linter.unusedSimpArgs false
set_option linter.unusedVariables false
open Go.RowKit

/-- no name twice -/
def oneN (t : List Pkg) : Prop := t.Pairwise fun p q => p.name ≠ q.name
theorem fndS_none {n : List UInt8} {t : List Pkg} : fndS n t = none ↔ ∀ p ∈ t, p.name ≠ n := by
  unfold fndS
  rw [List.find?_eq_none]
  simp [nameK]
theorem fndS_mem {n : List UInt8} {t : List Pkg} {y : Pkg} (h : fndS n t = some y) : y ∈ t ∧ y.name = n :=
  ⟨List.mem_of_find?_eq_some h, by have := List.find?_some h; simpa [nameK] using this⟩
theorem oneN_eq : ∀ {t : List Pkg} {p q : Pkg}, oneN t → p ∈ t → q ∈ t → p.name = q.name → p = q
  | [], _, _, _, hp, _, _ => by simp at hp
  | x :: t, p, q, h, hp, hq, hn => by
    obtain ⟨h1, h2⟩ := List.pairwise_cons.1 h
    rcases List.mem_cons.1 hp with e | hp'
    · rcases List.mem_cons.1 hq with e' | hq'
      · rw [e, e']
      · rw [e] at hn
        exact absurd hn (h1 _ hq')
    · rcases List.mem_cons.1 hq with e' | hq'
      · rw [e'] at hn
        exact absurd hn.symm (h1 _ hp')
      · exact oneN_eq h2 hp' hq' hn
theorem fndS_is {n : List UInt8} {t : List Pkg} {y : Pkg} (h : oneN t) (hy : y ∈ t) (hn : y.name = n) : fndS n t = some y := by
  rcases hf : fndS n t with _ | z
  · exact absurd hn (fndS_none.1 hf y hy)
  · obtain ⟨h1, h2⟩ := fndS_mem hf
    rw [oneN_eq h h1 hy (h2.trans hn.symm)]
theorem fndS_congr {n : List UInt8} {t u : List Pkg} (ht : oneN t) (hm : ∀ p, p ∈ t ↔ p ∈ u) : fndS n t = fndS n u := by
  rcases hf : fndS n u with _ | y
  · exact fndS_none.2 fun p hp => fndS_none.1 hf p ((hm p).1 hp)
  · obtain ⟨h1, h2⟩ := fndS_mem hf
    exact fndS_is ht ((hm y).2 h1) h2
theorem upto_congr {p q : Nat → Bool} {k : Nat} (h : ∀ i, i < k → p i = q i) : upto p k = upto q k := by
  induction k with
  | zero => rfl
  | succ k ih => rw [upto_step, upto_step, ih fun i hi => h i (by omega), h k (by omega)]
theorem upto_zero {p : Nat → Bool} {k : Nat} (h : ∀ i, i < k → p i = false) : upto p k = 0 := by
  induction k with
  | zero => rfl
  | succ k ih => rw [upto_step, ih fun i hi => h i (by omega), h k (by omega)]; rfl
theorem upto_one {p : Nat → Bool} {k a : Nat} (ha : a < k) (h : ∀ i, i < k → p i = decide (i = a)) : upto p k = 1 := by
  induction k with
  | zero => omega
  | succ k ih =>
    rw [upto_step, h k (by omega)]
    by_cases hk : k = a
    · rw [upto_zero fun i hi => by rw [h i (by omega)]; exact decide_eq_false (by omega)]
      simp [hk]
    · rw [ih (by omega) fun i hi => h i (by omega)]
      simp [hk]
theorem fndB_any (n : List UInt8) (s : List Ent) : fndB n s = s.any (nameE n) := idx_any
theorem fndB_mem {s : List Ent} {x : Ent} (h : x ∈ s) : fndB x.pkg.name s = true := by
  rw [fndB_any]
  exact List.any_eq_true.2 ⟨x, h, by simp [nameE]⟩
theorem fndB_not {n : List UInt8} {s : List Ent} (h : fndB n s = false) {x : Ent} (hx : x ∈ s) : x.pkg.name ≠ n := fun he => by
  rw [← he, fndB_mem hx] at h
  cases h
theorem add_count {t : List Pkg} {s : List Ent} (h : oneN t) : ∀ k, k ≤ t.length → upto (addQ t s) k = (t.take k).countP fun p => !fndB p.name s
  | 0, _ => rfl
  | k + 1, hk => by
    have hq : t[k]? = some t[k] := List.getElem?_eq_getElem (by omega)
    have hn : fndS (t[k]).name (t.take k) = none := fndS_none.2 fun p hp => by
      have h1 : oneN (t.take k ++ t.drop k) := by rw [List.take_append_drop]; exact h
      have h2 := (List.pairwise_append.1 h1).2.2 p hp t[k] (by rw [List.drop_eq_getElem_cons (by omega)]; exact List.mem_cons_self ..)
      exact h2
    rw [upto_step, add_count h k (by omega), count_step hq]
    congr 1
    unfold addQ
    rw [hq]
    simp [hn]
theorem lateT_sum (t all : List Pkg) : lateT t all t.length = (t.map fun p => newerS p all).sum := by
  unfold lateT
  rw [List.take_length]
theorem newer_rev (p : Pkg) (all : List Pkg) : newerS p all.reverse = newerS p all := List.countP_reverse
theorem met_rev (c : List Atm) (t : List Pkg) : metS c t.reverse = metS c t := List.any_reverse
theorem unmet_rev (t : List Pkg) : unmetS t.reverse = unmetS t := by
  unfold unmetS
  rw [List.map_reverse, List.sum_reverse]
  congr 1
  apply List.map_congr_left
  intro p _
  unfold unmet1
  simp only [met_rev]
theorem oneN_rev {t : List Pkg} (h : oneN t) : oneN t.reverse := by
  unfold oneN
  rw [List.pairwise_reverse]
  exact h.imp fun h => h.symm
/-- in which order the whole and the universe stand makes no difference -/
theorem cost_turned {t : List Pkg} (s : List Ent) (all : List Pkg) (up : Bool) (h : oneN t) : costS t.reverse s all.reverse up = costS t s all up := by
  have hf : ∀ n, fndS n t.reverse = fndS n t := fun n => fndS_congr (oneN_rev h) fun p => List.mem_reverse
  have h1 : remQ t.reverse s = remQ t s := by funext k; unfold remQ; simp only [hf]
  have h2 : chgQ t.reverse s = chgQ t s := by funext k; unfold chgQ; simp only [hf]
  have h3 : upto (addQ t.reverse s) t.reverse.length = upto (addQ t s) t.length := by
    rw [add_count (oneN_rev h) _ (Nat.le_refl _), add_count h _ (Nat.le_refl _), List.take_length, List.take_length, List.countP_reverse]
  have h4 : lateT t.reverse all.reverse t.reverse.length = lateT t all t.length := by
    rw [lateT_sum, lateT_sum, List.map_reverse, List.sum_reverse]
    simp only [newer_rev]
  unfold costS
  rw [h1, h2, h3, h4, unmet_rev]
theorem cost_up (t : List Pkg) (s : List Ent) (all : List Pkg) : costS t s all true = ⟨(costS t s all false).e, (costS t s all false).a, (costS t s all false).c, (costS t s all false).d, (costS t s all false).b⟩ := rfl
theorem met_more (c : List Atm) (t : List Pkg) (p : Pkg) : metS c (t ++ [p]) = (metS c t || c.any (satS p)) := by
  unfold metS
  simp
/-- a package of a new name, without recommendations, at a whole's end -/
theorem cost_adds {t : List Pkg} {s : List Ent} (all : List Pkg) {p : Pkg} (h1 : fndS p.name t = none) (h2 : fndB p.name s = false) (h3 : p.rcm = []) :
    (costS (t ++ [p]) s all false).a = (costS t s all false).a ∧ (costS (t ++ [p]) s all false).b = (costS t s all false).b ∧ (costS (t ++ [p]) s all false).c ≤ (costS t s all false).c ∧
      (costS (t ++ [p]) s all false).d = (costS t s all false).d + 1 ∧ (costS (t ++ [p]) s all false).e = (costS t s all false).e + (newerS p all : Nat) := by
  have hf : ∀ (k : Nat) x, s[k]? = some x → fndS x.pkg.name (t ++ [p]) = fndS x.pkg.name t := fun k x hx => by
    have hne := fndB_not h2 (List.mem_of_getElem? hx)
    unfold fndS
    rw [List.find?_append]
    have : [p].find? (nameK x.pkg.name) = none := by
      rw [List.find?_eq_none]
      simp [nameK]
      exact fun h => hne h.symm
    rw [this, Option.or_none]
  have e1 : remQ (t ++ [p]) s = remQ t s := by
    funext k
    unfold remQ
    rcases hx : s[k]? with _ | x
    · rfl
    · simp only [hf k x hx]
  have e2 : chgQ (t ++ [p]) s = chgQ t s := by
    funext k
    unfold chgQ
    rcases hx : s[k]? with _ | x
    · rfl
    · simp only [hf k x hx]
  have e3 : upto (addQ (t ++ [p]) s) (t ++ [p]).length = upto (addQ t s) t.length + 1 := by
    rw [List.length_append, List.length_singleton, upto_step]
    congr 1
    · refine upto_congr fun i hi => ?_
      unfold addQ
      rw [List.getElem?_append_left hi, List.take_append_of_le_length (by omega)]
    · have h0 : (t ++ [p])[t.length]? = some p := by simp
      unfold addQ
      rw [h0]
      simp [h1, h2]
  have e4 : lateT (t ++ [p]) all (t ++ [p]).length = lateT t all t.length + newerS p all := by
    rw [lateT_sum, lateT_sum]
    simp
  have e5 : unmetS (t ++ [p]) ≤ unmetS t := by
    unfold unmetS
    have h0 : unmet1 (t ++ [p]) p = 0 := by simp [unmet1, h3]
    rw [List.map_append, List.sum_append]
    simp only [List.map_cons, List.map_nil, List.sum_cons, List.sum_nil, h0, Nat.add_zero]
    have hle : ∀ q, unmet1 (t ++ [p]) q ≤ unmet1 t q := fun q => by
      unfold unmet1
      refine List.countP_mono_left fun c _ hc => ?_
      rw [met_more] at hc
      simp at hc ⊢
      exact hc.1
    generalize hu : t ++ [p] = u at hle
    clear hu e1 e2 e3 e4 hf h0 h1 h2
    generalize hg : unmet1 t = g at hle
    clear hg
    induction t with
    | nil => simp
    | cons x t ih =>
      have := hle x
      simp only [List.map_cons, List.sum_cons]
      omega
  unfold costS
  rw [e1, e2, e3, e4]
  simp
  omega
theorem rises_one {s : List Ent} (h : rises s) : oneN (s.map Ent.pkg) := by
  unfold oneN
  rw [List.pairwise_map]
  exact h
theorem rises_at {s : List Ent} (h : rises s) {k : Nat} {x : Ent} (hx : s[k]? = some x) : fndI x.pkg.name s = (k : Int) := by
  have hn : (s.take k).any (nameE x.pkg.name) = false := by
    rw [List.any_eq_false]
    intro y hy
    have hk : k < s.length := (List.getElem?_eq_some_iff.1 hx).1
    have h1 : rises (s.take k ++ s.drop k) := by rw [List.take_append_drop]; exact h
    have h2 := (List.pairwise_append.1 h1).2.2 y hy x (by
      rw [List.drop_eq_getElem_cons hk]
      obtain ⟨_, rfl⟩ := List.getElem?_eq_some_iff.1 hx
      exact List.mem_cons_self ..)
    simp [nameE, h2]
  have hi := idx_at hx (p := nameE x.pkg.name) (by simp [nameE]) hn
  unfold fndI
  rw [hi]
  simp
/-- what is there costs nothing but what it lacks -/
theorem cost_stays {s : List Ent} (all : List Pkg) (h : rises s) (hv : ∀ x ∈ s, sameV x.pkg.ver x.pkg.ver = true) : (costS (s.map Ent.pkg) s all false).a = 0 ∧ (costS (s.map Ent.pkg) s all false).b = 0 ∧ (costS (s.map Ent.pkg) s all false).d = 0 := by
  have ho := rises_one h
  have hf : ∀ (k : Nat) x, s[k]? = some x → fndS x.pkg.name (s.map Ent.pkg) = some x.pkg := fun k x hx => fndS_is ho (List.mem_map_of_mem (List.mem_of_getElem? hx)) rfl
  refine ⟨?_, ?_, ?_⟩
  · show ((upto (remQ (s.map Ent.pkg) s) s.length : Nat) : Int) = 0
    rw [upto_zero fun k hk => by
      unfold remQ
      rw [List.getElem?_eq_getElem hk]
      simp [hf k s[k] (List.getElem?_eq_getElem hk)]]
    rfl
  · show ((upto (chgQ (s.map Ent.pkg) s) s.length : Nat) : Int) = 0
    rw [upto_zero fun k hk => by
      unfold chgQ
      rw [List.getElem?_eq_getElem hk]
      simp [hf k s[k] (List.getElem?_eq_getElem hk), hv s[k] (List.getElem_mem hk)]]
    rfl
  · show ((upto (addQ (s.map Ent.pkg) s) (s.map Ent.pkg).length : Nat) : Int) = 0
    rw [upto_zero fun k hk => by
      rw [List.length_map] at hk
      unfold addQ
      rw [List.getElem?_map, List.getElem?_eq_getElem hk]
      simp [fndB_mem (List.getElem_mem hk)]]
    rfl
/-- taking a name out costs one name -/
theorem cost_out {s : List Ent} (all : List Pkg) (h : rises s) (hv : ∀ x ∈ s, sameV x.pkg.ver x.pkg.ver = true) {i : Nat} {x : Ent} (hx : s[i]? = some x) :
    (costS ((s.map Ent.pkg).take i ++ (s.map Ent.pkg).drop (i + 1)) s all false).a = 1 ∧ (costS ((s.map Ent.pkg).take i ++ (s.map Ent.pkg).drop (i + 1)) s all false).b = 0 ∧ (costS ((s.map Ent.pkg).take i ++ (s.map Ent.pkg).drop (i + 1)) s all false).d = 0 ∧
      (costS ((s.map Ent.pkg).take i ++ (s.map Ent.pkg).drop (i + 1)) s all false).e = (costS (s.map Ent.pkg) s all false).e - (newerS x.pkg all : Nat) := by
  have ho := rises_one h
  have hi : i < s.length := (List.getElem?_eq_some_iff.1 hx).1
  generalize hT : s.map Ent.pkg = T at ho ⊢
  have hTl : T.length = s.length := by rw [← hT, List.length_map]
  have hTx : T[i]? = some x.pkg := by rw [← hT, List.getElem?_map, hx]; rfl
  have hsp : T = T.take i ++ x.pkg :: T.drop (i + 1) := by
    obtain ⟨hk, hxe⟩ := List.getElem?_eq_some_iff.1 hTx
    rw [← hxe, ← List.drop_eq_getElem_cons hk, List.take_append_drop]
  generalize hu : T.take i ++ T.drop (i + 1) = u
  have hmem : ∀ p, p ∈ u → p ∈ T := fun p hp => by
    rw [← hu] at hp
    rcases List.mem_append.1 hp with hp | hp
    · exact List.mem_of_mem_take hp
    · exact List.mem_of_mem_drop hp
  have hmem2 : ∀ p, p ∈ T → p ≠ x.pkg → p ∈ u := fun p hp hne => by
    rw [hsp] at hp
    rw [← hu]
    rcases List.mem_append.1 hp with hp | hp
    · exact List.mem_append_left _ hp
    · rcases List.mem_cons.1 hp with hp | hp
      · exact absurd hp hne
      · exact List.mem_append_right _ hp
  have hxu : ∀ p, p ∈ u → p.name ≠ x.pkg.name := fun p hp he => by
    have h1 : oneN (T.take i ++ x.pkg :: T.drop (i + 1)) := by rw [← hsp]; exact ho
    obtain ⟨_, h2, h3⟩ := List.pairwise_append.1 h1
    rw [← hu] at hp
    rcases List.mem_append.1 hp with hp | hp
    · exact h3 p hp x.pkg (List.mem_cons_self ..) he
    · exact (List.pairwise_cons.1 h2).1 p hp he.symm
  have hou : oneN u := by
    have h1 : oneN (T.take i ++ x.pkg :: T.drop (i + 1)) := by rw [← hsp]; exact ho
    obtain ⟨h0, h2, h3⟩ := List.pairwise_append.1 h1
    rw [← hu]
    exact List.pairwise_append.2 ⟨h0, (List.pairwise_cons.1 h2).2, fun a ha b hb => h3 a ha b (List.mem_cons_of_mem _ hb)⟩
  have hin : ∀ (k : Nat) y, s[k]? = some y → y.pkg ∈ T := fun k y hy => by rw [← hT]; exact List.mem_map_of_mem (List.mem_of_getElem? hy)
  have hf : ∀ (k : Nat) y, s[k]? = some y → k ≠ i → fndS y.pkg.name u = some y.pkg := fun k y hy hk => by
    refine fndS_is hou (hmem2 _ (hin k y hy) fun he => hk ?_) rfl
    have h1 := rises_at h hy
    have h2 := rises_at h hx
    rw [he, h2] at h1
    omega
  have hfx : fndS x.pkg.name u = none := fndS_none.2 hxu
  refine ⟨?_, ?_, ?_, ?_⟩
  · show ((upto (remQ u s) s.length : Nat) : Int) = 1
    rw [upto_one hi fun k hk => by
      have hy : s[k]? = some s[k] := List.getElem?_eq_getElem hk
      unfold remQ
      rw [hy]
      simp only [rises_at h hy]
      by_cases hki : k = i
      · subst hki
        rw [hx] at hy
        injection hy with hy
        rw [← hy, hfx]
        simp
      · simp [hf k s[k] hy hki, hki]]
    rfl
  · show ((upto (chgQ u s) s.length : Nat) : Int) = 0
    rw [upto_zero fun k hk => by
      have hy : s[k]? = some s[k] := List.getElem?_eq_getElem hk
      unfold chgQ
      rw [hy]
      simp only [rises_at h hy]
      by_cases hki : k = i
      · subst hki
        rw [hx] at hy
        injection hy with hy
        rw [← hy, hfx]
        simp
      · simp [hf k s[k] hy hki, hv s[k] (List.getElem_mem hk)]]
    rfl
  · show ((upto (addQ u s) u.length : Nat) : Int) = 0
    rw [upto_zero fun k hk => by
      have hy : u[k]? = some u[k] := List.getElem?_eq_getElem hk
      have hm := hmem _ (List.mem_of_getElem? hy)
      rw [← hT] at hm
      obtain ⟨y, hys, hye⟩ := List.mem_map.1 hm
      unfold addQ
      rw [hy, ← hye]
      simp [fndB_mem hys]]
    rfl
  · show ((lateT u all u.length : Nat) : Int) = ((lateT T all T.length : Nat) : Int) - (newerS x.pkg all : Nat)
    have h1 : lateT T all T.length = lateT u all u.length + newerS x.pkg all := by
      rw [lateT_sum, lateT_sum, ← hu]
      conv => lhs; rw [hsp]
      simp only [List.map_append, List.map_cons, List.sum_append, List.sum_cons]
      omega
    omega
end Go.Proofs.YtcbomomlojhghaaDoor
