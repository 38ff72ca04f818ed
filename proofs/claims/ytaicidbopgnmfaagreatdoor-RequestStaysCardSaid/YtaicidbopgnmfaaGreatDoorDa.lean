/- What a step makes of entries, plainly. What a step leaves, plainly: entries that may be, nothing wrong that was not. The contracts of step's word and find. Rows of the call's own, of elements of many cells: cut short, a stretch moved to the left, zeros behind the end; clear at many cells. The contracts of unpacked's closure, of slices.IndexFunc and slices.DeleteFunc at entries with it. -/
import Derived.Test.YtaicidbopgnmfaaGreatDoorMx
import Derived.Test.YtaicidbopgnmfaaGreatDoorSq2
import Derived.Test.YtaicidbopgnmfaaGreatDoorEz
import Derived.Test.YtaicidbopgnmfaaGreatDoorMk
import Derived.Laws.IdiomCopy
import Derived.Lib.SliceRun
import Derived.ArgAppend
import Derived.Deep.RegionLaw
namespace Go.Proofs.YtaicidbopgnmfaaGreatDoor
set_option linter.unusedSimpArgs false
set_option linter.unusedVariables false
open Go.RowKit

structure Stp where
  kind : Int
  name : List UInt8
  ver : List UInt8
  deriving DecidableEq
/-- strictly rising by name -/
def UpE (s : List Ent) : Prop := s.Pairwise fun x y => Op.bytesLess x.pkg.name y.pkg.name = true
theorem riseB_up : ∀ {s : List Ent}, riseB s = true → UpE s
  | [], _ => .nil
  | [x], _ => List.pairwise_singleton _ _
  | x :: y :: l, h => by
    unfold riseB at h
    rw [Bool.and_eq_true] at h
    have h2 := riseB_up h.2
    refine List.pairwise_cons.2 ⟨fun z hz => ?_, h2⟩
    rcases List.mem_cons.1 hz with rfl | hz
    · exact h.1
    · exact bl_trans h.1 ((List.pairwise_cons.1 h2).1 z hz)
theorem up_riseB : ∀ {s : List Ent}, UpE s → riseB s = true
  | [], _ => rfl
  | [x], _ => rfl
  | x :: y :: l, h => by
    have h1 := List.pairwise_cons.1 h
    unfold riseB
    rw [h1.1 y (by simp), up_riseB h1.2]
    rfl
theorem UpE.ris {s : List Ent} (h : UpE s) : Ris eLt s := List.Pairwise.imp (fun hxy => eLt_bl hxy) h
theorem UpE.srt {s : List Ent} (h : UpE s) : srt eLt s = s := srt_of_ris eSW h.ris
theorem ents_up {s : List Ent} (h : mayEntsE s = 0) : UpE s := riseB_up (ents_zero h).2.2
theorem bl_ne {a b : List UInt8} (h : Op.bytesLess a b = true) : a ≠ b := fun e => by subst e; have := bl_asym h; rw [h] at this; cases this
theorem UpE.nd {s : List Ent} (h : UpE s) : s.Pairwise fun x y => x.pkg.name ≠ y.pkg.name := List.Pairwise.imp (fun h => bl_ne h) h
theorem UpE.uniq {s : List Ent} (h : UpE s) {i j : Nat} {x y : Ent} (hi : s[i]? = some x) (hj : s[j]? = some y) (he : x.pkg.name = y.pkg.name) : i = j := by
  obtain ⟨h1, rfl⟩ := List.getElem?_eq_some_iff.1 hi
  obtain ⟨h2, rfl⟩ := List.getElem?_eq_some_iff.1 hj
  rcases Nat.lt_trichotomy i j with h3 | h3 | h3
  · exact absurd he (List.pairwise_iff_getElem.1 h.nd i j h1 h2 h3)
  · exact h3
  · exact absurd he.symm (List.pairwise_iff_getElem.1 h.nd j i h2 h1 h3)
/-- the entries of other names -/
def othersE (n : List UInt8) (s : List Ent) : List Ent := s.filter fun x => !nameE n x
def unpS (s : List Ent) (p : Pkg) : List Ent := srt eLt (othersE p.name s ++ [⟨p, false, holdW s p.name⟩])
def confS (s : List Ent) (n : List UInt8) (on : Bool) : List Ent := s.map fun y => if nameE n y then { y with conf := on } else y
/-- what a step makes of entries: none and why not, or the entries and 0 -/
def turnS (s : List Ent) (st : Stp) (fr : List Pkg) : List Ent × Int :=
  if st.kind = 3 then
    match fr.find? (fndP st.name st.ver) with
    | none => ([], 8)
    | some p => match s.find? (nameE st.name) with
      | none => (unpS s p, 0)
      | some x => if sameV x.pkg.ver p.ver then ([], 13) else (unpS s p, 0)
  else match s.find? (nameE st.name) with
    | none => ([], 8)
    | some x =>
      if st.kind = 2 then (if x.pkg.ess then ([], 9) else (othersE st.name s, 0))
      else if x.conf = decide (st.kind = 4) then ([], 13) else (confS s st.name (decide (st.kind = 4)), 0)
def badK (st : Stp) : Bool := !(decide (1 ≤ st.kind) && decide (st.kind ≤ 4)) || (decide (st.kind ≠ 3) && decide (st.ver ≠ []))
def doneS (s : List Ent) (r : List Ent × Int) : List Ent × Int := if r.2 ≠ 0 then ([], r.2) else if 10 < r.1.length then ([], 12) else if withinS (wrongS r.1) (wrongS s) then (r.1, 0) else ([], 9)
/-- a step, plainly -/
def doS (s : List Ent) (st : Stp) (fr : List Pkg) : List Ent × Int :=
  if mayEntsE s ≠ 0 then ([], mayEntsE s) else if mayAllE fr ≠ 0 then ([], mayAllE fr) else if badK st then ([], 1) else doneS s (turnS s st fr)
theorem do_ents {s : List Ent} {st : Stp} {fr : List Pkg} (h : mayEntsE s ≠ 0) : doS s st fr = ([], mayEntsE s) := if_pos h
theorem do_all {s : List Ent} {st : Stp} {fr : List Pkg} (h : mayEntsE s = 0) (h2 : mayAllE fr ≠ 0) : doS s st fr = ([], mayAllE fr) := by unfold doS; rw [if_neg (by simpa using h), if_pos h2]
theorem do_bad {s : List Ent} {st : Stp} {fr : List Pkg} (h : mayEntsE s = 0) (h2 : mayAllE fr = 0) (h3 : badK st = true) : doS s st fr = ([], 1) := by unfold doS; rw [if_neg (by simpa using h), if_neg (by simpa using h2), if_pos h3]
theorem do_turn {s : List Ent} {st : Stp} {fr : List Pkg} (h : mayEntsE s = 0) (h2 : mayAllE fr = 0) (h3 : badK st = false) : doS s st fr = doneS s (turnS s st fr) := by unfold doS; rw [if_neg (by simpa using h), if_neg (by simpa using h2), h3]; rfl
theorem find_at {α : Type} {l : List α} {p : α → Bool} (h : l.any p = false) : l.find? p = none := by rw [List.find?_eq_none]; simpa using h
section
variable {s : List Ent} {n : List UInt8} {i : Nat} {x : Ent}
theorem name_eq (h : nameE n x = true) : x.pkg.name = n := by simpa [nameE] using h
theorem UpE.others_at (h : UpE s) (hi : s[i]? = some x) (hx : x.pkg.name = n) : othersE n s = s.take i ++ s.drop (i + 1) := by
  obtain ⟨hl, rfl⟩ := List.getElem?_eq_some_iff.1 hi
  have e : s = s.take i ++ s[i] :: s.drop (i + 1) := by rw [List.getElem_cons_drop, List.take_append_drop]
  unfold othersE
  conv => lhs; rw [e]
  rw [List.filter_append, List.filter_cons]
  have h0 : (!nameE n s[i]) = false := by simp [nameE, hx]
  rw [h0, List.filter_eq_self.2, List.filter_eq_self.2]
  · rfl
  · intro y hy
    obtain ⟨j, hj⟩ := List.getElem?_of_mem hy
    rw [List.getElem?_drop] at hj
    rcases hn : nameE n y
    · rfl
    · exact absurd (h.uniq hi hj (by rw [hx, name_eq hn])) (by omega)
  · intro y hy
    obtain ⟨j, hj⟩ := List.getElem?_of_mem hy
    rw [List.getElem?_take] at hj
    split at hj
    · rcases hn : nameE n y
      · rfl
      · exact absurd (h.uniq hi hj (by rw [hx, name_eq hn])) (by omega)
    · cases hj
theorem others_no (h : s.any (nameE n) = false) : othersE n s = s := by
  unfold othersE
  rw [List.filter_eq_self]
  intro y hy
  have := List.any_eq_false.1 h y hy
  simpa using this
theorem set_form (l : List Ent) (hl : i < l.length) (y : Ent) : l.set i y = l.take i ++ y :: l.drop (i + 1) := List.set_eq_take_append_cons_drop .. ▸ by rw [if_pos hl]
/-- put in the place of one of the same name -/
theorem UpE.put (h : UpE s) (hi : s[i]? = some x) {y : Ent} (hy : y.pkg.name = x.pkg.name) : UpE (s.set i y) := by
  obtain ⟨hl, rfl⟩ := List.getElem?_eq_some_iff.1 hi
  unfold UpE
  rw [List.pairwise_iff_getElem]
  intro a b ha hb hab
  rw [List.length_set] at ha hb
  have h1 := List.pairwise_iff_getElem.1 h a b ha hb hab
  rw [List.getElem_set, List.getElem_set]
  split
  · rename_i e
    subst e
    rw [if_neg (by omega), hy]
    exact h1
  · split
    · rename_i e
      subst e
      rw [hy]
      exact h1
    · exact h1
theorem UpE.unp_at (h : UpE s) (hi : s[i]? = some x) {p : Pkg} (hx : x.pkg.name = p.name) : unpS s p = s.set i ⟨p, false, x.hold⟩ := by
  have hl := (List.getElem?_eq_some_iff.1 hi).1
  have hh : holdW s p.name = x.hold := by
    rcases hold_cases s p.name with ⟨_, h2, _⟩ | ⟨k, z, hk, hz, _, h4⟩
    · have := List.any_eq_false.1 h2 x (List.mem_of_getElem? hi)
      simp [nameE, hx] at this
    · rcases idx_casesE (nameE p.name) s with ⟨h5, _⟩ | ⟨k', z', h5, h6, _, h7, _⟩
      · rw [h5] at hk; omega
      · rw [hk] at h5
        obtain rfl : k = k' := by omega
        obtain rfl : z = z' := Option.some.inj (hz.symm.trans h6)
        obtain rfl := h.uniq hi hz (by rw [hx, name_eq h7])
        rw [h4, Option.some.inj (hi.symm.trans hz)]
  have hp : UpE (s.set i ⟨p, false, x.hold⟩) := h.put hi (by exact hx.symm)
  unfold unpS
  rw [h.others_at hi hx, hh, srt_snoc]
  rw [set_form s hl] at hp ⊢
  have h1 := List.pairwise_append.1 hp
  have h2 := List.pairwise_cons.1 h1.2.1
  have hd : UpE (s.take i ++ s.drop (i + 1)) := List.pairwise_append.2 ⟨h1.1, h2.2, fun a ha b hb => h1.2.2 a ha b (List.mem_cons_of_mem _ hb)⟩
  rw [hd.srt, insR_left (fun z hz => eLt_bl (h1.2.2 z hz _ (by simp)))]
  have := insR_right (lt := eLt) (N := s.drop (i + 1)) (y := ⟨p, false, x.hold⟩) (fun z hz => by
    have := h2.1 z hz
    have h3 : cmpB p.name z.pkg.name < 0 := cmpB_neg.2 this
    simp [eLt, eCmp, h3]) []
  rw [List.nil_append] at this
  rw [this]
  rfl
theorem unp_no {p : Pkg} (h : s.any (nameE p.name) = false) : unpS s p = srt eLt (s ++ [⟨p, false, false⟩]) := by
  unfold unpS
  rw [others_no h]
  rcases hold_cases s p.name with ⟨_, _, h4⟩ | ⟨_, _, _, _, h5, _⟩
  · rw [h4]
  · rw [h] at h5; cases h5
theorem UpE.conf_at (h : UpE s) (hi : s[i]? = some x) (hx : x.pkg.name = n) (on : Bool) : confS s n on = s.set i { x with conf := on } := by
  unfold confS
  apply List.ext_getElem?
  intro j
  rw [List.getElem?_map, List.getElem?_set]
  split
  · rename_i e
    subst e
    rw [hi, if_pos (List.getElem?_eq_some_iff.1 hi).1]
    simp [nameE, hx]
  · rename_i e
    rcases hj : s[j]? with _ | y
    · rfl
    · rcases hn : nameE n y
      · simp [hn]
      · exact absurd (h.uniq hi hj (by rw [hx, name_eq hn])) e
theorem others_len (n : List UInt8) (s : List Ent) : (othersE n s).length ≤ s.length := List.length_filter_le _ _
theorem UpE.others (h : UpE s) (n : List UInt8) : UpE (othersE n s) := h.sublist List.filter_sublist
theorem conf_name (n : List UInt8) (on : Bool) (y : Ent) : (if nameE n y then { y with conf := on } else y).pkg = y.pkg := by split <;> rfl
theorem UpE.conf (h : UpE s) (n : List UInt8) (on : Bool) : UpE (confS s n on) := by
  unfold confS UpE
  rw [List.pairwise_map]
  exact List.Pairwise.imp (fun {a b} hab => by rw [conf_name, conf_name]; exact hab) h
theorem mem_unp {p : Pkg} {y : Ent} (h : y ∈ unpS s p) : y ∈ s ∨ y.pkg = p := by
  unfold unpS at h
  rw [mem_srt, List.mem_append, List.mem_singleton] at h
  rcases h with h | rfl
  · exact .inl (List.mem_filter.1 h).1
  · exact .inr rfl
theorem eLt_true {x y : Ent} (h : eLt x y = true) : Op.bytesLess x.pkg.name y.pkg.name = true := by
  unfold eLt at h
  exact cmpB_neg.1 (of_decide_eq_true h)
theorem eLt_false {x y : Ent} (h : eLt y x = false) (hne : x.pkg.name ≠ y.pkg.name) : Op.bytesLess x.pkg.name y.pkg.name = true := by
  rcases h1 : Op.bytesLess x.pkg.name y.pkg.name
  · rcases h2 : Op.bytesLess y.pkg.name x.pkg.name
    · exact absurd (bl_tri h1 h2) hne
    · have h3 : cmpB y.pkg.name x.pkg.name < 0 := cmpB_neg.2 h2
      simp [eLt, eCmp, h3] at h
  · rfl
theorem UpE.ins {y : Ent} : ∀ {l : List Ent}, UpE l → (∀ x ∈ l, x.pkg.name ≠ y.pkg.name) → UpE (insR eLt l y)
  | [], _, _ => List.pairwise_singleton _ _
  | x :: l, h, hn => by
    have h1 := List.pairwise_cons.1 h
    rcases hx : eLt y x
    · rw [insR_no hx]
      refine List.pairwise_cons.2 ⟨fun z hz => ?_, UpE.ins h1.2 fun z hz => hn z (List.mem_cons_of_mem _ hz)⟩
      rcases mem_insR.1 hz with rfl | hz
      · exact eLt_false hx (hn x (by simp))
      · exact h1.1 z hz
    · rw [insR_yes hx]
      refine List.pairwise_cons.2 ⟨fun z hz => ?_, h⟩
      rcases List.mem_cons.1 hz with rfl | hz
      · exact eLt_true hx
      · exact bl_trans (eLt_true hx) (h1.1 z hz)
theorem UpE.unp_ins (h : UpE s) (p : Pkg) : unpS s p = insR eLt (othersE p.name s) ⟨p, false, holdW s p.name⟩ := by
  unfold unpS
  rw [srt_snoc, (h.others p.name).srt]
theorem UpE.unp (h : UpE s) (p : Pkg) : UpE (unpS s p) := by
  rw [h.unp_ins]
  refine (h.others _).ins fun x hx => ?_
  have := (List.mem_filter.1 hx).2
  simpa [nameE] using this
theorem unp_len (s : List Ent) (p : Pkg) : (unpS s p).length = (othersE p.name s).length + 1 := by unfold unpS; rw [srt_len]; simp
theorem conf_len (s : List Ent) (n : List UInt8) (on : Bool) : (confS s n on).length = s.length := List.length_map ..
end
end Go.Proofs.YtaicidbopgnmfaaGreatDoor
namespace Go.Proofs.YtaicidbopgnmfaaGreatDoor
set_option linter.unusedSimpArgs false
set_option linter.unusedVariables false
open Go.RowKit
theorem done_nil {s : List Ent} {r : List Ent × Int} (h : (doneS s r).2 ≠ 0) : (doneS s r).1 = [] := by
  unfold doneS at h ⊢
  split
  · rfl
  · split
    · rfl
    · split
      · rename_i h1 h2 h3
        rw [if_neg h1, if_neg h2, if_pos h3] at h
        exact absurd rfl h
      · rfl
theorem do_nil {s : List Ent} {st : Stp} {fr : List Pkg} (h : (doS s st fr).2 ≠ 0) : (doS s st fr).1 = [] := by
  unfold doS at h ⊢
  split
  · rfl
  · split
    · rfl
    · split
      · rfl
      · rename_i h1 h2 h3
        rw [if_neg h1, if_neg h2, if_neg h3] at h
        exact done_nil h
/-- a step that is done -/
structure Did (s : List Ent) (st : Stp) (fr : List Pkg) (t : List Ent) : Prop where
  ents : mayEntsE s = 0
  all : mayAllE fr = 0
  kind : badK st = false
  turn : turnS s st fr = (t, 0)
  few : t.length ≤ 10
  within : withinS (wrongS t) (wrongS s) = true
theorem do_did {s : List Ent} {st : Stp} {fr : List Pkg} (h : (doS s st fr).2 = 0) : Did s st fr (doS s st fr).1 := by
  unfold doS at h ⊢
  by_cases h1 : mayEntsE s = 0
  · rw [if_neg (by simpa using h1)] at h ⊢
    by_cases h2 : mayAllE fr = 0
    · rw [if_neg (by simpa using h2)] at h ⊢
      rcases h3 : badK st
      · simp only [h3] at h ⊢
        rw [if_neg (by simp)] at h ⊢
        rcases ht : turnS s st fr with ⟨t, e⟩
        rw [ht] at h
        unfold doneS at h ⊢
        by_cases h4 : e = 0
        · subst h4
          rw [if_neg (by simp)] at h ⊢
          by_cases h5 : 10 < t.length
          · rw [if_pos h5] at h; cases h
          · rw [if_neg h5] at h ⊢
            rcases h6 : withinS (wrongS t) (wrongS s)
            · simp [h6] at h
            · simp only [h6, if_true]
              exact ⟨h1, h2, h3, ht, Nat.le_of_not_lt h5, h6⟩
        · rw [if_pos h4] at h; exact absurd h h4
      · simp [h3] at h
    · rw [if_pos h2] at h; exact absurd h h2
  · rw [if_pos h1] at h; exact absurd h h1
theorem Did.do_ {s t : List Ent} {st : Stp} {fr : List Pkg} (h : Did s st fr t) : doS s st fr = (t, 0) := by
  rw [do_turn h.ents h.all h.kind, h.turn]
  unfold doneS
  rw [if_neg (by simp), if_neg (show ¬ 10 < t.length by have := h.few; omega), if_pos h.within]
/-- the ways of a step that is done -/
theorem turn_ok {s t : List Ent} {st : Stp} {fr : List Pkg} (h : turnS s st fr = (t, 0)) :
    (st.kind = 3 ∧ ∃ p, fr.find? (fndP st.name st.ver) = some p ∧ t = unpS s p ∧ (s.find? (nameE st.name) = none ∨ ∃ x, s.find? (nameE st.name) = some x ∧ sameV x.pkg.ver p.ver = false)) ∨
    (st.kind = 2 ∧ ∃ x, s.find? (nameE st.name) = some x ∧ x.pkg.ess = false ∧ t = othersE st.name s) ∨
    (st.kind ≠ 3 ∧ st.kind ≠ 2 ∧ ∃ x, s.find? (nameE st.name) = some x ∧ x.conf = !decide (st.kind = 4) ∧ t = confS s st.name (decide (st.kind = 4))) := by
  unfold turnS at h
  by_cases h3 : st.kind = 3
  · rw [if_pos h3] at h
    rcases hf : fr.find? (fndP st.name st.ver) with _ | p
    · rw [hf] at h; cases h
    · rw [hf] at h
      rcases hs : s.find? (nameE st.name) with _ | x
      · simp only [hs] at h
        injection h with h
        exact .inl ⟨h3, p, rfl, h.symm, .inl rfl⟩
      · simp only [hs] at h
        rcases hv : sameV x.pkg.ver p.ver
        · rw [hv] at h
          injection h with h
          exact .inl ⟨h3, p, rfl, h.symm, .inr ⟨x, rfl, hv⟩⟩
        · rw [hv] at h; cases h
  · rw [if_neg h3] at h
    rcases hs : s.find? (nameE st.name) with _ | x
    · rw [hs] at h; cases h
    · simp only [hs] at h
      by_cases h2 : st.kind = 2
      · rw [if_pos h2] at h
        rcases he : x.pkg.ess
        · rw [he] at h
          injection h with h
          exact .inr (.inl ⟨h2, x, rfl, he, h.symm⟩)
        · rw [he] at h; cases h
      · rw [if_neg h2] at h
        by_cases hc : x.conf = decide (st.kind = 4)
        · rw [if_pos hc] at h; cases h
        · rw [if_neg hc] at h
          injection h with h
          refine .inr (.inr ⟨h3, h2, x, rfl, ?_, h.symm⟩)
          generalize decide (st.kind = 4) = b at hc ⊢
          generalize x.conf = a at hc ⊢
          cases a <;> cases b <;> simp at hc ⊢
theorem find_name {s : List Ent} {n : List UInt8} {x : Ent} (h : s.find? (nameE n) = some x) : x ∈ s ∧ x.pkg.name = n := ⟨List.mem_of_find?_eq_some h, name_eq (List.find?_some h)⟩
theorem Did.up {s t : List Ent} {st : Stp} {fr : List Pkg} (h : Did s st fr t) : UpE t := by
  have hu := ents_up h.ents
  rcases turn_ok h.turn with ⟨_, p, _, rfl, _⟩ | ⟨_, x, _, _, rfl⟩ | ⟨_, _, x, _, _, rfl⟩
  · exact hu.unp p
  · exact hu.others _
  · exact hu.conf _ _
theorem Did.pkg {s t : List Ent} {st : Stp} {fr : List Pkg} (h : Did s st fr t) {y : Ent} (hy : y ∈ t) : (∃ x ∈ s, y.pkg = x.pkg) ∨ y.pkg ∈ fr := by
  rcases turn_ok h.turn with ⟨_, p, hp, rfl, _⟩ | ⟨_, x, _, _, rfl⟩ | ⟨_, _, x, _, _, rfl⟩
  · rcases mem_unp hy with h1 | h1
    · exact .inl ⟨y, h1, rfl⟩
    · exact .inr (h1 ▸ List.mem_of_find?_eq_some hp)
  · exact .inl ⟨y, (List.mem_filter.1 hy).1, rfl⟩
  · obtain ⟨x, hx, rfl⟩ := List.mem_map.1 hy
    exact .inl ⟨x, hx, conf_name _ _ _⟩
theorem Did.may {s t : List Ent} {st : Stp} {fr : List Pkg} (h : Did s st fr t) : mayEntsE t = 0 :=
  ents_ok (by have := h.few; omega) (fun y hy => by
    rcases h.pkg hy with ⟨x, hx, e⟩ | e
    · rw [e]; exact (ents_zero h.ents).2.1 x hx
    · exact (mayAll_zero h.all).2.1 _ e) (up_riseB h.up)
theorem within_refl (l : List Vio) : withinS l l = true := by
  unfold withinS
  rw [List.all_eq_true]
  exact fun x hx => List.any_eq_true.2 ⟨x, hx, decide_eq_true rfl⟩
theorem within_mem {a b : List Vio} : withinS a b = true ↔ ∀ x ∈ a, x ∈ b := by
  unfold withinS
  rw [List.all_eq_true]
  refine forall_congr' fun x => forall_congr' fun _ => ?_
  rw [List.any_eq_true]
  constructor
  · rintro ⟨y, hy, e⟩
    rw [of_decide_eq_true e]; exact hy
  · exact fun h => ⟨x, h, decide_eq_true rfl⟩
theorem within_trans {a b c : List Vio} (h : withinS a b = true) (h2 : withinS b c = true) : withinS a c = true :=
  within_mem.2 fun x hx => within_mem.1 h2 x (within_mem.1 h x hx)
/-- what stays of the other names -/
theorem Did.other {s t : List Ent} {st : Stp} {fr : List Pkg} (h : Did s st fr t) {x : Ent} (hn : x.pkg.name ≠ st.name) : x ∈ t ↔ x ∈ s := by
  have hk : nameE st.name x = false := by simpa [nameE] using hn
  rcases turn_ok h.turn with ⟨_, p, hp, rfl, _⟩ | ⟨_, z, _, _, rfl⟩ | ⟨_, _, z, _, _, rfl⟩
  · have hpn : p.name = st.name := by
      have := List.find?_some hp
      simp [fndP] at this
      exact this.1
    unfold unpS othersE
    rw [mem_srt, List.mem_append, List.mem_singleton, List.mem_filter, hpn, hk]
    constructor
    · rintro (h1 | rfl)
      · exact h1.1
      · exact absurd hpn hn
    · exact fun h1 => .inl ⟨h1, rfl⟩
  · unfold othersE
    rw [List.mem_filter, hk]
    exact ⟨fun h => h.1, fun h => ⟨h, rfl⟩⟩
  · unfold confS
    rw [List.mem_map]
    constructor
    · rintro ⟨y, hy, e⟩
      rcases hny : nameE st.name y
      · rw [hny] at e; exact e ▸ hy
      · rw [hny] at e
        exact absurd (by rw [← e]; exact name_eq hny) hn
    · exact fun h1 => ⟨x, h1, by rw [hk]; rfl⟩
theorem UpE.mem_uniq {s : List Ent} (h : UpE s) {x y : Ent} (hx : x ∈ s) (hy : y ∈ s) (he : x.pkg.name = y.pkg.name) : x = y := by
  obtain ⟨i, hi⟩ := List.getElem?_of_mem hx
  obtain ⟨j, hj⟩ := List.getElem?_of_mem hy
  obtain rfl := h.uniq hi hj he
  exact Option.some.inj (hi.symm.trans hj)
/-- an Essential one stays, but for one that is unpacked in its place -/
theorem Did.keeps {s t : List Ent} {st : Stp} {fr : List Pkg} (h : Did s st fr t) {x : Ent} (hx : x ∈ s) (he : x.pkg.ess = true) (hk : ¬ (st.kind = 3 ∧ st.name = x.pkg.name)) : ∃ y ∈ t, y.pkg = x.pkg := by
  by_cases hn : x.pkg.name = st.name
  · rcases turn_ok h.turn with ⟨h3, _⟩ | ⟨_, z, hz, hze, rfl⟩ | ⟨_, _, z, _, _, rfl⟩
    · exact absurd ⟨h3, hn.symm⟩ hk
    · obtain ⟨h1, h2⟩ := find_name hz
      rw [(ents_up h.ents).mem_uniq h1 hx (h2.trans hn.symm), he] at hze
      cases hze
    · exact ⟨_, List.mem_map_of_mem hx, conf_name _ _ _⟩
  · exact ⟨x, (h.other hn).2 hx, rfl⟩
/-- of the other names each stands where its name is found -/
theorem UpE.find_at {t : List Ent} (h : UpE t) {x : Ent} (hx : x ∈ t) : ∃ i : Nat, idxS (nameE x.pkg.name) t = i ∧ t[i]? = some x := by
  rcases idx_casesE (nameE x.pkg.name) t with ⟨_, h2⟩ | ⟨i, y, h1, h2, _, h4, _⟩
  · have := List.any_eq_false.1 h2 x hx
    simp [nameE] at this
  · refine ⟨i, h1, ?_⟩
    rw [h.mem_uniq hx (List.mem_of_getElem? h2) (name_eq h4).symm]
    exact h2
theorem idx_gone {t : List Ent} {n : List UInt8} (h : ∀ y ∈ t, y.pkg.name ≠ n) : idxS (nameE n) t = -1 := idx_no (List.any_eq_false.2 fun y hy => by simpa [nameE] using h y hy)
theorem others_gone {s : List Ent} {n : List UInt8} : ∀ y ∈ othersE n s, y.pkg.name ≠ n := fun y hy => by
  have := (List.mem_filter.1 hy).2
  simpa [nameE] using this
theorem UpE.others_less {s : List Ent} (h : UpE s) {n : List UInt8} {x : Ent} (hx : s.find? (nameE n) = some x) : (othersE n s).length + 1 = s.length := by
  obtain ⟨h1, h2⟩ := find_name hx
  obtain ⟨i, hi⟩ := List.getElem?_of_mem h1
  have hl := (List.getElem?_eq_some_iff.1 hi).1
  rw [h.others_at hi h2]
  simp
  omega
theorem Did.remove {s t : List Ent} {st : Stp} {fr : List Pkg} (h : Did s st fr t) (h2 : st.kind = 2) : idxS (nameE st.name) t = -1 ∧ t.length + 1 = s.length := by
  rcases turn_ok h.turn with ⟨h3, _⟩ | ⟨_, z, hz, hze, rfl⟩ | ⟨_, h4, _⟩
  · omega
  · exact ⟨idx_gone others_gone, (ents_up h.ents).others_less hz⟩
  · exact absurd h2 h4
theorem Did.unpack {s t : List Ent} {st : Stp} {fr : List Pkg} (h : Did s st fr t) (h3 : st.kind = 3) : ∃ (i : Nat) (y : Ent), idxS (nameE st.name) t = i ∧ t[i]? = some y ∧ y.conf = false := by
  have hu := h.up
  rcases turn_ok h.turn with ⟨_, p, hp, rfl, _⟩ | ⟨h2, _⟩ | ⟨h4, _⟩
  · have hpn : p.name = st.name := by
      have := List.find?_some hp
      simp [fndP] at this
      exact this.1
    obtain ⟨i, h5, h6⟩ := hu.find_at (x := ⟨p, false, holdW s p.name⟩) (by unfold unpS; rw [mem_srt]; simp)
    exact ⟨i, _, by rw [← hpn]; exact h5, h6, rfl⟩
  · omega
  · exact absurd h3 h4
theorem Did.conf {s t : List Ent} {st : Stp} {fr : List Pkg} (h : Did s st fr t) (h3 : st.kind ≠ 3) (h2 : st.kind ≠ 2) : (∃ (i : Nat) (y : Ent), idxS (nameE st.name) t = i ∧ t[i]? = some y ∧ y.conf = decide (st.kind = 4)) ∧
    t = confS s st.name (decide (st.kind = 4)) ∧ ∀ x ∈ s, x.pkg.name = st.name → x.conf = !decide (st.kind = 4) := by
  have hu := h.up
  rcases turn_ok h.turn with ⟨h5, _⟩ | ⟨h5, _⟩ | ⟨_, _, x, hx, hc, rfl⟩
  · exact absurd h5 h3
  · exact absurd h5 h2
  · obtain ⟨h6, h7⟩ := find_name hx
    obtain ⟨i, h8, h9⟩ := hu.find_at (x := { x with conf := decide (st.kind = 4) }) (by
      unfold confS
      refine List.mem_map.2 ⟨x, h6, ?_⟩
      rw [if_pos (by simp [nameE, h7])])
    exact ⟨⟨i, _, (congrArg (fun m => idxS (nameE m) (confS s st.name (decide (st.kind = 4)))) h7).symm.trans h8, h9, rfl⟩, rfl, fun y hy hn => by rw [(ents_up h.ents).mem_uniq hy h6 (hn.trans h7.symm)]; exact hc⟩
/-- deconfigured again -/
theorem conf_back {s : List Ent} {n : List UInt8} {b : Bool} (h : ∀ x ∈ s, x.pkg.name = n → x.conf = b) (a : Bool) : confS (confS s n a) n b = s := by
  unfold confS
  rw [List.map_map]
  refine (List.map_congr_left fun x hx => ?_).trans (List.map_id s)
  rcases hn : nameE n x
  · simp [hn]
  · have h2 : nameE n { x with conf := a } = true := hn
    simp only [Function.comp, hn, if_true, h2, id]
    rw [← h x hx (name_eq hn)]
theorem Did.back {s t u : List Ent} {st : Stp} {fr : List Pkg} (h : Did s st fr t) (h4 : st.kind = 4) (h2 : Did t ⟨1, st.name, []⟩ fr u) : u = s := by
  obtain ⟨_, e1, e2⟩ := h.conf (by omega) (by omega)
  obtain ⟨_, e3, _⟩ := h2.conf (show ((1 : Int) ≠ 3) by decide) (show ((1 : Int) ≠ 2) by decide)
  rw [e3, e1]
  refine conf_back (fun x hx hn => ?_) _
  rw [e2 x hx hn, h4]
  rfl
end Go.Proofs.YtaicidbopgnmfaaGreatDoor
namespace Go.Proofs.YtaicidbopgnmfaaGreatDoor
set_option linter.unusedSimpArgs false
set_option linter.unusedVariables false
open Go.RowKit
def wordS (k : Int) : List UInt8 := if k = 1 then [100, 101, 99, 111, 110, 102, 105, 103, 117, 114, 101] else if k = 2 then [114, 101, 109, 111, 118, 101] else if k = 3 then [117, 110, 112, 97, 99, 107] else if k = 4 then [99, 111, 110, 102, 105, 103, 117, 114, 101] else []
theorem word_nil (k : Int) : (wordS k = []) ↔ ¬ (1 ≤ k ∧ k ≤ 4) := by
  unfold wordS
  split
  · simp; omega
  · split
    · simp; omega
    · split
      · simp; omega
      · split
        · simp; omega
        · simp; omega
set_option maxRecDepth 100000 in
theorem word_any (k : Int) (w : World) : Calls Tryz.prog 56 #[.int .i64 k] w fun e w' => e = .returned (.string (bs (wordS k))) ∧ w = w' := by
  by_cases h1 : k = 1
  · subst h1
    go_enter Tryz.func56, Tryz.ntmps56
    go_wp2
    go_ret
    exact ⟨rfl, rfl⟩
  · by_cases h2 : k = 2
    · subst h2
      go_enter Tryz.func56, Tryz.ntmps56
      go_wp2
      go_ret
      exact ⟨rfl, rfl⟩
    · by_cases h3 : k = 3
      · subst h3
        go_enter Tryz.func56, Tryz.ntmps56
        go_wp2
        go_ret
        exact ⟨rfl, rfl⟩
      · by_cases h4 : k = 4
        · subst h4
          go_enter Tryz.func56, Tryz.ntmps56
          go_wp2
          go_ret
          exact ⟨rfl, rfl⟩
        · have HW := Lib.hid (show wordS k = [] by unfold wordS; rw [if_neg h1, if_neg h2, if_neg h3, if_neg h4])
          have b1 : (k == 1) = false := beq_eq_false_iff_ne.2 h1
          have b2 : (k == 2) = false := beq_eq_false_iff_ne.2 h2
          have b3 : (k == 3) = false := beq_eq_false_iff_ne.2 h3
          have b4 : (k == 4) = false := beq_eq_false_iff_ne.2 h4
          go_enter Tryz.func56, Tryz.ntmps56
          go_wp2
          go_ret
          exact ⟨by rw [HW.out]; rfl, rfl⟩
/-- a package and whether there is one are returned -/
def RetPk (w : World) (o : Option Pkg) (e : Ending) (w' : World) : Prop :=
  (match o with
    | some q => ∃ r, RP w r q ∧ e = .returned (.tuple #[(.agg #[.string (bs (q).name), .string (bs (q).ver), .slice (r).a1 (q).pre.length (r).c1, .slice (r).a2 (q).dep.length (r).c2, .slice (r).a3 (q).rcm.length (r).c3, .slice (r).a4 (q).con.length (r).c4, .slice (r).a5 (q).brk.length (r).c5, .slice (r).a6 (q).prv.length (r).c6, .bool (q).ess]), .bool true])
    | none => e = .returned (.tuple #[.agg #[.string (bs []), .string (bs []), .slice none 0 0, .slice none 0 0, .slice none 0 0, .slice none 0 0, .slice none 0 0, .slice none 0 0, .bool false], .bool false])) ∧ Below w.heap.size w w'
theorem RetPk.some_ {w w' : World} {o : Option Pkg} {q : Pkg} {r : Raw} (hf : o = some q) (hr : RP w r q) (hb : Below w.heap.size w w') : RetPk w o (.returned (.tuple #[(.agg #[.string (bs (q).name), .string (bs (q).ver), .slice (r).a1 (q).pre.length (r).c1, .slice (r).a2 (q).dep.length (r).c2, .slice (r).a3 (q).rcm.length (r).c3, .slice (r).a4 (q).con.length (r).c4, .slice (r).a5 (q).brk.length (r).c5, .slice (r).a6 (q).prv.length (r).c6, .bool (q).ess]), .bool true])) w' := by
  rw [hf]
  exact ⟨⟨r, hr, rfl⟩, hb⟩
theorem find_hit {α : Type} {p : α → Bool} {l : List α} {k : Nat} {q : α} (hq : l[k]? = some q) (hp : p q = true) (hn : (l.take k).any p = false) : l.find? p = some q := by
  obtain ⟨hk, rfl⟩ := List.getElem?_eq_some_iff.1 hq
  rw [List.find?_eq_some_iff_getElem]
  refine ⟨hp, k, hk, rfl, fun j hj => ?_⟩
  have := List.any_eq_false.1 hn l[j] (by rw [List.mem_take_iff_getElem]; exact ⟨j, by omega, rfl⟩)
  simpa using this
set_option maxRecDepth 100000 in
set_option maxHeartbeats 1600000 in
theorem pfind_any (A : Option Addr) (c : Nat) (l : List Pkg) (n v : List UInt8) (w : World) (hl : Pkgs w A c l) :
    Calls Tryz.prog 103 #[.slice A l.length c, .string (bs n), .string (bs v)] w (RetPk w (l.find? (fndP n v))) := by
  have hbd := hl.bd
  have HL := Lib.hid hl
  clear hl
  go_enter Tryz.func103, Tryz.ntmps103
  go_wp2
  go_loopw [12] (fun i wr => ∃ k : Nat, k ≤ l.length ∧ i = .int .i64 k ∧ Below w.heap.size w wr ∧ Blk wr w.heap.size 43 #[.string (bs []), .string (bs []), .slice none 0 0, .slice none 0 0, .slice none 0 0, .slice none 0 0, .slice none 0 0, .slice none 0 0, .bool false] ∧ (l.take k).any (fndP n v) = false) (fun i _ => l.length - (intOf i).toNat)
  case atStart => exact ⟨0, Nat.zero_le _, rfl, (Below.refl _ _).alloc (Nat.le_refl _) _, blk_new1 _ _ _, rfl⟩
  case round =>
    obtain ⟨k, hk, rfl, hb, hB, hn⟩ := hrel
    have HB := Lib.hid hb
    have HN := Lib.hid hn
    have HBk := Lib.hid hB
    have hsz : w.heap.size < wr.heap.size := hB.lt
    clear hb hn hB
    by_cases hlt : k < l.length
    · obtain ⟨q, b, o, r, hq, rfl, hr, e0, e1, e2, e3, e4, e5, e6, e7, e8⟩ := HL.out.at_ hlt (Kept.of_below HB.out)
      have HQ := Lib.hid hq
      have HR := Lib.hid hr
      clear hq hr
      by_cases hnm : q.name = n
      · have HD := Lib.hid (show fndP n v q = sameV q.ver v by simp [fndP, hnm])
        have hnb : (q.name == n) = true := by simpa using hnm
        clear hnm
        go_wp2_with fail
        clear e0 e1 e2 e3 e4 e5 e6 e7 e8
        refine (Same_any q.ver v _).mono ?_
        rintro e w1 ⟨rfl, hb1⟩
        have HBk1 := Lib.hid ((HBk.out.alloc (.cells #[.string (bs (q).name), .string (bs (q).ver), .slice (r).a1 (q).pre.length (r).c1, .slice (r).a2 (q).dep.length (r).c2, .slice (r).a3 (q).rcm.length (r).c3, .slice (r).a4 (q).con.length (r).c4, .slice (r).a5 (q).brk.length (r).c5, .slice (r).a6 (q).prv.length (r).c6, .bool (q).ess] 43)).next hb1)
        have HBq := Lib.hid ((blk_new1 wr 43 #[.string (bs (q).name), .string (bs (q).ver), .slice (r).a1 (q).pre.length (r).c1, .slice (r).a2 (q).dep.length (r).c2, .slice (r).a3 (q).rcm.length (r).c3, .slice (r).a4 (q).con.length (r).c4, .slice (r).a5 (q).brk.length (r).c5, .slice (r).a6 (q).prv.length (r).c6, .bool (q).ess]).next hb1)
        have HB1 := Lib.hid (below_next (below_alloc HB.out (.cells #[.string (bs (q).name), .string (bs (q).ver), .slice (r).a1 (q).pre.length (r).c1, .slice (r).a2 (q).dep.length (r).c2, .slice (r).a3 (q).rcm.length (r).c3, .slice (r).a4 (q).con.length (r).c4, .slice (r).a5 (q).brk.length (r).c5, .slice (r).a6 (q).prv.length (r).c6, .bool (q).ess] 43)) hb1)
        have hsz1 := HBk1.out.lt
        clear hb1
        obtain ⟨c0, c1, c2, c3, c4, c5, c6, c7, c8⟩ := blk9 HBk1.out
        obtain ⟨d0, d1, d2, d3, d4, d5, d6, d7, d8⟩ := blk9 HBq.out
        have f0 := HBk1.out.frozen 0
        have f1 := HBk1.out.frozen 1
        have f2 := HBk1.out.frozen 2
        have f3 := HBk1.out.frozen 3
        have f4 := HBk1.out.frozen 4
        have f5 := HBk1.out.frozen 5
        have f6 := HBk1.out.frozen 6
        have f7 := HBk1.out.frozen 7
        have f8 := HBk1.out.frozen 8
        rcases hsv : sameV q.ver v
        · have HN1 := Lib.hid (show fndP n v q = false by rw [HD.out, hsv])
          clear hsv
          go_wp2_with fail
          go_roundw
          case rel => exact ⟨k + 1, by omega, by simp, HB1.out, HBk1.out, any_step HQ.out HN1.out HN.out⟩
          case measure => (try simp only [intOf]); omega
        · have HF := Lib.hid (find_hit HQ.out (show fndP n v q = true by rw [HD.out, hsv]) HN.out)
          clear hsv
          go_wp2_with fail
          refine bodyPost_ret (v := .tuple #[(.agg #[.string (bs (q).name), .string (bs (q).ver), .slice (r).a1 (q).pre.length (r).c1, .slice (r).a2 (q).dep.length (r).c2, .slice (r).a3 (q).rcm.length (r).c3, .slice (r).a4 (q).con.length (r).c4, .slice (r).a5 (q).brk.length (r).c5, .slice (r).a6 (q).prv.length (r).c6, .bool (q).ess]), .bool true]) (by simp [results, Tryz.results103, go_sem, c0, c1, c2, c3, c4, c5, c6, c7, c8, hsz1]) rfl ?_
          refine RetPk.some_ HF.out HR.out ?_
          have hb0 := HB1.out
          exact ((((((((hb0.setCell (Nat.le_refl _) _).setCell (Nat.le_refl _) _).setCell (Nat.le_refl _) _).setCell (Nat.le_refl _) _).setCell (Nat.le_refl _) _).setCell (Nat.le_refl _) _).setCell (Nat.le_refl _) _).setCell (Nat.le_refl _) _).setCell (Nat.le_refl _) _
      · have HN1 := Lib.hid (show fndP n v q = false by simp [fndP, hnm])
        have hnb : (q.name == n) = false := by simpa using hnm
        clear hnm
        go_wp2_with fail
        go_roundw
        case rel => exact ⟨k + 1, by omega, by simp, by have hb0 := HB.out; (repeat (first | assumption | exact Below.refl _ _ | refine below_next ?_ (by assumption) | refine below_drewN ?_ _ | refine below_alloc ?_ _)), HBk.out.alloc _, any_step HQ.out HN1.out HN.out⟩
        case measure => (try simp only [intOf]); omega
    · have HF := Lib.hid (show l.find? (fndP n v) = none from find_at (any_end hk hlt HN.out))
      obtain ⟨c0, c1, c2, c3, c4, c5, c6, c7, c8⟩ := blk9 HBk.out
      have f0 := HBk.out.frozen 0
      have f1 := HBk.out.frozen 1
      have f2 := HBk.out.frozen 2
      have f3 := HBk.out.frozen 3
      have f4 := HBk.out.frozen 4
      have f5 := HBk.out.frozen 5
      have f6 := HBk.out.frozen 6
      have f7 := HBk.out.frozen 7
      have f8 := HBk.out.frozen 8
      go_wp2
      refine bodyPost_ret (v := .tuple #[.agg #[.string (bs []), .string (bs []), .slice none 0 0, .slice none 0 0, .slice none 0 0, .slice none 0 0, .slice none 0 0, .slice none 0 0, .bool false], .bool false]) (by simp [results, Tryz.results103, go_sem, c0, c1, c2, c3, c4, c5, c6, c7, c8, hsz]; rfl) rfl ?_
      rw [HF.out]
      refine ⟨rfl, ?_⟩
      have hb0 := HB.out
      exact (((((((((hb0.setCell (Nat.le_refl _) _).setCell (Nat.le_refl _) _).setCell (Nat.le_refl _) _).setCell (Nat.le_refl _) _).setCell (Nat.le_refl _) _).setCell (Nat.le_refl _) _).setCell (Nat.le_refl _) _).setCell (Nat.le_refl _) _).setCell (Nat.le_refl _) _)
end Go.Proofs.YtaicidbopgnmfaaGreatDoor
namespace Go.Proofs.YtaicidbopgnmfaaGreatDoor
set_option linter.unusedSimpArgs false
set_option linter.unusedVariables false
open Go.RowKit
def putL (cur : Array Value) (o : Nat) : List Value → Array Value
  | [] => cur
  | v :: vs => putL (cur.setIfInBounds o v) (o + 1) vs
theorem setCells_heap {b e : Nat} {fz : Nat × Nat} : ∀ (vs : List Value) (o : Nat) (w : World) (cur : Array Value), w.heap[b]? = some (.cells cur e fz) → (w.setCells b o vs).heap[b]? = some (.cells (putL cur o vs) e fz)
  | [], _, _, _, h => h
  | v :: vs, o, w, cur, h => setCells_heap vs (o + 1) _ _ (by simp [World.setCell, Array.getElem?_modify, h])
theorem setCells_far {b k : Nat} (hk : k ≠ b) : ∀ (vs : List Value) (o : Nat) (w : World), (w.setCells b o vs).heap[k]? = w.heap[k]?
  | [], _, _ => rfl
  | v :: vs, o, w => (setCells_far hk vs (o + 1) _).trans (Below.heap_setCell w ⟨b, o, none⟩ v k hk)
theorem setCells_hsize (b : Nat) : ∀ (vs : List Value) (o : Nat) (w : World), (w.setCells b o vs).heap.size = w.heap.size
  | [], _, _ => rfl
  | v :: vs, o, w => by rw [World.setCells, setCells_hsize b vs]; simp [World.setCell]
theorem below_setCellsR {B b : Nat} {a : World} (hb : B ≤ b) : ∀ (vs : List Value) (o : Nat) (w : World), Below B a w → Below B a (w.setCells b o vs)
  | [], _, _, h => h
  | v :: vs, o, w, h => below_setCellsR hb vs (o + 1) _ (h.setCell (p := ⟨b, o, none⟩) hb v)
theorem putL_size : ∀ (vs : List Value) (o : Nat) (cur : Array Value), (putL cur o vs).size = cur.size
  | [], _, _ => rfl
  | v :: vs, o, cur => by rw [putL, putL_size vs]; simp
theorem putL_list : ∀ (vs : List Value) (o : Nat) (cur : Array Value), o + vs.length ≤ cur.size → (putL cur o vs).toList = cur.toList.take o ++ vs ++ cur.toList.drop (o + vs.length)
  | [], o, cur, _ => by simp [putL]
  | v :: vs, o, cur, h => by
    rw [List.length_cons] at h
    rw [putL, putL_list vs (o + 1) _ (by simp; omega), Array.toList_setIfInBounds, List.length_cons]
    have hs : o < cur.toList.length := by simp; omega
    have h1 : (cur.toList.set o v).take (o + 1) = cur.toList.take o ++ [v] := by
      apply List.ext_getElem?
      intro i
      rw [List.getElem?_take, List.getElem?_append, List.length_take, Nat.min_eq_left (by omega), List.getElem?_set]
      rcases Nat.lt_trichotomy i o with hi | hi | hi
      · rw [if_pos (by omega), if_neg (by omega), if_pos hi, List.getElem?_take, if_pos hi]
      · subst hi
        rw [if_pos (by omega), if_pos rfl, if_pos hs, if_neg (by omega), Nat.sub_self]; rfl
      · rw [if_neg (by omega), if_neg (by omega), show i - o = (i - o - 1) + 1 from by omega]; rfl
    have h2 : (cur.toList.set o v).drop (o + 1 + vs.length) = cur.toList.drop (o + (vs.length + 1)) := by
      apply List.ext_getElem?
      intro i
      rw [List.getElem?_drop, List.getElem?_drop, List.getElem?_set, if_neg (by omega)]
      congr 1
      omega
    rw [h1, h2]
    simp
theorem flat_takeR {α : Type} {k : Nat} : ∀ {css : List (List α)} (i : Nat), (∀ cs ∈ css, cs.length = k) → (css.take i).flatten = css.flatten.take (i * k)
  | css, 0, _ => by simp
  | [], i + 1, _ => by simp
  | c :: css, i + 1, h => by
    have hc : c.length = k := h c (List.mem_cons_self ..)
    rw [List.take_succ_cons, List.flatten_cons, List.flatten_cons, flat_takeR i (fun x hx => h x (List.mem_cons_of_mem _ hx)), show (i + 1) * k = c.length + i * k from by rw [hc, Nat.succ_mul]; omega, List.take_length_add_append]
theorem flat_dropR {α : Type} {k : Nat} : ∀ {css : List (List α)} (i : Nat), (∀ cs ∈ css, cs.length = k) → (css.drop i).flatten = css.flatten.drop (i * k)
  | css, 0, _ => by simp
  | [], i + 1, _ => by simp
  | c :: css, i + 1, h => by
    have hc : c.length = k := h c (List.mem_cons_self ..)
    rw [List.drop_succ_cons, List.flatten_cons, flat_dropR i (fun x hx => h x (List.mem_cons_of_mem _ hx)), show (i + 1) * k = c.length + i * k from by rw [hc, Nat.succ_mul]; omega, List.drop_length_add_append]
theorem flat_lenR {α : Type} {k : Nat} : ∀ {css : List (List α)}, (∀ cs ∈ css, cs.length = k) → css.flatten.length = css.length * k
  | [], _ => by simp
  | c :: css, h => by
    rw [List.flatten_cons, List.length_append, flat_lenR (fun x hx => h x (List.mem_cons_of_mem _ hx)), h c (List.mem_cons_self ..), List.length_cons, Nat.succ_mul]
    omega
section
variable {α : Type} {w w' : World} {B : Nat} {e : TypeId} {k : Nat} {R : List Value → α → Prop} {g n cap : Nat} {l : List α}
theorem Own.rawc (h : Own w B e k R (.slice (some ⟨g, 0, none⟩) n cap) l) : n = l.length ∧ B ≤ g ∧ ∃ (cur : Array Value) (css : List (List Value)), w.heap[g]? = some (.cells cur e (0, 0)) ∧ l.length ≤ cap ∧ cap ≤ maxLen ∧ cur.size = cap * k ∧
    css.length = l.length ∧ (∀ (i : Nat) (cs : List Value) (x : α), css[i]? = some cs → l[i]? = some x → R cs x ∧ cs.length = k) ∧ cur.toList.take (l.length * k) = css.flatten := by
  obtain ⟨css, hl, hR, hlen, ho⟩ := h
  rcases ho with ⟨hv, _⟩ | ⟨g', cap', cur, hv, hb, hg, hnc, hcm, hcs, hxs⟩
  · cases hv
  · injection hv with h1 h2 h3
    injection h1 with h1
    injection h1 with h1
    subst h1 h2 h3
    exact ⟨rfl, hb, cur, css, hg, hnc, hcm, hcs, hl, hR, hxs⟩
theorem Own.of_rawc {cur : Array Value} {css : List (List Value)} (hb : B ≤ g) (hg : w.heap[g]? = some (.cells cur e (0, 0))) (hn : l.length ≤ cap) (hm : cap ≤ maxLen) (hc : cur.size = cap * k) (hl : css.length = l.length)
    (hR : ∀ (i : Nat) (cs : List Value) (x : α), css[i]? = some cs → l[i]? = some x → R cs x ∧ cs.length = k) (hx : cur.toList.take (l.length * k) = css.flatten) : Own w B e k R (.slice (some ⟨g, 0, none⟩) l.length cap) l :=
  ⟨css, hl, hR, by rw [flat_lenR (own_lens hl hR), hl], .inr ⟨g, cap, cur, rfl, hb, hg, hn, hm, hc, hx⟩⟩
theorem Own.cap_le (h : Own w B e k R (.slice (some ⟨g, 0, none⟩) n cap) l) : l.length ≤ cap ∧ cap ≤ maxLen := by
  obtain ⟨_, _, _, _, _, h1, h2, _⟩ := h.rawc
  exact ⟨h1, h2⟩
/-- cut short -/
theorem Own.cut (h : Own w B e k R (.slice (some ⟨g, 0, none⟩) n cap) l) {m : Nat} (hm : m ≤ l.length) : Own w B e k R (.slice (some ⟨g, 0, none⟩) m cap) (l.take m) := by
  obtain ⟨_, hb, cur, css, hg, hnc, hcm, hcs, hl, hR, hx⟩ := h.rawc
  have hml : (l.take m).length = m := by simp; omega
  have := Own.of_rawc (l := l.take m) (css := css.take m) (R := R) hb hg (by omega) hcm hcs (by simp; omega) (fun i cs x h1 h2 => by
    rw [List.getElem?_take] at h1 h2
    split at h1
    · rename_i hi
      rw [if_pos hi] at h2
      exact hR i cs x h1 h2
    · cases h1) (by
    rw [hml, flat_takeR m (own_lens hl hR), ← hx, List.take_take, Nat.min_eq_left (Nat.mul_le_mul_right _ hm)])
  rwa [hml] at this
/-- every cell of the row's room is there and may be stored -/
theorem Own.spare (h : Own w B e k R (.slice (some ⟨g, 0, none⟩) n cap) l) {j : Nat} (hj : j < cap * k) : (w.cell? ⟨g, j, none⟩).isSome = true ∧ w.frozen? ⟨g, j, none⟩ = false := by
  obtain ⟨_, hb, cur, css, hg, hnc, hcm, hcs, hl, hR, hx⟩ := h.rawc
  refine ⟨?_, h.frz j⟩
  rw [cell_of_row w g j cur e (0, 0) hg, Array.getElem?_eq_getElem (by omega)]
  rfl
/-- the cells from element j on -/
theorem Own.tail (h : Own w B e k R (.slice (some ⟨g, 0, none⟩) n cap) l) (hone : ∀ cs x, R cs x → ∀ u ∈ cs, u.oneCell' = true) (j : Nat) (hj : j ≤ l.length) : ∃ news : List Value, news.length = (l.length - j) * k ∧ (∀ t u, news[t]? = some u → w.cell? ⟨g, j * k + t, none⟩ = some u) ∧ (∀ u ∈ news, u.oneCell' = true) ∧
    ∀ i, i ≤ j → Own (w.setCells g (i * k) news) B e k R (.slice (some ⟨g, 0, none⟩) (l.length - (j - i)) cap) (l.take i ++ l.drop j) := by
  obtain ⟨_, hb, cur, css, hg, hnc, hcm, hcs, hl, hR, hx⟩ := h.rawc
  have hls := own_lens hl hR
  have hfl := flat_lenR hls
  have hnl : (css.drop j).flatten.length = (l.length - j) * k := by
    rw [flat_lenR (fun c hc => hls c (List.mem_of_mem_drop hc)), List.length_drop, hl]
  have hck : l.length * k ≤ cap * k := Nat.mul_le_mul_right _ hnc
  refine ⟨(css.drop j).flatten, hnl, fun t u ht => ?_, fun u hu => ?_, fun i hi => ?_⟩
  · rw [flat_dropR j hls, ← hx, List.getElem?_drop] at ht
    rw [cell_of_row w g _ cur e (0, 0) hg]
    rw [List.getElem?_take] at ht
    split at ht
    · simpa using ht
    · cases ht
  · obtain ⟨cs, hc, hu⟩ := List.mem_flatten.1 hu
    obtain ⟨i, hi, rfl⟩ := List.mem_iff_getElem.1 (List.mem_of_mem_drop hc)
    exact hone _ _ (hR i _ _ (List.getElem?_eq_getElem hi) (List.getElem?_eq_getElem (by omega : i < l.length))).1 u hu
  · have hlen : (l.take i ++ l.drop j).length = l.length - (j - i) := by simp; omega
    have hik : i * k ≤ l.length * k := Nat.mul_le_mul_right _ (by omega)
    have hsum : i * k + (l.length - j) * k = (l.length - (j - i)) * k := by rw [← Nat.add_mul]; congr 1; omega
    have hsum2 : (l.length - (j - i)) * k ≤ l.length * k := Nat.mul_le_mul_right _ (by omega)
    have := Own.of_rawc (w := w.setCells g (i * k) (css.drop j).flatten) (l := l.take i ++ l.drop j) (css := css.take i ++ css.drop j) (R := R) (cap := cap) hb (setCells_heap _ _ _ _ hg) (by omega) hcm (by rw [putL_size]; exact hcs) (by simp; omega) (fun t cs x h1 h2 => by
      rw [List.getElem?_append, List.length_take, Nat.min_eq_left (by omega)] at h1 h2
      by_cases ht : t < i
      · rw [if_pos ht, List.getElem?_take, if_pos ht] at h1 h2
        exact hR t cs x h1 h2
      · rw [if_neg ht, List.getElem?_drop] at h1 h2
        exact hR _ cs x h1 h2) (by
      rw [hlen, putL_list _ _ _ (by rw [hnl]; omega), List.flatten_append, List.take_append_of_le_length (by simp [hnl]; omega), List.take_of_length_le (by simp [hnl]; omega), flat_takeR i hls, ← hx, List.take_take, Nat.min_eq_left hik])
    rwa [hlen] at this
/-- zeros, or whatever, behind the end -/
theorem Own.behind (h : Own w B e k R (.slice (some ⟨g, 0, none⟩) n cap) l) (o : Nat) (ho : l.length * k ≤ o) (vs : List Value) (hv : o + vs.length ≤ cap * k) : Own (w.setCells g o vs) B e k R (.slice (some ⟨g, 0, none⟩) n cap) l := by
  obtain ⟨rfl, hb, cur, css, hg, hnc, hcm, hcs, hl, hR, hx⟩ := h.rawc
  refine Own.of_rawc hb (setCells_heap _ _ _ _ hg) hnc hcm (by rw [putL_size]; exact hcs) hl hR ?_
  rw [putL_list _ _ _ (by omega), List.append_assoc, List.take_append_of_le_length (by simp; omega), List.take_take, Nat.min_eq_left ho, hx]
end
section
variable {P : Program}
theorem zeros_len (zc : Array Value) (n : Nat) : (Builtin.zeroCells zc n).toList.length = n * zc.size := by simp [Builtin.zeroCells]
theorem zeros_one (zc : Array Value) (n : Nat) (h : ∀ u ∈ zc.toList, u.oneCell' = true) : ∀ u ∈ (Builtin.zeroCells zc n).toList, u.oneCell' = true := fun u hu => by
  simp only [Builtin.zeroCells, Array.toList_map, List.mem_map] at hu
  obtain ⟨i, hi, rfl⟩ := hu
  have hi2 : i < n * zc.size := by simpa using hi
  have hz : 0 < zc.size := by
    rcases Nat.eq_zero_or_pos zc.size with h0 | h0
    · rw [h0] at hi2; omega
    · exact h0
  have hlt : i % zc.size < zc.size := Nat.mod_lt _ hz
  rw [getElem!_pos zc _ hlt]
  exact h _ (by simp)
/-- clear of a slice of elements of many cells -/
theorem run_clear_many (w : World) (t e ty : TypeId) (z : Value) (ht : P.underlying t = some (.slice e)) (hv : ∀ w, (zeroValue e).run P w = .ok z w) (hone : ∀ u ∈ z.cells.toList, u.oneCell' = true) (b o n c : Nat) (hn : 0 < n)
    (hc : ∀ j, j < n * z.cells.size → (w.cell? ⟨b, o + j, none⟩).isSome = true) (hf : ∀ j, j < n * z.cells.size → w.frozen? ⟨b, o + j, none⟩ = false) :
    (Builtin.clear_ #[t] ty #[.slice (some ⟨b, o, none⟩) n c]).run P w = .ok (.tuple #[]) (w.setCells b o (Builtin.zeroCells z.cells n).toList) := by
  have hst := run_storeCells_cells (P := P) b o (Builtin.zeroCells z.cells n).toList 0 w (by rw [zeros_len]; simpa using hc) (by rw [zeros_len]; simpa using hf) (zeros_one _ _ hone)
  simp only [Nat.add_zero] at hst
  obtain ⟨m, rfl⟩ : ∃ m, n = m + 1 := ⟨n - 1, by omega⟩
  simp [Builtin.clear_, run_underlying ht, hv, hst]
end
end Go.Proofs.YtaicidbopgnmfaaGreatDoor
namespace Go.Proofs.YtaicidbopgnmfaaGreatDoor
set_option linter.unusedSimpArgs false
set_option linter.unusedVariables false
open Go.RowKit
/-- the hold that the closure leaves -/
def hldS (n : List UInt8) (y : Ent) (h : Bool) : Bool := if nameE n y then y.hold else h
theorem hld_yes {n : List UInt8} {y : Ent} {h : Bool} (hn : nameE n y = true) : hldS n y h = y.hold := by simp [hldS, hn]
theorem hld_no {n : List UInt8} {y : Ent} {h : Bool} (hn : nameE n y = false) : hldS n y h = h := by simp [hldS, hn]
set_option maxRecDepth 100000 in
set_option maxHeartbeats 800000 in
theorem ucl_any (y : Ent) (r : Raw) (p : Pkg) (rp : Raw) (h : Bool) (gp gx : Nat) (w : World) (hP : Blk w gp 43 #[.string (bs (p).name), .string (bs (p).ver), .slice (rp).a1 (p).pre.length (rp).c1, .slice (rp).a2 (p).dep.length (rp).c2, .slice (rp).a3 (p).rcm.length (rp).c3, .slice (rp).a4 (p).con.length (rp).c4, .slice (rp).a5 (p).brk.length (rp).c5, .slice (rp).a6 (p).prv.length (rp).c6, .bool (p).ess]) (hX : Blk w gx 45 #[.string (bs (p).name), .string (bs (p).ver), .slice (rp).a1 (p).pre.length (rp).c1, .slice (rp).a2 (p).dep.length (rp).c2, .slice (rp).a3 (p).rcm.length (rp).c3, .slice (rp).a4 (p).con.length (rp).c4, .slice (rp).a5 (p).brk.length (rp).c5, .slice (rp).a6 (p).prv.length (rp).c6, .bool (p).ess, .bool false, .bool (h)]) (hne : gp ≠ gx) :
    Calls Tryz.prog 147 #[(.agg #[.string (bs (y).pkg.name), .string (bs (y).pkg.ver), .slice (r).a1 (y).pkg.pre.length (r).c1, .slice (r).a2 (y).pkg.dep.length (r).c2, .slice (r).a3 (y).pkg.rcm.length (r).c3, .slice (r).a4 (y).pkg.con.length (r).c4, .slice (r).a5 (y).pkg.brk.length (r).c5, .slice (r).a6 (y).pkg.prv.length (r).c6, .bool (y).pkg.ess, .bool (y).conf, .bool (y).hold]), .pointer (some ⟨gp, 0, none⟩), .pointer (some ⟨gx, 0, none⟩)] w fun e w' => e = .returned (.bool (nameE p.name y)) ∧ w.grownBy w' (some gx) ∧ Blk w' gx 45 #[.string (bs (p).name), .string (bs (p).ver), .slice (rp).a1 (p).pre.length (rp).c1, .slice (rp).a2 (p).dep.length (rp).c2, .slice (rp).a3 (p).rcm.length (rp).c3, .slice (rp).a4 (p).con.length (rp).c4, .slice (rp).a5 (p).brk.length (rp).c5, .slice (rp).a6 (p).prv.length (rp).c6, .bool (p).ess, .bool false, .bool (hldS p.name y h)] := by
  have cp := hP.cell 0
  have lp := hP.lt
  have lx := hX.lt
  have HX := Lib.hid hX
  have HY := Lib.hid (only_alloc (grown_refl w (some gx)) (.cells #[.string (bs (y).pkg.name), .string (bs (y).pkg.ver), .slice (r).a1 (y).pkg.pre.length (r).c1, .slice (r).a2 (y).pkg.dep.length (r).c2, .slice (r).a3 (y).pkg.rcm.length (r).c3, .slice (r).a4 (y).pkg.con.length (r).c4, .slice (r).a5 (y).pkg.brk.length (r).c5, .slice (r).a6 (y).pkg.prv.length (r).c6, .bool (y).pkg.ess, .bool (y).conf, .bool (y).hold] 45))
  have fx := hX.frozen 10
  simp only [List.getElem?_toArray, List.getElem?_cons_zero] at cp
  have hn1 : gp ≠ w.heap.size := by omega
  have hn2 : gx ≠ w.heap.size := by omega
  by_cases hn : y.pkg.name = p.name
  · have HD := Lib.hid (show nameE p.name y = true by simp [nameE, hn])
    have hnb : (y.pkg.name == p.name) = true := by simpa using hn
    obtain ⟨cx0, cx1, cx2, cx3, cx4, cx5, cx6, cx7, cx8, cx9, cx10⟩ := blk11 hX
    clear hX hP hn cx0 cx1 cx2 cx3 cx4 cx5 cx6 cx7 cx8 cx9
    go_enter Tryz.func147, Tryz.ntmps147
    go_wp2
    go_ret
    exact ⟨by rw [HD.out]; rfl, only_alloc (only_set (grown_refl w (some gx)) 10 _) _, by rw [hld_yes HD.out]; exact (HX.out.set_ 10 _).alloc _⟩
  · have HD := Lib.hid (show nameE p.name y = false by simp [nameE, hn])
    have hnb : (y.pkg.name == p.name) = false := by simpa using hn
    clear hX hP hn
    go_enter Tryz.func147, Tryz.ntmps147
    go_wp2
    go_ret
    exact ⟨by rw [HD.out]; rfl, HY.out, by rw [hld_no HD.out]; exact HX.out.alloc _⟩
/-- what DeleteFunc goes over: the row, the box of the package, the box of the entry that is made -/
structure UD (w0 w : World) (C B gp gx : Nat) (p : Pkg) (rp : Raw) (h : Bool) (v : Value) (l : List Ent) : Prop where
  own : Own w B 45 11 (RKE (RZE w)) v l
  bp : Blk w gp 43 #[.string (bs (p).name), .string (bs (p).ver), .slice (rp).a1 (p).pre.length (rp).c1, .slice (rp).a2 (p).dep.length (rp).c2, .slice (rp).a3 (p).rcm.length (rp).c3, .slice (rp).a4 (p).con.length (rp).c4, .slice (rp).a5 (p).brk.length (rp).c5, .slice (rp).a6 (p).prv.length (rp).c6, .bool (p).ess]
  bx : Blk w gx 45 #[.string (bs (p).name), .string (bs (p).ver), .slice (rp).a1 (p).pre.length (rp).c1, .slice (rp).a2 (p).dep.length (rp).c2, .slice (rp).a3 (p).rcm.length (rp).c3, .slice (rp).a4 (p).con.length (rp).c4, .slice (rp).a5 (p).brk.length (rp).c5, .slice (rp).a6 (p).prv.length (rp).c6, .bool (p).ess, .bool false, .bool (h)]
  below : Below C w0 w
  pB : gp < B
  xB : gx < B
  xC : C ≤ gx
  cB : C ≤ B
  ne : gp ≠ gx
section
variable {w0 w w' : World} {C B gp gx g n cap : Nat} {p : Pkg} {rp : Raw} {h h' : Bool} {v : Value} {l : List Ent}
theorem keepB_only {T : Nat → Prop} {t : Nat} {cs : Array Value} (hX : Blk w gx t cs) (hT : ¬ T t) (hg : w.grownBy w' (some gx)) : KeepB T w w' := fun k t' cs' hk ht =>
  hg.block k (heap_lt hk) (fun e => by
    injection e with e
    subst e
    unfold Blk at hX
    rw [hX] at hk
    injection hk with hk
    injection hk with _ hk
    exact hT (hk ▸ ht))
theorem below_by {a : World} (hb : Below C a w) (hx : C ≤ gx) (hC : C ≤ w.heap.size) (hg : w.grownBy w' (some gx)) : Below C a w' :=
  hb.trans ⟨hg.os, hg.tape, hg.output, hg.size, fun i hi => hg.block i (by omega) (fun e => by injection e with e; omega)⟩
theorem UD.size (hu : UD w0 w C B gp gx p rp h v l) : C ≤ w.heap.size := Nat.le_of_lt (Nat.lt_of_le_of_lt hu.xC hu.bx.lt)
theorem UD.call (hu : UD w0 w C B gp gx p rp h v l) (hg : w.grownBy w' (some gx)) (hx : Blk w' gx 45 #[.string (bs (p).name), .string (bs (p).ver), .slice (rp).a1 (p).pre.length (rp).c1, .slice (rp).a2 (p).dep.length (rp).c2, .slice (rp).a3 (p).rcm.length (rp).c3, .slice (rp).a4 (p).con.length (rp).c4, .slice (rp).a5 (p).brk.length (rp).c5, .slice (rp).a6 (p).prv.length (rp).c6, .bool (p).ess, .bool false, .bool (h')]) : UD w0 w' C B gp gx p rp h' v l :=
  ⟨(hu.own.same fun k hk => hg.block k (let ⟨_, _, hc⟩ := hu.own.base hk; heap_lt hc) (fun e => by injection e with e; have := (hu.own.base hk).1; have := hu.xB; omega)).mono (RKE.mono fun _ _ hz => hz.keep (keepB_only hu.bx (by decide) hg)),
   hu.bp.grown hg (fun e => hu.ne (Option.some.inj e)), hx, below_by hu.below hu.xC hu.size hg, hu.pB, hu.xB, hu.xC, hu.cB, hu.ne⟩
theorem UD.alloc (hu : UD w0 w C B gp gx p rp h v l) (o : Obj) : UD w0 (w.alloc o) C B gp gx p rp h v l :=
  hu.call (only_of_below (below_alloc (Below.refl _ _) o) _) (hu.bx.alloc o)
theorem UD.row (hu : UD w0 w C B gp gx p rp h v l) {v' : Value} {l' : List Ent} (ho : Own w' B 45 11 (RKE (RZE w)) v' l') (hg : w.grownBy w' (some g)) (hb : B ≤ g) (hc : ∃ cs, Blk w g 45 cs) : UD w0 w' C B gp gx p rp h v' l' := by
  obtain ⟨cs, hc⟩ := hc
  have h1 := hu.pB
  have h2 := hu.xB
  have h3 := hu.cB
  exact ⟨ho.mono (RKE.mono fun _ _ hz => hz.keep (keepB_only hc (by decide) hg)), hu.bp.grown hg (fun e => by injection e with e; omega), hu.bx.grown hg (fun e => by injection e with e; omega), below_by hu.below (by omega) hu.size hg, hu.pB, hu.xB, hu.xC, hu.cB, hu.ne⟩
end
theorem Own.rowBlk {w : World} {B : Nat} {e : TypeId} {k : Nat} {α : Type} {R : List Value → α → Prop} {g n cap : Nat} {l : List α} (h : Own w B e k R (.slice (some ⟨g, 0, none⟩) n cap) l) : ∃ cs, Blk w g e cs := by
  obtain ⟨_, cur, hc⟩ := h.base (g := g) rfl
  exact ⟨cur, hc⟩
theorem idx_at' {α : Type} {l : List α} {p : α → Bool} {k : Nat} {q : α} (hq : l[k]? = some q) (hp : p q = true) (hn : (l.take k).any p = false) : idxS p l = k := idx_at hq hp hn
theorem hold_hit {l : List Ent} {n : List UInt8} {k : Nat} {q : Ent} (hq : l[k]? = some q) (hp : nameE n q = true) (hn : (l.take k).any (nameE n) = false) : holdW l n = q.hold := by
  unfold holdW
  rw [find_hit hq hp hn]
theorem hold_no {l : List Ent} {n : List UInt8} (h : l.any (nameE n) = false) : holdW l n = false := by
  unfold holdW
  rw [find_at h]
set_option maxRecDepth 100000 in
set_option maxHeartbeats 1600000 in
theorem uidx_any (w0 : World) (C B gp gx g cap n : Nat) (p : Pkg) (rp : Raw) (l : List Ent) (w : World) (hu : UD w0 w C B gp gx p rp false (.slice (some ⟨g, 0, none⟩) n cap) l) (hn : l.length = n) (hs : n ≤ 1000) :
    Calls Tryz.prog 180 #[.slice (some ⟨g, 0, none⟩) n cap, .func (.func 147) #[] #[.pointer (some ⟨gp, 0, none⟩), .pointer (some ⟨gx, 0, none⟩)]] w fun e w' => e = .returned (.int .i64 (idxS (nameE p.name) l)) ∧ UD w0 w' C B gp gx p rp (holdW l p.name) (.slice (some ⟨g, 0, none⟩) n cap) l := by
  have HU0 := Lib.hid hu
  have HN := Lib.hid hn
  have hbn : n ≤ 9223372036854775807 := by omega
  clear hu
  go_enter Tryz.func180, Tryz.ntmps180
  go_wp2
  go_loopw [8] (fun i wr => ∃ k : Nat, k ≤ n ∧ i = .int .i64 k ∧ UD w0 wr C B gp gx p rp false (.slice (some ⟨g, 0, none⟩) n cap) l ∧ (l.take k).any (nameE p.name) = false) (fun i _ => n - (intOf i).toNat)
  case atStart => exact ⟨0, Nat.zero_le _, rfl, HU0.out, rfl⟩
  case round =>
    obtain ⟨k, hk, rfl, hu, hno⟩ := hrel
    have HU := Lib.hid hu
    have HNO := Lib.hid hno
    clear hu hno
    by_cases hlt : k < n
    · obtain ⟨q, r, hq, hz, e0, e1, e2, e3, e4, e5, e6, e7, e8, e9, e10⟩ := HU.out.own.atKE (i := k) (by omega) (by omega)
      have HQ := Lib.hid hq
      have hk0 : (0 : Int) ≤ (k : Int) := Int.natCast_nonneg _
      have hk1 : (k : Int) < (n : Int) := by omega
      have hkt : ((k : Int)).toNat = k := Int.toNat_natCast _
      clear hq hz hn
      rcases hb : nameE p.name q
      · have HBq := Lib.hid hb
        clear hb
        go_wp2_with (go_at_call 147; refine (ucl_any q r p rp false gp gx _ HU.out.bp HU.out.bx HU.out.ne).mono ?_; rintro e w1 ⟨rfl, hg1, hx1⟩; rw [hld_no HBq.out] at hx1; rw [HBq.out]; have HU1 := Lib.hid (HU.out.call (h' := false) hg1 hx1); clear hg1 hx1)
        go_roundw
        case rel => exact ⟨k + 1, by omega, by simp, HU1.out, any_step HQ.out HBq.out HNO.out⟩
        case measure => (try simp only [intOf]); omega
      · have HBq := Lib.hid hb
        have HH := Lib.hid (hold_hit HQ.out hb HNO.out)
        clear hb
        go_wp2_with (go_at_call 147; refine (ucl_any q r p rp false gp gx _ HU.out.bp HU.out.bx HU.out.ne).mono ?_; rintro e w1 ⟨rfl, hg1, hx1⟩; rw [hld_yes HBq.out] at hx1; rw [HBq.out]; have HU1 := Lib.hid (HU.out.call (h' := q.hold) hg1 hx1); clear hg1 hx1)
        go_ret
        exact ⟨by rw [idx_at HQ.out HBq.out HNO.out]; rfl, by rw [HH.out]; exact HU1.out⟩
    · have hkn : k = n := by omega
      have hany : l.any (nameE p.name) = false := by have := HNO.out; rwa [List.take_of_length_le (by omega)] at this
      have HA := Lib.hid hany
      clear hany hkn
      go_wp2
      go_ret
      exact ⟨by rw [idx_no HA.out]; rfl, by rw [hold_no HA.out]; exact HU.out⟩
end Go.Proofs.YtaicidbopgnmfaaGreatDoor
