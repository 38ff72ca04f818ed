/- Plainly: the reference's Meets and Held answer as the program's do. When packages are a healthy whole, plainly. Who meets an atom, of a package without Provides and of one that provides one name; a clash goes both ways: plainly. An ask, a slice of asks that came in, opened: their texts are not too long; and: no name twice, told by places. Plainly: what a request that is met says of packages; what is there meets the asks of all; an ask more. -/
import Derived.Test.YtaicidbopgnmfaaGreatDoorRqL
import Derived.Test.YtaicidbopgnmfaaGreatDoorMaA
import Derived.Test.YtaicidbopgnmfaaGreatDoorMk
import Derived.Test.YtaicidbopgnmfaaGreatDoorPy
import Derived.Test.YtaicidbopgnmfaaGreatDoorRr
import Derived.Test.YtaicidbopgnmfaaGreatDoorDa
namespace Go.Proofs.YtaicidbopgnmfaaGreatDoor
set_option linter.unusedSimpArgs false
set_option linter.unusedVariables false
open Go.RowKit
theorem twF_pw {p : Stp → Stp → Bool} : ∀ (l pre : List Stp), twF p pre l = false → (∀ a ∈ l, ∀ b ∈ pre, p a b = false) ∧ l.Pairwise (fun a b => p b a = false) := fun l => by
  induction l with
  | nil => intro pre _; exact ⟨fun a h => absurd h (by simp), .nil⟩
  | cons a l ih =>
    intro pre h
    unfold twF at h
    rw [Bool.or_eq_false_iff] at h
    obtain ⟨h1, h2⟩ := h
    obtain ⟨h3, h4⟩ := ih _ h2
    rw [List.any_eq_false] at h1
    refine ⟨fun b hb c hc => ?_, List.pairwise_cons.2 ⟨fun b hb => h3 b hb a (by simp), h4⟩⟩
    rcases List.mem_cons.1 hb with rfl | hb
    · simpa using h1 c hc
    · exact h3 b hb c (by simp [hc])
/-- no two asks of one name -/
def UniQ (l : List Stp) : Prop := l.Pairwise (fun a b => a.name ≠ [] → a.name ≠ b.name)
theorem mayQs_uni {l : List Stp} (h : mayQs l = 0) : UniQ l := by
  unfold mayQs at h
  split at h
  · simp at h
  · split at h
    · split at h
      · simp at h
      · rename_i h2
        refine (twF_pw l [] (by simpa using h2)).2.imp ?_
        intro a b hab ha hn
        simp [twiceB, ← hn, ha] at hab
    · simp at h
theorem UniQ.one {l : List Stp} (h : UniQ l) {a b : Stp} (ha : a ∈ l) (hb : b ∈ l) (hn : a.name = b.name) (h0 : a.name ≠ []) : a = b := by
  unfold UniQ at h
  induction l with
  | nil => simp at ha
  | cons c l ih =>
    rw [List.pairwise_cons] at h
    rcases List.mem_cons.1 ha with ha1 | ha1
    · rcases List.mem_cons.1 hb with hb1 | hb1
      · rw [ha1, hb1]
      · rw [ha1] at hn h0
        exact absurd hn (h.1 b hb1 h0)
    · rcases List.mem_cons.1 hb with hb1 | hb1
      · rw [hb1] at hn
        exact absurd hn.symm (h.1 a ha1 (hn ▸ h0))
      · exact ih h.2 ha1 hb1
theorem about_nam {l : List Stp} (h : UniQ l) {n : List UInt8} (hn : n ≠ []) {f : Stp → Bool} (hf : f ⟨0, [], []⟩ = false) : l.any (namB f n) = f (aboutQ l n) := by
  unfold aboutQ
  rcases he : l.find? (namA n) with _ | a
  · rw [List.find?_eq_none] at he
    simp only [hf]
    rw [List.any_eq_false]
    intro b hb
    have := he b hb
    simp only [namA] at this
    simp [namB, this]
  · have ha := List.mem_of_find?_eq_some he
    have hna : a.name = n := by simpa [namA] using List.find?_some he
    show l.any (namB f n) = f a
    rcases hfa : f a
    · rw [List.any_eq_false]
      intro b hb hb2
      simp only [namB, Bool.and_eq_true, beq_iff_eq] at hb2
      have := h.one ha hb (by rw [hna, hb2.1]) (by rw [hna]; exact hn)
      rw [this, hb2.2] at hfa
      exact absurd hfa (by simp)
    · exact List.any_eq_true.2 ⟨a, ha, by simp [namB, hna, hfa]⟩
theorem fold_none {x : Ent} : ∀ (l : List Stp) (h : Bool), (∀ a ∈ l, a.name ≠ x.pkg.name) → l.foldl (stepH x) h = h := fun l => by
  induction l with
  | nil => intro h _; rfl
  | cons a l ih =>
    intro h hn
    rw [List.foldl_cons, show stepH x h a = h from if_neg (hn a (by simp)), ih h fun b hb => hn b (by simp [hb])]
theorem fold_one {x : Ent} (h0 : x.pkg.name ≠ []) : ∀ (l : List Stp) (h : Bool), UniQ l → l.foldl (stepH x) h = if (aboutQ l x.pkg.name).kind = 5 then true else if freeQ (aboutQ l x.pkg.name) then false else h := fun l => by
  induction l with
  | nil => intro h _; simp [aboutQ, freeQ, exactQ]
  | cons a l ih =>
    intro h hu
    unfold UniQ at hu
    rw [List.pairwise_cons] at hu
    rw [List.foldl_cons]
    by_cases hn : a.name = x.pkg.name
    · have : aboutQ (a :: l) x.pkg.name = a := by simp [aboutQ, namA, hn]
      rw [this, fold_none l _ fun b hb hb2 => hu.1 b hb (hn ▸ h0) (by rw [hn, hb2])]
      simp [stepH, hn]
    · have : aboutQ (a :: l) x.pkg.name = aboutQ l x.pkg.name := by simp [aboutQ, namA, hn]
      rw [this, show stepH x h a = h from if_neg hn, ih h hu.2]
theorem fold_held {l : List Stp} (h : UniQ l) {x : Ent} (h0 : x.pkg.name ≠ []) : foldH l x = heldS l x := by
  unfold foldH heldS
  rw [fold_one h0 l _ h, about_nam h h0 (f := freeQ) (by decide), about_nam h h0 (f := kindQ 5) (by decide)]
  generalize aboutQ l x.pkg.name = a
  by_cases h5 : a.kind = 5
  · simp [h5, freeQ, exactQ, kindQ]
  · simp [h5, kindQ]
theorem rheld_eq {l : List Stp} (h : UniQ l) {s : List Ent} (h0 : ∀ x ∈ s, x.pkg.name ≠ []) : rheldL l s = heldL l s := by
  unfold rheldL heldL
  refine List.map_congr_left fun x hx => ?_
  unfold rheldX heldX
  rw [fold_held h (h0 x hx)]
theorem fnd_pn {t : List Pkg} {n : List UInt8} {p : Pkg} (h : t.find? (pnB n) = some p) : p.name = n := by simpa [pnB] using List.find?_some h
theorem stay_eq {l : List Stp} (h : UniQ l) {t : List Pkg} {x : Ent} (h0 : x.pkg.name ≠ []) : rstayP l t x = stayP l t x := by
  unfold rstayP stayP rstayQ stayQ
  rw [fold_held h h0]
  rcases hf : t.find? (pnB x.pkg.name) with _ | p
  · rfl
  · simp only [fnd_pn hf]
    rw [about_nam h h0 (f := exactQ) (by decide)]
theorem add_eq {l : List Stp} (h : UniQ l) {t : List Pkg} {s : List Ent} (hm : (l.all fun a => meet1 a t s) = true) {p : Pkg} (hp : p ∈ t) (h0 : p.name ≠ []) : addQ l s p = wantQ l s p.name := by
  unfold addQ wantQ
  have h2 : l.any (namB (kindQ 2) p.name) = false := by
    rw [List.any_eq_false]
    intro a ha ha2
    simp only [namB, kindQ, Bool.and_eq_true, beq_iff_eq] at ha2
    have h3 := List.all_eq_true.1 hm a ha
    unfold meet1 at h3
    rw [if_neg (by omega), if_pos ha2.2, ha2.1, Option.isNone_iff_eq_none, List.find?_eq_none] at h3
    exact h3 p hp (by simp [pnB])
  rw [h2, about_nam h h0 (f := kindQ 1) (by decide)]
  simp [kindQ]
theorem gone_eq {l : List Stp} (h : UniQ l) {t : List Pkg} {s : List Ent} {x : Ent} (hx : x ∈ s) (h0 : x.pkg.name ≠ []) : goneQ l t x = inQ l t s x := by
  unfold goneQ inQ wantQ
  have h2 : s.any (nameE x.pkg.name) = true := List.any_eq_true.2 ⟨x, hx, by simp [nameE]⟩
  rw [h2, about_nam h h0 (f := kindQ 2) (by decide)]
  simp [kindQ]
theorem all_ext {α : Type} {l : List α} {p q : α → Bool} (h : ∀ a ∈ l, p a = q a) : l.all p = l.all q := by
  rw [Bool.eq_iff_iff, List.all_eq_true, List.all_eq_true]
  exact ⟨fun h1 a ha => (h a ha) ▸ h1 a ha, fun h1 a ha => (h a ha).symm ▸ h1 a ha⟩
/-- both texts answer alike -/
theorem rmeets_eq (l : List Stp) (t : List Pkg) (s : List Ent) (ht : ∀ p ∈ t, p.name ≠ []) (hs : ∀ x ∈ s, x.pkg.name ≠ []) (htw : twP [] t = false) : rmeetsQ l t s = meetsQ l t s := by
  unfold rmeetsQ meetsQ
  by_cases hm : mayQs l = 0
  · have hu := mayQs_uni hm
    have hmn : ¬ (mayQs l ≠ 0) := by simpa using hm
    rw [if_neg hmn, if_neg hmn, htw]
    rcases ha : l.all fun a => meet1 a t s
    · simp
    · rw [all_ext (p := rstayP l t) (q := stayP l t) fun x hx => stay_eq hu (hs x hx), justQ, all_ext (p := addQ l s) (q := fun p => wantQ l s p.name) fun p hp => add_eq hu ha hp (ht p hp), all_ext (p := goneQ l t) (q := inQ l t s) fun x hx => gone_eq hu hx (hs x hx)]
      simp
  · rw [if_pos hm, if_pos hm]
end Go.Proofs.YtaicidbopgnmfaaGreatDoor
namespace Go.Proofs.YtaicidbopgnmfaaGreatDoor
set_option linter.unusedSimpArgs false
set_option linter.unusedVariables false
open Go.RowKit

/-- is an atom of p's Conflicts or Breaks met by q? -/
def agnS (p q : Pkg) : Bool := p.con.any (satS q) || p.brk.any (satS q)
/-- may two packages not be there together? -/
def clhS (p q : Pkg) : Bool := decide (p.name ≠ q.name) && (agnS p q || agnS q p)
def badQ (p q : Pkg) : Bool := decide (q.name = p.name) || clhS p q
def okAt (l : List Pkg) (i : Nat) (p : Pkg) : Bool := decide (mayE p = 0) && !(l.take i).any (badQ p)
def okCl (l : List Pkg) (p : Pkg) : Bool := (p.pre ++ p.dep).all fun c => metS c l
def okT (l : List Pkg) (k : Nat) : Bool := (List.range k).all fun i => match l[i]? with | some p => okAt l i p | none => true
/-- are packages a healthy whole? -/
def hlthS (l : List Pkg) : Bool := okT l l.length && l.all (okCl l)
theorem okT_step {l : List Pkg} {k : Nat} {q : Pkg} (h : okT l k = true) (hq : l[k]? = some q) (ho : okAt l k q = true) : okT l (k + 1) = true := by
  unfold okT at h ⊢
  rw [List.range_succ, List.all_append, h]
  simp [hq, ho]
theorem okT_no {l : List Pkg} {k : Nat} {q : Pkg} (hq : l[k]? = some q) (ho : okAt l k q = false) : okT l l.length = false := by
  rw [Bool.eq_false_iff]
  intro h
  unfold okT at h
  rw [List.all_eq_true] at h
  have := h k (List.mem_range.2 (List.getElem?_eq_some_iff.1 hq).1)
  simp [hq, ho] at this
theorem hlth_no {l : List Pkg} {k : Nat} {q : Pkg} (hq : l[k]? = some q) (ho : okAt l k q = false) : hlthS l = false := by
  unfold hlthS
  rw [okT_no hq ho]
  rfl
theorem okAt_may {l : List Pkg} {k : Nat} {q : Pkg} (h : mayE q ≠ 0) : okAt l k q = false := by simp [okAt, h]
theorem okAt_bad {l : List Pkg} {k : Nat} {q : Pkg} (h : (l.take k).any (badQ q) = true) : okAt l k q = false := by unfold okAt; rw [h]; simp
theorem okAt_yes {l : List Pkg} {k : Nat} {q : Pkg} (h : mayE q = 0) (h2 : (l.take k).any (badQ q) = false) : okAt l k q = true := by unfold okAt; rw [h2]; simp [h]
theorem hlth_cl {l : List Pkg} {k : Nat} {q : Pkg} (hq : l[k]? = some q) (ho : okCl l q = false) : hlthS l = false := by
  unfold hlthS
  rw [all_no hq ho]
  simp
theorem hlth_yes {l : List Pkg} (h : okT l l.length = true) (h2 : l.all (okCl l) = true) : hlthS l = true := by unfold hlthS; rw [h, h2]; rfl
end Go.Proofs.YtaicidbopgnmfaaGreatDoor
namespace Go.Proofs.YtaicidbopgnmfaaGreatDoor
set_option linter.unusedSimpArgs false
set_option linter.unusedVariables false

theorem may_nv {p : Pkg} (h : mayE p = 0) : nameS p.name = true ∧ isV p.ver = true := by
  unfold mayE at h
  by_cases hc : (nameS p.name && isV p.ver) = true
  · simpa using hc
  · rw [if_neg hc] at h
    omega
theorem lstE_mem : ∀ {L : List (List (List Atm))} {x : List (List Atm)}, lstE L = 0 → x ∈ L → clsE x = 0
  | y :: L, x, h, hx => by
    simp only [lstE] at h
    by_cases hc : clsE y = 0
    · rw [if_pos hc] at h
      rcases List.mem_cons.1 hx with rfl | hx
      · exact hc
      · exact lstE_mem h hx
    · rw [if_neg hc] at h
      exact absurd h hc
theorem cls_one {a : Atm} (h : clsE [[a]] = 0) : mayA a = true := by
  unfold clsE at h
  split at h
  · omega
  · split at h
    · omega
    · rename_i hb
      simpa [badC] using hb
theorem may_prv {p : Pkg} {n v : List UInt8} (h : mayE p = 0) (hp : p.prv = [⟨n, v⟩]) : mayA (prvA ⟨n, v⟩) = true := by
  have h1 := may_nv h
  unfold mayE at h
  rw [if_pos (by rw [h1.1, h1.2]; rfl)] at h
  have h2 := lstE_mem h (x := singS (prvS p.prv)) (by simp)
  rw [hp] at h2
  exact cls_one h2
theorem clh_turn (p q : Pkg) : clhS p q = clhS q p := by
  unfold clhS
  rw [Bool.or_comm]
  congr 1
  simp [eq_comm]
theorem clh_self (p : Pkg) : clhS p p = false := by simp [clhS]
theorem clh_name {p q : Pkg} (h : p.name = q.name) : clhS p q = false := by simp [clhS, h]
/-- a package without Provides -/
def noP (p : Pkg) : Pkg := { p with prv := [] }
theorem sat_noP {p : Pkg} {rel : Int} {v : List UInt8} (h : mayE p = 0) (hv : isV v = true) (h1 : 1 ≤ rel) (h5 : rel ≤ 5) : satS (noP p) ⟨p.name, rel, v⟩ = holdsS rel p.ver v := by
  have hn := may_nv h
  simp [satS, mayA, noP, hn.1, hv, h1, h5]
theorem sat_noP0 {p : Pkg} (h : mayE p = 0) : satS (noP p) ⟨p.name, 0, []⟩ = true := by
  have hn := may_nv h
  simp [satS, mayA, noP, hn.1, holdsS, hn.2]
theorem cmp_both {a b : List UInt8} (ha : isV a = true) (hb : isV b = true) : (cmpV a b).2 = true := by
  unfold isV at ha hb
  unfold cmpV
  rcases h1 : verS a with _ | ⟨e, u, r⟩
  · simp [h1] at ha
  · rcases h2 : verS b with _ | ⟨f, v, s⟩
    · simp [h2] at hb
    · rfl
theorem holds_split {a b : List UInt8} (ha : isV a = true) (hb : isV b = true) : (holdsS 2 a b != holdsS 5 a b) = true ∧ (holdsS 1 a b != holdsS 4 a b) = true ∧ holdsS 3 a b = (holdsS 2 a b && holdsS 4 a b) := by
  have h := cmp_both ha hb
  simp only [holdsS, h]
  generalize (cmpV a b).1 = x
  refine ⟨?_, ?_, ?_⟩
  · by_cases h : x ≤ 0 <;> simp [h] <;> omega
  · by_cases h : x < 0 <;> simp [h] <;> omega
  · by_cases h1 : x ≤ 0 <;> by_cases h2 : 0 ≤ x <;> simp [h1, h2] <;> omega
theorem isV_nil : isV [] = false := by decide +kernel
theorem give_any {p : Pkg} {n v : List UInt8} (h : mayE p = 0) (hp : p.prv = [⟨n, v⟩]) : satS p ⟨n, 0, []⟩ = true := by
  have hm := may_prv h hp
  have hn : nameS n = true := by
    simp only [mayA, prvA, Bool.and_eq_true] at hm
    exact hm.1
  simp [satS, mayA, hn, hp, meetsP]
theorem give_not {p : Pkg} {n w : List UInt8} {rel : Int} (hp : p.prv = [⟨n, []⟩]) (hne : p.name ≠ n) (h1 : 1 ≤ rel) : satS p ⟨n, rel, w⟩ = false := by
  have h0 : ¬ rel = 0 := by omega
  have hh : holdsS rel [] w = false := by
    unfold holdsS
    rw [if_neg h0]
    have : (cmpV [] w).2 = false := by
      have hz : verS [] = none := by decide +kernel
      simp [cmpV, hz]
    rw [this]
    rfl
  simp [satS, hp, meetsP, hne, hh, h0]
theorem give_by {p q : Pkg} {n v w : List UInt8} {rel : Int} (hp : p.prv = [⟨n, v⟩]) (hne : p.name ≠ n) (hq : q.prv = []) (hqn : q.name = n) (hqv : q.ver = v) (h1 : 1 ≤ rel) : satS p ⟨n, rel, w⟩ = satS q ⟨n, rel, w⟩ := by
  have h0 : ¬ rel = 0 := by omega
  simp [satS, hp, hq, hqn, hqv, meetsP, hne, h0]
/-- law 10's light -/
theorem one_of {b : Bool} : (b = true) ∨ (b = false) := by cases b <;> simp
end Go.Proofs.YtaicidbopgnmfaaGreatDoor
namespace Go.Proofs.YtaicidbopgnmfaaGreatDoor
set_option linter.unusedSimpArgs false
set_option linter.unusedVariables false
open Go.RowKit Go.ChangeShapes Go.WideShapes Go.Deep
section
variable {H : Type} {enc : TypeId × Value → H} {w : World} {spare : Nat → Bool} {held : Bool} {fuel : Nat} {cs : List Value} {x : DataW H × List MemPlace}
theorem ask_open (h : DataW.trod enc Tryz.prog w 0 spare held fuel 68 cs = some x) (hw : Lite Tryz.prog 68 x.1) : ∃ a, RStp cs a ∧ short a.name ∧ short a.ver := by
  obtain ⟨hl, n, hf⟩ := fields_open Tryz.underlying68 (by kernel_rfl) (by kernel_rfl) h hw
  obtain ⟨v0, y0, c0, t0, w0⟩ := hf 0 _ rfl
  obtain ⟨v1, y1, c1, t1, w1⟩ := hf 1 _ rfl
  obtain ⟨v2, y2, c2, t2, w2⟩ := hf 2 _ rfl
  obtain ⟨k0, rfl⟩ := int_open Tryz.underlying3 t0
  obtain ⟨l1, rfl, s1⟩ := str_open Tryz.underlying9 t1 w1
  obtain ⟨l2, rfl, s2⟩ := str_open Tryz.underlying9 t2 w2
  match cs, hl with
  | [c0', c1', c2'], _ =>
    simp at c0 c1 c2
    subst c0 c1 c2
    exact ⟨⟨k0, l1, l2⟩, rfl, s1, s2⟩
end
section
variable {H : Type} {enc : TypeId × Value → H} {w : World} {v : Value} {d : DataW H} {p : List MemPlace}
set_option maxRecDepth 100000 in
theorem Ask.of_arg {r : Reach} {b : Nat} {spare : Nat → Bool} {held : Bool} (hv : Value.okWide Tryz.prog w r b 68 v) (h : DataW.Trod enc Tryz.prog w 0 spare held 68 v d p) (hw : Lite Tryz.prog 68 d) :
    ∃ (k : Int) (n m : List UInt8), v = .agg #[.int .i64 k, .string (bs n), .string (bs m)] ∧ short n ∧ short m := by
  obtain ⟨fuel, hf⟩ := h
  obtain ⟨l, he, s1, s2⟩ := ask_open hf hw
  unfold Value.okWide at hv
  rw [Tryz.underlying68] at hv
  obtain ⟨cs, rfl, _⟩ := hv
  simp only [Value.cells] at he
  refine ⟨l.kind, l.name, l.ver, ?_, s1, s2⟩
  obtain ⟨cs⟩ := cs
  unfold RStp at he
  simp only at he
  subst he
  rfl
set_option maxRecDepth 100000 in
theorem Asks.of_arg {r : Reach} {b : Nat} {spare : Nat → Bool} {held : Bool} (hv : Value.okWide Tryz.prog w r b 63 v) (h : DataW.Trod enc Tryz.prog w 0 spare held 63 v d p) (hw : Lite Tryz.prog 63 d) :
    ∃ A c l, v = .slice A l.length c ∧ Stps w A c l ∧ ∀ a ∈ l, short a.name := by
  obtain ⟨fuel, hf⟩ := h
  obtain ⟨A, c, l, he, hs⟩ := slc_open (R := fun cs a => RStp cs a ∧ short a.name ∧ short a.ver) (k := 3) (z := 40) Tryz.underlying63 (by kernel_rfl) (by decide) (by kernel_rfl) (fun _ _ _ h hw => ask_open h hw) hf hw
  refine ⟨A, c, l, slice_cells (P := Tryz.prog) (t := 63) (e := 68) Tryz.underlying63 hv he, Slc.mono hs (Kept.refl _) fun _ _ h => h.1, fun a ha => ?_⟩
  obtain ⟨i, hi, rfl⟩ := List.mem_iff_getElem.1 ha
  obtain ⟨y, b, o, cs, h1, _, ⟨_, h2, _⟩, _⟩ := Slc.at_ hs hi
  rw [List.getElem?_eq_getElem hi, Option.some.injEq] at h1
  rw [h1]
  exact h2
end
theorem twP_no : ∀ (t pre : List Pkg), (∀ (i : Nat) p, t[i]? = some p → pre.any (pnB p.name) = false ∧ (t.take i).any (pnB p.name) = false) → twP pre t = false := fun t => by
  induction t with
  | nil => intro pre _; rfl
  | cons a t ih =>
    intro pre h
    unfold twP
    rw [(h 0 a rfl).1, Bool.false_or]
    refine ih _ fun i p hp => ?_
    obtain ⟨h1, h2⟩ := h (i + 1) p (by simpa using hp)
    rw [List.take_succ_cons, List.any_cons, Bool.or_eq_false_iff] at h2
    rw [List.any_append, h1, Bool.false_or]
    exact ⟨by simpa using h2.1, h2.2⟩
/-- each package lies at its name's first place: no name stands twice -/
theorem twP_idx {t : List Pkg} (h : ∀ (i : Nat) p, t[i]? = some p → idxS (pnB p.name) t = (i : Int)) : twP [] t = false := by
  refine twP_no t [] fun i p hp => ⟨rfl, ?_⟩
  rw [List.any_eq_false]
  intro q hq hb
  obtain ⟨j, hj, rfl⟩ := List.mem_iff_getElem.1 hq
  rw [List.getElem_take] at hb
  have hji : j < i := by
    rw [List.length_take] at hj
    omega
  have hjt : j < t.length := by
    rw [List.length_take] at hj
    omega
  have hn : t[j].name = p.name := by simpa [pnB] using hb
  have h1 := h j t[j] (List.getElem?_eq_getElem _)
  rw [hn, h i p hp] at h1
  omega
end Go.Proofs.YtaicidbopgnmfaaGreatDoor
namespace Go.Proofs.YtaicidbopgnmfaaGreatDoor
set_option linter.unusedSimpArgs false
set_option linter.unusedVariables false
open Go.RowKit
theorem may_nm {p : Pkg} (h : mayE p = 0) : p.name ≠ [] := (name_black (may_nv h).1).1
theorem meets_of {l : List Stp} {t : List Pkg} {s : List Ent} (h : meetsQ l t s = true) : mayQs l = 0 ∧ twP [] t = false ∧ (∀ a ∈ l, meet1 a t s = true) ∧ (∀ x ∈ s, stayP l t x = true) ∧ (l.any (fun a => a.kind == 3) = true → justQ l t s = true) := by
  unfold meetsQ at h
  by_cases h1 : mayQs l = 0
  · rw [if_neg (by simpa using h1)] at h
    rcases h2 : twP [] t
    · rw [h2] at h
      rcases h3 : l.all fun a => meet1 a t s
      · rw [h3] at h; simp at h
      · rw [h3] at h
        rcases h4 : s.all (stayP l t)
        · rw [h4] at h; simp at h
        · rw [h4] at h
          refine ⟨h1, rfl, List.all_eq_true.1 h3, List.all_eq_true.1 h4, fun h5 => ?_⟩
          rw [h5] at h
          simpa using h
    · rw [h2] at h; simp at h
  · rw [if_pos h1] at h; cases h
theorem meets_mk {l : List Stp} {t : List Pkg} {s : List Ent} (h1 : mayQs l = 0) (h2 : twP [] t = false) (h3 : ∀ a ∈ l, meet1 a t s = true) (h4 : ∀ x ∈ s, stayP l t x = true) (h5 : l.any (fun a => a.kind == 3) = true → justQ l t s = true) : meetsQ l t s = true := by
  unfold meetsQ
  rw [if_neg (by simpa using h1), h2, List.all_eq_true.2 h3, List.all_eq_true.2 h4]
  rcases h6 : l.any fun a => a.kind == 3
  · simp
  · simpa using h5 h6
/-- no Essential name goes -/
theorem guard_ess {l : List Stp} {t : List Pkg} {s : List Ent} (h : meetsQ l t s = true) {x : Ent} (hx : x ∈ s) (hf : t.find? (pnB x.pkg.name) = none) : x.pkg.ess = false := by
  have h1 := (meets_of h).2.2.2.1 x hx
  unfold stayP stayQ at h1
  rw [hf] at h1
  simp only [Bool.and_eq_true, Bool.not_eq_true'] at h1
  exact h1.2
/-- none goes back but for an ask of its version -/
theorem guard_old {l : List Stp} {t : List Pkg} {s : List Ent} (h : meetsQ l t s = true) {x : Ent} (hx : x ∈ s) (h0 : x.pkg.name ≠ []) {p : Pkg} (hf : t.find? (pnB x.pkg.name) = some p) (ho : 0 < (cmpV x.pkg.ver p.ver).1) : exactQ (aboutQ l x.pkg.name) = true := by
  have h1 := (meets_of h).2.2.2.1 x hx
  have hn := fnd_pn hf
  have hs := cmpV_swap x.pkg.ver p.ver
  unfold stayP stayQ at h1
  rw [hf] at h1
  simp only at h1
  split at h1
  · cases h1
  · rw [show decide (0 ≤ (cmpV p.ver x.pkg.ver).1) = false from decide_eq_false (by omega), Bool.false_or, hn, about_nam (mayQs_uni (meets_of h).1) h0 (f := exactQ) (by decide)] at h1
    exact h1
theorem guard_one {l : List Stp} {t : List Pkg} {s : List Ent} (h : meetsQ l t s = true) {a : Stp} (ha : a ∈ l) : (a.kind = 1 → t.find? (pnB a.name) ≠ none) ∧ (a.kind = 2 → t.find? (pnB a.name) = none) := by
  have h1 := (meets_of h).2.2.1 a ha
  unfold meet1 at h1
  refine ⟨fun hk hf => ?_, fun hk => ?_⟩
  · rw [if_pos hk, hf] at h1
    cases h1
  · rw [if_neg (by omega), if_pos hk] at h1
    simpa using h1
/-- with an ask more -/
theorem meets_more {l : List Stp} {q : Stp} {t : List Pkg} {s : List Ent} (h1 : mayQs l = 0) (k6 : q.kind ≠ 6) (k2 : q.kind ≠ 2) (k1 : q.kind ≠ 1) (k3 : (l.any fun a => a.kind == 3) = false) (h : meetsQ (l ++ [q]) t s = true) : meetsQ l t s = true := by
  obtain ⟨g1, g2, g3, g4, _⟩ := meets_of h
  have hex : exactQ q = false := by simp [exactQ, k1]
  have hfr : freeQ q = false := by simp [freeQ, hex, k6, k2]
  refine meets_mk h1 g2 (fun a ha => g3 a (by simp [ha])) (fun x hx => ?_) (fun h5 => absurd h5 (by rw [k3]; simp))
  have h4 := g4 x hx
  have e1 : ∀ n, (l ++ [q]).any (namB exactQ n) = l.any (namB exactQ n) := fun n => by simp [List.any_append, namB, hex]
  have e2 : ∀ n, (l ++ [q]).any (namB freeQ n) = l.any (namB freeQ n) := fun n => by simp [List.any_append, namB, hfr]
  have hh : heldS l x = true → heldS (l ++ [q]) x = true := by
    unfold heldS
    rw [e2]
    intro hh
    rcases hf : l.any (namB freeQ x.pkg.name)
    · rw [hf] at hh
      rcases h5 : l.any (namB (kindQ 5) x.pkg.name)
      · rw [h5] at hh
        simp only [Bool.false_eq_true, if_false] at hh ⊢
        split
        · rfl
        · exact hh
      · simp [List.any_append, h5]
    · rw [hf] at hh; simp at hh
  unfold stayP stayQ at h4 ⊢
  rcases ht : t.find? (pnB x.pkg.name) with _ | p
  · rw [ht] at h4
    simp only [Bool.and_eq_true, Bool.not_eq_true'] at h4 ⊢
    refine ⟨?_, h4.2⟩
    rcases h6 : heldS l x
    · rfl
    · rw [hh h6] at h4; cases h4.1
  · rw [ht] at h4
    simp only [e1] at h4 ⊢
    split at h4
    · cases h4
    · rename_i h7
      rw [if_neg, h4]
      intro h8
      simp only [Bool.and_eq_true] at h8
      exact h7 (by rw [hh h8.1, h8.2]; rfl)
/-- names, each once -/
def nmD (t : List Pkg) : Prop := (t.map Pkg.name).Nodup
theorem nmD.find : ∀ {t : List Pkg}, nmD t → ∀ {j : Nat} {p : Pkg}, t[j]? = some p → t.find? (pnB p.name) = some p
  | [], _, j, p, hp => by simp at hp
  | a :: t, h, 0, p, hp => by
    simp at hp
    subst hp
    simp [pnB]
  | a :: t, h, j + 1, p, hp => by
    unfold nmD at h
    rw [List.map_cons, List.nodup_cons] at h
    have hm : p ∈ t := List.mem_of_getElem? (i := j) (by simpa using hp)
    have hne : (a.name == p.name) = false := by
      rw [beq_eq_false_iff_ne]
      intro he
      exact h.1 (he ▸ List.mem_map_of_mem hm)
    rw [List.find?_cons, show pnB p.name a = false from hne]
    exact nmD.find h.2 (by simpa using hp)
theorem nmD.tw {t : List Pkg} (h : nmD t) : twP [] t = false := by
  refine twP_no t [] fun i p hp => ⟨rfl, ?_⟩
  rw [List.any_eq_false]
  intro q hq hb
  obtain ⟨j, hj, rfl⟩ := List.mem_iff_getElem.1 hq
  rw [List.getElem_take] at hb
  rw [List.length_take] at hj
  have hn : t[j].name = p.name := by simpa [pnB] using hb
  unfold nmD at h
  have h1 : (t.map Pkg.name)[j]? = some p.name := by rw [List.getElem?_map, List.getElem?_eq_getElem (by omega)]; simp [hn]
  have h2 : (t.map Pkg.name)[i]? = some p.name := by rw [List.getElem?_map, hp]; rfl
  have := (List.getElem?_inj (by rw [List.length_map]; omega) h).1 (h1.trans h2.symm)
  omega
theorem nmD_ents {s : List Ent} (h : mayEntsE s = 0) : nmD (s.map Ent.pkg) := by
  unfold nmD
  rw [List.map_map, List.Nodup, List.pairwise_map]
  exact (ents_up h).nd
theorem nmD.put {t : List Pkg} (h : nmD t) {i : Nat} {p q : Pkg} (hp : t[i]? = some p) (hn : q.name = p.name) : nmD (t.set i q) := by
  unfold nmD at *
  rw [List.map_set, hn]
  obtain ⟨hi, rfl⟩ := List.getElem?_eq_some_iff.1 hp
  have : (t.map Pkg.name).set i t[i].name = t.map Pkg.name := by
    apply List.ext_getElem?
    intro j
    rw [List.getElem?_set]
    split
    · rename_i hij
      subst hij
      simp [hi]
    · rfl
  rw [this]
  exact h
theorem mayQs_one {a : Stp} (h : mayQ a = true) : mayQs [a] = 0 := by
  unfold mayQs
  rw [if_neg (by simp), List.all_eq_true.2 (by simpa using h)]
  simp [twF]
theorem may_4 : mayQ ⟨4, [], []⟩ = true := by decide +kernel
theorem may_3 : mayQ ⟨3, [], []⟩ = true := by decide +kernel
theorem may_7 : mayQ ⟨7, [], []⟩ = true := by decide +kernel
theorem may_5 {n : List UInt8} (h : nameS n = true) : mayQ ⟨5, n, []⟩ = true := by simp [mayQ, wordQ, namQ, h]
/-- what is found of its own version stays -/
theorem stay_v {l : List Stp} {t : List Pkg} {x : Ent} {p : Pkg} (hf : t.find? (pnB x.pkg.name) = some p) (hv : sameV p.ver x.pkg.ver = true) : stayP l t x = true := by
  unfold stayP stayQ
  rw [hf]
  simp only [hv]
  have h0 : (cmpV p.ver x.pkg.ver).1 = 0 := by
    unfold sameV at hv
    simp only [Bool.and_eq_true, decide_eq_true_eq] at hv
    exact hv.2
  simp [h0]
theorem same_self {v : List UInt8} (h : isV v = true) : sameV v v = true := by
  unfold sameV
  rw [cmpV_self, cmp_both h h]
  rfl
theorem ents_pkg {s : List Ent} (h : mayEntsE s = 0) {x : Ent} (hx : x ∈ s) : (s.map Ent.pkg).find? (pnB x.pkg.name) = some x.pkg := by
  obtain ⟨i, hi, rfl⟩ := List.mem_iff_getElem.1 hx
  exact (nmD_ents h).find (j := i) (by rw [List.getElem?_map, List.getElem?_eq_getElem hi]; rfl)
theorem ents_stay {s : List Ent} (h : mayEntsE s = 0) {x : Ent} (hx : x ∈ s) (l : List Stp) : stayP l (s.map Ent.pkg) x = true :=
  stay_v (ents_pkg h hx) (same_self (may_nv ((ents_zero h).2.1 x hx)).2)
theorem there_one {s : List Ent} (h : mayEntsE s = 0) {a : Stp} (hm : mayQ a = true) (h1 : meet1 a (s.map Ent.pkg) s = true) (hj : a.kind = 3 → justQ [a] (s.map Ent.pkg) s = true) : meetsQ [a] (s.map Ent.pkg) s = true :=
  meets_mk (mayQs_one hm) (nmD_ents h).tw (by simpa using h1) (fun x hx => ents_stay h hx _) (fun h5 => hj (by simpa using h5))
theorem there_4 {s : List Ent} (h : mayEntsE s = 0) : meetsQ [⟨4, [], []⟩] (s.map Ent.pkg) s = true := there_one h may_4 (by simp [meet1]) (by simp)
theorem there_7 {s : List Ent} (h : mayEntsE s = 0) : meetsQ [⟨7, [], []⟩] (s.map Ent.pkg) s = true := there_one h may_7 (by simp [meet1]) (by simp)
theorem there_3 {s : List Ent} (h : mayEntsE s = 0) : meetsQ [⟨3, [], []⟩] (s.map Ent.pkg) s = true := by
  refine there_one h may_3 (by simp [meet1]) fun _ => ?_
  unfold justQ
  rw [Bool.and_eq_true, List.all_eq_true, List.all_eq_true]
  refine ⟨fun p hp => ?_, fun x hx => ?_⟩
  · obtain ⟨x, hx, rfl⟩ := List.mem_map.1 hp
    unfold wantQ
    rw [show s.any (nameE x.pkg.name) = true from List.any_eq_true.2 ⟨x, hx, by simp [nameE]⟩]
    simp [namB, kindQ]
  · unfold inQ
    rw [ents_pkg h hx]
    rfl
theorem there_5 {s : List Ent} (h : mayEntsE s = 0) {x : Ent} (hx : x ∈ s) : meetsQ [⟨5, x.pkg.name, []⟩] (s.map Ent.pkg) s = true := by
  refine there_one h (may_5 (may_nv ((ents_zero h).2.1 x hx)).1) ?_ (by simp)
  unfold meet1
  rw [if_neg (by show ¬ ((5 : Int) = 1); decide), if_neg (by show ¬ ((5 : Int) = 2); decide), if_pos rfl]
  exact List.any_eq_true.2 ⟨x, hx, by simp [nameE]⟩
theorem held_5 {x : Ent} : heldS [⟨5, x.pkg.name, []⟩] x = true := by simp [heldS, namB, freeQ, exactQ, kindQ]
/-- with a hold on it nothing else of that name does -/
theorem hold_u {s : List Ent} (h : mayEntsE s = 0) {i : Nat} {x : Ent} (hx : s[i]? = some x) {q : Pkg} (hn : q.name = x.pkg.name) : meetsQ [⟨5, x.pkg.name, []⟩] ((s.map Ent.pkg).set i q) s = sameV q.ver x.pkg.ver := by
  have hm := List.mem_of_getElem? hx
  have hti : (s.map Ent.pkg)[i]? = some x.pkg := by rw [List.getElem?_map, hx]; rfl
  have hil : i < (s.map Ent.pkg).length := (List.getElem?_eq_some_iff.1 hti).1
  have hd : nmD ((s.map Ent.pkg).set i q) := (nmD_ents h).put hti hn
  have hq : ((s.map Ent.pkg).set i q).find? (pnB x.pkg.name) = some q := by
    rw [← hn]
    exact hd.find (j := i) (by rw [List.getElem?_set, if_pos rfl, if_pos hil])
  rcases hv : sameV q.ver x.pkg.ver
  · rcases hr : meetsQ [⟨5, x.pkg.name, []⟩] ((s.map Ent.pkg).set i q) s
    · rfl
    · have h1 := (meets_of hr).2.2.2.1 x hm
      unfold stayP stayQ at h1
      rw [hq, held_5] at h1
      simp [hv] at h1
  · refine meets_mk (mayQs_one (may_5 (may_nv ((ents_zero h).2.1 x hm)).1)) hd.tw (by
      simp only [List.mem_singleton, forall_eq]
      unfold meet1
      rw [if_neg (by show ¬ ((5 : Int) = 1); decide), if_neg (by show ¬ ((5 : Int) = 2); decide), if_pos rfl]
      exact List.any_eq_true.2 ⟨x, hm, by simp [nameE]⟩) (fun y hy => ?_) (by simp)
    by_cases hxy : y = x
    · subst hxy
      exact stay_v hq hv
    · obtain ⟨j, hj, hjy⟩ := List.mem_iff_getElem.1 hy
      have hyj : s[j]? = some y := by rw [List.getElem?_eq_getElem hj, hjy]
      have hij : i ≠ j := fun e => by
        subst e
        exact hxy (Option.some.inj (hyj.symm.trans hx))
      have hty : ((s.map Ent.pkg).set i q)[j]? = some y.pkg := by rw [List.getElem?_set, if_neg hij, List.getElem?_map, hyj]; rfl
      exact stay_v (hd.find hty) (same_self (may_nv ((ents_zero h).2.1 y hy)).2)
theorem hold_w {s : List Ent} (h : mayEntsE s = 0) {i : Nat} {x : Ent} (hx : s[i]? = some x) : meetsQ [⟨5, x.pkg.name, []⟩] ((s.map Ent.pkg).take i ++ (s.map Ent.pkg).drop (i + 1)) s = false := by
  rcases hr : meetsQ [⟨5, x.pkg.name, []⟩] ((s.map Ent.pkg).take i ++ (s.map Ent.pkg).drop (i + 1)) s
  · rfl
  · have h1 := (meets_of hr).2.2.2.1 x (List.mem_of_getElem? hx)
    have hf : ((s.map Ent.pkg).take i ++ (s.map Ent.pkg).drop (i + 1)).find? (pnB x.pkg.name) = none := by
      rw [List.find?_eq_none]
      intro p hp hb
      have hnp : p.name = x.pkg.name := by simpa [pnB] using hb
      have hpm : ∃ j, j ≠ i ∧ (s.map Ent.pkg)[j]? = some p := by
        rcases List.mem_append.1 hp with hp | hp
        · obtain ⟨j, hj, rfl⟩ := List.mem_iff_getElem.1 hp
          rw [List.length_take] at hj
          exact ⟨j, by omega, by rw [List.getElem_take, List.getElem?_eq_getElem]⟩
        · obtain ⟨j, hj, rfl⟩ := List.mem_iff_getElem.1 hp
          rw [List.length_drop] at hj
          exact ⟨i + 1 + j, by omega, by rw [List.getElem_drop, List.getElem?_eq_getElem]⟩
      obtain ⟨j, hj, hpj⟩ := hpm
      rw [List.getElem?_map] at hpj
      rcases hsj : s[j]? with _ | y
      · rw [hsj] at hpj; cases hpj
      · rw [hsj] at hpj
        obtain rfl : y.pkg = p := by simpa using hpj
        exact hj ((ents_up h).uniq hsj hx hnp)
    unfold stayP stayQ at h1
    rw [hf, held_5] at h1
    simp at h1
end Go.Proofs.YtaicidbopgnmfaaGreatDoor
