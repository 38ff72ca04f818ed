/- Who meets an atom, of a package without Provides and of one that provides one name; a clash goes both ways: plainly. -/
import Derived.Test.YtflmocamfedbdaaGreatDoorMaA
import Derived.Test.YtflmocamfedbdaaGreatDoorHeP
import Derived.Test.YtflmocamfedbdaaGreatDoorMk
namespace Go.Proofs.YtflmocamfedbdaaGreatDoor
set_option linter.unusedSimpArgs false
set_option linter.unusedVariables false

theorem may_nv {p : Pkg} (h : mayE p = 0) : nameS p.name = true ∧ isV p.ver = true := by
  unfold mayE at h
  by_cases hc : (nameS p.name && isV p.ver) = true
  · simpa using hc
  · rw [if_neg hc] at h
    omega
theorem lstE_mem : ∀ {L : List (List (List Atm))} {x : List (List Atm)}, lstE L = 0 → x ∈ L → clsE x = 0
  | y :: L, x, h, hx => by
    simp only [lstE] at h
    by_cases hc : clsE y = 0
    · rw [if_pos hc] at h
      rcases List.mem_cons.1 hx with rfl | hx
      · exact hc
      · exact lstE_mem h hx
    · rw [if_neg hc] at h
      exact absurd h hc
theorem cls_one {a : Atm} (h : clsE [[a]] = 0) : mayA a = true := by
  unfold clsE at h
  split at h
  · omega
  · split at h
    · omega
    · rename_i hb
      simpa [badC] using hb
theorem may_prv {p : Pkg} {n v : List UInt8} (h : mayE p = 0) (hp : p.prv = [⟨n, v⟩]) : mayA (prvA ⟨n, v⟩) = true := by
  have h1 := may_nv h
  unfold mayE at h
  rw [if_pos (by rw [h1.1, h1.2]; rfl)] at h
  have h2 := lstE_mem h (x := singS (prvS p.prv)) (by simp)
  rw [hp] at h2
  exact cls_one h2
theorem clh_turn (p q : Pkg) : clhS p q = clhS q p := by
  unfold clhS
  rw [Bool.or_comm]
  congr 1
  simp [eq_comm]
theorem clh_self (p : Pkg) : clhS p p = false := by simp [clhS]
theorem clh_name {p q : Pkg} (h : p.name = q.name) : clhS p q = false := by simp [clhS, h]
/-- a package without Provides -/
def noP (p : Pkg) : Pkg := { p with prv := [] }
theorem sat_noP {p : Pkg} {rel : Int} {v : List UInt8} (h : mayE p = 0) (hv : isV v = true) (h1 : 1 ≤ rel) (h5 : rel ≤ 5) : satS (noP p) ⟨p.name, rel, v⟩ = holdsS rel p.ver v := by
  have hn := may_nv h
  simp [satS, mayA, noP, hn.1, hv, h1, h5]
theorem sat_noP0 {p : Pkg} (h : mayE p = 0) : satS (noP p) ⟨p.name, 0, []⟩ = true := by
  have hn := may_nv h
  simp [satS, mayA, noP, hn.1, holdsS, hn.2]
theorem cmp_both {a b : List UInt8} (ha : isV a = true) (hb : isV b = true) : (cmpV a b).2 = true := by
  unfold isV at ha hb
  unfold cmpV
  rcases h1 : verS a with _ | ⟨e, u, r⟩
  · simp [h1] at ha
  · rcases h2 : verS b with _ | ⟨f, v, s⟩
    · simp [h2] at hb
    · rfl
theorem holds_split {a b : List UInt8} (ha : isV a = true) (hb : isV b = true) : (holdsS 2 a b != holdsS 5 a b) = true ∧ (holdsS 1 a b != holdsS 4 a b) = true ∧ holdsS 3 a b = (holdsS 2 a b && holdsS 4 a b) := by
  have h := cmp_both ha hb
  simp only [holdsS, h]
  generalize (cmpV a b).1 = x
  refine ⟨?_, ?_, ?_⟩
  · by_cases h : x ≤ 0 <;> simp [h] <;> omega
  · by_cases h : x < 0 <;> simp [h] <;> omega
  · by_cases h1 : x ≤ 0 <;> by_cases h2 : 0 ≤ x <;> simp [h1, h2] <;> omega
theorem isV_nil : isV [] = false := by decide +kernel
theorem give_any {p : Pkg} {n v : List UInt8} (h : mayE p = 0) (hp : p.prv = [⟨n, v⟩]) : satS p ⟨n, 0, []⟩ = true := by
  have hm := may_prv h hp
  have hn : nameS n = true := by
    simp only [mayA, prvA, Bool.and_eq_true] at hm
    exact hm.1
  simp [satS, mayA, hn, hp, meetsP]
theorem give_not {p : Pkg} {n w : List UInt8} {rel : Int} (hp : p.prv = [⟨n, []⟩]) (hne : p.name ≠ n) (h1 : 1 ≤ rel) : satS p ⟨n, rel, w⟩ = false := by
  have h0 : ¬ rel = 0 := by omega
  have hh : holdsS rel [] w = false := by
    unfold holdsS
    rw [if_neg h0]
    have : (cmpV [] w).2 = false := by
      have hz : verS [] = none := by decide +kernel
      simp [cmpV, hz]
    rw [this]
    rfl
  simp [satS, hp, meetsP, hne, hh, h0]
theorem give_by {p q : Pkg} {n v w : List UInt8} {rel : Int} (hp : p.prv = [⟨n, v⟩]) (hne : p.name ≠ n) (hq : q.prv = []) (hqn : q.name = n) (hqv : q.ver = v) (h1 : 1 ≤ rel) : satS p ⟨n, rel, w⟩ = satS q ⟨n, rel, w⟩ := by
  have h0 : ¬ rel = 0 := by omega
  simp [satS, hp, hq, hqn, hqv, meetsP, hne, h0]
/-- law 10's light -/
theorem one_of {b : Bool} : (b = true) ∨ (b = false) := by cases b <;> simp
end Go.Proofs.YtflmocamfedbdaaGreatDoor
