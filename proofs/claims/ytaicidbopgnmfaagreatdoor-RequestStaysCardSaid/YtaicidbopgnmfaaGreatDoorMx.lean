/- The contracts of text.Name and of the reference's Name. Whether packages may be, plainly. The contracts of MayAtom, of both texts. The contracts of Satisfies, of both texts. The contracts of the program's mayClauses and May. The contracts of the reference's May and MayEntries: where MayEntries says 0, each may be, and no name stands twice. Whether entries may be: the contracts of record.MayEntries and of the reference's MayEntries. Bounds of packages and of entries, plainly: so few that all fits. -/
import Derived.Test.YtaicidbopgnmfaaGreatDoorVerC
import Derived.Test.YtaicidbopgnmfaaGreatDoorVb
import Derived.Test.YtaicidbopgnmfaaGreatDoorMaA
import Derived.Test.YtaicidbopgnmfaaGreatDoorVw
import Derived.Test.YtaicidbopgnmfaaGreatDoorMk
import Derived.Deep.RegionHeld3
import Derived.BigQuiet
namespace Go.Proofs.YtaicidbopgnmfaaGreatDoor
set_option linter.unusedSimpArgs false
set_option linter.unusedVariables false
open Go.RowKit

theorem small_any (c : UInt8) (w : World) :
    Calls Tryz.prog 127 #[.int .u8 c.toNat] w fun e w' => e = .returned (.bool (smlB c)) ∧ w = w' := by
  go_enter Tryz.func127, Tryz.ntmps127
  go_wp2
  all_goals go_ret
  all_goals (go_tidy; simp; grind [smlB])
theorem rname_any (l : List UInt8) (hl : l.length ≤ 140737488351232) (w : World) :
    Calls Tryz.prog 75 #[.string (bs l)] w fun e w' => e = .returned (.bool (nameS l)) ∧ w = w' := by
  go_enter Tryz.func75, Tryz.ntmps75
  go_wp2
  go_loop [7] (fun i => ∃ k : Nat, k ≤ l.length ∧ i = .int .i64 k ∧ nmOk (l.take k) = true) (fun i => l.length - (intOf i).toNat)
  case atStart => exact ⟨0, Nat.zero_le _, rfl, rfl⟩
  case round =>
    obtain ⟨k, hk, rfl, hok⟩ := hrel
    have HK := Lib.hid hok
    clear hok
    by_cases hp : k < l.length
    · have HC := Lib.hid (List.getElem?_eq_getElem hp)
      go_wp2_with (first | (go_at_call 127; refine (small_any _ _).mono ?_; rintro e w' ⟨rfl, rfl⟩) | (go_at_call 128; refine (rdigit_any _ _).mono ?_; rintro e w' ⟨rfl, rfl⟩))
      all_goals first
        | (go_round
           case rel => exact ⟨k + 1, by omega, by simp, nmOk_step HC.out HK.out (by go_tidy; simp [nmB, nmC]; grind)⟩
           case measure => (try simp only [intOf]); omega)
        | (go_ret
           exact ⟨by have hq := nmOk_fail HC.out (by go_tidy; simp [nmB]; grind) (by go_tidy; simp [nmB, nmC]; grind); simp [nameS, hq], rfl⟩)
    · have HQ := Lib.hid (show nmOk l = true by have := HK.out; rwa [List.take_of_length_le (by omega)] at this)
      go_wp2
      all_goals go_ret
      all_goals refine ⟨?_, rfl⟩
      all_goals (go_tidy; simp [nameS, HQ.out]; try grind)
set_option maxRecDepth 100000 in
set_option maxHeartbeats 800000 in
theorem name_any (l : List UInt8) (hl : l.length ≤ 140737488351232) (w : World) :
    Calls Tryz.prog 124 #[.string (bs l)] w fun e w' => e = .returned (.bool (nameS l)) ∧ Below w.heap.size w w' := by
  by_cases h2 : (l.length : Int) < 2
  · go_enter Tryz.func124, Tryz.ntmps124
    go_wp2
    go_ret
    exact ⟨by simp [nameS]; omega, Below.refl _ _⟩
  · by_cases h24 : 24 < (l.length : Int)
    · go_enter Tryz.func124, Tryz.ntmps124
      go_wp2
      go_ret
      exact ⟨by simp [nameS]; omega, Below.refl _ _⟩
    · have hb : nameS l = nmOk l := by simp [nameS]; omega
      have HN := Lib.hid hb
      clear hb
      go_enter Tryz.func124, Tryz.ntmps124
      go_wp2
      go_loopw [4] (fun _ w' => ∃ k : Nat, k ≤ l.length ∧ w' = w.iter (bs l) k ∧ nmOk (l.take k) = true) (fun _ w' => l.length - w'.iterPos w.heap.size)
      case atStart => exact ⟨0, Nat.zero_le _, rfl, rfl⟩
      case round =>
        obtain ⟨k, hk, rfl, hok⟩ := hrel
        have HK := Lib.hid hok
        clear hok
        by_cases hp : k < l.length
        · obtain ⟨c, hc⟩ : ∃ c, l[k]? = some c := ⟨_, List.getElem?_eq_getElem hp⟩
          have HC := Lib.hid hc
          clear hc
          by_cases ha : c.toNat < 128
          · have hnx := next_byte (P := Tryz.prog) w l k c HC.out ha
            go_wp2
            all_goals first
              | (exfalso; omega)
              | (exfalso; grind)
              | (go_roundw
                 case rel => exact ⟨k + 1, hp, rfl, nmOk_step HC.out HK.out (by go_tidy; simp [nmB, nmC, smlB, digB]; grind)⟩
                 case measure => simp; omega)
              | (go_ret
                 exact ⟨by have hq := nmOk_fail HC.out (by go_tidy; simp [nmB, smlB, digB]; grind) (by go_tidy; simp [nmB, nmC, smlB, digB]; grind); simp [HN.out, hq], iter_below _ _ _⟩)
          · obtain ⟨r, n, hr, hr2, hn, hnx⟩ := next_high (P := Tryz.prog) w l k c HC.out (by omega)
            go_wp2
            all_goals first | (exfalso; omega) | (exfalso; grind) | skip
            all_goals go_ret
            all_goals exact ⟨by have hq := nmOk_fail HC.out (by simp [nmB, smlB, digB]; omega) (.inr (by simp [nmB, nmC, smlB, digB]; omega)); simp [HN.out, hq], iter_below _ _ _⟩
        · have hnx := next_end (P := Tryz.prog) w l k (by omega)
          go_wp2
          go_ret
          refine ⟨?_, iter_below _ _ _⟩
          have hq := HK.out
          rw [List.take_of_length_le (by omega)] at hq
          simp [HN.out, hq]
end Go.Proofs.YtaicidbopgnmfaaGreatDoor
namespace Go.Proofs.YtaicidbopgnmfaaGreatDoor
set_option linter.unusedSimpArgs false
set_option linter.unusedVariables false
open Go.RowKit

/-- the first error -/
def fstE : List Pkg → Int
  | [] => 0
  | p :: l => if mayE p = 0 then fstE l else mayE p
/-- is it of this name and version? -/
def fndP (n v : List UInt8) (p : Pkg) : Bool := decide (p.name = n) && sameV p.ver v
def dupB (p q : Pkg) : Bool := decide (q.name = p.name) && sameV q.ver p.ver
/-- does one of the first k places stand twice? -/
def dupT (l : List Pkg) (k : Nat) : Bool := (List.range k).any fun i => match l[i]? with
  | some p => (l.take i).any (dupB p)
  | none => false
def nmsF (ns : List (List UInt8)) (p : Pkg) : List (List UInt8) := if ns.contains p.name then ns else ns ++ [p.name]
def nmsS (l : List Pkg) : List (List UInt8) := l.foldl nmsF []
def mayAllE (l : List Pkg) : Int := if 24 < l.length then 12 else if fstE l ≠ 0 then fstE l else if dupT l l.length then 4 else if 10 < (nmsS l).length then 12 else 0
theorem fstE_at : ∀ {l : List Pkg} {k : Nat} {p : Pkg}, (∀ q ∈ l.take k, mayE q = 0) → l[k]? = some p → mayE p ≠ 0 → fstE l = mayE p
  | [], k, p, _, h, _ => by simp at h
  | q :: l, 0, p, _, h, hp => by
    simp at h
    subst h
    simp [fstE, hp]
  | q :: l, k + 1, p, h, hx, hp => by
    have h0 : mayE q = 0 := h q (by simp)
    simp only [fstE, h0, if_true]
    exact fstE_at (k := k) (fun z hz => h z (by rw [List.take_succ_cons]; exact List.mem_cons_of_mem _ hz)) (by simpa using hx) hp
theorem fstE_end : ∀ {l : List Pkg}, (∀ q ∈ l, mayE q = 0) → fstE l = 0
  | [], _ => rfl
  | q :: l, h => by
    simp only [fstE, h q (by simp), if_true]
    exact fstE_end fun z hz => h z (by simp [hz])
theorem fstE_zero : ∀ {l : List Pkg}, fstE l = 0 → ∀ q ∈ l, mayE q = 0
  | [], _, q, hq => by simp at hq
  | p :: l, h, q, hq => by
    unfold fstE at h
    by_cases hp : mayE p = 0
    · rw [if_pos hp] at h
      rcases List.mem_cons.1 hq with rfl | hq
      · exact hp
      · exact fstE_zero h q hq
    · rw [if_neg hp] at h
      exact absurd h hp
theorem may_step {l : List Pkg} {k : Nat} {p : Pkg} (h : ∀ q ∈ l.take k, mayE q = 0) (hx : l[k]? = some p) (hp : mayE p = 0) : ∀ q ∈ l.take (k + 1), mayE q = 0 := fun q hq => by
  rw [take_step hx, List.mem_append, List.mem_singleton] at hq
  rcases hq with hq | rfl
  · exact h q hq
  · exact hp
theorem dupT_step {l : List Pkg} {k : Nat} {p : Pkg} (hx : l[k]? = some p) : dupT l (k + 1) = (dupT l k || (l.take k).any (dupB p)) := by
  unfold dupT
  rw [List.range_succ, List.any_append]
  simp [hx]
theorem dupT_mono {l : List Pkg} {k : Nat} (h : dupT l k = true) {n : Nat} (hn : k ≤ n) : dupT l n = true := by
  unfold dupT at *
  obtain ⟨i, hi, hx⟩ := List.any_eq_true.1 h
  exact List.any_eq_true.2 ⟨i, by simp at hi ⊢; omega, hx⟩
theorem nms_step {l : List Pkg} {k : Nat} {p : Pkg} (hx : l[k]? = some p) : nmsS (l.take (k + 1)) = nmsF (nmsS (l.take k)) p := by
  unfold nmsS
  rw [take_step hx, List.foldl_append]
  rfl
theorem nms_mem {n : List UInt8} : ∀ {l : List Pkg} {ns : List (List UInt8)}, n ∈ l.foldl nmsF ns ↔ n ∈ ns ∨ ∃ p ∈ l, p.name = n
  | [], ns => by simp
  | p :: l, ns => by
    rw [List.foldl_cons, nms_mem]
    unfold nmsF
    by_cases h : ns.contains p.name = true
    · rw [if_pos h]
      have h' : p.name ∈ ns := by simpa using h
      constructor
      · rintro (h1 | ⟨q, hq, h1⟩)
        · exact .inl h1
        · exact .inr ⟨q, by simp [hq], h1⟩
      · rintro (h1 | ⟨q, hq, h1⟩)
        · exact .inl h1
        · rcases List.mem_cons.1 hq with rfl | hq
          · exact .inl (h1 ▸ h')
          · exact .inr ⟨q, hq, h1⟩
    · rw [if_neg h]
      constructor
      · rintro (h1 | ⟨q, hq, h1⟩)
        · rcases List.mem_append.1 h1 with h1 | h1
          · exact .inl h1
          · simp at h1
            exact .inr ⟨p, by simp, h1.symm⟩
        · exact .inr ⟨q, by simp [hq], h1⟩
      · rintro (h1 | ⟨q, hq, h1⟩)
        · exact .inl (by simp [h1])
        · rcases List.mem_cons.1 hq with rfl | hq
          · exact .inl (by simp [h1])
          · exact .inr ⟨q, hq, h1⟩
theorem nms_len : ∀ (l : List Pkg) (ns : List (List UInt8)), (l.foldl nmsF ns).length ≤ ns.length + l.length
  | [], ns => by simp
  | p :: l, ns => by
    rw [List.foldl_cons]
    have := nms_len l (nmsF ns p)
    have h2 : (nmsF ns p).length ≤ ns.length + 1 := by
      unfold nmsF
      split <;> simp
    rw [List.length_cons]
    omega
theorem nms_le (l : List Pkg) : (nmsS l).length ≤ l.length := by
  have := nms_len l []
  simpa [nmsS] using this
theorem nms_has {l : List Pkg} {n : List UInt8} : (nmsS l).contains n = l.any fun q => decide (q.name = n) := by
  rw [Bool.eq_iff_iff]
  have := nms_mem (n := n) (l := l) (ns := [])
  simp only [List.not_mem_nil, false_or] at this
  simp only [List.contains_eq_mem, decide_eq_true_eq, List.any_eq_true]
  exact this
theorem mayAll_many {l : List Pkg} (h : 24 < l.length) : mayAllE l = 12 := by simp [mayAllE, h]
theorem mayAll_err {l : List Pkg} {k : Nat} {p : Pkg} (hl : ¬ 24 < l.length) (h : ∀ q ∈ l.take k, mayE q = 0) (hx : l[k]? = some p) (hp : mayE p ≠ 0) : mayAllE l = mayE p := by
  have := fstE_at h hx hp
  simp [mayAllE, hl, this, hp]
theorem mayAll_dup {l : List Pkg} {k : Nat} {p : Pkg} (hl : ¬ 24 < l.length) (h : ∀ q ∈ l, mayE q = 0) (hx : l[k]? = some p) (hd : (l.take k).any (dupB p) = true) : mayAllE l = 4 := by
  have h1 : dupT l l.length = true := dupT_mono (k := k + 1) (by rw [dupT_step hx, hd]; simp) (List.getElem?_eq_some_iff.1 hx).1
  simp [mayAllE, hl, fstE_end h, h1]
theorem mayAll_end {l : List Pkg} (hl : ¬ 24 < l.length) (h : ∀ q ∈ l, mayE q = 0) (hd : dupT l l.length = false) : mayAllE l = if 10 < (nmsS l).length then 12 else 0 := by
  simp [mayAllE, hl, fstE_end h, hd]
theorem mayAll_zero {l : List Pkg} (h : mayAllE l = 0) : l.length ≤ 24 ∧ (∀ q ∈ l, mayE q = 0) ∧ dupT l l.length = false ∧ (nmsS l).length ≤ 10 := by
  unfold mayAllE at h
  by_cases h1 : 24 < l.length
  · rw [if_pos h1] at h; omega
  · rw [if_neg h1] at h
    by_cases h2 : fstE l ≠ 0
    · rw [if_pos h2] at h; exact absurd h h2
    · rw [if_neg h2] at h
      rcases h3 : dupT l l.length
      · rw [h3] at h
        simp only [Bool.false_eq_true, if_false] at h
        by_cases h4 : 10 < (nmsS l).length
        · rw [if_pos h4] at h; omega
        · exact ⟨by omega, fstE_zero (by omega), rfl, by omega⟩
      · rw [h3] at h; simp at h
/-- no two of one name and one version -/
theorem dup_no {l : List Pkg} (h : dupT l l.length = false) {i j : Nat} {p q : Pkg} (hij : i < j) (hi : l[i]? = some q) (hj : l[j]? = some p) : dupB p q = false := by
  unfold dupT at h
  rw [List.any_eq_false] at h
  have h1 := h j (by have := (List.getElem?_eq_some_iff.1 hj).1; simpa using this)
  rw [hj] at h1
  simp only [Bool.not_eq_true] at h1
  rw [List.any_eq_false] at h1
  have h2 := h1 q (by
    rw [List.mem_iff_getElem?]
    exact ⟨i, by rw [List.getElem?_take_of_lt hij]; exact hi⟩)
  simpa using h2
end Go.Proofs.YtaicidbopgnmfaaGreatDoor
namespace Go.Proofs.YtaicidbopgnmfaaGreatDoor
set_option linter.unusedSimpArgs false
set_option linter.unusedVariables false
open Go.RowKit

def signL (rel : Int) : List UInt8 := if rel = 1 then [60, 60] else if rel = 2 then [60, 61] else if rel = 3 then [61] else if rel = 4 then [62, 61] else if rel = 5 then [62, 62] else []
theorem rSign_any (rel : Int) (w : World) : Calls Tryz.prog 140 #[.int .i64 rel] w fun e w' => e = .returned (.string (bs (signL rel))) ∧ w = w' := by
  go_enter Tryz.func140, Tryz.ntmps140
  go_wp2
  all_goals go_ret
  all_goals refine ⟨?_, rfl⟩
  all_goals first | (simp_all [signL]; done) | (simp_all [signL]; rfl)
theorem isV_none {l : List UInt8} (h : verS l = none) : isV l = false := by simp [isV, h]
theorem isV_some' {l : List UInt8} {a b c : List UInt8} (h : verS l = some (a, b, c)) : isV l = true := by simp [isV, h]
set_option maxRecDepth 100000 in
theorem mayAtom_any (a : Atm) (ha : a.ok) (w : World) :
    Calls Tryz.prog 179 #[(.agg #[.string (bs (a).name), .int .i64 (a).rel, .string (bs (a).ver)])] w fun e w' => e = .returned (.bool (mayA a)) ∧ Below w.heap.size w w' := by
  have hn : a.name.length ≤ 140737488351232 := ha.1
  rcases h : verS a.ver with _ | ⟨x, y, z⟩
  · have HV := Lib.hid (verV_none h)
    have HI := Lib.hid (isV_none h)
    clear h
    go_enter Tryz.func179, Tryz.ntmps179
    go_wp2_with (first | (go_at_call 124; refine (name_any _ (by omega) _).mono ?_; rintro e w1 ⟨rfl, hb⟩; obtain ⟨hc, hf, hz⟩ := bcell hb; try simp at hz) | (go_at_call 125; refine (parse_any _ _).mono ?_; rintro e w2 ⟨rfl, hb2⟩; rw [HV.out]))
    all_goals go_ret
    all_goals refine ⟨?_, by (repeat (first | assumption | exact Below.refl _ _ | refine below_next ?_ (by assumption) | refine below_drewN ?_ _ | refine below_alloc ?_ _))⟩
    all_goals (have HI := HI.out; go_tidy; simp [mayA, HI]; try grind)
  · have HV := Lib.hid (verV_some h)
    have HI := Lib.hid (isV_some' h)
    clear h
    go_enter Tryz.func179, Tryz.ntmps179
    go_wp2_with (first | (go_at_call 124; refine (name_any _ (by omega) _).mono ?_; rintro e w1 ⟨rfl, hb⟩; obtain ⟨hc, hf, hz⟩ := bcell hb; try simp at hz) | (go_at_call 125; refine (parse_any _ _).mono ?_; rintro e w2 ⟨rfl, hb2⟩; rw [HV.out]))
    all_goals go_ret
    all_goals refine ⟨?_, by (repeat (first | assumption | exact Below.refl _ _ | refine below_next ?_ (by assumption) | refine below_drewN ?_ _ | refine below_alloc ?_ _))⟩
    all_goals (have HI := HI.out; go_tidy; simp [mayA, HI]; try grind)
set_option maxRecDepth 100000 in
theorem rmayAtom_any (a : Atm) (ha : a.ok) (w : World) :
    Calls Tryz.prog 95 #[(.agg #[.string (bs (a).name), .int .i64 (a).rel, .string (bs (a).ver)])] w fun e w' => e = .returned (.bool (mayA a)) ∧ Below w.heap.size w w' := by
  have hn : a.name.length ≤ 140737488351232 := ha.1
  go_enter Tryz.func95, Tryz.ntmps95
  go_wp2_with (first | (go_at_call 75; refine (rname_any _ (by omega) _).mono ?_; rintro e w1 ⟨rfl, rfl⟩) | (go_at_call 140; refine (rSign_any _ _).mono ?_; rintro e w' ⟨rfl, rfl⟩) | (go_at_call 76; refine (rIs_any _ _).mono ?_; rintro e w1 ⟨rfl, hb⟩))
  all_goals go_ret
  all_goals refine ⟨?_, by (repeat (first | assumption | exact Below.refl _ _ | refine below_next ?_ (by assumption) | refine below_drewN ?_ _ | refine below_alloc ?_ _))⟩
  all_goals (go_tidy; simp [mayA]; try grind [signL])
end Go.Proofs.YtaicidbopgnmfaaGreatDoor
namespace Go.Proofs.YtaicidbopgnmfaaGreatDoor
set_option linter.unusedSimpArgs false
set_option linter.unusedVariables false
open Go.RowKit

theorem satc_any (a : Atm) (v : Prv) (g : Nat) (w : World) (c0 : w.cell? ⟨g, 0, none⟩ = some (.string (bs a.name))) (c1 : w.cell? ⟨g, 1, none⟩ = some (.int .i64 a.rel)) (c2 : w.cell? ⟨g, 2, none⟩ = some (.string (bs a.ver))) :
    Calls Tryz.prog 184 #[(.agg #[.string (bs (v).name), .string (bs (v).ver)]), .pointer (some ⟨g, 0, none⟩)] w fun e w' => e = .returned (.bool (meetsP a v)) ∧ Below w.heap.size w w' := by
  have hg : g < w.heap.size := block_lt_of_cell c0
  go_enter Tryz.func184, Tryz.ntmps184
  go_wp2_with (go_at_call 182; refine (Holds_any _ _ _ _).mono ?_; rintro e w1 ⟨rfl, hb⟩)
  all_goals go_ret
  all_goals refine ⟨?_, by (repeat (first | assumption | exact Below.refl _ _ | refine below_next ?_ (by assumption) | refine below_drewN ?_ _ | refine below_alloc ?_ _))⟩
  all_goals (go_tidy; simp [meetsP]; try grind)
set_option maxRecDepth 100000 in
theorem idxP_any (a : Atm) (A : Option Addr) (c : Nat) (l : List Prv) (g : Nat) (w : World) (hl : Prvs w A c l) (c0 : w.cell? ⟨g, 0, none⟩ = some (.string (bs a.name))) (c1 : w.cell? ⟨g, 1, none⟩ = some (.int .i64 a.rel)) (c2 : w.cell? ⟨g, 2, none⟩ = some (.string (bs a.ver))) :
    Calls Tryz.prog 198 #[.slice A l.length c, .func (.func 184) #[] #[.pointer (some ⟨g, 0, none⟩)]] w fun e w' => e = .returned (.int .i64 (idxS (meetsP a) l)) ∧ Below w.heap.size w w' := by
  have hbd := hl.bd
  have HL := Lib.hid hl
  have C0 := Lib.hid c0
  have C1 := Lib.hid c1
  have C2 := Lib.hid c2
  clear hl c0 c1 c2
  go_enter Tryz.func198, Tryz.ntmps198
  go_wp2
  go_loopw [8] (fun i wr => ∃ k : Nat, k ≤ l.length ∧ i = .int .i64 k ∧ Below w.heap.size w wr ∧ (l.take k).any (meetsP a) = false) (fun i _ => l.length - (intOf i).toNat)
  case atStart => exact ⟨0, Nat.zero_le _, rfl, Below.refl _ _, rfl⟩
  case round =>
    obtain ⟨k, hk, rfl, hb, hn⟩ := hrel
    have HB := Lib.hid hb
    have HN := Lib.hid hn
    clear hb hn
    by_cases hlt : k < l.length
    · obtain ⟨q, b, o, hq, rfl, hok, e0, e1⟩ := HL.out.at_ hlt (Kept.of_below HB.out)
      have d0 := Kept.of_below HB.out _ _ C0.out
      have d1 := Kept.of_below HB.out _ _ C1.out
      have d2 := Kept.of_below HB.out _ _ C2.out
      have HQ := Lib.hid hq
      clear hq
      go_wp2_with (go_at_call 184; refine (satc_any a _ _ _ (by assumption) (by assumption) (by assumption)).mono ?_; rintro e w1 ⟨rfl, hb⟩)
      · go_ret
        exact ⟨by rw [idx_at HQ.out (by assumption) HN.out]; rfl, by have hb0 := HB.out; (repeat (first | assumption | exact Below.refl _ _ | refine below_next ?_ (by assumption) | refine below_drewN ?_ _ | refine below_alloc ?_ _))⟩
      · go_roundw
        case rel => exact ⟨k + 1, by omega, by simp, by have hb0 := HB.out; (repeat (first | assumption | exact Below.refl _ _ | refine below_next ?_ (by assumption) | refine below_drewN ?_ _ | refine below_alloc ?_ _)), any_step HQ.out (by assumption) HN.out⟩
        case measure => (try simp only [intOf]); omega
    · go_wp2
      go_ret
      exact ⟨by rw [idx_no (any_end hk hlt HN.out)]; rfl, HB.out⟩
set_option maxRecDepth 100000 in
theorem conP_any (a : Atm) (A : Option Addr) (c : Nat) (l : List Prv) (g : Nat) (w : World) (hl : Prvs w A c l) (c0 : w.cell? ⟨g, 0, none⟩ = some (.string (bs a.name))) (c1 : w.cell? ⟨g, 1, none⟩ = some (.int .i64 a.rel)) (c2 : w.cell? ⟨g, 2, none⟩ = some (.string (bs a.ver))) :
    Calls Tryz.prog 183 #[.slice A l.length c, .func (.func 184) #[] #[.pointer (some ⟨g, 0, none⟩)]] w fun e w' => e = .returned (.bool (l.any (meetsP a))) ∧ Below w.heap.size w w' := by
  have HI := Lib.hid (idx_any (p := meetsP a) (l := l))
  go_enter Tryz.func183, Tryz.ntmps183
  go_wp2_with (go_at_call 198; refine (idxP_any a _ _ _ _ _ hl c0 c1 c2).mono ?_; rintro e w1 ⟨rfl, hb⟩)
  go_ret
  exact ⟨by rw [← HI.out]; rfl, by (repeat (first | assumption | exact Below.refl _ _ | refine below_next ?_ (by assumption) | refine below_drewN ?_ _ | refine below_alloc ?_ _))⟩
theorem sat_name {p : Pkg} {a : Atm} (h : mayA a = false) : satS p a = false := by simp [satS, h]
set_option maxRecDepth 100000 in
theorem sat_any (p : Pkg) (r : Raw) (a : Atm) (w : World) (hp : RP w r p) (ha : a.ok) :
    Calls Tryz.prog 151 #[(.agg #[.string (bs (p).name), .string (bs (p).ver), .slice (r).a1 (p).pre.length (r).c1, .slice (r).a2 (p).dep.length (r).c2, .slice (r).a3 (p).rcm.length (r).c3, .slice (r).a4 (p).con.length (r).c4, .slice (r).a5 (p).brk.length (r).c5, .slice (r).a6 (p).prv.length (r).c6, .bool (p).ess]), (.agg #[.string (bs (a).name), .int .i64 (a).rel, .string (bs (a).ver)])] w fun e w' => e = .returned (.bool (satS p a)) ∧ Below w.heap.size w w' := by
  have hmf : ∀ (fn : Fn) (first cap : Array Value) (w : World), (Instr.makeFunc fn first cap).run Tryz.prog w = .ok (.func fn first cap) w := fun _ _ _ _ => rfl
  have HP := Lib.hid hp
  clear hp
  go_enter Tryz.func151, Tryz.ntmps151
  go_wp2_with (first | (go_at_call 179; refine (mayAtom_any a ha _).mono ?_; rintro e w1 ⟨rfl, hb⟩; obtain ⟨hc, hf, hz⟩ := bcell hb; have hz1 : w.heap.size < w1.heap.size := (by have := hb.size; simp at this; omega); have d0 := Kept.of_below hb ⟨w.heap.size + 1, 0, none⟩ (.string (bs a.name)) (by simp); have d1 := Kept.of_below hb ⟨w.heap.size + 1, 1, none⟩ (.int .i64 a.rel) (by simp); have d2 := Kept.of_below hb ⟨w.heap.size + 1, 2, none⟩ (.string (bs a.ver)) (by simp)) | (go_at_call 182; refine (Holds_any _ _ _ _).mono ?_; rintro e w1 ⟨rfl, hb⟩; obtain ⟨hc, hf, hz⟩ := bcell hb; have d0 := Kept.of_below hb _ _ d0; have d1 := Kept.of_below hb _ _ d1; have d2 := Kept.of_below hb _ _ d2) | (go_at_call 183; refine (conP_any a _ _ _ _ _ (HP.out.prv.kept (by (repeat (first | assumption | exact Kept.refl _ | exact Kept.of_below (by assumption) | refine Kept.trans ?_ (Kept.alloc _ _) | refine Kept.trans ?_ (Kept.drewN _ _) | refine Kept.trans ?_ (Kept.of_below (by assumption)))))) (by assumption) (by assumption) (by assumption)).mono ?_; rintro e w1 ⟨rfl, hb⟩))
  all_goals go_ret
  all_goals refine ⟨?_, by (repeat (first | assumption | exact Below.refl _ _ | refine below_next ?_ (by assumption) | refine below_drewN ?_ _ | refine below_alloc ?_ _))⟩
  all_goals (go_tidy; simp [satS]; try grind)
end Go.Proofs.YtaicidbopgnmfaaGreatDoor
namespace Go.Proofs.YtaicidbopgnmfaaGreatDoor
set_option linter.unusedSimpArgs false
set_option linter.unusedVariables false
open Go.RowKit

theorem clongc_any (A : Option Addr) (c : Nat) (l : List Atm) (w : World) (hl : Atms w A c l) :
    Calls Tryz.prog 176 #[.slice A l.length c] w fun e w' => e = .returned (.bool (longC l)) ∧ Below w.heap.size w w' := by
  have hbd := hl.bd
  clear hl
  go_enter Tryz.func176, Tryz.ntmps176
  go_wp2
  go_ret
  exact ⟨by simp [longC]; omega, Below.refl _ _⟩
set_option maxRecDepth 100000 in
theorem idxLC_any (A : Option Addr) (c : Nat) (l : List (List Atm)) (w : World) (hl : Clss w A c l) :
    Calls Tryz.prog 196 #[.slice A l.length c, .func (.func 176) #[] #[]] w fun e w' => e = .returned (.int .i64 (idxS longC l)) ∧ Below w.heap.size w w' := by
  have hbd := hl.bd
  have HL := Lib.hid hl
  clear hl
  go_enter Tryz.func196, Tryz.ntmps196
  go_wp2
  go_loopw [8] (fun i wr => ∃ k : Nat, k ≤ l.length ∧ i = .int .i64 k ∧ Below w.heap.size w wr ∧ (l.take k).any (longC) = false) (fun i _ => l.length - (intOf i).toNat)
  case atStart => exact ⟨0, Nat.zero_le _, rfl, Below.refl _ _, rfl⟩
  case round =>
    obtain ⟨k, hk, rfl, hb, hn⟩ := hrel
    have HB := Lib.hid hb
    have HN := Lib.hid hn
    clear hb hn
    by_cases hlt : k < l.length
    · obtain ⟨q, b, o, A', c', hq, rfl, hA, e0⟩ := HL.out.at_ hlt (Kept.of_below HB.out)
      have HA := Lib.hid (hA.kept (Kept.of_below HB.out))
      have HQ := Lib.hid hq
      clear hq
      go_wp2_with (go_at_call 176; refine (clongc_any _ _ q _ HA.out).mono ?_; rintro e w1 ⟨rfl, hb⟩)
      · go_ret
        exact ⟨by rw [idx_at HQ.out (by assumption) HN.out]; rfl, by have hb0 := HB.out; (repeat (first | assumption | exact Below.refl _ _ | refine below_next ?_ (by assumption) | refine below_drewN ?_ _ | refine below_alloc ?_ _))⟩
      · go_roundw
        case rel => exact ⟨k + 1, by omega, by simp, by have hb0 := HB.out; (repeat (first | assumption | exact Below.refl _ _ | refine below_next ?_ (by assumption) | refine below_drewN ?_ _ | refine below_alloc ?_ _)), any_step HQ.out (by assumption) HN.out⟩
        case measure => (try simp only [intOf]); omega
    · go_wp2
      go_ret
      exact ⟨by rw [idx_no (any_end hk hlt HN.out)]; rfl, HB.out⟩
set_option maxRecDepth 100000 in
theorem conLC_any (A : Option Addr) (c : Nat) (l : List (List Atm)) (w : World) (hl : Clss w A c l) :
    Calls Tryz.prog 175 #[.slice A l.length c, .func (.func 176) #[] #[]] w fun e w' => e = .returned (.bool (l.any longC)) ∧ Below w.heap.size w w' := by
  have HI := Lib.hid (idx_any (p := longC) (l := l))
  go_enter Tryz.func175, Tryz.ntmps175
  go_wp2_with (go_at_call 196; refine (idxLC_any _ _ _ _ hl).mono ?_; rintro e w1 ⟨rfl, hb⟩)
  go_ret
  exact ⟨by rw [← HI.out]; rfl, by (repeat (first | assumption | exact Below.refl _ _ | refine below_next ?_ (by assumption) | refine below_drewN ?_ _ | refine below_alloc ?_ _))⟩
def notA (a : Atm) : Bool := !mayA a
set_option maxRecDepth 100000 in
theorem cnota_any (a : Atm) (w : World) (ha : a.ok) :
    Calls Tryz.prog 178 #[(.agg #[.string (bs (a).name), .int .i64 (a).rel, .string (bs (a).ver)])] w fun e w' => e = .returned (.bool (notA a)) ∧ Below w.heap.size w w' := by
  go_enter Tryz.func178, Tryz.ntmps178
  go_wp2_with (go_at_call 179; refine (mayAtom_any a ha _).mono ?_; rintro e w1 ⟨rfl, hb⟩)
  go_ret
  exact ⟨rfl, by (repeat (first | assumption | exact Below.refl _ _ | refine below_next ?_ (by assumption) | refine below_drewN ?_ _ | refine below_alloc ?_ _))⟩
set_option maxRecDepth 100000 in
theorem idxNA_any (A : Option Addr) (c : Nat) (l : List Atm) (w : World) (hl : Atms w A c l) :
    Calls Tryz.prog 197 #[.slice A l.length c, .func (.func 178) #[] #[]] w fun e w' => e = .returned (.int .i64 (idxS notA l)) ∧ Below w.heap.size w w' := by
  have hbd := hl.bd
  have HL := Lib.hid hl
  clear hl
  go_enter Tryz.func197, Tryz.ntmps197
  go_wp2
  go_loopw [8] (fun i wr => ∃ k : Nat, k ≤ l.length ∧ i = .int .i64 k ∧ Below w.heap.size w wr ∧ (l.take k).any (notA) = false) (fun i _ => l.length - (intOf i).toNat)
  case atStart => exact ⟨0, Nat.zero_le _, rfl, Below.refl _ _, rfl⟩
  case round =>
    obtain ⟨k, hk, rfl, hb, hn⟩ := hrel
    have HB := Lib.hid hb
    have HN := Lib.hid hn
    clear hb hn
    by_cases hlt : k < l.length
    · obtain ⟨q, b, o, hq, rfl, hok, e0, e1, e2⟩ := HL.out.at_ hlt (Kept.of_below HB.out)
      have HQ := Lib.hid hq
      clear hq
      go_wp2_with (go_at_call 178; refine (cnota_any q _ hok).mono ?_; rintro e w1 ⟨rfl, hb⟩)
      · go_ret
        exact ⟨by rw [idx_at HQ.out (by assumption) HN.out]; rfl, by have hb0 := HB.out; (repeat (first | assumption | exact Below.refl _ _ | refine below_next ?_ (by assumption) | refine below_drewN ?_ _ | refine below_alloc ?_ _))⟩
      · go_roundw
        case rel => exact ⟨k + 1, by omega, by simp, by have hb0 := HB.out; (repeat (first | assumption | exact Below.refl _ _ | refine below_next ?_ (by assumption) | refine below_drewN ?_ _ | refine below_alloc ?_ _)), any_step HQ.out (by assumption) HN.out⟩
        case measure => (try simp only [intOf]); omega
    · go_wp2
      go_ret
      exact ⟨by rw [idx_no (any_end hk hlt HN.out)]; rfl, HB.out⟩
set_option maxRecDepth 100000 in
theorem conNA_any (A : Option Addr) (c : Nat) (l : List Atm) (w : World) (hl : Atms w A c l) :
    Calls Tryz.prog 177 #[.slice A l.length c, .func (.func 178) #[] #[]] w fun e w' => e = .returned (.bool (l.any notA)) ∧ Below w.heap.size w w' := by
  have HI := Lib.hid (idx_any (p := notA) (l := l))
  go_enter Tryz.func177, Tryz.ntmps177
  go_wp2_with (go_at_call 197; refine (idxNA_any _ _ _ _ hl).mono ?_; rintro e w1 ⟨rfl, hb⟩)
  go_ret
  exact ⟨by rw [← HI.out]; rfl, by (repeat (first | assumption | exact Below.refl _ _ | refine below_next ?_ (by assumption) | refine below_drewN ?_ _ | refine below_alloc ?_ _))⟩
theorem badC_eq (c : List Atm) : badC c = (decide (c.length = 0) || c.any notA) := rfl
theorem clsE_many {l : List (List Atm)} (h : l.any longC = true) : clsE l = 12 := by simp [clsE, h]
theorem clsE_bad {l : List (List Atm)} (h1 : l.length ≤ 12) (h2 : l.any longC = false) (h3 : l.any badC = true) : clsE l = 3 := by
  unfold clsE
  rw [h2, h3]
  simp; omega
theorem clsE_ok {l : List (List Atm)} (h1 : l.length ≤ 12) (h2 : l.any longC = false) (h3 : l.any badC = false) : clsE l = 0 := by
  unfold clsE
  rw [h2, h3]
  simp; omega
set_option maxRecDepth 100000 in
set_option maxHeartbeats 400000 in
theorem mayCls_any (A : Option Addr) (c k0 : Nat) (l : List (List Atm)) (hk0 : l.length = k0) (w : World) (hl : Clss w A c l) :
    Calls Tryz.prog 143 #[.slice A k0 c] w fun e w' => e = .returned (.int .i64 (clsE l)) ∧ Below w.heap.size w w' := by
  subst hk0
  have hbd := hl.bd
  have HL := Lib.hid hl
  clear hl
  by_cases h12 : (12 : Int) < (l.length : Int)
  · go_enter Tryz.func143, Tryz.ntmps143
    go_wp2
    go_ret
    exact ⟨by rw [clsE_long (by omega)]; rfl, Below.refl _ _⟩
  · rcases hlg : l.any longC
    · have HLG := Lib.hid hlg
      clear hlg
      go_enter Tryz.func143, Tryz.ntmps143
      go_wp2_with fail
      refine (conLC_any _ _ l _ HL.out).mono ?_
      rintro e w1 ⟨rfl, hb1⟩
      rw [HLG.out]
      have HB1 := Lib.hid hb1
      clear hb1
      go_wp2
      go_loopw [14] (fun i wr => ∃ k : Nat, k ≤ l.length ∧ i = .int .i64 k ∧ Below w.heap.size w wr ∧ (l.take k).any badC = false) (fun i _ => l.length - (intOf i).toNat)
      case atStart => exact ⟨0, Nat.zero_le _, rfl, HB1.out, rfl⟩
      case round =>
        obtain ⟨k, hk, rfl, hb, hn⟩ := hrel
        have HB := Lib.hid hb
        have HN := Lib.hid hn
        clear hb hn
        by_cases hlt : k < l.length
        · obtain ⟨q, b, o, A', c', hq, rfl, hA, e0⟩ := HL.out.at_ hlt (Kept.of_below HB.out)
          have HQ := Lib.hid hq
          have HA := Lib.hid (hA.kept (Kept.of_below HB.out))
          clear hq hA
          by_cases h0 : q = []
          · have hbd0 : badC q = true := by simp [badC, h0]
            have HBD := Lib.hid hbd0
            clear hbd0
            subst h0
            go_wp2
            go_ret
            exact ⟨by rw [clsE_bad (by omega) HLG.out (any_yes HQ.out HBD.out)]; rfl, HB.out⟩
          · have hl0 : 0 < q.length := by rcases q with _ | ⟨_, _⟩ <;> simp at h0 ⊢
            have z1 : ((q.length : Int) == 0) = false := by rw [beq_eq_false_iff_ne]; omega
            rcases hna : q.any notA
            · have HNA := Lib.hid hna
              clear hna
              go_wp2_with fail
              refine (conNA_any _ _ q _ HA.out).mono ?_
              rintro e w2 ⟨rfl, hb2⟩
              rw [HNA.out]
              go_wp2
              go_roundw
              case rel => exact ⟨k + 1, by omega, by simp, by have hb0 := HB.out; (repeat (first | assumption | exact Below.refl _ _ | refine below_next ?_ (by assumption) | refine below_drewN ?_ _ | refine below_alloc ?_ _)), any_step HQ.out (by rw [badC_eq, HNA.out]; simp; omega) HN.out⟩
              case measure => (try simp only [intOf]); omega
            · have HNA := Lib.hid hna
              clear hna
              go_wp2_with fail
              refine (conNA_any _ _ q _ HA.out).mono ?_
              rintro e w2 ⟨rfl, hb2⟩
              rw [HNA.out]
              go_wp2
              go_ret
              exact ⟨by rw [clsE_bad (by omega) HLG.out (any_yes HQ.out (by rw [badC_eq, HNA.out]; simp))]; rfl, by have hb0 := HB.out; (repeat (first | assumption | exact Below.refl _ _ | refine below_next ?_ (by assumption) | refine below_drewN ?_ _ | refine below_alloc ?_ _))⟩
        · go_wp2
          go_ret
          exact ⟨by rw [clsE_ok (by omega) HLG.out (any_end hk hlt HN.out)]; rfl, HB.out⟩
    · have HLG := Lib.hid hlg
      clear hlg
      go_enter Tryz.func143, Tryz.ntmps143
      go_wp2_with fail
      refine (conLC_any _ _ l _ HL.out).mono ?_
      rintro e w1 ⟨rfl, hb1⟩
      rw [HLG.out]
      go_wp2
      go_ret
      exact ⟨by rw [clsE_many HLG.out]; rfl, hb1⟩

def RClss (w : World) (cs : List Value) (x : List (List Atm)) : Prop := ∃ A c, cs = [.slice A x.length c] ∧ Clss w A c x
theorem RClss.kept {w w' : World} {cs : List Value} {x : List (List Atm)} (h : RClss w cs x) (hk : Kept w w') : RClss w' cs x := let ⟨A, c, h1, h2⟩ := h; ⟨A, c, h1, h2.kept hk⟩
/-- few conflicts, breaks, provides -/
def fewR (p : Pkg) : Prop := p.con.length ≤ 1000000 ∧ p.brk.length ≤ 1000000 ∧ p.prv.length ≤ 1000000
def sixL (p : Pkg) : List (List (List Atm)) := [p.pre, p.dep, p.rcm, singS p.con, singS p.brk, singS (prvS p.prv)]
theorem mayE_ok {p : Pkg} (h1 : nameS p.name = true) (h2 : isV p.ver = true) : mayE p = lstE (sixL p) := by unfold mayE; rw [h1, h2]; rfl
theorem mayE_name {p : Pkg} (h1 : nameS p.name = false) : mayE p = 3 := by simp [mayE, h1]
theorem mayE_ver {p : Pkg} (h1 : isV p.ver = false) : mayE p = 3 := by simp [mayE, h1]
/-- six lists of clauses in a block of their own -/
theorem six_slc {W : World} {g t : Nat} {p : Pkg} {a1 a2 a3 a4 a5 a6 : Option Addr} {c1 c2 c3 c4 c5 c6 : Nat}
    (hB : Blk W g t #[.slice a1 p.pre.length c1, .slice a2 p.dep.length c2, .slice a3 p.rcm.length c3, .slice a4 (singS p.con).length c4, .slice a5 (singS p.brk).length c5, .slice a6 (singS (prvS p.prv)).length c6])
    (h1 : Clss W a1 c1 p.pre) (h2 : Clss W a2 c2 p.dep) (h3 : Clss W a3 c3 p.rcm) (h4 : Clss W a4 c4 (singS p.con)) (h5 : Clss W a5 c5 (singS p.brk)) (h6 : Clss W a6 c6 (singS (prvS p.prv))) :
    Slc W 1 24 (RClss W) (some ⟨g, 0, none⟩) 6 (sixL p) :=
  slcB [[.slice a1 p.pre.length c1], [.slice a2 p.dep.length c2], [.slice a3 p.rcm.length c3], [.slice a4 (singS p.con).length c4], [.slice a5 (singS p.brk).length c5], [.slice a6 (singS (prvS p.prv)).length c6]] hB rfl rfl (fun i cs x e1 e2 => by
    rcases i with _ | _ | _ | _ | _ | _ | i <;> simp [sixL] at e1 e2 <;> (subst e1 e2; refine ⟨⟨_, _, rfl, ?_⟩, rfl⟩; assumption)) rfl (by show 6 * 24 ≤ _; decide) (by show 6 ≤ _; decide) (by decide)
set_option maxRecDepth 100000 in
set_option maxHeartbeats 1000000 in
theorem may_any (p : Pkg) (r : Raw) (w : World) (hp : RP w r p) (hf : fewR p) :
    Calls Tryz.prog 97 #[(.agg #[.string (bs (p).name), .string (bs (p).ver), .slice (r).a1 (p).pre.length (r).c1, .slice (r).a2 (p).dep.length (r).c2, .slice (r).a3 (p).rcm.length (r).c3, .slice (r).a4 (p).con.length (r).c4, .slice (r).a5 (p).brk.length (r).c5, .slice (r).a6 (p).prv.length (r).c6, .bool (p).ess])] w fun e w' => e = .returned (.int .i64 (mayE p)) ∧ Below w.heap.size w w' := by
  rcases r with ⟨a1, a2, a3, a4, a5, a6, c1, c2, c3, c4, c5, c6⟩
  dsimp only
  have hsn : p.name.length ≤ 140737488351232 := hp.1
  have HP1 := Lib.hid (show Clss w a1 c1 p.pre from hp.pre)
  have HP2 := Lib.hid (show Clss w a2 c2 p.dep from hp.dep)
  have HP3 := Lib.hid (show Clss w a3 c3 p.rcm from hp.rcm)
  have HP4 := Lib.hid (show Atms w a4 c4 p.con from hp.con)
  have HP5 := Lib.hid (show Atms w a5 c5 p.brk from hp.brk)
  have HP6 := Lib.hid (show Prvs w a6 c6 p.prv from hp.prv)
  have HF := Lib.hid hf
  clear hp hf
  rcases h : verS p.ver with _ | ⟨x, y, z⟩
  · have HV := Lib.hid (verV_none h)
    have HM := Lib.hid (mayE_ver (isV_none h))
    clear h
    go_enter Tryz.func97, Tryz.ntmps97
    go_wp2_with fail
    refine (parse_any _ _).mono ?_
    rintro e w1 ⟨rfl, hb1⟩
    rw [HV.out]
    have kP := (blk_new1 w 43 _).next hb1
    obtain ⟨e0, e1, e2, e3, e4, e5, e6, e7, e8⟩ := blk9 kP
    go_wp2_with fail
    refine (name_any _ hsn _).mono ?_
    rintro e w2 ⟨rfl, hb2⟩
    go_wp2
    all_goals go_ret
    all_goals exact ⟨by rw [HM.out]; rfl, by (repeat (first | assumption | exact Below.refl _ _ | refine below_next ?_ (by assumption) | refine below_drewN ?_ _ | refine below_alloc ?_ _))⟩
  · have HV := Lib.hid (verV_some h)
    have HI := Lib.hid (isV_some' h)
    clear h
    rcases hn : nameS p.name
    · have HN := Lib.hid hn
      have HM := Lib.hid (mayE_name hn)
      clear hn
      go_enter Tryz.func97, Tryz.ntmps97
      go_wp2_with fail
      refine (parse_any _ _).mono ?_
      rintro e w1 ⟨rfl, hb1⟩
      rw [HV.out]
      have kP := (blk_new1 w 43 _).next hb1
      obtain ⟨e0, e1, e2, e3, e4, e5, e6, e7, e8⟩ := blk9 kP
      go_wp2_with fail
      refine (name_any _ hsn _).mono ?_
      rintro e w2 ⟨rfl, hb2⟩
      rw [HN.out]
      go_wp2
      all_goals go_ret
      all_goals exact ⟨by rw [HM.out]; rfl, by (repeat (first | assumption | exact Below.refl _ _ | refine below_next ?_ (by assumption) | refine below_drewN ?_ _ | refine below_alloc ?_ _))⟩
    · have HN := Lib.hid hn
      have HM := Lib.hid (mayE_ok hn HI.out)
      clear hn
      go_enter Tryz.func97, Tryz.ntmps97
      go_wp2_with fail
      refine (parse_any _ _).mono ?_
      rintro e w1 ⟨rfl, hb1⟩
      rw [HV.out]
      have kP := (blk_new1 w 43 _).next hb1
      obtain ⟨e0, e1, e2, e3, e4, e5, e6, e7, e8⟩ := blk9 kP
      go_wp2_with fail
      refine (name_any _ hsn _).mono ?_
      rintro e w2 ⟨rfl, hb2⟩
      rw [HN.out]
      have kP2 := kP.next hb2
      obtain ⟨k0, k1, k2, k3, k4, k5, k6, k7, k8⟩ := blk9 kP2
      have HB2 := Lib.hid (show Below w.heap.size w w2 from by (repeat (first | assumption | exact Below.refl _ _ | refine below_next ?_ (by assumption) | refine below_drewN ?_ _ | refine below_alloc ?_ _)))
      clear e0 e1 e2 e3 e4 e5 e6 e7 e8 hb1 hb2 kP kP2 k0 k1 k8
      go_wp2_with fail
      go_region_held3 (fun w' => w'.cell? ⟨w.heap.size, 2, none⟩ = some (.slice a1 p.pre.length c1) ∧ w'.cell? ⟨w.heap.size, 3, none⟩ = some (.slice a2 p.dep.length c2) ∧ w'.cell? ⟨w.heap.size, 4, none⟩ = some (.slice a3 p.rcm.length c3) ∧ w'.cell? ⟨w.heap.size, 5, none⟩ = some (.slice a4 p.con.length c4) ∧ w'.cell? ⟨w.heap.size, 6, none⟩ = some (.slice a5 p.brk.length c5) ∧ w'.cell? ⟨w.heap.size, 7, none⟩ = some (.slice a6 p.prv.length c6) ∧ Hid (Below w2.heap.size w2 w')) (first | (have hHeld := (by assumption : _ ∧ _ ∧ _ ∧ _ ∧ _ ∧ _ ∧ Hid (Below w2.heap.size w2 _)); obtain ⟨q2, q3, q4, q5, q6, q7, qB⟩ := hHeld; exact ⟨Kept.of_below hb6 _ _ q2, Kept.of_below hb6 _ _ q3, Kept.of_below hb6 _ _ q4, Kept.of_below hb6 _ _ q5, Kept.of_below hb6 _ _ q6, Kept.of_below hb6 _ _ q7, below_next qB.out hb6⟩) | (have hHeld := (by assumption : _ ∧ _ ∧ _ ∧ _ ∧ _ ∧ _ ∧ Hid (Below w2.heap.size w2 _)); obtain ⟨q2, q3, q4, q5, q6, q7, qB⟩ := hHeld; exact ⟨Kept.of_below hb5 _ _ q2, Kept.of_below hb5 _ _ q3, Kept.of_below hb5 _ _ q4, Kept.of_below hb5 _ _ q5, Kept.of_below hb5 _ _ q6, Kept.of_below hb5 _ _ q7, below_next qB.out hb5⟩) | (have hHeld := (by assumption : _ ∧ _ ∧ _ ∧ _ ∧ _ ∧ _ ∧ Hid (Below w2.heap.size w2 _)); obtain ⟨q2, q3, q4, q5, q6, q7, qB⟩ := hHeld; exact ⟨Kept.of_below hb4 _ _ q2, Kept.of_below hb4 _ _ q3, Kept.of_below hb4 _ _ q4, Kept.of_below hb4 _ _ q5, Kept.of_below hb4 _ _ q6, Kept.of_below hb4 _ _ q7, below_next qB.out hb4⟩) | (have hHeld := (by assumption : _ ∧ _ ∧ _ ∧ _ ∧ _ ∧ _ ∧ Hid (Below w2.heap.size w2 _)); obtain ⟨q2, q3, q4, q5, q6, q7, qB⟩ := hHeld; exact ⟨Kept.alloc _ _ _ _ q2, Kept.alloc _ _ _ _ q3, Kept.alloc _ _ _ _ q4, Kept.alloc _ _ _ _ q5, Kept.alloc _ _ _ _ q6, Kept.alloc _ _ _ _ q7, below_alloc qB.out _⟩) | exact ⟨k2, k3, k4, k5, k6, k7, below_drewN (Below.refl _ _) 1⟩)
        (first | (go_at_call_of 141 (Value.slice a4 p.con.length c4); have hHeld := (by assumption : _ ∧ _ ∧ _ ∧ _ ∧ _ ∧ _ ∧ Hid (Below w2.heap.size w2 _)); refine (singles_any _ _ _ p.con rfl _ (HP4.out.kept ((Kept.of_below HB2.out).trans (Kept.of_below hHeld.2.2.2.2.2.2.out))) HF.out.1).mono ?_; rintro e w4 ⟨A4, C4, rfl, hc4, hb4⟩) | (go_at_call_of 141 (Value.slice a5 p.brk.length c5); have hHeld := (by assumption : _ ∧ _ ∧ _ ∧ _ ∧ _ ∧ _ ∧ Hid (Below w2.heap.size w2 _)); refine (singles_any _ _ _ p.brk rfl _ (HP5.out.kept ((Kept.of_below HB2.out).trans (Kept.of_below hHeld.2.2.2.2.2.2.out))) HF.out.2.1).mono ?_; rintro e w5 ⟨A5, C5, rfl, hc5, hb5⟩) | (go_at_call 142; have hHeld := (by assumption : _ ∧ _ ∧ _ ∧ _ ∧ _ ∧ _ ∧ Hid (Below w2.heap.size w2 _)); refine (provided_any _ _ p.prv _ (HP6.out.kept ((Kept.of_below HB2.out).trans (Kept.of_below hHeld.2.2.2.2.2.2.out))) HF.out.2.2).mono ?_; rintro e w6 ⟨A6, C6, rfl, hc6, hb6⟩))
      have hB6 : Below w.heap.size w w6 := below_next (below_next (below_next (below_drewN HB2.out 1) hb4) hb5) hb6
      have kL := blk_new1 w6 39 #[.slice a1 p.pre.length c1, .slice a2 p.dep.length c2, .slice a3 p.rcm.length c3, .slice A4 (singS p.con).length C4, .slice A5 (singS p.brk).length C5, .slice A6 (singS (prvS p.prv)).length C6]
      have K6 := (Kept.of_below hB6).trans (Kept.alloc w6 (.cells #[.slice a1 p.pre.length c1, .slice a2 p.dep.length c2, .slice a3 p.rcm.length c3, .slice A4 (singS p.con).length C4, .slice A5 (singS p.brk).length C5, .slice A6 (singS (prvS p.prv)).length C6] 39))
      have hS := six_slc kL (HP1.out.kept K6) (HP2.out.kept K6) (HP3.out.kept K6) (hc4.kept (((Kept.of_below hb5).trans (Kept.of_below hb6)).trans (Kept.alloc _ _))) (hc5.kept ((Kept.of_below hb6).trans (Kept.alloc _ _))) (hc6.kept (Kept.alloc _ _))
      have HB7 := Lib.hid (below_alloc hB6 (.cells #[.slice a1 p.pre.length c1, .slice a2 p.dep.length c2, .slice a3 p.rcm.length c3, .slice A4 (singS p.con).length C4, .slice A5 (singS p.brk).length C5, .slice A6 (singS (prvS p.prv)).length C6] 39))
      have hLn : (sixL p).length = 6 := rfl
      generalize sixL p = L at hS hLn HM
      have HL := Lib.hid hS
      have HLn := Lib.hid hLn
      clear hS hLn kL K6 hb4 hb5 hb6 hc4 hc5 hc6 hB6 k2 k3 k4 k5 k6 k7
      generalize w6.heap.size = gL at HL ⊢
      generalize World.alloc w6 _ = W at HL HB7 ⊢
      go_wp2
      go_loopw [43] (fun i wr => ∃ k : Nat, k ≤ 6 ∧ i = .int .i64 k ∧ Below w.heap.size w wr ∧ Kept W wr ∧ ∀ y ∈ L.take k, clsE y = 0) (fun i _ => 6 - (intOf i).toNat)
      case atStart => exact ⟨0, Nat.zero_le _, rfl, HB7.out, Kept.refl _, fun y hy => by simp at hy⟩
      case round =>
        obtain ⟨k, hk, rfl, hb, hkp, hn⟩ := hrel
        have HB := Lib.hid hb
        have HKp := Lib.hid hkp
        have HNn := Lib.hid hn
        clear hb hkp hn
        by_cases hlt : k < 6
        · obtain ⟨q, b, o, cs, hq, hA, ⟨A', c', hcs, hC⟩, _, hr⟩ := HL.out.at_ (by rw [HLn.out]; exact hlt)
          injection hA with hA
          injection hA with hA1 hA2
          subst hA1 hA2 hcs
          have g0 : wr.cell? ⟨gL, k, none⟩ = some (.slice A' q.length c') := by have := HKp.out _ _ (hr 0 _ rfl); simpa using this
          have HC := Lib.hid (hC.kept HKp.out)
          have HQ := Lib.hid hq
          have hi0 : (0 : Int) ≤ (k : Int) := Int.natCast_nonneg _
          have hi1 : (k : Int) < 6 := by omega
          have htn : ((k : Int)).toNat = k := Int.toNat_natCast _
          clear hr hC hq
          generalize hE : clsE q = E
          have HE := Lib.hid hE
          clear hE
          by_cases hE0 : E = 0
          · subst hE0
            go_wp2_with fail
            refine (mayCls_any _ _ _ q rfl _ HC.out).mono ?_
            rintro e w9 ⟨rfl, hb9⟩
            rw [HE.out]
            go_wp2
            go_roundw
            case rel => exact ⟨k + 1, by omega, by simp, below_next HB.out hb9, HKp.out.trans (Kept.of_below hb9), lst_step HNn.out HQ.out HE.out⟩
            case measure => (try simp only [intOf]); omega
          · have hEb : (E != 0) = true := by rw [bne_iff_ne]; exact hE0
            go_wp2_with fail
            refine (mayCls_any _ _ _ q rfl _ HC.out).mono ?_
            rintro e w9 ⟨rfl, hb9⟩
            rw [HE.out]
            go_wp2
            go_ret
            exact ⟨by rw [HM.out, lstE_at HNn.out HQ.out (by rw [HE.out]; exact hE0), HE.out]; rfl, below_next HB.out hb9⟩
        · go_wp2
          go_ret
          have hn := HNn.out
          rw [List.take_of_length_le (by rw [HLn.out]; omega)] at hn
          exact ⟨by rw [HM.out, lstE_end hn]; rfl, HB.out⟩
end Go.Proofs.YtaicidbopgnmfaaGreatDoor
namespace Go.Proofs.YtaicidbopgnmfaaGreatDoor
set_option linter.unusedSimpArgs false
set_option linter.unusedVariables false
open Go.RowKit

set_option maxRecDepth 100000 in
set_option maxHeartbeats 400000 in
theorem rmayCls_any (A : Option Addr) (c k0 : Nat) (l : List (List Atm)) (hk0 : l.length = k0) (w : World) (hl : Clss w A c l) :
    Calls Tryz.prog 94 #[.slice A k0 c] w fun e w' => e = .returned (.int .i64 (clsE l)) ∧ Below w.heap.size w w' := by
  subst hk0
  have hbd := hl.bd
  have HL := Lib.hid hl
  clear hl
  by_cases h12 : (12 : Int) < (l.length : Int)
  · go_enter Tryz.func94, Tryz.ntmps94
    go_wp2
    go_ret
    exact ⟨by rw [clsE_long (by omega)]; rfl, Below.refl _ _⟩
  · go_enter Tryz.func94, Tryz.ntmps94
    go_wp2
    go_loop [14] (fun i => ∃ k : Nat, k ≤ l.length ∧ i = .int .i64 k ∧ (l.take k).any longC = false) (fun i => l.length - (intOf i).toNat)
    case atStart => exact ⟨0, Nat.zero_le _, rfl, rfl⟩
    case round =>
      obtain ⟨k, hk, rfl, hn⟩ := hrel
      have HN := Lib.hid hn
      clear hn
      by_cases hlt : k < l.length
      · obtain ⟨q, b, o, A', c', hq, rfl, hA, e0⟩ := HL.out.at_ hlt (Kept.refl _)
        have HQ := Lib.hid hq
        clear hq hA
        by_cases h6 : (6 : Int) < (q.length : Int)
        · go_wp2
          go_ret
          exact ⟨by rw [clsE_many (any_yes HQ.out (by simp [longC]; omega))]; rfl, Below.refl _ _⟩
        · go_wp2
          go_round
          case rel => exact ⟨k + 1, by omega, by simp, any_step HQ.out (by simp [longC]; omega) HN.out⟩
          case measure => (try simp only [intOf]); omega
      · have HLG := Lib.hid (any_end hk hlt HN.out)
        clear HN
        go_wp2
        clear hlt
        go_loopw [24] (fun i wr => ∃ k : Nat, k ≤ l.length ∧ i = .int .i64 k ∧ Below w.heap.size w wr ∧ (l.take k).any badC = false) (fun i _ => l.length - (intOf i).toNat)
        case atStart => exact ⟨0, Nat.zero_le _, rfl, Below.refl _ _, rfl⟩
        case round =>
          clear hk
          obtain ⟨k, hk, rfl, hb, hn⟩ := hrel
          have HB := Lib.hid hb
          have HN := Lib.hid hn
          clear hb hn
          by_cases hlt : k < l.length
          · obtain ⟨q, b, o, A', c', hq, rfl, hA, e0⟩ := HL.out.at_ hlt (Kept.of_below HB.out)
            have HQ := Lib.hid hq
            have hbd2 := hA.bd
            have HA := Lib.hid hA
            clear hq hA
            by_cases h0 : q = []
            · have hbd0 : badC q = true := by simp [badC, h0]
              have HBD := Lib.hid hbd0
              clear hbd0
              subst h0
              go_wp2
              go_ret
              exact ⟨by rw [clsE_bad (by omega) HLG.out (any_yes HQ.out HBD.out)]; rfl, HB.out⟩
            · have hl0 : 0 < q.length := by rcases q with _ | ⟨_, _⟩ <;> simp at h0 ⊢
              have z1 : ((q.length : Int) == 0) = false := by rw [beq_eq_false_iff_ne]; omega
              go_wp2
              go_loopw [33] (fun i wr => ∃ j : Nat, j ≤ q.length ∧ i = .int .i64 j ∧ Below w.heap.size w wr ∧ (q.take j).any notA = false) (fun i _ => q.length - (intOf i).toNat)
              case atStart => exact ⟨0, Nat.zero_le _, rfl, HB.out, rfl⟩
              case round =>
                clear HB e0
                obtain ⟨j, hj, rfl, hb, hn⟩ := hrel
                have HB := Lib.hid hb
                have HN2 := Lib.hid hn
                clear hb hn
                by_cases hlt2 : j < q.length
                · obtain ⟨x, b', o', hx, rfl, hok, e0, e1, e2⟩ := HA.out.at_ hlt2 (Kept.of_below HB.out)
                  have HX := Lib.hid hx
                  clear hx
                  rcases hm : mayA x
                  · have HM := Lib.hid hm
                    clear hm
                    go_wp2_with fail
                    refine (rmayAtom_any x hok _).mono ?_
                    rintro e w1 ⟨rfl, hb1⟩
                    rw [HM.out]
                    go_wp2
                    go_ret
                    refine ⟨?_, by have hb0 := HB.out; (repeat (first | assumption | exact Below.refl _ _ | refine below_next ?_ (by assumption) | refine below_drewN ?_ _ | refine below_alloc ?_ _))⟩
                    rw [clsE_bad (by omega) HLG.out (any_yes HQ.out (by rw [badC_eq, any_yes (p := notA) HX.out (by simp [notA, HM.out])]; simp))]; rfl
                  · have HM := Lib.hid hm
                    clear hm
                    go_wp2_with fail
                    refine (rmayAtom_any x hok _).mono ?_
                    rintro e w1 ⟨rfl, hb1⟩
                    rw [HM.out]
                    go_wp2
                    go_roundw
                    case rel => exact ⟨j + 1, by omega, by simp, by have hb0 := HB.out; (repeat (first | assumption | exact Below.refl _ _ | refine below_next ?_ (by assumption) | refine below_drewN ?_ _ | refine below_alloc ?_ _)), any_step HX.out (by simp [notA, HM.out]) HN2.out⟩
                    case measure => (try simp only [intOf]); omega
                · go_wp2
                  go_roundw
                  case rel => exact ⟨k + 1, by omega, by simp, HB.out, any_step HQ.out (by rw [badC_eq, any_end hj hlt2 HN2.out]; simp; omega) HN.out⟩
                  case measure => (try simp only [intOf]); omega
          · go_wp2
            go_ret
            exact ⟨by rw [clsE_ok (by omega) HLG.out (any_end hk hlt HN.out)]; rfl, HB.out⟩
theorem cutN_cls {l : List Atm} : clsE (singS (l.take (cutN l.length))) = clsE (singS l) := clsE_cut (by unfold cutN; omega)
theorem cutN_len {α : Type} (l : List α) : (l.take (cutN l.length)).length = cutN l.length := by rw [List.length_take]; unfold cutN; omega
/-- the six lists, three of them cut -/
def sixC (p : Pkg) : List (List (List Atm)) := [p.pre, p.dep, p.rcm, singS (p.con.take (cutN p.con.length)), singS (p.brk.take (cutN p.brk.length)), singS (prvS (p.prv.take (cutN p.prv.length)))]
theorem sixC_eq (p : Pkg) : lstE (sixC p) = lstE (sixL p) := by
  have h3 : clsE (singS (prvS (p.prv.take (cutN p.prv.length)))) = clsE (singS (prvS p.prv)) := by
    rw [prv_take, ← prv_len p.prv]; exact cutN_cls
  simp only [sixC, sixL, lstE, cutN_cls, h3]
theorem Atms.take {w : World} {A : Option Addr} {c : Nat} {l : List Atm} (h : Atms w A c l) (n : Nat) : Atms w A c (l.take n) := by
  obtain ⟨h1, h2, h3, h4⟩ := h
  have hle : (l.take n).length ≤ l.length := by simp; omega
  refine ⟨by omega, h2, Nat.le_trans (Nat.mul_le_mul_right _ hle) h3, fun h0 => ?_⟩
  obtain ⟨b, o, hA, hx⟩ := h4 (by omega)
  refine ⟨b, o, hA, fun i x hi => hx i x ?_⟩
  rw [List.getElem?_take] at hi
  split at hi
  · exact hi
  · cases hi
theorem Prvs.take {w : World} {A : Option Addr} {c : Nat} {l : List Prv} (h : Prvs w A c l) (n : Nat) : Prvs w A c (l.take n) := by
  obtain ⟨h1, h2, h3, h4⟩ := h
  have hle : (l.take n).length ≤ l.length := by simp; omega
  refine ⟨by omega, h2, Nat.le_trans (Nat.mul_le_mul_right _ hle) h3, fun h0 => ?_⟩
  obtain ⟨b, o, hA, hx⟩ := h4 (by omega)
  refine ⟨b, o, hA, fun i x hi => hx i x ?_⟩
  rw [List.getElem?_take] at hi
  split at hi
  · exact hi
  · cases hi
theorem cutN_le (n : Nat) : cutN n ≤ 1000000 := by unfold cutN; omega
set_option maxRecDepth 100000 in
set_option maxHeartbeats 1000000 in
theorem rmay_any (p : Pkg) (r : Raw) (w : World) (hp : RP w r p) :
    Calls Tryz.prog 48 #[(.agg #[.string (bs (p).name), .string (bs (p).ver), .slice (r).a1 (p).pre.length (r).c1, .slice (r).a2 (p).dep.length (r).c2, .slice (r).a3 (p).rcm.length (r).c3, .slice (r).a4 (p).con.length (r).c4, .slice (r).a5 (p).brk.length (r).c5, .slice (r).a6 (p).prv.length (r).c6, .bool (p).ess])] w fun e w' => e = .returned (.int .i64 (mayE p)) ∧ Below w.heap.size w w' := by
  rcases r with ⟨a1, a2, a3, a4, a5, a6, c1, c2, c3, c4, c5, c6⟩
  dsimp only
  have hsn : p.name.length ≤ 140737488351232 := hp.1
  have HP1 := Lib.hid (show Clss w a1 c1 p.pre from hp.pre)
  have HP2 := Lib.hid (show Clss w a2 c2 p.dep from hp.dep)
  have HP3 := Lib.hid (show Clss w a3 c3 p.rcm from hp.rcm)
  have HP4 := Lib.hid (show Atms w a4 c4 p.con from hp.con)
  have HP5 := Lib.hid (show Atms w a5 c5 p.brk from hp.brk)
  have HP6 := Lib.hid (show Prvs w a6 c6 p.prv from hp.prv)
  clear hp
  rcases hn : nameS p.name
  · have HN := Lib.hid hn
    have HM := Lib.hid (mayE_name hn)
    clear hn
    go_enter Tryz.func48, Tryz.ntmps48
    go_wp2_with fail
    refine (rname_any _ hsn _).mono ?_
    rintro e w2 ⟨rfl, rfl⟩
    rw [HN.out]
    go_wp2
    all_goals go_ret
    all_goals exact ⟨by rw [HM.out]; rfl, by (repeat (first | assumption | exact Below.refl _ _ | refine below_next ?_ (by assumption) | refine below_drewN ?_ _ | refine below_alloc ?_ _))⟩
  · have HN := Lib.hid hn
    rcases hv : isV p.ver
    · have HV := Lib.hid hv
      have HM := Lib.hid (mayE_ver hv)
      clear hn hv
      go_enter Tryz.func48, Tryz.ntmps48
      go_wp2_with fail
      refine (rname_any _ hsn _).mono ?_
      rintro e w1 ⟨rfl, rfl⟩
      rw [HN.out]
      go_wp2_with fail
      refine (rIs_any _ _).mono ?_
      rintro e w2 ⟨rfl, hb2⟩
      rw [HV.out]
      go_wp2
      all_goals go_ret
      all_goals exact ⟨by rw [HM.out]; rfl, by (repeat (first | assumption | exact Below.refl _ _ | refine below_next ?_ (by assumption) | refine below_drewN ?_ _ | refine below_alloc ?_ _))⟩
    · have HV := Lib.hid hv
      have HM := Lib.hid ((mayE_ok hn hv).trans (sixC_eq p).symm)
      clear hn hv
      go_enter Tryz.func48, Tryz.ntmps48
      go_wp2_with fail
      refine (rname_any _ hsn _).mono ?_
      rintro e w1 ⟨rfl, rfl⟩
      rw [HN.out]
      go_wp2_with fail
      refine (rIs_any _ _).mono ?_
      rintro e w2 ⟨rfl, hb2⟩
      rw [HV.out]
      have kP2 := (blk_new1 w 43 _).next hb2
      obtain ⟨k0, k1, k2, k3, k4, k5, k6, k7, k8⟩ := blk9 kP2
      have HB2 := Lib.hid (show Below w.heap.size w w2 from by (repeat (first | assumption | exact Below.refl _ _ | refine below_next ?_ (by assumption) | refine below_drewN ?_ _ | refine below_alloc ?_ _)))
      clear hb2 kP2 k0 k1 k8
      go_wp2_with fail
      go_region_held3 (fun w' => w'.cell? ⟨w.heap.size, 2, none⟩ = some (.slice a1 p.pre.length c1) ∧ w'.cell? ⟨w.heap.size, 3, none⟩ = some (.slice a2 p.dep.length c2) ∧ w'.cell? ⟨w.heap.size, 4, none⟩ = some (.slice a3 p.rcm.length c3) ∧ w'.cell? ⟨w.heap.size, 5, none⟩ = some (.slice a4 p.con.length c4) ∧ w'.cell? ⟨w.heap.size, 6, none⟩ = some (.slice a5 p.brk.length c5) ∧ w'.cell? ⟨w.heap.size, 7, none⟩ = some (.slice a6 p.prv.length c6) ∧ Hid (Below w2.heap.size w2 w')) (first | assumption | (have hHeld := (by assumption : _ ∧ _ ∧ _ ∧ _ ∧ _ ∧ _ ∧ Hid (Below w2.heap.size w2 _)); obtain ⟨q2, q3, q4, q5, q6, q7, qB⟩ := hHeld; exact ⟨Kept.of_below hb7 _ _ q2, Kept.of_below hb7 _ _ q3, Kept.of_below hb7 _ _ q4, Kept.of_below hb7 _ _ q5, Kept.of_below hb7 _ _ q6, Kept.of_below hb7 _ _ q7, below_next qB.out hb7⟩) | (have hHeld := (by assumption : _ ∧ _ ∧ _ ∧ _ ∧ _ ∧ _ ∧ Hid (Below w2.heap.size w2 _)); obtain ⟨q2, q3, q4, q5, q6, q7, qB⟩ := hHeld; exact ⟨Kept.of_below hb6 _ _ q2, Kept.of_below hb6 _ _ q3, Kept.of_below hb6 _ _ q4, Kept.of_below hb6 _ _ q5, Kept.of_below hb6 _ _ q6, Kept.of_below hb6 _ _ q7, below_next qB.out hb6⟩) | (have hHeld := (by assumption : _ ∧ _ ∧ _ ∧ _ ∧ _ ∧ _ ∧ Hid (Below w2.heap.size w2 _)); obtain ⟨q2, q3, q4, q5, q6, q7, qB⟩ := hHeld; exact ⟨Kept.of_below hb5 _ _ q2, Kept.of_below hb5 _ _ q3, Kept.of_below hb5 _ _ q4, Kept.of_below hb5 _ _ q5, Kept.of_below hb5 _ _ q6, Kept.of_below hb5 _ _ q7, below_next qB.out hb5⟩) | (have hHeld := (by assumption : _ ∧ _ ∧ _ ∧ _ ∧ _ ∧ _ ∧ Hid (Below w2.heap.size w2 _)); obtain ⟨q2, q3, q4, q5, q6, q7, qB⟩ := hHeld; exact ⟨Kept.of_below hb4 _ _ q2, Kept.of_below hb4 _ _ q3, Kept.of_below hb4 _ _ q4, Kept.of_below hb4 _ _ q5, Kept.of_below hb4 _ _ q6, Kept.of_below hb4 _ _ q7, below_next qB.out hb4⟩) | exact ⟨k2, k3, k4, k5, k6, k7, below_drewN (Below.refl _ _) 1⟩) (first | (go_at_call_of 91 (Value.slice a4 p.con.length c4); have hHeld := (by assumption : _ ∧ _ ∧ _ ∧ _ ∧ _ ∧ _ ∧ Hid (Below w2.heap.size w2 _)); refine (cut_any' _ _ p.con _ (HP4.out.kept ((Kept.of_below HB2.out).trans (Kept.of_below hHeld.2.2.2.2.2.2.out)))).mono ?_; rintro e wx ⟨rfl, rfl⟩) | (go_at_call_of 90 (Value.slice a4 (cutN p.con.length) c4); have hHeld := (by assumption : _ ∧ _ ∧ _ ∧ _ ∧ _ ∧ _ ∧ Hid (Below w2.heap.size w2 _)); refine (rsingles_any _ _ _ (p.con.take (cutN p.con.length)) (cutN_len _) _ ((HP4.out.kept ((Kept.of_below HB2.out).trans (Kept.of_below hHeld.2.2.2.2.2.2.out))).take _) (by rw [cutN_len]; exact cutN_le _)).mono ?_; rintro e w4 ⟨A4, C4, rfl, hc4, hb4⟩) | (go_at_call_of 91 (Value.slice a5 p.brk.length c5); have hHeld := (by assumption : _ ∧ _ ∧ _ ∧ _ ∧ _ ∧ _ ∧ Hid (Below w2.heap.size w2 _)); refine (cut_any' _ _ p.brk _ (HP5.out.kept ((Kept.of_below HB2.out).trans (Kept.of_below hHeld.2.2.2.2.2.2.out)))).mono ?_; rintro e wx ⟨rfl, rfl⟩) | (go_at_call_of 90 (Value.slice a5 (cutN p.brk.length) c5); have hHeld := (by assumption : _ ∧ _ ∧ _ ∧ _ ∧ _ ∧ _ ∧ Hid (Below w2.heap.size w2 _)); refine (rsingles_any _ _ _ (p.brk.take (cutN p.brk.length)) (cutN_len _) _ ((HP5.out.kept ((Kept.of_below HB2.out).trans (Kept.of_below hHeld.2.2.2.2.2.2.out))).take _) (by rw [cutN_len]; exact cutN_le _)).mono ?_; rintro e w5 ⟨A5, C5, rfl, hc5, hb5⟩) | (go_at_call 93; have hHeld := (by assumption : _ ∧ _ ∧ _ ∧ _ ∧ _ ∧ _ ∧ Hid (Below w2.heap.size w2 _)); refine (cutp_any _ _ p.prv _ (HP6.out.kept ((Kept.of_below HB2.out).trans (Kept.of_below hHeld.2.2.2.2.2.2.out)))).mono ?_; rintro e wx ⟨rfl, rfl⟩) | (go_at_call 92; have hHeld := (by assumption : _ ∧ _ ∧ _ ∧ _ ∧ _ ∧ _ ∧ Hid (Below w2.heap.size w2 _)); refine (rprovided_any _ _ _ (p.prv.take (cutN p.prv.length)) (cutN_len _) _ ((HP6.out.kept ((Kept.of_below HB2.out).trans (Kept.of_below hHeld.2.2.2.2.2.2.out))).take _) (by rw [cutN_len]; exact cutN_le _)).mono ?_; rintro e w6 ⟨A6, C6, rfl, hc6, hb6⟩) | (go_at_call 90; refine (rsingles_any _ _ _ (prvS (p.prv.take (cutN p.prv.length))) rfl _ hc6 (by rw [prv_len, cutN_len]; exact cutN_le _)).mono ?_; rintro e w7 ⟨A7, C7, rfl, hc7, hb7⟩))
      have hB7 : Below w.heap.size w w7 := below_next (below_next (below_next (below_next (below_drewN HB2.out 1) hb4) hb5) hb6) hb7
      have K7 := Kept.of_below hB7
      have hS : ∀ k : Nat, k < 6 → ∃ (q : List (List Atm)) (A' : Option Addr) (c' : Nat), (sixC p)[k]? = some q ∧ Clss w7 A' c' q ∧ ∀ W, (Instr.index 113 (.agg #[.slice a1 p.pre.length c1, .slice a2 p.dep.length c2, .slice a3 p.rcm.length c3, .slice A4 (singS (p.con.take (cutN p.con.length))).length C4, .slice A5 (singS (p.brk.take (cutN p.brk.length))).length C5, .slice A7 (singS (prvS (p.prv.take (cutN p.prv.length)))).length C7]) (.int .i64 k)).run Tryz.prog W = .ok (.slice A' q.length c') W := by
        intro k hk
        obtain rfl | rfl | rfl | rfl | rfl | rfl : k = 0 ∨ k = 1 ∨ k = 2 ∨ k = 3 ∨ k = 4 ∨ k = 5 := by omega
        · exact ⟨_, a1, c1, rfl, HP1.out.kept K7, fun _ => by kernel_rfl⟩
        · exact ⟨_, a2, c2, rfl, HP2.out.kept K7, fun _ => by kernel_rfl⟩
        · exact ⟨_, a3, c3, rfl, HP3.out.kept K7, fun _ => by kernel_rfl⟩
        · exact ⟨_, A4, C4, rfl, hc4.kept (((Kept.of_below hb5).trans (Kept.of_below hb6)).trans (Kept.of_below hb7)), fun _ => by kernel_rfl⟩
        · exact ⟨_, A5, C5, rfl, hc5.kept ((Kept.of_below hb6).trans (Kept.of_below hb7)), fun _ => by kernel_rfl⟩
        · exact ⟨_, A7, C7, rfl, hc7, fun _ => by kernel_rfl⟩
      have HB7 := Lib.hid hB7
      have hLn : (sixC p).length = 6 := rfl
      generalize sixC p = L at hS hLn HM
      have HL := Lib.hid hS
      have HLn := Lib.hid hLn
      clear hS hLn K7 hb4 hb5 hb6 hb7 hc4 hc5 hc6 hc7 hB7 k2 k3 k4 k5 k6 k7
      generalize Value.agg _ = ag at HL ⊢
      go_wp2
      go_loopw [36] (fun i wr => ∃ k : Nat, k ≤ 6 ∧ i = .int .i64 k ∧ Below w.heap.size w wr ∧ Kept w7 wr ∧ ∀ y ∈ L.take k, clsE y = 0) (fun i _ => 6 - (intOf i).toNat)
      case atStart => exact ⟨0, Nat.zero_le _, rfl, HB7.out, Kept.refl _, fun y hy => by simp at hy⟩
      case round =>
        obtain ⟨k, hk, rfl, hb, hkp, hn⟩ := hrel
        have HB := Lib.hid hb
        have HKp := Lib.hid hkp
        have HNn := Lib.hid hn
        clear hb hkp hn
        by_cases hlt : k < 6
        · obtain ⟨q, A', c', hq, hC, hix⟩ := HL.out k hlt
          have HC := Lib.hid (hC.kept HKp.out)
          have HQ := Lib.hid hq
          have hi0 : (0 : Int) ≤ (k : Int) := Int.natCast_nonneg _
          have hi1 : (k : Int) < 6 := by omega
          clear hC hq
          generalize hE : clsE q = E
          have HE := Lib.hid hE
          clear hE
          by_cases hE0 : E = 0
          · subst hE0
            go_wp2_with fail
            refine (rmayCls_any _ _ _ q rfl _ HC.out).mono ?_
            rintro e w9 ⟨rfl, hb9⟩
            rw [HE.out]
            go_wp2
            go_roundw
            case rel => exact ⟨k + 1, by omega, by simp, below_next HB.out hb9, HKp.out.trans (Kept.of_below hb9), lst_step HNn.out HQ.out HE.out⟩
            case measure => (try simp only [intOf]); omega
          · have hEb : (E != 0) = true := by rw [bne_iff_ne]; exact hE0
            go_wp2_with fail
            refine (rmayCls_any _ _ _ q rfl _ HC.out).mono ?_
            rintro e w9 ⟨rfl, hb9⟩
            rw [HE.out]
            go_wp2
            go_ret
            exact ⟨by rw [HM.out, lstE_at HNn.out HQ.out (by rw [HE.out]; exact hE0), HE.out]; rfl, below_next HB.out hb9⟩
        · go_wp2
          go_ret
          have hn := HNn.out
          rw [List.take_of_length_le (by rw [HLn.out]; omega)] at hn
          exact ⟨by rw [HM.out, lstE_end hn]; rfl, HB.out⟩

/-- no name twice among entries -/
def rises (s : List Ent) : Prop := s.Pairwise fun x y => x.pkg.name ≠ y.pkg.name
def upB (l : List Ent) (n : Nat) : Prop := ∀ (j : Nat) x y, j + 1 < n → l[j]? = some x → l[j + 1]? = some y → x.pkg.name < y.pkg.name
theorem bl_lt : ∀ (x y : List UInt8), Op.bytesLess x y = true → x < y
  | _, [], h => by simp [Op.bytesLess] at h
  | [], b :: y, _ => by simp
  | a :: x, b :: y, h => by
    simp only [Op.bytesLess, Bool.or_eq_true, Bool.and_eq_true, beq_iff_eq, decide_eq_true_eq] at h
    rw [List.cons_lt_cons_iff]
    rcases h with h | ⟨h1, h2⟩
    · exact .inl h
    · exact .inr ⟨h1, bl_lt x y h2⟩
theorem up_all {l : List Ent} (h : upB l l.length) : ∀ (d j : Nat) x y, l[j]? = some x → l[j + 1 + d]? = some y → x.pkg.name < y.pkg.name
  | 0, j, x, y, hx, hy => h j x y (List.getElem?_eq_some_iff.1 hy).1 hx hy
  | d + 1, j, x, y, hx, hy => by
    have hl := (List.getElem?_eq_some_iff.1 hy).1
    have hz : l[j + 1 + d]? = some (l[j + 1 + d]'(by omega)) := List.getElem?_eq_getElem (by omega)
    exact List.lt_trans (up_all h d j x _ hx hz) (h (j + 1 + d) _ y (by omega) hz (by rw [← hy]; congr 1))
theorem up_rises {l : List Ent} (h : upB l l.length) : rises l := by
  unfold rises
  rw [List.pairwise_iff_getElem]
  intro i j hi hj hij he
  have h1 := up_all h (j - i - 1) i l[i] l[j] (List.getElem?_eq_getElem hi) (by rw [show i + 1 + (j - i - 1) = j by omega]; exact List.getElem?_eq_getElem hj)
  rw [he] at h1
  exact List.lt_irrefl _ h1
def EntsOk (l : List Ent) : Prop := (∀ x ∈ l, mayE x.pkg = 0) ∧ rises l
set_option maxRecDepth 100000 in
set_option maxHeartbeats 400000 in
theorem rmayEnts_any (A : Option Addr) (c : Nat) (l : List Ent) (w : World) (hl : Ents w A c l) :
    Calls Tryz.prog 21 #[.slice A l.length c] w fun e w' => ∃ n : Int, e = .returned (.int .i64 n) ∧ (n = 0 → EntsOk l) ∧ Below w.heap.size w w' := by
  have hbd := hl.bd
  have HL := Lib.hid hl
  clear hl
  by_cases h10 : (10 : Int) < (l.length : Int)
  · go_enter Tryz.func21, Tryz.ntmps21
    go_wp2
    go_ret
    exact ⟨12, rfl, by omega, Below.refl _ _⟩
  · go_enter Tryz.func21, Tryz.ntmps21
    go_wp2
    go_loopw [12] (fun i wr => ∃ k : Nat, k ≤ l.length ∧ i = .int .i64 k ∧ Below w.heap.size w wr ∧ (∀ x ∈ l.take k, mayE x.pkg = 0)) (fun i _ => l.length - (intOf i).toNat)
    case atStart => exact ⟨0, Nat.zero_le _, rfl, Below.refl _ _, fun x hx => by simp at hx⟩
    case round =>
      obtain ⟨k, hk, rfl, hb, hn⟩ := hrel
      have HB := Lib.hid hb
      have HN := Lib.hid hn
      clear hb hn
      by_cases hlt : k < l.length
      · obtain ⟨q, b, o, r, hq, rfl, hr, e0, e1, e2, e3, e4, e5, e6, e7, e8, e9, e10⟩ := HL.out.at_ hlt (Kept.of_below HB.out)
        have HQ := Lib.hid hq
        have HR := Lib.hid (fun ob : Obj => hr.kept ((Kept.of_below HB.out).trans (Kept.alloc _ ob)))
        clear hq hr
        generalize hE : mayE q.pkg = E
        have HE := Lib.hid hE
        clear hE
        by_cases hE0 : E = 0
        · subst hE0
          go_wp2_with fail
          refine (rmay_any q.pkg r _ (HR.out _)).mono ?_
          rintro e w1 ⟨rfl, hb1⟩
          rw [HE.out]
          clear e0 e1 e2 e3 e4 e5 e6 e7 e8 e9 e10
          go_wp2
          go_roundw
          case rel => exact ⟨k + 1, by omega, by simp, by have hb0 := HB.out; (repeat (first | assumption | exact Below.refl _ _ | refine below_next ?_ (by assumption) | refine below_drewN ?_ _ | refine below_alloc ?_ _)), fun x hx => by
            rw [take_step HQ.out, List.mem_append, List.mem_singleton] at hx
            rcases hx with hx | rfl
            · exact HN.out x hx
            · exact HE.out⟩
          case measure => (try simp only [intOf]); omega
        · have hEb : (E != 0) = true := by rw [bne_iff_ne]; exact hE0
          go_wp2_with fail
          refine (rmay_any q.pkg r _ (HR.out _)).mono ?_
          rintro e w1 ⟨rfl, hb1⟩
          rw [HE.out]
          clear e0 e1 e2 e3 e4 e5 e6 e7 e8 e9 e10
          go_wp2
          go_ret
          exact ⟨E, rfl, fun h => absurd h hE0, by have hb0 := HB.out; (repeat (first | assumption | exact Below.refl _ _ | refine below_next ?_ (by assumption) | refine below_drewN ?_ _ | refine below_alloc ?_ _))⟩
      · have HM := HN.out
        rw [take_end hk hlt] at HM
        have HMM := Lib.hid HM
        clear HM HN
        go_wp2
        clear hlt
        go_loopw [25] (fun i wr => ∃ k : Nat, k ≤ l.length ∧ i = .int .i64 k ∧ Below w.heap.size w wr ∧ upB l k) (fun i _ => l.length - (intOf i).toNat)
        case atStart => exact ⟨0, Nat.zero_le _, rfl, HB.out, fun j x y h => by omega⟩
        case round =>
          clear HB hk
          obtain ⟨k, hk, rfl, hb, hn⟩ := hrel
          have HB := Lib.hid hb
          have HN := Lib.hid hn
          clear hb hn
          by_cases hlt : k < l.length
          · rcases k with _ | k
            · go_wp2
              go_quiet (fail)
              go_wp2
              go_roundw
              case rel => exact ⟨1, by omega, by simp, by have hb0 := HB.out; (repeat (first | assumption | exact Below.refl _ _ | refine below_next ?_ (by assumption) | refine below_drewN ?_ _ | refine below_alloc ?_ _)), fun j x y h => by omega⟩
              case measure => (try simp only [intOf]); omega
            · obtain ⟨x, b, o, r, hx, hA, _, e0, _⟩ := HL.out.at_ (by omega : k < l.length) (Kept.of_below HB.out)
              obtain ⟨y, b', o', r', hy, hA', _, e1, _⟩ := HL.out.at_ hlt (Kept.of_below HB.out)
              subst hA
              injection hA' with hA'
              injection hA' with hA1 hA2
              subst hA1 hA2
              have HX := Lib.hid hx
              have HY := Lib.hid hy
              clear hx hy
              have hi0 : (0 : Int) ≤ (k : Int) := Int.natCast_nonneg _
              have hi1 : (k : Int) < (l.length : Int) := by omega
              have hi2 : (k : Int) + 1 < (l.length : Int) := by omega
              have hi3 : (0 : Int) < (k : Int) + 1 := by omega
              have hi4 : (0 : Int) ≤ (k : Int) + 1 := by omega
              have htn : ((k : Int)).toNat = k := Int.toNat_natCast _
              have htm : ((k : Int) + 1).toNat = k + 1 := by omega
              have hwr : IntKind.i64.wrap (k : Int) = (k : Int) := by rw [IntKind.wrap_i64]; omega
              rcases hbl : Op.bytesLess x.pkg.name y.pkg.name
              · go_wp2
                go_quiet (fail)
                go_wp2
                go_ret
                exact ⟨4, rfl, by omega, by have hb0 := HB.out; (repeat (first | assumption | exact Below.refl _ _ | refine below_next ?_ (by assumption) | refine below_drewN ?_ _ | refine below_alloc ?_ _))⟩
              · have HBL := Lib.hid (bl_lt _ _ hbl)
                go_wp2
                go_quiet (fail)
                go_wp2
                go_roundw
                case rel => exact ⟨k + 2, by omega, by simp; omega, by have hb0 := HB.out; (repeat (first | assumption | exact Below.refl _ _ | refine below_next ?_ (by assumption) | refine below_drewN ?_ _ | refine below_alloc ?_ _)), fun j x' y' h h1 h2 => by
                  rcases Nat.lt_or_ge (j + 1) (k + 1) with h3 | h3
                  · exact HN.out j x' y' h3 h1 h2
                  · obtain rfl : j = k := by omega
                    obtain rfl : x = x' := Option.some.inj (HX.out.symm.trans h1)
                    obtain rfl : y = y' := Option.some.inj (HY.out.symm.trans h2)
                    exact HBL.out⟩
                case measure => (try simp only [intOf]); omega
          · have hn := HN.out
            have hkl : k = l.length := by omega
            rw [hkl] at hn
            have HU := Lib.hid (up_rises hn)
            clear hn hkl
            go_wp2
            go_ret
            exact ⟨0, rfl, fun _ => ⟨HMM.out, HU.out⟩, HB.out⟩
end Go.Proofs.YtaicidbopgnmfaaGreatDoor
namespace Go.Proofs.YtaicidbopgnmfaaGreatDoor
set_option linter.unusedSimpArgs false
set_option linter.unusedVariables false
open Go.RowKit

/-- do the names rise? -/
def riseB : List Ent → Bool
  | x :: y :: l => Op.bytesLess x.pkg.name y.pkg.name && riseB (y :: l)
  | _ => true
def mayEntsE (l : List Ent) : Int := if 10 < l.length then 12 else if fstE (l.map Ent.pkg) ≠ 0 then fstE (l.map Ent.pkg) else if riseB l then 0 else 4
def risT (l : List Ent) (k : Nat) : Prop := ∀ (j : Nat) x y, j + 1 < k → l[j]? = some x → l[j + 1]? = some y → Op.bytesLess x.pkg.name y.pkg.name = true
theorem risT_all : ∀ {l : List Ent}, risT l l.length → riseB l = true
  | [], _ => rfl
  | [x], _ => rfl
  | x :: y :: l, h => by
    unfold riseB
    rw [h 0 x y (by simp) rfl rfl, Bool.true_and]
    exact risT_all fun j a b hj ha hb => h (j + 1) a b (by simpa using hj) (by simpa using ha) (by simpa using hb)
theorem risT_no : ∀ {l : List Ent} {j : Nat} {x y : Ent}, l[j]? = some x → l[j + 1]? = some y → Op.bytesLess x.pkg.name y.pkg.name = false → riseB l = false
  | [], j, x, y, h, _, _ => by simp at h
  | [a], j, x, y, _, h, _ => by simp at h
  | a :: b :: l, 0, x, y, h1, h2, h3 => by
    simp at h1 h2
    subst h1 h2
    simp [riseB, h3]
  | a :: b :: l, j + 1, x, y, h1, h2, h3 => by
    have := risT_no (l := b :: l) (j := j) (by simpa using h1) (by simpa using h2) h3
    simp [riseB, this]
theorem riseB_at : ∀ {l : List Ent} {j : Nat} {x y : Ent}, riseB l = true → l[j]? = some x → l[j + 1]? = some y → Op.bytesLess x.pkg.name y.pkg.name = true := by
  intro l j x y h h1 h2
  rcases h3 : Op.bytesLess x.pkg.name y.pkg.name
  · rw [risT_no h1 h2 h3] at h; cases h
  · rfl
theorem risT_step {l : List Ent} {k : Nat} {x y : Ent} (h : risT l (k + 1)) (hx : l[k]? = some x) (hy : l[k + 1]? = some y) (hbl : Op.bytesLess x.pkg.name y.pkg.name = true) : risT l (k + 2) := fun j x' y' h0 h1 h2 => by
  rcases Nat.lt_or_ge (j + 1) (k + 1) with h3 | h3
  · exact h j x' y' h3 h1 h2
  · obtain rfl : j = k := by omega
    obtain rfl : x = x' := Option.some.inj (hx.symm.trans h1)
    obtain rfl : y = y' := Option.some.inj (hy.symm.trans h2)
    exact hbl
theorem ents_many {l : List Ent} (h : 10 < l.length) : mayEntsE l = 12 := by simp [mayEntsE, h]
theorem ents_err {l : List Ent} {k : Nat} {q : Ent} (hl : ¬ 10 < l.length) (h : ∀ x ∈ l.take k, mayE x.pkg = 0) (hx : l[k]? = some q) (hq : mayE q.pkg ≠ 0) : mayEntsE l = mayE q.pkg := by
  have h1 : fstE (l.map Ent.pkg) = mayE q.pkg := fstE_at (k := k) (fun p hp => by
    rw [← List.map_take] at hp
    obtain ⟨x, hx, rfl⟩ := List.mem_map.1 hp
    exact h x hx) (by rw [List.getElem?_map, hx]; rfl) hq
  unfold mayEntsE
  rw [if_neg hl, h1, if_pos hq]
theorem ents_fst {l : List Ent} (h : ∀ x ∈ l, mayE x.pkg = 0) : fstE (l.map Ent.pkg) = 0 := fstE_end fun p hp => by
  obtain ⟨x, hx, rfl⟩ := List.mem_map.1 hp
  exact h x hx
theorem ents_two {l : List Ent} (hl : ¬ 10 < l.length) (h : ∀ x ∈ l, mayE x.pkg = 0) (hr : riseB l = false) : mayEntsE l = 4 := by
  unfold mayEntsE
  rw [if_neg hl, ents_fst h, hr]
  rfl
theorem ents_ok {l : List Ent} (hl : ¬ 10 < l.length) (h : ∀ x ∈ l, mayE x.pkg = 0) (hr : riseB l = true) : mayEntsE l = 0 := by
  unfold mayEntsE
  rw [if_neg hl, ents_fst h, hr]
  rfl
theorem ents_zero {l : List Ent} (h : mayEntsE l = 0) : l.length ≤ 10 ∧ (∀ x ∈ l, mayE x.pkg = 0) ∧ riseB l = true := by
  unfold mayEntsE at h
  by_cases h1 : 10 < l.length
  · rw [if_pos h1] at h; cases h
  · rw [if_neg h1] at h
    by_cases h2 : fstE (l.map Ent.pkg) = 0
    · rw [if_neg (by simpa using h2)] at h
      refine ⟨by omega, fun x hx => fstE_zero h2 _ (List.mem_map.2 ⟨x, hx, rfl⟩), ?_⟩
      rcases h3 : riseB l
      · rw [h3] at h; cases h
      · rfl
    · rw [if_pos h2] at h; exact absurd h h2
set_option maxRecDepth 100000 in
set_option maxHeartbeats 1000000 in
theorem rents_any (A : Option Addr) (c : Nat) (l : List Ent) (w : World) (hl : Ents w A c l) (hf : ∀ x ∈ l, fewR x.pkg) :
    Calls Tryz.prog 21 #[.slice A l.length c] w fun e w' => e = .returned (.int .i64 (mayEntsE l)) ∧ Below w.heap.size w w' := by
  have hbd := hl.bd
  have HL := Lib.hid hl
  have HF := Lib.hid hf
  clear hl hf
  by_cases h10 : (10 : Int) < (l.length : Int)
  · go_enter Tryz.func21, Tryz.ntmps21
    go_wp2
    go_ret
    exact ⟨by rw [ents_many (by omega)]; rfl, Below.refl _ _⟩
  · have H10 := Lib.hid (show ¬ 10 < l.length by omega)
    go_enter Tryz.func21, Tryz.ntmps21
    go_wp2
    go_loopw [12] (fun i wr => ∃ k : Nat, k ≤ l.length ∧ i = .int .i64 k ∧ Below w.heap.size w wr ∧ (∀ x ∈ l.take k, mayE x.pkg = 0)) (fun i _ => l.length - (intOf i).toNat)
    case atStart => exact ⟨0, Nat.zero_le _, rfl, Below.refl _ _, fun x hx => by simp at hx⟩
    case round =>
      obtain ⟨k, hk, rfl, hb, hn⟩ := hrel
      have HB := Lib.hid hb
      have HN := Lib.hid hn
      clear hb hn
      by_cases hlt : k < l.length
      · obtain ⟨q, b, o, r, hq, rfl, hr, e0, e1, e2, e3, e4, e5, e6, e7, e8, e9, e10⟩ := HL.out.at_ hlt (Kept.of_below HB.out)
        have HQ := Lib.hid hq
        have HFQ := Lib.hid (HF.out q (List.mem_of_getElem? hq))
        have HR := Lib.hid (fun ob : Obj => hr.kept ((Kept.of_below HB.out).trans (Kept.alloc _ ob)))
        clear hq hr
        generalize hE : mayE q.pkg = E
        have HE := Lib.hid hE
        clear hE
        by_cases hE0 : E = 0
        · subst hE0
          go_wp2_with fail
          refine (rmay_any q.pkg r _ (HR.out _)).mono ?_
          rintro e w1 ⟨rfl, hb1⟩
          rw [HE.out]
          clear e0 e1 e2 e3 e4 e5 e6 e7 e8 e9 e10
          go_wp2
          go_roundw
          case rel => exact ⟨k + 1, by omega, by simp, by have hb0 := HB.out; (repeat (first | assumption | exact Below.refl _ _ | refine below_next ?_ (by assumption) | refine below_drewN ?_ _ | refine below_alloc ?_ _)), fun x hx => by
            rw [take_step HQ.out, List.mem_append, List.mem_singleton] at hx
            rcases hx with hx | rfl
            · exact HN.out x hx
            · exact HE.out⟩
          case measure => (try simp only [intOf]); omega
        · have hEb : (E != 0) = true := by rw [bne_iff_ne]; exact hE0
          go_wp2_with fail
          refine (rmay_any q.pkg r _ (HR.out _)).mono ?_
          rintro e w1 ⟨rfl, hb1⟩
          rw [HE.out]
          clear e0 e1 e2 e3 e4 e5 e6 e7 e8 e9 e10
          go_wp2
          go_ret
          exact ⟨by rw [ents_err H10.out HN.out HQ.out (by rw [HE.out]; exact hE0), HE.out]; rfl, by have hb0 := HB.out; (repeat (first | assumption | exact Below.refl _ _ | refine below_next ?_ (by assumption) | refine below_drewN ?_ _ | refine below_alloc ?_ _))⟩
      · have HM := HN.out
        rw [take_end hk hlt] at HM
        have HMM := Lib.hid HM
        clear HM HN
        go_wp2
        clear hlt
        go_loopw [25] (fun i wr => ∃ k : Nat, k ≤ l.length ∧ i = .int .i64 k ∧ Below w.heap.size w wr ∧ risT l k) (fun i _ => l.length - (intOf i).toNat)
        case atStart => exact ⟨0, Nat.zero_le _, rfl, HB.out, fun j x y h => by omega⟩
        case round =>
          clear HB hk
          obtain ⟨k, hk, rfl, hb, hn⟩ := hrel
          have HB := Lib.hid hb
          have HN := Lib.hid hn
          clear hb hn
          by_cases hlt : k < l.length
          · rcases k with _ | k
            · go_wp2
              go_quiet (fail)
              go_wp2
              go_roundw
              case rel => exact ⟨1, by omega, by simp, by have hb0 := HB.out; (repeat (first | assumption | exact Below.refl _ _ | refine below_next ?_ (by assumption) | refine below_drewN ?_ _ | refine below_alloc ?_ _)), fun j x y h => by omega⟩
              case measure => (try simp only [intOf]); omega
            · obtain ⟨x, b, o, r, hx, hA, _, e0, _⟩ := HL.out.at_ (by omega : k < l.length) (Kept.of_below HB.out)
              obtain ⟨y, b', o', r', hy, hA', _, e1, _⟩ := HL.out.at_ hlt (Kept.of_below HB.out)
              subst hA
              injection hA' with hA'
              injection hA' with hA1 hA2
              subst hA1 hA2
              have HX := Lib.hid hx
              have HY := Lib.hid hy
              clear hx hy
              have hi0 : (0 : Int) ≤ (k : Int) := Int.natCast_nonneg _
              have hi1 : (k : Int) < (l.length : Int) := by omega
              have hi2 : (k : Int) + 1 < (l.length : Int) := by omega
              have hi3 : (0 : Int) < (k : Int) + 1 := by omega
              have hi4 : (0 : Int) ≤ (k : Int) + 1 := by omega
              have htn : ((k : Int)).toNat = k := Int.toNat_natCast _
              have htm : ((k : Int) + 1).toNat = k + 1 := by omega
              have hwr : IntKind.i64.wrap (k : Int) = (k : Int) := by rw [IntKind.wrap_i64]; omega
              rcases hbl : Op.bytesLess x.pkg.name y.pkg.name
              · go_wp2
                go_quiet (fail)
                go_wp2
                go_ret
                exact ⟨by rw [ents_two H10.out HMM.out (risT_no HX.out HY.out hbl)]; rfl, by have hb0 := HB.out; (repeat (first | assumption | exact Below.refl _ _ | refine below_next ?_ (by assumption) | refine below_drewN ?_ _ | refine below_alloc ?_ _))⟩
              · have HBL := Lib.hid hbl
                go_wp2
                go_quiet (fail)
                go_wp2
                go_roundw
                case rel => exact ⟨k + 2, by omega, by simp; omega, by have hb0 := HB.out; (repeat (first | assumption | exact Below.refl _ _ | refine below_next ?_ (by assumption) | refine below_drewN ?_ _ | refine below_alloc ?_ _)), risT_step HN.out HX.out HY.out HBL.out⟩
                case measure => (try simp only [intOf]); omega
          · have hn := HN.out
            have hkl : k = l.length := by omega
            rw [hkl] at hn
            have HU := Lib.hid (ents_ok H10.out HMM.out (risT_all hn))
            clear hn hkl
            go_wp2
            go_ret
            exact ⟨by rw [HU.out]; rfl, HB.out⟩
set_option maxRecDepth 100000 in
set_option maxHeartbeats 1000000 in
theorem ents_any (A : Option Addr) (c : Nat) (l : List Ent) (w : World) (hl : Ents w A c l) (hf : ∀ x ∈ l, fewR x.pkg) :
    Calls Tryz.prog 54 #[.slice A l.length c] w fun e w' => e = .returned (.int .i64 (mayEntsE l)) ∧ Below w.heap.size w w' := by
  have hbd := hl.bd
  have HL := Lib.hid hl
  have HF := Lib.hid hf
  clear hl hf
  by_cases h10 : (10 : Int) < (l.length : Int)
  · go_enter Tryz.func54, Tryz.ntmps54
    go_wp2
    go_ret
    exact ⟨by rw [ents_many (by omega)]; rfl, Below.refl _ _⟩
  · have H10 := Lib.hid (show ¬ 10 < l.length by omega)
    go_enter Tryz.func54, Tryz.ntmps54
    go_wp2
    go_loopw [12] (fun i wr => ∃ k : Nat, k ≤ l.length ∧ i = .int .i64 k ∧ Below w.heap.size w wr ∧ (∀ x ∈ l.take k, mayE x.pkg = 0)) (fun i _ => l.length - (intOf i).toNat)
    case atStart => exact ⟨0, Nat.zero_le _, rfl, Below.refl _ _, fun x hx => by simp at hx⟩
    case round =>
      obtain ⟨k, hk, rfl, hb, hn⟩ := hrel
      have HB := Lib.hid hb
      have HN := Lib.hid hn
      clear hb hn
      by_cases hlt : k < l.length
      · obtain ⟨q, b, o, r, hq, rfl, hr, e0, e1, e2, e3, e4, e5, e6, e7, e8, e9, e10⟩ := HL.out.at_ hlt (Kept.of_below HB.out)
        have HQ := Lib.hid hq
        have HFQ := Lib.hid (HF.out q (List.mem_of_getElem? hq))
        have HR := Lib.hid (fun ob : Obj => hr.kept ((Kept.of_below HB.out).trans (Kept.alloc _ ob)))
        clear hq hr
        generalize hE : mayE q.pkg = E
        have HE := Lib.hid hE
        clear hE
        by_cases hE0 : E = 0
        · subst hE0
          go_wp2_with fail
          refine (may_any q.pkg r _ (HR.out _) HFQ.out).mono ?_
          rintro e w1 ⟨rfl, hb1⟩
          rw [HE.out]
          clear e0 e1 e2 e3 e4 e5 e6 e7 e8 e9 e10
          go_wp2
          go_roundw
          case rel => exact ⟨k + 1, by omega, by simp, by have hb0 := HB.out; (repeat (first | assumption | exact Below.refl _ _ | refine below_next ?_ (by assumption) | refine below_drewN ?_ _ | refine below_alloc ?_ _)), fun x hx => by
            rw [take_step HQ.out, List.mem_append, List.mem_singleton] at hx
            rcases hx with hx | rfl
            · exact HN.out x hx
            · exact HE.out⟩
          case measure => (try simp only [intOf]); omega
        · have hEb : (E != 0) = true := by rw [bne_iff_ne]; exact hE0
          go_wp2_with fail
          refine (may_any q.pkg r _ (HR.out _) HFQ.out).mono ?_
          rintro e w1 ⟨rfl, hb1⟩
          rw [HE.out]
          clear e0 e1 e2 e3 e4 e5 e6 e7 e8 e9 e10
          go_wp2
          go_ret
          exact ⟨by rw [ents_err H10.out HN.out HQ.out (by rw [HE.out]; exact hE0), HE.out]; rfl, by have hb0 := HB.out; (repeat (first | assumption | exact Below.refl _ _ | refine below_next ?_ (by assumption) | refine below_drewN ?_ _ | refine below_alloc ?_ _))⟩
      · have HM := HN.out
        rw [take_end hk hlt] at HM
        have HMM := Lib.hid HM
        clear HM HN
        go_wp2
        clear hlt
        go_loopw [6] (fun i wr => ∃ k : Nat, (k + 1 ≤ l.length ∨ k = 0) ∧ i = .int .i64 ((k : Int) + 1) ∧ Below w.heap.size w wr ∧ risT l (k + 1)) (fun i _ => l.length + 1 - (intOf i).toNat)
        case atStart => exact ⟨0, .inr rfl, rfl, HB.out, fun j x y h => by omega⟩
        case round =>
          clear HB hk
          obtain ⟨k, hk, rfl, hb, hn⟩ := hrel
          have HB := Lib.hid hb
          have HN := Lib.hid hn
          clear hb hn
          by_cases hlt : k + 1 < l.length
          · obtain ⟨x, b, o, r, hx, hA, _, e0, _⟩ := HL.out.at_ (by omega : k < l.length) (Kept.of_below HB.out)
            obtain ⟨y, b', o', r', hy, hA', _, e1, _⟩ := HL.out.at_ hlt (Kept.of_below HB.out)
            subst hA
            injection hA' with hA'
            injection hA' with hA1 hA2
            subst hA1 hA2
            have HX := Lib.hid hx
            have HY := Lib.hid hy
            clear hx hy
            have hi0 : (0 : Int) ≤ (k : Int) := Int.natCast_nonneg _
            have hi1 : (k : Int) < (l.length : Int) := by omega
            have hi2 : (k : Int) + 1 < (l.length : Int) := by omega
            have hi3 : (0 : Int) < (k : Int) + 1 := by omega
            have hi4 : (0 : Int) ≤ (k : Int) + 1 := by omega
            have htn : ((k : Int)).toNat = k := Int.toNat_natCast _
            have htm : ((k : Int) + 1).toNat = k + 1 := by omega
            have hwr : IntKind.i64.wrap (k : Int) = (k : Int) := by rw [IntKind.wrap_i64]; omega
            rcases hbl : Op.bytesLess x.pkg.name y.pkg.name
            · go_wp2
              go_quiet (fail)
              go_wp2
              go_ret
              exact ⟨by rw [ents_two H10.out HMM.out (risT_no HX.out HY.out hbl)]; rfl, by have hb0 := HB.out; (repeat (first | assumption | exact Below.refl _ _ | refine below_next ?_ (by assumption) | refine below_drewN ?_ _ | refine below_alloc ?_ _))⟩
            · have HBL := Lib.hid hbl
              go_wp2
              go_quiet (fail)
              go_wp2
              go_roundw
              case rel => exact ⟨k + 1, by omega, by simp, by have hb0 := HB.out; (repeat (first | assumption | exact Below.refl _ _ | refine below_next ?_ (by assumption) | refine below_drewN ?_ _ | refine below_alloc ?_ _)), risT_step HN.out HX.out HY.out HBL.out⟩
              case measure => (try simp only [intOf]); omega
          · have hi2 : ¬ (k : Int) + 1 < (l.length : Int) := by omega
            have hn : risT l l.length := fun j x y h => HN.out j x y (by omega)
            have HU := Lib.hid (ents_ok H10.out HMM.out (risT_all hn))
            clear hn
            go_wp2
            go_ret
            exact ⟨by rw [HU.out]; rfl, HB.out⟩
end Go.Proofs.YtaicidbopgnmfaaGreatDoor
namespace Go.Proofs.YtaicidbopgnmfaaGreatDoor
set_option linter.unusedSimpArgs false
set_option linter.unusedVariables false
open Go.RowKit
/-- so few that all that is wrong fits -/
def fewE (l : List Ent) : Prop := l.length ≤ 1000 ∧ ∀ x ∈ l, x.pkg.pre.length + x.pkg.dep.length ≤ 1000000 ∧ x.pkg.con.length + x.pkg.brk.length ≤ 1000000
def fewOE (p : Pkg) : Prop := (p.pre.length ≤ 1000000 ∧ ∀ x ∈ p.pre, x.length ≤ 1000000) ∧ (p.dep.length ≤ 1000000 ∧ ∀ x ∈ p.dep, x.length ≤ 1000000) ∧ (p.rcm.length ≤ 1000000 ∧ ∀ x ∈ p.rcm, x.length ≤ 1000000) ∧ p.con.length ≤ 1000000 ∧ p.brk.length ≤ 1000000 ∧ p.prv.length ≤ 1000000
def fewD (p : Pkg) : Prop := fewOE p ∧ p.pre.length + p.dep.length ≤ 1000000 ∧ p.con.length + p.brk.length ≤ 1000000
theorem fewD.r {p : Pkg} (h : fewD p) : fewR p := ⟨h.1.2.2.2.1, h.1.2.2.2.2.1, h.1.2.2.2.2.2⟩
theorem fewD.e {l : List Ent} (hl : l.length ≤ 1000) (h : ∀ x ∈ l, fewD x.pkg) : fewE l := ⟨hl, fun x hx => ⟨(h x hx).2.1, (h x hx).2.2⟩⟩
end Go.Proofs.YtaicidbopgnmfaaGreatDoor
