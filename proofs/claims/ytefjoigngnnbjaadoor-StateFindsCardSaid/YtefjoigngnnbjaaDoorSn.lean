/- The contracts of the reference's SameAtoms, SameProvides, SameClauses. The contract of the reference's Same (packages). The contract of record.Same (packages). -/
import Derived.Test.YtefjoigngnnbjaaDoorMk
import Derived.Test.YtefjoigngnnbjaaDoorVerA
import Derived.Laws.StructEq
namespace Go.Proofs.YtefjoigngnnbjaaDoor
set_option linter.unusedSimpArgs false
set_option linter.unusedVariables false
open Go.RowKit

theorem take_ext {α : Type} {l m : List α} {k : Nat} {x : α} (hx : l[k]? = some x) (hy : m[k]? = some x) (h : l.take k = m.take k) : l.take (k + 1) = m.take (k + 1) := by
  rw [take_step hx, take_step hy, h]
theorem atm_neq (x y : Atm) (w : World) : (binOp .neq 64 (.agg #[.string (bs (x).name), .int .i64 (x).rel, .string (bs (x).ver)]) (.agg #[.string (bs (y).name), .int .i64 (y).rel, .string (bs (y).ver)])).run Tryd.prog w = .ok (.bool (!decide (x = y))) w := by
  have u3 := Tryd.underlying3
  have u9 := Tryd.underlying9
  have a3 := Tryd.isAgg3
  have z3 := Tryd.sizeOf3
  have a9 := Tryd.isAgg9
  have z9 := Tryd.sizeOf9
  have hS : Tryd.prog.underlying 64 = some (.struct (Tryd.prog.fieldsOf 64)) := by kernel_rfl
  have hp : Tryd.prog.stoodInHeld 64 = false := by kernel_rfl
  rw [run_neq_struct, show (10000 : Nat) = 9999 + 1 from rfl, run_equalIn_agg w 9999 64 _ _ hS hp]
  simp only [Program.fieldsOf, Tryd.underlying64]
  go_simp
  obtain ⟨a, b, c⟩ := x
  obtain ⟨a', b', c'⟩ := y
  by_cases h1 : a = a' <;> by_cases h2 : b = b' <;> by_cases h3 : c = c' <;> simp [h1, h2, h3]
theorem prv_neq (x y : Prv) (w : World) : (binOp .neq 79 (.agg #[.string (bs (x).name), .string (bs (x).ver)]) (.agg #[.string (bs (y).name), .string (bs (y).ver)])).run Tryd.prog w = .ok (.bool (!decide (x = y))) w := by
  have u9 := Tryd.underlying9
  have a9 := Tryd.isAgg9
  have z9 := Tryd.sizeOf9
  have hS : Tryd.prog.underlying 79 = some (.struct (Tryd.prog.fieldsOf 79)) := by kernel_rfl
  have hp : Tryd.prog.stoodInHeld 79 = false := by kernel_rfl
  rw [run_neq_struct, show (10000 : Nat) = 9999 + 1 from rfl, run_equalIn_agg w 9999 79 _ _ hS hp]
  simp only [Program.fieldsOf, Tryd.underlying79]
  go_simp
  obtain ⟨a, b⟩ := x
  obtain ⟨a', b'⟩ := y
  by_cases h1 : a = a' <;> by_cases h2 : b = b' <;> simp [h1, h2]
set_option maxRecDepth 100000 in
set_option maxHeartbeats 400000 in
theorem sameAtoms_any (A B : Option Addr) (c d : Nat) (l m : List (Atm)) (w : World) (hl : Atms w A c l) (hm : Atms w B d m) :
    Calls Tryd.prog 56 #[.slice A l.length c, .slice B m.length d] w fun e w' => e = .returned (.bool (decide (l = m))) ∧ Below w.heap.size w w' := by
  have hbd := hl.bd
  have hbd2 := hm.bd
  have HL := Lib.hid hl
  have HM := Lib.hid hm
  clear hl hm
  by_cases hlen : l.length = m.length
  · have hlb : ((l.length : Int) != (m.length : Int)) = false := by simp [hlen]
    have hl1 : l.length ≤ m.length := by omega
    have hl2 : m.length ≤ l.length := by omega
    clear hlen
    go_enter Tryd.func56, Tryd.ntmps56
    go_wp2
    go_loopw [13] (fun i wr => ∃ k : Nat, k ≤ l.length ∧ i = .int .i64 k ∧ Below w.heap.size w wr ∧ l.take k = m.take k) (fun i _ => l.length - (intOf i).toNat)
    case atStart => exact ⟨0, Nat.zero_le _, rfl, Below.refl _ _, rfl⟩
    case round =>
      obtain ⟨k, hk, rfl, hb, hn⟩ := hrel
      obtain ⟨wo, rfl⟩ : ∃ wo : World, wo = wr := ⟨_, rfl⟩
      have HB := Lib.hid hb
      have HN := Lib.hid hn
      clear hb hn
      by_cases hlt : k < l.length
      · obtain ⟨x, b, o, hx, rfl, _, e0, e1, e2⟩ := HL.out.at_ hlt (Kept.of_below HB.out)
        obtain ⟨y, b', o', hy, rfl, _, f0, f1, f2⟩ := HM.out.at_ (by omega : k < m.length) (Kept.of_below HB.out)
        have HX := Lib.hid hx
        have HY := Lib.hid hy
        clear hx hy
        have hi0 : (0 : Int) ≤ (k : Int) := Int.natCast_nonneg _
        have hi1 : (k : Int) < (l.length : Int) := by omega
        have hi2 : (k : Int) < (m.length : Int) := by omega
        have hneq := fun W => atm_neq x y W
        go_wp2
        go_quiet (fail)
        go_wp2
        · have hne : x ≠ y := by simpa using (by assumption : (!decide (x = y)) = true)
          go_ret
          have hf : decide (l = m) = false := by
            rw [decide_eq_false_iff_not]
            intro h
            have h1 := HX.out
            rw [h, HY.out] at h1
            exact hne (Option.some.inj h1).symm
          exact ⟨by rw [hf]; rfl, by have hb0 := HB.out; (repeat (first | assumption | exact Below.refl _ _ | refine below_next ?_ (by assumption) | refine below_drewN ?_ _ | refine below_alloc ?_ _))⟩
        · have heq : x = y := by simpa using (by assumption : (!decide (x = y)) = false)
          subst heq
          go_roundw
          case rel => exact ⟨k + 1, by omega, by simp, by have hb0 := HB.out; (repeat (first | assumption | exact Below.refl _ _ | refine below_next ?_ (by assumption) | refine below_drewN ?_ _ | refine below_alloc ?_ _)), take_ext HX.out HY.out HN.out⟩
          case measure => (try simp only [intOf]); omega
      · go_wp2
        go_ret
        have hn := HN.out
        rw [List.take_of_length_le (by omega), List.take_of_length_le (by omega)] at hn
        exact ⟨by simp [hn], HB.out⟩
  · have hlb : ((l.length : Int) != (m.length : Int)) = true := by rw [bne_iff_ne]; omega
    go_enter Tryd.func56, Tryd.ntmps56
    go_wp2
    go_ret
    have hf : decide (l = m) = false := by
      rw [decide_eq_false_iff_not]
      intro h
      exact hlen (by rw [h])
    exact ⟨by rw [hf]; rfl, Below.refl _ _⟩
set_option maxRecDepth 100000 in
set_option maxHeartbeats 400000 in
theorem samePrvs_any (A B : Option Addr) (c d : Nat) (l m : List (Prv)) (w : World) (hl : Prvs w A c l) (hm : Prvs w B d m) :
    Calls Tryd.prog 57 #[.slice A l.length c, .slice B m.length d] w fun e w' => e = .returned (.bool (decide (l = m))) ∧ Below w.heap.size w w' := by
  have hbd := hl.bd
  have hbd2 := hm.bd
  have HL := Lib.hid hl
  have HM := Lib.hid hm
  clear hl hm
  by_cases hlen : l.length = m.length
  · have hlb : ((l.length : Int) != (m.length : Int)) = false := by simp [hlen]
    have hl1 : l.length ≤ m.length := by omega
    have hl2 : m.length ≤ l.length := by omega
    clear hlen
    go_enter Tryd.func57, Tryd.ntmps57
    go_wp2
    go_loopw [13] (fun i wr => ∃ k : Nat, k ≤ l.length ∧ i = .int .i64 k ∧ Below w.heap.size w wr ∧ l.take k = m.take k) (fun i _ => l.length - (intOf i).toNat)
    case atStart => exact ⟨0, Nat.zero_le _, rfl, Below.refl _ _, rfl⟩
    case round =>
      obtain ⟨k, hk, rfl, hb, hn⟩ := hrel
      obtain ⟨wo, rfl⟩ : ∃ wo : World, wo = wr := ⟨_, rfl⟩
      have HB := Lib.hid hb
      have HN := Lib.hid hn
      clear hb hn
      by_cases hlt : k < l.length
      · obtain ⟨x, b, o, hx, rfl, _, e0, e1⟩ := HL.out.at_ hlt (Kept.of_below HB.out)
        obtain ⟨y, b', o', hy, rfl, _, f0, f1⟩ := HM.out.at_ (by omega : k < m.length) (Kept.of_below HB.out)
        have HX := Lib.hid hx
        have HY := Lib.hid hy
        clear hx hy
        have hi0 : (0 : Int) ≤ (k : Int) := Int.natCast_nonneg _
        have hi1 : (k : Int) < (l.length : Int) := by omega
        have hi2 : (k : Int) < (m.length : Int) := by omega
        have hneq := fun W => prv_neq x y W
        go_wp2
        go_quiet (fail)
        go_wp2
        · have hne : x ≠ y := by simpa using (by assumption : (!decide (x = y)) = true)
          go_ret
          have hf : decide (l = m) = false := by
            rw [decide_eq_false_iff_not]
            intro h
            have h1 := HX.out
            rw [h, HY.out] at h1
            exact hne (Option.some.inj h1).symm
          exact ⟨by rw [hf]; rfl, by have hb0 := HB.out; (repeat (first | assumption | exact Below.refl _ _ | refine below_next ?_ (by assumption) | refine below_drewN ?_ _ | refine below_alloc ?_ _))⟩
        · have heq : x = y := by simpa using (by assumption : (!decide (x = y)) = false)
          subst heq
          go_roundw
          case rel => exact ⟨k + 1, by omega, by simp, by have hb0 := HB.out; (repeat (first | assumption | exact Below.refl _ _ | refine below_next ?_ (by assumption) | refine below_drewN ?_ _ | refine below_alloc ?_ _)), take_ext HX.out HY.out HN.out⟩
          case measure => (try simp only [intOf]); omega
      · go_wp2
        go_ret
        have hn := HN.out
        rw [List.take_of_length_le (by omega), List.take_of_length_le (by omega)] at hn
        exact ⟨by simp [hn], HB.out⟩
  · have hlb : ((l.length : Int) != (m.length : Int)) = true := by rw [bne_iff_ne]; omega
    go_enter Tryd.func57, Tryd.ntmps57
    go_wp2
    go_ret
    have hf : decide (l = m) = false := by
      rw [decide_eq_false_iff_not]
      intro h
      exact hlen (by rw [h])
    exact ⟨by rw [hf]; rfl, Below.refl _ _⟩
set_option maxRecDepth 100000 in
set_option maxHeartbeats 400000 in
theorem sameCls_any (A B : Option Addr) (c d : Nat) (l m : List (List Atm)) (w : World) (hl : Clss w A c l) (hm : Clss w B d m) :
    Calls Tryd.prog 55 #[.slice A l.length c, .slice B m.length d] w fun e w' => e = .returned (.bool (decide (l = m))) ∧ Below w.heap.size w w' := by
  have hbd := hl.bd
  have hbd2 := hm.bd
  have HL := Lib.hid hl
  have HM := Lib.hid hm
  clear hl hm
  by_cases hlen : l.length = m.length
  · have hlb : ((l.length : Int) != (m.length : Int)) = false := by simp [hlen]
    have hl1 : l.length ≤ m.length := by omega
    have hl2 : m.length ≤ l.length := by omega
    clear hlen
    go_enter Tryd.func55, Tryd.ntmps55
    go_wp2
    go_loopw [13] (fun i wr => ∃ k : Nat, k ≤ l.length ∧ i = .int .i64 k ∧ Below w.heap.size w wr ∧ l.take k = m.take k) (fun i _ => l.length - (intOf i).toNat)
    case atStart => exact ⟨0, Nat.zero_le _, rfl, Below.refl _ _, rfl⟩
    case round =>
      obtain ⟨k, hk, rfl, hb, hn⟩ := hrel
      obtain ⟨wo, rfl⟩ : ∃ wo : World, wo = wr := ⟨_, rfl⟩
      have HB := Lib.hid hb
      have HN := Lib.hid hn
      clear hb hn
      by_cases hlt : k < l.length
      · obtain ⟨x, b, o, A1, c1, hx, rfl, ha1, e0⟩ := HL.out.at_ hlt (Kept.of_below HB.out)
        obtain ⟨y, b', o', A2, c2, hy, rfl, ha2, f0⟩ := HM.out.at_ (by omega : k < m.length) (Kept.of_below HB.out)
        have HX := Lib.hid hx
        have HY := Lib.hid hy
        clear hx hy
        have hi0 : (0 : Int) ≤ (k : Int) := Int.natCast_nonneg _
        have hi1 : (k : Int) < (l.length : Int) := by omega
        have hi2 : (k : Int) < (m.length : Int) := by omega
        have HA1 := Lib.hid (ha1.kept (Kept.of_below HB.out))
        have HA2 := Lib.hid (ha2.kept (Kept.of_below HB.out))
        clear ha1 ha2
        have p0 := fun p : Be wo => Be.cell e0 p
        have p1 := fun p : Be wo => Be.cell f0 p
        clear e0 f0
        go_wp2
        refine region_be (by kernel_rfl) (by kernel_rfl) ?_
        repeat (quiet_step (first | (go_at_call 56; with_reducible exact Calls.be_of (sameAtoms_any _ _ _ _ x y _ (HA1.out.kept (Be.kept _)) (HA2.out.kept (Be.kept _))))))
        refine wpQuiet_nil ?_
        intro _ hw'
        obtain ⟨pb, hw''⟩ := hw'
        subst hw''
        obtain ⟨W2, hbw⟩ := pb
        dsimp only
        clear p0 p1
        go_wp2
        · have hne : x ≠ y := by simpa using (by assumption : (!decide (x = y)) = true)
          go_ret
          have hf : decide (l = m) = false := by
            rw [decide_eq_false_iff_not]
            intro h
            have h1 := HX.out
            rw [h, HY.out] at h1
            exact hne (Option.some.inj h1).symm
          exact ⟨by rw [hf]; rfl, by have hb0 := HB.out; (repeat (first | assumption | exact Below.refl _ _ | refine below_next ?_ (by assumption) | refine below_drewN ?_ _ | refine below_alloc ?_ _))⟩
        · have heq : x = y := by simpa using (by assumption : (!decide (x = y)) = false)
          subst heq
          go_roundw
          case rel => exact ⟨k + 1, by omega, by simp, by have hb0 := HB.out; (repeat (first | assumption | exact Below.refl _ _ | refine below_next ?_ (by assumption) | refine below_drewN ?_ _ | refine below_alloc ?_ _)), take_ext HX.out HY.out HN.out⟩
          case measure => (try simp only [intOf]); omega
      · go_wp2
        go_ret
        have hn := HN.out
        rw [List.take_of_length_le (by omega), List.take_of_length_le (by omega)] at hn
        exact ⟨by simp [hn], HB.out⟩
  · have hlb : ((l.length : Int) != (m.length : Int)) = true := by rw [bne_iff_ne]; omega
    go_enter Tryd.func55, Tryd.ntmps55
    go_wp2
    go_ret
    have hf : decide (l = m) = false := by
      rw [decide_eq_false_iff_not]
      intro h
      exact hlen (by rw [h])
    exact ⟨by rw [hf]; rfl, Below.refl _ _⟩
end Go.Proofs.YtefjoigngnnbjaaDoor
namespace Go.Proofs.YtefjoigngnnbjaaDoor
set_option linter.unusedSimpArgs false
set_option linter.unusedVariables false
open Go.RowKit

theorem pkg_eq_iff (p q : Pkg) : p = q ↔ p.name = q.name ∧ p.ver = q.ver ∧ p.ess = q.ess ∧ p.pre = q.pre ∧ p.dep = q.dep ∧ p.rcm = q.rcm ∧ p.con = q.con ∧ p.brk = q.brk ∧ p.prv = q.prv := by
  obtain ⟨a, b, c, d, e, f, g, h, i⟩ := p
  obtain ⟨a', b', c', d', e', f', g', h', i'⟩ := q
  simp only [Pkg.mk.injEq]
  constructor
  · rintro ⟨h1, h2, h3, h4, h5, h6, h7, h8, h9⟩; exact ⟨h1, h2, h9, h3, h4, h5, h6, h7, h8⟩
  · rintro ⟨h1, h2, h9, h3, h4, h5, h6, h7, h8⟩; exact ⟨h1, h2, h3, h4, h5, h6, h7, h8, h9⟩
set_option maxRecDepth 100000 in
set_option maxHeartbeats 4000000 in
theorem same_any (p q : Pkg) (r s : Raw) (w : World) (hp : RP w r p) (hq : RP w s q) :
    Calls Tryd.prog 35 #[(.agg #[.string (bs (p).name), .string (bs (p).ver), .slice (r).a1 (p).pre.length (r).c1, .slice (r).a2 (p).dep.length (r).c2, .slice (r).a3 (p).rcm.length (r).c3, .slice (r).a4 (p).con.length (r).c4, .slice (r).a5 (p).brk.length (r).c5, .slice (r).a6 (p).prv.length (r).c6, .bool (p).ess]), (.agg #[.string (bs (q).name), .string (bs (q).ver), .slice (s).a1 (q).pre.length (s).c1, .slice (s).a2 (q).dep.length (s).c2, .slice (s).a3 (q).rcm.length (s).c3, .slice (s).a4 (q).con.length (s).c4, .slice (s).a5 (q).brk.length (s).c5, .slice (s).a6 (q).prv.length (s).c6, .bool (q).ess])] w fun e w' => e = .returned (.bool (decide (p = q))) ∧ Below w.heap.size w w' := by
  have HE := Lib.hid (pkg_eq_iff p q)
  obtain ⟨p1, p2, p3, p4, p5, p6, p7, p8⟩ := hp
  obtain ⟨q1, q2, q3, q4, q5, q6, q7, q8⟩ := hq
  have P3 := Lib.hid p3
  have P4 := Lib.hid p4
  have P5 := Lib.hid p5
  have P6 := Lib.hid p6
  have P7 := Lib.hid p7
  have P8 := Lib.hid p8
  have Q3 := Lib.hid q3
  have Q4 := Lib.hid q4
  have Q5 := Lib.hid q5
  have Q6 := Lib.hid q6
  have Q7 := Lib.hid q7
  have Q8 := Lib.hid q8
  clear p1 p2 p3 p4 p5 p6 p7 p8 q1 q2 q3 q4 q5 q6 q7 q8
  have K1 := Lib.hid (show Blk ((w.alloc (.cells #[.string (bs (p).name), .string (bs (p).ver), .slice (r).a1 (p).pre.length (r).c1, .slice (r).a2 (p).dep.length (r).c2, .slice (r).a3 (p).rcm.length (r).c3, .slice (r).a4 (p).con.length (r).c4, .slice (r).a5 (p).brk.length (r).c5, .slice (r).a6 (p).prv.length (r).c6, .bool (p).ess] 28)).alloc (.cells #[.string (bs (q).name), .string (bs (q).ver), .slice (s).a1 (q).pre.length (s).c1, .slice (s).a2 (q).dep.length (s).c2, .slice (s).a3 (q).rcm.length (s).c3, .slice (s).a4 (q).con.length (s).c4, .slice (s).a5 (q).brk.length (s).c5, .slice (s).a6 (q).prv.length (s).c6, .bool (q).ess] 28)) w.heap.size 28 #[.string (bs (p).name), .string (bs (p).ver), .slice (r).a1 (p).pre.length (r).c1, .slice (r).a2 (p).dep.length (r).c2, .slice (r).a3 (p).rcm.length (r).c3, .slice (r).a4 (p).con.length (r).c4, .slice (r).a5 (p).brk.length (r).c5, .slice (r).a6 (p).prv.length (r).c6, .bool (p).ess] from Blk.alloc (blk_new1 _ _ _) _)
  have K2 := Lib.hid (show Blk ((w.alloc (.cells #[.string (bs (p).name), .string (bs (p).ver), .slice (r).a1 (p).pre.length (r).c1, .slice (r).a2 (p).dep.length (r).c2, .slice (r).a3 (p).rcm.length (r).c3, .slice (r).a4 (p).con.length (r).c4, .slice (r).a5 (p).brk.length (r).c5, .slice (r).a6 (p).prv.length (r).c6, .bool (p).ess] 28)).alloc (.cells #[.string (bs (q).name), .string (bs (q).ver), .slice (s).a1 (q).pre.length (s).c1, .slice (s).a2 (q).dep.length (s).c2, .slice (s).a3 (q).rcm.length (s).c3, .slice (s).a4 (q).con.length (s).c4, .slice (s).a5 (q).brk.length (s).c5, .slice (s).a6 (q).prv.length (s).c6, .bool (q).ess] 28)) (w.heap.size + 1) 28 #[.string (bs (q).name), .string (bs (q).ver), .slice (s).a1 (q).pre.length (s).c1, .slice (s).a2 (q).dep.length (s).c2, .slice (s).a3 (q).rcm.length (s).c3, .slice (s).a4 (q).con.length (s).c4, .slice (s).a5 (q).brk.length (s).c5, .slice (s).a6 (q).prv.length (s).c6, .bool (q).ess] from blk_new2 _ _ _ _)
  have HB := Lib.hid (show Below w.heap.size w ((w.alloc (.cells #[.string (bs (p).name), .string (bs (p).ver), .slice (r).a1 (p).pre.length (r).c1, .slice (r).a2 (p).dep.length (r).c2, .slice (r).a3 (p).rcm.length (r).c3, .slice (r).a4 (p).con.length (r).c4, .slice (r).a5 (p).brk.length (r).c5, .slice (r).a6 (p).prv.length (r).c6, .bool (p).ess] 28)).alloc (.cells #[.string (bs (q).name), .string (bs (q).ver), .slice (s).a1 (q).pre.length (s).c1, .slice (s).a2 (q).dep.length (s).c2, .slice (s).a3 (q).rcm.length (s).c3, .slice (s).a4 (q).con.length (s).c4, .slice (s).a5 (q).brk.length (s).c5, .slice (s).a6 (q).prv.length (s).c6, .bool (q).ess] 28)) from below_alloc (below_alloc (Below.refl _ _) _) _)
  by_cases h1 : p.name = q.name
  case neg =>
    have b1 : (p.name == q.name) = false := by simpa using h1
    go_enter Tryd.func35, Tryd.ntmps35
    go_wp2
    go_ret
    exact ⟨by rw [decide_eq_false (fun h => h1 (by rw [h]))]; rfl, HB.out⟩
  case pos =>
  have b1 : (p.name == q.name) = true := by simpa using h1
  have H1 := Lib.hid h1
  clear h1
  by_cases h2 : p.ver = q.ver
  case neg =>
    have b2 : (p.ver == q.ver) = false := by simpa using h2
    go_enter Tryd.func35, Tryd.ntmps35
    go_wp2
    go_ret
    exact ⟨by rw [decide_eq_false (fun h => h2 (by rw [h]))]; rfl, HB.out⟩
  case pos =>
  have b2 : (p.ver == q.ver) = true := by simpa using h2
  have H2 := Lib.hid h2
  clear h2
  by_cases h3 : p.ess = q.ess
  case neg =>
    have b3 : (p.ess == q.ess) = false := by simpa using h3
    go_enter Tryd.func35, Tryd.ntmps35
    go_wp2
    go_ret
    exact ⟨by rw [decide_eq_false (fun h => h3 (by rw [h]))]; rfl, HB.out⟩
  case pos =>
  have b3 : (p.ess == q.ess) = true := by simpa using h3
  have H3 := Lib.hid h3
  clear h3
  go_enter Tryd.func35, Tryd.ntmps35
  go_wp2_with fail
  refine (sameCls_any _ _ _ _ _ _ _ ((P3).out.kept (Kept.of_below HB.out)) ((Q3).out.kept (Kept.of_below HB.out))).mono ?_
  rintro e w1 ⟨rfl, hb1⟩
  have K1 := Lib.hid (K1.out.next hb1)
  have K2 := Lib.hid (K2.out.next hb1)
  have HB := Lib.hid (below_next HB.out hb1)
  clear hb1
  obtain ⟨c0, c1, c2, c3, c4, c5, c6, c7, c8⟩ := blk9 K1.out
  obtain ⟨d0, d1, d2, d3, d4, d5, d6, d7, d8⟩ := blk9 K2.out
  by_cases hx : p.pre = q.pre
  case neg =>
    have HF := Lib.hid (show decide (p = q) = false from decide_eq_false (fun h => hx (by rw [h])))
    rw [decide_eq_false hx]
    clear hx
    go_wp2
    go_ret
    exact ⟨by rw [HF.out]; rfl, HB.out⟩
  case pos =>
  have X3 := Lib.hid hx
  rw [decide_eq_true hx]
  clear hx
  go_wp2_with fail
  clear c0 c1 c2 c3 c4 c5 c6 c7 c8 d0 d1 d2 d3 d4 d5 d6 d7 d8
  refine (sameCls_any _ _ _ _ _ _ _ ((P4).out.kept (Kept.of_below HB.out)) ((Q4).out.kept (Kept.of_below HB.out))).mono ?_
  rintro e w1 ⟨rfl, hb1⟩
  have K1 := Lib.hid (K1.out.next hb1)
  have K2 := Lib.hid (K2.out.next hb1)
  have HB := Lib.hid (below_next HB.out hb1)
  clear hb1
  obtain ⟨c0, c1, c2, c3, c4, c5, c6, c7, c8⟩ := blk9 K1.out
  obtain ⟨d0, d1, d2, d3, d4, d5, d6, d7, d8⟩ := blk9 K2.out
  by_cases hx : p.dep = q.dep
  case neg =>
    have HF := Lib.hid (show decide (p = q) = false from decide_eq_false (fun h => hx (by rw [h])))
    rw [decide_eq_false hx]
    clear hx
    go_wp2
    go_ret
    exact ⟨by rw [HF.out]; rfl, HB.out⟩
  case pos =>
  have X4 := Lib.hid hx
  rw [decide_eq_true hx]
  clear hx
  go_wp2_with fail
  clear c0 c1 c2 c3 c4 c5 c6 c7 c8 d0 d1 d2 d3 d4 d5 d6 d7 d8
  refine (sameCls_any _ _ _ _ _ _ _ ((P5).out.kept (Kept.of_below HB.out)) ((Q5).out.kept (Kept.of_below HB.out))).mono ?_
  rintro e w1 ⟨rfl, hb1⟩
  have K1 := Lib.hid (K1.out.next hb1)
  have K2 := Lib.hid (K2.out.next hb1)
  have HB := Lib.hid (below_next HB.out hb1)
  clear hb1
  obtain ⟨c0, c1, c2, c3, c4, c5, c6, c7, c8⟩ := blk9 K1.out
  obtain ⟨d0, d1, d2, d3, d4, d5, d6, d7, d8⟩ := blk9 K2.out
  by_cases hx : p.rcm = q.rcm
  case neg =>
    have HF := Lib.hid (show decide (p = q) = false from decide_eq_false (fun h => hx (by rw [h])))
    rw [decide_eq_false hx]
    clear hx
    go_wp2
    go_ret
    exact ⟨by rw [HF.out]; rfl, HB.out⟩
  case pos =>
  have X5 := Lib.hid hx
  rw [decide_eq_true hx]
  clear hx
  go_wp2_with fail
  clear c0 c1 c2 c3 c4 c5 c6 c7 c8 d0 d1 d2 d3 d4 d5 d6 d7 d8
  refine (sameAtoms_any _ _ _ _ _ _ _ ((P6).out.kept (Kept.of_below HB.out)) ((Q6).out.kept (Kept.of_below HB.out))).mono ?_
  rintro e w1 ⟨rfl, hb1⟩
  have K1 := Lib.hid (K1.out.next hb1)
  have K2 := Lib.hid (K2.out.next hb1)
  have HB := Lib.hid (below_next HB.out hb1)
  clear hb1
  obtain ⟨c0, c1, c2, c3, c4, c5, c6, c7, c8⟩ := blk9 K1.out
  obtain ⟨d0, d1, d2, d3, d4, d5, d6, d7, d8⟩ := blk9 K2.out
  by_cases hx : p.con = q.con
  case neg =>
    have HF := Lib.hid (show decide (p = q) = false from decide_eq_false (fun h => hx (by rw [h])))
    rw [decide_eq_false hx]
    clear hx
    go_wp2
    go_ret
    exact ⟨by rw [HF.out]; rfl, HB.out⟩
  case pos =>
  have X6 := Lib.hid hx
  rw [decide_eq_true hx]
  clear hx
  go_wp2_with fail
  clear c0 c1 c2 c3 c4 c5 c6 c7 c8 d0 d1 d2 d3 d4 d5 d6 d7 d8
  refine (sameAtoms_any _ _ _ _ _ _ _ ((P7).out.kept (Kept.of_below HB.out)) ((Q7).out.kept (Kept.of_below HB.out))).mono ?_
  rintro e w1 ⟨rfl, hb1⟩
  have K1 := Lib.hid (K1.out.next hb1)
  have K2 := Lib.hid (K2.out.next hb1)
  have HB := Lib.hid (below_next HB.out hb1)
  clear hb1
  obtain ⟨c0, c1, c2, c3, c4, c5, c6, c7, c8⟩ := blk9 K1.out
  obtain ⟨d0, d1, d2, d3, d4, d5, d6, d7, d8⟩ := blk9 K2.out
  by_cases hx : p.brk = q.brk
  case neg =>
    have HF := Lib.hid (show decide (p = q) = false from decide_eq_false (fun h => hx (by rw [h])))
    rw [decide_eq_false hx]
    clear hx
    go_wp2
    go_ret
    exact ⟨by rw [HF.out]; rfl, HB.out⟩
  case pos =>
  have X7 := Lib.hid hx
  rw [decide_eq_true hx]
  clear hx
  go_wp2_with fail
  clear c0 c1 c2 c3 c4 c5 c6 c7 c8 d0 d1 d2 d3 d4 d5 d6 d7 d8
  refine (samePrvs_any _ _ _ _ _ _ _ (P8.out.kept (Kept.of_below HB.out)) (Q8.out.kept (Kept.of_below HB.out))).mono ?_
  rintro e w1 ⟨rfl, hb1⟩
  have HF := Lib.hid (show decide (p.prv = q.prv) = decide (p = q) by
    rw [decide_eq_decide, HE.out]
    exact ⟨fun h => ⟨H1.out, H2.out, H3.out, X3.out, X4.out, X5.out, X6.out, X7.out, h⟩, fun h => h.2.2.2.2.2.2.2.2⟩)
  rw [HF.out]
  go_wp2
  go_ret
  exact ⟨rfl, below_next HB.out hb1⟩
end Go.Proofs.YtefjoigngnnbjaaDoor
namespace Go.Proofs.YtefjoigngnnbjaaDoor
set_option linter.unusedSimpArgs false
set_option linter.unusedVariables false
open Go.RowKit
set_option maxRecDepth 100000 in
set_option maxHeartbeats 400000 in
theorem eqClause_any (A B : Option Addr) (c d : Nat) (l m : List (Atm)) (w : World) (hl : Atms w A c l) (hm : Atms w B d m) :
    Calls Tryd.prog 67 #[.slice A l.length c, .slice B m.length d] w fun e w' => e = .returned (.bool (decide (l = m))) ∧ Below w.heap.size w w' := by
  have hbd := hl.bd
  have hbd2 := hm.bd
  have HL := Lib.hid hl
  have HM := Lib.hid hm
  clear hl hm
  by_cases hlen : l.length = m.length
  · have hlb : ((l.length : Int) != (m.length : Int)) = false := by simp [hlen]
    have hl1 : l.length ≤ m.length := by omega
    have hl2 : m.length ≤ l.length := by omega
    clear hlen
    go_enter Tryd.func67, Tryd.ntmps67
    go_wp2
    go_loopw [13] (fun i wr => ∃ k : Nat, k ≤ l.length ∧ i = .int .i64 k ∧ Below w.heap.size w wr ∧ l.take k = m.take k) (fun i _ => l.length - (intOf i).toNat)
    case atStart => exact ⟨0, Nat.zero_le _, rfl, Below.refl _ _, rfl⟩
    case round =>
      obtain ⟨k, hk, rfl, hb, hn⟩ := hrel
      obtain ⟨wo, rfl⟩ : ∃ wo : World, wo = wr := ⟨_, rfl⟩
      have HB := Lib.hid hb
      have HN := Lib.hid hn
      clear hb hn
      by_cases hlt : k < l.length
      · obtain ⟨x, b, o, hx, rfl, _, e0, e1, e2⟩ := HL.out.at_ hlt (Kept.of_below HB.out)
        obtain ⟨y, b', o', hy, rfl, _, f0, f1, f2⟩ := HM.out.at_ (by omega : k < m.length) (Kept.of_below HB.out)
        have HX := Lib.hid hx
        have HY := Lib.hid hy
        clear hx hy
        have hi0 : (0 : Int) ≤ (k : Int) := Int.natCast_nonneg _
        have hi1 : (k : Int) < (l.length : Int) := by omega
        have hi2 : (k : Int) < (m.length : Int) := by omega
        have hneq := fun W => atm_neq x y W
        go_wp2
        go_quiet (fail)
        go_wp2
        · have hne : x ≠ y := by simpa using (by assumption : (!decide (x = y)) = true)
          go_ret
          have hf : decide (l = m) = false := by
            rw [decide_eq_false_iff_not]
            intro h
            have h1 := HX.out
            rw [h, HY.out] at h1
            exact hne (Option.some.inj h1).symm
          exact ⟨by rw [hf]; rfl, by have hb0 := HB.out; (repeat (first | assumption | exact Below.refl _ _ | refine below_next ?_ (by assumption) | refine below_drewN ?_ _ | refine below_alloc ?_ _))⟩
        · have heq : x = y := by simpa using (by assumption : (!decide (x = y)) = false)
          subst heq
          go_roundw
          case rel => exact ⟨k + 1, by omega, by simp, by have hb0 := HB.out; (repeat (first | assumption | exact Below.refl _ _ | refine below_next ?_ (by assumption) | refine below_drewN ?_ _ | refine below_alloc ?_ _)), take_ext HX.out HY.out HN.out⟩
          case measure => (try simp only [intOf]); omega
      · go_wp2
        go_ret
        have hn := HN.out
        rw [List.take_of_length_le (by omega), List.take_of_length_le (by omega)] at hn
        exact ⟨by simp [hn], HB.out⟩
  · have hlb : ((l.length : Int) != (m.length : Int)) = true := by rw [bne_iff_ne]; omega
    go_enter Tryd.func67, Tryd.ntmps67
    go_wp2
    go_ret
    have hf : decide (l = m) = false := by
      rw [decide_eq_false_iff_not]
      intro h
      exact hlen (by rw [h])
    exact ⟨by rw [hf]; rfl, Below.refl _ _⟩
set_option maxRecDepth 100000 in
set_option maxHeartbeats 400000 in
theorem eqAtoms_any (A B : Option Addr) (c d : Nat) (l m : List (Atm)) (w : World) (hl : Atms w A c l) (hm : Atms w B d m) :
    Calls Tryd.prog 68 #[.slice A l.length c, .slice B m.length d] w fun e w' => e = .returned (.bool (decide (l = m))) ∧ Below w.heap.size w w' := by
  have hbd := hl.bd
  have hbd2 := hm.bd
  have HL := Lib.hid hl
  have HM := Lib.hid hm
  clear hl hm
  by_cases hlen : l.length = m.length
  · have hlb : ((l.length : Int) != (m.length : Int)) = false := by simp [hlen]
    have hl1 : l.length ≤ m.length := by omega
    have hl2 : m.length ≤ l.length := by omega
    clear hlen
    go_enter Tryd.func68, Tryd.ntmps68
    go_wp2
    go_loopw [13] (fun i wr => ∃ k : Nat, k ≤ l.length ∧ i = .int .i64 k ∧ Below w.heap.size w wr ∧ l.take k = m.take k) (fun i _ => l.length - (intOf i).toNat)
    case atStart => exact ⟨0, Nat.zero_le _, rfl, Below.refl _ _, rfl⟩
    case round =>
      obtain ⟨k, hk, rfl, hb, hn⟩ := hrel
      obtain ⟨wo, rfl⟩ : ∃ wo : World, wo = wr := ⟨_, rfl⟩
      have HB := Lib.hid hb
      have HN := Lib.hid hn
      clear hb hn
      by_cases hlt : k < l.length
      · obtain ⟨x, b, o, hx, rfl, _, e0, e1, e2⟩ := HL.out.at_ hlt (Kept.of_below HB.out)
        obtain ⟨y, b', o', hy, rfl, _, f0, f1, f2⟩ := HM.out.at_ (by omega : k < m.length) (Kept.of_below HB.out)
        have HX := Lib.hid hx
        have HY := Lib.hid hy
        clear hx hy
        have hi0 : (0 : Int) ≤ (k : Int) := Int.natCast_nonneg _
        have hi1 : (k : Int) < (l.length : Int) := by omega
        have hi2 : (k : Int) < (m.length : Int) := by omega
        have hneq := fun W => atm_neq x y W
        go_wp2
        go_quiet (fail)
        go_wp2
        · have hne : x ≠ y := by simpa using (by assumption : (!decide (x = y)) = true)
          go_ret
          have hf : decide (l = m) = false := by
            rw [decide_eq_false_iff_not]
            intro h
            have h1 := HX.out
            rw [h, HY.out] at h1
            exact hne (Option.some.inj h1).symm
          exact ⟨by rw [hf]; rfl, by have hb0 := HB.out; (repeat (first | assumption | exact Below.refl _ _ | refine below_next ?_ (by assumption) | refine below_drewN ?_ _ | refine below_alloc ?_ _))⟩
        · have heq : x = y := by simpa using (by assumption : (!decide (x = y)) = false)
          subst heq
          go_roundw
          case rel => exact ⟨k + 1, by omega, by simp, by have hb0 := HB.out; (repeat (first | assumption | exact Below.refl _ _ | refine below_next ?_ (by assumption) | refine below_drewN ?_ _ | refine below_alloc ?_ _)), take_ext HX.out HY.out HN.out⟩
          case measure => (try simp only [intOf]); omega
      · go_wp2
        go_ret
        have hn := HN.out
        rw [List.take_of_length_le (by omega), List.take_of_length_le (by omega)] at hn
        exact ⟨by simp [hn], HB.out⟩
  · have hlb : ((l.length : Int) != (m.length : Int)) = true := by rw [bne_iff_ne]; omega
    go_enter Tryd.func68, Tryd.ntmps68
    go_wp2
    go_ret
    have hf : decide (l = m) = false := by
      rw [decide_eq_false_iff_not]
      intro h
      exact hlen (by rw [h])
    exact ⟨by rw [hf]; rfl, Below.refl _ _⟩
set_option maxRecDepth 100000 in
set_option maxHeartbeats 400000 in
theorem eqPrvs_any (A B : Option Addr) (c d : Nat) (l m : List (Prv)) (w : World) (hl : Prvs w A c l) (hm : Prvs w B d m) :
    Calls Tryd.prog 69 #[.slice A l.length c, .slice B m.length d] w fun e w' => e = .returned (.bool (decide (l = m))) ∧ Below w.heap.size w w' := by
  have hbd := hl.bd
  have hbd2 := hm.bd
  have HL := Lib.hid hl
  have HM := Lib.hid hm
  clear hl hm
  by_cases hlen : l.length = m.length
  · have hlb : ((l.length : Int) != (m.length : Int)) = false := by simp [hlen]
    have hl1 : l.length ≤ m.length := by omega
    have hl2 : m.length ≤ l.length := by omega
    clear hlen
    go_enter Tryd.func69, Tryd.ntmps69
    go_wp2
    go_loopw [13] (fun i wr => ∃ k : Nat, k ≤ l.length ∧ i = .int .i64 k ∧ Below w.heap.size w wr ∧ l.take k = m.take k) (fun i _ => l.length - (intOf i).toNat)
    case atStart => exact ⟨0, Nat.zero_le _, rfl, Below.refl _ _, rfl⟩
    case round =>
      obtain ⟨k, hk, rfl, hb, hn⟩ := hrel
      obtain ⟨wo, rfl⟩ : ∃ wo : World, wo = wr := ⟨_, rfl⟩
      have HB := Lib.hid hb
      have HN := Lib.hid hn
      clear hb hn
      by_cases hlt : k < l.length
      · obtain ⟨x, b, o, hx, rfl, _, e0, e1⟩ := HL.out.at_ hlt (Kept.of_below HB.out)
        obtain ⟨y, b', o', hy, rfl, _, f0, f1⟩ := HM.out.at_ (by omega : k < m.length) (Kept.of_below HB.out)
        have HX := Lib.hid hx
        have HY := Lib.hid hy
        clear hx hy
        have hi0 : (0 : Int) ≤ (k : Int) := Int.natCast_nonneg _
        have hi1 : (k : Int) < (l.length : Int) := by omega
        have hi2 : (k : Int) < (m.length : Int) := by omega
        have hneq := fun W => prv_neq x y W
        go_wp2
        go_quiet (fail)
        go_wp2
        · have hne : x ≠ y := by simpa using (by assumption : (!decide (x = y)) = true)
          go_ret
          have hf : decide (l = m) = false := by
            rw [decide_eq_false_iff_not]
            intro h
            have h1 := HX.out
            rw [h, HY.out] at h1
            exact hne (Option.some.inj h1).symm
          exact ⟨by rw [hf]; rfl, by have hb0 := HB.out; (repeat (first | assumption | exact Below.refl _ _ | refine below_next ?_ (by assumption) | refine below_drewN ?_ _ | refine below_alloc ?_ _))⟩
        · have heq : x = y := by simpa using (by assumption : (!decide (x = y)) = false)
          subst heq
          go_roundw
          case rel => exact ⟨k + 1, by omega, by simp, by have hb0 := HB.out; (repeat (first | assumption | exact Below.refl _ _ | refine below_next ?_ (by assumption) | refine below_drewN ?_ _ | refine below_alloc ?_ _)), take_ext HX.out HY.out HN.out⟩
          case measure => (try simp only [intOf]); omega
      · go_wp2
        go_ret
        have hn := HN.out
        rw [List.take_of_length_le (by omega), List.take_of_length_le (by omega)] at hn
        exact ⟨by simp [hn], HB.out⟩
  · have hlb : ((l.length : Int) != (m.length : Int)) = true := by rw [bne_iff_ne]; omega
    go_enter Tryd.func69, Tryd.ntmps69
    go_wp2
    go_ret
    have hf : decide (l = m) = false := by
      rw [decide_eq_false_iff_not]
      intro h
      exact hlen (by rw [h])
    exact ⟨by rw [hf]; rfl, Below.refl _ _⟩
set_option maxRecDepth 100000 in
theorem eqClo2_any (A B : Option Addr) (c d : Nat) (l m : List Atm) (w : World) (hl : Atms w A c l) (hm : Atms w B d m) :
    Calls Tryd.prog 66 #[.slice A l.length c, .slice B m.length d] w fun e w' => e = .returned (.bool (decide (l = m))) ∧ Below w.heap.size w w' := by
  go_enter Tryd.func66, Tryd.ntmps66
  go_wp2_with fail
  refine (eqClause_any A B c d l m w hl hm).mono ?_
  rintro e w1 ⟨rfl, hb1⟩
  go_wp2
  go_ret
  exact ⟨rfl, hb1⟩
set_option maxRecDepth 100000 in
set_option maxHeartbeats 400000 in
theorem eqfCls_any (A B : Option Addr) (c d : Nat) (l m : List (List Atm)) (w : World) (hl : Clss w A c l) (hm : Clss w B d m) :
    Calls Tryd.prog 65 #[.slice A l.length c, .slice B m.length d, .func (.func 66) #[] #[]] w fun e w' => e = .returned (.bool (decide (l = m))) ∧ Below w.heap.size w w' := by
  have hbd := hl.bd
  have hbd2 := hm.bd
  have HL := Lib.hid hl
  have HM := Lib.hid hm
  clear hl hm
  by_cases hlen : l.length = m.length
  · have hlb : ((l.length : Int) != (m.length : Int)) = false := by simp [hlen]
    have hl1 : l.length ≤ m.length := by omega
    have hl2 : m.length ≤ l.length := by omega
    clear hlen
    go_enter Tryd.func65, Tryd.ntmps65
    go_wp2
    go_loopw [17] (fun i wr => ∃ k : Nat, k ≤ l.length ∧ i = .int .i64 k ∧ Below w.heap.size w wr ∧ l.take k = m.take k) (fun i _ => l.length - (intOf i).toNat)
    case atStart => exact ⟨0, Nat.zero_le _, rfl, Below.refl _ _, rfl⟩
    case round =>
      obtain ⟨k, hk, rfl, hb, hn⟩ := hrel
      obtain ⟨wo, rfl⟩ : ∃ wo : World, wo = wr := ⟨_, rfl⟩
      have HB := Lib.hid hb
      have HN := Lib.hid hn
      clear hb hn
      by_cases hlt : k < l.length
      · obtain ⟨x, b, o, A1, c1, hx, rfl, ha1, e0⟩ := HL.out.at_ hlt (Kept.of_below HB.out)
        obtain ⟨y, b', o', A2, c2, hy, rfl, ha2, f0⟩ := HM.out.at_ (by omega : k < m.length) (Kept.of_below HB.out)
        have HX := Lib.hid hx
        have HY := Lib.hid hy
        clear hx hy
        have hi0 : (0 : Int) ≤ (k : Int) := Int.natCast_nonneg _
        have hi1 : (k : Int) < (l.length : Int) := by omega
        have hi2 : (k : Int) < (m.length : Int) := by omega
        have HA1 := Lib.hid (ha1.kept (Kept.of_below HB.out))
        have HA2 := Lib.hid (ha2.kept (Kept.of_below HB.out))
        clear ha1 ha2
        go_wp2_with fail
        refine (eqClo2_any _ _ _ _ x y _ HA1.out HA2.out).mono ?_
        rintro e W2 ⟨rfl, hbw⟩
        go_wp2
        · have hne : x ≠ y := by simpa using (by assumption : (!decide (x = y)) = true)
          go_ret
          have hf : decide (l = m) = false := by
            rw [decide_eq_false_iff_not]
            intro h
            have h1 := HX.out
            rw [h, HY.out] at h1
            exact hne (Option.some.inj h1).symm
          exact ⟨by rw [hf]; rfl, by have hb0 := HB.out; (repeat (first | assumption | exact Below.refl _ _ | refine below_next ?_ (by assumption) | refine below_drewN ?_ _ | refine below_alloc ?_ _))⟩
        · have heq : x = y := by simpa using (by assumption : (!decide (x = y)) = false)
          subst heq
          go_roundw
          case rel => exact ⟨k + 1, by omega, by simp, by have hb0 := HB.out; (repeat (first | assumption | exact Below.refl _ _ | refine below_next ?_ (by assumption) | refine below_drewN ?_ _ | refine below_alloc ?_ _)), take_ext HX.out HY.out HN.out⟩
          case measure => (try simp only [intOf]); omega
      · go_wp2
        go_ret
        have hn := HN.out
        rw [List.take_of_length_le (by omega), List.take_of_length_le (by omega)] at hn
        exact ⟨by simp [hn], HB.out⟩
  · have hlb : ((l.length : Int) != (m.length : Int)) = true := by rw [bne_iff_ne]; omega
    go_enter Tryd.func65, Tryd.ntmps65
    go_wp2
    go_ret
    have hf : decide (l = m) = false := by
      rw [decide_eq_false_iff_not]
      intro h
      exact hlen (by rw [h])
    exact ⟨by rw [hf]; rfl, Below.refl _ _⟩
set_option maxRecDepth 100000 in
theorem eqCls_any (A B : Option Addr) (c d : Nat) (l m : List (List Atm)) (w : World) (hl : Clss w A c l) (hm : Clss w B d m) :
    Calls Tryd.prog 64 #[.slice A l.length c, .slice B m.length d] w fun e w' => e = .returned (.bool (decide (l = m))) ∧ Below w.heap.size w w' := by
  go_enter Tryd.func64, Tryd.ntmps64
  go_wp2_with fail
  refine (eqfCls_any A B c d l m w hl hm).mono ?_
  rintro e w1 ⟨rfl, hb1⟩
  go_wp2
  go_ret
  exact ⟨rfl, hb1⟩
set_option maxRecDepth 100000 in
set_option maxHeartbeats 4000000 in
theorem recSame_any (p q : Pkg) (r s : Raw) (w : World) (hp : RP w r p) (hq : RP w s q) :
    Calls Tryd.prog 42 #[(.agg #[.string (bs (p).name), .string (bs (p).ver), .slice (r).a1 (p).pre.length (r).c1, .slice (r).a2 (p).dep.length (r).c2, .slice (r).a3 (p).rcm.length (r).c3, .slice (r).a4 (p).con.length (r).c4, .slice (r).a5 (p).brk.length (r).c5, .slice (r).a6 (p).prv.length (r).c6, .bool (p).ess]), (.agg #[.string (bs (q).name), .string (bs (q).ver), .slice (s).a1 (q).pre.length (s).c1, .slice (s).a2 (q).dep.length (s).c2, .slice (s).a3 (q).rcm.length (s).c3, .slice (s).a4 (q).con.length (s).c4, .slice (s).a5 (q).brk.length (s).c5, .slice (s).a6 (q).prv.length (s).c6, .bool (q).ess])] w fun e w' => e = .returned (.bool (decide (p = q))) ∧ Below w.heap.size w w' := by
  have HE := Lib.hid (pkg_eq_iff p q)
  obtain ⟨p1, p2, p3, p4, p5, p6, p7, p8⟩ := hp
  obtain ⟨q1, q2, q3, q4, q5, q6, q7, q8⟩ := hq
  have P3 := Lib.hid p3
  have P4 := Lib.hid p4
  have P5 := Lib.hid p5
  have P6 := Lib.hid p6
  have P7 := Lib.hid p7
  have P8 := Lib.hid p8
  have Q3 := Lib.hid q3
  have Q4 := Lib.hid q4
  have Q5 := Lib.hid q5
  have Q6 := Lib.hid q6
  have Q7 := Lib.hid q7
  have Q8 := Lib.hid q8
  clear p1 p2 p3 p4 p5 p6 p7 p8 q1 q2 q3 q4 q5 q6 q7 q8
  have K1 := Lib.hid (show Blk ((w.alloc (.cells #[.string (bs (p).name), .string (bs (p).ver), .slice (r).a1 (p).pre.length (r).c1, .slice (r).a2 (p).dep.length (r).c2, .slice (r).a3 (p).rcm.length (r).c3, .slice (r).a4 (p).con.length (r).c4, .slice (r).a5 (p).brk.length (r).c5, .slice (r).a6 (p).prv.length (r).c6, .bool (p).ess] 28)).alloc (.cells #[.string (bs (q).name), .string (bs (q).ver), .slice (s).a1 (q).pre.length (s).c1, .slice (s).a2 (q).dep.length (s).c2, .slice (s).a3 (q).rcm.length (s).c3, .slice (s).a4 (q).con.length (s).c4, .slice (s).a5 (q).brk.length (s).c5, .slice (s).a6 (q).prv.length (s).c6, .bool (q).ess] 28)) w.heap.size 28 #[.string (bs (p).name), .string (bs (p).ver), .slice (r).a1 (p).pre.length (r).c1, .slice (r).a2 (p).dep.length (r).c2, .slice (r).a3 (p).rcm.length (r).c3, .slice (r).a4 (p).con.length (r).c4, .slice (r).a5 (p).brk.length (r).c5, .slice (r).a6 (p).prv.length (r).c6, .bool (p).ess] from Blk.alloc (blk_new1 _ _ _) _)
  have K2 := Lib.hid (show Blk ((w.alloc (.cells #[.string (bs (p).name), .string (bs (p).ver), .slice (r).a1 (p).pre.length (r).c1, .slice (r).a2 (p).dep.length (r).c2, .slice (r).a3 (p).rcm.length (r).c3, .slice (r).a4 (p).con.length (r).c4, .slice (r).a5 (p).brk.length (r).c5, .slice (r).a6 (p).prv.length (r).c6, .bool (p).ess] 28)).alloc (.cells #[.string (bs (q).name), .string (bs (q).ver), .slice (s).a1 (q).pre.length (s).c1, .slice (s).a2 (q).dep.length (s).c2, .slice (s).a3 (q).rcm.length (s).c3, .slice (s).a4 (q).con.length (s).c4, .slice (s).a5 (q).brk.length (s).c5, .slice (s).a6 (q).prv.length (s).c6, .bool (q).ess] 28)) (w.heap.size + 1) 28 #[.string (bs (q).name), .string (bs (q).ver), .slice (s).a1 (q).pre.length (s).c1, .slice (s).a2 (q).dep.length (s).c2, .slice (s).a3 (q).rcm.length (s).c3, .slice (s).a4 (q).con.length (s).c4, .slice (s).a5 (q).brk.length (s).c5, .slice (s).a6 (q).prv.length (s).c6, .bool (q).ess] from blk_new2 _ _ _ _)
  have HB := Lib.hid (show Below w.heap.size w ((w.alloc (.cells #[.string (bs (p).name), .string (bs (p).ver), .slice (r).a1 (p).pre.length (r).c1, .slice (r).a2 (p).dep.length (r).c2, .slice (r).a3 (p).rcm.length (r).c3, .slice (r).a4 (p).con.length (r).c4, .slice (r).a5 (p).brk.length (r).c5, .slice (r).a6 (p).prv.length (r).c6, .bool (p).ess] 28)).alloc (.cells #[.string (bs (q).name), .string (bs (q).ver), .slice (s).a1 (q).pre.length (s).c1, .slice (s).a2 (q).dep.length (s).c2, .slice (s).a3 (q).rcm.length (s).c3, .slice (s).a4 (q).con.length (s).c4, .slice (s).a5 (q).brk.length (s).c5, .slice (s).a6 (q).prv.length (s).c6, .bool (q).ess] 28)) from below_alloc (below_alloc (Below.refl _ _) _) _)
  by_cases h1 : p.name = q.name
  case neg =>
    have b1 : (p.name == q.name) = false := by simpa using h1
    go_enter Tryd.func42, Tryd.ntmps42
    go_wp2
    go_ret
    exact ⟨by rw [decide_eq_false (fun h => h1 (by rw [h]))]; rfl, HB.out⟩
  case pos =>
  have b1 : (p.name == q.name) = true := by simpa using h1
  have H1 := Lib.hid h1
  clear h1
  by_cases h2 : p.ver = q.ver
  case neg =>
    have b2 : (p.ver == q.ver) = false := by simpa using h2
    go_enter Tryd.func42, Tryd.ntmps42
    go_wp2
    go_ret
    exact ⟨by rw [decide_eq_false (fun h => h2 (by rw [h]))]; rfl, HB.out⟩
  case pos =>
  have b2 : (p.ver == q.ver) = true := by simpa using h2
  have H2 := Lib.hid h2
  clear h2
  by_cases h3 : p.ess = q.ess
  case neg =>
    have b3 : (p.ess == q.ess) = false := by simpa using h3
    go_enter Tryd.func42, Tryd.ntmps42
    go_wp2
    go_ret
    exact ⟨by rw [decide_eq_false (fun h => h3 (by rw [h]))]; rfl, HB.out⟩
  case pos =>
  have b3 : (p.ess == q.ess) = true := by simpa using h3
  have H3 := Lib.hid h3
  clear h3
  go_enter Tryd.func42, Tryd.ntmps42
  go_wp2_with fail
  refine (eqCls_any _ _ _ _ _ _ _ ((P3).out.kept (Kept.of_below HB.out)) ((Q3).out.kept (Kept.of_below HB.out))).mono ?_
  rintro e w1 ⟨rfl, hb1⟩
  have K1 := Lib.hid (K1.out.next hb1)
  have K2 := Lib.hid (K2.out.next hb1)
  have HB := Lib.hid (below_next HB.out hb1)
  clear hb1
  obtain ⟨c0, c1, c2, c3, c4, c5, c6, c7, c8⟩ := blk9 K1.out
  obtain ⟨d0, d1, d2, d3, d4, d5, d6, d7, d8⟩ := blk9 K2.out
  by_cases hx : p.pre = q.pre
  case neg =>
    have HF := Lib.hid (show decide (p = q) = false from decide_eq_false (fun h => hx (by rw [h])))
    rw [decide_eq_false hx]
    clear hx
    go_wp2
    go_ret
    exact ⟨by rw [HF.out]; rfl, HB.out⟩
  case pos =>
  have X3 := Lib.hid hx
  rw [decide_eq_true hx]
  clear hx
  go_wp2_with fail
  clear c0 c1 c2 c3 c4 c5 c6 c7 c8 d0 d1 d2 d3 d4 d5 d6 d7 d8
  refine (eqCls_any _ _ _ _ _ _ _ ((P4).out.kept (Kept.of_below HB.out)) ((Q4).out.kept (Kept.of_below HB.out))).mono ?_
  rintro e w1 ⟨rfl, hb1⟩
  have K1 := Lib.hid (K1.out.next hb1)
  have K2 := Lib.hid (K2.out.next hb1)
  have HB := Lib.hid (below_next HB.out hb1)
  clear hb1
  obtain ⟨c0, c1, c2, c3, c4, c5, c6, c7, c8⟩ := blk9 K1.out
  obtain ⟨d0, d1, d2, d3, d4, d5, d6, d7, d8⟩ := blk9 K2.out
  by_cases hx : p.dep = q.dep
  case neg =>
    have HF := Lib.hid (show decide (p = q) = false from decide_eq_false (fun h => hx (by rw [h])))
    rw [decide_eq_false hx]
    clear hx
    go_wp2
    go_ret
    exact ⟨by rw [HF.out]; rfl, HB.out⟩
  case pos =>
  have X4 := Lib.hid hx
  rw [decide_eq_true hx]
  clear hx
  go_wp2_with fail
  clear c0 c1 c2 c3 c4 c5 c6 c7 c8 d0 d1 d2 d3 d4 d5 d6 d7 d8
  refine (eqCls_any _ _ _ _ _ _ _ ((P5).out.kept (Kept.of_below HB.out)) ((Q5).out.kept (Kept.of_below HB.out))).mono ?_
  rintro e w1 ⟨rfl, hb1⟩
  have K1 := Lib.hid (K1.out.next hb1)
  have K2 := Lib.hid (K2.out.next hb1)
  have HB := Lib.hid (below_next HB.out hb1)
  clear hb1
  obtain ⟨c0, c1, c2, c3, c4, c5, c6, c7, c8⟩ := blk9 K1.out
  obtain ⟨d0, d1, d2, d3, d4, d5, d6, d7, d8⟩ := blk9 K2.out
  by_cases hx : p.rcm = q.rcm
  case neg =>
    have HF := Lib.hid (show decide (p = q) = false from decide_eq_false (fun h => hx (by rw [h])))
    rw [decide_eq_false hx]
    clear hx
    go_wp2
    go_ret
    exact ⟨by rw [HF.out]; rfl, HB.out⟩
  case pos =>
  have X5 := Lib.hid hx
  rw [decide_eq_true hx]
  clear hx
  go_wp2_with fail
  clear c0 c1 c2 c3 c4 c5 c6 c7 c8 d0 d1 d2 d3 d4 d5 d6 d7 d8
  refine (eqAtoms_any _ _ _ _ _ _ _ ((P6).out.kept (Kept.of_below HB.out)) ((Q6).out.kept (Kept.of_below HB.out))).mono ?_
  rintro e w1 ⟨rfl, hb1⟩
  have K1 := Lib.hid (K1.out.next hb1)
  have K2 := Lib.hid (K2.out.next hb1)
  have HB := Lib.hid (below_next HB.out hb1)
  clear hb1
  obtain ⟨c0, c1, c2, c3, c4, c5, c6, c7, c8⟩ := blk9 K1.out
  obtain ⟨d0, d1, d2, d3, d4, d5, d6, d7, d8⟩ := blk9 K2.out
  by_cases hx : p.con = q.con
  case neg =>
    have HF := Lib.hid (show decide (p = q) = false from decide_eq_false (fun h => hx (by rw [h])))
    rw [decide_eq_false hx]
    clear hx
    go_wp2
    go_ret
    exact ⟨by rw [HF.out]; rfl, HB.out⟩
  case pos =>
  have X6 := Lib.hid hx
  rw [decide_eq_true hx]
  clear hx
  go_wp2_with fail
  clear c0 c1 c2 c3 c4 c5 c6 c7 c8 d0 d1 d2 d3 d4 d5 d6 d7 d8
  refine (eqAtoms_any _ _ _ _ _ _ _ ((P7).out.kept (Kept.of_below HB.out)) ((Q7).out.kept (Kept.of_below HB.out))).mono ?_
  rintro e w1 ⟨rfl, hb1⟩
  have K1 := Lib.hid (K1.out.next hb1)
  have K2 := Lib.hid (K2.out.next hb1)
  have HB := Lib.hid (below_next HB.out hb1)
  clear hb1
  obtain ⟨c0, c1, c2, c3, c4, c5, c6, c7, c8⟩ := blk9 K1.out
  obtain ⟨d0, d1, d2, d3, d4, d5, d6, d7, d8⟩ := blk9 K2.out
  by_cases hx : p.brk = q.brk
  case neg =>
    have HF := Lib.hid (show decide (p = q) = false from decide_eq_false (fun h => hx (by rw [h])))
    rw [decide_eq_false hx]
    clear hx
    go_wp2
    go_ret
    exact ⟨by rw [HF.out]; rfl, HB.out⟩
  case pos =>
  have X7 := Lib.hid hx
  rw [decide_eq_true hx]
  clear hx
  go_wp2_with fail
  clear c0 c1 c2 c3 c4 c5 c6 c7 c8 d0 d1 d2 d3 d4 d5 d6 d7 d8
  refine (eqPrvs_any _ _ _ _ _ _ _ (P8.out.kept (Kept.of_below HB.out)) (Q8.out.kept (Kept.of_below HB.out))).mono ?_
  rintro e w1 ⟨rfl, hb1⟩
  have HF := Lib.hid (show decide (p.prv = q.prv) = decide (p = q) by
    rw [decide_eq_decide, HE.out]
    exact ⟨fun h => ⟨H1.out, H2.out, H3.out, X3.out, X4.out, X5.out, X6.out, X7.out, h⟩, fun h => h.2.2.2.2.2.2.2.2⟩)
  rw [HF.out]
  go_wp2
  go_ret
  exact ⟨rfl, below_next HB.out hb1⟩
end Go.Proofs.YtefjoigngnnbjaaDoor
