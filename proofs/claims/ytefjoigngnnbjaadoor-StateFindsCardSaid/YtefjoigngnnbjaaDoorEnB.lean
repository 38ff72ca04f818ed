/- Are two rows of entries the same: the contracts of the reference's SameEntries and of state.Same. -/
import Derived.Test.YtefjoigngnnbjaaDoorSn
import Derived.Test.YtefjoigngnnbjaaDoorEnF
import Derived.Test.YtefjoigngnnbjaaDoorMk
import Derived.Test.YtefjoigngnnbjaaDoorQk
namespace Go.Proofs.YtefjoigngnnbjaaDoor
set_option linter.unusedSimpArgs false
set_option linter.unusedVariables false
open Go.RowKit
attribute [local irreducible] wpQuiet

theorem ent_eq_iff (x y : Ent) : x = y ↔ x.pkg = y.pkg ∧ x.conf = y.conf ∧ x.hold = y.hold := by
  obtain ⟨a, b, c⟩ := x
  obtain ⟨a', b', c'⟩ := y
  simp only [Ent.mk.injEq]
set_option maxRecDepth 100000 in
set_option maxHeartbeats 1000000 in
theorem sameEnts_any (A B : Option Addr) (c d : Nat) (l m : List Ent) (w : World) (hl : Ents w A c l) (hm : Ents w B d m) :
    Calls Tryd.prog 17 #[.slice A l.length c, .slice B m.length d] w fun e w' => e = .returned (.bool (decide (l = m))) ∧ Below w.heap.size w w' := by
  have hbd := hl.bd
  have hbd2 := hm.bd
  have HL := Lib.hid hl
  have HM := Lib.hid hm
  clear hl hm
  by_cases hlen : l.length = m.length
  · have hlb : ((l.length : Int) != (m.length : Int)) = false := by simp [hlen]
    have hl1 : l.length ≤ m.length := by omega
    have hl2 : m.length ≤ l.length := by omega
    clear hlen
    go_enter Tryd.func17, Tryd.ntmps17
    go_wp2
    go_loopw [13] (fun i wr => ∃ k : Nat, k ≤ l.length ∧ i = .int .i64 k ∧ Below w.heap.size w wr ∧ l.take k = m.take k) (fun i _ => l.length - (intOf i).toNat)
    case atStart => exact ⟨0, Nat.zero_le _, rfl, Below.refl _ _, rfl⟩
    case round =>
      obtain ⟨k, hk, rfl, hb, hn⟩ := hrel
      obtain ⟨wo, rfl⟩ : ∃ wo : World, wo = wr := ⟨_, rfl⟩
      have HB := Lib.hid hb
      have HN := Lib.hid hn
      clear hb hn
      by_cases hlt : k < l.length
      · obtain ⟨x, b, o, r1, hx, rfl, ha1, e0, e1, e2, e3, e4, e5, e6, e7, e8, e9, e10⟩ := HL.out.at_ hlt (Kept.of_below HB.out)
        obtain ⟨y, b', o', r2, hy, rfl, ha2, f0, f1, f2, f3, f4, f5, f6, f7, f8, f9, f10⟩ := HM.out.at_ (by omega : k < m.length) (Kept.of_below HB.out)
        have HX := Lib.hid hx
        have HY := Lib.hid hy
        clear hx hy
        have hi0 : (0 : Int) ≤ (k : Int) := Int.natCast_nonneg _
        have hi1 : (k : Int) < (l.length : Int) := by omega
        have hi2 : (k : Int) < (m.length : Int) := by omega
        have HA1 := Lib.hid (ha1.kept (Kept.of_below HB.out))
        have HA2 := Lib.hid (ha2.kept (Kept.of_below HB.out))
        clear ha1 ha2
        by_cases hp : x.pkg = y.pkg
        · have HSM := Lib.hid (decide_eq_true hp)
          by_cases hc : x.conf = y.conf
          · have hcb : (x.conf == y.conf) = true := by simpa using hc
            have hcn : (x.conf != y.conf) = false := by simpa using hc
            by_cases hh : x.hold = y.hold
            · have hhb : (x.hold == y.hold) = true := by simpa using hh
              have hhn : (x.hold != y.hold) = false := by simpa using hh
              have HEQ := Lib.hid ((ent_eq_iff x y).2 ⟨hp, hc, hh⟩)
              clear hp hc hh
              (have p0 := fun p : Be wo => Be.cell e0 p); (have p1 := fun p : Be wo => Be.cell e1 p); (have p2 := fun p : Be wo => Be.cell e2 p); (have p3 := fun p : Be wo => Be.cell e3 p); (have p4 := fun p : Be wo => Be.cell e4 p); (have p5 := fun p : Be wo => Be.cell e5 p); (have p6 := fun p : Be wo => Be.cell e6 p); (have p7 := fun p : Be wo => Be.cell e7 p); (have p8 := fun p : Be wo => Be.cell e8 p); (have p9 := fun p : Be wo => Be.cell e9 p); (have p10 := fun p : Be wo => Be.cell e10 p)
              (have q0 := fun p : Be wo => Be.cell f0 p); (have q1 := fun p : Be wo => Be.cell f1 p); (have q2 := fun p : Be wo => Be.cell f2 p); (have q3 := fun p : Be wo => Be.cell f3 p); (have q4 := fun p : Be wo => Be.cell f4 p); (have q5 := fun p : Be wo => Be.cell f5 p); (have q6 := fun p : Be wo => Be.cell f6 p); (have q7 := fun p : Be wo => Be.cell f7 p); (have q8 := fun p : Be wo => Be.cell f8 p); (have q9 := fun p : Be wo => Be.cell f9 p); (have q10 := fun p : Be wo => Be.cell f10 p)
              clear e0 e1 e2 e3 e4 e5 e6 e7 e8 e9 e10 f0 f1 f2 f3 f4 f5 f6 f7 f8 f9 f10
              go_wp2
              refine region_be (by kernel_rfl) (by kernel_rfl) ?_
              repeat (quiet_step (first | (go_at_call 35; with_reducible exact Calls.be_of ((same_any x.pkg y.pkg r1 r2 _ (HA1.out.kept (Be.kept _)) (HA2.out.kept (Be.kept _))).mono fun _ _ h => ⟨h.1.trans (congrArg (fun b => Ending.returned (Value.bool b)) HSM.out), h.2⟩))))
              refine wpQuiet_nil ?_
              intro _ hw'
              obtain ⟨pb, hw''⟩ := hw'
              subst hw''
              obtain ⟨W2, hbw⟩ := pb
              dsimp only
              clear p0 p1 p2 p3 p4 p5 p6 p7 p8 p9 p10 q0 q1 q2 q3 q4 q5 q6 q7 q8 q9 q10
              go_wp2
              go_roundw
              case rel => exact ⟨k + 1, by omega, by simp, by have hb0 := HB.out; (repeat (first | assumption | exact Below.refl _ _ | refine below_next ?_ (by assumption) | refine below_drewN ?_ _ | refine below_alloc ?_ _)), take_ext HX.out (by rw [HY.out, HEQ.out]) HN.out⟩
              case measure => (try simp only [intOf]); omega
            · have hhb : (x.hold == y.hold) = false := by simpa using hh
              have hhn : (x.hold != y.hold) = true := by simpa using hh
              have HNE := Lib.hid (show x ≠ y from fun h => hh (by rw [h]))
              clear hp hc hh
              (have p0 := fun p : Be wo => Be.cell e0 p); (have p1 := fun p : Be wo => Be.cell e1 p); (have p2 := fun p : Be wo => Be.cell e2 p); (have p3 := fun p : Be wo => Be.cell e3 p); (have p4 := fun p : Be wo => Be.cell e4 p); (have p5 := fun p : Be wo => Be.cell e5 p); (have p6 := fun p : Be wo => Be.cell e6 p); (have p7 := fun p : Be wo => Be.cell e7 p); (have p8 := fun p : Be wo => Be.cell e8 p); (have p9 := fun p : Be wo => Be.cell e9 p); (have p10 := fun p : Be wo => Be.cell e10 p)
              (have q0 := fun p : Be wo => Be.cell f0 p); (have q1 := fun p : Be wo => Be.cell f1 p); (have q2 := fun p : Be wo => Be.cell f2 p); (have q3 := fun p : Be wo => Be.cell f3 p); (have q4 := fun p : Be wo => Be.cell f4 p); (have q5 := fun p : Be wo => Be.cell f5 p); (have q6 := fun p : Be wo => Be.cell f6 p); (have q7 := fun p : Be wo => Be.cell f7 p); (have q8 := fun p : Be wo => Be.cell f8 p); (have q9 := fun p : Be wo => Be.cell f9 p); (have q10 := fun p : Be wo => Be.cell f10 p)
              clear e0 e1 e2 e3 e4 e5 e6 e7 e8 e9 e10 f0 f1 f2 f3 f4 f5 f6 f7 f8 f9 f10
              go_wp2
              refine region_be (by kernel_rfl) (by kernel_rfl) ?_
              repeat (quiet_step (first | (go_at_call 35; with_reducible exact Calls.be_of ((same_any x.pkg y.pkg r1 r2 _ (HA1.out.kept (Be.kept _)) (HA2.out.kept (Be.kept _))).mono fun _ _ h => ⟨h.1.trans (congrArg (fun b => Ending.returned (Value.bool b)) HSM.out), h.2⟩))))
              refine wpQuiet_nil ?_
              intro _ hw'
              obtain ⟨pb, hw''⟩ := hw'
              subst hw''
              obtain ⟨W2, hbw⟩ := pb
              dsimp only
              clear p0 p1 p2 p3 p4 p5 p6 p7 p8 p9 p10 q0 q1 q2 q3 q4 q5 q6 q7 q8 q9 q10
              go_wp2
              go_ret
              have hf : decide (l = m) = false := by
                rw [decide_eq_false_iff_not]
                intro h
                have h1 := HX.out
                rw [h, HY.out] at h1
                exact HNE.out (Option.some.inj h1).symm
              exact ⟨by rw [hf]; rfl, by have hb0 := HB.out; (repeat (first | assumption | exact Below.refl _ _ | refine below_next ?_ (by assumption) | refine below_drewN ?_ _ | refine below_alloc ?_ _))⟩
          · have hcb : (x.conf == y.conf) = false := by simpa using hc
            have hcn : (x.conf != y.conf) = true := by simpa using hc
            have HNE := Lib.hid (show x ≠ y from fun h => hc (by rw [h]))
            clear hp hc
            (have p0 := fun p : Be wo => Be.cell e0 p); (have p1 := fun p : Be wo => Be.cell e1 p); (have p2 := fun p : Be wo => Be.cell e2 p); (have p3 := fun p : Be wo => Be.cell e3 p); (have p4 := fun p : Be wo => Be.cell e4 p); (have p5 := fun p : Be wo => Be.cell e5 p); (have p6 := fun p : Be wo => Be.cell e6 p); (have p7 := fun p : Be wo => Be.cell e7 p); (have p8 := fun p : Be wo => Be.cell e8 p); (have p9 := fun p : Be wo => Be.cell e9 p); (have p10 := fun p : Be wo => Be.cell e10 p)
            (have q0 := fun p : Be wo => Be.cell f0 p); (have q1 := fun p : Be wo => Be.cell f1 p); (have q2 := fun p : Be wo => Be.cell f2 p); (have q3 := fun p : Be wo => Be.cell f3 p); (have q4 := fun p : Be wo => Be.cell f4 p); (have q5 := fun p : Be wo => Be.cell f5 p); (have q6 := fun p : Be wo => Be.cell f6 p); (have q7 := fun p : Be wo => Be.cell f7 p); (have q8 := fun p : Be wo => Be.cell f8 p); (have q9 := fun p : Be wo => Be.cell f9 p); (have q10 := fun p : Be wo => Be.cell f10 p)
            clear e0 e1 e2 e3 e4 e5 e6 e7 e8 e9 e10 f0 f1 f2 f3 f4 f5 f6 f7 f8 f9 f10
            go_wp2
            refine region_be (by kernel_rfl) (by kernel_rfl) ?_
            repeat (quiet_step (first | (go_at_call 35; with_reducible exact Calls.be_of ((same_any x.pkg y.pkg r1 r2 _ (HA1.out.kept (Be.kept _)) (HA2.out.kept (Be.kept _))).mono fun _ _ h => ⟨h.1.trans (congrArg (fun b => Ending.returned (Value.bool b)) HSM.out), h.2⟩))))
            refine wpQuiet_nil ?_
            intro _ hw'
            obtain ⟨pb, hw''⟩ := hw'
            subst hw''
            obtain ⟨W2, hbw⟩ := pb
            dsimp only
            clear p0 p1 p2 p3 p4 p5 p6 p7 p8 p9 p10 q0 q1 q2 q3 q4 q5 q6 q7 q8 q9 q10
            go_wp2
            go_ret
            have hf : decide (l = m) = false := by
              rw [decide_eq_false_iff_not]
              intro h
              have h1 := HX.out
              rw [h, HY.out] at h1
              exact HNE.out (Option.some.inj h1).symm
            exact ⟨by rw [hf]; rfl, by have hb0 := HB.out; (repeat (first | assumption | exact Below.refl _ _ | refine below_next ?_ (by assumption) | refine below_drewN ?_ _ | refine below_alloc ?_ _))⟩
        · have HSM := Lib.hid (decide_eq_false hp)
          have HNE := Lib.hid (show x ≠ y from fun h => hp (by rw [h]))
          clear hp
          (have p0 := fun p : Be wo => Be.cell e0 p); (have p1 := fun p : Be wo => Be.cell e1 p); (have p2 := fun p : Be wo => Be.cell e2 p); (have p3 := fun p : Be wo => Be.cell e3 p); (have p4 := fun p : Be wo => Be.cell e4 p); (have p5 := fun p : Be wo => Be.cell e5 p); (have p6 := fun p : Be wo => Be.cell e6 p); (have p7 := fun p : Be wo => Be.cell e7 p); (have p8 := fun p : Be wo => Be.cell e8 p); (have p9 := fun p : Be wo => Be.cell e9 p); (have p10 := fun p : Be wo => Be.cell e10 p)
          (have q0 := fun p : Be wo => Be.cell f0 p); (have q1 := fun p : Be wo => Be.cell f1 p); (have q2 := fun p : Be wo => Be.cell f2 p); (have q3 := fun p : Be wo => Be.cell f3 p); (have q4 := fun p : Be wo => Be.cell f4 p); (have q5 := fun p : Be wo => Be.cell f5 p); (have q6 := fun p : Be wo => Be.cell f6 p); (have q7 := fun p : Be wo => Be.cell f7 p); (have q8 := fun p : Be wo => Be.cell f8 p); (have q9 := fun p : Be wo => Be.cell f9 p); (have q10 := fun p : Be wo => Be.cell f10 p)
          clear e0 e1 e2 e3 e4 e5 e6 e7 e8 e9 e10 f0 f1 f2 f3 f4 f5 f6 f7 f8 f9 f10
          go_wp2
          refine region_be (by kernel_rfl) (by kernel_rfl) ?_
          repeat (quiet_step (first | (go_at_call 35; with_reducible exact Calls.be_of ((same_any x.pkg y.pkg r1 r2 _ (HA1.out.kept (Be.kept _)) (HA2.out.kept (Be.kept _))).mono fun _ _ h => ⟨h.1.trans (congrArg (fun b => Ending.returned (Value.bool b)) HSM.out), h.2⟩))))
          refine wpQuiet_nil ?_
          intro _ hw'
          obtain ⟨pb, hw''⟩ := hw'
          subst hw''
          obtain ⟨W2, hbw⟩ := pb
          dsimp only
          clear p0 p1 p2 p3 p4 p5 p6 p7 p8 p9 p10 q0 q1 q2 q3 q4 q5 q6 q7 q8 q9 q10
          go_wp2
          go_ret
          have hf : decide (l = m) = false := by
            rw [decide_eq_false_iff_not]
            intro h
            have h1 := HX.out
            rw [h, HY.out] at h1
            exact HNE.out (Option.some.inj h1).symm
          exact ⟨by rw [hf]; rfl, by have hb0 := HB.out; (repeat (first | assumption | exact Below.refl _ _ | refine below_next ?_ (by assumption) | refine below_drewN ?_ _ | refine below_alloc ?_ _))⟩
      · go_wp2
        go_ret
        have hn := HN.out
        rw [List.take_of_length_le (by omega), List.take_of_length_le (by omega)] at hn
        exact ⟨by simp [hn], HB.out⟩
  · have hlb : ((l.length : Int) != (m.length : Int)) = true := by rw [bne_iff_ne]; omega
    go_enter Tryd.func17, Tryd.ntmps17
    go_wp2
    go_ret
    have hf : decide (l = m) = false := by
      rw [decide_eq_false_iff_not]
      intro h
      exact hlen (by rw [h])
    exact ⟨by rw [hf]; rfl, Below.refl _ _⟩
set_option maxRecDepth 100000 in
set_option maxHeartbeats 1000000 in
theorem sameClo_any (x y : Ent) (r s : Raw) (w : World) (hp : RP w r x.pkg) (hq : RP w s y.pkg) :
    Calls Tryd.prog 41 #[(.agg #[.string (bs (x).pkg.name), .string (bs (x).pkg.ver), .slice (r).a1 (x).pkg.pre.length (r).c1, .slice (r).a2 (x).pkg.dep.length (r).c2, .slice (r).a3 (x).pkg.rcm.length (r).c3, .slice (r).a4 (x).pkg.con.length (r).c4, .slice (r).a5 (x).pkg.brk.length (r).c5, .slice (r).a6 (x).pkg.prv.length (r).c6, .bool (x).pkg.ess, .bool (x).conf, .bool (x).hold]), (.agg #[.string (bs (y).pkg.name), .string (bs (y).pkg.ver), .slice (s).a1 (y).pkg.pre.length (s).c1, .slice (s).a2 (y).pkg.dep.length (s).c2, .slice (s).a3 (y).pkg.rcm.length (s).c3, .slice (s).a4 (y).pkg.con.length (s).c4, .slice (s).a5 (y).pkg.brk.length (s).c5, .slice (s).a6 (y).pkg.prv.length (s).c6, .bool (y).pkg.ess, .bool (y).conf, .bool (y).hold])] w fun e w' => e = .returned (.bool (decide (x = y))) ∧ Below w.heap.size w w' := by
  have HP := Lib.hid hp
  have HQ := Lib.hid hq
  clear hp hq
  by_cases hc : x.conf = y.conf
  · have hcb : (x.conf == y.conf) = true := by simpa using hc
    by_cases hh : x.hold = y.hold
    · have hhb : (x.hold == y.hold) = true := by simpa using hh
      have HE := Lib.hid (show decide (x.pkg = y.pkg) = decide (x = y) by
        rw [decide_eq_decide, ent_eq_iff]
        exact ⟨fun h => ⟨h, hc, hh⟩, fun h => h.1⟩)
      clear hc hh
      go_enter Tryd.func41, Tryd.ntmps41
      go_wp2_with fail
      refine (recSame_any x.pkg y.pkg r s _ (HP.out.kept ((Kept.alloc _ _).trans (Kept.alloc _ _))) (HQ.out.kept ((Kept.alloc _ _).trans (Kept.alloc _ _)))).mono ?_
      rintro e w1 ⟨rfl, hb1⟩
      rw [HE.out]
      go_wp2
      go_ret
      exact ⟨rfl, by (repeat (first | assumption | exact Below.refl _ _ | refine below_next ?_ (by assumption) | refine below_drewN ?_ _ | refine below_alloc ?_ _))⟩
    · have hhb : (x.hold == y.hold) = false := by simpa using hh
      have HE := Lib.hid (show decide (x = y) = false from decide_eq_false fun h => hh (by rw [h]))
      clear hc hh
      go_enter Tryd.func41, Tryd.ntmps41
      go_wp2
      go_ret
      exact ⟨by rw [HE.out]; rfl, by (repeat (first | assumption | exact Below.refl _ _ | refine below_next ?_ (by assumption) | refine below_drewN ?_ _ | refine below_alloc ?_ _))⟩
  · have hcb : (x.conf == y.conf) = false := by simpa using hc
    have HE := Lib.hid (show decide (x = y) = false from decide_eq_false fun h => hc (by rw [h]))
    clear hc
    go_enter Tryd.func41, Tryd.ntmps41
    go_wp2
    go_ret
    exact ⟨by rw [HE.out]; rfl, by (repeat (first | assumption | exact Below.refl _ _ | refine below_next ?_ (by assumption) | refine below_drewN ?_ _ | refine below_alloc ?_ _))⟩
set_option maxRecDepth 100000 in
set_option maxHeartbeats 1000000 in
theorem eqfEnts_any (A B : Option Addr) (c d : Nat) (l m : List Ent) (w : World) (hl : Ents w A c l) (hm : Ents w B d m) :
    Calls Tryd.prog 40 #[.slice A l.length c, .slice B m.length d, .func (.func 41) #[] #[]] w fun e w' => e = .returned (.bool (decide (l = m))) ∧ Below w.heap.size w w' := by
  have hbd := hl.bd
  have hbd2 := hm.bd
  have HL := Lib.hid hl
  have HM := Lib.hid hm
  clear hl hm
  by_cases hlen : l.length = m.length
  · have hlb : ((l.length : Int) != (m.length : Int)) = false := by simp [hlen]
    have hl1 : l.length ≤ m.length := by omega
    have hl2 : m.length ≤ l.length := by omega
    clear hlen
    go_enter Tryd.func40, Tryd.ntmps40
    go_wp2
    go_loopw [17] (fun i wr => ∃ k : Nat, k ≤ l.length ∧ i = .int .i64 k ∧ Below w.heap.size w wr ∧ l.take k = m.take k) (fun i _ => l.length - (intOf i).toNat)
    case atStart => exact ⟨0, Nat.zero_le _, rfl, Below.refl _ _, rfl⟩
    case round =>
      obtain ⟨k, hk, rfl, hb, hn⟩ := hrel
      obtain ⟨wo, rfl⟩ : ∃ wo : World, wo = wr := ⟨_, rfl⟩
      have HB := Lib.hid hb
      have HN := Lib.hid hn
      clear hb hn
      by_cases hlt : k < l.length
      · obtain ⟨x, b, o, r1, hx, rfl, ha1, e0, e1, e2, e3, e4, e5, e6, e7, e8, e9, e10⟩ := HL.out.at_ hlt (Kept.of_below HB.out)
        obtain ⟨y, b', o', r2, hy, rfl, ha2, f0, f1, f2, f3, f4, f5, f6, f7, f8, f9, f10⟩ := HM.out.at_ (by omega : k < m.length) ((Kept.of_below HB.out).trans (Kept.alloc wo (.cells #[.string (bs (x).pkg.name), .string (bs (x).pkg.ver), .slice (r1).a1 (x).pkg.pre.length (r1).c1, .slice (r1).a2 (x).pkg.dep.length (r1).c2, .slice (r1).a3 (x).pkg.rcm.length (r1).c3, .slice (r1).a4 (x).pkg.con.length (r1).c4, .slice (r1).a5 (x).pkg.brk.length (r1).c5, .slice (r1).a6 (x).pkg.prv.length (r1).c6, .bool (x).pkg.ess, .bool (x).conf, .bool (x).hold] 50)))
        have HX := Lib.hid hx
        have HY := Lib.hid hy
        clear hx hy
        have hi0 : (0 : Int) ≤ (k : Int) := Int.natCast_nonneg _
        have hi1 : (k : Int) < (l.length : Int) := by omega
        have hi2 : (k : Int) < (m.length : Int) := by omega
        have HA1 := Lib.hid (ha1.kept (Kept.of_below HB.out))
        have HA2 := Lib.hid (ha2.kept (Kept.of_below HB.out))
        clear ha1 ha2
        go_wp2_with fail
        clear e0 e1 e2 e3 e4 e5 e6 e7 e8 e9 e10 f0 f1 f2 f3 f4 f5 f6 f7 f8 f9 f10
        refine (sameClo_any x y r1 r2 _ (HA1.out.kept ((Kept.alloc _ _).trans (Kept.alloc _ _))) (HA2.out.kept ((Kept.alloc _ _).trans (Kept.alloc _ _)))).mono ?_
        rintro e w1 ⟨rfl, hb1⟩
        go_wp2
        · have hne : x ≠ y := by simpa using (by assumption : (!decide (x = y)) = true)
          go_ret
          have hf : decide (l = m) = false := by
            rw [decide_eq_false_iff_not]
            intro h
            have h1 := HX.out
            rw [h, HY.out] at h1
            exact hne (Option.some.inj h1).symm
          exact ⟨by rw [hf]; rfl, by have hb0 := HB.out; (repeat (first | assumption | exact Below.refl _ _ | refine below_next ?_ (by assumption) | refine below_drewN ?_ _ | refine below_alloc ?_ _))⟩
        · have heq : x = y := by simpa using (by assumption : (!decide (x = y)) = false)
          subst heq
          go_roundw
          case rel => exact ⟨k + 1, by omega, by simp, by have hb0 := HB.out; (repeat (first | assumption | exact Below.refl _ _ | refine below_next ?_ (by assumption) | refine below_drewN ?_ _ | refine below_alloc ?_ _)), take_ext HX.out HY.out HN.out⟩
          case measure => (try simp only [intOf]); omega
      · go_wp2
        go_ret
        have hn := HN.out
        rw [List.take_of_length_le (by omega), List.take_of_length_le (by omega)] at hn
        exact ⟨by simp [hn], HB.out⟩
  · have hlb : ((l.length : Int) != (m.length : Int)) = true := by rw [bne_iff_ne]; omega
    go_enter Tryd.func40, Tryd.ntmps40
    go_wp2
    go_ret
    have hf : decide (l = m) = false := by
      rw [decide_eq_false_iff_not]
      intro h
      exact hlen (by rw [h])
    exact ⟨by rw [hf]; rfl, Below.refl _ _⟩
set_option maxRecDepth 100000 in
theorem stSame_any (A B : Option Addr) (c d : Nat) (l m : List Ent) (w : World) (hl : Ents w A c l) (hm : Ents w B d m) :
    Calls Tryd.prog 20 #[.slice A l.length c, .slice B m.length d] w fun e w' => e = .returned (.bool (decide (l = m))) ∧ Below w.heap.size w w' := by
  go_enter Tryd.func20, Tryd.ntmps20
  go_wp2_with fail
  refine (eqfEnts_any A B c d l m w hl hm).mono ?_
  rintro e w1 ⟨rfl, hb1⟩
  go_wp2
  go_ret
  exact ⟨rfl, hb1⟩
end Go.Proofs.YtefjoigngnnbjaaDoor
