/- The contracts of slices.DeleteFunc at entries with unpacked's closure, and of step's unpacked. The contract of slices.Delete at entries: one taken out of a row of the call's own. -/
import Derived.Test.YtaicidbopgnmfaaGreatDoorDa
import Derived.Deep.RegionLaw
namespace Go.Proofs.YtaicidbopgnmfaaGreatDoor
set_option linter.unusedSimpArgs false
set_option linter.unusedVariables false
open Go.RowKit
/-- an entry stored into a row -/
theorem putKE {w : World} {B : Nat} {e : TypeId} {Z : Raw → Ent → Prop} {g n cap : Nat} {l : List Ent} (h : Own w B e 11 (RKE Z) (.slice (some ⟨g, 0, none⟩) n cap) l) {i : Nat} {x y : Ent} {s : Raw} (hx : l[i]? = some x) (hs : Z s y) :
    Own (((((((((((w.setCell ⟨g, i * 11, none⟩ (.string (bs y.pkg.name))).setCell ⟨g, i * 11 + 1, none⟩ (.string (bs y.pkg.ver))).setCell ⟨g, i * 11 + 2, none⟩ (.slice s.a1 y.pkg.pre.length s.c1)).setCell ⟨g, i * 11 + 3, none⟩ (.slice s.a2 y.pkg.dep.length s.c2)).setCell ⟨g, i * 11 + 4, none⟩ (.slice s.a3 y.pkg.rcm.length s.c3)).setCell ⟨g, i * 11 + 5, none⟩ (.slice s.a4 y.pkg.con.length s.c4)).setCell ⟨g, i * 11 + 6, none⟩ (.slice s.a5 y.pkg.brk.length s.c5)).setCell ⟨g, i * 11 + 7, none⟩ (.slice s.a6 y.pkg.prv.length s.c6)).setCell ⟨g, i * 11 + 8, none⟩ (.bool y.pkg.ess)).setCell ⟨g, i * 11 + 9, none⟩ (.bool y.conf)).setCell ⟨g, i * 11 + 10, none⟩ (.bool y.hold))
      B e 11 (RKE Z) (.slice (some ⟨g, 0, none⟩) n cap) (l.set i y) := by
  obtain ⟨css, hl, hR, ho⟩ := h.raw
  have hil : i < css.length := by rw [hl]; exact (List.getElem?_eq_some_iff.1 hx).1
  obtain ⟨_, h2⟩ := hR i _ x (List.getElem?_eq_getElem hil) hx
  have nine : ∀ {cs : List Value}, cs.length = 11 → ∃ c0 c1 c2 c3 c4 c5 c6 c7 c8 c9 c10, cs = [c0, c1, c2, c3, c4, c5, c6, c7, c8, c9, c10] := fun {cs} h => by
    match cs, h with
    | [c0, c1, c2, c3, c4, c5, c6, c7, c8, c9, c10], _ => exact ⟨c0, c1, c2, c3, c4, c5, c6, c7, c8, c9, c10, rfl⟩
  obtain ⟨c0, c1, c2, c3, c4, c5, c6, c7, c8, c9, c10, hc⟩ := nine h2
  have s1 := set11 ho (i := i) (by rw [List.getElem?_eq_getElem hil, hc]) (.string (bs y.pkg.name)) (.string (bs y.pkg.ver)) (.slice s.a1 y.pkg.pre.length s.c1) (.slice s.a2 y.pkg.dep.length s.c2) (.slice s.a3 y.pkg.rcm.length s.c3) (.slice s.a4 y.pkg.con.length s.c4) (.slice s.a5 y.pkg.brk.length s.c5) (.slice s.a6 y.pkg.prv.length s.c6) (.bool y.pkg.ess) (.bool y.conf) (.bool y.hold)
  refine Own.unraw s1 (by simp [hl]) fun m cs z e1 e2 => ?_
  rw [List.getElem?_set] at e1 e2
  by_cases hm : i = m
  · rw [if_pos hm, if_pos hil] at e1
    rw [if_pos hm, if_pos (by omega)] at e2
    injection e1 with e1
    injection e2 with e2
    subst e1 e2
    exact ⟨⟨s, rfl, hs⟩, rfl⟩
  · rw [if_neg hm] at e1 e2
    exact hR m cs z e1 e2
theorem grown_puts {w : World} {g : Nat} {vs : List (Nat × Value)} : w.grownBy (vs.foldl (fun W x => W.setCell ⟨g, x.1, none⟩ x.2) w) (some g) := by
  suffices ∀ W : World, w.grownBy W (some g) → w.grownBy (vs.foldl (fun W x => W.setCell ⟨g, x.1, none⟩ x.2) W) (some g) from this w (grown_refl w _)
  induction vs with
  | nil => exact fun W h => h
  | cons x vs ih => exact fun W h => ih _ (only_set h x.1 x.2)
theorem UpE.only {l : List Ent} (h : UpE l) {k j : Nat} {x y : Ent} {n : List UInt8} (hk : l[k]? = some x) (hx : x.pkg.name = n) (hj : l[j]? = some y) (hne : j ≠ k) : nameE n y = false := by
  rcases hn : nameE n y
  · rfl
  · exact absurd (h.uniq hj hk ((name_eq hn).trans hx.symm)) hne
theorem UpE.others_take {l : List Ent} (h : UpE l) {k : Nat} {x : Ent} {n : List UInt8} (hk : l[k]? = some x) (hx : x.pkg.name = n) : othersE n (l.take (k + 1)) = l.take k := by
  have hu : UpE (l.take (k + 1)) := List.Pairwise.sublist (List.take_sublist _ _) h
  rw [hu.others_at (i := k) (x := x) (by rw [List.getElem?_take, if_pos (by omega)]; exact hk) hx, List.take_take, Nat.min_eq_left (by omega), List.drop_of_length_le (by simp; omega), List.append_nil]
theorem others_step {l : List Ent} {j : Nat} {q : Ent} {n : List UInt8} (hq : l[j]? = some q) (hn : nameE n q = false) : othersE n (l.take (j + 1)) = othersE n (l.take j) ++ [q] := by
  unfold othersE
  rw [take_step hq, List.filter_append]
  simp [hn]
theorem take_set {α : Type} {c : List α} {i : Nat} {x q : α} (h : c[i]? = some x) : (c.set i q).take (i + 1) = c.take i ++ [q] := by
  have hi := (List.getElem?_eq_some_iff.1 h).1
  rw [take_step (List.getElem?_set_self hi), List.take_set_of_le (Nat.le_refl _)]
theorem drop_set {α : Type} {c : List α} {i : Nat} {q : α} : (c.set i q).drop (i + 1 + 1) = c.drop (i + 1 + 1) := by
  rw [List.drop_set_of_lt (by omega)]
theorem HCD2 {α : Type} {c l : List α} {i : Nat} (h : c.drop i = l.drop i) : c.drop (i + 1) = l.drop (i + 1) := by
  rw [← List.drop_drop, ← List.drop_drop, h]
theorem grown_setCells {g : Nat} : ∀ (vs : List Value) (o : Nat) (w : World), w.grownBy (w.setCells g o vs) (some g) := fun vs o w => by
  suffices ∀ (vs : List Value) (o : Nat) (W : World), w.grownBy W (some g) → w.grownBy (W.setCells g o vs) (some g) from this vs o w (grown_refl w _)
  intro vs
  induction vs with
  | nil => exact fun _ W h => h
  | cons v vs ih => exact fun o W h => ih (o + 1) _ (only_set h o v)
theorem zEnt : ∀ W : World, (zeroValue 45).run Tryz.prog W = .ok (.agg #[.string (bs []), .string (bs []), .slice none 0 0, .slice none 0 0, .slice none 0 0, .slice none 0 0, .slice none 0 0, .slice none 0 0, .bool false, .bool false, .bool false]) W := fun W => by kernel_rfl
set_option maxRecDepth 100000 in
set_option maxHeartbeats 2000000 in
theorem del_any (w0 : World) (C B gp gx g cap n : Nat) (p : Pkg) (rp : Raw) (l : List Ent) (w : World) (hu : UD w0 w C B gp gx p rp false (.slice (some ⟨g, 0, none⟩) n cap) l) (hn : l.length = n) (hs : n ≤ 1000) (hup : UpE l) :
    Calls Tryz.prog 146 #[.slice (some ⟨g, 0, none⟩) n cap, .func (.func 147) #[] #[.pointer (some ⟨gp, 0, none⟩), .pointer (some ⟨gx, 0, none⟩)]] w fun e w' => e = .returned (.slice (some ⟨g, 0, none⟩) (othersE p.name l).length cap) ∧ UD w0 w' C B gp gx p rp (holdW l p.name) (.slice (some ⟨g, 0, none⟩) (othersE p.name l).length cap) (othersE p.name l) := by
  have HU0 := Lib.hid hu
  have HN := Lib.hid hn
  have HUP := Lib.hid hup
  have hbn : n ≤ 9223372036854775807 := by omega
  have hcap := hu.own.cap_le
  rw [hn] at hcap
  clear hu hup
  go_enter Tryz.func146, Tryz.ntmps146
  go_wp2_with fail
  refine (uidx_any w0 C B gp gx g cap n p rp l w HU0.out HN.out hs).mono ?_
  rintro e w1 ⟨rfl, hu1⟩
  have HU1 := Lib.hid hu1
  clear hu1 HU0
  rcases idx_casesE (nameE p.name) l with ⟨h1, h2⟩ | ⟨k, x, h1, hx, _, h4, h5⟩
  · rw [h1]
    have HO := Lib.hid (show othersE p.name l = l from others_no h2)
    clear h1 h2
    go_wp2
    go_ret
    rw [HO.out, HN.out]
    exact ⟨rfl, HU1.out⟩
  · rw [h1]
    have HX := Lib.hid hx
    have HNM := Lib.hid (name_eq h4)
    have hkn : k < n := by rw [← hn]; exact (List.getElem?_eq_some_iff.1 hx).1
    have hkb : ((k : Int) == -1) = false := by rw [beq_eq_false_iff_ne]; omega
    obtain ⟨hd, hhd⟩ : ∃ hd, hd = holdW l p.name := ⟨_, rfl⟩
    rw [← hhd] at HU1
    have HHD := Lib.hid hhd
    clear h1 hx h4 h5 hhd
    go_wp2_with fail
    go_loopw [5, 6] (fun iv jv wr => ∃ (i : Nat) (c : List Ent), iv = .int .i64 (i : Nat) ∧ jv = .int .i64 ((i : Int) + 1) ∧ k ≤ i ∧ i < n ∧ UD w0 wr C B gp gx p rp hd (.slice (some ⟨g, 0, none⟩) n cap) c ∧ c.length = n ∧ c.take i = othersE p.name (l.take (i + 1)) ∧ c.drop (i + 1) = l.drop (i + 1)) (fun iv _ _ => n - (intOf iv).toNat)
    case atStart => exact ⟨k, l, rfl, rfl, Nat.le_refl _, hkn, HU1.out, HN.out, (HUP.out.others_take HX.out HNM.out).symm, rfl⟩
    case round =>
      clear HU1
      obtain ⟨i, c, rfl, rfl, hki, hin, hu, hcl, hct, hcd⟩ := hrel
      have HU := Lib.hid hu
      have HCL := Lib.hid hcl
      have HCT := Lib.hid hct
      have HCD := Lib.hid hcd
      clear hu hcl hct hcd
      by_cases hlt : i + 1 < n
      · obtain ⟨q, r, hq, hz, e0, e1, e2, e3, e4, e5, e6, e7, e8, e9, e10⟩ := HU.out.own.atKE (i := i + 1) (by rw [HCL.out]; omega) (by rw [HCL.out]; omega)
        have hlq : l[i + 1]? = some q := by
          have h1 := congrArg (fun z => z[0]?) HCD.out
          simp only [List.getElem?_drop, Nat.add_zero] at h1
          rw [← h1]; exact hq
        have HLQ := Lib.hid hlq
        have HNQ := Lib.hid (HUP.out.only HX.out HNM.out hlq (by omega))
        have HZ := Lib.hid hz
        have hi0 : (0 : Int) ≤ (i : Int) + 1 := by omega
        have hi1 : (i : Int) + 1 < (n : Int) := by omega
        have hit : ((i : Int) + 1).toNat = i + 1 := by omega
        clear hq hz hlq
        go_wp2_with fail
        clear e0 e1 e2 e3 e4 e5 e6 e7 e8 e9 e10
        have HUa := Lib.hid (HU.out.alloc (.cells #[.string (bs (q).pkg.name), .string (bs (q).pkg.ver), .slice (r).a1 (q).pkg.pre.length (r).c1, .slice (r).a2 (q).pkg.dep.length (r).c2, .slice (r).a3 (q).pkg.rcm.length (r).c3, .slice (r).a4 (q).pkg.con.length (r).c4, .slice (r).a5 (q).pkg.brk.length (r).c5, .slice (r).a6 (q).pkg.prv.length (r).c6, .bool (q).pkg.ess, .bool (q).conf, .bool (q).hold] 45))
        have hnx : gx ≠ wr.heap.size := Nat.ne_of_lt HU.out.bx.lt
        refine (ucl_any q r p rp hd gp gx _ HUa.out.bp HUa.out.bx HUa.out.ne).mono ?_
        rintro e w2 ⟨rfl, hg2, hx2⟩
        rw [hld_no HNQ.out] at hx2
        rw [HNQ.out]
        have HV := Lib.hid ((blk_new1 wr 45 #[.string (bs (q).pkg.name), .string (bs (q).pkg.ver), .slice (r).a1 (q).pkg.pre.length (r).c1, .slice (r).a2 (q).pkg.dep.length (r).c2, .slice (r).a3 (q).pkg.rcm.length (r).c3, .slice (r).a4 (q).pkg.con.length (r).c4, .slice (r).a5 (q).pkg.brk.length (r).c5, .slice (r).a6 (q).pkg.prv.length (r).c6, .bool (q).pkg.ess, .bool (q).conf, .bool (q).hold]).grown hg2 (fun e => hnx (Option.some.inj e).symm))
        have HZ2 := Lib.hid ((HZ.out.keep (KeepB.alloc (T := fun t => TB t = true) (.cells #[.string (bs (q).pkg.name), .string (bs (q).pkg.ver), .slice (r).a1 (q).pkg.pre.length (r).c1, .slice (r).a2 (q).pkg.dep.length (r).c2, .slice (r).a3 (q).pkg.rcm.length (r).c3, .slice (r).a4 (q).pkg.con.length (r).c4, .slice (r).a5 (q).pkg.brk.length (r).c5, .slice (r).a6 (q).pkg.prv.length (r).c6, .bool (q).pkg.ess, .bool (q).conf, .bool (q).hold] 45))).keep (keepB_only HUa.out.bx (by decide) hg2))
        have HU2 := Lib.hid (HUa.out.call hg2 hx2)
        clear hg2 hx2 HUa hnx
        obtain ⟨d0, d1, d2, d3, d4, d5, d6, d7, d8, d9, d10⟩ := blk11 HV.out
        obtain ⟨q', r', hq', _, g0, g1, g2, g3, g4, g5, g6, g7, g8, g9, g10⟩ := HU2.out.own.atKE (i := i) (by rw [HCL.out]; omega) (by rw [HCL.out]; omega)
        have HQ' := Lib.hid hq'
        have f0 := HU2.out.own.frz (i * 11)
        have f1 := HU2.out.own.frz (i * 11 + 1)
        have f2 := HU2.out.own.frz (i * 11 + 2)
        have f3 := HU2.out.own.frz (i * 11 + 3)
        have f4 := HU2.out.own.frz (i * 11 + 4)
        have f5 := HU2.out.own.frz (i * 11 + 5)
        have f6 := HU2.out.own.frz (i * 11 + 6)
        have f7 := HU2.out.own.frz (i * 11 + 7)
        have f8 := HU2.out.own.frz (i * 11 + 8)
        have f9 := HU2.out.own.frz (i * 11 + 9)
        have f10 := HU2.out.own.frz (i * 11 + 10)
        have hgl := HU2.out.own.sizeLt
        have hj0 : (0 : Int) ≤ (i : Int) := Int.natCast_nonneg _
        have hj1 : (i : Int) < (n : Int) := by omega
        have hjt : ((i : Int)).toNat = i := Int.toNat_natCast _
        clear hq'
        go_wp2_with fail
        have HP := Lib.hid (putKE HU2.out.own HQ'.out HZ2.out)
        have HG := Lib.hid (grown_puts (w := w2) (g := g) (vs := [(i * 11, .string (bs q.pkg.name)), (i * 11 + 1, .string (bs q.pkg.ver)), (i * 11 + 2, .slice r.a1 q.pkg.pre.length r.c1), (i * 11 + 3, .slice r.a2 q.pkg.dep.length r.c2), (i * 11 + 4, .slice r.a3 q.pkg.rcm.length r.c3), (i * 11 + 5, .slice r.a4 q.pkg.con.length r.c4), (i * 11 + 6, .slice r.a5 q.pkg.brk.length r.c5), (i * 11 + 7, .slice r.a6 q.pkg.prv.length r.c6), (i * 11 + 8, .bool q.pkg.ess), (i * 11 + 9, .bool q.conf), (i * 11 + 10, .bool q.hold)]))
        go_roundw
        case rel => exact ⟨i + 1, c.set i q, by simp, by simp, by omega, hlt, HU2.out.row HP.out HG.out (HU2.out.own.base (g := g) rfl).1 HU2.out.own.rowBlk, by rw [List.length_set]; exact HCL.out, by rw [take_set HQ'.out, HCT.out, others_step HLQ.out HNQ.out], by rw [drop_set, HCD2 HCD.out]⟩
        case measure => (try simp only [intOf]); omega
      · obtain rfl : n = i + 1 := by omega
        have HOT := Lib.hid (show othersE p.name l = c.take i by rw [HCT.out, List.take_of_length_le (by rw [HN.out]; exact Nat.le_refl _)])
        have hol : (c.take i).length = i := by rw [List.length_take, HCL.out]; omega
        have HOL := Lib.hid hol
        have HCU := Lib.hid (HU.out.own.cut (m := i) (by rw [HCL.out]; omega))
        have hzc : (Value.agg #[.string (bs []), .string (bs []), .slice none 0 0, .slice none 0 0, .slice none 0 0, .slice none 0 0, .slice none 0 0, .slice none 0 0, .bool false, .bool false, .bool false] : Value).cells.size = 11 := by kernel_rfl
        obtain ⟨zs, hzs⟩ : ∃ zs, zs = (Builtin.zeroCells (Value.agg #[.string (bs []), .string (bs []), .slice none 0 0, .slice none 0 0, .slice none 0 0, .slice none 0 0, .slice none 0 0, .slice none 0 0, .bool false, .bool false, .bool false] : Value).cells 1).toList := ⟨_, rfl⟩
        have hzl : zs.length = 11 := by rw [hzs, zeros_len, hzc]
        have hcl : ∀ ty, (Builtin.clear_ #[22] ty #[.slice (some ⟨g, i * 11, none⟩) 1 (cap - i)]).run Tryz.prog wr = .ok (.tuple #[]) (wr.setCells g (i * 11) zs) := fun ty => by
          rw [hzs]
          refine run_clear_many wr 22 45 ty _ Tryz.underlying22 zEnt (by decide +kernel) g (i * 11) 1 (cap - i) (by decide) (fun j hj => ?_) (fun j hj => ?_)
          · rw [hzc] at hj
            exact (HU.out.own.spare (j := i * 11 + j) (by have := Nat.mul_le_mul_right 11 hcap.1; omega)).1
          · exact HU.out.own.frz _
        clear hol hzs
        go_wp2_with fail
        go_ret
        rw [HOT.out, HOL.out, ← HHD.out]
        have h1 := HCU.out.behind (i * 11) (by rw [HOL.out]; exact Nat.le_refl _) zs (by rw [hzl]; have := Nat.mul_le_mul_right 11 hcap.1; omega)
        exact ⟨rfl, HU.out.row h1 (grown_setCells _ _ _) (HU.out.own.base (g := g) rfl).1 HU.out.own.rowBlk⟩
set_option maxRecDepth 100000 in
theorem uidx_nil (fv : Value) (w : World) : Calls Tryz.prog 180 #[.slice none 0 0, fv] w fun e w' => e = .returned (.int .i64 (-1)) ∧ w = w' := by
  go_enter Tryz.func180, Tryz.ntmps180
  go_wp2
  go_loopw [8] (fun i wr => i = .int .i64 0 ∧ w = wr) (fun i _ => 0)
  case atStart => exact ⟨rfl, rfl⟩
  case round =>
    obtain ⟨rfl, rfl⟩ := hrel
    go_wp2
    go_ret
    exact ⟨rfl, rfl⟩
set_option maxRecDepth 100000 in
theorem del_nil (fv : Value) (w : World) : Calls Tryz.prog 146 #[.slice none 0 0, fv] w fun e w' => e = .returned (.slice none 0 0) ∧ w = w' := by
  go_enter Tryz.func146, Tryz.ntmps146
  go_wp2_with (go_at_call 180; refine (uidx_nil _ _).mono ?_; rintro e w1 ⟨rfl, rfl⟩)
  go_ret
  exact ⟨rfl, rfl⟩
theorem Own.low {α : Type} {w : World} {B B' : Nat} {e : TypeId} {k : Nat} {R : List Value → α → Prop} {v : Value} {l : List α} (h : Own w B e k R v l) (hb : B' ≤ B) : Own w B' e k R v l := by
  obtain ⟨css, hl, hR, hlen, ho⟩ := h
  refine ⟨css, hl, hR, hlen, ?_⟩
  rcases ho with ⟨rfl, h0⟩ | ⟨g, cap, cur, rfl, hB, hrest⟩
  · exact .inl ⟨rfl, h0⟩
  · exact .inr ⟨g, cap, cur, rfl, Nat.le_trans hb hB, hrest⟩
/-- of its own, or as it was at the start -/
def ZZ (w W : World) (r : Raw) (x : Ent) : Prop := RZE W r x ∨ RP w r x.pkg
theorem zz_ents {w W : World} {B : Nat} {v : Value} {l : List Ent} (h : Own W B 45 11 (RKE (ZZ w W)) v l) (hb : Below w.heap.size w W) (hz : l.length * 192 ≤ 140737488351232) : ∃ A c, v = .slice A l.length c ∧ Ents W A c l := by
  obtain ⟨A, c, rfl, h3⟩ := h.slc (z := 192) hz
  refine ⟨A, c, rfl, Slc.mono h3 (Kept.refl _) fun cs x ⟨r, e1, e2⟩ => ⟨r, e1, ?_⟩⟩
  rcases e2 with e2 | e2
  · exact e2.kept (Kept.flt TB _)
  · exact e2.kept (Kept.of_below hb)
theorem zz_keep {w W W' : World} {r : Raw} {x : Ent} (h : ZZ w W r x) (hk : KeepB (fun t => TB t = true) W W') : ZZ w W' r x := h.imp (fun h => h.keep hk) id
theorem RetEntsF.base {w w1 w' : World} {s : List Ent} {e : Ending} (h : RetEntsF w1 s e w') (hb : Below w.heap.size w w1) : RetEntsF w s e w' := by
  obtain ⟨v, rfl, h1, h2⟩ := h
  exact ⟨v, rfl, h1.low hb.size, below_next hb h2⟩
set_option maxRecDepth 100000 in
set_option maxHeartbeats 1200000 in
theorem unpacked_any (s : List Ent) (A : Option Addr) (c : Nat) (p : Pkg) (rp : Raw) (w : World) (hs : Ents w A c s) (hp : RP w rp p) (hf : ∀ x ∈ s, fewOE x.pkg) (hfp : fewOE p) (hl : s.length ≤ 100) (hup : UpE s) :
    Calls Tryz.prog 104 #[.slice A s.length c, (.agg #[.string (bs (p).name), .string (bs (p).ver), .slice (rp).a1 (p).pre.length (rp).c1, .slice (rp).a2 (p).dep.length (rp).c2, .slice (rp).a3 (p).rcm.length (rp).c3, .slice (rp).a4 (p).con.length (rp).c4, .slice (rp).a5 (p).brk.length (rp).c5, .slice (rp).a6 (p).prv.length (rp).c6, .bool (p).ess])] w (RetEntsF w (unpS s p)) := by
  have HS := Lib.hid hs
  have HP := Lib.hid hp
  have HF := Lib.hid hf
  have HFP := Lib.hid hfp
  have HUP := Lib.hid hup
  clear hs hp hf hfp hup
  go_enter Tryz.func104, Tryz.ntmps104
  go_wp2_with fail
  obtain ⟨W1, hW1⟩ : ∃ W1, W1 = (w.alloc (.cells #[.string (bs (p).name), .string (bs (p).ver), .slice (rp).a1 (p).pre.length (rp).c1, .slice (rp).a2 (p).dep.length (rp).c2, .slice (rp).a3 (p).rcm.length (rp).c3, .slice (rp).a4 (p).con.length (rp).c4, .slice (rp).a5 (p).brk.length (rp).c5, .slice (rp).a6 (p).prv.length (rp).c6, .bool (p).ess] 43)).alloc (.cells #[.string (bs (p).name), .string (bs (p).ver), .slice (rp).a1 (p).pre.length (rp).c1, .slice (rp).a2 (p).dep.length (rp).c2, .slice (rp).a3 (p).rcm.length (rp).c3, .slice (rp).a4 (p).con.length (rp).c4, .slice (rp).a5 (p).brk.length (rp).c5, .slice (rp).a6 (p).prv.length (rp).c6, .bool (p).ess, .bool false, .bool (false)] 45) := ⟨_, rfl⟩
  have HB1 := Lib.hid (show Below w.heap.size w W1 by rw [hW1]; exact below_alloc (below_alloc (Below.refl _ _) _) _)
  have HP1 := Lib.hid (show Blk W1 w.heap.size 43 #[.string (bs (p).name), .string (bs (p).ver), .slice (rp).a1 (p).pre.length (rp).c1, .slice (rp).a2 (p).dep.length (rp).c2, .slice (rp).a3 (p).rcm.length (rp).c3, .slice (rp).a4 (p).con.length (rp).c4, .slice (rp).a5 (p).brk.length (rp).c5, .slice (rp).a6 (p).prv.length (rp).c6, .bool (p).ess] by rw [hW1]; exact (blk_new1 w _ _).alloc _)
  have HX1 := Lib.hid (show Blk W1 (w.heap.size + 1) 45 #[.string (bs (p).name), .string (bs (p).ver), .slice (rp).a1 (p).pre.length (rp).c1, .slice (rp).a2 (p).dep.length (rp).c2, .slice (rp).a3 (p).rcm.length (rp).c3, .slice (rp).a4 (p).con.length (rp).c4, .slice (rp).a5 (p).brk.length (rp).c5, .slice (rp).a6 (p).prv.length (rp).c6, .bool (p).ess, .bool false, .bool (false)] by rw [hW1]; exact blk_new2 w _ _ _)
  have HSZ := Lib.hid (show W1.heap.size = w.heap.size + 2 by rw [hW1]; simp)
  rw [← hW1]
  clear hW1
  refine (sortedE_any A c s W1 (HS.out.kept (Kept.of_below HB1.out)) HF.out (by omega)).mono ?_
  rintro e w2 ⟨v2, rfl, ho2, hb2⟩
  rw [HUP.out.srt] at ho2
  obtain ⟨B, hB⟩ : ∃ B, B = W1.heap.size := ⟨_, rfl⟩
  rw [← hB] at ho2
  have HB2 := Lib.hid (below_next HB1.out hb2)
  have HP2 := Lib.hid (HP1.out.next hb2)
  have HX2 := Lib.hid (HX1.out.next hb2)
  have HBE := Lib.hid (show B = w.heap.size + 2 by rw [hB]; exact HSZ.out)
  have HBW := Lib.hid (show w.heap.size ≤ B by rw [HBE.out]; omega)
  have HB2s := Lib.hid (show B ≤ w2.heap.size by rw [hB]; exact hb2.size)
  have hn1 : w.heap.size ≠ w.heap.size + 1 := by omega
  have HO2 := Lib.hid ho2
  clear ho2 hb2 hB HSZ HP1 HX1 HB1
  rcases own_form HO2.out with ⟨hv, hl0⟩ | ⟨g, cap, hv⟩
  · subst hv
    subst hl0
    obtain ⟨cx0, cx1, cx2, cx3, cx4, cx5, cx6, cx7, cx8, cx9, cx10⟩ := blk11 HX2.out
    obtain ⟨W3, rfl⟩ : ∃ W3 : World, W3 = w2 := ⟨_, rfl⟩
    obtain ⟨ll, hll⟩ : ∃ ll : List Ent, ll = [] := ⟨_, rfl⟩
    have HLL := Lib.hid (show ll.length ≤ 100 by rw [hll]; exact Nat.zero_le _)
    have HUS := Lib.hid (show unpS [] p = srt eLt (ll ++ [⟨p, false, false⟩]) by rw [hll]; rfl)
    have HFF := Lib.hid (show ∀ x ∈ ll ++ [⟨p, false, false⟩], fewOE x.pkg by rw [hll]; intro x hx; simp at hx; subst hx; exact HFP.out)
    have HZ3 := Lib.hid (show Own W3 w.heap.size 45 11 (RKE (ZZ w W3)) (.slice none 0 0) ll by rw [hll]; exact Own.nil_ _ _ _ _ _)
    have HB3 := Lib.hid HB2.out
    have HLE := Lib.hid (show ll.length = 0 by rw [hll]; rfl)
    clear hll
    obtain ⟨v3, hv3⟩ : ∃ v3, v3 = Value.slice none 0 0 := ⟨_, rfl⟩
    rw [← hv3] at HZ3
    have HV3 := Lib.hid hv3
    clear hv3
    go_wp2_with fail
    refine (del_nil _ _).mono ?_
    rintro e w3 ⟨he, rfl⟩
    rw [← HV3.out] at he
    subst he
    go_wp2_with (at_builtin; refine wpList_append_el (by rfl) _ _ 22 (by rfl) w.heap.size 45 _ 11 192 Tryz.underlying22 infEnS rfl (by omega) (RKE (ZZ w W3)) _ ll (by rfl) (HZ3.out.alloc _) ⟨p, false, false⟩ (encE rp ⟨p, false, false⟩) W3.heap.size 1 (by rfl) (blk_new1 _ _ _) ⟨rp, rfl, .inr HP.out⟩ rfl (encE_one _ _) (by have := HLL.out; omega) (by omega) (by simp; have := HB3.out.size; omega) ?_; intro g4 cap4 w4 ho4 hg4; have HK4 := Lib.hid (KeepB.trans (KeepB.alloc (T := fun t => TB t = true) (.cells #[.string (bs (p).name), .string (bs (p).ver), .slice (rp).a1 (p).pre.length (rp).c1, .slice (rp).a2 (p).dep.length (rp).c2, .slice (rp).a3 (p).rcm.length (rp).c3, .slice (rp).a4 (p).con.length (rp).c4, .slice (rp).a5 (p).brk.length (rp).c5, .slice (rp).a6 (p).prv.length (rp).c6, .bool (p).ess, .bool false, .bool (false)] 45)) ((HZ3.out.alloc _).keep hg4 (by decide))); have HO4 := Lib.hid (ho4.mono (RKE.mono fun _ _ h => zz_keep h HK4.out)); have HB4 := Lib.hid ((HZ3.out.alloc _).below (below_alloc HB3.out _) (by simp; have := HB3.out.size; omega) hg4); clear ho4 hg4)
    obtain ⟨A4, c4, hv4, he4⟩ := zz_ents HO4.out HB4.out (by have := HLL.out; rw [List.length_append]; simp; omega)
    rw [hv4]
    have HE4 := Lib.hid he4
    clear hv4 he4
    have hl4 : (ll ++ [(⟨p, false, false⟩ : Ent)]).length ≤ 1000 := by have := HLL.out; rw [List.length_append]; simp; omega
    have HQ5 := Lib.hid (sortedE_any A4 c4 (ll ++ [⟨p, false, false⟩]) w4 HE4.out HFF.out hl4)
    refine HQ5.out.mono ?_
    rintro e w5 hh5
    have HH5 := Lib.hid (hh5.base HB4.out)
    clear hh5
    obtain ⟨v5, h51, h52, h53⟩ := HH5.out
    subst h51
    go_wp2
    go_ret
    rw [← HUS.out] at h52
    exact ⟨v5, rfl, h52, h53⟩
  · subst hv
    have hu2 : UD w w2 w.heap.size B w.heap.size (w.heap.size + 1) p rp false (.slice (some ⟨g, 0, none⟩) s.length cap) s := ⟨HO2.out, HP2.out, HX2.out, HB2.out, by rw [HBE.out]; omega, by rw [HBE.out]; omega, by omega, HBW.out, hn1⟩
    have HU2 := Lib.hid hu2
    obtain ⟨ll, hll⟩ : ∃ ll : List Ent, ll = othersE p.name s := ⟨_, rfl⟩
    have HLL := Lib.hid (show ll.length ≤ 100 by rw [hll]; exact Nat.le_trans (others_len _ _) hl)
    obtain ⟨hd, hhd⟩ : ∃ hd, hd = holdW s p.name := ⟨_, rfl⟩
    have HUS := Lib.hid (show unpS s p = srt eLt (ll ++ [⟨p, false, hd⟩]) by rw [hll, hhd]; rfl)
    have HFF := Lib.hid (show ∀ x ∈ ll ++ [⟨p, false, hd⟩], fewOE x.pkg by
      intro x hx
      rcases List.mem_append.1 hx with hx | hx
      · rw [hll] at hx; exact HF.out x (List.mem_filter.1 hx).1
      · simp at hx; subst hx; exact HFP.out)
    have HD := Lib.hid (del_any w w.heap.size B w.heap.size (w.heap.size + 1) g cap s.length p rp s w2 HU2.out rfl (by omega) HUP.out)
    rw [← hll, ← hhd] at HD
    clear hu2 hll hhd
    go_wp2_with fail
    refine HD.out.mono ?_
    rintro e W3 ⟨rfl, hu3⟩
    have HU3 := Lib.hid hu3
    have HZ3 := Lib.hid ((hu3.own.low HBW.out).mono (RKE.mono fun _ _ h => (show ZZ w W3 _ _ from .inl h)))
    have HB3 := Lib.hid hu3.below
    obtain ⟨cx0, cx1, cx2, cx3, cx4, cx5, cx6, cx7, cx8, cx9, cx10⟩ := blk11 hu3.bx
    clear hu3 HD
    go_wp2_with (at_builtin; refine wpList_append_el (by rfl) _ _ 22 (by rfl) w.heap.size 45 _ 11 192 Tryz.underlying22 infEnS rfl (by omega) (RKE (ZZ w W3)) _ ll (by rfl) (HZ3.out.alloc _) ⟨p, false, hd⟩ (encE rp ⟨p, false, hd⟩) W3.heap.size 1 (by rfl) (blk_new1 _ _ _) ⟨rp, rfl, .inr HP.out⟩ rfl (encE_one _ _) (by have := HLL.out; omega) (by omega) (by simp; have := HB3.out.size; omega) ?_; intro g4 cap4 w4 ho4 hg4; have HK4 := Lib.hid (KeepB.trans (KeepB.alloc (T := fun t => TB t = true) (.cells #[.string (bs (p).name), .string (bs (p).ver), .slice (rp).a1 (p).pre.length (rp).c1, .slice (rp).a2 (p).dep.length (rp).c2, .slice (rp).a3 (p).rcm.length (rp).c3, .slice (rp).a4 (p).con.length (rp).c4, .slice (rp).a5 (p).brk.length (rp).c5, .slice (rp).a6 (p).prv.length (rp).c6, .bool (p).ess, .bool false, .bool (hd)] 45)) ((HZ3.out.alloc _).keep hg4 (by decide))); have HO4 := Lib.hid (ho4.mono (RKE.mono fun _ _ h => zz_keep h HK4.out)); have HB4 := Lib.hid ((HZ3.out.alloc _).below (below_alloc HB3.out _) (by simp; have := HB3.out.size; omega) hg4); clear ho4 hg4)
    obtain ⟨A4, c4, hv4, he4⟩ := zz_ents HO4.out HB4.out (by have := HLL.out; rw [List.length_append]; simp; omega)
    rw [hv4]
    have HE4 := Lib.hid he4
    clear hv4 he4
    have hl4 : (ll ++ [(⟨p, false, hd⟩ : Ent)]).length ≤ 1000 := by have := HLL.out; rw [List.length_append]; simp; omega
    have HQ5 := Lib.hid (sortedE_any A4 c4 (ll ++ [⟨p, false, hd⟩]) w4 HE4.out HFF.out hl4)
    refine HQ5.out.mono ?_
    rintro e w5 hh5
    have HH5 := Lib.hid (hh5.base HB4.out)
    clear hh5
    obtain ⟨v5, h51, h52, h53⟩ := HH5.out
    subst h51
    go_wp2
    go_ret
    rw [← HUS.out] at h52
    exact ⟨v5, rfl, h52, h53⟩
end Go.Proofs.YtaicidbopgnmfaaGreatDoor
namespace Go.Proofs.YtaicidbopgnmfaaGreatDoor
set_option linter.unusedSimpArgs false
set_option linter.unusedVariables false
open Go.RowKit
theorem sz11 : (Value.agg #[.string (bs []), .string (bs []), .slice none 0 0, .slice none 0 0, .slice none 0 0, .slice none 0 0, .slice none 0 0, .slice none 0 0, .bool false, .bool false, .bool false] : Value).cells.size = 11 := by kernel_rfl
theorem addr_add (g o t : Nat) : (⟨g, o, none⟩ : Addr).add t = ⟨g, o + t, none⟩ := Addr.add_mid ..
theorem rke_one {Z : Raw → Ent → Prop} : ∀ cs x, RKE Z cs x → ∀ u ∈ cs, u.oneCell' = true := fun cs x ⟨r, h, _⟩ u hu => by
  subst h
  exact encE_one r x u hu
set_option maxRecDepth 100000 in
set_option maxHeartbeats 2000000 in
theorem sdel_any (B g cap m i : Nat) (Z : Raw → Ent → Prop) (l : List Ent) (w : World) (ho : Own w B 45 11 (RKE Z) (.slice (some ⟨g, 0, none⟩) (m + 1) cap) l) (hn : l.length = m + 1) (hs : m ≤ 1000) (hi : i ≤ m) :
    Calls Tryz.prog 105 #[.slice (some ⟨g, 0, none⟩) (m + 1) cap, .int .i64 i, .int .i64 ((i : Int) + 1)] w fun e w' => e = .returned (.slice (some ⟨g, 0, none⟩) m cap) ∧ Own w' B 45 11 (RKE Z) (.slice (some ⟨g, 0, none⟩) m cap) (l.take i ++ l.drop (i + 1)) ∧ w.grownBy w' (some g) := by
  have hcap := ho.cap_le
  rw [hn] at hcap
  have hmx : cap ≤ 9223372036854775807 := by have := hcap.2; unfold maxLen at this; omega
  obtain ⟨news, hnl, hnc, hno, hnw⟩ := ho.tail rke_one (i + 1) (by omega)
  have HO := Lib.hid ho
  have HN := Lib.hid hn
  have HNW := Lib.hid (hnw i (Nat.le_succ _))
  rw [hn] at hnl
  have hck : (m + 1) * 11 ≤ cap * 11 := Nat.mul_le_mul_right _ hcap.1
  obtain ⟨i0, hi0, hz0, hz1, hz2⟩ := info_parts infEnS
  have s1 : Hid (news.length = (m - i) * 11) := by show _ = _; rw [hnl]; congr 1; omega
  have s2 : Hid (∀ u ∈ news, u.oneCell' = true) := hno
  have s3 : Hid (∀ t, t < news.length → (w.drew.cell? ⟨g, 0 + i * 11 + t, none⟩).isSome = true ∧ w.drew.frozen? ⟨g, 0 + i * 11 + t, none⟩ = false) := fun t ht => by
    rw [Nat.zero_add]
    exact HO.out.drew.spare (j := i * 11 + t) (by rw [hnl] at ht; omega)
  obtain ⟨Ad, hA, hsrc⟩ : ∃ Ad : Addr, (if cap = i + 1 then (some ⟨g, 0, none⟩ : Option Addr) else some ⟨g, (i + 1) * 11, none⟩) = some Ad ∧ Hid (∀ t u, news[t]? = some u → w.drew.cell? (Ad.add t) = some u) := by
    by_cases h : cap = i + 1
    · refine ⟨⟨g, 0, none⟩, by simp [h], fun t u hu => ?_⟩
      have h0 : news.length = 0 := by rw [hnl]; omega
      rw [List.length_eq_zero_iff.1 h0] at hu
      simp at hu
    · refine ⟨⟨g, (i + 1) * 11, none⟩, by simp [h], fun t u hu => ?_⟩
      rw [addr_add]
      exact hnc t u hu
  obtain ⟨W1, hW1⟩ : ∃ W1, W1 = w.drew.setCells g (0 + i * 11) news := ⟨_, rfl⟩
  have HW := Lib.hid hW1
  have hO1 : Own W1 B 45 11 (RKE Z) (.slice (some ⟨g, 0, none⟩) m cap) (l.take i ++ l.drop (i + 1)) := by
    obtain ⟨news', hnl', hnc', hno', hnw'⟩ := HO.out.drew.tail rke_one (i + 1) (by omega)
    have he : news' = news := by
      apply List.ext_getElem?
      intro t
      rcases Nat.lt_or_ge t news.length with ht | ht
      · have h1 := hnc t _ (List.getElem?_eq_getElem ht)
        have h2 := hnc' t _ (List.getElem?_eq_getElem (by rw [hnl', HN.out, ← hnl]; exact ht))
        have h3 : w.drew.cell? ⟨g, (i + 1) * 11 + t, none⟩ = w.cell? ⟨g, (i + 1) * 11 + t, none⟩ := rfl
        rw [h3, h1] at h2
        rw [List.getElem?_eq_getElem ht, List.getElem?_eq_getElem (by rw [hnl', HN.out, ← hnl]; exact ht)]
        exact h2.symm
      · rw [List.getElem?_eq_none ht, List.getElem?_eq_none (by rw [hnl', HN.out, ← hnl]; exact ht)]
    have h4 := hnw' i (Nat.le_succ _)
    rw [he, HN.out, show m + 1 - (i + 1 - i) = m from by omega] at h4
    rw [hW1, Nat.zero_add]
    exact h4
  have HO1 := Lib.hid hO1
  have HG1 := Lib.hid (show w.grownBy W1 (some g) by rw [hW1]; exact (only_drewN (grown_refl w (some g)) 1 |> fun h => grown_trans h (grown_setCells news (0 + i * 11) w.drew)))
  have hml : (l.take i ++ l.drop (i + 1)).length = m := by simp; omega
  have HML := Lib.hid hml
  obtain ⟨zs, hzs⟩ : ∃ zs, zs = (Builtin.zeroCells (Value.agg #[.string (bs []), .string (bs []), .slice none 0 0, .slice none 0 0, .slice none 0 0, .slice none 0 0, .slice none 0 0, .slice none 0 0, .bool false, .bool false, .bool false] : Value).cells 1).toList := ⟨_, rfl⟩
  have hzl : zs.length = 11 := by rw [hzs, zeros_len, sz11]
  have hcl : ∀ ty, (Builtin.clear_ #[22] ty #[.slice (some ⟨g, m * 11, none⟩) 1 (cap - m)]).run Tryz.prog W1 = .ok (.tuple #[]) (W1.setCells g (m * 11) zs) := fun ty => by
    rw [hzs]
    refine run_clear_many W1 22 45 ty _ Tryz.underlying22 zEnt (by decide +kernel) g (m * 11) 1 (cap - m) (by decide) (fun j hj => ?_) (fun j hj => ?_)
    · rw [sz11] at hj
      exact (HO1.out.spare (j := m * 11 + j) (by omega)).1
    · exact HO1.out.frz _
  have HZ := Lib.hid hzl
  have hne : ((i : Int) == (i : Int) + 1) = false := by rw [beq_eq_false_iff_ne]; omega
  have hi0' : (0 : Int) ≤ (i : Int) := Int.natCast_nonneg _
  have hj0' : (0 : Int) ≤ (i : Int) + 1 := by omega
  have hic : i ≤ cap := by omega
  have hjc : i + 1 ≤ cap := by omega
  clear hO1 hml hzs hzl hW1 hno hnc hnw hnl ho
  go_enter Tryz.func105, Tryz.ntmps105
  go_wp2_with fail
  go_region_law (refine step_append_room rfl (.tmp 22) (.tmp 25) 22 rfl 45 i0 11 Tryz.underlying22 hi0 hz1 g 0 i cap (by simp [Act.eval, Act.put]) Ad (m - i) (cap - (i + 1)) news (by simp [Act.eval, Act.put, hA]; try omega) s1.out hsrc.out s2.out (by omega) s3.out ?_; rw [← HW.out])
  go_wp2
  go_ret
  exact ⟨rfl, HO1.out.behind (m * 11) (by rw [HML.out]; exact Nat.le_refl _) zs (by rw [HZ.out]; omega), grown_trans HG1.out (grown_setCells _ _ _)⟩
end Go.Proofs.YtaicidbopgnmfaaGreatDoor
