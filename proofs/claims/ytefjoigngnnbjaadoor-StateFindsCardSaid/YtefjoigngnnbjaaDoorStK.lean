/- The contract of state.Wrong. -/
import Derived.Test.YtefjoigngnnbjaaDoorStI2
import Derived.Test.YtefjoigngnnbjaaDoorStI3
namespace Go.Proofs.YtefjoigngnnbjaaDoor
set_option linter.unusedSimpArgs false
set_option linter.unusedVariables false
open Go.RowKit

/-- so few that all that is wrong fits -/
def fewE (l : List Ent) : Prop := l.length ≤ 1000 ∧ ∀ x ∈ l, x.pkg.pre.length + x.pkg.dep.length ≤ 1000000 ∧ x.pkg.con.length + x.pkg.brk.length ≤ 1000000
theorem clash_len (l : List Ent) (at_ : Nat) (kind : Int) (name : List UInt8) (ats : List Atm) : (clashS l at_ kind name ats).length ≤ ats.length * l.length := by
  have := clashS_len l at_ kind name ats ats.length (Nat.le_refl _)
  rwa [List.take_length] at this
theorem wrong1_len {l : List Ent} (h : fewE l) {i : Nat} {x : Ent} (hx : x ∈ l) : (wrong1 l i x).length ≤ 1001000000 := by
  obtain ⟨h1, h2⟩ := h
  obtain ⟨h3, h4⟩ := h2 x hx
  have a1 := lacks_len x.pkg.name true (onS l) x.pkg.pre
  have a2 := lacks_len x.pkg.name false (onS l) x.pkg.dep
  have a3 := clash_len l i 2 x.pkg.name x.pkg.con
  have a4 := clash_len l i 3 x.pkg.name x.pkg.brk
  have a5 : x.pkg.con.length * l.length + x.pkg.brk.length * l.length ≤ 1000000 * 1000 := by
    rw [← Nat.add_mul]
    exact Nat.mul_le_mul h4 h1
  unfold wrong1
  simp only [List.length_append]
  have a6 : (if x.conf then lacksS x.pkg.name false (onS l) x.pkg.dep else []).length ≤ x.pkg.dep.length := by
    split
    · exact a2
    · simp
  omega
def wrongT (l : List Ent) (k : Nat) : List Vio := (l.take k).zipIdx.flatMap fun x => wrong1 l x.2 x.1
theorem wrongT_step {l : List Ent} {k : Nat} {x : Ent} (hx : l[k]? = some x) : wrongT l (k + 1) = wrongT l k ++ wrong1 l k x := flat_step _ hx
theorem wrongT_end {l : List Ent} {k : Nat} (h : l.length ≤ k) : wrongT l k = wrongS l := by
  unfold wrongT wrongS
  rw [List.take_of_length_le h]
theorem wrongT_len {l : List Ent} (h : fewE l) (k : Nat) (hk : k ≤ l.length) : (wrongT l k).length ≤ k * 1001000000 := by
  induction k with
  | zero => simp [wrongT]
  | succ k ih =>
    have h1 := ih (by omega)
    have hx : l[k]? = some (l[k]'(by omega)) := List.getElem?_eq_getElem (by omega)
    have h2 := wrong1_len h (i := k) (List.mem_of_getElem? hx)
    rw [wrongT_step hx, List.length_append]
    omega
theorem onS_step {l : List Ent} {k : Nat} {x : Ent} (hx : l[k]? = some x) : onS (l.take (k + 1)) = onS (l.take k) ++ if x.conf then [x.pkg] else [] := by
  unfold onS
  rw [take_step hx, List.filter_append, List.map_append]
  cases hc : x.conf <;> simp [hc]
theorem onS_len (l : List Ent) (k : Nat) : (onS (l.take k)).length ≤ k := by
  unfold onS
  rw [List.length_map]
  exact Nat.le_trans (List.length_filter_le _ _) (by simp; omega)
/-- a slice of violations is returned -/
def RetVios (w : World) (l : List Vio) (e : Ending) (w' : World) : Prop := ∃ A c, e = .returned (.slice A l.length c) ∧ Vios w' A c l ∧ Below w.heap.size w w'
/-- the gatherer while it takes in what is configured -/
def GatOn (w : World) (A : Option Addr) (n c : Nat) (on : List Pkg) (wr : World) : Prop :=
  ∃ Aon con, Blk wr w.heap.size 88 #[.slice A n c, .slice Aon on.length con, .slice none 0 0] ∧ Own wr w.heap.size 28 9 (RPkg w) (.slice Aon on.length con) on ∧ Below w.heap.size w wr
theorem GatOn.put {w w1 w2 : World} {A : Option Addr} {n c : Nat} {on : List Pkg} {Aon : Option Addr} {con : Nat} {o o' : Obj} {g cap : Nat} {p : Pkg}
    (hB : Blk w1 w.heap.size 88 #[.slice A n c, .slice Aon on.length con, .slice none 0 0]) (ho : Own w1 w.heap.size 28 9 (RPkg w) (.slice Aon on.length con) on) (hb : Below w.heap.size w w1)
    (h2 : Own w2 w.heap.size 28 9 (RPkg w) (.slice (some ⟨g, 0, none⟩) (on.length + 1) cap) (on ++ [p])) (hg : ((w1.alloc o).alloc o').grownBy w2 (Value.slice Aon on.length con).ownBlock) :
    GatOn w A n c (on ++ [p]) (w2.setCell ⟨w.heap.size, 1, none⟩ (.slice (some ⟨g, 0, none⟩) (on.length + 1) cap)) ∧ Blk w2 w.heap.size 88 #[.slice A n c, .slice Aon on.length con, .slice none 0 0] := by
  have hB2 : Blk w2 w.heap.size 88 #[.slice A n c, .slice Aon on.length con, .slice none 0 0] := ((ho.alloc o).alloc o').blk ((hB.alloc o).alloc o') (by decide) hg
  refine ⟨⟨some ⟨g, 0, none⟩, cap, ?_, ?_, ?_⟩, hB2⟩
  · have := hB2.set_ 1 (.slice (some ⟨g, 0, none⟩) (on.length + 1) cap)
    simpa using this
  · have := h2.setCell (p := ⟨w.heap.size, 1, none⟩) (fun cur hc => by
      unfold Blk at hB2
      rw [hB2] at hc
      injection hc with hc
      injection hc with _ ht
      exact absurd ht (by decide)) (.slice (some ⟨g, 0, none⟩) (on.length + 1) cap)
    simpa using this
  · exact (((ho.alloc o).alloc o').below (below_alloc (below_alloc hb o) o') (by have := hb.size; simp; omega) hg).setCell (Nat.le_refl _) _
set_option maxRecDepth 100000 in
set_option maxHeartbeats 1600000 in
theorem wrong_any (A : Option Addr) (c : Nat) (l : List Ent) (w : World) (hl : Ents w A c l) (hf : fewE l) :
    Calls Tryd.prog 34 #[.slice A l.length c] w (RetVios w (wrongS l)) := by
  have hbd := hl.bd
  have hfl := hf.1
  have HF := Lib.hid hf
  have HL := Lib.hid hl
  clear hl hf
  go_enter Tryd.func34, Tryd.ntmps34
  go_wp2
  go_loopw [13] (fun i wr => ∃ k : Nat, k ≤ l.length ∧ i = .int .i64 k ∧ GatOn w A l.length c (onS (l.take k)) wr) (fun i _ => l.length - (intOf i).toNat)
  case atStart => exact ⟨0, Nat.zero_le _, rfl, none, 0, blk_new1 _ _ _, Own.nil_ _ _ _ _ _, (Below.refl _ _).alloc (Nat.le_refl _) _⟩
  case round =>
    obtain ⟨k, hk, rfl, hg⟩ := hrel
    by_cases hlt : k < l.length
    · obtain ⟨Aon, con, hB, ho, hb⟩ := hg
      have hon := onS_len l k
      generalize hR : onS (l.take k) = R at hB ho hon
      have HR := Lib.hid hR
      have HB := Lib.hid hB
      have HO := Lib.hid ho
      have HBw := Lib.hid hb
      obtain ⟨x0, x1, x2⟩ := blk3 hB
      have hsz : w.heap.size < wr.heap.size := hB.lt
      clear hB ho hb hR
      obtain ⟨q, b, o, r, hq, rfl, hr, e0, e1, e2, e3, e4, e5, e6, e7, e8, e9, e10⟩ := HL.out.at_ hlt (Kept.of_below HBw.out)
      have HQ := Lib.hid hq
      clear hq
      rcases hcf : q.conf
      · rw [hcf] at e9
        have HCF := Lib.hid hcf
        clear hcf
        go_wp2
        go_roundw
        case rel => exact ⟨k + 1, by omega, by simp, by
          rw [onS_step HQ.out, HCF.out, HR.out]
          simp only [Bool.false_eq_true, if_false, List.append_nil]
          exact ⟨Aon, con, HB.out.alloc _, HO.out.alloc _, below_alloc HBw.out _⟩⟩
        case measure => (try simp only [intOf]); omega
      · rw [hcf] at e9
        have HCF := Lib.hid hcf
        clear hcf
        go_wp2
        go_region_law
          ((refine step_append_el (by rfl) _ _ 22 (by rfl) w.heap.size 28 _ 9 184 Tryd.underlying22 infPkg rfl (by omega) (RPkg w) _ R (by rfl) ((HO.out.alloc _).alloc _).drew q.pkg (encK r q.pkg) (wr.heap.size + 1) 1 (by rfl) (blk_new2 _ _ _ _) ⟨r, rfl, hr⟩ rfl (encK_one _ _) (by omega) (by omega) (by simp; have := HBw.out.size; omega) ?_; intro g cap w2 ho2 hg2; have hg3 := grown_undrew hg2; obtain ⟨p1, p2⟩ := GatOn.put HB.out HO.out HBw.out ho2 hg3; obtain ⟨y0, y1, y2⟩ := blk3 p2; have yf := p2.frozen 1))
        all_goals
          go_wp2
          go_roundw
          case rel => exact ⟨k + 1, by omega, by simp, by
            rw [onS_step HQ.out, HCF.out, HR.out]
            simp only [if_true]
            simpa using p1⟩
          case measure => (try simp only [intOf]); omega
    · rw [take_end hk hlt] at hg
      obtain ⟨Aon, con, hB, ho, hb⟩ := hg
      have hon := onS_len l l.length
      rw [List.take_length] at hon
      have HB := Lib.hid (show Gat w w.heap.size A l.length c Aon (onS l).length con (wrongT l 0) wr from ⟨none, 0, by simpa [wrongT] using hB, by simpa [wrongT] using Own.nil_ wr w.heap.size 68 5 RVio, hb⟩)
      have HO := Lib.hid ho
      clear hB ho hb
      obtain ⟨wx, rfl⟩ : ∃ wx : World, wx = wr := ⟨_, rfl⟩
      go_wp2
      go_loopw [33] (fun i wr => ∃ k : Nat, k ≤ l.length ∧ i = .int .i64 k ∧ Gat w w.heap.size A l.length c Aon (onS l).length con (wrongT l k) wr ∧ Own wr w.heap.size 28 9 (RPkg w) (.slice Aon (onS l).length con) (onS l)) (fun i _ => l.length - (intOf i).toNat)
      case atStart => exact ⟨0, Nat.zero_le _, rfl, HB.out, HO.out⟩
      case round =>
        obtain ⟨k, hk, rfl, hg, ho⟩ := hrel
        by_cases hlt : k < l.length
        · have hgb := hg
          obtain ⟨_, _, _, _, hbw⟩ := hgb
          obtain ⟨q, b, o, r, hq, rfl, hr, e0, e1, e2, e3, e4, e5, e6, e7, e8, e9, e10⟩ := HL.out.at_ hlt (Kept.of_below hbw)
          have hw := wrongT_len HF.out k hk
          have hws := wrongT_step hq
          have hqm := (HF.out.2 q (List.mem_of_getElem? hq))
          obtain ⟨hq1, hq2⟩ := hqm
          have hc1 : q.pkg.con.length * l.length ≤ 1000000 * 1000 := Nat.mul_le_mul (by omega) hfl
          have hc2 : q.pkg.brk.length * l.length ≤ 1000000 * 1000 := Nat.mul_le_mul (by omega) hfl
          have l1 := lacks_len q.pkg.name true (onS l) q.pkg.pre
          have l2 := lacks_len q.pkg.name false (onS l) q.pkg.dep
          have l3 := clash_len l k 2 q.pkg.name q.pkg.con
          have l4 := clash_len l k 3 q.pkg.name q.pkg.brk
          have HQ := Lib.hid hq
          have HWS := Lib.hid hws
          have HBw := Lib.hid hbw
          generalize hT : wrongT l k = T at hg hw
          have HT := Lib.hid hT
          clear hq hws hbw hT
          rcases hcf : q.conf
          · rw [hcf] at e9
            have HCF := Lib.hid hcf
            have G0 := Lib.hid (hg.alloc (.cells #[.string (bs (q).pkg.name), .string (bs (q).pkg.ver), .slice (r).a1 (q).pkg.pre.length (r).c1, .slice (r).a2 (q).pkg.dep.length (r).c2, .slice (r).a3 (q).pkg.rcm.length (r).c3, .slice (r).a4 (q).pkg.con.length (r).c4, .slice (r).a5 (q).pkg.brk.length (r).c5, .slice (r).a6 (q).pkg.prv.length (r).c6, .bool (q).pkg.ess, .bool false, .bool (q).hold] 50))
            have O0 := Lib.hid (ho.alloc (.cells #[.string (bs (q).pkg.name), .string (bs (q).pkg.ver), .slice (r).a1 (q).pkg.pre.length (r).c1, .slice (r).a2 (q).pkg.dep.length (r).c2, .slice (r).a3 (q).pkg.rcm.length (r).c3, .slice (r).a4 (q).pkg.con.length (r).c4, .slice (r).a5 (q).pkg.brk.length (r).c5, .slice (r).a6 (q).pkg.prv.length (r).c6, .bool (q).pkg.ess, .bool false, .bool (q).hold] 50))
            have X0 := Lib.hid (blk_new1 wr 50 #[.string (bs (q).pkg.name), .string (bs (q).pkg.ver), .slice (r).a1 (q).pkg.pre.length (r).c1, .slice (r).a2 (q).pkg.dep.length (r).c2, .slice (r).a3 (q).pkg.rcm.length (r).c3, .slice (r).a4 (q).pkg.con.length (r).c4, .slice (r).a5 (q).pkg.brk.length (r).c5, .slice (r).a6 (q).pkg.prv.length (r).c6, .bool (q).pkg.ess, .bool false, .bool (q).hold])
            clear hg ho hcf
            go_wp2_with fail
            refine (lacks_any w _ w.heap.size _ l.length c Aon con (onS l) _ _ _ q.pkg.pre q.pkg.name true G0.out (Nat.le_refl _) O0.out hr.pre (by omega) (by (try simp only [List.length_append]); omega)).mono ?_
            rintro e w1 ⟨rfl, hg, hk'⟩
            have G1 := Lib.hid hg
            have O1 := Lib.hid (hk'.own O0.out ⟨by decide, by decide⟩)
            have X1 := Lib.hid (hk'.blk X0.out ⟨by decide, by decide⟩)
            obtain ⟨c0, c1, c2, c3, c4, c5, c6, c7, c8, c9, c10⟩ := blk11 X1.out
            clear hg hk'
            go_wp2_with fail
            refine (clashes2_any w _ w.heap.size _ c l Aon (onS l).length con _ _ _ q.pkg.con k q HQ.out G1.out (Nat.le_refl _) HL.out hr.con (by (try simp only [List.length_append]); omega)).mono ?_
            rintro e w2 ⟨rfl, hg, hk'⟩
            have G2 := Lib.hid hg
            have O2 := Lib.hid (hk'.own O1.out ⟨by decide, by decide⟩)
            have X2 := Lib.hid (hk'.blk X1.out ⟨by decide, by decide⟩)
            obtain ⟨c0, c1, c2, c3, c4, c5, c6, c7, c8, c9, c10⟩ := blk11 X2.out
            clear hg hk'
            go_wp2_with fail
            refine (clashes3_any w _ w.heap.size _ c l Aon (onS l).length con _ _ _ q.pkg.brk k q HQ.out G2.out (Nat.le_refl _) HL.out hr.brk (by (try simp only [List.length_append]); omega)).mono ?_
            rintro e w3 ⟨rfl, hg, hk'⟩
            have G3 := Lib.hid hg
            have O3 := Lib.hid (hk'.own O2.out ⟨by decide, by decide⟩)
            have X3 := Lib.hid (hk'.blk X2.out ⟨by decide, by decide⟩)
            obtain ⟨c0, c1, c2, c3, c4, c5, c6, c7, c8, c9, c10⟩ := blk11 X3.out
            clear hg hk'
            go_wp2
            go_roundw
            case rel =>
              refine ⟨k + 1, by omega, by simp, ?_, O3.out⟩
              rw [HWS.out, HT.out]
              have hg := G3.out
              simp only [List.append_assoc] at hg
              simpa [wrong1, HCF.out] using hg
            case measure => (try simp only [intOf]); omega
          · rw [hcf] at e9
            have HCF := Lib.hid hcf
            have G0 := Lib.hid (hg.alloc (.cells #[.string (bs (q).pkg.name), .string (bs (q).pkg.ver), .slice (r).a1 (q).pkg.pre.length (r).c1, .slice (r).a2 (q).pkg.dep.length (r).c2, .slice (r).a3 (q).pkg.rcm.length (r).c3, .slice (r).a4 (q).pkg.con.length (r).c4, .slice (r).a5 (q).pkg.brk.length (r).c5, .slice (r).a6 (q).pkg.prv.length (r).c6, .bool (q).pkg.ess, .bool true, .bool (q).hold] 50))
            have O0 := Lib.hid (ho.alloc (.cells #[.string (bs (q).pkg.name), .string (bs (q).pkg.ver), .slice (r).a1 (q).pkg.pre.length (r).c1, .slice (r).a2 (q).pkg.dep.length (r).c2, .slice (r).a3 (q).pkg.rcm.length (r).c3, .slice (r).a4 (q).pkg.con.length (r).c4, .slice (r).a5 (q).pkg.brk.length (r).c5, .slice (r).a6 (q).pkg.prv.length (r).c6, .bool (q).pkg.ess, .bool true, .bool (q).hold] 50))
            have X0 := Lib.hid (blk_new1 wr 50 #[.string (bs (q).pkg.name), .string (bs (q).pkg.ver), .slice (r).a1 (q).pkg.pre.length (r).c1, .slice (r).a2 (q).pkg.dep.length (r).c2, .slice (r).a3 (q).pkg.rcm.length (r).c3, .slice (r).a4 (q).pkg.con.length (r).c4, .slice (r).a5 (q).pkg.brk.length (r).c5, .slice (r).a6 (q).pkg.prv.length (r).c6, .bool (q).pkg.ess, .bool true, .bool (q).hold])
            clear hg ho hcf
            go_wp2_with fail
            refine (lacks_any w _ w.heap.size _ l.length c Aon con (onS l) _ _ _ q.pkg.pre q.pkg.name true G0.out (Nat.le_refl _) O0.out hr.pre (by omega) (by (try simp only [List.length_append]); omega)).mono ?_
            rintro e w1 ⟨rfl, hg, hk'⟩
            have G1 := Lib.hid hg
            have O1 := Lib.hid (hk'.own O0.out ⟨by decide, by decide⟩)
            have X1 := Lib.hid (hk'.blk X0.out ⟨by decide, by decide⟩)
            obtain ⟨c0, c1, c2, c3, c4, c5, c6, c7, c8, c9, c10⟩ := blk11 X1.out
            clear hg hk'
            go_wp2_with fail
            refine (lacks_any w _ w.heap.size _ l.length c Aon con (onS l) _ _ _ q.pkg.dep q.pkg.name false G1.out (Nat.le_refl _) O1.out hr.dep (by omega) (by (try simp only [List.length_append]); omega)).mono ?_
            rintro e w2 ⟨rfl, hg, hk'⟩
            have G2 := Lib.hid hg
            have O2 := Lib.hid (hk'.own O1.out ⟨by decide, by decide⟩)
            have X2 := Lib.hid (hk'.blk X1.out ⟨by decide, by decide⟩)
            obtain ⟨c0, c1, c2, c3, c4, c5, c6, c7, c8, c9, c10⟩ := blk11 X2.out
            clear hg hk'
            go_wp2_with fail
            refine (clashes2_any w _ w.heap.size _ c l Aon (onS l).length con _ _ _ q.pkg.con k q HQ.out G2.out (Nat.le_refl _) HL.out hr.con (by (try simp only [List.length_append]); omega)).mono ?_
            rintro e w3 ⟨rfl, hg, hk'⟩
            have G3 := Lib.hid hg
            have O3 := Lib.hid (hk'.own O2.out ⟨by decide, by decide⟩)
            have X3 := Lib.hid (hk'.blk X2.out ⟨by decide, by decide⟩)
            obtain ⟨c0, c1, c2, c3, c4, c5, c6, c7, c8, c9, c10⟩ := blk11 X3.out
            clear hg hk'
            go_wp2_with fail
            refine (clashes3_any w _ w.heap.size _ c l Aon (onS l).length con _ _ _ q.pkg.brk k q HQ.out G3.out (Nat.le_refl _) HL.out hr.brk (by (try simp only [List.length_append]); omega)).mono ?_
            rintro e w4 ⟨rfl, hg, hk'⟩
            have G4 := Lib.hid hg
            have O4 := Lib.hid (hk'.own O3.out ⟨by decide, by decide⟩)
            have X4 := Lib.hid (hk'.blk X3.out ⟨by decide, by decide⟩)
            obtain ⟨c0, c1, c2, c3, c4, c5, c6, c7, c8, c9, c10⟩ := blk11 X4.out
            clear hg hk'
            go_wp2
            go_roundw
            case rel =>
              refine ⟨k + 1, by omega, by simp, ?_, O4.out⟩
              rw [HWS.out, HT.out]
              have hg := G4.out
              simp only [List.append_assoc] at hg
              simpa [wrong1, HCF.out] using hg
            case measure => (try simp only [intOf]); omega
        · obtain ⟨Ao, co, hB, ho2, hb⟩ := hg
          obtain ⟨x0, x1, x2⟩ := blk3 hB
          have hend := wrongT_end (l := l) (k := k) (by omega)
          have hlen := wrongT_len HF.out k hk
          rw [hend] at ho2 hlen
          generalize hT : (wrongT l k).length = n at x2
          have hn : n = (wrongS l).length := by rw [← hT, hend]
          have HN := Lib.hid hn
          have HB := Lib.hid hb
          have HO := Lib.hid ho2
          clear hT hn hB ho2 hb hend x0 x1
          go_wp2
          go_ret
          obtain ⟨A2, c2, he, hs⟩ := HO.out.slc (z := 56) (by omega)
          injection he with h1 h2 h3
          subst h1 h3
          exact ⟨Ao, co, by rw [HN.out]; rfl, Slc.mono hs (Kept.refl _) fun _ _ h => h, HB.out⟩
end Go.Proofs.YtefjoigngnnbjaaDoor
