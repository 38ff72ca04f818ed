/- The contracts of Less of costs, of both texts. -/
import Derived.Test.YthgghkicdclinaaDoorStU
import Derived.Test.YthgghkicdclinaaDoorVerE
import Derived.BigQuiet
namespace Go.Proofs.YthgghkicdclinaaDoor
set_option linter.unusedSimpArgs false
set_option linter.unusedVariables false
open Go.RowKit
def Cst.l (x : Cst) : List Int := [x.a, x.b, x.c, x.d, x.e]
def cmpL : List Int → List Int → Int
  | x :: xs, y :: ys => if Lib.compareInt x y = 0 then cmpL xs ys else Lib.compareInt x y
  | [], _ :: _ => -1
  | _ :: _, [] => 1
  | [], [] => 0
theorem cmpI_zero {x y : Int} (h : Lib.compareInt x y = 0) : x = y := by
  unfold Lib.compareInt at h
  split at h <;> first | omega | (split at h <;> omega)
theorem cmpI_self (x : Int) : Lib.compareInt x x = 0 := by
  unfold Lib.compareInt
  simp
theorem cmpL_app (p a b : List Int) : cmpL (p ++ a) (p ++ b) = cmpL a b := by
  induction p with
  | nil => rfl
  | cons x p ih => simp only [List.cons_append, cmpL, cmpI_self, if_true, ih]
theorem cmpL_self (l : List Int) : cmpL l l = 0 := by
  have := cmpL_app l [] []
  rw [List.append_nil] at this
  exact this
theorem cmpL_at {l m : List Int} {k : Nat} {x y : Int} (h : l.take k = m.take k) (hx : l[k]? = some x) (hy : m[k]? = some y) (hc : Lib.compareInt x y ≠ 0) : cmpL l m = Lib.compareInt x y := by
  have h1 : l = l.take k ++ x :: l.drop (k + 1) := by
    obtain ⟨hk, rfl⟩ := List.getElem?_eq_some_iff.1 hx
    rw [← List.drop_eq_getElem_cons hk, List.take_append_drop]
  have h2 : m = l.take k ++ y :: m.drop (k + 1) := by
    obtain ⟨hk, rfl⟩ := List.getElem?_eq_some_iff.1 hy
    rw [h, ← List.drop_eq_getElem_cons hk, List.take_append_drop]
  rw [h1, h2, cmpL_app]
  simp [cmpL, hc]
def RInt (cs : List Value) (n : Int) : Prop := cs = [.int .i64 n]
set_option maxRecDepth 100000 in
theorem scmp_any (A A' : Option Addr) (c c' : Nat) (l m : List Int) (w : World) (hl : Slc w 1 8 RInt A c l) (hm : Slc w 1 8 RInt A' c' m) (hlm : m.length = l.length) :
    Calls Tryd.prog 68 #[.slice A l.length c, .slice A' l.length c'] w fun e w' => e = .returned (.int .i64 (cmpL l m)) ∧ w = w' := by
  have hbd := hl.bd
  have HL := Lib.hid hl
  have HM := Lib.hid hm
  clear hl hm
  go_enter Tryd.func68, Tryd.ntmps68
  go_wp2
  go_loop [11] (fun i => ∃ k : Nat, k ≤ l.length ∧ i = .int .i64 k ∧ l.take k = m.take k) (fun i => l.length - (intOf i).toNat)
  case atStart => exact ⟨0, Nat.zero_le _, rfl, rfl⟩
  case round =>
    obtain ⟨k, hk, rfl, hn⟩ := hrel
    have HN := Lib.hid hn
    clear hn
    by_cases hlt : k < l.length
    · obtain ⟨x, b, o, cs, hx, hA, hcs, hlen, hr⟩ := HL.out.at_ hlt
      obtain ⟨y, b', o', cs', hy, hA', hcs', hlen', hr'⟩ := HM.out.at_ (by omega : k < m.length)
      subst hA hA' hcs hcs'
      have g0 : w.cell? ⟨b, o + k, none⟩ = some (.int .i64 x) := by have := hr 0 _ rfl; simpa using this
      have g1 : w.cell? ⟨b', o' + k, none⟩ = some (.int .i64 y) := by have := hr' 0 _ rfl; simpa using this
      have HX := Lib.hid hx
      have HY := Lib.hid hy
      clear hx hy hr hr' hlen hlen'
      generalize hC : Lib.compareInt x y = C
      have HC := Lib.hid hC
      clear hC
      by_cases hc : C = 0
      · subst hc
        go_wp2_with (go_at_call 96; refine (compareInt_any _ _ _).mono ?_; rintro e w1 ⟨rfl, rfl⟩; rw [HC.out])
        go_round
        case rel =>
          refine ⟨k + 1, by omega, by simp, ?_⟩
          have hxy := cmpI_zero HC.out
          rw [take_step HX.out, take_step HY.out, HN.out, hxy]
        case measure => (try simp only [intOf]); omega
      · have hcb : (C != 0) = true := by rw [bne_iff_ne]; exact hc
        go_wp2_with (go_at_call 96; refine (compareInt_any _ _ _).mono ?_; rintro e w1 ⟨rfl, rfl⟩; rw [HC.out])
        go_ret
        refine ⟨?_, rfl⟩
        rw [cmpL_at HN.out HX.out HY.out (by rw [HC.out]; exact hc), HC.out]
        rfl
    · have he : l = m := by
        have := HN.out
        rwa [List.take_of_length_le (by omega), List.take_of_length_le (by omega)] at this
      go_wp2
      go_ret
      exact ⟨by rw [he, cmpL_self]; rfl, rfl⟩
def lessC (x y : Cst) : Bool := decide (cmpL x.l y.l < 0)
theorem slc_cst {w : World} {g : Nat} (x : Cst) (hB : Blk w g 43 #[.int .i64 x.a, .int .i64 x.b, .int .i64 x.c, .int .i64 x.d, .int .i64 x.e]) : Slc w 1 8 RInt (some ⟨g, 0, none⟩) 5 x.l :=
  slc_of_blk [[.int .i64 x.a], [.int .i64 x.b], [.int .i64 x.c], [.int .i64 x.d], [.int .i64 x.e]] hB rfl rfl (fun i cs y h1 h2 => by
    rcases i with _ | _ | _ | _ | _ | i <;> simp [Cst.l] at h1 h2 <;> (subst h1 h2; exact ⟨rfl, rfl⟩)) rfl (by show 5 * 8 ≤ _; decide) (by show 5 ≤ _; decide) (by decide)
theorem cmpI_neg (x y : Int) : decide (Lib.compareInt x y < 0) = decide (x < y) := by
  unfold Lib.compareInt
  by_cases h1 : x < y
  · simp [h1]
  · by_cases h2 : x > y <;> simp [h1, h2]
theorem lessC_at {x y : Cst} {k : Nat} {a b : Int} (h : x.l.take k = y.l.take k) (hx : x.l[k]? = some a) (hy : y.l[k]? = some b) (hc : a ≠ b) : lessC x y = decide (a < b) := by
  unfold lessC
  rw [cmpL_at h hx hy (fun h0 => hc (cmpI_zero h0)), cmpI_neg]
set_option maxRecDepth 100000 in
theorem less_any (x y : Cst) (w : World) : Calls Tryd.prog 34 #[(.agg #[.int .i64 (x).a, .int .i64 (x).b, .int .i64 (x).c, .int .i64 (x).d, .int .i64 (x).e]), (.agg #[.int .i64 (y).a, .int .i64 (y).b, .int .i64 (y).c, .int .i64 (y).d, .int .i64 (y).e])] w fun e w' => e = .returned (.bool (lessC x y)) ∧ Below w.heap.size w w' := by
  go_enter Tryd.func34, Tryd.ntmps34
  go_wp2_with fail
  have kX : Blk ((w.alloc (.cells #[.int .i64 x.a, .int .i64 x.b, .int .i64 x.c, .int .i64 x.d, .int .i64 x.e] 43)).alloc (.cells #[.int .i64 y.a, .int .i64 y.b, .int .i64 y.c, .int .i64 y.d, .int .i64 y.e] 43)).drew w.heap.size 43 #[.int .i64 x.a, .int .i64 x.b, .int .i64 x.c, .int .i64 x.d, .int .i64 x.e] := Blk.drew (Blk.alloc (blk_new1 _ _ _) _)
  have kY : Blk ((w.alloc (.cells #[.int .i64 x.a, .int .i64 x.b, .int .i64 x.c, .int .i64 x.d, .int .i64 x.e] 43)).alloc (.cells #[.int .i64 y.a, .int .i64 y.b, .int .i64 y.c, .int .i64 y.d, .int .i64 y.e] 43)).drew (w.heap.size + 1) 43 #[.int .i64 y.a, .int .i64 y.b, .int .i64 y.c, .int .i64 y.d, .int .i64 y.e] := Blk.drew (blk_new2 _ _ _ _)
  have HSX := Lib.hid (slc_cst x kX)
  have HSY := Lib.hid (slc_cst y kY)
  clear kX kY
  go_region_with (go_at_call 68; refine (scmp_any _ _ _ _ x.l y.l _ HSX.out HSY.out rfl).mono ?_; rintro e w1 ⟨rfl, rfl⟩)
  go_wp2
  go_ret
  exact ⟨rfl, below_drew (below_alloc (below_alloc (Below.refl _ _) _) _)⟩
set_option maxRecDepth 100000 in
set_option maxHeartbeats 800000 in
theorem rless_any (x y : Cst) (w : World) : Calls Tryd.prog 35 #[(.agg #[.int .i64 (x).a, .int .i64 (x).b, .int .i64 (x).c, .int .i64 (x).d, .int .i64 (x).e]), (.agg #[.int .i64 (y).a, .int .i64 (y).b, .int .i64 (y).c, .int .i64 (y).d, .int .i64 (y).e])] w fun e w' => e = .returned (.bool (lessC x y)) ∧ Below w.heap.size w w' := by
  go_enter Tryd.func35, Tryd.ntmps35
  go_wp2
  go_loopw [6] (fun i wr => ∃ k : Nat, k ≤ 5 ∧ i = .int .i64 k ∧ Below w.heap.size w wr ∧ Blk wr w.heap.size 43 #[.int .i64 x.a, .int .i64 x.b, .int .i64 x.c, .int .i64 x.d, .int .i64 x.e] ∧ Blk wr (w.heap.size + 1) 43 #[.int .i64 y.a, .int .i64 y.b, .int .i64 y.c, .int .i64 y.d, .int .i64 y.e] ∧ x.l.take k = y.l.take k) (fun i _ => 5 - (intOf i).toNat)
  case atStart => exact ⟨0, by omega, rfl, below_alloc (below_alloc (Below.refl _ _) _) _, Blk.alloc (blk_new1 _ _ _) _, blk_new2 _ _ _ _, rfl⟩
  case round =>
    obtain ⟨k, hk, rfl, hb, h1, h2, hn⟩ := hrel
    have HB := Lib.hid hb
    have HN := Lib.hid hn
    have K1 := Lib.hid h1
    have K2 := Lib.hid h2
    clear hb hn h1 h2
    have hlx : x.l.length = 5 := rfl
    have hly : y.l.length = 5 := rfl
    by_cases hlt : k < 5
    · obtain ⟨a, b1, o1, cs1, ha, hA1, hcs1, _, hr1⟩ := (slc_cst x K1.out).at_ (by omega : k < x.l.length)
      obtain ⟨b, b2, o2, cs2, hb, hA2, hcs2, _, hr2⟩ := (slc_cst y K2.out).at_ (by omega : k < y.l.length)
      simp only [Option.some.injEq, Addr.mk.injEq, and_true] at hA1 hA2
      obtain ⟨rfl, rfl⟩ := hA1
      obtain ⟨rfl, rfl⟩ := hA2
      subst hcs1 hcs2
      have g0 : wr.cell? ⟨w.heap.size, k, none⟩ = some (.int .i64 a) := by have := hr1 0 _ rfl; simpa using this
      have g1 : wr.cell? ⟨w.heap.size + 1, k, none⟩ = some (.int .i64 b) := by have := hr2 0 _ rfl; simpa using this
      have HX := Lib.hid ha
      have HY := Lib.hid hb
      have hi0 : (0 : Int) ≤ (k : Int) := Int.natCast_nonneg _
      have hi1 : (k : Int) < 5 := by omega
      have htn : ((k : Int)).toNat = k := Int.toNat_natCast _
      clear ha hb hr1 hr2 hlx hly
      by_cases h : a = b
      · subst h
        have hne : (a != a) = false := by simp
        go_wp2
        go_quiet (fail)
        go_wp2
        go_roundw
        case rel =>
          refine ⟨k + 1, by omega, by simp, by have hb0 := HB.out; (repeat (first | assumption | exact Below.refl _ _ | refine below_next ?_ (by assumption) | refine below_drewN ?_ _ | refine below_alloc ?_ _)), by first | exact K1.out | exact Blk.drewN K1.out _, by first | exact K2.out | exact Blk.drewN K2.out _, ?_⟩
          rw [take_step HX.out, take_step HY.out, HN.out]
        case measure => (try simp only [intOf]); omega
      · have hne : (a != b) = true := by rw [bne_iff_ne]; exact h
        have H := Lib.hid h
        clear h
        go_wp2
        go_quiet (fail)
        go_wp2
        go_quiet (fail)
        go_wp2
        go_ret
        exact ⟨by rw [lessC_at HN.out HX.out HY.out H.out]; rfl, by have hb0 := HB.out; (repeat (first | assumption | exact Below.refl _ _ | refine below_next ?_ (by assumption) | refine below_drewN ?_ _ | refine below_alloc ?_ _))⟩
    · go_wp2
      go_ret
      have he : x.l = y.l := by
        have hn := HN.out
        rwa [List.take_of_length_le (by omega), List.take_of_length_le (by omega)] at hn
      exact ⟨by unfold lessC; rw [he, cmpL_self]; rfl, HB.out⟩
end Go.Proofs.YthgghkicdclinaaDoor
