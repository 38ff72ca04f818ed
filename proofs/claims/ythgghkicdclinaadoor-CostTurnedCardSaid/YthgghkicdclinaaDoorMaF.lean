/- The contract of the reference's MayEntries: where it says 0, each may be, and the names rise. -/
import Derived.Test.YthgghkicdclinaaDoorMaE
import Derived.Test.YthgghkicdclinaaDoorFi
import Derived.BigQuiet
namespace Go.Proofs.YthgghkicdclinaaDoor
set_option linter.unusedSimpArgs false
set_option linter.unusedVariables false
open Go.RowKit

/-- no name twice among entries -/
def rises (s : List Ent) : Prop := s.Pairwise fun x y => x.pkg.name ≠ y.pkg.name
def upB (l : List Ent) (n : Nat) : Prop := ∀ (j : Nat) x y, j + 1 < n → l[j]? = some x → l[j + 1]? = some y → x.pkg.name < y.pkg.name
theorem bl_lt : ∀ (x y : List UInt8), Op.bytesLess x y = true → x < y
  | _, [], h => by simp [Op.bytesLess] at h
  | [], b :: y, _ => by simp
  | a :: x, b :: y, h => by
    simp only [Op.bytesLess, Bool.or_eq_true, Bool.and_eq_true, beq_iff_eq, decide_eq_true_eq] at h
    rw [List.cons_lt_cons_iff]
    rcases h with h | ⟨h1, h2⟩
    · exact .inl h
    · exact .inr ⟨h1, bl_lt x y h2⟩
theorem up_all {l : List Ent} (h : upB l l.length) : ∀ (d j : Nat) x y, l[j]? = some x → l[j + 1 + d]? = some y → x.pkg.name < y.pkg.name
  | 0, j, x, y, hx, hy => h j x y (List.getElem?_eq_some_iff.1 hy).1 hx hy
  | d + 1, j, x, y, hx, hy => by
    have hl := (List.getElem?_eq_some_iff.1 hy).1
    have hz : l[j + 1 + d]? = some (l[j + 1 + d]'(by omega)) := List.getElem?_eq_getElem (by omega)
    exact List.lt_trans (up_all h d j x _ hx hz) (h (j + 1 + d) _ y (by omega) hz (by rw [← hy]; congr 1))
theorem up_rises {l : List Ent} (h : upB l l.length) : rises l := by
  unfold rises
  rw [List.pairwise_iff_getElem]
  intro i j hi hj hij he
  have h1 := up_all h (j - i - 1) i l[i] l[j] (List.getElem?_eq_getElem hi) (by rw [show i + 1 + (j - i - 1) = j by omega]; exact List.getElem?_eq_getElem hj)
  rw [he] at h1
  exact List.lt_irrefl _ h1
def EntsOk (l : List Ent) : Prop := (∀ x ∈ l, mayE x.pkg = 0) ∧ rises l
set_option maxRecDepth 100000 in
set_option maxHeartbeats 400000 in
theorem rmayEnts_any (A : Option Addr) (c : Nat) (l : List Ent) (w : World) (hl : Ents w A c l) :
    Calls Tryd.prog 30 #[.slice A l.length c] w fun e w' => ∃ n : Int, e = .returned (.int .i64 n) ∧ (n = 0 → EntsOk l) ∧ Below w.heap.size w w' := by
  have hbd := hl.bd
  have HL := Lib.hid hl
  clear hl
  by_cases h10 : (10 : Int) < (l.length : Int)
  · go_enter Tryd.func30, Tryd.ntmps30
    go_wp2
    go_ret
    exact ⟨12, rfl, by omega, Below.refl _ _⟩
  · go_enter Tryd.func30, Tryd.ntmps30
    go_wp2
    go_loopw [12] (fun i wr => ∃ k : Nat, k ≤ l.length ∧ i = .int .i64 k ∧ Below w.heap.size w wr ∧ (∀ x ∈ l.take k, mayE x.pkg = 0)) (fun i _ => l.length - (intOf i).toNat)
    case atStart => exact ⟨0, Nat.zero_le _, rfl, Below.refl _ _, fun x hx => by simp at hx⟩
    case round =>
      obtain ⟨k, hk, rfl, hb, hn⟩ := hrel
      have HB := Lib.hid hb
      have HN := Lib.hid hn
      clear hb hn
      by_cases hlt : k < l.length
      · obtain ⟨q, b, o, r, hq, rfl, hr, e0, e1, e2, e3, e4, e5, e6, e7, e8, e9, e10⟩ := HL.out.at_ hlt (Kept.of_below HB.out)
        have HQ := Lib.hid hq
        have HR := Lib.hid (fun ob : Obj => hr.kept ((Kept.of_below HB.out).trans (Kept.alloc _ ob)))
        clear hq hr
        generalize hE : mayE q.pkg = E
        have HE := Lib.hid hE
        clear hE
        by_cases hE0 : E = 0
        · subst hE0
          go_wp2_with fail
          refine (rmay_any q.pkg r _ (HR.out _)).mono ?_
          rintro e w1 ⟨rfl, hb1⟩
          rw [HE.out]
          clear e0 e1 e2 e3 e4 e5 e6 e7 e8 e9 e10
          go_wp2
          go_roundw
          case rel => exact ⟨k + 1, by omega, by simp, by have hb0 := HB.out; (repeat (first | assumption | exact Below.refl _ _ | refine below_next ?_ (by assumption) | refine below_drewN ?_ _ | refine below_alloc ?_ _)), fun x hx => by
            rw [take_step HQ.out, List.mem_append, List.mem_singleton] at hx
            rcases hx with hx | rfl
            · exact HN.out x hx
            · exact HE.out⟩
          case measure => (try simp only [intOf]); omega
        · have hEb : (E != 0) = true := by rw [bne_iff_ne]; exact hE0
          go_wp2_with fail
          refine (rmay_any q.pkg r _ (HR.out _)).mono ?_
          rintro e w1 ⟨rfl, hb1⟩
          rw [HE.out]
          clear e0 e1 e2 e3 e4 e5 e6 e7 e8 e9 e10
          go_wp2
          go_ret
          exact ⟨E, rfl, fun h => absurd h hE0, by have hb0 := HB.out; (repeat (first | assumption | exact Below.refl _ _ | refine below_next ?_ (by assumption) | refine below_drewN ?_ _ | refine below_alloc ?_ _))⟩
      · have HM := HN.out
        rw [take_end hk hlt] at HM
        have HMM := Lib.hid HM
        clear HM HN
        go_wp2
        clear hlt
        go_loopw [25] (fun i wr => ∃ k : Nat, k ≤ l.length ∧ i = .int .i64 k ∧ Below w.heap.size w wr ∧ upB l k) (fun i _ => l.length - (intOf i).toNat)
        case atStart => exact ⟨0, Nat.zero_le _, rfl, HB.out, fun j x y h => by omega⟩
        case round =>
          clear HB hk
          obtain ⟨k, hk, rfl, hb, hn⟩ := hrel
          have HB := Lib.hid hb
          have HN := Lib.hid hn
          clear hb hn
          by_cases hlt : k < l.length
          · rcases k with _ | k
            · go_wp2
              go_quiet (fail)
              go_wp2
              go_roundw
              case rel => exact ⟨1, by omega, by simp, by have hb0 := HB.out; (repeat (first | assumption | exact Below.refl _ _ | refine below_next ?_ (by assumption) | refine below_drewN ?_ _ | refine below_alloc ?_ _)), fun j x y h => by omega⟩
              case measure => (try simp only [intOf]); omega
            · obtain ⟨x, b, o, r, hx, hA, _, e0, _⟩ := HL.out.at_ (by omega : k < l.length) (Kept.of_below HB.out)
              obtain ⟨y, b', o', r', hy, hA', _, e1, _⟩ := HL.out.at_ hlt (Kept.of_below HB.out)
              subst hA
              injection hA' with hA'
              injection hA' with hA1 hA2
              subst hA1 hA2
              have HX := Lib.hid hx
              have HY := Lib.hid hy
              clear hx hy
              have hi0 : (0 : Int) ≤ (k : Int) := Int.natCast_nonneg _
              have hi1 : (k : Int) < (l.length : Int) := by omega
              have hi2 : (k : Int) + 1 < (l.length : Int) := by omega
              have hi3 : (0 : Int) < (k : Int) + 1 := by omega
              have hi4 : (0 : Int) ≤ (k : Int) + 1 := by omega
              have htn : ((k : Int)).toNat = k := Int.toNat_natCast _
              have htm : ((k : Int) + 1).toNat = k + 1 := by omega
              have hwr : IntKind.i64.wrap (k : Int) = (k : Int) := by rw [IntKind.wrap_i64]; omega
              rcases hbl : Op.bytesLess x.pkg.name y.pkg.name
              · go_wp2
                go_quiet (fail)
                go_wp2
                go_ret
                exact ⟨4, rfl, by omega, by have hb0 := HB.out; (repeat (first | assumption | exact Below.refl _ _ | refine below_next ?_ (by assumption) | refine below_drewN ?_ _ | refine below_alloc ?_ _))⟩
              · have HBL := Lib.hid (bl_lt _ _ hbl)
                go_wp2
                go_quiet (fail)
                go_wp2
                go_roundw
                case rel => exact ⟨k + 2, by omega, by simp; omega, by have hb0 := HB.out; (repeat (first | assumption | exact Below.refl _ _ | refine below_next ?_ (by assumption) | refine below_drewN ?_ _ | refine below_alloc ?_ _)), fun j x' y' h h1 h2 => by
                  rcases Nat.lt_or_ge (j + 1) (k + 1) with h3 | h3
                  · exact HN.out j x' y' h3 h1 h2
                  · obtain rfl : j = k := by omega
                    obtain rfl : x = x' := Option.some.inj (HX.out.symm.trans h1)
                    obtain rfl : y = y' := Option.some.inj (HY.out.symm.trans h2)
                    exact HBL.out⟩
                case measure => (try simp only [intOf]); omega
          · have hn := HN.out
            have hkl : k = l.length := by omega
            rw [hkl] at hn
            have HU := Lib.hid (up_rises hn)
            clear hn hkl
            go_wp2
            go_ret
            exact ⟨0, rfl, fun _ => ⟨HMM.out, HU.out⟩, HB.out⟩
end Go.Proofs.YthgghkicdclinaaDoor
