/- scc.Order: its contract. -/
import Derived.Test.YtodhianmaogfpaaScN
namespace Go.Proofs.Ytodhianmaogfpaa
set_option linter.unusedSimpArgs false
set_option linter.unusedVariables false
open Go.RowKit
attribute [local go_sem ↓] Go.wp_at_zero Go.wp_at_succ
theorem CI.len {n : Nat} {G : Nat → Nat → Bool} {out : List (List Nat)} (h : CI n G out) (hG : Gr n G) : out.length ≤ n := by
  have := len_sub (m := (List.range n).map (compS n G)) (h.nodup hG) fun c hc => by
    obtain ⟨i, hi, rfl⟩ := h.each c hc
    exact List.mem_map.2 ⟨i, List.mem_range.2 hi, rfl⟩
  simpa using this
/-- is there an order? -/
def canS (n : Nat) (adj : Nat → List Nat) (out : List (List Nat)) : Bool := ((List.range n).all fun v => !(adj v).contains v) && out.all fun c => decide (c.length ≤ 1)
/-- the order, or nothing -/
def ordV (n : Nat) (adj : Nat → List Nat) (out : List (List Nat)) : List Nat := if canS n adj out = true then out.flatten else []
theorem ord_no {n : Nat} {adj : Nat → List Nat} {out : List (List Nat)} (h : canS n adj out = false) : ordV n adj out = [] := by unfold ordV; rw [h]; rfl
theorem ord_yes {n : Nat} {adj : Nat → List Nat} {out : List (List Nat)} (h : canS n adj out = true) : ordV n adj out = out.flatten := by unfold ordV; rw [h]; rfl
theorem can_loop {n v : Nat} {adj : Nat → List Nat} {out : List (List Nat)} (hv : v < n) (h : (adj v).contains v = true) : canS n adj out = false := by
  unfold canS
  rw [Bool.and_eq_false_iff]
  left
  rw [List.all_eq_false]
  exact ⟨v, List.mem_range.2 hv, by rw [h]; simp⟩
theorem can_big {n : Nat} {adj : Nat → List Nat} {out : List (List Nat)} {c : List Nat} (hc : c ∈ out) (h : 1 < c.length) : canS n adj out = false := by
  unfold canS
  rw [Bool.and_eq_false_iff]
  right
  rw [List.all_eq_false]
  exact ⟨c, hc, by simp; omega⟩
theorem can_yes {n : Nat} {adj : Nat → List Nat} {out : List (List Nat)} (h1 : ∀ v, v < n → (adj v).contains v = false) (h2 : ∀ c ∈ out, c.length ≤ 1) : canS n adj out = true := by
  unfold canS
  rw [Bool.and_eq_true, List.all_eq_true, List.all_eq_true]
  exact ⟨fun v hv => by rw [h1 v (List.mem_range.1 hv)]; rfl, fun c hc => decide_eq_true (h2 c hc)⟩
theorem flat_len : ∀ {m : List (List Nat)}, (∀ c ∈ m, c.length ≤ 1) → m.flatten.length ≤ m.length
  | [], _ => by simp
  | c :: m, h => by
    have h1 := h c (List.mem_cons_self ..)
    have h2 := flat_len (m := m) fun c hc => h c (List.mem_cons_of_mem _ hc)
    simp only [List.flatten_cons, List.length_append, List.length_cons]
    omega
theorem ofN_has (l : List Nat) (x : Nat) : (ofN l).contains (x : Int) = l.contains x := by
  rw [Bool.eq_iff_iff, List.contains_iff_mem, List.contains_iff_mem, mem_ofN]
  constructor
  · rintro ⟨k, hk, he⟩
    obtain rfl : k = x := by omega
    exact hk
  · intro h; exact ⟨x, h, rfl⟩
theorem contains_any {w : World} {A : Option Addr} {c : Nat} {l : List Nat} (h : Ints w A c l) (x : Nat) :
    Calls Try.prog 19 #[.slice A l.length c, .int .i64 x] w fun e w' => e = .returned (.bool (l.contains x)) ∧ w' = w := by
  rcases Nat.eq_zero_or_pos l.length with h0 | h0
  · obtain rfl := List.eq_nil_of_length_eq_zero h0
    exact Try.slices_Contains_int_empty A c x w
  · obtain ⟨_, b, o, _, rfl, _⟩ := Ints.at_ h h0 (Kept.refl _)
    have hbd := h.bd
    have hl : (ofN l).length = l.length := by simp [ofN]
    have := Try.slices_Contains_int b o l.length c (ofN l) x w (by rw [hl]; exact Nat.le_refl _) (by omega) (fun j hj => by
      obtain ⟨y, b', o', hy, hA, hc⟩ := Ints.at_ h (i := j) (by omega) (Kept.refl _)
      injection hA with hA
      injection hA with h1 h2
      subst h1 h2
      rw [hc]
      have : (ofN l).getD j 0 = (y : Int) := by
        have h3 : (ofN l)[j]? = some (y : Int) := by unfold ofN; rw [List.getElem?_map, hy]; rfl
        simp [List.getD, h3]
      rw [this])
    rw [List.take_of_length_le (by rw [hl]; exact Nat.le_refl _), ofN_has] at this
    exact this
theorem nat_one (cs : List Value) (y : Nat) (h : RNat cs y) : ∀ u ∈ cs, u.oneCell' = true := fun u hu => by
  rw [h] at hu
  obtain rfl := List.mem_singleton.1 hu
  rfl
set_option maxRecDepth 100000 in
set_option maxHeartbeats 1000000 in
theorem order_any (n0 : Int) (A : Option Addr) (c : Nat) (l : List (Int × Int)) (n : Nat) (hN : max 0 (min n0 2000) = (n : Int)) (w : World) (hl : Edges w A c l) (out : List (List Nat)) (hc : CompsIs n (gE n (vE n l)) out) :
    Calls Try.prog 14 #[.int .i64 n0, .slice A l.length c] w fun e w' => ∃ (o : List Nat) (B : Option Addr) (d : Nat), e = .returned (.tuple #[.slice B o.length d, .bool (canS n (adjE (vE n l)) out)]) ∧ Ints w' B d o ∧ o = ordV n (adjE (vE n l)) out ∧ Below w.heap.size w w' := by
  have HL := Lib.hid hl
  have HC := Lib.hid hc
  have HM := Lib.hid hN
  have hn2 : n ≤ 2000 := by omega
  have holn := (hc.ci gE_gr).len gE_gr
  obtain ⟨adj, hadj⟩ : ∃ adj, adj = adjE (vE n l) := ⟨_, rfl⟩
  rw [← hadj]
  have HADJ := Lib.hid hadj
  clear hl hc hN hadj
  go_enter Try.func14, Try.ntmps14
  go_wp2_with fail
  refine (build_any n0 A c l n HM.out w HL.out).mono ?_
  rintro e w1 ⟨gb, rfl, hG, hgl, hb1⟩
  rw [← HADJ.out] at hG
  have HB1 := Lib.hid hb1
  obtain ⟨GA, GC, hGB, hGR⟩ := hG
  have HGB := Lib.hid hGB
  have HGR := Lib.hid hGR
  clear hGB hGR hb1 hgl
  go_wp2_with fail
  go_loopw [16] (fun i wr => ∃ k : Nat, k ≤ n ∧ i = .int .i64 k ∧ wr = w1 ∧ ∀ v, v < k → (adj v).contains v = false) (fun i _ => n - (intOf i).toNat)
  case atStart => exact ⟨0, Nat.zero_le _, rfl, rfl, fun v h => absurd h (Nat.not_lt_zero _)⟩
  case round =>
    obtain ⟨k, hk, rfl, rfl, hno⟩ := hrel
    have HNO := Lib.hid hno
    clear hno
    by_cases hlt : k < n
    · have hgc := (HGB.out.cell k).trans (arr_get hlt)
      have hk0 : (0 : Int) ≤ (k : Int) := Int.natCast_nonneg _
      have hk1 : (k : Int) < (n : Int) := by omega
      have hkt : ((k : Int)).toNat = k := Int.toNat_natCast _
      go_wp2_with fail
      refine (contains_any (HGR.out k hlt) k).mono ?_
      rintro e w' ⟨rfl, rfl⟩
      by_cases hck : (adj k).contains k = true
      · have HCF := Lib.hid (can_loop (out := out) hlt hck)
        generalize hb : (adj k).contains k = b at hck ⊢
        subst hck
        clear hb
        go_wp2_with fail
        go_ret2
        exact ⟨[], none, 0, by rw [HCF.out]; rfl, Slc.nil_ (Nat.zero_le _), (ord_no HCF.out).symm, HB1.out⟩
      · have hck : (adj k).contains k = false := by simpa using hck
        have HNO2 := Lib.hid (show ∀ v, v < k + 1 → (adj v).contains v = false from fun v hv => by
          rcases Nat.lt_or_ge v k with h | h
          · exact HNO.out v h
          · obtain rfl : v = k := by omega
            exact hck)
        generalize hb : (adj k).contains k = b at hck ⊢
        subst hck
        clear hb
        go_wp2_with fail
        go_roundw
        case rel => exact ⟨k + 1, by omega, by simp, by first | rfl | trivial, HNO2.out⟩
        case measure => (try simp only [intOf]); omega
    · have hkn : k = n := by omega
      subst hkn
      go_wp2_with fail
      refine (comps2_any n0 A c l k HM.out _ (HL.out.kept (Kept.of_below HB1.out))).mono ?_
      rintro e w2 ⟨out', B2, d2, rfl, hl2, hc2, hb2⟩
      obtain rfl := hc2.uniq HC.out
      have hbd2 := Slc.bd' hl2
      have HL2 := Lib.hid hl2
      have HB2 := Lib.hid (below_next HB1.out hb2)
      clear hl2 hc2 hb2
      go_wp2_with fail
      go_loopw [8, 30] (fun ov i wr => ∃ m : Nat, m ≤ out'.length ∧ i = .int .i64 m ∧ Row wr w2.heap.size ov (out'.take m).flatten ∧ Below w2.heap.size w2 wr ∧ ∀ c ∈ out'.take m, c.length ≤ 1) (fun _ i _ => out'.length - (intOf i).toNat)
      case atStart => exact ⟨0, Nat.zero_le _, rfl, Own.nil_ _ _ _ _ _, Below.refl _ _, fun c h => by simp at h⟩
      case round =>
        obtain ⟨m, hm, rfl, hrow, hbw, hall⟩ := hrel
        have HROW := Lib.hid hrow
        have HBW := Lib.hid hbw
        have HALL := Lib.hid hall
        clear hrow hbw hall
        by_cases hml : m < out'.length
        · obtain ⟨x, b, o, A3, c3, hx, hBx, h3, e0⟩ := HL2.out.at_ hml (Kept.of_below HBW.out)
          have HX := Lib.hid hx
          have H3 := Lib.hid (h3.kept (Kept.of_below HBW.out))
          have hi0 : (0 : Int) ≤ (m : Int) := Int.natCast_nonneg _
          have hi1 : (m : Int) < (out'.length : Int) := by omega
          clear hx h3
          subst hBx
          by_cases hbig : 1 < x.length
          · have HCF := Lib.hid (can_big (n := k) (adj := adj) (List.mem_of_getElem? HX.out) hbig)
            go_wp2_with fail
            go_ret2
            exact ⟨[], none, 0, by rw [HCF.out]; rfl, Slc.nil_ (Nat.zero_le _), (ord_no HCF.out).symm, below_next HB2.out HBW.out⟩
          · have HALL2 := Lib.hid (show ∀ c ∈ out'.take (m + 1), c.length ≤ 1 by
              rw [take_step HX.out]
              intro c hc
              rcases List.mem_append.1 hc with h | h
              · exact HALL.out c h
              · rw [List.mem_singleton.1 h]; omega)
            have hfl := flat_len HALL.out
            rw [List.length_take] at hfl
            have hfl2 : (out'.take m).flatten.length ≤ 2000 := by omega
            have hx1 : x.length ≤ 1 := by omega
            clear hbig hfl
            go_wp2_with (at_builtin; refine wpList_append_all (by rfl) _ _ 26 (by rfl) w2.heap.size 3 _ 1 8 8 Try.underlying26 infNat rfl (by omega) RNat _ _ (by rfl) HROW.out A3 c3 x (by rfl) H3.out nat_one (by omega) (by omega) HBW.out.size ?_; intro v8 w8 ho8 hg8; have HR8 := Lib.hid ho8; have HB8 := Lib.hid (HROW.out.below HBW.out HBW.out.size hg8); clear ho8 hg8)
            go_roundw
            case rel => exact ⟨m + 1, by omega, by simp, by rw [take_step HX.out, List.flatten_append]; simpa using HR8.out, HB8.out, HALL2.out⟩
            case measure => (try simp only [intOf]); omega
        · have hle : out'.take m = out' := List.take_of_length_le (by omega)
          have hall := HALL.out
          have hrow := HROW.out
          rw [hle] at hall hrow
          have HCT := Lib.hid (can_yes (n := k) HNO.out hall)
          have hfl := flat_len hall
          obtain ⟨A9, c9, hv9, hs9⟩ := hrow.slc (z := 8) (by omega)
          subst hv9
          have HS9 := Lib.hid (show Ints wr A9 c9 out'.flatten from hs9)
          clear hle hall hrow hfl hs9 HROW
          go_wp2_with fail
          go_ret2
          exact ⟨out'.flatten, A9, c9, by rw [HCT.out]; rfl, HS9.out, (ord_yes HCT.out).symm, below_next HB2.out HBW.out⟩
end Go.Proofs.Ytodhianmaogfpaa
