/- Law 21's awake; the law SccComponents. -/
import Derived.Test.YtodhianmaogfpaaScG
import Derived.Test.YtodhianmaogfpaaScI
import Derived.Test.YtodhianmaogfpaaScS
import Derived.Test.YtodhianmaogfpaaTjG
import Derived.BigQuiet
namespace Go.Proofs.Ytodhianmaogfpaa
set_option linter.unusedSimpArgs false
set_option linter.unusedVariables false
open Go.RowKit
attribute [local go_sem ↓] Go.wp_at_zero Go.wp_at_succ
attribute [local irreducible] wpQuiet
/-- a slice over a block that is known whole -/
theorem slcB {α : Type} {w : World} {g t k z n : Nat} {cs : Array Value} {R : List Value → α → Prop} {l : List α} (css : List (List Value)) (hB : Blk w g t cs) (hl : css.length = l.length) (hn : n = l.length)
    (hR : ∀ (i : Nat) (cs : List Value) (x : α), css[i]? = some cs → l[i]? = some x → R cs x ∧ cs.length = k) (hcs : cs.toList = css.flatten) (hz : l.length * z ≤ 140737488351232) (hm : l.length ≤ 1000) (hk : k ≤ 1000) : Slc w k z R (some ⟨g, 0, none⟩) n l := by
  have hlen : css.flatten.length = l.length * k := by
    have h1 := own_lens hl hR
    rw [List.length_flatten, ← hl]
    clear hl hn hR hcs hz hm hB
    induction css with
    | nil => simp
    | cons c css ih =>
      have h2 := h1 c (List.mem_cons_self ..)
      have h3 := ih (fun x hx => h1 x (List.mem_cons_of_mem _ hx))
      simp only [List.map_cons, List.sum_cons, List.length_cons, Nat.succ_mul]
      omega
  have hO : Own w 0 t k R (.slice (some ⟨g, 0, none⟩) l.length l.length) l := ⟨css, hl, hR, hlen, .inr ⟨g, l.length, cs, rfl, Nat.zero_le _, hB, Nat.le_refl _, by unfold maxLen; omega, by
    have : cs.size = cs.toList.length := by simp
    rw [this, hcs, hlen], by rw [hcs, ← hlen, List.take_length]⟩⟩
  obtain ⟨A, c, h1, h2⟩ := hO.slc hz
  injection h1 with h1 h3 h4
  subst h1 h4 hn
  exact h2
def wkE : List (Int × Int) := [(0, 1), (1, 0), (1, 2)]
theorem wk_comps : CompsIs 3 (gE 3 (vE 3 wkE)) [[2], [0, 1]] := ⟨2, by decide +kernel, by decide +kernel⟩
theorem comps3_any (n0 : Int) (A : Option Addr) (c : Nat) (l : List (Int × Int)) (n : Nat) (hN : max 0 (min n0 2000) = (n : Int)) (w : World) (hl : Edges w A c l) :
    Calls Try.prog 9 #[.int .i64 n0, .slice A l.length c] w fun e w' => ∃ (out : List (List Nat)) (B : Option Addr) (d : Nat), e = .returned (.slice B out.length d) ∧ ListsN w.heap.size w' B d out ∧ CompsIs n (gE n (vE n l)) out ∧ Below w.heap.size w w' :=
  comps1_any n0 A c l n hN w hl (vE_mu n l (by omega)) (vE_prs n l)
theorem comps2_any (n0 : Int) (A : Option Addr) (c : Nat) (l : List (Int × Int)) (n : Nat) (hN : max 0 (min n0 2000) = (n : Int)) (w : World) (hl : Edges w A c l) :
    Calls Try.prog 9 #[.int .i64 n0, .slice A l.length c] w fun e w' => ∃ (out : List (List Nat)) (B : Option Addr) (d : Nat), e = .returned (.slice B out.length d) ∧ Lists w' B d out ∧ CompsIs n (gE n (vE n l)) out ∧ Below w.heap.size w w' :=
  (comps3_any n0 A c l n hN w hl).mono fun _ _ ⟨out, B, d, h1, h2, h3, h4⟩ => ⟨out, B, d, h1, h2.lists, h3, h4⟩
theorem wk_edges (w : World) : Edges (w.alloc (.cells #[.int .i64 0, .int .i64 1, .int .i64 1, .int .i64 0, .int .i64 1, .int .i64 2] 29)) (some ⟨w.heap.size, 0, none⟩) 3 wkE :=
  slcB [[.int .i64 0, .int .i64 1], [.int .i64 1, .int .i64 0], [.int .i64 1, .int .i64 2]] (blk_new1 _ _ _) rfl rfl (fun i cs x h1 h2 => by
    rcases i with _ | _ | _ | i
    · simp [wkE] at h1 h2
      subst h1 h2
      exact ⟨rfl, rfl⟩
    · simp [wkE] at h1 h2
      subst h1 h2
      exact ⟨rfl, rfl⟩
    · simp [wkE] at h1 h2
      subst h1 h2
      exact ⟨rfl, rfl⟩
    · simp at h1) rfl (by decide) (by decide) (by decide)
set_option maxRecDepth 100000 in
set_option maxHeartbeats 400000 in
theorem awake21_any (w : World) : Calls Try.prog 12 #[] w fun e w' => e = .returned (.bool true) ∧ Below w.heap.size w w' := by
  go_enter Try.func12, Try.ntmps12
  go_wp2_with fail
  have hb0 : Below w.heap.size w (w.alloc (.cells #[.int .i64 0, .int .i64 1, .int .i64 1, .int .i64 0, .int .i64 1, .int .i64 2] 29)) := below_alloc (Below.refl _ _) _
  refine (comps2_any 3 _ 3 wkE 3 (by decide) _ (wk_edges w)).mono ?_
  rintro e w1 ⟨out, B, d, rfl, hl, hc, hb1⟩
  obtain rfl := hc.uniq wk_comps
  have HB1 := Lib.hid (below_next hb0 hb1)
  clear hb0 hb1 hc
  have hbd : _ ∧ _ ∧ _ := Slc.bd' hl
  obtain ⟨x, b, o, A1, c1, hx, rfl, h1, e0⟩ := hl.at_ (i := 0) (by simp) (Kept.refl _)
  obtain rfl : [2] = x := by simpa using hx
  obtain ⟨y, b', o', A2, c2, hy, hA, h2, e1⟩ := hl.at_ (i := 1) (by simp) (Kept.refl _)
  obtain rfl : [0, 1] = y := by simpa using hy
  injection hA with hA
  injection hA with hA1 hA2
  subst hA1 hA2
  have hbd1 := h1.bd
  have hbd2 := h2.bd
  obtain ⟨z, b3, o3, hz, rfl, e2⟩ := h1.at_ (i := 0) (by simp) (Kept.refl _)
  obtain rfl : 2 = z := by simpa using hz
  simp only [Nat.add_zero, List.length_cons, List.length_nil, Nat.zero_add] at e0 e1 e2 hbd hbd1 hbd2
  clear hl hx hy hz h1 h2
  go_wp2
  go_ret
  exact ⟨rfl, HB1.out⟩
theorem sameInts_self (A B : Option Addr) (c d : Nat) (l : List Nat) (w : World) (hl : Ints w A c l) (hm : Ints w B d l) :
    Calls Try.prog 11 #[.slice A l.length c, .slice B l.length d] w fun e w' => e = .returned (.bool true) ∧ Below w.heap.size w w' :=
  (sameInts_any A B c d l l w hl hm).mono fun _ _ h => ⟨h.1.trans (by rw [decide_eq_true rfl]), h.2⟩
set_option maxRecDepth 100000 in
set_option maxHeartbeats 1000000 in
theorem law_comps (n0 : Int) (A : Option Addr) (c : Nat) (l : List (Int × Int)) (w : World) (hl : Edges w A c l) :
    Calls Try.prog 3 #[.int .i64 n0, .slice A l.length c] w fun e w' => e = .returned (.bool true) ∧ Below w.heap.size w w' := by
  have HL := Lib.hid hl
  clear hl
  obtain ⟨m, hm⟩ : ∃ m, min n0 24 = m := ⟨_, rfl⟩
  obtain ⟨n, hn⟩ : ∃ n : Nat, max 0 m = (n : Int) := ⟨(max 0 m).toNat, by omega⟩
  have hn24 : n ≤ 24 := by omega
  have hmx : max 0 (min m 2000) = (n : Int) := by omega
  have HM := Lib.hid hmx
  clear hmx
  go_enter Try.func3, Try.ntmps3
  go_wp2_with fail
  refine (comps2_any m A c l n HM.out w HL.out).mono ?_
  rintro e w1 ⟨out, B, d, rfl, hl1, hc1, hb1⟩
  have hbd1 := Slc.bd' hl1
  have HB1 := Lib.hid hb1
  have HL1 := Lib.hid hl1
  clear hb1 hl1
  go_wp2_with fail
  refine (rcomps_any n (by omega) A c l _ (HL.out.kept (Kept.of_below HB1.out))).mono ?_
  rintro e w2 ⟨out2, B2, d2, rfl, hl2, hc2, hb2⟩
  obtain rfl := hc2.uniq hc1
  have hbd2 := Slc.bd' hl2
  have HB2 := Lib.hid (below_next HB1.out hb2)
  have HL1 := Lib.hid (HL1.out.kept (Kept.of_below hb2))
  have HL2 := Lib.hid hl2
  clear hb2 hl2 hc1 hc2
  have hne : ((out2.length : Int) != (out2.length : Int)) = false := by simp
  go_wp2
  go_loopw [24] (fun i wr => ∃ k : Nat, k ≤ out2.length ∧ i = .int .i64 k ∧ Below w2.heap.size w2 wr) (fun i _ => out2.length - (intOf i).toNat)
  case atStart => exact ⟨0, Nat.zero_le _, rfl, Below.refl _ _⟩
  case round =>
    obtain ⟨k, hk, rfl, hb⟩ := hrel
    obtain ⟨wo, rfl⟩ : ∃ wo : World, wo = wr := ⟨_, rfl⟩
    have HB := Lib.hid hb
    clear hb
    by_cases hlt : k < out2.length
    · obtain ⟨x, b, o, A1, c1, hx, rfl, h1, e0⟩ := HL1.out.at_ hlt (Kept.of_below HB.out)
      obtain ⟨y, b', o', A2, c2, hy, rfl, h2, f0⟩ := HL2.out.at_ hlt (Kept.of_below HB.out)
      obtain rfl : x = y := Option.some.inj (hx.symm.trans hy)
      have H1 := Lib.hid (h1.kept (Kept.of_below HB.out))
      have H2 := Lib.hid (h2.kept (Kept.of_below HB.out))
      clear hx hy h1 h2
      have hi0 : (0 : Int) ≤ (k : Int) := Int.natCast_nonneg _
      have hi1 : (k : Int) < (out2.length : Int) := by omega
      have p0 := fun p : Be wo => p.cell e0
      have q0 := fun p : Be wo => p.cell f0
      clear e0 f0
      go_wp2_with fail
      refine region_be (by kernel_rfl) (by kernel_rfl) ?_
      repeat (quiet_step (first | (go_at_call 11; with_reducible exact Calls.be_of (sameInts_self A1 A2 c1 c2 x _ (Ints.kept H1.out (Be.kept _)) (Ints.kept H2.out (Be.kept _))))))
      refine wpQuiet_nil ?_
      intro _ hw'
      obtain ⟨pb, hw''⟩ := hw'
      subst hw''
      obtain ⟨W2, hbw⟩ := pb
      dsimp only
      go_wp2
      go_roundw
      case rel => exact ⟨k + 1, by omega, by simp, by have hb0 := HB.out; (repeat (first | assumption | exact Below.refl _ _ | refine below_next ?_ (by assumption) | refine below_drewN ?_ _ | refine below_alloc ?_ _))⟩
      case measure => (try simp only [intOf]); omega
    · go_wp2_with fail
      refine (awake21_any _).mono ?_
      rintro e w3 ⟨rfl, hb3⟩
      go_wp2
      go_ret
      exact ⟨rfl, below_next (below_next HB2.out HB.out) hb3⟩
end Go.Proofs.Ytodhianmaogfpaa
