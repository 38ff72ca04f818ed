/- The orders by which packages and entries are sorted: strict weak orders, plainly. Rows cut and inserted into: the slices of a row. In the walk of a region that only reads: an operation whose guard is false is passed over. The contract of the reference's SortedEntries. -/
import Derived.Test.YtaicidbopgnmfaaGreatDoorSp
import Derived.Test.YtaicidbopgnmfaaGreatDoorMk
import Derived.Test.YtaicidbopgnmfaaGreatDoorWa
import Derived.Deep.RegionLaw
import Derived.Deep.DrawnRows
import Derived.Deep.RegionHeld3
namespace Go.Proofs.YtaicidbopgnmfaaGreatDoor
set_option linter.unusedSimpArgs false
set_option linter.unusedVariables false

theorem bl_trans : ∀ {x y z : List UInt8}, Op.bytesLess x y = true → Op.bytesLess y z = true → Op.bytesLess x z = true
  | _, [], _, h, _ => by simp [Op.bytesLess] at h
  | _, _ :: _, [], _, h => by simp [Op.bytesLess] at h
  | [], _ :: _, _ :: _, _, _ => by simp [Op.bytesLess]
  | a :: x, b :: y, c :: z, h1, h2 => by
    simp only [Op.bytesLess, Bool.or_eq_true, Bool.and_eq_true, beq_iff_eq, decide_eq_true_eq, UInt8.lt_iff_toNat_lt] at *
    rcases h1 with h1 | ⟨rfl, h1⟩
    · rcases h2 with h2 | ⟨rfl, h2⟩
      · exact .inl (by omega)
      · exact .inl h1
    · rcases h2 with h2 | ⟨rfl, h2⟩
      · exact .inl h2
      · exact .inr ⟨rfl, bl_trans h1 h2⟩
theorem bl_tri : ∀ {x y : List UInt8}, Op.bytesLess x y = false → Op.bytesLess y x = false → x = y
  | [], [], _, _ => rfl
  | [], _ :: _, h, _ => by simp [Op.bytesLess] at h
  | _ :: _, [], _, h => by simp [Op.bytesLess] at h
  | a :: x, b :: y, h1, h2 => by
    simp only [Op.bytesLess, Bool.or_eq_false_iff, decide_eq_false_iff_not, UInt8.lt_iff_toNat_lt, Bool.and_eq_false_iff, beq_eq_false_iff_ne] at *
    have hab : a = b := UInt8.toNat_inj.1 (by omega)
    subst hab
    rw [bl_tri (x := x) (y := y) (h1.2.resolve_left (by simp)) (h2.2.resolve_left (by simp))]
theorem bl_asym {x y : List UInt8} (h : Op.bytesLess x y = true) : Op.bytesLess y x = false := by
  rcases hy : Op.bytesLess y x
  · rfl
  · have := bl_trans h hy
    rw [bytesLess_same] at this; cases this
theorem cmpB_val (a b : List UInt8) : cmpB a b = -1 ∧ Op.bytesLess a b = true ∨ cmpB a b = 0 ∧ a = b ∨ cmpB a b = 1 ∧ Op.bytesLess b a = true := by
  unfold cmpB
  rcases h : Op.bytesLess a b
  · by_cases he : a = b
    · simp [he]
    · rcases h2 : Op.bytesLess b a
      · exact absurd (bl_tri h h2) he
      · simp [he]
  · simp
theorem cmpB_swap (a b : List UInt8) : cmpB b a = - cmpB a b := by
  rcases cmpB_val a b with ⟨h1, h2⟩ | ⟨h1, h2⟩ | ⟨h1, h2⟩
  · have h3 := bl_asym h2
    have hne : b ≠ a := fun e => by subst e; rw [h2] at h3; cases h3
    rw [h1]; simp [cmpB, h3, hne]
  · subst h2
    rw [h1]; rfl
  · rw [h1]; simp [cmpB, h2]
theorem cmpB_zero {a b : List UInt8} : cmpB a b = 0 ↔ a = b := by
  rcases cmpB_val a b with ⟨h1, h2⟩ | ⟨h1, h2⟩ | ⟨h1, h2⟩
  · constructor
    · intro h; omega
    · rintro rfl; rw [bytesLess_same] at h2; cases h2
  · exact ⟨fun _ => h2, fun _ => h1⟩
  · constructor
    · intro h; omega
    · rintro rfl; rw [bytesLess_same] at h2; cases h2
theorem cmpB_neg {a b : List UInt8} : cmpB a b < 0 ↔ Op.bytesLess a b = true := by
  unfold cmpB
  rcases h : Op.bytesLess a b
  · simp only [Bool.false_eq_true, if_false, iff_false]
    split <;> omega
  · simp
theorem cmpB_ord (a b c : List UInt8) : ord (cmpB a b) (cmpB b c) (cmpB a c) := by
  have h3 : ∀ {x y : List UInt8}, Op.bytesLess x y = true → cmpB x y = -1 := fun h => by simp [cmpB, h]
  have h4 : ∀ {x y : List UInt8}, Op.bytesLess y x = true → cmpB x y = 1 := fun {x y} h => by rw [cmpB_swap, h3 h]; rfl
  rcases cmpB_val a b with ⟨h1, h2⟩ | ⟨h1, h2⟩ | ⟨h1, h2⟩ <;> rcases cmpB_val b c with ⟨k1, k2⟩ | ⟨k1, k2⟩ | ⟨k1, k2⟩
  · have := h3 (bl_trans h2 k2)
    unfold ord; omega
  · subst k2
    unfold ord; omega
  · rcases cmpB_val a c with ⟨m1, _⟩ | ⟨m1, _⟩ | ⟨m1, _⟩ <;> (unfold ord; omega)
  · subst h2
    unfold ord; omega
  · subst h2 k2
    unfold ord; omega
  · subst h2
    unfold ord; omega
  · rcases cmpB_val a c with ⟨m1, _⟩ | ⟨m1, _⟩ | ⟨m1, _⟩ <;> (unfold ord; omega)
  · subst k2
    unfold ord; omega
  · have := h4 (bl_trans k2 h2)
    unfold ord; omega
theorem sw_of {α : Type} {c : α → α → Int} (hs : ∀ x y, c y x = - c x y) (ho : ∀ x y z, ord (c x y) (c y z) (c x z)) : SW fun x y => decide (c x y < 0) := by
  refine ⟨fun x y h => ?_, fun x y z h => ?_⟩
  · have := hs x y
    simp at h ⊢
    omega
  · have h1 := ho x y z
    simp at h ⊢
    unfold ord at h1
    omega
/-- two versions, whatever they are: those that are none first -/
def cmpX (a b : List UInt8) : Int := if isV a && isV b then (cmpV a b).1 else (if isV a then 1 else 0) - (if isV b then 1 else 0)
theorem cmpX_of {a b : List UInt8} (ha : isV a = true) (hb : isV b = true) : cmpX a b = (cmpV a b).1 := by simp [cmpX, ha, hb]
theorem cmpX_swap (a b : List UInt8) : cmpX b a = - cmpX a b := by
  unfold cmpX
  have := cmpV_swap a b
  rcases isV a <;> rcases isV b <;> simp [this]
theorem cmpX_ord (a b c : List UInt8) : ord (cmpX a b) (cmpX b c) (cmpX a c) := by
  unfold cmpX
  rcases ha : isV a <;> rcases hb : isV b <;> rcases hc : isV c <;> simp <;> first | (unfold ord; omega) | exact cmpV_ord ha hb hc
/-- packages: by name, the later version first -/
def pCmp (p q : Pkg) : Int := orS (cmpB p.name q.name) (cmpX q.ver p.ver) 0
def pLt (p q : Pkg) : Bool := decide (pCmp p q < 0)
def eCmp (x y : Ent) : Int := cmpB x.pkg.name y.pkg.name
def eLt (x y : Ent) : Bool := decide (eCmp x y < 0)
theorem pCmp_swap (p q : Pkg) : pCmp q p = - pCmp p q := by
  unfold pCmp
  rw [cmpB_swap p.name q.name, cmpX_swap q.ver p.ver]
  have := orS_swap (cmpB p.name q.name) (cmpX q.ver p.ver) 0
  simpa using this
theorem ord_turn {x y z : Int} (h : ord y x z) : ord x y z := by
  unfold ord at *
  omega
theorem ord_zero : ord 0 0 0 := by unfold ord; omega
theorem pCmp_ord (p q r : Pkg) : ord (pCmp p q) (pCmp q r) (pCmp p r) := by
  refine orS_ord (cmpB_ord ..) (ord_turn (cmpX_ord ..)) ord_zero
theorem pSW : SW pLt := sw_of pCmp_swap pCmp_ord
theorem eSW : SW eLt := sw_of (fun _ _ => cmpB_swap _ _) (fun _ _ _ => cmpB_ord _ _ _)
end Go.Proofs.YtaicidbopgnmfaaGreatDoor
namespace Go.Proofs.YtaicidbopgnmfaaGreatDoor
set_option linter.unusedSimpArgs false
set_option linter.unusedVariables false
open Go.RowKit
theorem own_form {α : Type} {w : World} {B : Nat} {e : TypeId} {k : Nat} {R : List Value → α → Prop} {v : Value} {l : List α} (h : Own w B e k R v l) : v = .slice none 0 0 ∧ l = [] ∨ ∃ g cap, v = .slice (some ⟨g, 0, none⟩) l.length cap := by
  obtain ⟨css, hl, hR, hlen, ho⟩ := h
  rcases ho with ⟨rfl, h0⟩ | ⟨g, cap, cur, rfl, _⟩
  · exact .inl ⟨rfl, List.eq_nil_of_length_eq_zero h0⟩
  · exact .inr ⟨g, cap, rfl⟩
theorem insR_at {α : Type} {lt : α → α → Bool} {l : List α} {y : α} {j : Nat} (h1 : ∀ x ∈ l.take j, lt y x = false) (h2 : l.length ≤ j ∨ ∃ x, l[j]? = some x ∧ lt y x = true) : insR lt l y = l.take j ++ y :: l.drop j := by
  conv => lhs; rw [← List.take_append_drop j l]
  rw [insR_left h1]
  congr 1
  rcases h2 with h2 | ⟨x, hx, hlt⟩
  · rw [List.drop_of_length_le h2]; rfl
  · have hj := (List.getElem?_eq_some_iff.1 hx).1
    obtain ⟨_, hxe⟩ := List.getElem?_eq_some_iff.1 hx
    rw [List.drop_eq_getElem_cons hj, hxe, insR_yes hlt]
theorem Own.down {α : Type} {w : World} {B B' : Nat} {e : TypeId} {k : Nat} {R : List Value → α → Prop} {v : Value} {l : List α} (h : Own w B e k R v l) (hb : B' ≤ B) : Own w B' e k R v l := by
  obtain ⟨css, h1, h2, h3, h4⟩ := h
  refine ⟨css, h1, h2, h3, ?_⟩
  rcases h4 with h4 | ⟨g, cap, cur, h5, h6, h7⟩
  · exact .inl h4
  · exact .inr ⟨g, cap, cur, h5, Nat.le_trans hb h6, h7⟩
theorem Slc.take {α : Type} {w : World} {k z : Nat} {R : List Value → α → Prop} {A : Option Addr} {c : Nat} {l : List α} (h : Slc w k z R A c l) (n : Nat) : Slc w k z R A c (l.take n) := by
  obtain ⟨h1, h2, h3, h4⟩ := h
  have hle : (l.take n).length ≤ l.length := by simp; omega
  refine ⟨by omega, h2, Nat.le_trans (Nat.mul_le_mul_right _ hle) h3, fun h0 => ?_⟩
  obtain ⟨b, o, hA, hx⟩ := h4 (by omega)
  refine ⟨b, o, hA, fun i x hi => hx i x ?_⟩
  rw [List.getElem?_take] at hi
  split at hi
  · exact hi
  · cases hi
theorem Slc.drop {α : Type} {w : World} {k z : Nat} {R : List Value → α → Prop} {b o c : Nat} {l : List α} (h : Slc w k z R (some ⟨b, o, none⟩) c l) (n : Nat) (hn : n ≤ l.length) : Slc w k z R (some ⟨b, o + n * k, none⟩) (c - n) (l.drop n) := by
  have hl : (l.drop n).length = l.length - n := List.length_drop ..
  refine ⟨by have := h.1; omega, by have := h.2.1; omega, Nat.le_trans (Nat.mul_le_mul_right _ (by omega)) h.2.2.1, fun h0 => ⟨b, o + n * k, rfl, fun i x hi => ?_⟩⟩
  rw [List.getElem?_drop] at hi
  obtain ⟨x', b', o', cs, hx, hA, hcs, hlen, hr⟩ := h.at_ (i := n + i) (List.getElem?_eq_some_iff.1 hi).1
  injection hA with hA
  injection hA with hA1 hA2
  subst hA1 hA2
  obtain rfl : x' = x := Option.some.inj (hx.symm.trans hi)
  refine ⟨cs, hcs, hlen, ?_⟩
  rw [Nat.add_mul, ← Nat.add_assoc] at hr
  exact hr
theorem Slc.dropEnd {α : Type} {w : World} {k z : Nat} {R : List Value → α → Prop} {A : Option Addr} {c : Nat} {l : List α} {n : Nat} (hn : l.length ≤ n) (hc : c ≤ 9223372036854775807) : Slc w k z R A c (l.drop n) := by
  rw [List.drop_of_length_le hn]
  exact Slc.nil_ hc
theorem Slc.drop0 {α : Type} {w : World} {k z : Nat} {R : List Value → α → Prop} {b c : Nat} {l : List α} (h : Slc w k z R (some ⟨b, 0, none⟩) c l) (n : Nat) (hn : n ≤ l.length) : Slc w k z R (some ⟨b, n * k, none⟩) (c - n) (l.drop n) := by
  have := Slc.drop h n hn
  rwa [Nat.zero_add] at this
theorem blk_grown0 {w y : World} {g t : Nat} {cs : Array Value} (hB : Blk w g t cs) (hg : w.drew.grownBy y (Value.slice none 0 0).ownBlock) : Blk y g t cs :=
  Blk.grown (w := w.drew) hB hg (by simp [Value.ownBlock])
theorem Own.slcOf {α : Type} {w : World} {B : Nat} {e : TypeId} {k z : Nat} {R : List Value → α → Prop} {A : Option Addr} {n c : Nat} {l : List α} (h : Own w B e k R (.slice A n c) l) (hz : l.length * z ≤ 140737488351232) : Slc w k z R A c l := by
  obtain ⟨A', c', h1, h2⟩ := h.slc hz
  injection h1 with h1 h3 h4
  subst h1 h4
  exact h2
theorem Slc.none_ {α : Type} {w : World} {k z : Nat} {R : List Value → α → Prop} {A : Option Addr} {c : Nat} (hc : c ≤ 9223372036854775807) : Slc w k z R A c [] :=
  ⟨Nat.zero_le _, hc, by simp, fun h => by simp at h⟩
end Go.Proofs.YtaicidbopgnmfaaGreatDoor
namespace Go.Proofs.YtaicidbopgnmfaaGreatDoor
set_option linter.unusedSimpArgs false
set_option linter.unusedVariables false
open Go.RowKit
theorem wpQuiet_skip {P : Program} {ops : Array Oper} {C : World → Prop} {Q : Act → Prop} {a : Act} {o : Oper} {rest : List Oper} (h0 : Region.wanted o (yielded ops a.tmps) = false) (h : wpQuiet P ops C Q rest (a.put o.dst undef)) : wpQuiet P ops C Q (o :: rest) a := by
  unfold wpQuiet
  rw [if_neg (by rw [h0]; decide)]
  exact h
end Go.Proofs.YtaicidbopgnmfaaGreatDoor
namespace Go.Proofs.YtaicidbopgnmfaaGreatDoor
set_option linter.unusedSimpArgs false
set_option linter.unusedVariables false
open Go.RowKit
attribute [local go_sem ↓] Go.wp_at_zero Go.wp_at_succ
attribute [local irreducible] wpQuiet
theorem infEntE : (Tryz.prog.info? 45).map (fun i => (i.zero, i.size, i.bytes)) = some (some (.agg #[.string (bs []), .string (bs []), .slice none 0 0, .slice none 0 0, .slice none 0 0, .slice none 0 0, .slice none 0 0, .slice none 0 0, .bool false, .bool false, .bool false]), 11, 192) := by kernel_rfl
theorem entE_one {w : World} : ∀ cs y, REnt w cs y → ∀ u ∈ cs, u.oneCell' = true := fun cs y ⟨r, h, _⟩ u hu => by
  subst h
  exact encE_one r y u hu
theorem eLt_bl {p x : Ent} (h : Op.bytesLess x.pkg.name p.pkg.name = true) : eLt p x = false := by
  have h1 : cmpB x.pkg.name p.pkg.name = -1 := by simp [cmpB, h]
  have h2 := cmpB_swap x.pkg.name p.pkg.name
  rw [h1] at h2
  simp [eLt, eCmp, h2]
theorem eLt_ne {p x : Ent} (h : Op.bytesLess x.pkg.name p.pkg.name = false) (hne : x.pkg.name ≠ p.pkg.name) : eLt p x = true := by
  have h1 : cmpB x.pkg.name p.pkg.name = 1 := by simp [cmpB, h, hne]
  have h2 := cmpB_swap x.pkg.name p.pkg.name
  rw [h1] at h2
  simp [eLt, eCmp, h2]
theorem eLt_eq {p x : Ent} (h : x.pkg.name = p.pkg.name) : eLt p x = false := by
  have h1 : cmpB p.pkg.name x.pkg.name = 0 := cmpB_zero.2 h.symm
  simp [eLt, eCmp, h1]
theorem Ents.of_own {w W : World} {B : Nat} {v : Value} {l : List Ent} (h : Own W B 45 11 (REnt w) v l) (hb : Below w.heap.size w W) (hz : l.length * 192 ≤ 140737488351232) : ∃ A c, v = .slice A l.length c ∧ Ents W A c l ∧ ((A = none ∧ c = 0 ∧ l = []) ∨ ∃ g, A = some ⟨g, 0, none⟩) := by
  have hf := own_form h
  obtain ⟨A, c, h1, h2⟩ := h.slc (z := 192) hz
  refine ⟨A, c, h1, Slc.mono h2 (Kept.refl _) fun cs x ⟨r, e1, e2⟩ => ⟨r, e1, e2.kept (Kept.of_below hb)⟩, ?_⟩
  rcases hf with ⟨hf, hl⟩ | ⟨g, cap, hf⟩
  · rw [hf] at h1
    injection h1 with h1 h3 h4
    exact .inl ⟨h1.symm, h4.symm, hl⟩
  · rw [hf] at h1
    injection h1 with h1 h3 h4
    exact .inr ⟨g, h1.symm⟩
set_option maxRecDepth 100000 in
set_option maxHeartbeats 4000000 in
theorem rSortedE_any (A : Option Addr) (c : Nat) (l : List Ent) (w : World) (hl : Ents w A c l) (hn : l.length ≤ 1000) :
    Calls Tryz.prog 111 #[.slice A l.length c] w fun e w' => ∃ B d, e = .returned (.slice B (srt eLt l).length d) ∧ Ents w' B d (srt eLt l) ∧ Below w.heap.size w w' := by
  have hbd := hl.bd
  have HL := Lib.hid hl
  clear hl
  go_enter Tryz.func111, Tryz.ntmps111
  go_wp2
  go_loopw [3, 9] (fun v i wr => ∃ (k : Nat) (s : List Ent), k ≤ l.length ∧ i = .int .i64 k ∧ s = srt eLt (l.take k) ∧ Below w.heap.size w wr ∧ Own wr w.heap.size 45 11 (REnt w) v s) (fun _ i _ => l.length - (intOf i).toNat)
  case atStart => exact ⟨0, [], Nat.zero_le _, rfl, rfl, Below.refl _ _, Own.nil_ _ _ _ _ _⟩
  case round =>
    obtain ⟨k, s, hk, rfl, hs, hb, ho⟩ := hrel
    obtain ⟨wo, rfl⟩ : ∃ wo : World, wo = wr := ⟨_, rfl⟩
    have hsl : s.length ≤ 1000 := by rw [hs, srt_len, List.length_take]; omega
    have hsk : s.length = k := by rw [hs, srt_len, List.length_take]; omega
    have HS := Lib.hid hs
    have HSk := Lib.hid hsk
    have HB := Lib.hid hb
    have HO := Lib.hid ho
    clear hs hsk hb ho
    by_cases hlt : k < l.length
    · obtain ⟨p, b, o, r, hp, rfl, hr, e0, e1, e2, e3, e4, e5, e6, e7, e8, e9, e10⟩ := HL.out.at_ hlt (Kept.of_below HB.out)
      have HP := Lib.hid hp
      have HR := Lib.hid hr
      clear hp hr
      go_wp2
      have K1 := Lib.hid (blk_new1 wo 45 #[.string (bs (p).pkg.name), .string (bs (p).pkg.ver), .slice (r).a1 (p).pkg.pre.length (r).c1, .slice (r).a2 (p).pkg.dep.length (r).c2, .slice (r).a3 (p).pkg.rcm.length (r).c3, .slice (r).a4 (p).pkg.con.length (r).c4, .slice (r).a5 (p).pkg.brk.length (r).c5, .slice (r).a6 (p).pkg.prv.length (r).c6, .bool (p).pkg.ess, .bool (p).conf, .bool (p).hold])
      have HB1 := Lib.hid (below_alloc HB.out (.cells #[.string (bs (p).pkg.name), .string (bs (p).pkg.ver), .slice (r).a1 (p).pkg.pre.length (r).c1, .slice (r).a2 (p).pkg.dep.length (r).c2, .slice (r).a3 (p).pkg.rcm.length (r).c3, .slice (r).a4 (p).pkg.con.length (r).c4, .slice (r).a5 (p).pkg.brk.length (r).c5, .slice (r).a6 (p).pkg.prv.length (r).c6, .bool (p).pkg.ess, .bool (p).conf, .bool (p).hold] 45))
      have HO1 := Lib.hid (HO.out.alloc (.cells #[.string (bs (p).pkg.name), .string (bs (p).pkg.ver), .slice (r).a1 (p).pkg.pre.length (r).c1, .slice (r).a2 (p).pkg.dep.length (r).c2, .slice (r).a3 (p).pkg.rcm.length (r).c3, .slice (r).a4 (p).pkg.con.length (r).c4, .slice (r).a5 (p).pkg.brk.length (r).c5, .slice (r).a6 (p).pkg.prv.length (r).c6, .bool (p).pkg.ess, .bool (p).conf, .bool (p).hold] 45))
      clear e0 e1 e2 e3 e4 e5 e6 e7 e8 e9 e10 HB HO
      generalize World.alloc _ _ = W at K1 HB1 HO1 ⊢
      generalize wo.heap.size = g at K1 ⊢
      obtain ⟨A2, c2, rfl, hps, hA2⟩ := Ents.of_own HO1.out HB1.out (by omega)
      have HA2 := Lib.hid hA2
      clear hA2
      have hbd2 := hps.bd
      have HPS := Lib.hid hps
      clear hps
      go_loopw [6] (fun i wr => ∃ j : Nat, j ≤ s.length ∧ i = .int .i64 j ∧ (∀ x ∈ s.take j, eLt p x = false) ∧ Below W.heap.size W wr) (fun i _ => s.length - (intOf i).toNat)
      case atStart => exact ⟨0, Nat.zero_le _, rfl, fun x hx => by simp at hx, Below.refl _ _⟩
      case round =>
        obtain ⟨j, hj, rfl, hjl, hb⟩ := hrel
        obtain ⟨wi, rfl⟩ : ∃ wi : World, wi = wr := ⟨_, rfl⟩
        have HBi := Lib.hid hb
        have HJ := Lib.hid hjl
        obtain ⟨c0, c1, c2', c3, c4, c5, c6, c7, c8, c9, c10⟩ := blk11 (K1.out.next hb)
        clear hb hjl c1 c2' c3 c4 c5 c6 c7 c8 c9 c10
        have q0 := fun p : Be wi => Be.cell c0 p
        clear c0
        by_cases hjk : j < s.length
        · obtain ⟨x, b', o', t, hx, rfl, ht, f0, f1, f2, f3, f4, f5, f6, f7, f8, f9, f10⟩ := HPS.out.at_ hjk (Kept.of_below HBi.out)
          have HX := Lib.hid hx
          clear hx ht f1 f2 f3 f4 f5 f6 f7 f8 f9 f10
          have u0 := fun p : Be wi => Be.cell f0 p
          clear f0
          have hj0 : (0 : Int) ≤ (j : Int) := Int.natCast_nonneg _
          have hj1 : (j : Int) < (s.length : Int) := by omega
          have hjd : decide ((j : Int) < (s.length : Int)) = true := decide_eq_true hj1
          rcases hbl : Op.bytesLess x.pkg.name p.pkg.name
          · by_cases hne : x.pkg.name = p.pkg.name
            · have hnb : (x.pkg.name == p.pkg.name) = true := by simpa using hne
              have HLT := Lib.hid (eLt_eq hne)
              clear hne
              go_wp2_with fail
              refine region_be (by kernel_rfl) (by kernel_rfl) ?_
              repeat (quiet_step (fail))
              refine wpQuiet_nil ?_
              intro _ hw'
              obtain ⟨pb, hw''⟩ := hw'
              subst hw''
              obtain ⟨W2, hbw⟩ := pb
              dsimp only
              have HB2 := Lib.hid (below_next HBi.out hbw)
              clear hbw
              go_wp2
              go_roundw
              case rel => exact ⟨j + 1, by omega, by simp, fun z hz => (by
                rw [take_step HX.out, List.mem_append, List.mem_singleton] at hz
                rcases hz with hz | rfl
                · exact HJ.out z hz
                · exact HLT.out), HB2.out⟩
              case measure => (try simp only [intOf]); omega
            · have hnb : (x.pkg.name == p.pkg.name) = false := by simpa using hne
              have HEX := Lib.hid (show s.length ≤ j ∨ ∃ x, s[j]? = some x ∧ eLt p x = true from .inr ⟨x, HX.out, eLt_ne hbl hne⟩)
              clear hne
              go_wp2_with fail
              refine region_be (by kernel_rfl) (by kernel_rfl) ?_
              repeat (quiet_step (fail))
              refine wpQuiet_nil ?_
              intro _ hw'
              obtain ⟨pb, hw''⟩ := hw'
              subst hw''
              obtain ⟨W2, hbw⟩ := pb
              dsimp only
              have hj7 : (j : Int) ≤ (c2 : Int) := by omega
              have hj8 : ¬ c2 = j := by omega
              have HIN := Lib.hid (insR_at HJ.out HEX.out)
              have HB2 := Lib.hid (below_next HB1.out (below_next HBi.out hbw))
              have HO2 := Lib.hid (HO1.out.next (below_next HBi.out hbw))
              have K2 := Lib.hid (K1.out.next (below_next HBi.out hbw))
              clear hbw
              have htk : (s.take j).length = j := by rw [List.length_take]; omega
              have HTK := Lib.hid htk
              have HTD := Lib.hid (show (s.drop j).length = (s.length - j) by have h := List.length_drop (i := j) (l := s); omega)
              have HBy1 := Lib.hid (show (([] : List Ent).length + (s.take j).length) * 192 ≤ 140737488355328 by simp; omega)
              have HBy2 := Lib.hid (show ((s.take j).length + 1) * 192 ≤ 140737488355328 by omega)
              have HBy3 := Lib.hid (show ((s.take j ++ [p]).length + (s.drop j).length) * 192 ≤ 140737488355328 by rw [List.length_append, List.length_drop, htk]; simp; omega)
              clear htk
              have HSW := Lib.hid (Own.slcOf (z := 192) HO2.out (by omega))
              have HS1 := Lib.hid (show Slc W2 11 192 (REnt w) (some ⟨b', o', none⟩) c2 (s.take j) from (Slc.take HSW.out j))
              have HS2 := Lib.hid (show Slc W2 11 192 (REnt w) (some ⟨b', o' + j * 11, none⟩) (c2 - j) (s.drop j) from (Slc.drop HSW.out j (by omega)))
              have hjt : ((j : Int)).toNat = j := Int.toNat_natCast _
              have hj5 : (0 : Int) ≤ (j : Int) := Int.natCast_nonneg _
              have hj6 : (j : Int) ≤ (s.length : Int) := by omega
              go_wp2_with fail
              have a0 := fun (w2 : World) (h : Hid (Below W2.heap.size W2 w2)) => (blk11 (K2.out.next h.out)).1
              have a1 := fun (w2 : World) (h : Hid (Below W2.heap.size W2 w2)) => (blk11 (K2.out.next h.out)).2.1
              have a2 := fun (w2 : World) (h : Hid (Below W2.heap.size W2 w2)) => (blk11 (K2.out.next h.out)).2.2.1
              have a3 := fun (w2 : World) (h : Hid (Below W2.heap.size W2 w2)) => (blk11 (K2.out.next h.out)).2.2.2.1
              have a4 := fun (w2 : World) (h : Hid (Below W2.heap.size W2 w2)) => (blk11 (K2.out.next h.out)).2.2.2.2.1
              have a5 := fun (w2 : World) (h : Hid (Below W2.heap.size W2 w2)) => (blk11 (K2.out.next h.out)).2.2.2.2.2.1
              have a6 := fun (w2 : World) (h : Hid (Below W2.heap.size W2 w2)) => (blk11 (K2.out.next h.out)).2.2.2.2.2.2.1
              have a7 := fun (w2 : World) (h : Hid (Below W2.heap.size W2 w2)) => (blk11 (K2.out.next h.out)).2.2.2.2.2.2.2.1
              have a8 := fun (w2 : World) (h : Hid (Below W2.heap.size W2 w2)) => (blk11 (K2.out.next h.out)).2.2.2.2.2.2.2.2.1
              have a9 := fun (w2 : World) (h : Hid (Below W2.heap.size W2 w2)) => (blk11 (K2.out.next h.out)).2.2.2.2.2.2.2.2.2.1
              have a10 := fun (w2 : World) (h : Hid (Below W2.heap.size W2 w2)) => (blk11 (K2.out.next h.out)).2.2.2.2.2.2.2.2.2.2
              go_region_held3 (fun w' => Hid (Below W2.heap.size W2 w')) (first | with_reducible assumption | exact hbC | exact hbB | exact hbA | exact Lib.hid (below_drewN (Below.refl _ _) 1) | (have hh := (by assumption : Hid (Below W2.heap.size W2 _)); exact Lib.hid (below_alloc hh.out _)))
                (first | (have hh := (by assumption : Hid (Below W2.heap.size W2 _)); refine step_append_all (by rfl) _ _ 22 (by rfl) W2.heap.size 45 _ 11 192 192 Tryz.underlying22 infEntE rfl (by omega) (REnt w) _ [] (by rfl) (Own.nil_ _ _ _ _ _) (some ⟨b', o', none⟩) c2 (s.take j) (by rw [HTK.out]; rfl) (Slc.mono HS1.out (Kept.of_below hh.out) fun _ _ h => h) entE_one HBy1.out (by omega) hh.out.size ?_; intro v1 y1 ho1 hg1; have hbA := Lib.hid ((Own.nil_ _ W2.heap.size 45 11 (REnt w)).below hh.out hh.out.size hg1); rw [List.nil_append] at ho1) | (have hh := (by assumption : Hid (Below W2.heap.size W2 _)); refine step_append_el (by rfl) _ _ 22 (by rfl) W2.heap.size 45 _ 11 192 Tryz.underlying22 infEntE rfl (by omega) (REnt w) v1 (s.take j) (by rfl) (by first | exact ho1 | exact ho1.alloc _ | exact ho1.drew | exact (ho1.alloc _).drew | exact (ho1.drew).alloc _) p (encE r p) _ 1 (by rfl) (by first | exact Blk.new _ _ _ | exact blk_grown0 (blk_new1 W2 45 #[.string (bs (p).pkg.name), .string (bs (p).pkg.ver), .slice (r).a1 (p).pkg.pre.length (r).c1, .slice (r).a2 (p).pkg.dep.length (r).c2, .slice (r).a3 (p).pkg.rcm.length (r).c3, .slice (r).a4 (p).pkg.con.length (r).c4, .slice (r).a5 (p).pkg.brk.length (r).c5, .slice (r).a6 (p).pkg.prv.length (r).c6, .bool (p).pkg.ess, .bool (p).conf, .bool (p).hold]) hg1) ⟨r, rfl, HR.out⟩ rfl (encE_one _ _) HBy2.out (by omega) hh.out.size ?_; intro g2 cap2 y2 ho2 hg2; have hbB := Lib.hid (show Below W2.heap.size W2 y2 from by first | exact (ho1.alloc _).below hh.out hh.out.size hg2 | exact ho1.below hh.out hh.out.size hg2)) | (have hh := (by assumption : Hid (Below W2.heap.size W2 _)); refine step_append_all (by rfl) _ _ 22 (by rfl) W2.heap.size 45 _ 11 192 192 Tryz.underlying22 infEntE rfl (by omega) (REnt w) _ (s.take j ++ [p]) (by rfl) ho2 (some ⟨b', o' + j * 11, none⟩) (c2 - j) (s.drop j) (by first | (rw [HTD.out]; rfl) | (rw [show (s.drop j).length = s.length - j from List.length_drop ..]; rfl)) (Slc.mono HS2.out (Kept.of_below hh.out) fun _ _ h => h) entE_one HBy3.out (by omega) hh.out.size ?_; intro v3 y3 ho3 hg3; have hbC := Lib.hid (ho2.below hh.out hh.out.size hg3)))
              clear a0 a1 a2 a3 a4 a5 a6 a7 a8 a9 a10
              all_goals go_wp2_with fail
              all_goals go_roundw
              all_goals first
                | (case rel => exact ⟨k + 1, s.take j ++ p :: s.drop j, by omega, by simp, by rw [take_step HP.out, srt_snoc, ← HS.out, HIN.out], below_next HB2.out hbC.out, (by have h := ho3.down HB2.out.size; rw [List.append_assoc] at h; exact h)⟩)
                | (case measure => (try simp only [intOf]); omega)
          · have HLT := Lib.hid (eLt_bl hbl)
            go_wp2_with fail
            refine region_be (by kernel_rfl) (by kernel_rfl) ?_
            repeat (quiet_step (fail))
            refine wpQuiet_nil ?_
            intro _ hw'
            obtain ⟨pb, hw''⟩ := hw'
            subst hw''
            obtain ⟨W2, hbw⟩ := pb
            dsimp only
            have HB2 := Lib.hid (below_next HBi.out hbw)
            clear hbw
            go_wp2
            go_roundw
            case rel => exact ⟨j + 1, by omega, by simp, fun z hz => (by
              rw [take_step HX.out, List.mem_append, List.mem_singleton] at hz
              rcases hz with hz | rfl
              · exact HJ.out z hz
              · exact HLT.out), HB2.out⟩
            case measure => (try simp only [intOf]); omega
        · have hjd : decide ((j : Int) < (s.length : Int)) = false := decide_eq_false (by omega)
          have HEX := Lib.hid (show s.length ≤ j ∨ ∃ x, s[j]? = some x ∧ eLt p x = true from .inl (by omega))
          go_wp2_with fail
          refine region_be (by kernel_rfl) (by kernel_rfl) ?_
          repeat (quiet_step (fail))
          refine wpQuiet_nil ?_
          intro _ hw'
          obtain ⟨pb, hw''⟩ := hw'
          subst hw''
          obtain ⟨W2, hbw⟩ := pb
          dsimp only
          by_cases hcj : c2 = j
          · cases hcj
            obtain ⟨j, rfl⟩ : ∃ j' : Nat, j' = c2 := ⟨_, rfl⟩
            have hj7 : (j : Int) ≤ (j : Int) := by omega
            rcases A2 with _ | ad
            · have HIN := Lib.hid (insR_at HJ.out HEX.out)
              have HB2 := Lib.hid (below_next HB1.out (below_next HBi.out hbw))
              have HO2 := Lib.hid (HO1.out.next (below_next HBi.out hbw))
              have K2 := Lib.hid (K1.out.next (below_next HBi.out hbw))
              clear hbw
              have htk : (s.take j).length = j := by rw [List.length_take]; omega
              have HTK := Lib.hid htk
              have HTD := Lib.hid (show (s.drop j).length = 0 by have h := List.length_drop (i := j) (l := s); omega)
              have HBy1 := Lib.hid (show (([] : List Ent).length + (s.take j).length) * 192 ≤ 140737488355328 by simp; omega)
              have HBy2 := Lib.hid (show ((s.take j).length + 1) * 192 ≤ 140737488355328 by omega)
              have HBy3 := Lib.hid (show ((s.take j ++ [p]).length + (s.drop j).length) * 192 ≤ 140737488355328 by rw [List.length_append, List.length_drop, htk]; simp; omega)
              clear htk
              have HSW := Lib.hid (Own.slcOf (z := 192) HO2.out (by omega))
              have HS1 := Lib.hid (show Slc W2 11 192 (REnt w) none j (s.take j) from (Slc.take HSW.out j))
              have HS2 := Lib.hid (show Slc W2 11 192 (REnt w) none 0 (s.drop j) from (Slc.dropEnd (by omega) (by omega)))
              have hjt : ((j : Int)).toNat = j := Int.toNat_natCast _
              have hj5 : (0 : Int) ≤ (j : Int) := Int.natCast_nonneg _
              have hj6 : (j : Int) ≤ (s.length : Int) := by omega
              go_wp2_with fail
              have a0 := fun (w2 : World) (h : Hid (Below W2.heap.size W2 w2)) => (blk11 (K2.out.next h.out)).1
              have a1 := fun (w2 : World) (h : Hid (Below W2.heap.size W2 w2)) => (blk11 (K2.out.next h.out)).2.1
              have a2 := fun (w2 : World) (h : Hid (Below W2.heap.size W2 w2)) => (blk11 (K2.out.next h.out)).2.2.1
              have a3 := fun (w2 : World) (h : Hid (Below W2.heap.size W2 w2)) => (blk11 (K2.out.next h.out)).2.2.2.1
              have a4 := fun (w2 : World) (h : Hid (Below W2.heap.size W2 w2)) => (blk11 (K2.out.next h.out)).2.2.2.2.1
              have a5 := fun (w2 : World) (h : Hid (Below W2.heap.size W2 w2)) => (blk11 (K2.out.next h.out)).2.2.2.2.2.1
              have a6 := fun (w2 : World) (h : Hid (Below W2.heap.size W2 w2)) => (blk11 (K2.out.next h.out)).2.2.2.2.2.2.1
              have a7 := fun (w2 : World) (h : Hid (Below W2.heap.size W2 w2)) => (blk11 (K2.out.next h.out)).2.2.2.2.2.2.2.1
              have a8 := fun (w2 : World) (h : Hid (Below W2.heap.size W2 w2)) => (blk11 (K2.out.next h.out)).2.2.2.2.2.2.2.2.1
              have a9 := fun (w2 : World) (h : Hid (Below W2.heap.size W2 w2)) => (blk11 (K2.out.next h.out)).2.2.2.2.2.2.2.2.2.1
              have a10 := fun (w2 : World) (h : Hid (Below W2.heap.size W2 w2)) => (blk11 (K2.out.next h.out)).2.2.2.2.2.2.2.2.2.2
              go_region_held3 (fun w' => Hid (Below W2.heap.size W2 w')) (first | with_reducible assumption | exact hbC | exact hbB | exact hbA | exact Lib.hid (below_drewN (Below.refl _ _) 1) | (have hh := (by assumption : Hid (Below W2.heap.size W2 _)); exact Lib.hid (below_alloc hh.out _)))
                (first | (have hh := (by assumption : Hid (Below W2.heap.size W2 _)); refine step_append_all (by rfl) _ _ 22 (by rfl) W2.heap.size 45 _ 11 192 192 Tryz.underlying22 infEntE rfl (by omega) (REnt w) _ [] (by rfl) (Own.nil_ _ _ _ _ _) none j (s.take j) (by rw [HTK.out]; rfl) (Slc.mono HS1.out (Kept.of_below hh.out) fun _ _ h => h) entE_one HBy1.out (by omega) hh.out.size ?_; intro v1 y1 ho1 hg1; have hbA := Lib.hid ((Own.nil_ _ W2.heap.size 45 11 (REnt w)).below hh.out hh.out.size hg1); rw [List.nil_append] at ho1) | (have hh := (by assumption : Hid (Below W2.heap.size W2 _)); refine step_append_el (by rfl) _ _ 22 (by rfl) W2.heap.size 45 _ 11 192 Tryz.underlying22 infEntE rfl (by omega) (REnt w) v1 (s.take j) (by rfl) (by first | exact ho1 | exact ho1.alloc _ | exact ho1.drew | exact (ho1.alloc _).drew | exact (ho1.drew).alloc _) p (encE r p) _ 1 (by rfl) (by first | exact Blk.new _ _ _ | exact blk_grown0 (blk_new1 W2 45 #[.string (bs (p).pkg.name), .string (bs (p).pkg.ver), .slice (r).a1 (p).pkg.pre.length (r).c1, .slice (r).a2 (p).pkg.dep.length (r).c2, .slice (r).a3 (p).pkg.rcm.length (r).c3, .slice (r).a4 (p).pkg.con.length (r).c4, .slice (r).a5 (p).pkg.brk.length (r).c5, .slice (r).a6 (p).pkg.prv.length (r).c6, .bool (p).pkg.ess, .bool (p).conf, .bool (p).hold]) hg1) ⟨r, rfl, HR.out⟩ rfl (encE_one _ _) HBy2.out (by omega) hh.out.size ?_; intro g2 cap2 y2 ho2 hg2; have hbB := Lib.hid (show Below W2.heap.size W2 y2 from by first | exact (ho1.alloc _).below hh.out hh.out.size hg2 | exact ho1.below hh.out hh.out.size hg2)) | (have hh := (by assumption : Hid (Below W2.heap.size W2 _)); refine step_append_all (by rfl) _ _ 22 (by rfl) W2.heap.size 45 _ 11 192 192 Tryz.underlying22 infEntE rfl (by omega) (REnt w) _ (s.take j ++ [p]) (by rfl) ho2 none 0 (s.drop j) (by first | (rw [HTD.out]; rfl) | (rw [show (s.drop j).length = s.length - j from List.length_drop ..]; rfl)) (Slc.mono HS2.out (Kept.of_below hh.out) fun _ _ h => h) entE_one HBy3.out (by omega) hh.out.size ?_; intro v3 y3 ho3 hg3; have hbC := Lib.hid (ho2.below hh.out hh.out.size hg3)))
              clear a0 a1 a2 a3 a4 a5 a6 a7 a8 a9 a10
              all_goals go_wp2_with fail
              all_goals go_roundw
              all_goals first
                | (case rel => exact ⟨k + 1, s.take j ++ p :: s.drop j, by omega, by simp, by rw [take_step HP.out, srt_snoc, ← HS.out, HIN.out], below_next HB2.out hbC.out, (by have h := ho3.down HB2.out.size; rw [List.append_assoc] at h; exact h)⟩)
                | (case measure => (try simp only [intOf]); omega)
            · have HIN := Lib.hid (insR_at HJ.out HEX.out)
              have HB2 := Lib.hid (below_next HB1.out (below_next HBi.out hbw))
              have HO2 := Lib.hid (HO1.out.next (below_next HBi.out hbw))
              have K2 := Lib.hid (K1.out.next (below_next HBi.out hbw))
              clear hbw
              have htk : (s.take j).length = j := by rw [List.length_take]; omega
              have HTK := Lib.hid htk
              have HTD := Lib.hid (show (s.drop j).length = 0 by have h := List.length_drop (i := j) (l := s); omega)
              have HBy1 := Lib.hid (show (([] : List Ent).length + (s.take j).length) * 192 ≤ 140737488355328 by simp; omega)
              have HBy2 := Lib.hid (show ((s.take j).length + 1) * 192 ≤ 140737488355328 by omega)
              have HBy3 := Lib.hid (show ((s.take j ++ [p]).length + (s.drop j).length) * 192 ≤ 140737488355328 by rw [List.length_append, List.length_drop, htk]; simp; omega)
              clear htk
              have HSW := Lib.hid (Own.slcOf (z := 192) HO2.out (by omega))
              have HS1 := Lib.hid (show Slc W2 11 192 (REnt w) (some ad) j (s.take j) from (Slc.take HSW.out j))
              have HS2 := Lib.hid (show Slc W2 11 192 (REnt w) (some ad) 0 (s.drop j) from (Slc.dropEnd (by omega) (by omega)))
              have hjt : ((j : Int)).toNat = j := Int.toNat_natCast _
              have hj5 : (0 : Int) ≤ (j : Int) := Int.natCast_nonneg _
              have hj6 : (j : Int) ≤ (s.length : Int) := by omega
              go_wp2_with fail
              have a0 := fun (w2 : World) (h : Hid (Below W2.heap.size W2 w2)) => (blk11 (K2.out.next h.out)).1
              have a1 := fun (w2 : World) (h : Hid (Below W2.heap.size W2 w2)) => (blk11 (K2.out.next h.out)).2.1
              have a2 := fun (w2 : World) (h : Hid (Below W2.heap.size W2 w2)) => (blk11 (K2.out.next h.out)).2.2.1
              have a3 := fun (w2 : World) (h : Hid (Below W2.heap.size W2 w2)) => (blk11 (K2.out.next h.out)).2.2.2.1
              have a4 := fun (w2 : World) (h : Hid (Below W2.heap.size W2 w2)) => (blk11 (K2.out.next h.out)).2.2.2.2.1
              have a5 := fun (w2 : World) (h : Hid (Below W2.heap.size W2 w2)) => (blk11 (K2.out.next h.out)).2.2.2.2.2.1
              have a6 := fun (w2 : World) (h : Hid (Below W2.heap.size W2 w2)) => (blk11 (K2.out.next h.out)).2.2.2.2.2.2.1
              have a7 := fun (w2 : World) (h : Hid (Below W2.heap.size W2 w2)) => (blk11 (K2.out.next h.out)).2.2.2.2.2.2.2.1
              have a8 := fun (w2 : World) (h : Hid (Below W2.heap.size W2 w2)) => (blk11 (K2.out.next h.out)).2.2.2.2.2.2.2.2.1
              have a9 := fun (w2 : World) (h : Hid (Below W2.heap.size W2 w2)) => (blk11 (K2.out.next h.out)).2.2.2.2.2.2.2.2.2.1
              have a10 := fun (w2 : World) (h : Hid (Below W2.heap.size W2 w2)) => (blk11 (K2.out.next h.out)).2.2.2.2.2.2.2.2.2.2
              go_region_held3 (fun w' => Hid (Below W2.heap.size W2 w')) (first | with_reducible assumption | exact hbC | exact hbB | exact hbA | exact Lib.hid (below_drewN (Below.refl _ _) 1) | (have hh := (by assumption : Hid (Below W2.heap.size W2 _)); exact Lib.hid (below_alloc hh.out _)))
                (first | (have hh := (by assumption : Hid (Below W2.heap.size W2 _)); refine step_append_all (by rfl) _ _ 22 (by rfl) W2.heap.size 45 _ 11 192 192 Tryz.underlying22 infEntE rfl (by omega) (REnt w) _ [] (by rfl) (Own.nil_ _ _ _ _ _) (some ad) j (s.take j) (by rw [HTK.out]; rfl) (Slc.mono HS1.out (Kept.of_below hh.out) fun _ _ h => h) entE_one HBy1.out (by omega) hh.out.size ?_; intro v1 y1 ho1 hg1; have hbA := Lib.hid ((Own.nil_ _ W2.heap.size 45 11 (REnt w)).below hh.out hh.out.size hg1); rw [List.nil_append] at ho1) | (have hh := (by assumption : Hid (Below W2.heap.size W2 _)); refine step_append_el (by rfl) _ _ 22 (by rfl) W2.heap.size 45 _ 11 192 Tryz.underlying22 infEntE rfl (by omega) (REnt w) v1 (s.take j) (by rfl) (by first | exact ho1 | exact ho1.alloc _ | exact ho1.drew | exact (ho1.alloc _).drew | exact (ho1.drew).alloc _) p (encE r p) _ 1 (by rfl) (by first | exact Blk.new _ _ _ | exact blk_grown0 (blk_new1 W2 45 #[.string (bs (p).pkg.name), .string (bs (p).pkg.ver), .slice (r).a1 (p).pkg.pre.length (r).c1, .slice (r).a2 (p).pkg.dep.length (r).c2, .slice (r).a3 (p).pkg.rcm.length (r).c3, .slice (r).a4 (p).pkg.con.length (r).c4, .slice (r).a5 (p).pkg.brk.length (r).c5, .slice (r).a6 (p).pkg.prv.length (r).c6, .bool (p).pkg.ess, .bool (p).conf, .bool (p).hold]) hg1) ⟨r, rfl, HR.out⟩ rfl (encE_one _ _) HBy2.out (by omega) hh.out.size ?_; intro g2 cap2 y2 ho2 hg2; have hbB := Lib.hid (show Below W2.heap.size W2 y2 from by first | exact (ho1.alloc _).below hh.out hh.out.size hg2 | exact ho1.below hh.out hh.out.size hg2)) | (have hh := (by assumption : Hid (Below W2.heap.size W2 _)); refine step_append_all (by rfl) _ _ 22 (by rfl) W2.heap.size 45 _ 11 192 192 Tryz.underlying22 infEntE rfl (by omega) (REnt w) _ (s.take j ++ [p]) (by rfl) ho2 (some ad) 0 (s.drop j) (by first | (rw [HTD.out]; rfl) | (rw [show (s.drop j).length = s.length - j from List.length_drop ..]; rfl)) (Slc.mono HS2.out (Kept.of_below hh.out) fun _ _ h => h) entE_one HBy3.out (by omega) hh.out.size ?_; intro v3 y3 ho3 hg3; have hbC := Lib.hid (ho2.below hh.out hh.out.size hg3)))
              clear a0 a1 a2 a3 a4 a5 a6 a7 a8 a9 a10
              all_goals go_wp2_with fail
              all_goals go_roundw
              all_goals first
                | (case rel => exact ⟨k + 1, s.take j ++ p :: s.drop j, by omega, by simp, by rw [take_step HP.out, srt_snoc, ← HS.out, HIN.out], below_next HB2.out hbC.out, (by have h := ho3.down HB2.out.size; rw [List.append_assoc] at h; exact h)⟩)
                | (case measure => (try simp only [intOf]); omega)
          · rcases HA2.out with ⟨hA0, hA1, hA3⟩ | ⟨g3, hA0⟩
            · exact absurd (show c2 = j by subst hA3; simp at hj; omega) hcj
            · subst hA0
              have hj7 : (j : Int) ≤ (c2 : Int) := by omega
              have hj8 : ¬ c2 = j := hcj
              clear hcj
              have HIN := Lib.hid (insR_at HJ.out HEX.out)
              have HB2 := Lib.hid (below_next HB1.out (below_next HBi.out hbw))
              have HO2 := Lib.hid (HO1.out.next (below_next HBi.out hbw))
              have K2 := Lib.hid (K1.out.next (below_next HBi.out hbw))
              clear hbw
              have htk : (s.take j).length = j := by rw [List.length_take]; omega
              have HTK := Lib.hid htk
              have HTD := Lib.hid (show (s.drop j).length = 0 by have h := List.length_drop (i := j) (l := s); omega)
              have HBy1 := Lib.hid (show (([] : List Ent).length + (s.take j).length) * 192 ≤ 140737488355328 by simp; omega)
              have HBy2 := Lib.hid (show ((s.take j).length + 1) * 192 ≤ 140737488355328 by omega)
              have HBy3 := Lib.hid (show ((s.take j ++ [p]).length + (s.drop j).length) * 192 ≤ 140737488355328 by rw [List.length_append, List.length_drop, htk]; simp; omega)
              clear htk
              have HSW := Lib.hid (Own.slcOf (z := 192) HO2.out (by omega))
              have HS1 := Lib.hid (show Slc W2 11 192 (REnt w) (some ⟨g3, 0, none⟩) c2 (s.take j) from (Slc.take HSW.out j))
              have HS2 := Lib.hid (show Slc W2 11 192 (REnt w) (some ⟨g3, j * 11, none⟩) (c2 - j) (s.drop j) from (Slc.drop0 HSW.out j (by omega)))
              have hjt : ((j : Int)).toNat = j := Int.toNat_natCast _
              have hj5 : (0 : Int) ≤ (j : Int) := Int.natCast_nonneg _
              have hj6 : (j : Int) ≤ (s.length : Int) := by omega
              go_wp2_with fail
              have a0 := fun (w2 : World) (h : Hid (Below W2.heap.size W2 w2)) => (blk11 (K2.out.next h.out)).1
              have a1 := fun (w2 : World) (h : Hid (Below W2.heap.size W2 w2)) => (blk11 (K2.out.next h.out)).2.1
              have a2 := fun (w2 : World) (h : Hid (Below W2.heap.size W2 w2)) => (blk11 (K2.out.next h.out)).2.2.1
              have a3 := fun (w2 : World) (h : Hid (Below W2.heap.size W2 w2)) => (blk11 (K2.out.next h.out)).2.2.2.1
              have a4 := fun (w2 : World) (h : Hid (Below W2.heap.size W2 w2)) => (blk11 (K2.out.next h.out)).2.2.2.2.1
              have a5 := fun (w2 : World) (h : Hid (Below W2.heap.size W2 w2)) => (blk11 (K2.out.next h.out)).2.2.2.2.2.1
              have a6 := fun (w2 : World) (h : Hid (Below W2.heap.size W2 w2)) => (blk11 (K2.out.next h.out)).2.2.2.2.2.2.1
              have a7 := fun (w2 : World) (h : Hid (Below W2.heap.size W2 w2)) => (blk11 (K2.out.next h.out)).2.2.2.2.2.2.2.1
              have a8 := fun (w2 : World) (h : Hid (Below W2.heap.size W2 w2)) => (blk11 (K2.out.next h.out)).2.2.2.2.2.2.2.2.1
              have a9 := fun (w2 : World) (h : Hid (Below W2.heap.size W2 w2)) => (blk11 (K2.out.next h.out)).2.2.2.2.2.2.2.2.2.1
              have a10 := fun (w2 : World) (h : Hid (Below W2.heap.size W2 w2)) => (blk11 (K2.out.next h.out)).2.2.2.2.2.2.2.2.2.2
              go_region_held3 (fun w' => Hid (Below W2.heap.size W2 w')) (first | with_reducible assumption | exact hbC | exact hbB | exact hbA | exact Lib.hid (below_drewN (Below.refl _ _) 1) | (have hh := (by assumption : Hid (Below W2.heap.size W2 _)); exact Lib.hid (below_alloc hh.out _)))
                (first | (have hh := (by assumption : Hid (Below W2.heap.size W2 _)); refine step_append_all (by rfl) _ _ 22 (by rfl) W2.heap.size 45 _ 11 192 192 Tryz.underlying22 infEntE rfl (by omega) (REnt w) _ [] (by rfl) (Own.nil_ _ _ _ _ _) (some ⟨g3, 0, none⟩) c2 (s.take j) (by rw [HTK.out]; rfl) (Slc.mono HS1.out (Kept.of_below hh.out) fun _ _ h => h) entE_one HBy1.out (by omega) hh.out.size ?_; intro v1 y1 ho1 hg1; have hbA := Lib.hid ((Own.nil_ _ W2.heap.size 45 11 (REnt w)).below hh.out hh.out.size hg1); rw [List.nil_append] at ho1) | (have hh := (by assumption : Hid (Below W2.heap.size W2 _)); refine step_append_el (by rfl) _ _ 22 (by rfl) W2.heap.size 45 _ 11 192 Tryz.underlying22 infEntE rfl (by omega) (REnt w) v1 (s.take j) (by rfl) (by first | exact ho1 | exact ho1.alloc _ | exact ho1.drew | exact (ho1.alloc _).drew | exact (ho1.drew).alloc _) p (encE r p) _ 1 (by rfl) (by first | exact Blk.new _ _ _ | exact blk_grown0 (blk_new1 W2 45 #[.string (bs (p).pkg.name), .string (bs (p).pkg.ver), .slice (r).a1 (p).pkg.pre.length (r).c1, .slice (r).a2 (p).pkg.dep.length (r).c2, .slice (r).a3 (p).pkg.rcm.length (r).c3, .slice (r).a4 (p).pkg.con.length (r).c4, .slice (r).a5 (p).pkg.brk.length (r).c5, .slice (r).a6 (p).pkg.prv.length (r).c6, .bool (p).pkg.ess, .bool (p).conf, .bool (p).hold]) hg1) ⟨r, rfl, HR.out⟩ rfl (encE_one _ _) HBy2.out (by omega) hh.out.size ?_; intro g2 cap2 y2 ho2 hg2; have hbB := Lib.hid (show Below W2.heap.size W2 y2 from by first | exact (ho1.alloc _).below hh.out hh.out.size hg2 | exact ho1.below hh.out hh.out.size hg2)) | (have hh := (by assumption : Hid (Below W2.heap.size W2 _)); refine step_append_all (by rfl) _ _ 22 (by rfl) W2.heap.size 45 _ 11 192 192 Tryz.underlying22 infEntE rfl (by omega) (REnt w) _ (s.take j ++ [p]) (by rfl) ho2 (some ⟨g3, j * 11, none⟩) (c2 - j) (s.drop j) (by first | (rw [HTD.out]; rfl) | (rw [show (s.drop j).length = s.length - j from List.length_drop ..]; rfl)) (Slc.mono HS2.out (Kept.of_below hh.out) fun _ _ h => h) entE_one HBy3.out (by omega) hh.out.size ?_; intro v3 y3 ho3 hg3; have hbC := Lib.hid (ho2.below hh.out hh.out.size hg3)))
              clear a0 a1 a2 a3 a4 a5 a6 a7 a8 a9 a10
              all_goals go_wp2_with fail
              all_goals go_roundw
              all_goals first
                | (case rel => exact ⟨k + 1, s.take j ++ p :: s.drop j, by omega, by simp, by rw [take_step HP.out, srt_snoc, ← HS.out, HIN.out], below_next HB2.out hbC.out, (by have h := ho3.down HB2.out.size; rw [List.append_assoc] at h; exact h)⟩)
                | (case measure => (try simp only [intOf]); omega)
    · have ho := HO.out
      have hs2 := HS.out
      rw [take_end hk hlt] at hs2
      obtain ⟨A2, c2, rfl, hps, _⟩ := Ents.of_own ho HB.out (by omega)
      subst hs2
      have HPS := Lib.hid hps
      clear ho hps HO HS
      go_wp2
      go_ret
      exact ⟨A2, c2, rfl, HPS.out, HB.out⟩
end Go.Proofs.YtaicidbopgnmfaaGreatDoor
