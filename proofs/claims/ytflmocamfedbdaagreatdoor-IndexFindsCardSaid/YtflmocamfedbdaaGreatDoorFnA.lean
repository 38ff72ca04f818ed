/- The law IndexFinds. -/
import Derived.Test.YtflmocamfedbdaaGreatDoorAwA
import Derived.Test.YtflmocamfedbdaaGreatDoorUa
import Derived.Test.YtflmocamfedbdaaGreatDoorTuP
import Derived.Test.YtflmocamfedbdaaGreatDoorSx
import Derived.Test.YtflmocamfedbdaaGreatDoorStC
import Derived.Deep.AppendLies
namespace Go.Proofs.YtflmocamfedbdaaGreatDoor
set_option linter.unusedSimpArgs false
set_option linter.unusedVariables false
open Go.RowKit
attribute [local go_sem ↓] Go.wp_at_zero Go.wp_at_succ
attribute [local irreducible] wpQuiet
section
variable {P : Program} {w : World}
/-- append of one element, and where the row lies -/
theorem wpList_append_el2 {α : Type} {ops : Array Oper} {rest : List Oper} {o : Oper} {a : Act} {Q : Exit → Act → World → Prop} (hgd : o.guard = none) (s x : Operand) (t : TypeId)
    (ho : o.op = .call { callee := .builtin .append, args := #[s, x], argTypes := #[t, t] })
    (B : Nat) (e : TypeId) (z : Value) (k bytes : Nat) (ht : P.underlying t = some (.slice e)) (hinfo : (P.info? e).map (fun i => (i.zero, i.size, i.bytes)) = some (some z, k, bytes)) (hzs : z.cells.size = k) (hsz : 0 < k)
    (R : List Value → α → Prop) (v : Value) (l : List α) (hs : a.eval s = v) (hown : Own w B e k R v l)
    (y : α) (cs : List Value) (g0 c0 : Nat) (hx : a.eval x = .slice (some ⟨g0, 0, none⟩) 1 c0) (hg0 : w.heap[g0]? = some (.cells cs.toArray e (0, 0))) (hy : R cs y) (hlen : cs.length = k) (h1 : ∀ u ∈ cs, u.oneCell' = true)
    (hbytes : (l.length + 1) * bytes ≤ 140737488355328) (hbz : 1 ≤ bytes) (hbase : B ≤ w.heap.size)
    (h : ∀ g cap w', Own w' B e k R (.slice (some ⟨g, 0, none⟩) (l.length + 1) cap) (l ++ [y]) → w.grownBy w' v.ownBlock → (v.ownBlock = some g ∨ g = w.heap.size) → wpList P ops Q rest (a.put o.dst (.slice (some ⟨g, 0, none⟩) (l.length + 1) cap)) w') : wpList P ops Q (o :: rest) a w := by
  obtain ⟨i, hi, hz0, hz1, hz2⟩ := info_parts hinfo
  obtain ⟨css, hl, hR, hrow⟩ := hown
  refine wpList_append_lies w hgd s x t ho B e i z k bytes ht hi hz0 hz1 hz2 hzs hsz v l.length css.flatten hs hrow ⟨g0, 0, none⟩ 1 c0 cs hx (by omega) (fun j u hj => ?_) h1 (by omega) ?_ hbytes hbase _ rfl fun g cap w' h2 h3 h4 _ => h g cap w' ?_ h3 h4
  · rw [Addr.add_mid, cell_of_row w g0 (0 + j) cs.toArray e (0, 0) hg0, Nat.zero_add]
    simpa using hj
  · have : (l.length + 1) * 1 ≤ (l.length + 1) * bytes := Nat.mul_le_mul_left _ hbz
    unfold maxLen
    omega
  · exact Own.appended hl hR hy hlen h2
end
/-- two rows of one element type, each of its own -/
def Two {α : Type} (w : World) (B : Nat) (e : TypeId) (k : Nat) (R : List Value → α → Prop) (v1 : Value) (l1 : List α) (v2 : Value) (l2 : List α) : Prop :=
  Own w B e k R v1 l1 ∧ Own w B e k R v2 l2 ∧ ∀ g, v1.ownBlock = some g → v2.ownBlock ≠ some g
section
variable {α : Type} {w w' : World} {B : Nat} {e : TypeId} {k : Nat} {R : List Value → α → Prop} {v1 v2 : Value} {l1 l2 : List α}
theorem Two.swap (h : Two w B e k R v1 l1 v2 l2) : Two w B e k R v2 l2 v1 l1 := ⟨h.2.1, h.1, fun g h1 h2 => h.2.2 g h2 h1⟩
theorem Two.alloc (h : Two w B e k R v1 l1 v2 l2) (o : Obj) : Two (w.alloc o) B e k R v1 l1 v2 l2 := ⟨h.1.alloc o, h.2.1.alloc o, h.2.2⟩
theorem Two.next (h : Two w B e k R v1 l1 v2 l2) (hb : Below w.heap.size w w') : Two w' B e k R v1 l1 v2 l2 := ⟨h.1.next hb, h.2.1.next hb, h.2.2⟩
theorem Two.app (h : Two w B e k R v1 l1 v2 l2) {g n cap : Nat} {l : List α} (ho : Own w' B e k R (.slice (some ⟨g, 0, none⟩) n cap) l) (hg : w.grownBy w' v1.ownBlock) (hat : v1.ownBlock = some g ∨ g = w.heap.size) : Two w' B e k R (.slice (some ⟨g, 0, none⟩) n cap) l v2 l2 := by
  refine ⟨ho, h.2.1.same fun g' hg' => ?_, fun g' h1 h2 => ?_⟩
  · obtain ⟨_, cur, hc⟩ := h.2.1.base hg'
    exact hg.block g' (heap_lt hc) (fun he => h.2.2 g' he.symm hg')
  · obtain rfl : g = g' := by simpa [Value.ownBlock] using h1
    rcases hat with hat | hat
    · exact h.2.2 g hat h2
    · obtain ⟨_, cur, hc⟩ := h.2.1.base h2
      have := heap_lt hc
      omega
end
theorem fnd_cases (P : Pkg → Bool) (s : List Pkg) : (fndR (plcS P s) = (0, false) ∧ idxS P s = -1) ∨ ∃ m : Nat, fndR (plcS P s) = (m, true) ∧ idxS P s = m ∧ m < s.length := by
  rcases h : plcS P s with _ | ⟨i, t⟩
  · exact .inl ⟨rfl, idx_no (plc_none h)⟩
  · refine .inr ⟨i, rfl, plc_head h, ?_⟩
    have hi : i ∈ plcS P s := by rw [h]; simp
    obtain ⟨q, hq, _⟩ := plc_mem.1 hi
    exact (List.getElem?_eq_some_iff.1 hq).1
theorem lm_few {l : List Pkg} (h : lightM 40 60 30 30 l = true) : ∀ p ∈ l, fewO p := fun p hp =>
  light_few ((lm_of h).2 p hp) (by decide) (by decide) (by decide)
theorem len_snoc {α : Type} {t : List α} {x : α} {k : Nat} (h : t.length ≤ k) : (t ++ [x]).length ≤ k + 1 := by simp; omega
set_option maxRecDepth 100000 in
set_option maxHeartbeats 1000000 in
theorem finds_heavy (A : Option Addr) (c : Nat) (l : List Pkg) (n v : List UInt8) (a : Atm) (i : Int) (w : World) (hl : Pkgs w A c l) (hL : lightM 40 60 30 30 l = false) :
    Calls Tryz.prog 6 #[.slice A l.length c, .string (bs n), .string (bs v), (.agg #[.string (bs (a).name), .int .i64 (a).rel, .string (bs (a).ver)]), .int .i64 i] w fun e w' => e = .returned (.bool true) ∧ Below w.heap.size w w' := by
  have hbd := hl.bd
  have HL := Lib.hid hl
  have HG := Lib.hid hL
  clear hl hL
  go_enter Tryz.func6, Tryz.ntmps6
  go_wp2_with fail
  refine (light10_any A c l _ (HL.out.kept (Kept.alloc _ _))).mono ?_
  rintro e w1 ⟨rfl, hb1⟩
  rw [HG.out]
  have HB := Lib.hid (below_next (below_alloc (Below.refl w.heap.size w) (.cells #[.string (bs (a).name), .int .i64 (a).rel, .string (bs (a).ver)] 34)) hb1)
  have K := Lib.hid ((blk_new1 w 34 #[.string (bs (a).name), .int .i64 (a).rel, .string (bs (a).ver)]).next hb1)
  clear hb1
  go_wp2_with fail
  refine (awake10_any _).mono ?_
  rintro e w9 ⟨rfl, hb9⟩
  go_wp2
  go_ret
  exact ⟨rfl, below_next HB.out hb9⟩
set_option maxRecDepth 100000 in
set_option maxHeartbeats 1000000 in
theorem finds_no (A : Option Addr) (c : Nat) (l : List Pkg) (n v : List UInt8) (a : Atm) (i : Int) (w : World) (hl : Pkgs w A c l) (hL : lightM 40 60 30 30 l = true) (h0 : mayAllE l ≠ 0) :
    Calls Tryz.prog 6 #[.slice A l.length c, .string (bs n), .string (bs v), (.agg #[.string (bs (a).name), .int .i64 (a).rel, .string (bs (a).ver)]), .int .i64 i] w fun e w' => e = .returned (.bool true) ∧ Below w.heap.size w w' := by
  have HF := Lib.hid (lm_few hL)
  have H0 := Lib.hid h0
  generalize he : mayAllE l = e1 at h0
  have HE1 := Lib.hid he
  have hd1 : (e1 == 0) = false := by simpa using h0
  clear he h0
  have hbd := hl.bd
  have HL := Lib.hid hl
  have HG := Lib.hid hL
  clear hl hL
  go_enter Tryz.func6, Tryz.ntmps6
  go_wp2_with fail
  refine (light10_any A c l _ (HL.out.kept (Kept.alloc _ _))).mono ?_
  rintro e w1 ⟨rfl, hb1⟩
  rw [HG.out]
  have HB := Lib.hid (below_next (below_alloc (Below.refl w.heap.size w) (.cells #[.string (bs (a).name), .int .i64 (a).rel, .string (bs (a).ver)] 34)) hb1)
  have K := Lib.hid ((blk_new1 w 34 #[.string (bs (a).name), .int .i64 (a).rel, .string (bs (a).ver)]).next hb1)
  clear hb1
  go_wp2_with fail
  refine (new_no A c l _ (HL.out.kept (Kept.of_below HB.out)) HF.out H0.out).mono ?_
  rintro e w2 ⟨rfl, hb2⟩
  rw [HE1.out]
  have HB := Lib.hid (below_next HB.out hb2)
  have K := Lib.hid (K.out.next hb2)
  clear hb2
  go_wp2_with fail
  refine (rmayAll_any A c l _ (HL.out.kept (Kept.of_below HB.out))).mono ?_
  rintro e w3 ⟨rfl, hb3⟩
  rw [HE1.out]
  have HB := Lib.hid (below_next HB.out hb3)
  have K := Lib.hid (K.out.next hb3)
  clear hb3
  go_wp2_with fail
  refine (awake10_any _).mono ?_
  rintro e w9 ⟨rfl, hb9⟩
  go_wp2
  go_ret
  exact ⟨rfl, below_next HB.out hb9⟩
set_option maxRecDepth 100000 in
set_option maxHeartbeats 4000000 in
theorem finds_yes (A : Option Addr) (c : Nat) (l : List Pkg) (n v : List UInt8) (a : Atm) (i : Int) (w : World) (hl : Pkgs w A c l) (ha : a.ok) (hi : -9223372036854775808 ≤ i ∧ i ≤ 9223372036854775807) (hL : lightM 40 60 30 30 l = true) (h0 : mayAllE l = 0) :
    Calls Tryz.prog 6 #[.slice A l.length c, .string (bs n), .string (bs v), (.agg #[.string (bs (a).name), .int .i64 (a).rel, .string (bs (a).ver)]), .int .i64 i] w fun e w' => e = .returned (.bool true) ∧ Below w.heap.size w w' := by
  have HF := Lib.hid (lm_few hL)
  have H0 := Lib.hid h0
  have HOK := Lib.hid ha
  have h24 : l.length ≤ 24 := (mayAll_zero h0).1
  have HLV := Lib.hid (show ∀ p ∈ l, isV p.ver = true from fun p hp => (may_nv ((mayAll_zero h0).2.1 p hp)).2)
  clear h0 ha
  obtain ⟨s, hs⟩ : ∃ s, s = srt pLt l := ⟨_, rfl⟩
  have hsl : s.length ≤ 24 := by rw [hs, srt_len]; exact h24
  have HSF := Lib.hid (show ∀ p ∈ s, fewO p from fun p hp => HF.out p (mem_srt.1 (hs ▸ hp)))
  have HNM := Lib.hid (show runS s s.length = nmR l by rw [hs, srt_len]; exact run_names l)
  have HS1 := Lib.hid hs.symm
  clear hs
  have hbd := hl.bd
  have HL := Lib.hid hl
  have HG := Lib.hid hL
  clear hl hL
  go_enter Tryz.func6, Tryz.ntmps6
  go_wp2_with fail
  refine (light10_any A c l _ (HL.out.kept (Kept.alloc _ _))).mono ?_
  rintro e w1 ⟨rfl, hb1⟩
  rw [HG.out]
  have HB := Lib.hid (below_next (below_alloc (Below.refl w.heap.size w) (.cells #[.string (bs (a).name), .int .i64 (a).rel, .string (bs (a).ver)] 34)) hb1)
  have K := Lib.hid ((blk_new1 w 34 #[.string (bs (a).name), .int .i64 (a).rel, .string (bs (a).ver)]).next hb1)
  clear hb1
  go_wp2_with fail
  refine (new_yes A c l _ (HL.out.kept (Kept.of_below HB.out)) HF.out H0.out).mono ?_
  rintro e w2 ⟨x, rfl, hx, hb2⟩
  rw [HS1.out] at hx
  obtain ⟨gx, rfl⟩ : ∃ g, x = .pointer (some ⟨g, 0, none⟩) := by
    obtain ⟨g, _, _, h, _⟩ := hx
    exact ⟨g, h⟩
  have HX := Lib.hid hx
  have HB := Lib.hid (below_next HB.out hb2)
  have K := Lib.hid (K.out.next hb2)
  clear hb2 hx
  go_wp2_with fail
  refine (rmayAll_any A c l _ (HL.out.kept (Kept.of_below HB.out))).mono ?_
  rintro e w3 ⟨rfl, hb3⟩
  rw [H0.out]
  have HX := Lib.hid (HX.out.next hb3)
  have HB := Lib.hid (below_next HB.out hb3)
  have K := Lib.hid (K.out.next hb3)
  clear hb3
  go_wp2_with fail
  refine (rSorted_any A c l _ (HL.out.kept (Kept.of_below HB.out)) HLV.out (by omega)).mono ?_
  rintro e w4 ⟨B, d, rfl, hp4, hb4⟩
  rw [HS1.out] at hp4 ⊢
  have hbd4 := hp4.bd
  have HP4 := Lib.hid hp4
  have HX := Lib.hid (HX.out.next hb4)
  have HB := Lib.hid (below_next HB.out hb4)
  have K := Lib.hid (K.out.next hb4)
  clear hb4 hp4
  go_wp2_with fail
  refine (len_any _ s _ HX.out).mono ?_
  rintro e w5 ⟨rfl, rfl⟩
  go_wp2_with fail
  refine (names_any _ s _ HX.out (by omega)).mono ?_
  rintro e w5 ⟨A5, c5, rfl, hn5, hb5⟩
  rw [HNM.out] at hn5 ⊢
  have HN5 := Lib.hid hn5
  have HX := Lib.hid (HX.out.next hb5)
  have HP4 := Lib.hid (HP4.out.kept (Kept.of_below hb5))
  have HB := Lib.hid (below_next HB.out hb5)
  have K := Lib.hid (K.out.next hb5)
  clear hb5 hn5
  go_wp2_with fail
  refine (rNames_any A c l _ (HL.out.kept (Kept.of_below HB.out)) (by omega)).mono ?_
  rintro e w6 ⟨A6, c6, rfl, hn6, hb6⟩
  have HN6 := Lib.hid hn6
  have HN5 := Lib.hid (Strs.kept HN5.out (Kept.of_below hb6))
  have HX := Lib.hid (HX.out.next hb6)
  have HP4 := Lib.hid (HP4.out.kept (Kept.of_below hb6))
  have HB := Lib.hid (below_next HB.out hb6)
  have K := Lib.hid (K.out.next hb6)
  clear hb6 hn6
  go_wp2_with fail
  refine (sameTexts_any _ _ _ _ _ _ _ HN5.out HN6.out).mono ?_
  rintro e w7 ⟨rfl, hb7⟩
  rw [decide_eq_true (rfl : nmR l = nmR l)]
  have HX := Lib.hid (HX.out.next hb7)
  have HP4 := Lib.hid (HP4.out.kept (Kept.of_below hb7))
  have HB := Lib.hid (below_next HB.out hb7)
  have K := Lib.hid (K.out.next hb7)
  clear hb7 HN5 HN6
  go_wp2
  go_loopw [15, 16, 74] (fun v1 v2 i wr => ∃ (k : Nat) (t1 t2 : List Nat), k ≤ s.length ∧ t1.length ≤ k ∧ t2.length ≤ k ∧ i = .int .i64 k ∧ t1 = plcT (nmP n) s k ∧ t2 = plcT (satP a) s k ∧ Below w7.heap.size w7 wr ∧ Two wr w7.heap.size 3 1 RInt v1 t1 v2 t2) (fun _ _ i _ => s.length - (intOf i).toNat)
  case atStart => exact ⟨0, [], [], Nat.zero_le _, Nat.zero_le _, Nat.zero_le _, rfl, rfl, rfl, Below.refl _ _, Own.nil_ _ _ _ _ _, Own.nil_ _ _ _ _ _, fun g h => by simp [Value.ownBlock] at h⟩
  case round =>
    obtain ⟨k, t1, t2, hk, ht1, ht2, rfl, he1, he2, hb, ho⟩ := hrel
    obtain ⟨wo, rfl⟩ : ∃ wo : World, wo = wr := ⟨_, rfl⟩
    have HT1 := Lib.hid he1
    have HT2 := Lib.hid he2
    have HB1 := Lib.hid hb
    have HO := Lib.hid ho
    clear he1 he2 hb ho
    by_cases hlt : k < s.length
    · obtain ⟨q, b, o, r0, hq, rfl, hr0, e0, e1, e2, e3, e4, e5, e6, e7, e8⟩ := HP4.out.at_ hlt (Kept.of_below HB1.out)
      have HQ := Lib.hid hq
      have HQF := Lib.hid (HSF.out q (List.mem_of_getElem? hq))
      have HR0 := Lib.hid hr0
      clear hq hr0
      have hsm : s.length ≤ 1000000 := by omega
      go_wp2_with fail
      have HB2 := Lib.hid (below_alloc HB1.out (.cells #[.string (bs (q).name), .string (bs (q).ver), .slice (r0).a1 (q).pre.length (r0).c1, .slice (r0).a2 (q).dep.length (r0).c2, .slice (r0).a3 (q).rcm.length (r0).c3, .slice (r0).a4 (q).con.length (r0).c4, .slice (r0).a5 (q).brk.length (r0).c5, .slice (r0).a6 (q).prv.length (r0).c6, .bool (q).ess] 26))
      have K1 := Lib.hid (blk_new1 wo 26 #[.string (bs (q).name), .string (bs (q).ver), .slice (r0).a1 (q).pre.length (r0).c1, .slice (r0).a2 (q).dep.length (r0).c2, .slice (r0).a3 (q).rcm.length (r0).c3, .slice (r0).a4 (q).con.length (r0).c4, .slice (r0).a5 (q).brk.length (r0).c5, .slice (r0).a6 (q).prv.length (r0).c6, .bool (q).ess])
      have HO2 := Lib.hid (HO.out.alloc (.cells #[.string (bs (q).name), .string (bs (q).ver), .slice (r0).a1 (q).pre.length (r0).c1, .slice (r0).a2 (q).dep.length (r0).c2, .slice (r0).a3 (q).rcm.length (r0).c3, .slice (r0).a4 (q).con.length (r0).c4, .slice (r0).a5 (q).brk.length (r0).c5, .slice (r0).a6 (q).prv.length (r0).c6, .bool (q).ess] 26))
      clear e0 e1 e2 e3 e4 e5 e6 e7 e8 HB1 HO
      refine (at_yes _ s k q _ (HX.out.next HB2.out) hsm HQ.out HQF.out).mono ?_
      rintro e w8 ⟨r1, rfl, hr1, hb8⟩
      have HR1 := Lib.hid ((hr1.kept (Kept.flt TB _)).kept (Kept.alloc w8 (.cells #[.string (bs (q).name), .string (bs (q).ver), .slice (r1).a1 (q).pre.length (r1).c1, .slice (r1).a2 (q).dep.length (r1).c2, .slice (r1).a3 (q).rcm.length (r1).c3, .slice (r1).a4 (q).con.length (r1).c4, .slice (r1).a5 (q).brk.length (r1).c5, .slice (r1).a6 (q).prv.length (r1).c6, .bool (q).ess] 26)))
      have HB3 := Lib.hid (below_alloc (below_next HB2.out hb8) (.cells #[.string (bs (q).name), .string (bs (q).ver), .slice (r1).a1 (q).pre.length (r1).c1, .slice (r1).a2 (q).dep.length (r1).c2, .slice (r1).a3 (q).rcm.length (r1).c3, .slice (r1).a4 (q).con.length (r1).c4, .slice (r1).a5 (q).brk.length (r1).c5, .slice (r1).a6 (q).prv.length (r1).c6, .bool (q).ess] 26))
      have K1 := Lib.hid ((K1.out.next hb8).alloc (.cells #[.string (bs (q).name), .string (bs (q).ver), .slice (r1).a1 (q).pre.length (r1).c1, .slice (r1).a2 (q).dep.length (r1).c2, .slice (r1).a3 (q).rcm.length (r1).c3, .slice (r1).a4 (q).con.length (r1).c4, .slice (r1).a5 (q).brk.length (r1).c5, .slice (r1).a6 (q).prv.length (r1).c6, .bool (q).ess] 26))
      have K2 := Lib.hid (blk_new1 w8 26 #[.string (bs (q).name), .string (bs (q).ver), .slice (r1).a1 (q).pre.length (r1).c1, .slice (r1).a2 (q).dep.length (r1).c2, .slice (r1).a3 (q).rcm.length (r1).c3, .slice (r1).a4 (q).con.length (r1).c4, .slice (r1).a5 (q).brk.length (r1).c5, .slice (r1).a6 (q).prv.length (r1).c6, .bool (q).ess])
      have HO3 := Lib.hid ((HO2.out.next hb8).alloc (.cells #[.string (bs (q).name), .string (bs (q).ver), .slice (r1).a1 (q).pre.length (r1).c1, .slice (r1).a2 (q).dep.length (r1).c2, .slice (r1).a3 (q).rcm.length (r1).c3, .slice (r1).a4 (q).con.length (r1).c4, .slice (r1).a5 (q).brk.length (r1).c5, .slice (r1).a6 (q).prv.length (r1).c6, .bool (q).ess] 26))
      clear hr1 hb8 HB2 HO2
      go_upto_region 15 with (fail)
      obtain ⟨a0, a1, a2, a3, a4, a5, a6, a7, a8⟩ := blk9 K1.out
      obtain ⟨b0, b1, b2, b3, b4, b5, b6, b7, b8⟩ := blk9 K2.out
      have HSA := Lib.hid (same_any q q r0 r1 _ (HR0.out.kept (Kept.of_below HB3.out)) HR1.out)
      go_wp2_with fail
      refine HSA.out.mono ?_
      rintro e w9 ⟨rfl, hb9⟩
      have HB4 := Lib.hid (below_next HB3.out hb9)
      have HO4 := Lib.hid (HO3.out.next hb9)
      have K1 := Lib.hid (K1.out.next hb9)
      clear HB3 HO3 K2 HR1 HSA hb9 a0 a1 a2 a3 a4 a5 a6 a7 a8 b0 b1 b2 b3 b4 b5 b6 b7 b8
      generalize wo.heap.size = g1 at K1 ⊢
      obtain ⟨a0, a1, a2, a3, a4, a5, a6, a7, a8⟩ := blk9 K1.out
      by_cases hnm : q.name = n
      · have hnb : (q.name == n) = true := by simpa using hnm
        have HN1 := Lib.hid (show nmP n q = true by simpa [nmP] using hnm)
        clear hnm
        go_wp2_with (at_builtin; refine wpList_append_el2 (by rfl) _ _ 54 (by rfl) w7.heap.size 3 _ 1 8 Tryz.underlying54 infInt' rfl (by omega) RInt _ t1 (by rfl) (HO4.out.1.alloc _) k [.int .i64 k] w9.heap.size 1 (by rfl) (Blk.new _ _ _) rfl rfl (by simp [Value.oneCell']) (by omega) (by omega) (by simp; have := HB4.out.size; omega) ?_; intro g' cap w10 ho3 hg3 hat3; have K1b := Lib.hid ((HO4.out.1.alloc _).blk (K1.out.alloc _) (by decide) hg3); have HB5 := Lib.hid ((HO4.out.1.alloc _).below (below_alloc HB4.out _) (by simp; have := HB4.out.size; omega) hg3); have HO5 := Lib.hid ((HO4.out.alloc _).app ho3 hg3 hat3); clear a0 a1 a2 a3 a4 a5 a6 a7 a8 ho3 hg3 hat3; obtain ⟨a0, a1, a2, a3, a4, a5, a6, a7, a8⟩ := blk9 K1b.out; obtain ⟨d0, d1, d2⟩ := blk3 (K.out.next HB5.out))
        go_wp2_with fail
        refine (rsat_any q r0 a _ (HR0.out.kept (Kept.of_below HB5.out)) HOK.out).mono ?_
        rintro e w11 ⟨rfl, hb11⟩
        have HB6 := Lib.hid (below_next HB5.out hb11)
        have HO6 := Lib.hid (HO5.out.next hb11)
        clear hb11 a0 a1 a2 a3 a4 a5 a6 a7 a8 d0 d1 d2
        rcases hst : satS q a
        · have HST := Lib.hid (show satP a q = false from hst)
          go_wp2
          go_roundw
          case rel => exact ⟨k + 1, t1 ++ [k], t2, by omega, (len_snoc ht1), by omega, by simp, by rw [HT1.out, plc_yes HQ.out HN1.out], by rw [HT2.out, plc_no HQ.out HST.out], HB6.out, HO6.out⟩
          case measure => (try simp only [intOf]); omega
        · have HST := Lib.hid (show satP a q = true from hst)
          go_wp2_with (at_builtin; refine wpList_append_el2 (by rfl) _ _ 54 (by rfl) w7.heap.size 3 _ 1 8 Tryz.underlying54 infInt' rfl (by omega) RInt _ t2 (by rfl) (HO6.out.2.1.alloc _) k [.int .i64 k] w11.heap.size 1 (by rfl) (Blk.new _ _ _) rfl rfl (by simp [Value.oneCell']) (by omega) (by omega) (by simp; have := HB6.out.size; omega) ?_; intro g2 cap2 w12 ho4 hg4 hat4; have HB7 := Lib.hid ((HO6.out.2.1.alloc _).below (below_alloc HB6.out _) (by simp; have := HB6.out.size; omega) hg4); have HO7 := Lib.hid (Two.swap ((HO6.out.swap.alloc _).app ho4 hg4 hat4)); clear ho4 hg4 hat4)
          go_roundw
          case rel => exact ⟨k + 1, t1 ++ [k], t2 ++ [k], by omega, (len_snoc ht1), len_snoc ht2, by simp, by rw [HT1.out, plc_yes HQ.out HN1.out], by rw [HT2.out, plc_yes HQ.out HST.out], HB7.out, HO7.out⟩
          case measure => (try simp only [intOf]); omega
      · have hnb : (q.name == n) = false := by simpa using hnm
        have HN1 := Lib.hid (show nmP n q = false by simpa [nmP] using hnm)
        clear hnm
        obtain ⟨d0, d1, d2⟩ := blk3 (K.out.next HB4.out)
        have HB5 := HB4
        have HO5 := HO4
        go_wp2_with fail
        refine (rsat_any q r0 a _ (HR0.out.kept (Kept.of_below HB5.out)) HOK.out).mono ?_
        rintro e w11 ⟨rfl, hb11⟩
        have HB6 := Lib.hid (below_next HB5.out hb11)
        have HO6 := Lib.hid (HO5.out.next hb11)
        clear hb11 a0 a1 a2 a3 a4 a5 a6 a7 a8 d0 d1 d2
        rcases hst : satS q a
        · have HST := Lib.hid (show satP a q = false from hst)
          go_wp2
          go_roundw
          case rel => exact ⟨k + 1, t1, t2, by omega, (by omega), by omega, by simp, by rw [HT1.out, plc_no HQ.out HN1.out], by rw [HT2.out, plc_no HQ.out HST.out], HB6.out, HO6.out⟩
          case measure => (try simp only [intOf]); omega
        · have HST := Lib.hid (show satP a q = true from hst)
          go_wp2_with (at_builtin; refine wpList_append_el2 (by rfl) _ _ 54 (by rfl) w7.heap.size 3 _ 1 8 Tryz.underlying54 infInt' rfl (by omega) RInt _ t2 (by rfl) (HO6.out.2.1.alloc _) k [.int .i64 k] w11.heap.size 1 (by rfl) (Blk.new _ _ _) rfl rfl (by simp [Value.oneCell']) (by omega) (by omega) (by simp; have := HB6.out.size; omega) ?_; intro g2 cap2 w12 ho4 hg4 hat4; have HB7 := Lib.hid ((HO6.out.2.1.alloc _).below (below_alloc HB6.out _) (by simp; have := HB6.out.size; omega) hg4); have HO7 := Lib.hid (Two.swap ((HO6.out.swap.alloc _).app ho4 hg4 hat4)); clear ho4 hg4 hat4)
          go_roundw
          case rel => exact ⟨k + 1, t1, t2 ++ [k], by omega, (by omega), len_snoc ht2, by simp, by rw [HT1.out, plc_no HQ.out HN1.out], by rw [HT2.out, plc_yes HQ.out HST.out], HB7.out, HO7.out⟩
          case measure => (try simp only [intOf]); omega
    · have he1 := HT1.out
      have he2 := HT2.out
      rw [plc_end hk hlt] at he1 he2
      subst he1 he2
      have HX := Lib.hid (HX.out.next HB1.out)
      have HP4 := Lib.hid (HP4.out.kept (Kept.of_below HB1.out))
      have HB := Lib.hid (below_next HB.out HB1.out)
      have K := Lib.hid (K.out.next HB1.out)
      obtain ⟨A8, c8, rfl, hn8⟩ := Own.slc (z := 8) HO.out.1 (by omega)
      obtain ⟨A9, c9, rfl, hn9⟩ := Own.slc (z := 8) HO.out.2.1 (by omega)
      have HN8 := Lib.hid hn8
      have HN9 := Lib.hid hn9
      have hsm : s.length ≤ 1000000 := by omega
      clear hn8 hn9 HO HB1 HT1 HT2
      go_wp2_with fail
      refine (findIx_any _ s n v _ HX.out hsm).mono ?_
      rintro e w8 ⟨rfl, hb8⟩
      have HX := Lib.hid (HX.out.next hb8)
      have HP4 := Lib.hid (HP4.out.kept (Kept.of_below hb8))
      have HN8 := Lib.hid (Nats.kept HN8.out (Kept.of_below hb8))
      have HN9 := Lib.hid (Nats.kept HN9.out (Kept.of_below hb8))
      have HB := Lib.hid (below_next HB.out hb8)
      have K := Lib.hid (K.out.next hb8)
      clear hb8
      rcases fnd_cases (fndP n v) s with ⟨hf1, hf2⟩ | ⟨m, hf1, hf2, hf3⟩
      all_goals
        rw [hf1]
        dsimp only
        have HF2 := Lib.hid hf2
        clear hf1 hf2
      · obtain ⟨z, hz⟩ : ∃ z : Int, z = -1 := ⟨_, rfl⟩
        have HF2 := Lib.hid (HF2.out.trans hz.symm)
        have hz1 : decide (0 ≤ z) = false := decide_eq_false (by omega)
        have hz2 : max 0 z = 0 := by omega
        have hz3 : z < 0 := by omega
        clear hz
        go_wp2_with fail
        refine (rVersion_any B d s n v _ HP4.out).mono ?_
        rintro e w9 ⟨rfl, hb9⟩
        rw [HF2.out]
        have HX := Lib.hid (HX.out.next hb9)
        have HN8 := Lib.hid (Nats.kept HN8.out (Kept.of_below hb9))
        have HN9 := Lib.hid (Nats.kept HN9.out (Kept.of_below hb9))
        have HB := Lib.hid (below_next HB.out hb9)
        have K := Lib.hid (K.out.next hb9)
        clear hb9
        go_wp2_with fail
        by_cases h0 : i < 0
        · have hd0 : decide (0 ≤ i) = false := decide_eq_false (by omega)
          refine (at_no _ s i _ HX.out (.inl h0)).mono ?_
          clear h0
          rintro e w10 ⟨rfl, hb10⟩
          have HB := Lib.hid (below_next HB.out hb10)
          have K := Lib.hid (K.out.next hb10)
          have HX := Lib.hid (HX.out.next hb10)
          have HN8 := Lib.hid (Nats.kept HN8.out (Kept.of_below hb10))
          have HN9 := Lib.hid (Nats.kept HN9.out (Kept.of_below hb10))
          clear hb10
          go_upto_region 25 with (fail)
          generalize hW : World.alloc w10 _ = W
          have HBa := Lib.hid (show Below w10.heap.size w10 W from hW ▸ below_alloc (Below.refl _ _) _)
          clear hW
          have HB := Lib.hid (below_next HB.out HBa.out)
          have K := Lib.hid (K.out.next HBa.out)
          have HX := Lib.hid (HX.out.next HBa.out)
          have HN8 := Lib.hid (Nats.kept HN8.out (Kept.of_below HBa.out))
          have HN9 := Lib.hid (Nats.kept HN9.out (Kept.of_below HBa.out))
          clear HBa
          go_wp2_with fail
          refine (ofIx_any _ s n _ HX.out hsm).mono ?_
          rintro e w11 ⟨A11, c11, rfl, hn11, hb11⟩
          have HB := Lib.hid (below_next HB.out hb11)
          have K := Lib.hid (K.out.next hb11)
          have HX := Lib.hid (HX.out.next hb11)
          have HN8 := Lib.hid (Nats.kept HN8.out (Kept.of_below hb11))
          have HN9 := Lib.hid (Nats.kept HN9.out (Kept.of_below hb11))
          have HN11 := Lib.hid hn11
          clear hb11 hn11
          go_wp2_with fail
          refine (sameInts_any _ _ _ _ _ _ _ HN11.out HN8.out).mono ?_
          rintro e w12 ⟨rfl, hb12⟩
          have HB := Lib.hid (below_next HB.out hb12)
          have K := Lib.hid (K.out.next hb12)
          have HX := Lib.hid (HX.out.next hb12)
          have HN9 := Lib.hid (Nats.kept HN9.out (Kept.of_below hb12))
          clear hb12 HN11 HN8
          obtain ⟨d0, d1, d2⟩ := blk3 K.out
          go_wp2_with fail
          refine (meetsIx_any _ s a _ HX.out hsm HOK.out).mono ?_
          rintro e w13 ⟨A13, c13, rfl, hn13, hb13⟩
          have HB := Lib.hid (below_next HB.out hb13)
          have HN9 := Lib.hid (Nats.kept HN9.out (Kept.of_below hb13))
          have HN13 := Lib.hid hn13
          clear hb13 hn13 d0 d1 d2
          go_wp2_with fail
          refine (sameInts_any _ _ _ _ _ _ _ HN13.out HN9.out).mono ?_
          rintro e w14 ⟨rfl, hb14⟩
          have HB := Lib.hid (below_next HB.out hb14)
          clear hb14 HN13 HN9
          go_wp2_with fail
          refine (awake10_any _).mono ?_
          rintro e w9 ⟨rfl, hb9⟩
          go_wp2
          go_ret
          exact ⟨rfl, below_next HB.out hb9⟩
        · have hd0 : decide (0 ≤ i) = true := decide_eq_true (by omega)
          by_cases h1 : (s.length : Int) ≤ i
          · have hd1 : decide (i < (s.length : Int)) = false := decide_eq_false (by omega)
            refine (at_no _ s i _ HX.out (.inr h1)).mono ?_
            clear h0 h1
            rintro e w10 ⟨rfl, hb10⟩
            have HB := Lib.hid (below_next HB.out hb10)
            have K := Lib.hid (K.out.next hb10)
            have HX := Lib.hid (HX.out.next hb10)
            have HN8 := Lib.hid (Nats.kept HN8.out (Kept.of_below hb10))
            have HN9 := Lib.hid (Nats.kept HN9.out (Kept.of_below hb10))
            clear hb10
            go_upto_region 25 with (fail)
            generalize hW : World.alloc w10 _ = W
            have HBa := Lib.hid (show Below w10.heap.size w10 W from hW ▸ below_alloc (Below.refl _ _) _)
            clear hW
            have HB := Lib.hid (below_next HB.out HBa.out)
            have K := Lib.hid (K.out.next HBa.out)
            have HX := Lib.hid (HX.out.next HBa.out)
            have HN8 := Lib.hid (Nats.kept HN8.out (Kept.of_below HBa.out))
            have HN9 := Lib.hid (Nats.kept HN9.out (Kept.of_below HBa.out))
            clear HBa
            go_wp2_with fail
            refine (ofIx_any _ s n _ HX.out hsm).mono ?_
            rintro e w11 ⟨A11, c11, rfl, hn11, hb11⟩
            have HB := Lib.hid (below_next HB.out hb11)
            have K := Lib.hid (K.out.next hb11)
            have HX := Lib.hid (HX.out.next hb11)
            have HN8 := Lib.hid (Nats.kept HN8.out (Kept.of_below hb11))
            have HN9 := Lib.hid (Nats.kept HN9.out (Kept.of_below hb11))
            have HN11 := Lib.hid hn11
            clear hb11 hn11
            go_wp2_with fail
            refine (sameInts_any _ _ _ _ _ _ _ HN11.out HN8.out).mono ?_
            rintro e w12 ⟨rfl, hb12⟩
            have HB := Lib.hid (below_next HB.out hb12)
            have K := Lib.hid (K.out.next hb12)
            have HX := Lib.hid (HX.out.next hb12)
            have HN9 := Lib.hid (Nats.kept HN9.out (Kept.of_below hb12))
            clear hb12 HN11 HN8
            obtain ⟨d0, d1, d2⟩ := blk3 K.out
            go_wp2_with fail
            refine (meetsIx_any _ s a _ HX.out hsm HOK.out).mono ?_
            rintro e w13 ⟨A13, c13, rfl, hn13, hb13⟩
            have HB := Lib.hid (below_next HB.out hb13)
            have HN9 := Lib.hid (Nats.kept HN9.out (Kept.of_below hb13))
            have HN13 := Lib.hid hn13
            clear hb13 hn13 d0 d1 d2
            go_wp2_with fail
            refine (sameInts_any _ _ _ _ _ _ _ HN13.out HN9.out).mono ?_
            rintro e w14 ⟨rfl, hb14⟩
            have HB := Lib.hid (below_next HB.out hb14)
            clear hb14 HN13 HN9
            go_wp2_with fail
            refine (awake10_any _).mono ?_
            rintro e w9 ⟨rfl, hb9⟩
            go_wp2
            go_ret
            exact ⟨rfl, below_next HB.out hb9⟩
          · have hd1 : decide (i < (s.length : Int)) = true := decide_eq_true (by omega)
            obtain ⟨k2, rfl⟩ := Int.eq_ofNat_of_zero_le (show 0 ≤ i by omega)
            have hk2 : k2 < s.length := by omega
            obtain ⟨q, hq⟩ : ∃ q, s[k2]? = some q := ⟨_, List.getElem?_eq_getElem hk2⟩
            refine (at_yes _ s k2 q _ HX.out hsm hq (HSF.out q (List.mem_of_getElem? hq))).mono ?_
            clear h0 h1 hq
            rintro e w10 ⟨r1, rfl, hr1, hb10⟩
            clear hr1
            have HB := Lib.hid (below_next HB.out hb10)
            have K := Lib.hid (K.out.next hb10)
            have HX := Lib.hid (HX.out.next hb10)
            have HN8 := Lib.hid (Nats.kept HN8.out (Kept.of_below hb10))
            have HN9 := Lib.hid (Nats.kept HN9.out (Kept.of_below hb10))
            clear hb10
            go_upto_region 25 with (fail)
            generalize hW : World.alloc w10 _ = W
            have HBa := Lib.hid (show Below w10.heap.size w10 W from hW ▸ below_alloc (Below.refl _ _) _)
            clear hW
            have HB := Lib.hid (below_next HB.out HBa.out)
            have K := Lib.hid (K.out.next HBa.out)
            have HX := Lib.hid (HX.out.next HBa.out)
            have HN8 := Lib.hid (Nats.kept HN8.out (Kept.of_below HBa.out))
            have HN9 := Lib.hid (Nats.kept HN9.out (Kept.of_below HBa.out))
            clear HBa
            go_wp2_with fail
            refine (ofIx_any _ s n _ HX.out hsm).mono ?_
            rintro e w11 ⟨A11, c11, rfl, hn11, hb11⟩
            have HB := Lib.hid (below_next HB.out hb11)
            have K := Lib.hid (K.out.next hb11)
            have HX := Lib.hid (HX.out.next hb11)
            have HN8 := Lib.hid (Nats.kept HN8.out (Kept.of_below hb11))
            have HN9 := Lib.hid (Nats.kept HN9.out (Kept.of_below hb11))
            have HN11 := Lib.hid hn11
            clear hb11 hn11
            go_wp2_with fail
            refine (sameInts_any _ _ _ _ _ _ _ HN11.out HN8.out).mono ?_
            rintro e w12 ⟨rfl, hb12⟩
            have HB := Lib.hid (below_next HB.out hb12)
            have K := Lib.hid (K.out.next hb12)
            have HX := Lib.hid (HX.out.next hb12)
            have HN9 := Lib.hid (Nats.kept HN9.out (Kept.of_below hb12))
            clear hb12 HN11 HN8
            obtain ⟨d0, d1, d2⟩ := blk3 K.out
            go_wp2_with fail
            refine (meetsIx_any _ s a _ HX.out hsm HOK.out).mono ?_
            rintro e w13 ⟨A13, c13, rfl, hn13, hb13⟩
            have HB := Lib.hid (below_next HB.out hb13)
            have HN9 := Lib.hid (Nats.kept HN9.out (Kept.of_below hb13))
            have HN13 := Lib.hid hn13
            clear hb13 hn13 d0 d1 d2
            go_wp2_with fail
            refine (sameInts_any _ _ _ _ _ _ _ HN13.out HN9.out).mono ?_
            rintro e w14 ⟨rfl, hb14⟩
            have HB := Lib.hid (below_next HB.out hb14)
            clear hb14 HN13 HN9
            go_wp2_with fail
            refine (awake10_any _).mono ?_
            rintro e w9 ⟨rfl, hb9⟩
            go_wp2
            go_ret
            exact ⟨rfl, below_next HB.out hb9⟩
      · have hf4 : (0 : Int) ≤ (m : Int) := Int.natCast_nonneg _
        go_wp2_with fail
        refine (rVersion_any B d s n v _ HP4.out).mono ?_
        rintro e w9 ⟨rfl, hb9⟩
        rw [HF2.out]
        have HX := Lib.hid (HX.out.next hb9)
        have HN8 := Lib.hid (Nats.kept HN8.out (Kept.of_below hb9))
        have HN9 := Lib.hid (Nats.kept HN9.out (Kept.of_below hb9))
        have HB := Lib.hid (below_next HB.out hb9)
        have K := Lib.hid (K.out.next hb9)
        clear hb9
        go_wp2_with fail
        by_cases h0 : i < 0
        · have hd0 : decide (0 ≤ i) = false := decide_eq_false (by omega)
          refine (at_no _ s i _ HX.out (.inl h0)).mono ?_
          clear h0
          rintro e w10 ⟨rfl, hb10⟩
          have HB := Lib.hid (below_next HB.out hb10)
          have K := Lib.hid (K.out.next hb10)
          have HX := Lib.hid (HX.out.next hb10)
          have HN8 := Lib.hid (Nats.kept HN8.out (Kept.of_below hb10))
          have HN9 := Lib.hid (Nats.kept HN9.out (Kept.of_below hb10))
          clear hb10
          go_upto_region 25 with (fail)
          generalize hW : World.alloc w10 _ = W
          have HBa := Lib.hid (show Below w10.heap.size w10 W from hW ▸ below_alloc (Below.refl _ _) _)
          clear hW
          have HB := Lib.hid (below_next HB.out HBa.out)
          have K := Lib.hid (K.out.next HBa.out)
          have HX := Lib.hid (HX.out.next HBa.out)
          have HN8 := Lib.hid (Nats.kept HN8.out (Kept.of_below HBa.out))
          have HN9 := Lib.hid (Nats.kept HN9.out (Kept.of_below HBa.out))
          clear HBa
          go_wp2_with fail
          refine (ofIx_any _ s n _ HX.out hsm).mono ?_
          rintro e w11 ⟨A11, c11, rfl, hn11, hb11⟩
          have HB := Lib.hid (below_next HB.out hb11)
          have K := Lib.hid (K.out.next hb11)
          have HX := Lib.hid (HX.out.next hb11)
          have HN8 := Lib.hid (Nats.kept HN8.out (Kept.of_below hb11))
          have HN9 := Lib.hid (Nats.kept HN9.out (Kept.of_below hb11))
          have HN11 := Lib.hid hn11
          clear hb11 hn11
          go_wp2_with fail
          refine (sameInts_any _ _ _ _ _ _ _ HN11.out HN8.out).mono ?_
          rintro e w12 ⟨rfl, hb12⟩
          have HB := Lib.hid (below_next HB.out hb12)
          have K := Lib.hid (K.out.next hb12)
          have HX := Lib.hid (HX.out.next hb12)
          have HN9 := Lib.hid (Nats.kept HN9.out (Kept.of_below hb12))
          clear hb12 HN11 HN8
          obtain ⟨d0, d1, d2⟩ := blk3 K.out
          go_wp2_with fail
          refine (meetsIx_any _ s a _ HX.out hsm HOK.out).mono ?_
          rintro e w13 ⟨A13, c13, rfl, hn13, hb13⟩
          have HB := Lib.hid (below_next HB.out hb13)
          have HN9 := Lib.hid (Nats.kept HN9.out (Kept.of_below hb13))
          have HN13 := Lib.hid hn13
          clear hb13 hn13 d0 d1 d2
          go_wp2_with fail
          refine (sameInts_any _ _ _ _ _ _ _ HN13.out HN9.out).mono ?_
          rintro e w14 ⟨rfl, hb14⟩
          have HB := Lib.hid (below_next HB.out hb14)
          clear hb14 HN13 HN9
          go_wp2_with fail
          refine (awake10_any _).mono ?_
          rintro e w9 ⟨rfl, hb9⟩
          go_wp2
          go_ret
          exact ⟨rfl, below_next HB.out hb9⟩
        · have hd0 : decide (0 ≤ i) = true := decide_eq_true (by omega)
          by_cases h1 : (s.length : Int) ≤ i
          · have hd1 : decide (i < (s.length : Int)) = false := decide_eq_false (by omega)
            refine (at_no _ s i _ HX.out (.inr h1)).mono ?_
            clear h0 h1
            rintro e w10 ⟨rfl, hb10⟩
            have HB := Lib.hid (below_next HB.out hb10)
            have K := Lib.hid (K.out.next hb10)
            have HX := Lib.hid (HX.out.next hb10)
            have HN8 := Lib.hid (Nats.kept HN8.out (Kept.of_below hb10))
            have HN9 := Lib.hid (Nats.kept HN9.out (Kept.of_below hb10))
            clear hb10
            go_upto_region 25 with (fail)
            generalize hW : World.alloc w10 _ = W
            have HBa := Lib.hid (show Below w10.heap.size w10 W from hW ▸ below_alloc (Below.refl _ _) _)
            clear hW
            have HB := Lib.hid (below_next HB.out HBa.out)
            have K := Lib.hid (K.out.next HBa.out)
            have HX := Lib.hid (HX.out.next HBa.out)
            have HN8 := Lib.hid (Nats.kept HN8.out (Kept.of_below HBa.out))
            have HN9 := Lib.hid (Nats.kept HN9.out (Kept.of_below HBa.out))
            clear HBa
            go_wp2_with fail
            refine (ofIx_any _ s n _ HX.out hsm).mono ?_
            rintro e w11 ⟨A11, c11, rfl, hn11, hb11⟩
            have HB := Lib.hid (below_next HB.out hb11)
            have K := Lib.hid (K.out.next hb11)
            have HX := Lib.hid (HX.out.next hb11)
            have HN8 := Lib.hid (Nats.kept HN8.out (Kept.of_below hb11))
            have HN9 := Lib.hid (Nats.kept HN9.out (Kept.of_below hb11))
            have HN11 := Lib.hid hn11
            clear hb11 hn11
            go_wp2_with fail
            refine (sameInts_any _ _ _ _ _ _ _ HN11.out HN8.out).mono ?_
            rintro e w12 ⟨rfl, hb12⟩
            have HB := Lib.hid (below_next HB.out hb12)
            have K := Lib.hid (K.out.next hb12)
            have HX := Lib.hid (HX.out.next hb12)
            have HN9 := Lib.hid (Nats.kept HN9.out (Kept.of_below hb12))
            clear hb12 HN11 HN8
            obtain ⟨d0, d1, d2⟩ := blk3 K.out
            go_wp2_with fail
            refine (meetsIx_any _ s a _ HX.out hsm HOK.out).mono ?_
            rintro e w13 ⟨A13, c13, rfl, hn13, hb13⟩
            have HB := Lib.hid (below_next HB.out hb13)
            have HN9 := Lib.hid (Nats.kept HN9.out (Kept.of_below hb13))
            have HN13 := Lib.hid hn13
            clear hb13 hn13 d0 d1 d2
            go_wp2_with fail
            refine (sameInts_any _ _ _ _ _ _ _ HN13.out HN9.out).mono ?_
            rintro e w14 ⟨rfl, hb14⟩
            have HB := Lib.hid (below_next HB.out hb14)
            clear hb14 HN13 HN9
            go_wp2_with fail
            refine (awake10_any _).mono ?_
            rintro e w9 ⟨rfl, hb9⟩
            go_wp2
            go_ret
            exact ⟨rfl, below_next HB.out hb9⟩
          · have hd1 : decide (i < (s.length : Int)) = true := decide_eq_true (by omega)
            obtain ⟨k2, rfl⟩ := Int.eq_ofNat_of_zero_le (show 0 ≤ i by omega)
            have hk2 : k2 < s.length := by omega
            obtain ⟨q, hq⟩ : ∃ q, s[k2]? = some q := ⟨_, List.getElem?_eq_getElem hk2⟩
            refine (at_yes _ s k2 q _ HX.out hsm hq (HSF.out q (List.mem_of_getElem? hq))).mono ?_
            clear h0 h1 hq
            rintro e w10 ⟨r1, rfl, hr1, hb10⟩
            clear hr1
            have HB := Lib.hid (below_next HB.out hb10)
            have K := Lib.hid (K.out.next hb10)
            have HX := Lib.hid (HX.out.next hb10)
            have HN8 := Lib.hid (Nats.kept HN8.out (Kept.of_below hb10))
            have HN9 := Lib.hid (Nats.kept HN9.out (Kept.of_below hb10))
            clear hb10
            go_upto_region 25 with (fail)
            generalize hW : World.alloc w10 _ = W
            have HBa := Lib.hid (show Below w10.heap.size w10 W from hW ▸ below_alloc (Below.refl _ _) _)
            clear hW
            have HB := Lib.hid (below_next HB.out HBa.out)
            have K := Lib.hid (K.out.next HBa.out)
            have HX := Lib.hid (HX.out.next HBa.out)
            have HN8 := Lib.hid (Nats.kept HN8.out (Kept.of_below HBa.out))
            have HN9 := Lib.hid (Nats.kept HN9.out (Kept.of_below HBa.out))
            clear HBa
            go_wp2_with fail
            refine (ofIx_any _ s n _ HX.out hsm).mono ?_
            rintro e w11 ⟨A11, c11, rfl, hn11, hb11⟩
            have HB := Lib.hid (below_next HB.out hb11)
            have K := Lib.hid (K.out.next hb11)
            have HX := Lib.hid (HX.out.next hb11)
            have HN8 := Lib.hid (Nats.kept HN8.out (Kept.of_below hb11))
            have HN9 := Lib.hid (Nats.kept HN9.out (Kept.of_below hb11))
            have HN11 := Lib.hid hn11
            clear hb11 hn11
            go_wp2_with fail
            refine (sameInts_any _ _ _ _ _ _ _ HN11.out HN8.out).mono ?_
            rintro e w12 ⟨rfl, hb12⟩
            have HB := Lib.hid (below_next HB.out hb12)
            have K := Lib.hid (K.out.next hb12)
            have HX := Lib.hid (HX.out.next hb12)
            have HN9 := Lib.hid (Nats.kept HN9.out (Kept.of_below hb12))
            clear hb12 HN11 HN8
            obtain ⟨d0, d1, d2⟩ := blk3 K.out
            go_wp2_with fail
            refine (meetsIx_any _ s a _ HX.out hsm HOK.out).mono ?_
            rintro e w13 ⟨A13, c13, rfl, hn13, hb13⟩
            have HB := Lib.hid (below_next HB.out hb13)
            have HN9 := Lib.hid (Nats.kept HN9.out (Kept.of_below hb13))
            have HN13 := Lib.hid hn13
            clear hb13 hn13 d0 d1 d2
            go_wp2_with fail
            refine (sameInts_any _ _ _ _ _ _ _ HN13.out HN9.out).mono ?_
            rintro e w14 ⟨rfl, hb14⟩
            have HB := Lib.hid (below_next HB.out hb14)
            clear hb14 HN13 HN9
            go_wp2_with fail
            refine (awake10_any _).mono ?_
            rintro e w9 ⟨rfl, hb9⟩
            go_wp2
            go_ret
            exact ⟨rfl, below_next HB.out hb9⟩
theorem law_indexFinds (A : Option Addr) (c : Nat) (l : List Pkg) (n v : List UInt8) (a : Atm) (i : Int) (w : World) (hl : Pkgs w A c l) (_ : short n) (_ : short v) (ha : a.ok) (hi : -9223372036854775808 ≤ i ∧ i ≤ 9223372036854775807) :
    Calls Tryz.prog 6 #[.slice A l.length c, .string (bs n), .string (bs v), (.agg #[.string (bs (a).name), .int .i64 (a).rel, .string (bs (a).ver)]), .int .i64 i] w fun e w' => e = .returned (.bool true) ∧ Below w.heap.size w w' := by
  rcases hL : lightM 40 60 30 30 l
  · exact finds_heavy A c l n v a i w hl hL
  · by_cases h0 : mayAllE l = 0
    · exact finds_yes A c l n v a i w hl ha hi hL h0
    · exact finds_no A c l n v a i w hl hL h0
end Go.Proofs.YtflmocamfedbdaaGreatDoor
