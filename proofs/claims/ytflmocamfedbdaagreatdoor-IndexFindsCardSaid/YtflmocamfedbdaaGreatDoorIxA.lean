/- The methods of an index that ask: Len, places, Of, Find, Meets: their contracts. -/
import Derived.Test.YtflmocamfedbdaaGreatDoorNwA
import Derived.Test.YtflmocamfedbdaaGreatDoorMk
import Derived.Test.YtflmocamfedbdaaGreatDoorStB
namespace Go.Proofs.YtflmocamfedbdaaGreatDoor
set_option linter.unusedSimpArgs false
set_option linter.unusedVariables false
open Go.RowKit

def RInt (cs : List Value) (n : Nat) : Prop := cs = [.int .i64 n]
def Nats (w : World) (A : Option Addr) (c : Nat) (l : List Nat) : Prop := Slc w 1 8 RInt A c l
theorem Nats.kept {w w' : World} {A : Option Addr} {c : Nat} {l : List Nat} (h : Nats w A c l) (hk : Kept w w') : Nats w' A c l := Slc.mono h hk fun _ _ h => h
theorem Nats.at_ {w w' : World} {A : Option Addr} {c : Nat} {l : List Nat} {i : Nat} (h : Nats w A c l) (hi : i < l.length) (hk : Kept w w') : ∃ x b o, l[i]? = some x ∧ A = some ⟨b, o, none⟩ ∧ w'.cell? ⟨b, o + i, none⟩ = some (.int .i64 x) := by
  obtain ⟨x, b, o, cs, h1, h2, rfl, _, h4⟩ := Slc.at_ h hi
  refine ⟨x, b, o, h1, h2, ?_⟩
  have := rangeAt_kept hk h4 0 _ rfl
  simpa using this
theorem infInt' : (Tryz.prog.info? 3).map (fun i => (i.zero, i.size, i.bytes)) = some (some (.int .i64 0), 1, 8) := by kernel_rfl
/-- a slice of places is returned -/
def RetNats (w : World) (l : List Nat) (e : Ending) (w' : World) : Prop := ∃ A c, e = .returned (.slice A l.length c) ∧ Nats w' A c l ∧ Below w.heap.size w w'
/-- .. whose row is the call's own -/
def RetNatsO (w : World) (l : List Nat) (e : Ending) (w' : World) : Prop := ∃ A c, e = .returned (.slice A l.length c) ∧ Own w' w.heap.size 3 1 RInt (.slice A l.length c) l ∧ Below w.heap.size w w' ∧ l.length * 8 ≤ 140737488351232
theorem ret_nats {w w' : World} {v : Value} {l : List Nat} (h : Own w' w.heap.size 3 1 RInt v l) (hb : Below w.heap.size w w') (hl : l.length * 8 ≤ 140737488351232) : RetNatsO w l (.returned v) w' := by
  obtain ⟨A, c, rfl, hs⟩ := h.slc hl
  exact ⟨A, c, rfl, h, hb, hl⟩
theorem own_nats {w : World} {B : Nat} {A : Option Addr} {n c : Nat} {l : List Nat} (h : Own w B 3 1 RInt (.slice A n c) l) (hl : l.length * 8 ≤ 140737488351232) : Nats w A c l := by
  obtain ⟨A', c', h1, h2⟩ := h.slc hl
  injection h1 with h1 h3 h4
  subst h1 h4
  exact h2
theorem RetNatsO.weak {w w' : World} {l : List Nat} {e : Ending} (h : RetNatsO w l e w') : RetNats w l e w' := by
  obtain ⟨A, c, h1, h2, h3, h4⟩ := h
  exact ⟨A, c, h1, own_nats h2 h4, h3⟩
theorem Own.dn {α : Type} {w : World} {B B' : Nat} {e : TypeId} {k : Nat} {R : List Value → α → Prop} {v : Value} {l : List α} (h : Own w B e k R v l) (hb : B' ≤ B) : Own w B' e k R v l := by
  obtain ⟨css, h1, h2, h3, h4⟩ := h
  refine ⟨css, h1, h2, h3, ?_⟩
  rcases h4 with h4 | ⟨g, cap, cur, h5, h6, h7⟩
  · exact .inl h4
  · exact .inr ⟨g, cap, cur, h5, Nat.le_trans hb h6, h7⟩
set_option maxRecDepth 100000 in
theorem len_any (x : Value) (s : List Pkg) (w : World) (h : Ix w x s) : Calls Tryz.prog 23 #[x] w fun e w' => e = .returned (.int .i64 s.length) ∧ w = w' := by
  obtain ⟨g, A, c, rfl, hB, hp⟩ := h
  have c0 := hB.cell 0
  clear hB hp
  go_enter Tryz.func23, Tryz.ntmps23
  go_wp2
  go_ret
  exact ⟨rfl, rfl⟩
set_option maxRecDepth 100000 in
theorem len_nil (w : World) : Calls Tryz.prog 23 #[.pointer none] w fun e w' => e = .returned (.int .i64 0) ∧ w = w' := by
  go_enter Tryz.func23, Tryz.ntmps23
  go_wp2
  go_ret
  exact ⟨rfl, rfl⟩
set_option maxRecDepth 100000 in
theorem places_nil (fv : Value) (w : World) : Calls Tryz.prog 72 #[.pointer none, fv] w fun e w' => e = .returned (.slice none 0 0) ∧ w = w' := by
  go_enter Tryz.func72, Tryz.ntmps72
  go_wp2_with (go_at_call 23; refine (len_nil _).mono ?_; rintro e w1 ⟨rfl, rfl⟩)
  refine wp_loop_rounds 1 ?_
  rw [rounds_succ]
  go_wp2
  go_ret
  exact ⟨rfl, rfl⟩
set_option maxRecDepth 100000 in
set_option maxHeartbeats 400000 in
theorem placesO_any (P : Pkg → Bool) (g0 : Nat) (x : Value) (s : List Pkg) (w : World) (hx : Ix w x s) (hs : s.length ≤ 1000000)
    (hclo : ∀ (p : Pkg) (r : Raw) (W : World), Below w.heap.size w W → RP W r p → Calls Tryz.prog 75 #[(.agg #[.string (bs (p).name), .string (bs (p).ver), .slice (r).a1 (p).pre.length (r).c1, .slice (r).a2 (p).dep.length (r).c2, .slice (r).a3 (p).rcm.length (r).c3, .slice (r).a4 (p).con.length (r).c4, .slice (r).a5 (p).brk.length (r).c5, .slice (r).a6 (p).prv.length (r).c6, .bool (p).ess]), .pointer (some ⟨g0, 0, none⟩)] W fun e w' => e = .returned (.bool (P p)) ∧ Below W.heap.size W w') :
    Calls Tryz.prog 72 #[x, .func (.func 75) #[] #[.pointer (some ⟨g0, 0, none⟩)]] w (RetNatsO w (plcS (P) s)) := by
  have HX := Lib.hid hx
  obtain ⟨g, A, c, rfl, hB, hp⟩ := hx
  have HL := Lib.hid hp
  have HG := Lib.hid hB
  have HC := Lib.hid hclo
  have hg := hB.lt
  clear hp hB hclo
  go_enter Tryz.func72, Tryz.ntmps72
  go_wp2_with (go_at_call 23; refine (len_any _ s _ HX.out).mono ?_; rintro e w1 ⟨rfl, rfl⟩)
  go_loopw [5, 9] (fun v i wr => ∃ (k : Nat) (t : List Nat), k ≤ s.length ∧ t.length ≤ k ∧ i = .int .i64 k ∧ t = plcT (P) s k ∧ Below w.heap.size w wr ∧ Own wr w.heap.size 3 1 RInt v t) (fun _ i _ => s.length - (intOf i).toNat)
  case atStart => exact ⟨0, [], Nat.zero_le _, Nat.zero_le _, rfl, rfl, Below.refl _ _, Own.nil_ _ _ _ _ _⟩
  case round =>
    obtain ⟨k, t, hk, htk, rfl, ht, hb, ho⟩ := hrel
    have HB := Lib.hid hb
    have HO := Lib.hid ho
    have HT := Lib.hid ht
    have c0 := (HG.out.next hb).cell 0
    clear ho ht hb
    by_cases hlt : k < s.length
    · obtain ⟨q, b, o, r, hq, rfl, hr, e0, e1, e2, e3, e4, e5, e6, e7, e8⟩ := HL.out.at_ hlt (Kept.of_below HB.out)
      have HQ := Lib.hid hq
      have HR := Lib.hid (hr.kept (Kept.of_below HB.out))
      clear hq hr
      have hi0 : (0 : Int) ≤ (k : Int) := Int.natCast_nonneg _
      have hi1 : (k : Int) < (s.length : Int) := by omega
      rcases hP : (P) q
      all_goals
        have HP := Lib.hid hP
        clear hP
        go_wp2_with fail
        refine (HC.out q r _ HB.out HR.out).mono ?_
        rintro e w2 ⟨rfl, hb2⟩
        rw [HP.out]
        clear e0 e1 e2 e3 e4 e5 e6 e7 e8 hi0 hi1 c0
        have HB2 := Lib.hid (below_next HB.out hb2)
        have HO2 := Lib.hid (HO.out.next hb2)
        clear hb2
      · go_wp2
        go_roundw
        case rel => exact ⟨k + 1, t, by omega, by omega, by simp, by rw [HT.out, plc_no HQ.out HP.out], HB2.out, HO2.out⟩
        case measure => (try simp only [intOf]); omega
      · go_wp2_with (at_builtin; refine wpList_append_el (by rfl) _ _ 54 (by rfl) w.heap.size 3 _ 1 8 Tryz.underlying54 infInt' rfl (by omega) RInt _ t (by rfl) (HO2.out.alloc _) k [.int .i64 k] w2.heap.size 1 (by rfl) (Blk.new _ _ _) rfl rfl (by simp [Value.oneCell']) (by omega) (by omega) (by simp; have := HB2.out.size; omega) ?_; intro g' cap w3 ho3 hg3)
        have hb3 := (HO2.out.alloc _).below (below_alloc HB2.out _) (by simp; have := HB2.out.size; omega) hg3
        go_roundw
        case rel => exact ⟨k + 1, t ++ [k], by omega, by simp; omega, by simp, by rw [HT.out, plc_yes HQ.out HP.out], hb3, ho3⟩
        case measure => (try simp only [intOf]); omega
    · go_wp2
      go_ret
      have ho := HO.out
      rw [HT.out, plc_end hk hlt] at ho
      exact ret_nats ho HB.out (by have := plc_len (P) s s.length; unfold plcS; omega)
set_option maxRecDepth 100000 in
set_option maxHeartbeats 400000 in
theorem placesF_any (P : Pkg → Bool) (g0 g1 : Nat) (x : Value) (s : List Pkg) (w : World) (hx : Ix w x s) (hs : s.length ≤ 1000000)
    (hclo : ∀ (p : Pkg) (r : Raw) (W : World), Below w.heap.size w W → RP W r p → Calls Tryz.prog 73 #[(.agg #[.string (bs (p).name), .string (bs (p).ver), .slice (r).a1 (p).pre.length (r).c1, .slice (r).a2 (p).dep.length (r).c2, .slice (r).a3 (p).rcm.length (r).c3, .slice (r).a4 (p).con.length (r).c4, .slice (r).a5 (p).brk.length (r).c5, .slice (r).a6 (p).prv.length (r).c6, .bool (p).ess]), .pointer (some ⟨g0, 0, none⟩), .pointer (some ⟨g1, 0, none⟩)] W fun e w' => e = .returned (.bool (P p)) ∧ Below W.heap.size W w') :
    Calls Tryz.prog 72 #[x, .func (.func 73) #[] #[.pointer (some ⟨g0, 0, none⟩), .pointer (some ⟨g1, 0, none⟩)]] w (RetNatsO w (plcS (P) s)) := by
  have HX := Lib.hid hx
  obtain ⟨g, A, c, rfl, hB, hp⟩ := hx
  have HL := Lib.hid hp
  have HG := Lib.hid hB
  have HC := Lib.hid hclo
  have hg := hB.lt
  clear hp hB hclo
  go_enter Tryz.func72, Tryz.ntmps72
  go_wp2_with (go_at_call 23; refine (len_any _ s _ HX.out).mono ?_; rintro e w1 ⟨rfl, rfl⟩)
  go_loopw [5, 9] (fun v i wr => ∃ (k : Nat) (t : List Nat), k ≤ s.length ∧ t.length ≤ k ∧ i = .int .i64 k ∧ t = plcT (P) s k ∧ Below w.heap.size w wr ∧ Own wr w.heap.size 3 1 RInt v t) (fun _ i _ => s.length - (intOf i).toNat)
  case atStart => exact ⟨0, [], Nat.zero_le _, Nat.zero_le _, rfl, rfl, Below.refl _ _, Own.nil_ _ _ _ _ _⟩
  case round =>
    obtain ⟨k, t, hk, htk, rfl, ht, hb, ho⟩ := hrel
    have HB := Lib.hid hb
    have HO := Lib.hid ho
    have HT := Lib.hid ht
    have c0 := (HG.out.next hb).cell 0
    clear ho ht hb
    by_cases hlt : k < s.length
    · obtain ⟨q, b, o, r, hq, rfl, hr, e0, e1, e2, e3, e4, e5, e6, e7, e8⟩ := HL.out.at_ hlt (Kept.of_below HB.out)
      have HQ := Lib.hid hq
      have HR := Lib.hid (hr.kept (Kept.of_below HB.out))
      clear hq hr
      have hi0 : (0 : Int) ≤ (k : Int) := Int.natCast_nonneg _
      have hi1 : (k : Int) < (s.length : Int) := by omega
      rcases hP : (P) q
      all_goals
        have HP := Lib.hid hP
        clear hP
        go_wp2_with fail
        refine (HC.out q r _ HB.out HR.out).mono ?_
        rintro e w2 ⟨rfl, hb2⟩
        rw [HP.out]
        clear e0 e1 e2 e3 e4 e5 e6 e7 e8 hi0 hi1 c0
        have HB2 := Lib.hid (below_next HB.out hb2)
        have HO2 := Lib.hid (HO.out.next hb2)
        clear hb2
      · go_wp2
        go_roundw
        case rel => exact ⟨k + 1, t, by omega, by omega, by simp, by rw [HT.out, plc_no HQ.out HP.out], HB2.out, HO2.out⟩
        case measure => (try simp only [intOf]); omega
      · go_wp2_with (at_builtin; refine wpList_append_el (by rfl) _ _ 54 (by rfl) w.heap.size 3 _ 1 8 Tryz.underlying54 infInt' rfl (by omega) RInt _ t (by rfl) (HO2.out.alloc _) k [.int .i64 k] w2.heap.size 1 (by rfl) (Blk.new _ _ _) rfl rfl (by simp [Value.oneCell']) (by omega) (by omega) (by simp; have := HB2.out.size; omega) ?_; intro g' cap w3 ho3 hg3)
        have hb3 := (HO2.out.alloc _).below (below_alloc HB2.out _) (by simp; have := HB2.out.size; omega) hg3
        go_roundw
        case rel => exact ⟨k + 1, t ++ [k], by omega, by simp; omega, by simp, by rw [HT.out, plc_yes HQ.out HP.out], hb3, ho3⟩
        case measure => (try simp only [intOf]); omega
    · go_wp2
      go_ret
      have ho := HO.out
      rw [HT.out, plc_end hk hlt] at ho
      exact ret_nats ho HB.out (by have := plc_len (P) s s.length; unfold plcS; omega)
set_option maxRecDepth 100000 in
set_option maxHeartbeats 400000 in
theorem placesM_any (P : Pkg → Bool) (g0 : Nat) (x : Value) (s : List Pkg) (w : World) (hx : Ix w x s) (hs : s.length ≤ 1000000)
    (hclo : ∀ (p : Pkg) (r : Raw) (W : World), Below w.heap.size w W → RP W r p → Calls Tryz.prog 76 #[(.agg #[.string (bs (p).name), .string (bs (p).ver), .slice (r).a1 (p).pre.length (r).c1, .slice (r).a2 (p).dep.length (r).c2, .slice (r).a3 (p).rcm.length (r).c3, .slice (r).a4 (p).con.length (r).c4, .slice (r).a5 (p).brk.length (r).c5, .slice (r).a6 (p).prv.length (r).c6, .bool (p).ess]), .pointer (some ⟨g0, 0, none⟩)] W fun e w' => e = .returned (.bool (P p)) ∧ Below W.heap.size W w') :
    Calls Tryz.prog 72 #[x, .func (.func 76) #[] #[.pointer (some ⟨g0, 0, none⟩)]] w (RetNatsO w (plcS (P) s)) := by
  have HX := Lib.hid hx
  obtain ⟨g, A, c, rfl, hB, hp⟩ := hx
  have HL := Lib.hid hp
  have HG := Lib.hid hB
  have HC := Lib.hid hclo
  have hg := hB.lt
  clear hp hB hclo
  go_enter Tryz.func72, Tryz.ntmps72
  go_wp2_with (go_at_call 23; refine (len_any _ s _ HX.out).mono ?_; rintro e w1 ⟨rfl, rfl⟩)
  go_loopw [5, 9] (fun v i wr => ∃ (k : Nat) (t : List Nat), k ≤ s.length ∧ t.length ≤ k ∧ i = .int .i64 k ∧ t = plcT (P) s k ∧ Below w.heap.size w wr ∧ Own wr w.heap.size 3 1 RInt v t) (fun _ i _ => s.length - (intOf i).toNat)
  case atStart => exact ⟨0, [], Nat.zero_le _, Nat.zero_le _, rfl, rfl, Below.refl _ _, Own.nil_ _ _ _ _ _⟩
  case round =>
    obtain ⟨k, t, hk, htk, rfl, ht, hb, ho⟩ := hrel
    have HB := Lib.hid hb
    have HO := Lib.hid ho
    have HT := Lib.hid ht
    have c0 := (HG.out.next hb).cell 0
    clear ho ht hb
    by_cases hlt : k < s.length
    · obtain ⟨q, b, o, r, hq, rfl, hr, e0, e1, e2, e3, e4, e5, e6, e7, e8⟩ := HL.out.at_ hlt (Kept.of_below HB.out)
      have HQ := Lib.hid hq
      have HR := Lib.hid (hr.kept (Kept.of_below HB.out))
      clear hq hr
      have hi0 : (0 : Int) ≤ (k : Int) := Int.natCast_nonneg _
      have hi1 : (k : Int) < (s.length : Int) := by omega
      rcases hP : (P) q
      all_goals
        have HP := Lib.hid hP
        clear hP
        go_wp2_with fail
        refine (HC.out q r _ HB.out HR.out).mono ?_
        rintro e w2 ⟨rfl, hb2⟩
        rw [HP.out]
        clear e0 e1 e2 e3 e4 e5 e6 e7 e8 hi0 hi1 c0
        have HB2 := Lib.hid (below_next HB.out hb2)
        have HO2 := Lib.hid (HO.out.next hb2)
        clear hb2
      · go_wp2
        go_roundw
        case rel => exact ⟨k + 1, t, by omega, by omega, by simp, by rw [HT.out, plc_no HQ.out HP.out], HB2.out, HO2.out⟩
        case measure => (try simp only [intOf]); omega
      · go_wp2_with (at_builtin; refine wpList_append_el (by rfl) _ _ 54 (by rfl) w.heap.size 3 _ 1 8 Tryz.underlying54 infInt' rfl (by omega) RInt _ t (by rfl) (HO2.out.alloc _) k [.int .i64 k] w2.heap.size 1 (by rfl) (Blk.new _ _ _) rfl rfl (by simp [Value.oneCell']) (by omega) (by omega) (by simp; have := HB2.out.size; omega) ?_; intro g' cap w3 ho3 hg3)
        have hb3 := (HO2.out.alloc _).below (below_alloc HB2.out _) (by simp; have := HB2.out.size; omega) hg3
        go_roundw
        case rel => exact ⟨k + 1, t ++ [k], by omega, by simp; omega, by simp, by rw [HT.out, plc_yes HQ.out HP.out], hb3, ho3⟩
        case measure => (try simp only [intOf]); omega
    · go_wp2
      go_ret
      have ho := HO.out
      rw [HT.out, plc_end hk hlt] at ho
      exact ret_nats ho HB.out (by have := plc_len (P) s s.length; unfold plcS; omega)
end Go.Proofs.YtflmocamfedbdaaGreatDoor
