/- The law IndexTurned. -/
import Derived.Test.YtflmocamfedbdaaDoorAwA
import Derived.Test.YtflmocamfedbdaaDoorLg
import Derived.Test.YtflmocamfedbdaaDoorTuP
import Derived.Test.YtflmocamfedbdaaDoorSmB
import Derived.Deep.RegionHeld3
import Derived.Deep.DrawnRows
namespace Go.Proofs.YtflmocamfedbdaaDoor
set_option linter.unusedSimpArgs false
set_option linter.unusedVariables false
open Go.RowKit
attribute [local go_sem ↓] Go.wp_at_zero Go.wp_at_succ
attribute [local irreducible] wpQuiet
theorem own_pkgs {w W : World} {B : Nat} {v : Value} {l : List Pkg} (h : Own W B 26 9 (RPkg w) v l) (hb : Below w.heap.size w W) (hz : l.length * 184 ≤ 140737488351232) : ∃ A c, v = .slice A l.length c ∧ Pkgs W A c l := by
  obtain ⟨A, c, h1, h2⟩ := h.slc (z := 184) hz
  exact ⟨A, c, h1, Slc.mono h2 (Kept.refl _) fun cs x ⟨r, e1, e2⟩ => ⟨r, e1, e2.kept (Kept.of_below hb)⟩⟩
theorem lm_few {l : List Pkg} (h : lightM 40 60 30 30 l = true) : ∀ p ∈ l, fewO p := fun p hp =>
  light_few ((lm_of h).2 p hp) (by decide) (by decide) (by decide)
theorem any_hit {α : Type} {p : α → Bool} {l : List α} {j : Nat} {x : α} (hx : l[j]? = some x) (h : p x = true) : (l.take (j + 1)).any p = true := by
  rw [take_step hx, List.any_append]
  simp [h]
theorem any_more {α : Type} {p : α → Bool} {l : List α} {j : Nat} {x : α} (hx : l[j]? = some x) (h : (l.take j).any p = true) : (l.take (j + 1)).any p = true := by
  rw [take_step hx, List.any_append, h]
  rfl
set_option maxRecDepth 100000 in
set_option maxHeartbeats 1000000 in
theorem turned_heavy (A : Option Addr) (c : Nat) (l : List Pkg) (a : Atm) (w : World) (hl : Pkgs w A c l) (hL : lightM 40 60 30 30 l = false) :
    Calls Tryd.prog 4 #[.slice A l.length c, (.agg #[.string (bs (a).name), .int .i64 (a).rel, .string (bs (a).ver)])] w fun e w' => e = .returned (.bool true) ∧ Below w.heap.size w w' := by
  have hbd := hl.bd
  have HL := Lib.hid hl
  have HG := Lib.hid hL
  clear hl hL
  go_enter Tryd.func4, Tryd.ntmps4
  go_wp2_with fail
  refine (light10_any A c l _ (HL.out.kept (Kept.alloc _ _))).mono ?_
  rintro e w1 ⟨rfl, hb1⟩
  rw [HG.out]
  have HB := Lib.hid (below_next (below_alloc (Below.refl w.heap.size w) (.cells #[.string (bs (a).name), .int .i64 (a).rel, .string (bs (a).ver)] 32)) hb1)
  have K := Lib.hid ((blk_new1 w 32 #[.string (bs (a).name), .int .i64 (a).rel, .string (bs (a).ver)]).next hb1)
  clear hb1
  go_wp2_with fail
  refine (awake10_any _).mono ?_
  rintro e w9 ⟨rfl, hb9⟩
  go_wp2
  go_ret
  exact ⟨rfl, below_next HB.out hb9⟩
set_option maxRecDepth 100000 in
set_option maxHeartbeats 1000000 in
theorem turned_many (A : Option Addr) (c : Nat) (l : List Pkg) (a : Atm) (w : World) (hl : Pkgs w A c l) (hL : lightM 40 60 30 30 l = true) (hn : 24 < l.length) :
    Calls Tryd.prog 4 #[.slice A l.length c, (.agg #[.string (bs (a).name), .int .i64 (a).rel, .string (bs (a).ver)])] w fun e w' => e = .returned (.bool true) ∧ Below w.heap.size w w' := by
  have hd : decide ((24 : Int) < (l.length : Int)) = true := decide_eq_true (by omega)
  have hbd := hl.bd
  have HL := Lib.hid hl
  have HG := Lib.hid hL
  clear hl hL
  go_enter Tryd.func4, Tryd.ntmps4
  go_wp2_with fail
  refine (light10_any A c l _ (HL.out.kept (Kept.alloc _ _))).mono ?_
  rintro e w1 ⟨rfl, hb1⟩
  rw [HG.out]
  have HB := Lib.hid (below_next (below_alloc (Below.refl w.heap.size w) (.cells #[.string (bs (a).name), .int .i64 (a).rel, .string (bs (a).ver)] 32)) hb1)
  have K := Lib.hid ((blk_new1 w 32 #[.string (bs (a).name), .int .i64 (a).rel, .string (bs (a).ver)]).next hb1)
  clear hb1
  go_wp2_with fail
  refine (awake10_any _).mono ?_
  rintro e w9 ⟨rfl, hb9⟩
  go_wp2
  go_ret
  exact ⟨rfl, below_next HB.out hb9⟩
set_option maxRecDepth 100000 in
set_option maxHeartbeats 2000000 in
theorem turned_no (A : Option Addr) (c : Nat) (l : List Pkg) (a : Atm) (w : World) (hl : Pkgs w A c l) (hL : lightM 40 60 30 30 l = true) (hn : l.length ≤ 24) (h0 : mayAllE l ≠ 0) :
    Calls Tryd.prog 4 #[.slice A l.length c, (.agg #[.string (bs (a).name), .int .i64 (a).rel, .string (bs (a).ver)])] w fun e w' => e = .returned (.bool true) ∧ Below w.heap.size w w' := by
  have H0 := Lib.hid h0
  clear h0
  have hd : decide ((24 : Int) < (l.length : Int)) = false := decide_eq_false (by omega)
  have HF := Lib.hid (lm_few hL)
  obtain ⟨lr, hlr⟩ : ∃ lr, lr = l.reverse := ⟨_, rfl⟩
  have hr1 : lr.length ≤ l.length := by rw [hlr]; simp
  have hr2 : l.length ≤ lr.length := by rw [hlr]; simp
  have HLR := Lib.hid hlr
  clear hlr
  have hbd := hl.bd
  have HL := Lib.hid hl
  have HG := Lib.hid hL
  clear hl hL
  go_enter Tryd.func4, Tryd.ntmps4
  go_wp2_with fail
  refine (light10_any A c l _ (HL.out.kept (Kept.alloc _ _))).mono ?_
  rintro e w1 ⟨rfl, hb1⟩
  rw [HG.out]
  have HB := Lib.hid (below_next (below_alloc (Below.refl w.heap.size w) (.cells #[.string (bs (a).name), .int .i64 (a).rel, .string (bs (a).ver)] 32)) hb1)
  have K := Lib.hid ((blk_new1 w 32 #[.string (bs (a).name), .int .i64 (a).rel, .string (bs (a).ver)]).next hb1)
  clear hb1
  go_wp2
  go_loopw [5, 33] (fun v i wr => ∃ (k : Nat) (t : List Pkg), k ≤ l.length ∧ i = .int .i64 k ∧ t = lr.take k ∧ Below w1.heap.size w1 wr ∧ Own wr w1.heap.size 26 9 (RPkg w) v t) (fun _ i _ => l.length - (intOf i).toNat)
  case atStart => exact ⟨0, [], Nat.zero_le _, rfl, rfl, Below.refl _ _, Own.nil_ _ _ _ _ _⟩
  case round =>
    obtain ⟨k, t, hk, rfl, ht, hb, ho⟩ := hrel
    obtain ⟨wo, rfl⟩ : ∃ wo : World, wo = wr := ⟨_, rfl⟩
    have htl : t.length ≤ k := by rw [ht, List.length_take]; omega
    have HT := Lib.hid ht
    have HB1 := Lib.hid hb
    have HO := Lib.hid ho
    clear ht hb ho
    by_cases hlt : k < l.length
    · obtain ⟨m, hm⟩ : ∃ m, m + k + 1 = l.length := ⟨l.length - 1 - k, by omega⟩
      obtain ⟨p, b, o, r, hp, rfl, hr, e0, e1, e2, e3, e4, e5, e6, e7, e8⟩ := HL.out.at_ (i := m) (by omega) (Kept.of_below (below_next HB.out HB1.out))
      have HP := Lib.hid (show lr[k]? = some p by rw [HLR.out, List.getElem?_reverse hlt, show l.length - 1 - k = m by omega]; exact hp)
      have HR := Lib.hid hr
      have hi1 : (l.length : Int) - 1 - (k : Int) = (m : Int) := by omega
      have hi2 : ((m : Int)).toNat = m := Int.toNat_natCast _
      have hi3 : (0 : Int) ≤ (m : Int) := Int.natCast_nonneg _
      have hi4 : (m : Int) < (l.length : Int) := by omega
      clear hp hr
      have HM := Lib.hid hm
      clear hm
      go_wp2_with (at_builtin; refine wpList_append_el (by rfl) _ _ 30 (by rfl) w1.heap.size 26 _ 9 184 Tryd.underlying30 infPkg' rfl (by omega) (RPkg w) _ t (by rfl) (HO.out.alloc _) p (encK r p) wo.heap.size 1 (by rfl) (blk_new1 _ _ _) ⟨r, rfl, HR.out⟩ rfl (encK_one _ _) (by omega) (by omega) (by simp; have := HB1.out.size; omega) ?_; intro g' cap w3 ho3 hg3)
      have hb3 := (HO.out.alloc _).below (below_alloc HB1.out _) (by simp; have := HB1.out.size; omega) hg3
      clear hi1 hi2 hi3 hi4
      go_roundw
      case rel => exact ⟨k + 1, t ++ [p], by omega, by simp, by rw [take_step HP.out, ← HT.out], hb3, ho3⟩
      case measure => (try simp only [intOf]); omega
    · have ho := HO.out
      rw [HT.out, List.take_of_length_le (by omega)] at ho
      obtain ⟨A2, c2, rfl, hps⟩ := own_pkgs ho (below_next HB.out HB1.out) (by omega)
      have HPS := Lib.hid hps
      have hbd2 := hps.bd
      have HB := Lib.hid (below_next HB.out HB1.out)
      have K := Lib.hid (K.out.next HB1.out)
      clear ho HO HB1 HT htl hps
      have h0 := H0.out
      have h1 : mayAllE lr ≠ 0 := by rw [HLR.out]; intro h; exact h0 (mayAll_rev.1 h)
      have H1 := Lib.hid h1
      have HFR := Lib.hid (show ∀ p ∈ lr, fewO p from fun p hp => HF.out p (by rw [HLR.out] at hp; simpa using hp))
      generalize he : mayAllE l = e1 at h0
      generalize hf : mayAllE lr = e2 at h1
      have HE1 := Lib.hid he
      have HE2 := Lib.hid hf
      have hd1 : (e1 == 0) = false := by simpa using h0
      have hd2 : (e2 == 0) = false := by simpa using h1
      have hd3 : (e1 != 0) = true := by simpa using h0
      have hd4 : (e2 != 0) = true := by simpa using h1
      clear he hf h0 h1
      go_wp2_with fail
      refine (new_no A c l _ (HL.out.kept (Kept.of_below HB.out)) HF.out H0.out).mono ?_
      rintro e w2 ⟨rfl, hb2⟩
      rw [HE1.out]
      have HPS := Lib.hid (HPS.out.kept (Kept.of_below hb2))
      have HB := Lib.hid (below_next HB.out hb2)
      clear hb2
      go_wp2_with fail
      refine (new_no A2 c2 lr _ HPS.out HFR.out H1.out).mono ?_
      rintro e w3 ⟨rfl, hb3⟩
      rw [HE2.out]
      have HB := Lib.hid (below_next HB.out hb3)
      clear hb3
      go_wp2_with fail
      refine (awake10_any _).mono ?_
      rintro e w9 ⟨rfl, hb9⟩
      go_wp2
      go_ret
      exact ⟨rfl, below_next HB.out hb9⟩
set_option maxRecDepth 100000 in
set_option maxHeartbeats 4000000 in
theorem turned_yes (A : Option Addr) (c : Nat) (l : List Pkg) (a : Atm) (w : World) (hl : Pkgs w A c l) (ha : a.ok) (hL : lightM 40 60 30 30 l = true) (hn : l.length ≤ 24) (h0 : mayAllE l = 0) :
    Calls Tryd.prog 4 #[.slice A l.length c, (.agg #[.string (bs (a).name), .int .i64 (a).rel, .string (bs (a).ver)])] w fun e w' => e = .returned (.bool true) ∧ Below w.heap.size w w' := by
  have H0 := Lib.hid h0
  have HOK := Lib.hid ha
  clear h0 ha
  have hd : decide ((24 : Int) < (l.length : Int)) = false := decide_eq_false (by omega)
  have HF := Lib.hid (lm_few hL)
  obtain ⟨lr, hlr⟩ : ∃ lr, lr = l.reverse := ⟨_, rfl⟩
  have hr1 : lr.length ≤ l.length := by rw [hlr]; simp
  have hr2 : l.length ≤ lr.length := by rw [hlr]; simp
  have HLR := Lib.hid hlr
  clear hlr
  have hbd := hl.bd
  have HL := Lib.hid hl
  have HG := Lib.hid hL
  clear hl hL
  go_enter Tryd.func4, Tryd.ntmps4
  go_wp2_with fail
  refine (light10_any A c l _ (HL.out.kept (Kept.alloc _ _))).mono ?_
  rintro e w1 ⟨rfl, hb1⟩
  rw [HG.out]
  have HB := Lib.hid (below_next (below_alloc (Below.refl w.heap.size w) (.cells #[.string (bs (a).name), .int .i64 (a).rel, .string (bs (a).ver)] 32)) hb1)
  have K := Lib.hid ((blk_new1 w 32 #[.string (bs (a).name), .int .i64 (a).rel, .string (bs (a).ver)]).next hb1)
  clear hb1
  go_wp2
  go_loopw [5, 33] (fun v i wr => ∃ (k : Nat) (t : List Pkg), k ≤ l.length ∧ i = .int .i64 k ∧ t = lr.take k ∧ Below w1.heap.size w1 wr ∧ Own wr w1.heap.size 26 9 (RPkg w) v t) (fun _ i _ => l.length - (intOf i).toNat)
  case atStart => exact ⟨0, [], Nat.zero_le _, rfl, rfl, Below.refl _ _, Own.nil_ _ _ _ _ _⟩
  case round =>
    obtain ⟨k, t, hk, rfl, ht, hb, ho⟩ := hrel
    obtain ⟨wo, rfl⟩ : ∃ wo : World, wo = wr := ⟨_, rfl⟩
    have htl : t.length ≤ k := by rw [ht, List.length_take]; omega
    have HT := Lib.hid ht
    have HB1 := Lib.hid hb
    have HO := Lib.hid ho
    clear ht hb ho
    by_cases hlt : k < l.length
    · obtain ⟨m, hm⟩ : ∃ m, m + k + 1 = l.length := ⟨l.length - 1 - k, by omega⟩
      obtain ⟨p, b, o, r, hp, rfl, hr, e0, e1, e2, e3, e4, e5, e6, e7, e8⟩ := HL.out.at_ (i := m) (by omega) (Kept.of_below (below_next HB.out HB1.out))
      have HP := Lib.hid (show lr[k]? = some p by rw [HLR.out, List.getElem?_reverse hlt, show l.length - 1 - k = m by omega]; exact hp)
      have HR := Lib.hid hr
      have hi1 : (l.length : Int) - 1 - (k : Int) = (m : Int) := by omega
      have hi2 : ((m : Int)).toNat = m := Int.toNat_natCast _
      have hi3 : (0 : Int) ≤ (m : Int) := Int.natCast_nonneg _
      have hi4 : (m : Int) < (l.length : Int) := by omega
      clear hp hr
      have HM := Lib.hid hm
      clear hm
      go_wp2_with (at_builtin; refine wpList_append_el (by rfl) _ _ 30 (by rfl) w1.heap.size 26 _ 9 184 Tryd.underlying30 infPkg' rfl (by omega) (RPkg w) _ t (by rfl) (HO.out.alloc _) p (encK r p) wo.heap.size 1 (by rfl) (blk_new1 _ _ _) ⟨r, rfl, HR.out⟩ rfl (encK_one _ _) (by omega) (by omega) (by simp; have := HB1.out.size; omega) ?_; intro g' cap w3 ho3 hg3)
      have hb3 := (HO.out.alloc _).below (below_alloc HB1.out _) (by simp; have := HB1.out.size; omega) hg3
      clear hi1 hi2 hi3 hi4
      go_roundw
      case rel => exact ⟨k + 1, t ++ [p], by omega, by simp, by rw [take_step HP.out, ← HT.out], hb3, ho3⟩
      case measure => (try simp only [intOf]); omega
    · have ho := HO.out
      rw [HT.out, List.take_of_length_le (by omega)] at ho
      obtain ⟨A2, c2, rfl, hps⟩ := own_pkgs ho (below_next HB.out HB1.out) (by omega)
      have HPS := Lib.hid hps
      have hbd2 := hps.bd
      have HB := Lib.hid (below_next HB.out HB1.out)
      have K := Lib.hid (K.out.next HB1.out)
      clear ho HO HB1 HT htl hps
      have H1 := Lib.hid (show mayAllE lr = 0 by rw [HLR.out]; exact mayAll_rev.2 H0.out)
      have HFR := Lib.hid (show ∀ p ∈ lr, fewO p from fun p hp => HF.out p (by rw [HLR.out] at hp; simpa using hp))
      obtain ⟨s, hs⟩ : ∃ s, s = srt pLt l := ⟨_, rfl⟩
      have HS2 := Lib.hid (show srt pLt lr = s by rw [HLR.out, srt_rev H0.out, hs])
      have HSL := Lib.hid (show s.length = l.length by rw [hs, srt_len])
      have HSF := Lib.hid (show ∀ p ∈ s, fewO p from fun p hp => HF.out p (mem_srt.1 (hs ▸ hp)))
      have HSV := Lib.hid (show ∀ p ∈ s, isV p.ver = true from fun p hp => (may_nv ((mayAll_zero H0.out).2.1 p (mem_srt.1 (hs ▸ hp)))).2)
      have HS1 := Lib.hid hs.symm
      clear hs
      go_wp2_with fail
      refine (new_yes A c l _ (HL.out.kept (Kept.of_below HB.out)) HF.out H0.out).mono ?_
      rintro e w2 ⟨x, rfl, hx, hb2⟩
      rw [HS1.out] at hx
      have HX := Lib.hid hx
      have HPS := Lib.hid (HPS.out.kept (Kept.of_below hb2))
      have HB := Lib.hid (below_next HB.out hb2)
      have K := Lib.hid (K.out.next hb2)
      clear hb2 hx
      go_wp2_with fail
      refine (new_yes A2 c2 lr _ HPS.out HFR.out H1.out).mono ?_
      rintro e w3 ⟨y, rfl, hy, hb3⟩
      rw [HS2.out] at hy
      have HY := Lib.hid hy
      have HX := Lib.hid (HX.out.next hb3)
      have HB := Lib.hid (below_next HB.out hb3)
      have K := Lib.hid (K.out.next hb3)
      clear hb3 hy HPS hbd2
      go_wp2
      go_loopw [75] (fun i wr => ∃ k : Nat, k ≤ l.length ∧ i = .int .i64 k ∧ Below w3.heap.size w3 wr) (fun i _ => l.length - (intOf i).toNat)
      case atStart => exact ⟨0, Nat.zero_le _, rfl, Below.refl _ _⟩
      case round =>
        obtain ⟨k, hk, rfl, hb⟩ := hrel
        obtain ⟨wo, rfl⟩ : ∃ wo : World, wo = wr := ⟨_, rfl⟩
        have HB3 := Lib.hid hb
        clear hb
        by_cases hlt : k < l.length
        · obtain ⟨q, hq⟩ : ∃ q, s[k]? = some q := ⟨_, List.getElem?_eq_getElem (by have := HSL.out; omega)⟩
          have HQ := Lib.hid hq
          have HQF := Lib.hid (HSF.out q (List.mem_of_getElem? hq))
          clear hq
          have hsm : s.length ≤ 1000000 := by have := HSL.out; omega
          go_wp2_with fail
          refine (at_yes x s k q _ (HX.out.next HB3.out) hsm HQ.out HQF.out).mono ?_
          rintro e w4 ⟨r1, rfl, hr1, hb4⟩
          have HR1 := Lib.hid (hr1.kept (Kept.flt TB _))
          have HB4 := Lib.hid (below_next HB3.out hb4)
          clear hr1 hb4
          go_wp2_with fail
          refine (at_yes y s k q _ (HY.out.next (below_alloc HB4.out (.cells #[.string (bs (q).name), .string (bs (q).ver), .slice (r1).a1 (q).pre.length (r1).c1, .slice (r1).a2 (q).dep.length (r1).c2, .slice (r1).a3 (q).rcm.length (r1).c3, .slice (r1).a4 (q).con.length (r1).c4, .slice (r1).a5 (q).brk.length (r1).c5, .slice (r1).a6 (q).prv.length (r1).c6, .bool (q).ess] 26))) hsm HQ.out HQF.out).mono ?_
          rintro e w5 ⟨r2, rfl, hr2, hb5⟩
          have HR1 := Lib.hid (HR1.out.kept ((Kept.alloc _ (.cells #[.string (bs (q).name), .string (bs (q).ver), .slice (r1).a1 (q).pre.length (r1).c1, .slice (r1).a2 (q).dep.length (r1).c2, .slice (r1).a3 (q).rcm.length (r1).c3, .slice (r1).a4 (q).con.length (r1).c4, .slice (r1).a5 (q).brk.length (r1).c5, .slice (r1).a6 (q).prv.length (r1).c6, .bool (q).ess] 26)).trans (Kept.of_below hb5)))
          have HR2 := Lib.hid (hr2.kept (Kept.flt TB _))
          have HB5 := Lib.hid (below_next (below_alloc HB4.out (.cells #[.string (bs (q).name), .string (bs (q).ver), .slice (r1).a1 (q).pre.length (r1).c1, .slice (r1).a2 (q).dep.length (r1).c2, .slice (r1).a3 (q).rcm.length (r1).c3, .slice (r1).a4 (q).con.length (r1).c4, .slice (r1).a5 (q).brk.length (r1).c5, .slice (r1).a6 (q).prv.length (r1).c6, .bool (q).ess] 26)) hb5)
          have KA := Lib.hid (((blk_new1 w4 26 #[.string (bs (q).name), .string (bs (q).ver), .slice (r1).a1 (q).pre.length (r1).c1, .slice (r1).a2 (q).dep.length (r1).c2, .slice (r1).a3 (q).rcm.length (r1).c3, .slice (r1).a4 (q).con.length (r1).c4, .slice (r1).a5 (q).brk.length (r1).c5, .slice (r1).a6 (q).prv.length (r1).c6, .bool (q).ess]).next hb5).alloc (.cells #[.string (bs (q).name), .string (bs (q).ver), .slice (r2).a1 (q).pre.length (r2).c1, .slice (r2).a2 (q).dep.length (r2).c2, .slice (r2).a3 (q).rcm.length (r2).c3, .slice (r2).a4 (q).con.length (r2).c4, .slice (r2).a5 (q).brk.length (r2).c5, .slice (r2).a6 (q).prv.length (r2).c6, .bool (q).ess] 26))
          have KB := Lib.hid (blk_new1 w5 26 #[.string (bs (q).name), .string (bs (q).ver), .slice (r2).a1 (q).pre.length (r2).c1, .slice (r2).a2 (q).dep.length (r2).c2, .slice (r2).a3 (q).rcm.length (r2).c3, .slice (r2).a4 (q).con.length (r2).c4, .slice (r2).a5 (q).brk.length (r2).c5, .slice (r2).a6 (q).prv.length (r2).c6, .bool (q).ess])
          clear hr2 hb5
          go_upto_region 18 with (fail)
          obtain ⟨a0, a1, a2, a3, a4, a5, a6, a7, a8⟩ := blk9 KA.out
          obtain ⟨b0, b1, b2, b3, b4, b5, b6, b7, b8⟩ := blk9 KB.out
          have HSA := Lib.hid (same_any q q r1 r2 _ (HR1.out.kept (Kept.alloc w5 (.cells #[.string (bs (q).name), .string (bs (q).ver), .slice (r2).a1 (q).pre.length (r2).c1, .slice (r2).a2 (q).dep.length (r2).c2, .slice (r2).a3 (q).rcm.length (r2).c3, .slice (r2).a4 (q).con.length (r2).c4, .slice (r2).a5 (q).brk.length (r2).c5, .slice (r2).a6 (q).prv.length (r2).c6, .bool (q).ess] 26))) (HR2.out.kept (Kept.alloc w5 (.cells #[.string (bs (q).name), .string (bs (q).ver), .slice (r2).a1 (q).pre.length (r2).c1, .slice (r2).a2 (q).dep.length (r2).c2, .slice (r2).a3 (q).rcm.length (r2).c3, .slice (r2).a4 (q).con.length (r2).c4, .slice (r2).a5 (q).brk.length (r2).c5, .slice (r2).a6 (q).prv.length (r2).c6, .bool (q).ess] 26))))
          have HB6 := Lib.hid (below_alloc HB5.out (.cells #[.string (bs (q).name), .string (bs (q).ver), .slice (r2).a1 (q).pre.length (r2).c1, .slice (r2).a2 (q).dep.length (r2).c2, .slice (r2).a3 (q).rcm.length (r2).c3, .slice (r2).a4 (q).con.length (r2).c4, .slice (r2).a5 (q).brk.length (r2).c5, .slice (r2).a6 (q).prv.length (r2).c6, .bool (q).ess] 26))
          go_wp2_with fail
          refine HSA.out.mono ?_
          rintro e w6 ⟨rfl, hb6⟩
          have HB7 := Lib.hid (below_next HB6.out hb6)
          clear hb6 a0 a1 a2 a3 a4 a5 a6 a7 a8 b0 b1 b2 b3 b4 b5 b6 b7 b8
          go_wp2
          go_roundw
          case rel => exact ⟨k + 1, by omega, by simp, HB7.out⟩
          case measure => (try simp only [intOf]); omega
        · have HX := Lib.hid (HX.out.next HB3.out)
          have HY := Lib.hid (HY.out.next HB3.out)
          have HB := Lib.hid (below_next HB.out HB3.out)
          have K := Lib.hid (K.out.next HB3.out)
          clear HB3
          have hsm : s.length ≤ 1000000 := by have := HSL.out; omega
          obtain ⟨c0, c1, c2⟩ := blk3 K.out
          go_wp2_with fail
          refine (meetsIx_any x s ⟨a.name, 0, []⟩ _ HX.out hsm ⟨HOK.out.1, by unfold short; simp⟩).mono ?_
          rintro e w4 ⟨A3, c3, rfl, hm3, hb4⟩
          have hbd3 := hm3.bd
          have HX := Lib.hid (HX.out.next hb4)
          have HY := Lib.hid (HY.out.next hb4)
          have HB := Lib.hid (below_next HB.out hb4)
          have K := Lib.hid (K.out.next hb4)
          have HM3 := Lib.hid hm3
          clear hb4 hm3 c0 c1 c2
          obtain ⟨c0, c1, c2⟩ := blk3 K.out
          go_wp2_with fail
          refine (meetsIx_any x s a _ HX.out hsm HOK.out).mono ?_
          rintro e w5 ⟨A4, c4, rfl, hm4, hb5⟩
          have hbd4 := hm4.bd
          have HX := Lib.hid (HX.out.next hb5)
          have HY := Lib.hid (HY.out.next hb5)
          have HB := Lib.hid (below_next HB.out hb5)
          have K := Lib.hid (K.out.next hb5)
          have HM3 := Lib.hid (Nats.kept HM3.out (Kept.of_below hb5))
          have HM4 := Lib.hid hm4
          have HSUB := Lib.hid (show ∀ m ∈ plcS (satP a) s, m ∈ plcS (satP ⟨a.name, 0, []⟩) s from fun m hm => by
            obtain ⟨q, h1, h2⟩ := plc_mem.1 hm
            exact plc_mem.2 ⟨q, h1, sat_any0 (HSV.out q (List.mem_of_getElem? h1)) h2⟩)
          clear hb5 hm4 c0 c1 c2
          generalize plcS (satP ⟨a.name, 0, []⟩) s = L3 at HM3 hbd3 HSUB ⊢
          generalize hL4 : plcS (satP a) s = L4 at HM4 hbd4 HSUB ⊢
          have HL4 := Lib.hid hL4
          clear hL4
          go_wp2
          go_loopw [112] (fun i wr => ∃ k : Nat, k ≤ L4.length ∧ i = .int .i64 k ∧ wr = w5) (fun i _ => L4.length - (intOf i).toNat)
          case atStart => exact ⟨0, Nat.zero_le _, rfl, rfl⟩
          case round =>
            obtain ⟨k, hk, rfl, rfl⟩ := hrel
            obtain ⟨w5, rfl⟩ : ∃ w5 : World, w5 = wr := ⟨_, rfl⟩
            by_cases hlt : k < L4.length
            · obtain ⟨m, b, o, hm, rfl, e0⟩ := HM4.out.at_ hlt (Kept.refl _)
              have HIN := Lib.hid (HSUB.out m (List.mem_of_getElem? hm))
              clear hm
              go_wp2
              go_loop [19, 118] (fun v i => ∃ j : Nat, j ≤ L3.length ∧ i = .int .i64 j ∧ v = .bool ((L3.take j).any fun y => decide (y = m))) (fun _ i => L3.length - (intOf i).toNat)
              case atStart => exact ⟨0, Nat.zero_le _, rfl, rfl⟩
              case round =>
                obtain ⟨j, hj, rfl, rfl⟩ := hrel
                by_cases hlj : j < L3.length
                · obtain ⟨m2, b2, o2, hm2, rfl, f0⟩ := HM3.out.at_ hlj (Kept.refl _)
                  have HM2 := Lib.hid hm2
                  clear hm2
                  rcases hany : (L3.take j).any fun y => decide (y = m)
                  · have HANY := Lib.hid hany
                    clear hany
                    by_cases hmm : m = m2
                    · have hd : ((m : Int) == (m2 : Int)) = true := by rw [hmm]; simp
                      have hv := Lib.hid (any_hit (p := fun y => decide (y = m)) HM2.out (by simpa using hmm.symm))
                      clear hmm
                      go_wp2
                      go_round
                      case rel => exact ⟨j + 1, by omega, by simp, by rw [hv.out]⟩
                      case measure => (try simp only [intOf]); omega
                    · have hd : ((m : Int) == (m2 : Int)) = false := by simp; omega
                      have hv := Lib.hid (any_step (p := fun y => decide (y = m)) HM2.out (by simpa using fun h : m2 = m => hmm h.symm) HANY.out)
                      clear hmm
                      go_wp2
                      go_round
                      case rel => exact ⟨j + 1, by omega, by simp, by rw [hv.out]⟩
                      case measure => (try simp only [intOf]); omega
                  · have hv := Lib.hid (any_more (p := fun y => decide (y = m)) HM2.out hany)
                    clear hany
                    go_wp2
                    go_round
                    case rel => exact ⟨j + 1, by omega, by simp, by rw [hv.out]⟩
                    case measure => (try simp only [intOf]); omega
                · have hv : ((L3.take j).any fun y => decide (y = m)) = true := by
                    rw [List.take_of_length_le (by omega), List.any_eq_true]
                    exact ⟨m, HIN.out, decide_eq_true rfl⟩
                  rw [hv]
                  clear hv
                  go_wp2
                  go_roundw
                  case rel => exact ⟨k + 1, by omega, by simp, (by first | rfl | trivial)⟩
                  case measure => (try simp only [intOf]); omega
            · go_upto_region 34 with (fail)
              have a0 := fun (w2 : World) (h : Hid (Below w5.heap.size w5 w2)) => (blk3 (K.out.next h.out)).1
              have a1 := fun (w2 : World) (h : Hid (Below w5.heap.size w5 w2)) => (blk3 (K.out.next h.out)).2.1
              have a2 := fun (w2 : World) (h : Hid (Below w5.heap.size w5 w2)) => (blk3 (K.out.next h.out)).2.2
              go_region_held3 (fun w' => Hid (Below w5.heap.size w5 w')) (first | with_reducible assumption | exact HB4 | exact HB3 | exact HB2 | exact HB1 | exact Lib.hid (below_drewN (Below.refl _ _) 1) | (have hh := (by assumption : Hid (Below w5.heap.size w5 _)); exact Lib.hid (below_alloc hh.out _)))
                (first | (go_at_call 12; have hh := (by assumption : Hid (Below w5.heap.size w5 _)); refine (meetsIx_any x s a _ (HX.out.next hh.out) hsm HOK.out).mono ?_; rintro e w8 ⟨A8, c8, rfl, hn8, hb8⟩; rw [HL4.out] at hn8 ⊢; have HNX := Lib.hid hn8; have HCX := Lib.hid hb8; have HB1 := Lib.hid (below_next hh.out hb8); clear hb8 hn8) | (go_at_call 12; have hh := (by assumption : Hid (Below w5.heap.size w5 _)); refine (meetsIx_any y s a _ (HY.out.next hh.out) hsm HOK.out).mono ?_; rintro e w9 ⟨A9, c9, rfl, hn9, hb9⟩; rw [HL4.out] at hn9 ⊢; have HNY := Lib.hid hn9; have HCY := Lib.hid hb9; have HB2 := Lib.hid (below_next hh.out hb9); clear hb9 hn9) | (go_at_call 13; have hh := (by assumption : Hid (Below w5.heap.size w5 _)); have hnx := (by first | exact Nats.kept HNX.out (Kept.of_below HCY.out) | exact HNX.out : Nats _ _ _ _); have hny := (by first | exact Nats.kept HNY.out (Kept.of_below HCX.out) | exact HNY.out : Nats _ _ _ _); refine (sameInts_any _ _ _ _ _ _ _ hnx hny).mono ?_; rintro e w10 ⟨rfl, hb10⟩; have HB3 := Lib.hid (below_next hh.out hb10); clear hb10 hnx hny; rw [decide_eq_true (rfl : L4 = L4)]) | (go_at_call 7; have hh := (by assumption : Hid (Below w5.heap.size w5 _)); refine (awake10_any _).mono ?_; rintro e w11 ⟨rfl, hb4⟩; have HB4 := Lib.hid (below_next hh.out hb4); clear hb4))
              all_goals
                go_wp2
                go_ret
                exact ⟨rfl, below_next HB.out HB4.out⟩
theorem law_indexTurned (A : Option Addr) (c : Nat) (l : List Pkg) (a : Atm) (w : World) (hl : Pkgs w A c l) (ha : a.ok) :
    Calls Tryd.prog 4 #[.slice A l.length c, (.agg #[.string (bs (a).name), .int .i64 (a).rel, .string (bs (a).ver)])] w fun e w' => e = .returned (.bool true) ∧ Below w.heap.size w w' := by
  rcases hL : lightM 40 60 30 30 l
  · exact turned_heavy A c l a w hl hL
  · by_cases hn : l.length ≤ 24
    · by_cases h0 : mayAllE l = 0
      · exact turned_yes A c l a w hl ha hL hn h0
      · exact turned_no A c l a w hl hL hn h0
    · exact turned_many A c l a w hl hL (by omega)
end Go.Proofs.YtflmocamfedbdaaDoor
