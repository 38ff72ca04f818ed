/- The contracts of the reference's SameTexts, SameInts. The contracts of the reference's Version. In the walk of a region that only reads: an operation whose guard is false is passed over. The contract of the reference's Sorted. The contract of the reference's Names. The contract of the reference's MayAll. -/
import Derived.Test.YtflmocamfedbdaaGreatDoorIxA
import Derived.Test.YtflmocamfedbdaaGreatDoorMk
import Derived.Test.YtflmocamfedbdaaGreatDoorSmX
import Derived.Test.YtflmocamfedbdaaGreatDoorSmY
import Derived.Test.YtflmocamfedbdaaGreatDoorIxB
import Derived.Test.YtflmocamfedbdaaGreatDoorTuP
import Derived.Test.YtflmocamfedbdaaGreatDoorNwA
import Derived.Deep.RegionLaw
import Derived.Deep.DrawnRows
import Derived.Deep.RegionHeld3
import Derived.Test.YtflmocamfedbdaaGreatDoorNl
import Derived.Test.YtflmocamfedbdaaGreatDoorMaE
import Derived.Test.YtflmocamfedbdaaGreatDoorMlP
namespace Go.Proofs.YtflmocamfedbdaaGreatDoor
set_option linter.unusedSimpArgs false
set_option linter.unusedVariables false
open Go.RowKit

set_option maxRecDepth 100000 in
set_option maxHeartbeats 400000 in
theorem sameTexts_any (A B : Option Addr) (c d : Nat) (l m : List (List UInt8)) (w : World) (hl : Strs w A c l) (hm : Strs w B d m) :
    Calls Tryz.prog 24 #[.slice A l.length c, .slice B m.length d] w fun e w' => e = .returned (.bool (decide (l = m))) ∧ Below w.heap.size w w' := by
  have hbd := hl.bd
  have hbd2 := hm.bd
  have HL := Lib.hid hl
  have HM := Lib.hid hm
  clear hl hm
  by_cases hlen : l.length = m.length
  · have hlb : ((l.length : Int) != (m.length : Int)) = false := by simp [hlen]
    have hl1 : l.length ≤ m.length := by omega
    have hl2 : m.length ≤ l.length := by omega
    clear hlen
    go_enter Tryz.func24, Tryz.ntmps24
    go_wp2
    go_loopw [13] (fun i wr => ∃ k : Nat, k ≤ l.length ∧ i = .int .i64 k ∧ Below w.heap.size w wr ∧ l.take k = m.take k) (fun i _ => l.length - (intOf i).toNat)
    case atStart => exact ⟨0, Nat.zero_le _, rfl, Below.refl _ _, rfl⟩
    case round =>
      obtain ⟨k, hk, rfl, hb, hn⟩ := hrel
      obtain ⟨wo, rfl⟩ : ∃ wo : World, wo = wr := ⟨_, rfl⟩
      have HB := Lib.hid hb
      have HN := Lib.hid hn
      clear hb hn
      by_cases hlt : k < l.length
      · obtain ⟨x, b, o, hx, rfl, e0⟩ := HL.out.at_ hlt (Kept.of_below HB.out)
        obtain ⟨y, b', o', hy, rfl, f0⟩ := HM.out.at_ (by omega : k < m.length) (Kept.of_below HB.out)
        have HX := Lib.hid hx
        have HY := Lib.hid hy
        clear hx hy
        have hi0 : (0 : Int) ≤ (k : Int) := Int.natCast_nonneg _
        have hi1 : (k : Int) < (l.length : Int) := by omega
        have hi2 : (k : Int) < (m.length : Int) := by omega
        go_wp2
        go_quiet (fail)
        go_wp2
        · have hne : x ≠ y := by simpa using (by assumption : (!x == y) = true)
          go_ret
          have hf : decide (l = m) = false := by
            rw [decide_eq_false_iff_not]
            intro h
            have h1 := HX.out
            rw [h, HY.out] at h1
            exact hne (Option.some.inj h1).symm
          exact ⟨by rw [hf]; rfl, by have hb0 := HB.out; (repeat (first | assumption | exact Below.refl _ _ | refine below_next ?_ (by assumption) | refine below_drewN ?_ _ | refine below_alloc ?_ _))⟩
        · have heq : x = y := by simpa using (by assumption : (!x == y) = false)
          subst heq
          go_roundw
          case rel => exact ⟨k + 1, by omega, by simp, by have hb0 := HB.out; (repeat (first | assumption | exact Below.refl _ _ | refine below_next ?_ (by assumption) | refine below_drewN ?_ _ | refine below_alloc ?_ _)), take_ext HX.out HY.out HN.out⟩
          case measure => (try simp only [intOf]); omega
      · go_wp2
        go_ret
        have hn := HN.out
        rw [List.take_of_length_le (by omega), List.take_of_length_le (by omega)] at hn
        exact ⟨by simp [hn], HB.out⟩
  · have hlb : ((l.length : Int) != (m.length : Int)) = true := by rw [bne_iff_ne]; omega
    go_enter Tryz.func24, Tryz.ntmps24
    go_wp2
    go_ret
    have hf : decide (l = m) = false := by
      rw [decide_eq_false_iff_not]
      intro h
      exact hlen (by rw [h])
    exact ⟨by rw [hf]; rfl, Below.refl _ _⟩
set_option maxRecDepth 100000 in
set_option maxHeartbeats 400000 in
theorem sameInts_any (A B : Option Addr) (c d : Nat) (l m : List (Nat)) (w : World) (hl : Nats w A c l) (hm : Nats w B d m) :
    Calls Tryz.prog 31 #[.slice A l.length c, .slice B m.length d] w fun e w' => e = .returned (.bool (decide (l = m))) ∧ Below w.heap.size w w' := by
  have hbd := hl.bd
  have hbd2 := hm.bd
  have HL := Lib.hid hl
  have HM := Lib.hid hm
  clear hl hm
  by_cases hlen : l.length = m.length
  · have hlb : ((l.length : Int) != (m.length : Int)) = false := by simp [hlen]
    have hl1 : l.length ≤ m.length := by omega
    have hl2 : m.length ≤ l.length := by omega
    clear hlen
    go_enter Tryz.func31, Tryz.ntmps31
    go_wp2
    go_loopw [13] (fun i wr => ∃ k : Nat, k ≤ l.length ∧ i = .int .i64 k ∧ Below w.heap.size w wr ∧ l.take k = m.take k) (fun i _ => l.length - (intOf i).toNat)
    case atStart => exact ⟨0, Nat.zero_le _, rfl, Below.refl _ _, rfl⟩
    case round =>
      obtain ⟨k, hk, rfl, hb, hn⟩ := hrel
      obtain ⟨wo, rfl⟩ : ∃ wo : World, wo = wr := ⟨_, rfl⟩
      have HB := Lib.hid hb
      have HN := Lib.hid hn
      clear hb hn
      by_cases hlt : k < l.length
      · obtain ⟨x, b, o, hx, rfl, e0⟩ := HL.out.at_ hlt (Kept.of_below HB.out)
        obtain ⟨y, b', o', hy, rfl, f0⟩ := HM.out.at_ (by omega : k < m.length) (Kept.of_below HB.out)
        have HX := Lib.hid hx
        have HY := Lib.hid hy
        clear hx hy
        have hi0 : (0 : Int) ≤ (k : Int) := Int.natCast_nonneg _
        have hi1 : (k : Int) < (l.length : Int) := by omega
        have hi2 : (k : Int) < (m.length : Int) := by omega
        go_wp2
        go_quiet (fail)
        go_wp2
        · have hne : x ≠ y := by (have h := (by assumption : ((x : Int) != (y : Int)) = true); rw [bne_iff_ne] at h; omega)
          go_ret
          have hf : decide (l = m) = false := by
            rw [decide_eq_false_iff_not]
            intro h
            have h1 := HX.out
            rw [h, HY.out] at h1
            exact hne (Option.some.inj h1).symm
          exact ⟨by rw [hf]; rfl, by have hb0 := HB.out; (repeat (first | assumption | exact Below.refl _ _ | refine below_next ?_ (by assumption) | refine below_drewN ?_ _ | refine below_alloc ?_ _))⟩
        · have heq : x = y := by (have h := (by assumption : ((x : Int) != (y : Int)) = false); simp at h; omega)
          subst heq
          go_roundw
          case rel => exact ⟨k + 1, by omega, by simp, by have hb0 := HB.out; (repeat (first | assumption | exact Below.refl _ _ | refine below_next ?_ (by assumption) | refine below_drewN ?_ _ | refine below_alloc ?_ _)), take_ext HX.out HY.out HN.out⟩
          case measure => (try simp only [intOf]); omega
      · go_wp2
        go_ret
        have hn := HN.out
        rw [List.take_of_length_le (by omega), List.take_of_length_le (by omega)] at hn
        exact ⟨by simp [hn], HB.out⟩
  · have hlb : ((l.length : Int) != (m.length : Int)) = true := by rw [bne_iff_ne]; omega
    go_enter Tryz.func31, Tryz.ntmps31
    go_wp2
    go_ret
    have hf : decide (l = m) = false := by
      rw [decide_eq_false_iff_not]
      intro h
      exact hlen (by rw [h])
    exact ⟨by rw [hf]; rfl, Below.refl _ _⟩
end Go.Proofs.YtflmocamfedbdaaGreatDoor
namespace Go.Proofs.YtflmocamfedbdaaGreatDoor
set_option linter.unusedSimpArgs false
set_option linter.unusedVariables false
open Go.RowKit

set_option maxRecDepth 100000 in
theorem rVersion_any (A : Option Addr) (c : Nat) (l : List Pkg) (n v : List UInt8) (w : World) (hl : Pkgs w A c l) :
    Calls Tryz.prog 30 #[.slice A l.length c, .string (bs n), .string (bs v)] w fun e w' => e = .returned (.int .i64 (idxS (fndP n v) l)) ∧ Below w.heap.size w w' := by
  have hbd := hl.bd
  have HL := Lib.hid hl
  clear hl
  go_enter Tryz.func30, Tryz.ntmps30
  go_wp2
  go_loopw [11] (fun i wr => ∃ k : Nat, k ≤ l.length ∧ i = .int .i64 k ∧ Below w.heap.size w wr ∧ (l.take k).any (fndP n v) = false) (fun i _ => l.length - (intOf i).toNat)
  case atStart => exact ⟨0, Nat.zero_le _, rfl, Below.refl _ _, rfl⟩
  case round =>
    obtain ⟨k, hk, rfl, hb, hn⟩ := hrel
    have HB := Lib.hid hb
    have HN := Lib.hid hn
    clear hb hn
    by_cases hlt : k < l.length
    · obtain ⟨q, b, o, r, hq, rfl, hr, e0, e1, e2, e3, e4, e5, e6, e7, e8⟩ := HL.out.at_ hlt (Kept.of_below HB.out)
      have HQ := Lib.hid hq
      clear hq hr
      by_cases hnm : q.name = n
      · have hnb : (q.name == n) = true := by simpa using hnm
        generalize hsv : sameV q.ver v = sv
        have HSV := Lib.hid hsv
        have HF := Lib.hid (show fndP n v q = sv by simp [fndP, hnm, hsv])
        clear hnm hsv
        go_wp2_with fail
        refine (rSameVersion_any _ _ _).mono ?_
        rintro e w3 ⟨rfl, hb3⟩
        rw [HSV.out]
        have HB3 := Lib.hid (below_next (below_alloc HB.out _) hb3)
        clear hb3 e0 e1 e2 e3 e4 e5 e6 e7 e8
        rcases sv
        · go_wp2
          go_roundw
          case rel => exact ⟨k + 1, by omega, by simp, HB3.out, any_step HQ.out HF.out HN.out⟩
          case measure => (try simp only [intOf]); omega
        · go_wp2
          go_ret
          exact ⟨by rw [idx_at HQ.out HF.out HN.out]; rfl, HB3.out⟩
      · have hnb : (q.name == n) = false := by simpa using hnm
        have HF := Lib.hid (show fndP n v q = false by simp [fndP, hnm])
        clear hnm
        go_wp2
        go_roundw
        case rel => exact ⟨k + 1, by omega, by simp, below_alloc HB.out _, any_step HQ.out HF.out HN.out⟩
        case measure => (try simp only [intOf]); omega
    · go_wp2
      go_ret
      exact ⟨by rw [idx_no (any_end hk hlt HN.out)]; rfl, HB.out⟩
end Go.Proofs.YtflmocamfedbdaaGreatDoor
namespace Go.Proofs.YtflmocamfedbdaaGreatDoor
set_option linter.unusedSimpArgs false
set_option linter.unusedVariables false
open Go.RowKit
theorem wpQuiet_skip {P : Program} {ops : Array Oper} {C : World → Prop} {Q : Act → Prop} {a : Act} {o : Oper} {rest : List Oper} (h0 : Region.wanted o (yielded ops a.tmps) = false) (h : wpQuiet P ops C Q rest (a.put o.dst undef)) : wpQuiet P ops C Q (o :: rest) a := by
  unfold wpQuiet
  rw [if_neg (by rw [h0]; decide)]
  exact h
end Go.Proofs.YtflmocamfedbdaaGreatDoor
namespace Go.Proofs.YtflmocamfedbdaaGreatDoor
set_option linter.unusedSimpArgs false
set_option linter.unusedVariables false
open Go.RowKit
attribute [local go_sem ↓] Go.wp_at_zero Go.wp_at_succ
attribute [local irreducible] wpQuiet

theorem pkg_one {w : World} : ∀ cs y, RPkg w cs y → ∀ u ∈ cs, u.oneCell' = true := fun cs y ⟨r, h, _⟩ u hu => by
  subst h
  exact encK_one r y u hu
theorem pLt_bl {p x : Pkg} (h : Op.bytesLess x.name p.name = true) : pLt p x = false := by
  have h1 : cmpB x.name p.name = -1 := by simp [cmpB, h]
  have h2 := cmpB_swap x.name p.name
  rw [h1] at h2
  simp [pLt, pCmp, orS, h2]
theorem pLt_ne {p x : Pkg} (h : Op.bytesLess x.name p.name = false) (hne : x.name ≠ p.name) : pLt p x = true := by
  have h1 : cmpB x.name p.name = 1 := by simp [cmpB, h, hne]
  have h2 := cmpB_swap x.name p.name
  rw [h1] at h2
  simp [pLt, pCmp, orS, h2]
theorem pLt_eq {p x : Pkg} (h : x.name = p.name) (hp : isV p.ver = true) (hx : isV x.ver = true) : pLt p x = decide ((cmpV x.ver p.ver).1 < 0) := by
  have h1 : cmpB p.name x.name = 0 := cmpB_zero.2 h.symm
  simp only [pLt, pCmp, orS, h1, cmpX_of hx hp, if_true]
  congr 1
  by_cases h0 : (cmpV x.ver p.ver).1 = 0
  · simp [h0]
  · simp [h0]
theorem Pkgs.of_own {w W : World} {B : Nat} {v : Value} {l : List Pkg} (h : Own W B 26 9 (RPkg w) v l) (hb : Below w.heap.size w W) (hz : l.length * 184 ≤ 140737488351232) : ∃ A c, v = .slice A l.length c ∧ Pkgs W A c l ∧ ((A = none ∧ c = 0 ∧ l = []) ∨ ∃ g, A = some ⟨g, 0, none⟩) := by
  have hf := own_form h
  obtain ⟨A, c, h1, h2⟩ := h.slc (z := 184) hz
  refine ⟨A, c, h1, Slc.mono h2 (Kept.refl _) fun cs x ⟨r, e1, e2⟩ => ⟨r, e1, e2.kept (Kept.of_below hb)⟩, ?_⟩
  rcases hf with ⟨hf, hl⟩ | ⟨g, cap, hf⟩
  · rw [hf] at h1
    injection h1 with h1 h3 h4
    exact .inl ⟨h1.symm, h4.symm, hl⟩
  · rw [hf] at h1
    injection h1 with h1 h3 h4
    exact .inr ⟨g, h1.symm⟩
set_option maxRecDepth 100000 in
set_option maxHeartbeats 4000000 in
theorem rSorted_any (A : Option Addr) (c : Nat) (l : List Pkg) (w : World) (hl : Pkgs w A c l) (hv : ∀ p ∈ l, isV p.ver = true) (hn : l.length ≤ 1000) :
    Calls Tryz.prog 22 #[.slice A l.length c] w fun e w' => ∃ B d, e = .returned (.slice B (srt pLt l).length d) ∧ Pkgs w' B d (srt pLt l) ∧ Below w.heap.size w w' := by
  have hbd := hl.bd
  have HL := Lib.hid hl
  have HV := Lib.hid hv
  clear hl hv
  go_enter Tryz.func22, Tryz.ntmps22
  go_wp2
  go_loopw [3, 9] (fun v i wr => ∃ (k : Nat) (s : List Pkg), k ≤ l.length ∧ i = .int .i64 k ∧ s = srt pLt (l.take k) ∧ Below w.heap.size w wr ∧ Own wr w.heap.size 26 9 (RPkg w) v s) (fun _ i _ => l.length - (intOf i).toNat)
  case atStart => exact ⟨0, [], Nat.zero_le _, rfl, rfl, Below.refl _ _, Own.nil_ _ _ _ _ _⟩
  case round =>
    obtain ⟨k, s, hk, rfl, hs, hb, ho⟩ := hrel
    obtain ⟨wo, rfl⟩ : ∃ wo : World, wo = wr := ⟨_, rfl⟩
    have hsl : s.length ≤ 1000 := by rw [hs, srt_len, List.length_take]; omega
    have hsk : s.length = k := by rw [hs, srt_len, List.length_take]; omega
    have HSV := Lib.hid (show ∀ x ∈ s, isV x.ver = true from fun x hx => HV.out x (List.mem_of_mem_take (mem_srt.1 (hs ▸ hx))))
    have HS := Lib.hid hs
    have HSk := Lib.hid hsk
    have HB := Lib.hid hb
    have HO := Lib.hid ho
    clear hs hsk hb ho
    by_cases hlt : k < l.length
    · obtain ⟨p, b, o, r, hp, rfl, hr, e0, e1, e2, e3, e4, e5, e6, e7, e8⟩ := HL.out.at_ hlt (Kept.of_below HB.out)
      have HP := Lib.hid hp
      have HR := Lib.hid hr
      have HPV := Lib.hid (HV.out p (List.mem_of_getElem? hp))
      clear hp hr
      go_wp2
      have K1 := Lib.hid (blk_new1 wo 26 #[.string (bs (p).name), .string (bs (p).ver), .slice (r).a1 (p).pre.length (r).c1, .slice (r).a2 (p).dep.length (r).c2, .slice (r).a3 (p).rcm.length (r).c3, .slice (r).a4 (p).con.length (r).c4, .slice (r).a5 (p).brk.length (r).c5, .slice (r).a6 (p).prv.length (r).c6, .bool (p).ess])
      have HB1 := Lib.hid (below_alloc HB.out (.cells #[.string (bs (p).name), .string (bs (p).ver), .slice (r).a1 (p).pre.length (r).c1, .slice (r).a2 (p).dep.length (r).c2, .slice (r).a3 (p).rcm.length (r).c3, .slice (r).a4 (p).con.length (r).c4, .slice (r).a5 (p).brk.length (r).c5, .slice (r).a6 (p).prv.length (r).c6, .bool (p).ess] 26))
      have HO1 := Lib.hid (HO.out.alloc (.cells #[.string (bs (p).name), .string (bs (p).ver), .slice (r).a1 (p).pre.length (r).c1, .slice (r).a2 (p).dep.length (r).c2, .slice (r).a3 (p).rcm.length (r).c3, .slice (r).a4 (p).con.length (r).c4, .slice (r).a5 (p).brk.length (r).c5, .slice (r).a6 (p).prv.length (r).c6, .bool (p).ess] 26))
      clear e0 e1 e2 e3 e4 e5 e6 e7 e8 HB HO
      generalize World.alloc _ _ = W at K1 HB1 HO1 ⊢
      generalize wo.heap.size = g at K1 ⊢
      obtain ⟨A2, c2, rfl, hps, hA2⟩ := Pkgs.of_own HO1.out HB1.out (by omega)
      have HA2 := Lib.hid hA2
      clear hA2
      have hbd2 := hps.bd
      have HPS := Lib.hid hps
      clear hps
      go_loopw [6] (fun i wr => ∃ j : Nat, j ≤ s.length ∧ i = .int .i64 j ∧ (∀ x ∈ s.take j, pLt p x = false) ∧ Below W.heap.size W wr) (fun i _ => s.length - (intOf i).toNat)
      case atStart => exact ⟨0, Nat.zero_le _, rfl, fun x hx => by simp at hx, Below.refl _ _⟩
      case round =>
        obtain ⟨j, hj, rfl, hjl, hb⟩ := hrel
        obtain ⟨wi, rfl⟩ : ∃ wi : World, wi = wr := ⟨_, rfl⟩
        have HBi := Lib.hid hb
        have HJ := Lib.hid hjl
        obtain ⟨c0, c1, c2', c3, c4, c5, c6, c7, c8⟩ := blk9 (K1.out.next hb)
        clear hb hjl c2' c3 c4 c5 c6 c7 c8
        have q0 := fun p : Be wi => Be.cell c0 p
        have q1 := fun p : Be wi => Be.cell c1 p
        clear c0 c1
        by_cases hjk : j < s.length
        · obtain ⟨x, b', o', t, hx, rfl, ht, f0, f1, f2, f3, f4, f5, f6, f7, f8⟩ := HPS.out.at_ hjk (Kept.of_below HBi.out)
          have HX := Lib.hid hx
          have HXV := Lib.hid (HSV.out x (List.mem_of_getElem? hx))
          clear hx ht f2 f3 f4 f5 f6 f7 f8
          have u0 := fun p : Be wi => Be.cell f0 p
          have u1 := fun p : Be wi => Be.cell f1 p
          clear f0 f1
          have hj0 : (0 : Int) ≤ (j : Int) := Int.natCast_nonneg _
          have hj1 : (j : Int) < (s.length : Int) := by omega
          have hjd : decide ((j : Int) < (s.length : Int)) = true := decide_eq_true hj1
          rcases hbl : Op.bytesLess x.name p.name
          · by_cases hne : x.name = p.name
            · have hnb : (x.name == p.name) = true := by simpa using hne
              have hlt0 := pLt_eq hne HPV.out HXV.out
              generalize hcv : (cmpV x.ver p.ver).1 = cv at hlt0
              have HCV := Lib.hid hcv
              have HLT := Lib.hid hlt0
              clear hne hlt0 hcv
              by_cases hc0 : cv < 0
              · have hge : decide (0 ≤ cv) = false := decide_eq_false (by omega)
                have HEX := Lib.hid (show s.length ≤ j ∨ ∃ x, s[j]? = some x ∧ pLt p x = true from .inr ⟨x, HX.out, by rw [HLT.out]; exact decide_eq_true hc0⟩)
                clear hc0
                go_wp2_with fail
                refine region_be (by kernel_rfl) (by kernel_rfl) ?_
                repeat (quiet_step (first | (go_at_call 68; with_reducible exact Calls.be_of ((rCompare_any _ _ _).mono fun _ _ h => ⟨h.1.trans (congrArg (fun b => Ending.returned (Value.int .i64 b)) HCV.out), h.2⟩))))
                refine wpQuiet_nil ?_
                intro _ hw'
                obtain ⟨pb, hw''⟩ := hw'
                subst hw''
                obtain ⟨W2, hbw⟩ := pb
                dsimp only
                have hj7 : (j : Int) ≤ (c2 : Int) := by omega
                have hj8 : ¬ c2 = j := by omega
                have HIN := Lib.hid (insR_at HJ.out HEX.out)
                have HB2 := Lib.hid (below_next HB1.out (below_next HBi.out hbw))
                have HO2 := Lib.hid (HO1.out.next (below_next HBi.out hbw))
                have K2 := Lib.hid (K1.out.next (below_next HBi.out hbw))
                clear hbw
                have htk : (s.take j).length = j := by rw [List.length_take]; omega
                have HTK := Lib.hid htk
                have HTD := Lib.hid (show (s.drop j).length = (s.length - j) by have h := List.length_drop (i := j) (l := s); omega)
                have HBy1 := Lib.hid (show (([] : List Pkg).length + (s.take j).length) * 184 ≤ 140737488355328 by simp; omega)
                have HBy2 := Lib.hid (show ((s.take j).length + 1) * 184 ≤ 140737488355328 by omega)
                have HBy3 := Lib.hid (show ((s.take j ++ [p]).length + (s.drop j).length) * 184 ≤ 140737488355328 by rw [List.length_append, List.length_drop, htk]; simp; omega)
                clear htk
                have HSW := Lib.hid (Own.slcOf (z := 184) HO2.out (by omega))
                have HS1 := Lib.hid (show Slc W2 9 184 (RPkg w) (some ⟨b', o', none⟩) c2 (s.take j) from (Slc.take HSW.out j))
                have HS2 := Lib.hid (show Slc W2 9 184 (RPkg w) (some ⟨b', o' + j * 9, none⟩) (c2 - j) (s.drop j) from (Slc.drop HSW.out j (by omega)))
                have hjt : ((j : Int)).toNat = j := Int.toNat_natCast _
                have hj5 : (0 : Int) ≤ (j : Int) := Int.natCast_nonneg _
                have hj6 : (j : Int) ≤ (s.length : Int) := by omega
                go_wp2_with fail
                have a0 := fun (w2 : World) (h : Hid (Below W2.heap.size W2 w2)) => (blk9 (K2.out.next h.out)).1
                have a1 := fun (w2 : World) (h : Hid (Below W2.heap.size W2 w2)) => (blk9 (K2.out.next h.out)).2.1
                have a2 := fun (w2 : World) (h : Hid (Below W2.heap.size W2 w2)) => (blk9 (K2.out.next h.out)).2.2.1
                have a3 := fun (w2 : World) (h : Hid (Below W2.heap.size W2 w2)) => (blk9 (K2.out.next h.out)).2.2.2.1
                have a4 := fun (w2 : World) (h : Hid (Below W2.heap.size W2 w2)) => (blk9 (K2.out.next h.out)).2.2.2.2.1
                have a5 := fun (w2 : World) (h : Hid (Below W2.heap.size W2 w2)) => (blk9 (K2.out.next h.out)).2.2.2.2.2.1
                have a6 := fun (w2 : World) (h : Hid (Below W2.heap.size W2 w2)) => (blk9 (K2.out.next h.out)).2.2.2.2.2.2.1
                have a7 := fun (w2 : World) (h : Hid (Below W2.heap.size W2 w2)) => (blk9 (K2.out.next h.out)).2.2.2.2.2.2.2.1
                have a8 := fun (w2 : World) (h : Hid (Below W2.heap.size W2 w2)) => (blk9 (K2.out.next h.out)).2.2.2.2.2.2.2.2
                go_region_held3 (fun w' => Hid (Below W2.heap.size W2 w')) (first | with_reducible assumption | exact hbC | exact hbB | exact hbA | exact Lib.hid (below_drewN (Below.refl _ _) 1) | (have hh := (by assumption : Hid (Below W2.heap.size W2 _)); exact Lib.hid (below_alloc hh.out _)))
                  (first | (have hh := (by assumption : Hid (Below W2.heap.size W2 _)); refine step_append_all (by rfl) _ _ 43 (by rfl) W2.heap.size 26 _ 9 184 184 Tryz.underlying43 infPkg' rfl (by omega) (RPkg w) _ [] (by rfl) (Own.nil_ _ _ _ _ _) (some ⟨b', o', none⟩) c2 (s.take j) (by rw [HTK.out]; rfl) (Slc.mono HS1.out (Kept.of_below hh.out) fun _ _ h => h) pkg_one HBy1.out (by omega) hh.out.size ?_; intro v1 y1 ho1 hg1; have hbA := Lib.hid ((Own.nil_ _ W2.heap.size 26 9 (RPkg w)).below hh.out hh.out.size hg1); rw [List.nil_append] at ho1) | (have hh := (by assumption : Hid (Below W2.heap.size W2 _)); refine step_append_el (by rfl) _ _ 43 (by rfl) W2.heap.size 26 _ 9 184 Tryz.underlying43 infPkg' rfl (by omega) (RPkg w) v1 (s.take j) (by rfl) (by first | exact ho1 | exact ho1.alloc _ | exact ho1.drew | exact (ho1.alloc _).drew | exact (ho1.drew).alloc _) p (encK r p) _ 1 (by rfl) (by first | exact Blk.new _ _ _ | exact blk_grown0 (blk_new1 W2 26 #[.string (bs (p).name), .string (bs (p).ver), .slice (r).a1 (p).pre.length (r).c1, .slice (r).a2 (p).dep.length (r).c2, .slice (r).a3 (p).rcm.length (r).c3, .slice (r).a4 (p).con.length (r).c4, .slice (r).a5 (p).brk.length (r).c5, .slice (r).a6 (p).prv.length (r).c6, .bool (p).ess]) hg1) ⟨r, rfl, HR.out⟩ rfl (encK_one _ _) HBy2.out (by omega) hh.out.size ?_; intro g2 cap2 y2 ho2 hg2; have hbB := Lib.hid (show Below W2.heap.size W2 y2 from by first | exact (ho1.alloc _).below hh.out hh.out.size hg2 | exact ho1.below hh.out hh.out.size hg2)) | (have hh := (by assumption : Hid (Below W2.heap.size W2 _)); refine step_append_all (by rfl) _ _ 43 (by rfl) W2.heap.size 26 _ 9 184 184 Tryz.underlying43 infPkg' rfl (by omega) (RPkg w) _ (s.take j ++ [p]) (by rfl) ho2 (some ⟨b', o' + j * 9, none⟩) (c2 - j) (s.drop j) (by first | (rw [HTD.out]; rfl) | (rw [show (s.drop j).length = s.length - j from List.length_drop ..]; rfl)) (Slc.mono HS2.out (Kept.of_below hh.out) fun _ _ h => h) pkg_one HBy3.out (by omega) hh.out.size ?_; intro v3 y3 ho3 hg3; have hbC := Lib.hid (ho2.below hh.out hh.out.size hg3)))
                clear a0 a1 a2 a3 a4 a5 a6 a7 a8
                all_goals go_wp2_with fail
                all_goals go_roundw
                all_goals first
                  | (case rel => exact ⟨k + 1, s.take j ++ p :: s.drop j, by omega, by simp, by rw [take_step HP.out, srt_snoc, ← HS.out, HIN.out], below_next HB2.out hbC.out, (by have h := ho3.down HB2.out.size; rw [List.append_assoc] at h; exact h)⟩)
                  | (case measure => (try simp only [intOf]); omega)
              · have hge : decide (0 ≤ cv) = true := decide_eq_true (by omega)
                have HLT := Lib.hid (HLT.out.trans (decide_eq_false hc0))
                clear hc0
                go_wp2_with fail
                refine region_be (by kernel_rfl) (by kernel_rfl) ?_
                repeat (quiet_step (first | (go_at_call 68; with_reducible exact Calls.be_of ((rCompare_any _ _ _).mono fun _ _ h => ⟨h.1.trans (congrArg (fun b => Ending.returned (Value.int .i64 b)) HCV.out), h.2⟩))))
                refine wpQuiet_nil ?_
                intro _ hw'
                obtain ⟨pb, hw''⟩ := hw'
                subst hw''
                obtain ⟨W2, hbw⟩ := pb
                dsimp only
                have HB2 := Lib.hid (below_next HBi.out hbw)
                clear hbw
                go_wp2
                go_roundw
                case rel => exact ⟨j + 1, by omega, by simp, fun z hz => (by
                  rw [take_step HX.out, List.mem_append, List.mem_singleton] at hz
                  rcases hz with hz | rfl
                  · exact HJ.out z hz
                  · exact HLT.out), HB2.out⟩
                case measure => (try simp only [intOf]); omega
            · have hnb : (x.name == p.name) = false := by simpa using hne
              have HEX := Lib.hid (show s.length ≤ j ∨ ∃ x, s[j]? = some x ∧ pLt p x = true from .inr ⟨x, HX.out, pLt_ne hbl hne⟩)
              clear hne
              go_wp2_with fail
              refine region_be (by kernel_rfl) (by kernel_rfl) ?_
              repeat (quiet_step (first | (go_at_call 68; with_reducible exact Calls.be_of ((rCompare_any _ _ _).mono fun _ _ h => ⟨h.1.trans (congrArg (fun b => Ending.returned (Value.int .i64 b)) HCV.out), h.2⟩))))
              refine wpQuiet_nil ?_
              intro _ hw'
              obtain ⟨pb, hw''⟩ := hw'
              subst hw''
              obtain ⟨W2, hbw⟩ := pb
              dsimp only
              have hj7 : (j : Int) ≤ (c2 : Int) := by omega
              have hj8 : ¬ c2 = j := by omega
              have HIN := Lib.hid (insR_at HJ.out HEX.out)
              have HB2 := Lib.hid (below_next HB1.out (below_next HBi.out hbw))
              have HO2 := Lib.hid (HO1.out.next (below_next HBi.out hbw))
              have K2 := Lib.hid (K1.out.next (below_next HBi.out hbw))
              clear hbw
              have htk : (s.take j).length = j := by rw [List.length_take]; omega
              have HTK := Lib.hid htk
              have HTD := Lib.hid (show (s.drop j).length = (s.length - j) by have h := List.length_drop (i := j) (l := s); omega)
              have HBy1 := Lib.hid (show (([] : List Pkg).length + (s.take j).length) * 184 ≤ 140737488355328 by simp; omega)
              have HBy2 := Lib.hid (show ((s.take j).length + 1) * 184 ≤ 140737488355328 by omega)
              have HBy3 := Lib.hid (show ((s.take j ++ [p]).length + (s.drop j).length) * 184 ≤ 140737488355328 by rw [List.length_append, List.length_drop, htk]; simp; omega)
              clear htk
              have HSW := Lib.hid (Own.slcOf (z := 184) HO2.out (by omega))
              have HS1 := Lib.hid (show Slc W2 9 184 (RPkg w) (some ⟨b', o', none⟩) c2 (s.take j) from (Slc.take HSW.out j))
              have HS2 := Lib.hid (show Slc W2 9 184 (RPkg w) (some ⟨b', o' + j * 9, none⟩) (c2 - j) (s.drop j) from (Slc.drop HSW.out j (by omega)))
              have hjt : ((j : Int)).toNat = j := Int.toNat_natCast _
              have hj5 : (0 : Int) ≤ (j : Int) := Int.natCast_nonneg _
              have hj6 : (j : Int) ≤ (s.length : Int) := by omega
              go_wp2_with fail
              have a0 := fun (w2 : World) (h : Hid (Below W2.heap.size W2 w2)) => (blk9 (K2.out.next h.out)).1
              have a1 := fun (w2 : World) (h : Hid (Below W2.heap.size W2 w2)) => (blk9 (K2.out.next h.out)).2.1
              have a2 := fun (w2 : World) (h : Hid (Below W2.heap.size W2 w2)) => (blk9 (K2.out.next h.out)).2.2.1
              have a3 := fun (w2 : World) (h : Hid (Below W2.heap.size W2 w2)) => (blk9 (K2.out.next h.out)).2.2.2.1
              have a4 := fun (w2 : World) (h : Hid (Below W2.heap.size W2 w2)) => (blk9 (K2.out.next h.out)).2.2.2.2.1
              have a5 := fun (w2 : World) (h : Hid (Below W2.heap.size W2 w2)) => (blk9 (K2.out.next h.out)).2.2.2.2.2.1
              have a6 := fun (w2 : World) (h : Hid (Below W2.heap.size W2 w2)) => (blk9 (K2.out.next h.out)).2.2.2.2.2.2.1
              have a7 := fun (w2 : World) (h : Hid (Below W2.heap.size W2 w2)) => (blk9 (K2.out.next h.out)).2.2.2.2.2.2.2.1
              have a8 := fun (w2 : World) (h : Hid (Below W2.heap.size W2 w2)) => (blk9 (K2.out.next h.out)).2.2.2.2.2.2.2.2
              go_region_held3 (fun w' => Hid (Below W2.heap.size W2 w')) (first | with_reducible assumption | exact hbC | exact hbB | exact hbA | exact Lib.hid (below_drewN (Below.refl _ _) 1) | (have hh := (by assumption : Hid (Below W2.heap.size W2 _)); exact Lib.hid (below_alloc hh.out _)))
                (first | (have hh := (by assumption : Hid (Below W2.heap.size W2 _)); refine step_append_all (by rfl) _ _ 43 (by rfl) W2.heap.size 26 _ 9 184 184 Tryz.underlying43 infPkg' rfl (by omega) (RPkg w) _ [] (by rfl) (Own.nil_ _ _ _ _ _) (some ⟨b', o', none⟩) c2 (s.take j) (by rw [HTK.out]; rfl) (Slc.mono HS1.out (Kept.of_below hh.out) fun _ _ h => h) pkg_one HBy1.out (by omega) hh.out.size ?_; intro v1 y1 ho1 hg1; have hbA := Lib.hid ((Own.nil_ _ W2.heap.size 26 9 (RPkg w)).below hh.out hh.out.size hg1); rw [List.nil_append] at ho1) | (have hh := (by assumption : Hid (Below W2.heap.size W2 _)); refine step_append_el (by rfl) _ _ 43 (by rfl) W2.heap.size 26 _ 9 184 Tryz.underlying43 infPkg' rfl (by omega) (RPkg w) v1 (s.take j) (by rfl) (by first | exact ho1 | exact ho1.alloc _ | exact ho1.drew | exact (ho1.alloc _).drew | exact (ho1.drew).alloc _) p (encK r p) _ 1 (by rfl) (by first | exact Blk.new _ _ _ | exact blk_grown0 (blk_new1 W2 26 #[.string (bs (p).name), .string (bs (p).ver), .slice (r).a1 (p).pre.length (r).c1, .slice (r).a2 (p).dep.length (r).c2, .slice (r).a3 (p).rcm.length (r).c3, .slice (r).a4 (p).con.length (r).c4, .slice (r).a5 (p).brk.length (r).c5, .slice (r).a6 (p).prv.length (r).c6, .bool (p).ess]) hg1) ⟨r, rfl, HR.out⟩ rfl (encK_one _ _) HBy2.out (by omega) hh.out.size ?_; intro g2 cap2 y2 ho2 hg2; have hbB := Lib.hid (show Below W2.heap.size W2 y2 from by first | exact (ho1.alloc _).below hh.out hh.out.size hg2 | exact ho1.below hh.out hh.out.size hg2)) | (have hh := (by assumption : Hid (Below W2.heap.size W2 _)); refine step_append_all (by rfl) _ _ 43 (by rfl) W2.heap.size 26 _ 9 184 184 Tryz.underlying43 infPkg' rfl (by omega) (RPkg w) _ (s.take j ++ [p]) (by rfl) ho2 (some ⟨b', o' + j * 9, none⟩) (c2 - j) (s.drop j) (by first | (rw [HTD.out]; rfl) | (rw [show (s.drop j).length = s.length - j from List.length_drop ..]; rfl)) (Slc.mono HS2.out (Kept.of_below hh.out) fun _ _ h => h) pkg_one HBy3.out (by omega) hh.out.size ?_; intro v3 y3 ho3 hg3; have hbC := Lib.hid (ho2.below hh.out hh.out.size hg3)))
              clear a0 a1 a2 a3 a4 a5 a6 a7 a8
              all_goals go_wp2_with fail
              all_goals go_roundw
              all_goals first
                | (case rel => exact ⟨k + 1, s.take j ++ p :: s.drop j, by omega, by simp, by rw [take_step HP.out, srt_snoc, ← HS.out, HIN.out], below_next HB2.out hbC.out, (by have h := ho3.down HB2.out.size; rw [List.append_assoc] at h; exact h)⟩)
                | (case measure => (try simp only [intOf]); omega)
          · have HLT := Lib.hid (pLt_bl hbl)
            go_wp2_with fail
            refine region_be (by kernel_rfl) (by kernel_rfl) ?_
            repeat (quiet_step (first | (go_at_call 68; with_reducible exact Calls.be_of ((rCompare_any _ _ _).mono fun _ _ h => ⟨h.1.trans (congrArg (fun b => Ending.returned (Value.int .i64 b)) HCV.out), h.2⟩))))
            refine wpQuiet_nil ?_
            intro _ hw'
            obtain ⟨pb, hw''⟩ := hw'
            subst hw''
            obtain ⟨W2, hbw⟩ := pb
            dsimp only
            have HB2 := Lib.hid (below_next HBi.out hbw)
            clear hbw
            go_wp2
            go_roundw
            case rel => exact ⟨j + 1, by omega, by simp, fun z hz => (by
              rw [take_step HX.out, List.mem_append, List.mem_singleton] at hz
              rcases hz with hz | rfl
              · exact HJ.out z hz
              · exact HLT.out), HB2.out⟩
            case measure => (try simp only [intOf]); omega
        · have hjd : decide ((j : Int) < (s.length : Int)) = false := decide_eq_false (by omega)
          have HEX := Lib.hid (show s.length ≤ j ∨ ∃ x, s[j]? = some x ∧ pLt p x = true from .inl (by omega))
          go_wp2_with fail
          refine region_be (by kernel_rfl) (by kernel_rfl) ?_
          repeat (quiet_step (first | (go_at_call 68; with_reducible exact Calls.be_of ((rCompare_any _ _ _).mono fun _ _ h => ⟨h.1.trans (congrArg (fun b => Ending.returned (Value.int .i64 b)) HCV.out), h.2⟩))))
          refine wpQuiet_nil ?_
          intro _ hw'
          obtain ⟨pb, hw''⟩ := hw'
          subst hw''
          obtain ⟨W2, hbw⟩ := pb
          dsimp only
          by_cases hcj : c2 = j
          · cases hcj
            obtain ⟨j, rfl⟩ : ∃ j' : Nat, j' = c2 := ⟨_, rfl⟩
            have hj7 : (j : Int) ≤ (j : Int) := by omega
            rcases A2 with _ | ad
            · have HIN := Lib.hid (insR_at HJ.out HEX.out)
              have HB2 := Lib.hid (below_next HB1.out (below_next HBi.out hbw))
              have HO2 := Lib.hid (HO1.out.next (below_next HBi.out hbw))
              have K2 := Lib.hid (K1.out.next (below_next HBi.out hbw))
              clear hbw
              have htk : (s.take j).length = j := by rw [List.length_take]; omega
              have HTK := Lib.hid htk
              have HTD := Lib.hid (show (s.drop j).length = 0 by have h := List.length_drop (i := j) (l := s); omega)
              have HBy1 := Lib.hid (show (([] : List Pkg).length + (s.take j).length) * 184 ≤ 140737488355328 by simp; omega)
              have HBy2 := Lib.hid (show ((s.take j).length + 1) * 184 ≤ 140737488355328 by omega)
              have HBy3 := Lib.hid (show ((s.take j ++ [p]).length + (s.drop j).length) * 184 ≤ 140737488355328 by rw [List.length_append, List.length_drop, htk]; simp; omega)
              clear htk
              have HSW := Lib.hid (Own.slcOf (z := 184) HO2.out (by omega))
              have HS1 := Lib.hid (show Slc W2 9 184 (RPkg w) none j (s.take j) from (Slc.take HSW.out j))
              have HS2 := Lib.hid (show Slc W2 9 184 (RPkg w) none 0 (s.drop j) from (Slc.dropEnd (by omega) (by omega)))
              have hjt : ((j : Int)).toNat = j := Int.toNat_natCast _
              have hj5 : (0 : Int) ≤ (j : Int) := Int.natCast_nonneg _
              have hj6 : (j : Int) ≤ (s.length : Int) := by omega
              go_wp2_with fail
              have a0 := fun (w2 : World) (h : Hid (Below W2.heap.size W2 w2)) => (blk9 (K2.out.next h.out)).1
              have a1 := fun (w2 : World) (h : Hid (Below W2.heap.size W2 w2)) => (blk9 (K2.out.next h.out)).2.1
              have a2 := fun (w2 : World) (h : Hid (Below W2.heap.size W2 w2)) => (blk9 (K2.out.next h.out)).2.2.1
              have a3 := fun (w2 : World) (h : Hid (Below W2.heap.size W2 w2)) => (blk9 (K2.out.next h.out)).2.2.2.1
              have a4 := fun (w2 : World) (h : Hid (Below W2.heap.size W2 w2)) => (blk9 (K2.out.next h.out)).2.2.2.2.1
              have a5 := fun (w2 : World) (h : Hid (Below W2.heap.size W2 w2)) => (blk9 (K2.out.next h.out)).2.2.2.2.2.1
              have a6 := fun (w2 : World) (h : Hid (Below W2.heap.size W2 w2)) => (blk9 (K2.out.next h.out)).2.2.2.2.2.2.1
              have a7 := fun (w2 : World) (h : Hid (Below W2.heap.size W2 w2)) => (blk9 (K2.out.next h.out)).2.2.2.2.2.2.2.1
              have a8 := fun (w2 : World) (h : Hid (Below W2.heap.size W2 w2)) => (blk9 (K2.out.next h.out)).2.2.2.2.2.2.2.2
              go_region_held3 (fun w' => Hid (Below W2.heap.size W2 w')) (first | with_reducible assumption | exact hbC | exact hbB | exact hbA | exact Lib.hid (below_drewN (Below.refl _ _) 1) | (have hh := (by assumption : Hid (Below W2.heap.size W2 _)); exact Lib.hid (below_alloc hh.out _)))
                (first | (have hh := (by assumption : Hid (Below W2.heap.size W2 _)); refine step_append_all (by rfl) _ _ 43 (by rfl) W2.heap.size 26 _ 9 184 184 Tryz.underlying43 infPkg' rfl (by omega) (RPkg w) _ [] (by rfl) (Own.nil_ _ _ _ _ _) none j (s.take j) (by rw [HTK.out]; rfl) (Slc.mono HS1.out (Kept.of_below hh.out) fun _ _ h => h) pkg_one HBy1.out (by omega) hh.out.size ?_; intro v1 y1 ho1 hg1; have hbA := Lib.hid ((Own.nil_ _ W2.heap.size 26 9 (RPkg w)).below hh.out hh.out.size hg1); rw [List.nil_append] at ho1) | (have hh := (by assumption : Hid (Below W2.heap.size W2 _)); refine step_append_el (by rfl) _ _ 43 (by rfl) W2.heap.size 26 _ 9 184 Tryz.underlying43 infPkg' rfl (by omega) (RPkg w) v1 (s.take j) (by rfl) (by first | exact ho1 | exact ho1.alloc _ | exact ho1.drew | exact (ho1.alloc _).drew | exact (ho1.drew).alloc _) p (encK r p) _ 1 (by rfl) (by first | exact Blk.new _ _ _ | exact blk_grown0 (blk_new1 W2 26 #[.string (bs (p).name), .string (bs (p).ver), .slice (r).a1 (p).pre.length (r).c1, .slice (r).a2 (p).dep.length (r).c2, .slice (r).a3 (p).rcm.length (r).c3, .slice (r).a4 (p).con.length (r).c4, .slice (r).a5 (p).brk.length (r).c5, .slice (r).a6 (p).prv.length (r).c6, .bool (p).ess]) hg1) ⟨r, rfl, HR.out⟩ rfl (encK_one _ _) HBy2.out (by omega) hh.out.size ?_; intro g2 cap2 y2 ho2 hg2; have hbB := Lib.hid (show Below W2.heap.size W2 y2 from by first | exact (ho1.alloc _).below hh.out hh.out.size hg2 | exact ho1.below hh.out hh.out.size hg2)) | (have hh := (by assumption : Hid (Below W2.heap.size W2 _)); refine step_append_all (by rfl) _ _ 43 (by rfl) W2.heap.size 26 _ 9 184 184 Tryz.underlying43 infPkg' rfl (by omega) (RPkg w) _ (s.take j ++ [p]) (by rfl) ho2 none 0 (s.drop j) (by first | (rw [HTD.out]; rfl) | (rw [show (s.drop j).length = s.length - j from List.length_drop ..]; rfl)) (Slc.mono HS2.out (Kept.of_below hh.out) fun _ _ h => h) pkg_one HBy3.out (by omega) hh.out.size ?_; intro v3 y3 ho3 hg3; have hbC := Lib.hid (ho2.below hh.out hh.out.size hg3)))
              clear a0 a1 a2 a3 a4 a5 a6 a7 a8
              all_goals go_wp2_with fail
              all_goals go_roundw
              all_goals first
                | (case rel => exact ⟨k + 1, s.take j ++ p :: s.drop j, by omega, by simp, by rw [take_step HP.out, srt_snoc, ← HS.out, HIN.out], below_next HB2.out hbC.out, (by have h := ho3.down HB2.out.size; rw [List.append_assoc] at h; exact h)⟩)
                | (case measure => (try simp only [intOf]); omega)
            · have HIN := Lib.hid (insR_at HJ.out HEX.out)
              have HB2 := Lib.hid (below_next HB1.out (below_next HBi.out hbw))
              have HO2 := Lib.hid (HO1.out.next (below_next HBi.out hbw))
              have K2 := Lib.hid (K1.out.next (below_next HBi.out hbw))
              clear hbw
              have htk : (s.take j).length = j := by rw [List.length_take]; omega
              have HTK := Lib.hid htk
              have HTD := Lib.hid (show (s.drop j).length = 0 by have h := List.length_drop (i := j) (l := s); omega)
              have HBy1 := Lib.hid (show (([] : List Pkg).length + (s.take j).length) * 184 ≤ 140737488355328 by simp; omega)
              have HBy2 := Lib.hid (show ((s.take j).length + 1) * 184 ≤ 140737488355328 by omega)
              have HBy3 := Lib.hid (show ((s.take j ++ [p]).length + (s.drop j).length) * 184 ≤ 140737488355328 by rw [List.length_append, List.length_drop, htk]; simp; omega)
              clear htk
              have HSW := Lib.hid (Own.slcOf (z := 184) HO2.out (by omega))
              have HS1 := Lib.hid (show Slc W2 9 184 (RPkg w) (some ad) j (s.take j) from (Slc.take HSW.out j))
              have HS2 := Lib.hid (show Slc W2 9 184 (RPkg w) (some ad) 0 (s.drop j) from (Slc.dropEnd (by omega) (by omega)))
              have hjt : ((j : Int)).toNat = j := Int.toNat_natCast _
              have hj5 : (0 : Int) ≤ (j : Int) := Int.natCast_nonneg _
              have hj6 : (j : Int) ≤ (s.length : Int) := by omega
              go_wp2_with fail
              have a0 := fun (w2 : World) (h : Hid (Below W2.heap.size W2 w2)) => (blk9 (K2.out.next h.out)).1
              have a1 := fun (w2 : World) (h : Hid (Below W2.heap.size W2 w2)) => (blk9 (K2.out.next h.out)).2.1
              have a2 := fun (w2 : World) (h : Hid (Below W2.heap.size W2 w2)) => (blk9 (K2.out.next h.out)).2.2.1
              have a3 := fun (w2 : World) (h : Hid (Below W2.heap.size W2 w2)) => (blk9 (K2.out.next h.out)).2.2.2.1
              have a4 := fun (w2 : World) (h : Hid (Below W2.heap.size W2 w2)) => (blk9 (K2.out.next h.out)).2.2.2.2.1
              have a5 := fun (w2 : World) (h : Hid (Below W2.heap.size W2 w2)) => (blk9 (K2.out.next h.out)).2.2.2.2.2.1
              have a6 := fun (w2 : World) (h : Hid (Below W2.heap.size W2 w2)) => (blk9 (K2.out.next h.out)).2.2.2.2.2.2.1
              have a7 := fun (w2 : World) (h : Hid (Below W2.heap.size W2 w2)) => (blk9 (K2.out.next h.out)).2.2.2.2.2.2.2.1
              have a8 := fun (w2 : World) (h : Hid (Below W2.heap.size W2 w2)) => (blk9 (K2.out.next h.out)).2.2.2.2.2.2.2.2
              go_region_held3 (fun w' => Hid (Below W2.heap.size W2 w')) (first | with_reducible assumption | exact hbC | exact hbB | exact hbA | exact Lib.hid (below_drewN (Below.refl _ _) 1) | (have hh := (by assumption : Hid (Below W2.heap.size W2 _)); exact Lib.hid (below_alloc hh.out _)))
                (first | (have hh := (by assumption : Hid (Below W2.heap.size W2 _)); refine step_append_all (by rfl) _ _ 43 (by rfl) W2.heap.size 26 _ 9 184 184 Tryz.underlying43 infPkg' rfl (by omega) (RPkg w) _ [] (by rfl) (Own.nil_ _ _ _ _ _) (some ad) j (s.take j) (by rw [HTK.out]; rfl) (Slc.mono HS1.out (Kept.of_below hh.out) fun _ _ h => h) pkg_one HBy1.out (by omega) hh.out.size ?_; intro v1 y1 ho1 hg1; have hbA := Lib.hid ((Own.nil_ _ W2.heap.size 26 9 (RPkg w)).below hh.out hh.out.size hg1); rw [List.nil_append] at ho1) | (have hh := (by assumption : Hid (Below W2.heap.size W2 _)); refine step_append_el (by rfl) _ _ 43 (by rfl) W2.heap.size 26 _ 9 184 Tryz.underlying43 infPkg' rfl (by omega) (RPkg w) v1 (s.take j) (by rfl) (by first | exact ho1 | exact ho1.alloc _ | exact ho1.drew | exact (ho1.alloc _).drew | exact (ho1.drew).alloc _) p (encK r p) _ 1 (by rfl) (by first | exact Blk.new _ _ _ | exact blk_grown0 (blk_new1 W2 26 #[.string (bs (p).name), .string (bs (p).ver), .slice (r).a1 (p).pre.length (r).c1, .slice (r).a2 (p).dep.length (r).c2, .slice (r).a3 (p).rcm.length (r).c3, .slice (r).a4 (p).con.length (r).c4, .slice (r).a5 (p).brk.length (r).c5, .slice (r).a6 (p).prv.length (r).c6, .bool (p).ess]) hg1) ⟨r, rfl, HR.out⟩ rfl (encK_one _ _) HBy2.out (by omega) hh.out.size ?_; intro g2 cap2 y2 ho2 hg2; have hbB := Lib.hid (show Below W2.heap.size W2 y2 from by first | exact (ho1.alloc _).below hh.out hh.out.size hg2 | exact ho1.below hh.out hh.out.size hg2)) | (have hh := (by assumption : Hid (Below W2.heap.size W2 _)); refine step_append_all (by rfl) _ _ 43 (by rfl) W2.heap.size 26 _ 9 184 184 Tryz.underlying43 infPkg' rfl (by omega) (RPkg w) _ (s.take j ++ [p]) (by rfl) ho2 (some ad) 0 (s.drop j) (by first | (rw [HTD.out]; rfl) | (rw [show (s.drop j).length = s.length - j from List.length_drop ..]; rfl)) (Slc.mono HS2.out (Kept.of_below hh.out) fun _ _ h => h) pkg_one HBy3.out (by omega) hh.out.size ?_; intro v3 y3 ho3 hg3; have hbC := Lib.hid (ho2.below hh.out hh.out.size hg3)))
              clear a0 a1 a2 a3 a4 a5 a6 a7 a8
              all_goals go_wp2_with fail
              all_goals go_roundw
              all_goals first
                | (case rel => exact ⟨k + 1, s.take j ++ p :: s.drop j, by omega, by simp, by rw [take_step HP.out, srt_snoc, ← HS.out, HIN.out], below_next HB2.out hbC.out, (by have h := ho3.down HB2.out.size; rw [List.append_assoc] at h; exact h)⟩)
                | (case measure => (try simp only [intOf]); omega)
          · rcases HA2.out with ⟨hA0, hA1, hA3⟩ | ⟨g3, hA0⟩
            · exact absurd (show c2 = j by subst hA3; simp at hj; omega) hcj
            · subst hA0
              have hj7 : (j : Int) ≤ (c2 : Int) := by omega
              have hj8 : ¬ c2 = j := hcj
              clear hcj
              have HIN := Lib.hid (insR_at HJ.out HEX.out)
              have HB2 := Lib.hid (below_next HB1.out (below_next HBi.out hbw))
              have HO2 := Lib.hid (HO1.out.next (below_next HBi.out hbw))
              have K2 := Lib.hid (K1.out.next (below_next HBi.out hbw))
              clear hbw
              have htk : (s.take j).length = j := by rw [List.length_take]; omega
              have HTK := Lib.hid htk
              have HTD := Lib.hid (show (s.drop j).length = 0 by have h := List.length_drop (i := j) (l := s); omega)
              have HBy1 := Lib.hid (show (([] : List Pkg).length + (s.take j).length) * 184 ≤ 140737488355328 by simp; omega)
              have HBy2 := Lib.hid (show ((s.take j).length + 1) * 184 ≤ 140737488355328 by omega)
              have HBy3 := Lib.hid (show ((s.take j ++ [p]).length + (s.drop j).length) * 184 ≤ 140737488355328 by rw [List.length_append, List.length_drop, htk]; simp; omega)
              clear htk
              have HSW := Lib.hid (Own.slcOf (z := 184) HO2.out (by omega))
              have HS1 := Lib.hid (show Slc W2 9 184 (RPkg w) (some ⟨g3, 0, none⟩) c2 (s.take j) from (Slc.take HSW.out j))
              have HS2 := Lib.hid (show Slc W2 9 184 (RPkg w) (some ⟨g3, j * 9, none⟩) (c2 - j) (s.drop j) from (Slc.drop0 HSW.out j (by omega)))
              have hjt : ((j : Int)).toNat = j := Int.toNat_natCast _
              have hj5 : (0 : Int) ≤ (j : Int) := Int.natCast_nonneg _
              have hj6 : (j : Int) ≤ (s.length : Int) := by omega
              go_wp2_with fail
              have a0 := fun (w2 : World) (h : Hid (Below W2.heap.size W2 w2)) => (blk9 (K2.out.next h.out)).1
              have a1 := fun (w2 : World) (h : Hid (Below W2.heap.size W2 w2)) => (blk9 (K2.out.next h.out)).2.1
              have a2 := fun (w2 : World) (h : Hid (Below W2.heap.size W2 w2)) => (blk9 (K2.out.next h.out)).2.2.1
              have a3 := fun (w2 : World) (h : Hid (Below W2.heap.size W2 w2)) => (blk9 (K2.out.next h.out)).2.2.2.1
              have a4 := fun (w2 : World) (h : Hid (Below W2.heap.size W2 w2)) => (blk9 (K2.out.next h.out)).2.2.2.2.1
              have a5 := fun (w2 : World) (h : Hid (Below W2.heap.size W2 w2)) => (blk9 (K2.out.next h.out)).2.2.2.2.2.1
              have a6 := fun (w2 : World) (h : Hid (Below W2.heap.size W2 w2)) => (blk9 (K2.out.next h.out)).2.2.2.2.2.2.1
              have a7 := fun (w2 : World) (h : Hid (Below W2.heap.size W2 w2)) => (blk9 (K2.out.next h.out)).2.2.2.2.2.2.2.1
              have a8 := fun (w2 : World) (h : Hid (Below W2.heap.size W2 w2)) => (blk9 (K2.out.next h.out)).2.2.2.2.2.2.2.2
              go_region_held3 (fun w' => Hid (Below W2.heap.size W2 w')) (first | with_reducible assumption | exact hbC | exact hbB | exact hbA | exact Lib.hid (below_drewN (Below.refl _ _) 1) | (have hh := (by assumption : Hid (Below W2.heap.size W2 _)); exact Lib.hid (below_alloc hh.out _)))
                (first | (have hh := (by assumption : Hid (Below W2.heap.size W2 _)); refine step_append_all (by rfl) _ _ 43 (by rfl) W2.heap.size 26 _ 9 184 184 Tryz.underlying43 infPkg' rfl (by omega) (RPkg w) _ [] (by rfl) (Own.nil_ _ _ _ _ _) (some ⟨g3, 0, none⟩) c2 (s.take j) (by rw [HTK.out]; rfl) (Slc.mono HS1.out (Kept.of_below hh.out) fun _ _ h => h) pkg_one HBy1.out (by omega) hh.out.size ?_; intro v1 y1 ho1 hg1; have hbA := Lib.hid ((Own.nil_ _ W2.heap.size 26 9 (RPkg w)).below hh.out hh.out.size hg1); rw [List.nil_append] at ho1) | (have hh := (by assumption : Hid (Below W2.heap.size W2 _)); refine step_append_el (by rfl) _ _ 43 (by rfl) W2.heap.size 26 _ 9 184 Tryz.underlying43 infPkg' rfl (by omega) (RPkg w) v1 (s.take j) (by rfl) (by first | exact ho1 | exact ho1.alloc _ | exact ho1.drew | exact (ho1.alloc _).drew | exact (ho1.drew).alloc _) p (encK r p) _ 1 (by rfl) (by first | exact Blk.new _ _ _ | exact blk_grown0 (blk_new1 W2 26 #[.string (bs (p).name), .string (bs (p).ver), .slice (r).a1 (p).pre.length (r).c1, .slice (r).a2 (p).dep.length (r).c2, .slice (r).a3 (p).rcm.length (r).c3, .slice (r).a4 (p).con.length (r).c4, .slice (r).a5 (p).brk.length (r).c5, .slice (r).a6 (p).prv.length (r).c6, .bool (p).ess]) hg1) ⟨r, rfl, HR.out⟩ rfl (encK_one _ _) HBy2.out (by omega) hh.out.size ?_; intro g2 cap2 y2 ho2 hg2; have hbB := Lib.hid (show Below W2.heap.size W2 y2 from by first | exact (ho1.alloc _).below hh.out hh.out.size hg2 | exact ho1.below hh.out hh.out.size hg2)) | (have hh := (by assumption : Hid (Below W2.heap.size W2 _)); refine step_append_all (by rfl) _ _ 43 (by rfl) W2.heap.size 26 _ 9 184 184 Tryz.underlying43 infPkg' rfl (by omega) (RPkg w) _ (s.take j ++ [p]) (by rfl) ho2 (some ⟨g3, j * 9, none⟩) (c2 - j) (s.drop j) (by first | (rw [HTD.out]; rfl) | (rw [show (s.drop j).length = s.length - j from List.length_drop ..]; rfl)) (Slc.mono HS2.out (Kept.of_below hh.out) fun _ _ h => h) pkg_one HBy3.out (by omega) hh.out.size ?_; intro v3 y3 ho3 hg3; have hbC := Lib.hid (ho2.below hh.out hh.out.size hg3)))
              clear a0 a1 a2 a3 a4 a5 a6 a7 a8
              all_goals go_wp2_with fail
              all_goals go_roundw
              all_goals first
                | (case rel => exact ⟨k + 1, s.take j ++ p :: s.drop j, by omega, by simp, by rw [take_step HP.out, srt_snoc, ← HS.out, HIN.out], below_next HB2.out hbC.out, (by have h := ho3.down HB2.out.size; rw [List.append_assoc] at h; exact h)⟩)
                | (case measure => (try simp only [intOf]); omega)
    · have ho := HO.out
      have hs2 := HS.out
      rw [take_end hk hlt] at hs2
      obtain ⟨A2, c2, rfl, hps, _⟩ := Pkgs.of_own ho HB.out (by omega)
      subst hs2
      have HPS := Lib.hid hps
      clear ho hps HO HS
      go_wp2
      go_ret
      exact ⟨A2, c2, rfl, HPS.out, HB.out⟩
end Go.Proofs.YtflmocamfedbdaaGreatDoor
namespace Go.Proofs.YtflmocamfedbdaaGreatDoor
set_option linter.unusedSimpArgs false
set_option linter.unusedVariables false
open Go.RowKit
attribute [local go_sem ↓] Go.wp_at_zero Go.wp_at_succ
attribute [local irreducible] wpQuiet

theorem insN_at {n : List UInt8} : ∀ {l : List (List UInt8)} {j : Nat}, (∀ x ∈ l.take j, Op.bytesLess x n = true) → (l.length ≤ j ∨ ∃ x, l[j]? = some x ∧ Op.bytesLess x n = false ∧ x ≠ n) → insN l n = l.take j ++ n :: l.drop j
  | [], j, _, _ => by simp [insN]
  | x :: l, 0, _, h => by
    rcases h with h | ⟨y, hy, h1, h2⟩
    · simp at h
    · simp at hy; subst hy; simp [insN, h1, h2]
  | x :: l, j + 1, h0, h => by
    have hx : Op.bytesLess x n = true := h0 x (by simp)
    have := insN_at (l := l) (j := j) (fun y hy => h0 y (by simp [hy])) (by
      rcases h with h | ⟨y, hy, h1, h2⟩
      · exact .inl (by simpa using h)
      · exact .inr ⟨y, by simpa using hy, h1, h2⟩)
    simp [insN, hx, this]
theorem bl_self (n : List UInt8) : Op.bytesLess n n = false := by
  rcases h : Op.bytesLess n n
  · rfl
  · have h1 : cmpB n n = -1 := by simp [cmpB, h]
    rw [cmpB_zero.2 rfl] at h1
    cases h1
theorem insN_in {n : List UInt8} : ∀ {l : List (List UInt8)} {j : Nat}, (∀ x ∈ l.take j, Op.bytesLess x n = true) → l[j]? = some n → insN l n = l
  | [], j, _, h => by simp at h
  | x :: l, 0, _, h => by
    simp at h; subst h; simp [insN, bl_self]
  | x :: l, j + 1, h0, h => by
    have hx : Op.bytesLess x n = true := h0 x (by simp)
    have := insN_in (l := l) (j := j) (fun y hy => h0 y (by simp [hy])) (by simpa using h)
    simp [insN, hx, this]
theorem nmR_snoc (l : List Pkg) (p : Pkg) : nmR (l ++ [p]) = insN (nmR l) p.name := by simp [nmR]
theorem insN_len (n : List UInt8) : ∀ l : List (List UInt8), (insN l n).length ≤ l.length + 1
  | [] => by simp [insN]
  | x :: l => by
    have := insN_len n l
    unfold insN
    split
    · simp; omega
    · split <;> simp
theorem nmR_len (l : List Pkg) : (nmR l).length ≤ l.length := by
  have : ∀ (l : List Pkg) (ns : List (List UInt8)), (l.foldl (fun ns p => insN ns p.name) ns).length ≤ ns.length + l.length := by
    intro l
    induction l with
    | nil => intro ns; simp
    | cons p l ih =>
      intro ns
      have h1 := ih (insN ns p.name)
      have h2 := insN_len p.name ns
      simp only [List.foldl_cons, List.length_cons]
      omega
  simpa [nmR] using this l []
theorem str_one : ∀ cs y, RStr cs y → ∀ u ∈ cs, u.oneCell' = true := fun cs y h u hu => by
  subst h
  simp at hu
  subst hu
  rfl
theorem Strs.of_own {W : World} {B : Nat} {v : Value} {l : List (List UInt8)} (h : Own W B 9 1 RStr v l) (hz : l.length * 16 ≤ 140737488351232) : ∃ A c, v = .slice A l.length c ∧ Strs W A c l ∧ ((A = none ∧ c = 0 ∧ l = []) ∨ ∃ g, A = some ⟨g, 0, none⟩) := by
  have hf := own_form h
  obtain ⟨A, c, h1, h2⟩ := h.slc (z := 16) hz
  refine ⟨A, c, h1, h2, ?_⟩
  rcases hf with ⟨hf, hl⟩ | ⟨g, cap, hf⟩
  · rw [hf] at h1
    injection h1 with h1 h3 h4
    exact .inl ⟨h1.symm, h4.symm, hl⟩
  · rw [hf] at h1
    injection h1 with h1 h3 h4
    exact .inr ⟨g, h1.symm⟩
theorem Slc.dropS {α : Type} {w : World} {z : Nat} {R : List Value → α → Prop} {b o c : Nat} {l : List α} (h : Slc w 1 z R (some ⟨b, o, none⟩) c l) (n : Nat) (hn : n ≤ l.length) : Slc w 1 z R (some ⟨b, o + n, none⟩) (c - n) (l.drop n) := by
  have := Slc.drop h n hn
  rwa [Nat.mul_one] at this
theorem Slc.dropS0 {α : Type} {w : World} {z : Nat} {R : List Value → α → Prop} {b c : Nat} {l : List α} (h : Slc w 1 z R (some ⟨b, 0, none⟩) c l) (n : Nat) (hn : n ≤ l.length) : Slc w 1 z R (some ⟨b, n, none⟩) (c - n) (l.drop n) := by
  have := Slc.drop0 h n hn
  rwa [Nat.mul_one] at this
set_option maxRecDepth 100000 in
set_option maxHeartbeats 4000000 in
theorem rNames_any (A : Option Addr) (c : Nat) (l : List Pkg) (w : World) (hl : Pkgs w A c l) (hn : l.length ≤ 1000) :
    Calls Tryz.prog 26 #[.slice A l.length c] w fun e w' => ∃ B d, e = .returned (.slice B (nmR l).length d) ∧ Strs w' B d (nmR l) ∧ Below w.heap.size w w' := by
  have hbd := hl.bd
  have HL := Lib.hid hl
  clear hl
  go_enter Tryz.func26, Tryz.ntmps26
  go_wp2
  go_loopw [3, 9] (fun v i wr => ∃ (k : Nat) (s : List (List UInt8)), k ≤ l.length ∧ i = .int .i64 k ∧ s = nmR (l.take k) ∧ Below w.heap.size w wr ∧ Own wr w.heap.size 9 1 RStr v s) (fun _ i _ => l.length - (intOf i).toNat)
  case atStart => exact ⟨0, [], Nat.zero_le _, rfl, rfl, Below.refl _ _, Own.nil_ _ _ _ _ _⟩
  case round =>
    obtain ⟨k, s, hk, rfl, hs, hb, ho⟩ := hrel
    obtain ⟨wo, rfl⟩ : ∃ wo : World, wo = wr := ⟨_, rfl⟩
    have hsk : s.length ≤ k := by
      have := nmR_len (l.take k)
      rw [hs]
      rw [List.length_take] at this
      omega
    have hsl : s.length ≤ 1000 := by omega
    have HS := Lib.hid hs
    have HSk := Lib.hid hsk
    have HB := Lib.hid hb
    have HO := Lib.hid ho
    clear hs hsk hb ho
    by_cases hlt : k < l.length
    · obtain ⟨p, b, o, r, hp, rfl, hr, e0, e1, e2, e3, e4, e5, e6, e7, e8⟩ := HL.out.at_ hlt (Kept.of_below HB.out)
      have HP := Lib.hid hp
      clear hp hr
      go_wp2
      have K1 := Lib.hid (blk_new1 wo 26 #[.string (bs (p).name), .string (bs (p).ver), .slice (r).a1 (p).pre.length (r).c1, .slice (r).a2 (p).dep.length (r).c2, .slice (r).a3 (p).rcm.length (r).c3, .slice (r).a4 (p).con.length (r).c4, .slice (r).a5 (p).brk.length (r).c5, .slice (r).a6 (p).prv.length (r).c6, .bool (p).ess])
      have HB1 := Lib.hid (below_alloc HB.out (.cells #[.string (bs (p).name), .string (bs (p).ver), .slice (r).a1 (p).pre.length (r).c1, .slice (r).a2 (p).dep.length (r).c2, .slice (r).a3 (p).rcm.length (r).c3, .slice (r).a4 (p).con.length (r).c4, .slice (r).a5 (p).brk.length (r).c5, .slice (r).a6 (p).prv.length (r).c6, .bool (p).ess] 26))
      have HO1 := Lib.hid (HO.out.alloc (.cells #[.string (bs (p).name), .string (bs (p).ver), .slice (r).a1 (p).pre.length (r).c1, .slice (r).a2 (p).dep.length (r).c2, .slice (r).a3 (p).rcm.length (r).c3, .slice (r).a4 (p).con.length (r).c4, .slice (r).a5 (p).brk.length (r).c5, .slice (r).a6 (p).prv.length (r).c6, .bool (p).ess] 26))
      clear e0 e1 e2 e3 e4 e5 e6 e7 e8 HB HO
      generalize World.alloc _ _ = W at K1 HB1 HO1 ⊢
      generalize wo.heap.size = g at K1 ⊢
      obtain ⟨A2, c2, rfl, hps, hA2⟩ := Strs.of_own HO1.out (by omega)
      have HA2 := Lib.hid hA2
      clear hA2
      have hbd2 := hps.bd
      have HPS := Lib.hid hps
      clear hps
      go_loopw [6] (fun i wr => ∃ j : Nat, j ≤ s.length ∧ i = .int .i64 j ∧ (∀ x ∈ s.take j, Op.bytesLess x p.name = true) ∧ Below W.heap.size W wr) (fun i _ => s.length - (intOf i).toNat)
      case atStart => exact ⟨0, Nat.zero_le _, rfl, fun x hx => by simp at hx, Below.refl _ _⟩
      case round =>
        obtain ⟨j, hj, rfl, hjl, hb⟩ := hrel
        obtain ⟨wi, rfl⟩ : ∃ wi : World, wi = wr := ⟨_, rfl⟩
        have HBi := Lib.hid hb
        have HJ := Lib.hid hjl
        obtain ⟨c0, c1, c2', c3, c4, c5, c6, c7, c8⟩ := blk9 (K1.out.next hb)
        clear hb hjl c1 c2' c3 c4 c5 c6 c7 c8
        have q0 := fun p : Be wi => Be.cell c0 p
        clear c0
        by_cases hjk : j < s.length
        · obtain ⟨x, b', o', hx, rfl, f0⟩ := HPS.out.at_ hjk (Kept.of_below HBi.out)
          have HX := Lib.hid hx
          clear hx
          have u0 := fun p : Be wi => Be.cell f0 p
          have F0 := Lib.hid f0
          clear f0
          have hj0 : (0 : Int) ≤ (j : Int) := Int.natCast_nonneg _
          have hj1 : (j : Int) < (s.length : Int) := by omega
          have hjd : decide ((j : Int) < (s.length : Int)) = true := decide_eq_true hj1
          have hje : decide ((j : Int) = (s.length : Int)) = false := decide_eq_false (by omega)
          have hje2 : ((j : Int) == (s.length : Int)) = false := by simp; omega
          rcases hbl : Op.bytesLess x p.name
          · by_cases hne : x = p.name
            · subst hne
              have HEX := Lib.hid (insN_in HJ.out HX.out)
              have hnb : (p.name == p.name) = true := by simp
              go_wp2_with fail
              refine region_be (by kernel_rfl) (by kernel_rfl) ?_
              repeat (quiet_step (fail))
              refine wpQuiet_nil ?_
              intro _ hw'
              obtain ⟨pb, hw''⟩ := hw'
              subst hw''
              obtain ⟨W1, hbw⟩ := pb
              dsimp only
              have f0 := Kept.of_below hbw _ _ F0.out
              clear u0
              have HBi := Lib.hid (below_next HBi.out hbw)
              clear hbw q0
              obtain ⟨c0, c1, c2', c3, c4, c5, c6, c7, c8⟩ := blk9 (K1.out.next HBi.out)
              clear c1 c2' c3 c4 c5 c6 c7 c8
              have q0 := fun p : Be W1 => Be.cell c0 p
              clear c0
              have u0 := fun p : Be W1 => Be.cell f0 p
              clear f0
              go_wp2_with fail
              refine region_be (by kernel_rfl) (by kernel_rfl) ?_
              repeat (quiet_step (fail))
              refine wpQuiet_nil ?_
              intro _ hw'
              obtain ⟨pb, hw''⟩ := hw'
              subst hw''
              obtain ⟨W2, hbw⟩ := pb
              dsimp only
              have HB2 := Lib.hid (below_next HB1.out (below_next HBi.out hbw))
              have HO2 := Lib.hid (HO1.out.next (below_next HBi.out hbw))
              clear hbw
              go_wp2
              go_roundw
              case rel => exact ⟨k + 1, s, by omega, by simp, by rw [take_step HP.out, nmR_snoc, ← HS.out, HEX.out], HB2.out, HO2.out⟩
              case measure => (try simp only [intOf]); omega
            · have hnb : (x == p.name) = false := by simpa using hne
              have HEX := Lib.hid (show s.length ≤ j ∨ ∃ x, s[j]? = some x ∧ Op.bytesLess x p.name = false ∧ x ≠ p.name from .inr ⟨x, HX.out, hbl, hne⟩)
              clear hne
              go_wp2_with fail
              refine region_be (by kernel_rfl) (by kernel_rfl) ?_
              repeat (quiet_step (fail))
              refine wpQuiet_nil ?_
              intro _ hw'
              obtain ⟨pb, hw''⟩ := hw'
              subst hw''
              obtain ⟨W1, hbw⟩ := pb
              dsimp only
              have f0 := Kept.of_below hbw _ _ F0.out
              clear u0
              have HBi := Lib.hid (below_next HBi.out hbw)
              clear hbw q0
              obtain ⟨c0, c1, c2', c3, c4, c5, c6, c7, c8⟩ := blk9 (K1.out.next HBi.out)
              clear c1 c2' c3 c4 c5 c6 c7 c8
              have q0 := fun p : Be W1 => Be.cell c0 p
              clear c0
              have u0 := fun p : Be W1 => Be.cell f0 p
              clear f0
              go_wp2_with fail
              refine region_be (by kernel_rfl) (by kernel_rfl) ?_
              repeat (quiet_step (fail))
              refine wpQuiet_nil ?_
              intro _ hw'
              obtain ⟨pb, hw''⟩ := hw'
              subst hw''
              obtain ⟨W2, hbw⟩ := pb
              dsimp only
              have hj7 : (j : Int) ≤ (c2 : Int) := by omega
              have hj8 : ¬ c2 = j := by omega
              have HIN := Lib.hid (insN_at HJ.out HEX.out)
              have HB2 := Lib.hid (below_next HB1.out (below_next HBi.out hbw))
              have HO2 := Lib.hid (HO1.out.next (below_next HBi.out hbw))
              have K2 := Lib.hid (K1.out.next (below_next HBi.out hbw))
              clear hbw
              have htk : (s.take j).length = j := by rw [List.length_take]; omega
              have HTK := Lib.hid htk
              have HTD := Lib.hid (show (s.drop j).length = (s.length - j) by have h := List.length_drop (i := j) (l := s); omega)
              have HBy1 := Lib.hid (show (([] : List (List UInt8)).length + (s.take j).length) * 16 ≤ 140737488355328 by simp; omega)
              have HBy2 := Lib.hid (show ((s.take j).length + 1) * 16 ≤ 140737488355328 by omega)
              have HBy3 := Lib.hid (show ((s.take j ++ [p.name]).length + (s.drop j).length) * 16 ≤ 140737488355328 by rw [List.length_append, List.length_drop, htk]; simp; omega)
              clear htk
              have HSW := Lib.hid (Own.slcOf (z := 16) HO2.out (by omega))
              have HS1 := Lib.hid (show Slc W2 1 16 RStr (some ⟨b', o', none⟩) c2 (s.take j) from (Slc.take HSW.out j))
              have HS2 := Lib.hid (show Slc W2 1 16 RStr (some ⟨b', o' + j, none⟩) (c2 - j) (s.drop j) from (Slc.dropS HSW.out j (by omega)))
              have hjt : ((j : Int)).toNat = j := Int.toNat_natCast _
              have hj5 : (0 : Int) ≤ (j : Int) := Int.natCast_nonneg _
              have hj6 : (j : Int) ≤ (s.length : Int) := by omega
              go_wp2_with fail
              have a0 := fun (w2 : World) (h : Hid (Below W2.heap.size W2 w2)) => (blk9 (K2.out.next h.out)).1
              go_region_held3 (fun w' => Hid (Below W2.heap.size W2 w')) (first | with_reducible assumption | exact hbC | exact hbB | exact hbA | exact Lib.hid (below_drewN (Below.refl _ _) 1) | (have hh := (by assumption : Hid (Below W2.heap.size W2 _)); exact Lib.hid (below_alloc hh.out _)))
                (first | (have hh := (by assumption : Hid (Below W2.heap.size W2 _)); refine step_append_all (by rfl) _ _ 51 (by rfl) W2.heap.size 9 _ 1 16 16 Tryz.underlying51 infStr' rfl (by omega) RStr _ [] (by rfl) (Own.nil_ _ _ _ _ _) (some ⟨b', o', none⟩) c2 (s.take j) (by rw [HTK.out]; rfl) (Slc.mono HS1.out (Kept.of_below hh.out) fun _ _ h => h) str_one HBy1.out (by omega) hh.out.size ?_; intro v1 y1 ho1 hg1; have hbA := Lib.hid ((Own.nil_ _ W2.heap.size 9 1 RStr).below hh.out hh.out.size hg1); rw [List.nil_append] at ho1) | (have hh := (by assumption : Hid (Below W2.heap.size W2 _)); refine step_append_el (by rfl) _ _ 51 (by rfl) W2.heap.size 9 _ 1 16 Tryz.underlying51 infStr' rfl (by omega) RStr v1 (s.take j) (by rfl) (by first | exact ho1 | exact ho1.alloc _ | exact ho1.drew | exact (ho1.alloc _).drew | exact (ho1.drew).alloc _) p.name [.string (bs p.name)] _ 1 (by rfl) (by first | exact Blk.new _ _ _ | exact blk_grown0 (blk_new1 W2 9 #[.string (bs p.name)]) hg1) rfl rfl (by simp [Value.oneCell']) HBy2.out (by omega) hh.out.size ?_; intro g2 cap2 y2 ho2 hg2; have hbB := Lib.hid (show Below W2.heap.size W2 y2 from by first | exact (ho1.alloc _).below hh.out hh.out.size hg2 | exact ho1.below hh.out hh.out.size hg2)) | (have hh := (by assumption : Hid (Below W2.heap.size W2 _)); refine step_append_all (by rfl) _ _ 51 (by rfl) W2.heap.size 9 _ 1 16 16 Tryz.underlying51 infStr' rfl (by omega) RStr _ (s.take j ++ [p.name]) (by rfl) ho2 (some ⟨b', o' + j, none⟩) (c2 - j) (s.drop j) (by first | (rw [HTD.out]; rfl) | (rw [show (s.drop j).length = s.length - j from List.length_drop ..]; rfl)) (Slc.mono HS2.out (Kept.of_below hh.out) fun _ _ h => h) str_one HBy3.out (by omega) hh.out.size ?_; intro v3 y3 ho3 hg3; have hbC := Lib.hid (ho2.below hh.out hh.out.size hg3)))
              clear a0
              all_goals go_wp2_with fail
              all_goals go_roundw
              all_goals first
                | (case rel => exact ⟨k + 1, s.take j ++ p.name :: s.drop j, by omega, by simp, by rw [take_step HP.out, nmR_snoc, ← HS.out, HIN.out], below_next HB2.out hbC.out, (by have h := ho3.down HB2.out.size; rw [List.append_assoc] at h; exact h)⟩)
                | (case measure => (try simp only [intOf]); omega)
          · have HLT := Lib.hid hbl
            go_wp2_with fail
            refine region_be (by kernel_rfl) (by kernel_rfl) ?_
            repeat (quiet_step (fail))
            refine wpQuiet_nil ?_
            intro _ hw'
            obtain ⟨pb, hw''⟩ := hw'
            subst hw''
            obtain ⟨W2, hbw⟩ := pb
            dsimp only
            have HB2 := Lib.hid (below_next HBi.out hbw)
            clear hbw
            go_wp2
            go_roundw
            case rel => exact ⟨j + 1, by omega, by simp, fun z hz => (by
              rw [take_step HX.out, List.mem_append, List.mem_singleton] at hz
              rcases hz with hz | rfl
              · exact HJ.out z hz
              · exact HLT.out), HB2.out⟩
            case measure => (try simp only [intOf]); omega
        · have hjd : decide ((j : Int) < (s.length : Int)) = false := decide_eq_false (by omega)
          have hje : decide ((j : Int) = (s.length : Int)) = true := decide_eq_true (by omega)
          have hje2 : ((j : Int) == (s.length : Int)) = true := by simp; omega
          have HEX := Lib.hid (show s.length ≤ j ∨ ∃ x, s[j]? = some x ∧ Op.bytesLess x p.name = false ∧ x ≠ p.name from .inl (by omega))
          go_wp2_with fail
          refine region_be (by kernel_rfl) (by kernel_rfl) ?_
          repeat (quiet_step (fail))
          refine wpQuiet_nil ?_
          intro _ hw'
          obtain ⟨pb, hw''⟩ := hw'
          subst hw''
          obtain ⟨W1, hbw⟩ := pb
          dsimp only
          have HBi := Lib.hid (below_next HBi.out hbw)
          clear hbw q0
          obtain ⟨c0, c1, c2', c3, c4, c5, c6, c7, c8⟩ := blk9 (K1.out.next HBi.out)
          clear c1 c2' c3 c4 c5 c6 c7 c8
          have q0 := fun p : Be W1 => Be.cell c0 p
          clear c0
          go_wp2_with fail
          refine region_be (by kernel_rfl) (by kernel_rfl) ?_
          repeat (quiet_step (fail))
          refine wpQuiet_nil ?_
          intro _ hw'
          obtain ⟨pb, hw''⟩ := hw'
          subst hw''
          obtain ⟨W2, hbw⟩ := pb
          dsimp only
          by_cases hcj : c2 = j
          · cases hcj
            obtain ⟨j, rfl⟩ : ∃ j' : Nat, j' = c2 := ⟨_, rfl⟩
            have hj7 : (j : Int) ≤ (j : Int) := by omega
            rcases A2 with _ | ad
            · have HIN := Lib.hid (insN_at HJ.out HEX.out)
              have HB2 := Lib.hid (below_next HB1.out (below_next HBi.out hbw))
              have HO2 := Lib.hid (HO1.out.next (below_next HBi.out hbw))
              have K2 := Lib.hid (K1.out.next (below_next HBi.out hbw))
              clear hbw
              have htk : (s.take j).length = j := by rw [List.length_take]; omega
              have HTK := Lib.hid htk
              have HTD := Lib.hid (show (s.drop j).length = 0 by have h := List.length_drop (i := j) (l := s); omega)
              have HBy1 := Lib.hid (show (([] : List (List UInt8)).length + (s.take j).length) * 16 ≤ 140737488355328 by simp; omega)
              have HBy2 := Lib.hid (show ((s.take j).length + 1) * 16 ≤ 140737488355328 by omega)
              have HBy3 := Lib.hid (show ((s.take j ++ [p.name]).length + (s.drop j).length) * 16 ≤ 140737488355328 by rw [List.length_append, List.length_drop, htk]; simp; omega)
              clear htk
              have HSW := Lib.hid (Own.slcOf (z := 16) HO2.out (by omega))
              have HS1 := Lib.hid (show Slc W2 1 16 RStr none j (s.take j) from (Slc.take HSW.out j))
              have HS2 := Lib.hid (show Slc W2 1 16 RStr none 0 (s.drop j) from (Slc.dropEnd (by omega) (by omega)))
              have hjt : ((j : Int)).toNat = j := Int.toNat_natCast _
              have hj5 : (0 : Int) ≤ (j : Int) := Int.natCast_nonneg _
              have hj6 : (j : Int) ≤ (s.length : Int) := by omega
              go_wp2_with fail
              have a0 := fun (w2 : World) (h : Hid (Below W2.heap.size W2 w2)) => (blk9 (K2.out.next h.out)).1
              go_region_held3 (fun w' => Hid (Below W2.heap.size W2 w')) (first | with_reducible assumption | exact hbC | exact hbB | exact hbA | exact Lib.hid (below_drewN (Below.refl _ _) 1) | (have hh := (by assumption : Hid (Below W2.heap.size W2 _)); exact Lib.hid (below_alloc hh.out _)))
                (first | (have hh := (by assumption : Hid (Below W2.heap.size W2 _)); refine step_append_all (by rfl) _ _ 51 (by rfl) W2.heap.size 9 _ 1 16 16 Tryz.underlying51 infStr' rfl (by omega) RStr _ [] (by rfl) (Own.nil_ _ _ _ _ _) none j (s.take j) (by rw [HTK.out]; rfl) (Slc.mono HS1.out (Kept.of_below hh.out) fun _ _ h => h) str_one HBy1.out (by omega) hh.out.size ?_; intro v1 y1 ho1 hg1; have hbA := Lib.hid ((Own.nil_ _ W2.heap.size 9 1 RStr).below hh.out hh.out.size hg1); rw [List.nil_append] at ho1) | (have hh := (by assumption : Hid (Below W2.heap.size W2 _)); refine step_append_el (by rfl) _ _ 51 (by rfl) W2.heap.size 9 _ 1 16 Tryz.underlying51 infStr' rfl (by omega) RStr v1 (s.take j) (by rfl) (by first | exact ho1 | exact ho1.alloc _ | exact ho1.drew | exact (ho1.alloc _).drew | exact (ho1.drew).alloc _) p.name [.string (bs p.name)] _ 1 (by rfl) (by first | exact Blk.new _ _ _ | exact blk_grown0 (blk_new1 W2 9 #[.string (bs p.name)]) hg1) rfl rfl (by simp [Value.oneCell']) HBy2.out (by omega) hh.out.size ?_; intro g2 cap2 y2 ho2 hg2; have hbB := Lib.hid (show Below W2.heap.size W2 y2 from by first | exact (ho1.alloc _).below hh.out hh.out.size hg2 | exact ho1.below hh.out hh.out.size hg2)) | (have hh := (by assumption : Hid (Below W2.heap.size W2 _)); refine step_append_all (by rfl) _ _ 51 (by rfl) W2.heap.size 9 _ 1 16 16 Tryz.underlying51 infStr' rfl (by omega) RStr _ (s.take j ++ [p.name]) (by rfl) ho2 none 0 (s.drop j) (by first | (rw [HTD.out]; rfl) | (rw [show (s.drop j).length = s.length - j from List.length_drop ..]; rfl)) (Slc.mono HS2.out (Kept.of_below hh.out) fun _ _ h => h) str_one HBy3.out (by omega) hh.out.size ?_; intro v3 y3 ho3 hg3; have hbC := Lib.hid (ho2.below hh.out hh.out.size hg3)))
              clear a0
              all_goals go_wp2_with fail
              all_goals go_roundw
              all_goals first
                | (case rel => exact ⟨k + 1, s.take j ++ p.name :: s.drop j, by omega, by simp, by rw [take_step HP.out, nmR_snoc, ← HS.out, HIN.out], below_next HB2.out hbC.out, (by have h := ho3.down HB2.out.size; rw [List.append_assoc] at h; exact h)⟩)
                | (case measure => (try simp only [intOf]); omega)
            · have HIN := Lib.hid (insN_at HJ.out HEX.out)
              have HB2 := Lib.hid (below_next HB1.out (below_next HBi.out hbw))
              have HO2 := Lib.hid (HO1.out.next (below_next HBi.out hbw))
              have K2 := Lib.hid (K1.out.next (below_next HBi.out hbw))
              clear hbw
              have htk : (s.take j).length = j := by rw [List.length_take]; omega
              have HTK := Lib.hid htk
              have HTD := Lib.hid (show (s.drop j).length = 0 by have h := List.length_drop (i := j) (l := s); omega)
              have HBy1 := Lib.hid (show (([] : List (List UInt8)).length + (s.take j).length) * 16 ≤ 140737488355328 by simp; omega)
              have HBy2 := Lib.hid (show ((s.take j).length + 1) * 16 ≤ 140737488355328 by omega)
              have HBy3 := Lib.hid (show ((s.take j ++ [p.name]).length + (s.drop j).length) * 16 ≤ 140737488355328 by rw [List.length_append, List.length_drop, htk]; simp; omega)
              clear htk
              have HSW := Lib.hid (Own.slcOf (z := 16) HO2.out (by omega))
              have HS1 := Lib.hid (show Slc W2 1 16 RStr (some ad) j (s.take j) from (Slc.take HSW.out j))
              have HS2 := Lib.hid (show Slc W2 1 16 RStr (some ad) 0 (s.drop j) from (Slc.dropEnd (by omega) (by omega)))
              have hjt : ((j : Int)).toNat = j := Int.toNat_natCast _
              have hj5 : (0 : Int) ≤ (j : Int) := Int.natCast_nonneg _
              have hj6 : (j : Int) ≤ (s.length : Int) := by omega
              go_wp2_with fail
              have a0 := fun (w2 : World) (h : Hid (Below W2.heap.size W2 w2)) => (blk9 (K2.out.next h.out)).1
              go_region_held3 (fun w' => Hid (Below W2.heap.size W2 w')) (first | with_reducible assumption | exact hbC | exact hbB | exact hbA | exact Lib.hid (below_drewN (Below.refl _ _) 1) | (have hh := (by assumption : Hid (Below W2.heap.size W2 _)); exact Lib.hid (below_alloc hh.out _)))
                (first | (have hh := (by assumption : Hid (Below W2.heap.size W2 _)); refine step_append_all (by rfl) _ _ 51 (by rfl) W2.heap.size 9 _ 1 16 16 Tryz.underlying51 infStr' rfl (by omega) RStr _ [] (by rfl) (Own.nil_ _ _ _ _ _) (some ad) j (s.take j) (by rw [HTK.out]; rfl) (Slc.mono HS1.out (Kept.of_below hh.out) fun _ _ h => h) str_one HBy1.out (by omega) hh.out.size ?_; intro v1 y1 ho1 hg1; have hbA := Lib.hid ((Own.nil_ _ W2.heap.size 9 1 RStr).below hh.out hh.out.size hg1); rw [List.nil_append] at ho1) | (have hh := (by assumption : Hid (Below W2.heap.size W2 _)); refine step_append_el (by rfl) _ _ 51 (by rfl) W2.heap.size 9 _ 1 16 Tryz.underlying51 infStr' rfl (by omega) RStr v1 (s.take j) (by rfl) (by first | exact ho1 | exact ho1.alloc _ | exact ho1.drew | exact (ho1.alloc _).drew | exact (ho1.drew).alloc _) p.name [.string (bs p.name)] _ 1 (by rfl) (by first | exact Blk.new _ _ _ | exact blk_grown0 (blk_new1 W2 9 #[.string (bs p.name)]) hg1) rfl rfl (by simp [Value.oneCell']) HBy2.out (by omega) hh.out.size ?_; intro g2 cap2 y2 ho2 hg2; have hbB := Lib.hid (show Below W2.heap.size W2 y2 from by first | exact (ho1.alloc _).below hh.out hh.out.size hg2 | exact ho1.below hh.out hh.out.size hg2)) | (have hh := (by assumption : Hid (Below W2.heap.size W2 _)); refine step_append_all (by rfl) _ _ 51 (by rfl) W2.heap.size 9 _ 1 16 16 Tryz.underlying51 infStr' rfl (by omega) RStr _ (s.take j ++ [p.name]) (by rfl) ho2 (some ad) 0 (s.drop j) (by first | (rw [HTD.out]; rfl) | (rw [show (s.drop j).length = s.length - j from List.length_drop ..]; rfl)) (Slc.mono HS2.out (Kept.of_below hh.out) fun _ _ h => h) str_one HBy3.out (by omega) hh.out.size ?_; intro v3 y3 ho3 hg3; have hbC := Lib.hid (ho2.below hh.out hh.out.size hg3)))
              clear a0
              all_goals go_wp2_with fail
              all_goals go_roundw
              all_goals first
                | (case rel => exact ⟨k + 1, s.take j ++ p.name :: s.drop j, by omega, by simp, by rw [take_step HP.out, nmR_snoc, ← HS.out, HIN.out], below_next HB2.out hbC.out, (by have h := ho3.down HB2.out.size; rw [List.append_assoc] at h; exact h)⟩)
                | (case measure => (try simp only [intOf]); omega)
          · rcases HA2.out with ⟨hA0, hA1, hA3⟩ | ⟨g3, hA0⟩
            · exact absurd (show c2 = j by subst hA3; simp at hj; omega) hcj
            · subst hA0
              have hj7 : (j : Int) ≤ (c2 : Int) := by omega
              have hj8 : ¬ c2 = j := hcj
              clear hcj
              have HIN := Lib.hid (insN_at HJ.out HEX.out)
              have HB2 := Lib.hid (below_next HB1.out (below_next HBi.out hbw))
              have HO2 := Lib.hid (HO1.out.next (below_next HBi.out hbw))
              have K2 := Lib.hid (K1.out.next (below_next HBi.out hbw))
              clear hbw
              have htk : (s.take j).length = j := by rw [List.length_take]; omega
              have HTK := Lib.hid htk
              have HTD := Lib.hid (show (s.drop j).length = 0 by have h := List.length_drop (i := j) (l := s); omega)
              have HBy1 := Lib.hid (show (([] : List (List UInt8)).length + (s.take j).length) * 16 ≤ 140737488355328 by simp; omega)
              have HBy2 := Lib.hid (show ((s.take j).length + 1) * 16 ≤ 140737488355328 by omega)
              have HBy3 := Lib.hid (show ((s.take j ++ [p.name]).length + (s.drop j).length) * 16 ≤ 140737488355328 by rw [List.length_append, List.length_drop, htk]; simp; omega)
              clear htk
              have HSW := Lib.hid (Own.slcOf (z := 16) HO2.out (by omega))
              have HS1 := Lib.hid (show Slc W2 1 16 RStr (some ⟨g3, 0, none⟩) c2 (s.take j) from (Slc.take HSW.out j))
              have HS2 := Lib.hid (show Slc W2 1 16 RStr (some ⟨g3, j, none⟩) (c2 - j) (s.drop j) from (Slc.dropS0 HSW.out j (by omega)))
              have hjt : ((j : Int)).toNat = j := Int.toNat_natCast _
              have hj5 : (0 : Int) ≤ (j : Int) := Int.natCast_nonneg _
              have hj6 : (j : Int) ≤ (s.length : Int) := by omega
              go_wp2_with fail
              have a0 := fun (w2 : World) (h : Hid (Below W2.heap.size W2 w2)) => (blk9 (K2.out.next h.out)).1
              go_region_held3 (fun w' => Hid (Below W2.heap.size W2 w')) (first | with_reducible assumption | exact hbC | exact hbB | exact hbA | exact Lib.hid (below_drewN (Below.refl _ _) 1) | (have hh := (by assumption : Hid (Below W2.heap.size W2 _)); exact Lib.hid (below_alloc hh.out _)))
                (first | (have hh := (by assumption : Hid (Below W2.heap.size W2 _)); refine step_append_all (by rfl) _ _ 51 (by rfl) W2.heap.size 9 _ 1 16 16 Tryz.underlying51 infStr' rfl (by omega) RStr _ [] (by rfl) (Own.nil_ _ _ _ _ _) (some ⟨g3, 0, none⟩) c2 (s.take j) (by rw [HTK.out]; rfl) (Slc.mono HS1.out (Kept.of_below hh.out) fun _ _ h => h) str_one HBy1.out (by omega) hh.out.size ?_; intro v1 y1 ho1 hg1; have hbA := Lib.hid ((Own.nil_ _ W2.heap.size 9 1 RStr).below hh.out hh.out.size hg1); rw [List.nil_append] at ho1) | (have hh := (by assumption : Hid (Below W2.heap.size W2 _)); refine step_append_el (by rfl) _ _ 51 (by rfl) W2.heap.size 9 _ 1 16 Tryz.underlying51 infStr' rfl (by omega) RStr v1 (s.take j) (by rfl) (by first | exact ho1 | exact ho1.alloc _ | exact ho1.drew | exact (ho1.alloc _).drew | exact (ho1.drew).alloc _) p.name [.string (bs p.name)] _ 1 (by rfl) (by first | exact Blk.new _ _ _ | exact blk_grown0 (blk_new1 W2 9 #[.string (bs p.name)]) hg1) rfl rfl (by simp [Value.oneCell']) HBy2.out (by omega) hh.out.size ?_; intro g2 cap2 y2 ho2 hg2; have hbB := Lib.hid (show Below W2.heap.size W2 y2 from by first | exact (ho1.alloc _).below hh.out hh.out.size hg2 | exact ho1.below hh.out hh.out.size hg2)) | (have hh := (by assumption : Hid (Below W2.heap.size W2 _)); refine step_append_all (by rfl) _ _ 51 (by rfl) W2.heap.size 9 _ 1 16 16 Tryz.underlying51 infStr' rfl (by omega) RStr _ (s.take j ++ [p.name]) (by rfl) ho2 (some ⟨g3, j, none⟩) (c2 - j) (s.drop j) (by first | (rw [HTD.out]; rfl) | (rw [show (s.drop j).length = s.length - j from List.length_drop ..]; rfl)) (Slc.mono HS2.out (Kept.of_below hh.out) fun _ _ h => h) str_one HBy3.out (by omega) hh.out.size ?_; intro v3 y3 ho3 hg3; have hbC := Lib.hid (ho2.below hh.out hh.out.size hg3)))
              clear a0
              all_goals go_wp2_with fail
              all_goals go_roundw
              all_goals first
                | (case rel => exact ⟨k + 1, s.take j ++ p.name :: s.drop j, by omega, by simp, by rw [take_step HP.out, nmR_snoc, ← HS.out, HIN.out], below_next HB2.out hbC.out, (by have h := ho3.down HB2.out.size; rw [List.append_assoc] at h; exact h)⟩)
                | (case measure => (try simp only [intOf]); omega)
    · have ho := HO.out
      have hs2 := HS.out
      rw [take_end hk hlt] at hs2
      obtain ⟨A2, c2, rfl, hps, _⟩ := Strs.of_own ho (by omega)
      subst hs2
      have HPS := Lib.hid hps
      clear ho hps HO HS
      go_wp2
      go_ret
      exact ⟨A2, c2, rfl, HPS.out, HB.out⟩
end Go.Proofs.YtflmocamfedbdaaGreatDoor
namespace Go.Proofs.YtflmocamfedbdaaGreatDoor
set_option linter.unusedSimpArgs false
set_option linter.unusedVariables false
open Go.RowKit

def isB (l : List Pkg) (q : Pkg) (j : Nat) : Bool := (l.take j).any fun x => decide (x.name = q.name)
theorem isB_step {l : List Pkg} {q x : Pkg} {j : Nat} (hx : l[j]? = some x) : isB l q (j + 1) = (isB l q j || decide (x.name = q.name)) := by
  unfold isB
  rw [take_step hx, List.any_append]
  simp
theorem isB_nms {l : List Pkg} {q : Pkg} {k : Nat} : (nmsS (l.take k)).contains q.name = isB l q k := nms_has
set_option maxRecDepth 100000 in
set_option maxHeartbeats 1000000 in
theorem rmayAll_any (A : Option Addr) (c : Nat) (l : List Pkg) (w : World) (hl : Pkgs w A c l) :
    Calls Tryz.prog 21 #[.slice A l.length c] w fun e w' => e = .returned (.int .i64 (mayAllE l)) ∧ Below w.heap.size w w' := by
  have hbd := hl.bd
  have HL := Lib.hid hl
  clear hl
  by_cases h24 : (24 : Int) < (l.length : Int)
  · go_enter Tryz.func21, Tryz.ntmps21
    go_wp2
    go_ret
    exact ⟨by rw [mayAll_many (by omega)]; rfl, Below.refl _ _⟩
  · have H24 := Lib.hid h24
    go_enter Tryz.func21, Tryz.ntmps21
    go_wp2
    go_loopw [17] (fun i wr => ∃ k : Nat, k ≤ l.length ∧ i = .int .i64 k ∧ Below w.heap.size w wr ∧ ∀ q ∈ l.take k, mayE q = 0) (fun i _ => l.length - (intOf i).toNat)
    case atStart => exact ⟨0, Nat.zero_le _, rfl, Below.refl _ _, fun q hq => by simp at hq⟩
    case round =>
      obtain ⟨k, hk, rfl, hb, hn⟩ := hrel
      obtain ⟨wo, rfl⟩ : ∃ wo : World, wo = wr := ⟨_, rfl⟩
      have HB := Lib.hid hb
      have HN := Lib.hid hn
      clear hb hn
      by_cases hlt : k < l.length
      · obtain ⟨q, b, o, r, hq, rfl, hr, e0, e1, e2, e3, e4, e5, e6, e7, e8⟩ := HL.out.at_ hlt (Kept.of_below HB.out)
        have HQ := Lib.hid hq
        have HR := Lib.hid hr
        clear hq hr
        generalize hE : mayE q = E
        have HE := Lib.hid hE
        clear hE
        by_cases hE0 : E = 0
        · subst hE0
          go_wp2_with fail
          refine (rmay_any q r _ (HR.out.kept ((Kept.of_below HB.out).trans (Kept.alloc _ _)))).mono ?_
          rintro e w1 ⟨rfl, hb1⟩
          rw [HE.out]
          clear e0 e1 e2 e3 e4 e5 e6 e7 e8
          go_wp2
          go_roundw
          case rel => exact ⟨k + 1, by omega, by simp, below_next (below_alloc HB.out _) hb1, may_step HN.out HQ.out HE.out⟩
          case measure => (try simp only [intOf]); omega
        · have hEb : (E != 0) = true := by rw [bne_iff_ne]; exact hE0
          go_wp2_with fail
          refine (rmay_any q r _ (HR.out.kept ((Kept.of_below HB.out).trans (Kept.alloc _ _)))).mono ?_
          rintro e w1 ⟨rfl, hb1⟩
          rw [HE.out]
          clear e0 e1 e2 e3 e4 e5 e6 e7 e8
          go_wp2
          go_ret
          refine ⟨?_, below_next (below_alloc HB.out _) hb1⟩
          rw [mayAll_err (by have := H24.out; omega) HN.out HQ.out (by rw [HE.out]; exact hE0), HE.out]; rfl
      · have hT := HN.out
        rw [take_end hk hlt] at hT
        have HT := Lib.hid hT
        clear hT HN
        have HBo := HB
        clear HB
        go_wp2
        clear hlt hk
        go_loopw [6, 29] (fun v i wr => ∃ (k : Nat) (ns : List (List UInt8)), k ≤ l.length ∧ i = .int .i64 k ∧ ns = nmsS (l.take k) ∧ Below w.heap.size w wr ∧ Own wr w.heap.size 9 1 RStr v ns ∧ dupT l k = false) (fun _ i _ => l.length - (intOf i).toNat)
        case atStart => exact ⟨0, [], Nat.zero_le _, rfl, rfl, HBo.out, Own.nil_ _ _ _ _ _, rfl⟩
        case round =>
          clear HBo
          obtain ⟨k, ns, hk, rfl, hns, hb, ho, hd⟩ := hrel
          obtain ⟨wo, rfl⟩ : ∃ wo : World, wo = wr := ⟨_, rfl⟩
          have hnl : ns.length ≤ k := by
            have := nms_le (l.take k)
            rw [← hns, List.length_take] at this
            omega
          have HB := Lib.hid hb
          have HNS := Lib.hid hns
          have HD := Lib.hid hd
          have HO := Lib.hid ho
          obtain ⟨A2, c2, hv2, _⟩ := ho.slc (z := 16) (by have := H24.out; omega)
          have HV2 := Lib.hid hv2
          clear hb hns ho hd hv2
          by_cases hlt : k < l.length
          · obtain ⟨q, b, o, r, hq, rfl, hr, e0, e1, e2, e3, e4, e5, e6, e7, e8⟩ := HL.out.at_ hlt (Kept.of_below HB.out)
            have HQ := Lib.hid hq
            have hi0 : (0 : Int) ≤ (k : Int) := Int.natCast_nonneg _
            have hi1 : (k : Int) ≤ (l.length : Int) := by omega
            have hi2 : (k : Int) ≤ (c : Int) := by omega
            have htn : ((k : Int)).toNat = k := Int.toNat_natCast _
            clear hq hr
            go_wp2
            have K1 := Lib.hid (blk_new1 wo 26 #[.string (bs (q).name), .string (bs (q).ver), .slice (r).a1 (q).pre.length (r).c1, .slice (r).a2 (q).dep.length (r).c2, .slice (r).a3 (q).rcm.length (r).c3, .slice (r).a4 (q).con.length (r).c4, .slice (r).a5 (q).brk.length (r).c5, .slice (r).a6 (q).prv.length (r).c6, .bool (q).ess])
            have HB1 := Lib.hid (below_alloc HB.out (.cells #[.string (bs (q).name), .string (bs (q).ver), .slice (r).a1 (q).pre.length (r).c1, .slice (r).a2 (q).dep.length (r).c2, .slice (r).a3 (q).rcm.length (r).c3, .slice (r).a4 (q).con.length (r).c4, .slice (r).a5 (q).brk.length (r).c5, .slice (r).a6 (q).prv.length (r).c6, .bool (q).ess] 26))
            have HO1 := Lib.hid (HO.out.alloc (.cells #[.string (bs (q).name), .string (bs (q).ver), .slice (r).a1 (q).pre.length (r).c1, .slice (r).a2 (q).dep.length (r).c2, .slice (r).a3 (q).rcm.length (r).c3, .slice (r).a4 (q).con.length (r).c4, .slice (r).a5 (q).brk.length (r).c5, .slice (r).a6 (q).prv.length (r).c6, .bool (q).ess] 26))
            clear e0 e1 e2 e3 e4 e5 e6 e7 e8 HB HO
            generalize World.alloc _ _ = W at K1 HB1 HO1 ⊢
            generalize wo.heap.size = g at K1 ⊢
            go_loopw [9, 38] (fun t i wr => ∃ j : Nat, j ≤ k ∧ i = .int .i64 j ∧ t = .bool (isB l q j) ∧ (l.take j).any (dupB q) = false ∧ Below W.heap.size W wr) (fun _ i _ => k - (intOf i).toNat)
            case atStart => exact ⟨0, Nat.zero_le _, rfl, rfl, rfl, Below.refl _ _⟩
            case round =>
              obtain ⟨j, hj, rfl, rfl, hdj, hb⟩ := hrel
              obtain ⟨wi, rfl⟩ : ∃ wi : World, wi = wr := ⟨_, rfl⟩
              have HBi := Lib.hid hb
              have HDJ := Lib.hid hdj
              obtain ⟨c0, c1, c2, c3, c4, c5, c6, c7, c8⟩ := blk9 (K1.out.next hb)
              clear c2 c3 c4 c5 c6 c7 c8
              have hgl := (K1.out.next hb).lt
              clear hb hdj
              by_cases hjk : j < k
              · obtain ⟨x, b', o', s, hx, hA, hs, f0, f1, f2, f3, f4, f5, f6, f7, f8⟩ := HL.out.at_ (by omega : j < l.length) (Kept.of_below (below_next HB1.out HBi.out))
                injection hA with hA
                injection hA with hA1 hA2
                subst hA1 hA2
                have HX := Lib.hid hx
                clear hx hs
                have hj0 : (0 : Int) ≤ (j : Int) := Int.natCast_nonneg _
                have hj1 : (j : Int) < (k : Int) := by omega
                by_cases hnm : x.name = q.name
                · have hnb : (x.name == q.name) = true := by simpa using hnm
                  generalize hsv : sameV x.ver q.ver = sv
                  have HSV := Lib.hid hsv
                  have HI := Lib.hid (show isB l q (j + 1) = true by rw [isB_step HX.out]; simp [hnm])
                  have HDB := Lib.hid (show dupB q x = sv by unfold dupB; simp [hnm, hsv])
                  clear hsv hnm
                  go_wp2_with fail
                  refine (rSameVersion_any _ _ _).mono ?_
                  rintro e w3 ⟨rfl, hb3⟩
                  rw [HSV.out]
                  have HB3 := Lib.hid (below_next (below_alloc HBi.out _) hb3)
                  clear hb3 f0 f1 f2 f3 f4 f5 f6 f7 f8
                  rcases sv
                  · go_wp2
                    go_roundw
                    case rel => exact ⟨j + 1, by omega, by simp, by rw [HI.out], any_step HX.out HDB.out HDJ.out, HB3.out⟩
                    case measure => (try simp only [intOf]); omega
                  · go_wp2
                    go_ret
                    refine ⟨?_, below_next HB1.out HB3.out⟩
                    rw [mayAll_dup (k := k) (by have := H24.out; omega) HT.out HQ.out (List.any_eq_true.2 ⟨x, List.mem_of_getElem? (i := j) (by rw [List.getElem?_take_of_lt hjk]; exact HX.out), HDB.out⟩)]
                    rfl
                · have hnb : (x.name == q.name) = false := by simpa using hnm
                  have HI := Lib.hid (show isB l q (j + 1) = isB l q j by rw [isB_step HX.out]; simp [hnm])
                  have HDB := Lib.hid (show dupB q x = false by unfold dupB; simp [hnm])
                  clear hnm
                  go_wp2
                  go_roundw
                  case rel => exact ⟨j + 1, by omega, by simp, by rw [HI.out], any_step HX.out HDB.out HDJ.out, below_alloc HBi.out _⟩
                  case measure => (try simp only [intOf]); omega
              · obtain rfl : j = k := by omega
                have HD2 := Lib.hid (show dupT l (j + 1) = false by rw [dupT_step HQ.out, HD.out, HDJ.out]; rfl)
                have HO2 := Lib.hid (HO1.out.next HBi.out)
                have HB2 := Lib.hid (below_next HB1.out HBi.out)
                rcases hc : isB l q j
                · have HC := Lib.hid (isB_nms.trans hc)
                  clear hc
                  go_wp2_with (at_builtin; refine wpList_append_el (by rfl) _ _ 51 (by rfl) w.heap.size 9 _ 1 16 Tryz.underlying51 infStr' rfl (by omega) RStr _ ns (by rfl) (HO2.out.alloc _) q.name [.string (bs q.name)] wi.heap.size 1 (by rfl) (Blk.new _ _ _) rfl rfl (by simp [Value.oneCell']) (by have := H24.out; omega) (by omega) (by simp; have := HB2.out.size; omega) ?_; intro g' cap w4 ho4 hg4)
                  have hb4 := (HO2.out.alloc _).below (below_alloc HB2.out _) (by simp; have := HB2.out.size; omega) hg4
                  go_roundw
                  case rel => exact ⟨j + 1, ns ++ [q.name], by omega, by simp, by rw [nms_step HQ.out, ← HNS.out, nmsF, HNS.out, HC.out]; rfl, hb4, ho4, HD2.out⟩
                  case measure => (try simp only [intOf]); omega
                · have HC := Lib.hid (isB_nms.trans hc)
                  clear hc
                  go_wp2
                  go_roundw
                  case rel => exact ⟨j + 1, ns, by omega, by simp, by rw [nms_step HQ.out, ← HNS.out, nmsF, HNS.out, HC.out]; rfl, HB2.out, HO2.out, HD2.out⟩
                  case measure => (try simp only [intOf]); omega
          · have HE := Lib.hid (show mayAllE l = if 10 < ns.length then 12 else 0 by
              rw [HNS.out, take_end hk hlt]
              refine mayAll_end (by have := H24.out; omega) HT.out ?_
              have := HD.out
              rwa [show k = l.length by omega] at this)
            obtain rfl := HV2.out
            by_cases h10 : (10 : Int) < (ns.length : Int)
            · go_wp2
              go_ret
              exact ⟨by rw [HE.out, if_pos (by omega)]; rfl, HB.out⟩
            · go_wp2
              go_ret
              exact ⟨by rw [HE.out, if_neg (by omega)]; rfl, HB.out⟩
end Go.Proofs.YtflmocamfedbdaaGreatDoor
