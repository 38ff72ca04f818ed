/- The contract of record.MayAll. -/
import Derived.Test.YtflmocamfedbdaaGreatDoorMaC
import Derived.Test.YtflmocamfedbdaaGreatDoorMlP
import Derived.Test.YtflmocamfedbdaaGreatDoorNl
namespace Go.Proofs.YtflmocamfedbdaaGreatDoor
set_option linter.unusedSimpArgs false
set_option linter.unusedVariables false
open Go.RowKit

theorem Pkgs.takeM {w : World} {A : Option Addr} {c : Nat} {l : List Pkg} (h : Pkgs w A c l) (n : Nat) : Pkgs w A c (l.take n) := by
  obtain ⟨h1, h2, h3, h4⟩ := h
  have hle : (l.take n).length ≤ l.length := by simp; omega
  refine ⟨by omega, h2, Nat.le_trans (Nat.mul_le_mul_right _ hle) h3, fun h0 => ?_⟩
  obtain ⟨b, o, hA, hx⟩ := h4 (by omega)
  refine ⟨b, o, hA, fun i x hi => hx i x ?_⟩
  rw [List.getElem?_take] at hi
  split at hi
  · exact hi
  · cases hi
set_option maxRecDepth 100000 in
theorem mdup_any (p x : Pkg) (r s : Raw) (g : Nat) (w : World) (hB : Blk w g 26 #[.string (bs (p).name), .string (bs (p).ver), .slice (r).a1 (p).pre.length (r).c1, .slice (r).a2 (p).dep.length (r).c2, .slice (r).a3 (p).rcm.length (r).c3, .slice (r).a4 (p).con.length (r).c4, .slice (r).a5 (p).brk.length (r).c5, .slice (r).a6 (p).prv.length (r).c6, .bool (p).ess]) :
    Calls Tryz.prog 101 #[(.agg #[.string (bs (x).name), .string (bs (x).ver), .slice (s).a1 (x).pre.length (s).c1, .slice (s).a2 (x).dep.length (s).c2, .slice (s).a3 (x).rcm.length (s).c3, .slice (s).a4 (x).con.length (s).c4, .slice (s).a5 (x).brk.length (s).c5, .slice (s).a6 (x).prv.length (s).c6, .bool (x).ess]), .pointer (some ⟨g, 0, none⟩)] w fun e w' => e = .returned (.bool (dupB p x)) ∧ Below w.heap.size w w' := by
  obtain ⟨c0, c1, c2, c3, c4, c5, c6, c7, c8⟩ := blk9 hB
  have hg : g < w.heap.size := hB.lt
  clear hB c2 c3 c4 c5 c6 c7 c8
  by_cases hn : x.name = p.name
  · have HD := Lib.hid (show dupB p x = sameV x.ver p.ver by simp [dupB, hn])
    rw [← hn] at c0
    clear hn
    go_enter Tryz.func101, Tryz.ntmps101
    go_wp2_with (go_at_call 74; refine (Same_any x.ver p.ver _).mono ?_; rintro e w1 ⟨rfl, hb⟩)
    go_ret
    exact ⟨by rw [HD.out]; rfl, by (repeat (first | assumption | exact Below.refl _ _ | refine below_next ?_ (by assumption) | refine below_drewN ?_ _ | refine below_alloc ?_ _))⟩
  · have HD := Lib.hid (show dupB p x = false by simp [dupB, hn])
    have hne : (x.name == p.name) = false := by simpa using hn
    clear hn
    go_enter Tryz.func101, Tryz.ntmps101
    go_wp2
    go_ret
    exact ⟨by rw [HD.out]; rfl, by (repeat (first | assumption | exact Below.refl _ _ | refine below_next ?_ (by assumption) | refine below_drewN ?_ _ | refine below_alloc ?_ _))⟩
set_option maxRecDepth 100000 in
theorem idxD_any (p : Pkg) (r : Raw) (A : Option Addr) (c : Nat) (l : List Pkg) (g : Nat) (w : World) (hl : Pkgs w A c l) (hB : Blk w g 26 #[.string (bs (p).name), .string (bs (p).ver), .slice (r).a1 (p).pre.length (r).c1, .slice (r).a2 (p).dep.length (r).c2, .slice (r).a3 (p).rcm.length (r).c3, .slice (r).a4 (p).con.length (r).c4, .slice (r).a5 (p).brk.length (r).c5, .slice (r).a6 (p).prv.length (r).c6, .bool (p).ess]) :
    Calls Tryz.prog 122 #[.slice A l.length c, .func (.func 101) #[] #[.pointer (some ⟨g, 0, none⟩)]] w fun e w' => e = .returned (.int .i64 (idxS (dupB p) l)) ∧ Below w.heap.size w w' := by
  have hbd := hl.bd
  have HL := Lib.hid hl
  have HG := Lib.hid hB
  clear hl hB
  go_enter Tryz.func122, Tryz.ntmps122
  go_wp2
  go_loopw [8] (fun i wr => ∃ k : Nat, k ≤ l.length ∧ i = .int .i64 k ∧ Below w.heap.size w wr ∧ (l.take k).any (dupB p) = false) (fun i _ => l.length - (intOf i).toNat)
  case atStart => exact ⟨0, Nat.zero_le _, rfl, Below.refl _ _, rfl⟩
  case round =>
    obtain ⟨k, hk, rfl, hb, hn⟩ := hrel
    have HB := Lib.hid hb
    have HN := Lib.hid hn
    clear hb hn
    by_cases hlt : k < l.length
    · obtain ⟨q, b, o, s, hq, rfl, hs, e0, e1, e2, e3, e4, e5, e6, e7, e8⟩ := HL.out.at_ hlt (Kept.of_below HB.out)
      clear hs
      have HBk := Lib.hid (HG.out.next HB.out)
      have HQ := Lib.hid hq
      clear hq
      go_wp2_with (go_at_call 101; refine (mdup_any p q r s _ _ HBk.out).mono ?_; rintro e w1 ⟨rfl, hb⟩)
      · go_ret
        exact ⟨by rw [idx_at HQ.out (by assumption) HN.out]; rfl, by have hb0 := HB.out; (repeat (first | assumption | exact Below.refl _ _ | refine below_next ?_ (by assumption) | refine below_drewN ?_ _ | refine below_alloc ?_ _))⟩
      · go_roundw
        case rel => exact ⟨k + 1, by omega, by simp, by have hb0 := HB.out; (repeat (first | assumption | exact Below.refl _ _ | refine below_next ?_ (by assumption) | refine below_drewN ?_ _ | refine below_alloc ?_ _)), any_step HQ.out (by assumption) HN.out⟩
        case measure => (try simp only [intOf]); omega
    · go_wp2
      go_ret
      exact ⟨by rw [idx_no (any_end hk hlt HN.out)]; rfl, HB.out⟩
set_option maxRecDepth 100000 in
theorem conD_any (p : Pkg) (r : Raw) (A : Option Addr) (c n : Nat) (l : List Pkg) (g : Nat) (w : World) (hl : Pkgs w A c l) (hn : l.length = n) (hB : Blk w g 26 #[.string (bs (p).name), .string (bs (p).ver), .slice (r).a1 (p).pre.length (r).c1, .slice (r).a2 (p).dep.length (r).c2, .slice (r).a3 (p).rcm.length (r).c3, .slice (r).a4 (p).con.length (r).c4, .slice (r).a5 (p).brk.length (r).c5, .slice (r).a6 (p).prv.length (r).c6, .bool (p).ess]) :
    Calls Tryz.prog 100 #[.slice A n c, .func (.func 101) #[] #[.pointer (some ⟨g, 0, none⟩)]] w fun e w' => e = .returned (.bool (l.any (dupB p))) ∧ Below w.heap.size w w' := by
  subst hn
  have HI := Lib.hid (idx_any (p := dupB p) (l := l))
  go_enter Tryz.func100, Tryz.ntmps100
  go_wp2_with (go_at_call 122; refine (idxD_any p r _ _ _ _ _ hl hB).mono ?_; rintro e w1 ⟨rfl, hb⟩)
  go_ret
  exact ⟨by rw [← HI.out]; rfl, by (repeat (first | assumption | exact Below.refl _ _ | refine below_next ?_ (by assumption) | refine below_drewN ?_ _ | refine below_alloc ?_ _))⟩
set_option maxRecDepth 100000 in
set_option maxHeartbeats 1000000 in
theorem mayAll_any (A : Option Addr) (c : Nat) (l : List Pkg) (w : World) (hl : Pkgs w A c l) (hf : ∀ p ∈ l, fewR p) :
    Calls Tryz.prog 60 #[.slice A l.length c] w fun e w' => e = .returned (.int .i64 (mayAllE l)) ∧ Below w.heap.size w w' := by
  have hbd := hl.bd
  have HL := Lib.hid hl
  have HF := Lib.hid hf
  clear hl hf
  have hmf : ∀ (fn : Fn) (first cap : Array Value) (w : World), (Instr.makeFunc fn first cap).run Tryz.prog w = .ok (.func fn first cap) w := fun _ _ _ _ => rfl
  by_cases h24 : (24 : Int) < (l.length : Int)
  · go_enter Tryz.func60, Tryz.ntmps60
    go_wp2
    go_ret
    exact ⟨by rw [mayAll_many (by omega)]; rfl, Below.refl _ _⟩
  · have H24 := Lib.hid h24
    go_enter Tryz.func60, Tryz.ntmps60
    go_wp2
    go_loopw [14] (fun i wr => ∃ k : Nat, k ≤ l.length ∧ i = .int .i64 k ∧ Below w.heap.size w wr ∧ ∀ q ∈ l.take k, mayE q = 0) (fun i _ => l.length - (intOf i).toNat)
    case atStart => exact ⟨0, Nat.zero_le _, rfl, Below.refl _ _, fun q hq => by simp at hq⟩
    case round =>
      obtain ⟨k, hk, rfl, hb, hn⟩ := hrel
      obtain ⟨wo, rfl⟩ : ∃ wo : World, wo = wr := ⟨_, rfl⟩
      have HB := Lib.hid hb
      have HN := Lib.hid hn
      clear hb hn
      by_cases hlt : k < l.length
      · obtain ⟨q, b, o, r, hq, rfl, hr, e0, e1, e2, e3, e4, e5, e6, e7, e8⟩ := HL.out.at_ hlt (Kept.of_below HB.out)
        have HQ := Lib.hid hq
        have HR := Lib.hid hr
        have HFq := Lib.hid (HF.out q (List.mem_of_getElem? hq))
        clear hq hr
        generalize hE : mayE q = E
        have HE := Lib.hid hE
        clear hE
        by_cases hE0 : E = 0
        · subst hE0
          go_wp2_with fail
          refine (may_any q r _ (HR.out.kept ((Kept.of_below HB.out).trans (Kept.alloc _ _))) HFq.out).mono ?_
          rintro e w1 ⟨rfl, hb1⟩
          rw [HE.out]
          clear e0 e1 e2 e3 e4 e5 e6 e7 e8
          go_wp2
          go_roundw
          case rel => exact ⟨k + 1, by omega, by simp, below_next (below_alloc HB.out _) hb1, may_step HN.out HQ.out HE.out⟩
          case measure => (try simp only [intOf]); omega
        · have hEb : (E != 0) = true := by rw [bne_iff_ne]; exact hE0
          go_wp2_with fail
          refine (may_any q r _ (HR.out.kept ((Kept.of_below HB.out).trans (Kept.alloc _ _))) HFq.out).mono ?_
          rintro e w1 ⟨rfl, hb1⟩
          rw [HE.out]
          clear e0 e1 e2 e3 e4 e5 e6 e7 e8
          go_wp2
          go_ret
          refine ⟨?_, below_next (below_alloc HB.out _) hb1⟩
          rw [mayAll_err (by have := H24.out; omega) HN.out HQ.out (by rw [HE.out]; exact hE0), HE.out]; rfl
      · have hT := HN.out
        rw [take_end hk hlt] at hT
        have HT := Lib.hid hT
        clear hT HN
        have HBo := HB
        clear HB
        go_wp2
        clear hlt hk
        go_loopw [6, 26] (fun v i wr => ∃ (k : Nat) (ns : List (List UInt8)), k ≤ l.length ∧ i = .int .i64 k ∧ ns = nmsS (l.take k) ∧ Below w.heap.size w wr ∧ Own wr w.heap.size 9 1 RStr v ns ∧ dupT l k = false) (fun _ i _ => l.length - (intOf i).toNat)
        case atStart => exact ⟨0, [], Nat.zero_le _, rfl, rfl, HBo.out, Own.nil_ _ _ _ _ _, rfl⟩
        case round =>
          clear HBo
          obtain ⟨k, ns, hk, rfl, hns, hb, ho, hd⟩ := hrel
          obtain ⟨wo, rfl⟩ : ∃ wo : World, wo = wr := ⟨_, rfl⟩
          have hnl : ns.length ≤ k := by
            have := nms_le (l.take k)
            rw [← hns, List.length_take] at this
            omega
          have HB := Lib.hid hb
          have HNS := Lib.hid hns
          have HD := Lib.hid hd
          obtain ⟨A2, c2, rfl, hs2⟩ := ho.slc (z := 16) (by have := H24.out; omega)
          have HO := Lib.hid ho
          have HS2 := Lib.hid hs2
          clear hb hns ho hd hs2
          by_cases hlt : k < l.length
          · obtain ⟨q, b, o, r, hq, rfl, hr, e0, e1, e2, e3, e4, e5, e6, e7, e8⟩ := HL.out.at_ hlt (Kept.of_below HB.out)
            have HQ := Lib.hid hq
            have hi0 : (0 : Int) ≤ (k : Int) := Int.natCast_nonneg _
            have hi1 : (k : Int) ≤ (l.length : Int) := by omega
            have hi2 : (k : Int) ≤ (c : Int) := by omega
            have htn : ((k : Int)).toNat = k := Int.toNat_natCast _
            clear hq hr
            rcases hdd : (l.take k).any (dupB q)
            · have HDD := Lib.hid hdd
              clear hdd
              go_wp2_with fail
              refine (conD_any q r _ _ k (l.take k) _ _ ((HL.out.takeM k).kept ((Kept.of_below HB.out).trans (Kept.alloc _ _))) (by simp; omega) (blk_new1 _ _ _)).mono ?_
              rintro e w1 ⟨rfl, hb1⟩
              rw [HDD.out]
              have kP := (blk_new1 wo 26 #[.string (bs (q).name), .string (bs (q).ver), .slice (r).a1 (q).pre.length (r).c1, .slice (r).a2 (q).dep.length (r).c2, .slice (r).a3 (q).rcm.length (r).c3, .slice (r).a4 (q).con.length (r).c4, .slice (r).a5 (q).brk.length (r).c5, .slice (r).a6 (q).prv.length (r).c6, .bool (q).ess]).next hb1
              obtain ⟨g0, g1, g2, g3, g4, g5, g6, g7, g8⟩ := blk9 kP
              have HP := Lib.hid kP
              have hsz := kP.lt
              have HB1 := Lib.hid (below_next (below_alloc HB.out (.cells #[.string (bs (q).name), .string (bs (q).ver), .slice (r).a1 (q).pre.length (r).c1, .slice (r).a2 (q).dep.length (r).c2, .slice (r).a3 (q).rcm.length (r).c3, .slice (r).a4 (q).con.length (r).c4, .slice (r).a5 (q).brk.length (r).c5, .slice (r).a6 (q).prv.length (r).c6, .bool (q).ess] 26)) hb1)
              have HO1 := Lib.hid ((HO.out.alloc (.cells #[.string (bs (q).name), .string (bs (q).ver), .slice (r).a1 (q).pre.length (r).c1, .slice (r).a2 (q).dep.length (r).c2, .slice (r).a3 (q).rcm.length (r).c3, .slice (r).a4 (q).con.length (r).c4, .slice (r).a5 (q).brk.length (r).c5, .slice (r).a6 (q).prv.length (r).c6, .bool (q).ess] 26)).next hb1)
              have HS1 := Lib.hid (Strs.kept (Strs.kept HS2.out (Kept.alloc wo (.cells #[.string (bs (q).name), .string (bs (q).ver), .slice (r).a1 (q).pre.length (r).c1, .slice (r).a2 (q).dep.length (r).c2, .slice (r).a3 (q).rcm.length (r).c3, .slice (r).a4 (q).con.length (r).c4, .slice (r).a5 (q).brk.length (r).c5, .slice (r).a6 (q).prv.length (r).c6, .bool (q).ess] 26))) (Kept.of_below hb1))
              clear e0 e1 e2 e3 e4 e5 e6 e7 e8 hb1 kP g1 g2 g3 g4 g5 g6 g7 g8 hi0 hi1 hi2 htn
              go_wp2_with fail
              refine (conN_any A2 c2 ns q.name _ HS1.out).mono ?_
              rintro e w2 ⟨rfl, rfl⟩
              have HD2 := Lib.hid (show dupT l (k + 1) = false by rw [dupT_step HQ.out, HD.out, HDD.out]; rfl)
              rcases hc : ns.contains q.name
              · have HC := Lib.hid hc
                clear hc
                go_wp2_with (at_builtin; refine wpList_append_el (by rfl) _ _ 51 (by rfl) w.heap.size 9 _ 1 16 Tryz.underlying51 infStr' rfl (by omega) RStr _ _ (by rfl) (HO1.out.alloc _) q.name [.string (bs q.name)] w1.heap.size 1 (by rfl) (Blk.new _ _ _) rfl rfl (by simp [Value.oneCell']) (by have := H24.out; omega) (by omega) (by simp; have := HB1.out.size; omega) ?_; intro g cap w3 ho3 hg3)
                have hb3 := (HO1.out.alloc _).below (below_alloc HB1.out _) (by simp; have := HB1.out.size; omega) hg3
                go_roundw
                case rel => exact ⟨k + 1, ns ++ [q.name], by omega, by simp, by rw [nms_step HQ.out, ← HNS.out, nmsF, HC.out]; rfl, hb3, ho3, HD2.out⟩
                case measure => (try simp only [intOf]); omega
              · have HC := Lib.hid hc
                clear hc
                go_wp2
                go_roundw
                case rel => exact ⟨k + 1, ns, by omega, by simp, by rw [nms_step HQ.out, ← HNS.out, nmsF, HC.out]; rfl, HB1.out, HO1.out, HD2.out⟩
                case measure => (try simp only [intOf]); omega
            · have HDD := Lib.hid hdd
              clear hdd
              go_wp2_with fail
              refine (conD_any q r _ _ k (l.take k) _ _ ((HL.out.takeM k).kept ((Kept.of_below HB.out).trans (Kept.alloc _ _))) (by simp; omega) (blk_new1 _ _ _)).mono ?_
              rintro e w1 ⟨rfl, hb1⟩
              rw [HDD.out]
              clear e0 e1 e2 e3 e4 e5 e6 e7 e8
              go_wp2
              go_ret
              refine ⟨?_, below_next (below_alloc HB.out _) hb1⟩
              rw [mayAll_dup (by have := H24.out; omega) HT.out HQ.out HDD.out]; rfl
          · have HE := Lib.hid (show mayAllE l = if 10 < ns.length then 12 else 0 by
              rw [HNS.out, take_end hk hlt]
              refine mayAll_end (by have := H24.out; omega) HT.out ?_
              have := HD.out
              rwa [show k = l.length by omega] at this)
            by_cases h10 : (10 : Int) < (ns.length : Int)
            · go_wp2
              go_ret
              exact ⟨by rw [HE.out, if_pos (by omega)]; rfl, HB.out⟩
            · go_wp2
              go_ret
              exact ⟨by rw [HE.out, if_neg (by omega)]; rfl, HB.out⟩
end Go.Proofs.YtflmocamfedbdaaGreatDoor
