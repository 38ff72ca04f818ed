/- The contract of state.Healthy. -/
import Derived.Test.YthgghkicdclinaaGreatDoorHeA
import Derived.Test.YthgghkicdclinaaGreatDoorHeB
namespace Go.Proofs.YthgghkicdclinaaGreatDoor
set_option linter.unusedSimpArgs false
set_option linter.unusedVariables false
open Go.RowKit


theorem Blk.nextOf' {w w' : World} {g : Nat} {t : TypeId} {cs : Array Value} (hb : Below w.heap.size w w') (h : Blk w g t cs) : Blk w' g t cs := h.next hb
def fewH (l : List Pkg) : Prop := ∀ p ∈ l, fewR p ∧ p.pre.length ≤ 1000000 ∧ p.dep.length ≤ 1000000
theorem sum_two {p : Pkg} (h1 : p.pre.length ≤ 1000000) (h2 : p.dep.length ≤ 1000000) : sumLe [p.pre, p.dep] := fun k hk => by
  simp at hk
  obtain rfl | rfl | rfl : k = 0 ∨ k = 1 ∨ k = 2 := by omega
  all_goals (simp [lenT]; try omega)
theorem two_slc {W : World} {g t : Nat} {p : Pkg} {a1 a2 : Option Addr} {c1 c2 : Nat} (hB : Blk W g t #[.slice a1 p.pre.length c1, .slice a2 p.dep.length c2]) (h1 : Clss W a1 c1 p.pre) (h2 : Clss W a2 c2 p.dep) :
    Slc W 1 24 (RClss W) (some ⟨g, 0, none⟩) 2 [p.pre, p.dep] :=
  slcB [[.slice a1 p.pre.length c1], [.slice a2 p.dep.length c2]] hB rfl rfl (fun i cs x e1 e2 => by
    rcases i with _ | _ | i <;> simp at e1 e2 <;> (subst e1 e2; refine ⟨⟨_, _, rfl, ?_⟩, rfl⟩; assumption)) rfl (by show 2 * 24 ≤ _; decide) (by show 2 ≤ _; decide) (by decide)
theorem two_flat (p : Pkg) : [p.pre, p.dep].flatten = p.pre ++ p.dep := by simp
theorem Pkgs.takeH {w : World} {A : Option Addr} {c : Nat} {l : List Pkg} (h : Pkgs w A c l) (n : Nat) : Pkgs w A c (l.take n) := by
  obtain ⟨h1, h2, h3, h4⟩ := h
  have hle : (l.take n).length ≤ l.length := by simp; omega
  refine ⟨by omega, h2, Nat.le_trans (Nat.mul_le_mul_right _ hle) h3, fun h0 => ?_⟩
  obtain ⟨b, o, hA, hx⟩ := h4 (by omega)
  refine ⟨b, o, hA, fun i x hi => hx i x ?_⟩
  rw [List.getElem?_take] at hi
  split at hi
  · exact hi
  · cases hi
set_option maxRecDepth 100000 in
set_option maxHeartbeats 2000000 in
theorem healthy_any (A : Option Addr) (c : Nat) (l : List Pkg) (w : World) (hl : Pkgs w A c l) (hf : fewH l) :
    Calls Tryz.prog 5 #[.slice A l.length c] w fun e w' => e = .returned (.bool (hlthS l)) ∧ Below w.heap.size w w' := by
  have hbd := hl.bd
  have HL := Lib.hid hl
  have HF := Lib.hid hf
  clear hl hf
  go_enter Tryz.func5, Tryz.ntmps5
  go_wp2
  go_loopw [13] (fun i wr => ∃ k : Nat, k ≤ l.length ∧ i = .int .i64 k ∧ Below w.heap.size w wr ∧ okT l k = true) (fun i _ => l.length - (intOf i).toNat)
  case atStart => exact ⟨0, Nat.zero_le _, rfl, Below.refl _ _, rfl⟩
  case round =>
    obtain ⟨k, hk, rfl, hb, hn⟩ := hrel
    obtain ⟨wo, rfl⟩ : ∃ wo : World, wo = wr := ⟨_, rfl⟩
    have HB := Lib.hid hb
    have HN := Lib.hid hn
    clear hb hn
    by_cases hlt : k < l.length
    · obtain ⟨q, b, o, r, hq, rfl, hr, e0, e1, e2, e3, e4, e5, e6, e7, e8⟩ := HL.out.at_ hlt (Kept.of_below HB.out)
      have HQ := Lib.hid hq
      have HR := Lib.hid hr
      have HFq := Lib.hid (HF.out q (List.mem_of_getElem? hq)).1
      clear hq hr
      generalize hE : mayE q = E
      have HE := Lib.hid hE
      clear hE
      by_cases hE0 : E = 0
      · subst hE0
        go_wp2_with fail
        refine (may_any q r _ (HR.out.kept ((Kept.of_below HB.out).trans (Kept.alloc _ _))) HFq.out).mono ?_
        rintro e w1 ⟨rfl, hb1⟩
        rw [HE.out]
        have kP := Lib.hid (Blk.nextOf' hb1 (blk_new1 wo 30 #[.string (bs (q).name), .string (bs (q).ver), .slice (r).a1 (q).pre.length (r).c1, .slice (r).a2 (q).dep.length (r).c2, .slice (r).a3 (q).rcm.length (r).c3, .slice (r).a4 (q).con.length (r).c4, .slice (r).a5 (q).brk.length (r).c5, .slice (r).a6 (q).prv.length (r).c6, .bool (q).ess]))
        have HB1 := Lib.hid (below_next (below_alloc HB.out (.cells #[.string (bs (q).name), .string (bs (q).ver), .slice (r).a1 (q).pre.length (r).c1, .slice (r).a2 (q).dep.length (r).c2, .slice (r).a3 (q).rcm.length (r).c3, .slice (r).a4 (q).con.length (r).c4, .slice (r).a5 (q).brk.length (r).c5, .slice (r).a6 (q).prv.length (r).c6, .bool (q).ess] 30)) hb1)
        have hi0 : (0 : Int) ≤ (k : Int) := Int.natCast_nonneg _
        have hi1 : (k : Int) ≤ (l.length : Int) := by omega
        have hi2 : (k : Int) ≤ (c : Int) := by omega
        have htn : ((k : Int)).toNat = k := Int.toNat_natCast _
        have hsz0 := kP.out.lt
        clear e0 e1 e2 e3 e4 e5 e6 e7 e8 hb1
        go_wp2
        go_loopw [25] (fun i wr => ∃ j : Nat, j ≤ k ∧ i = .int .i64 j ∧ Below w.heap.size w wr ∧ Blk wr wo.heap.size 30 #[.string (bs (q).name), .string (bs (q).ver), .slice (r).a1 (q).pre.length (r).c1, .slice (r).a2 (q).dep.length (r).c2, .slice (r).a3 (q).rcm.length (r).c3, .slice (r).a4 (q).con.length (r).c4, .slice (r).a5 (q).brk.length (r).c5, .slice (r).a6 (q).prv.length (r).c6, .bool (q).ess] ∧ ((l.take k).take j).any (badQ q) = false) (fun i _ => k - (intOf i).toNat)
        case atStart => exact ⟨0, Nat.zero_le _, rfl, HB1.out, kP.out, rfl⟩
        case round =>
          clear HB1 kP hsz0
          obtain ⟨j, hj, rfl, hb, hB, hn⟩ := hrel
          have HB2 := Lib.hid hb
          have HN2 := Lib.hid hn
          have HG := Lib.hid hB
          have hsz : wo.heap.size < wr.heap.size := hB.lt
          obtain ⟨g0, g1, g2, g3, g4, g5, g6, g7, g8⟩ := blk9 hB
          clear hb hn hB
          by_cases hlt2 : j < k
          · obtain ⟨x, b', o', s, hx, hA, hs, e0, e1, e2, e3, e4, e5, e6, e7, e8⟩ := HL.out.at_ (by omega : j < l.length) (Kept.of_below HB2.out)
            injection hA with hA
            injection hA with hA1 hA2
            subst hA1 hA2
            have HX := Lib.hid (show (l.take k)[j]? = some x by rw [List.getElem?_take_of_lt hlt2]; exact hx)
            have HSx := Lib.hid hs
            have hj0 : (0 : Int) ≤ (j : Int) := Int.natCast_nonneg _
            have hj1 : (j : Int) < (k : Int) := by omega
            clear hx hs
            by_cases hnm : x.name = q.name
            · have HBQ := Lib.hid (show badQ q x = true by simp [badQ, hnm])
              rw [hnm] at e0
              go_wp2
              go_ret
              refine ⟨?_, by have hb0 := HB2.out; (repeat (first | assumption | exact Below.refl _ _ | refine below_next ?_ (by assumption) | refine below_drewN ?_ _ | refine below_alloc ?_ _))⟩
              rw [hlth_no HQ.out (okAt_bad (any_yes HX.out HBQ.out))]; rfl
            · have hne : (x.name == q.name) = false := by simpa using hnm
              rcases hcl : clhS q x
              · have HCL := Lib.hid hcl
                have HBQ := Lib.hid (show badQ q x = false by simp [badQ, hnm, hcl])
                clear hcl
                go_wp2_with fail
                refine (clash_any q x r s _ (HR.out.kept ((Kept.of_below HB2.out).trans (Kept.alloc _ _))) (HSx.out.kept ((Kept.of_below HB2.out).trans (Kept.alloc _ _)))).mono ?_
                rintro e w2 ⟨rfl, hb2⟩
                rw [HCL.out]
                clear e0 e1 e2 e3 e4 e5 e6 e7 e8 g0 g1 g2 g3 g4 g5 g6 g7 g8
                go_wp2
                go_roundw
                case rel => exact ⟨j + 1, by omega, by simp, below_next (below_alloc HB2.out _) hb2, Blk.next (Blk.alloc HG.out _) hb2, any_step HX.out HBQ.out HN2.out⟩
                case measure => (try simp only [intOf]); omega
              · have HCL := Lib.hid hcl
                have HBQ := Lib.hid (show badQ q x = true by simp [badQ, hcl])
                clear hcl
                go_wp2_with fail
                refine (clash_any q x r s _ (HR.out.kept ((Kept.of_below HB2.out).trans (Kept.alloc _ _))) (HSx.out.kept ((Kept.of_below HB2.out).trans (Kept.alloc _ _)))).mono ?_
                rintro e w2 ⟨rfl, hb2⟩
                rw [HCL.out]
                clear e0 e1 e2 e3 e4 e5 e6 e7 e8 g0 g1 g2 g3 g4 g5 g6 g7 g8
                go_wp2
                go_ret
                refine ⟨?_, below_next (below_alloc HB2.out _) hb2⟩
                rw [hlth_no HQ.out (okAt_bad (any_yes HX.out HBQ.out))]; rfl
          · have hn2 := HN2.out
            rw [List.take_of_length_le (by simp; omega)] at hn2
            have HOK := Lib.hid (okAt_yes HE.out hn2)
            clear hn2 g0 g1 g2 g3 g4 g5 g6 g7 g8
            go_wp2
            go_roundw
            case rel => exact ⟨k + 1, by omega, by simp, HB2.out, okT_step HN.out HQ.out HOK.out⟩
            case measure => (try simp only [intOf]); omega
      · have hEb : (E != 0) = true := by rw [bne_iff_ne]; exact hE0
        go_wp2_with fail
        refine (may_any q r _ (HR.out.kept ((Kept.of_below HB.out).trans (Kept.alloc _ _))) HFq.out).mono ?_
        rintro e w1 ⟨rfl, hb1⟩
        rw [HE.out]
        clear e0 e1 e2 e3 e4 e5 e6 e7 e8
        go_wp2
        go_ret
        refine ⟨?_, below_next (below_alloc HB.out _) hb1⟩
        rw [hlth_no HQ.out (okAt_may (by rw [HE.out]; exact hE0))]; rfl
    · have hT := HN.out
      rw [show k = l.length by omega] at hT
      have HT := Lib.hid hT
      clear hT HN
      go_wp2
      clear hlt hk
      go_loopw [43] (fun i wr => ∃ k : Nat, k ≤ l.length ∧ i = .int .i64 k ∧ Below w.heap.size w wr ∧ (l.take k).all (okCl l) = true) (fun i _ => l.length - (intOf i).toNat)
      case atStart => exact ⟨0, Nat.zero_le _, rfl, HB.out, rfl⟩
      case round =>
        clear HB
        obtain ⟨k, hk, rfl, hb, hn⟩ := hrel
        have HB := Lib.hid hb
        have HN := Lib.hid hn
        clear hb hn
        by_cases hlt : k < l.length
        · obtain ⟨q, b, o, r, hq, rfl, hr, e0, e1, e2, e3, e4, e5, e6, e7, e8⟩ := HL.out.at_ hlt (Kept.of_below HB.out)
          have HQ := Lib.hid hq
          have HFq := Lib.hid (HF.out q (List.mem_of_getElem? hq)).2
          rcases r with ⟨a1, a2, a3, a4, a5, a6, c1, c2, c3, c4, c5, c6⟩
          have HP1 := Lib.hid (show Clss w a1 c1 q.pre from hr.pre)
          have HP2 := Lib.hid (show Clss w a2 c2 q.dep from hr.dep)
          dsimp only at e2 e3 e4 e5 e6 e7
          clear hq hr
          go_wp2_with fail
          have K2 := ((Kept.of_below HB.out).trans (Kept.alloc wr (.cells #[.string (bs q.name), .string (bs q.ver), .slice a1 q.pre.length c1, .slice a2 q.dep.length c2, .slice a3 q.rcm.length c3, .slice a4 q.con.length c4, .slice a5 q.brk.length c5, .slice a6 q.prv.length c6, .bool q.ess] 30))).trans (Kept.alloc _ (.cells #[.slice a1 q.pre.length c1, .slice a2 q.dep.length c2] 26))
          refine (concat_any _ _ 2 [q.pre, q.dep] rfl _ (two_slc (blk_new2 wr _ _ _) (HP1.out.kept K2) (HP2.out.kept K2)) (sum_two HFq.out.1 HFq.out.2)).mono ?_
          rintro e w3 ⟨A3, c3', rfl, hC3, hb3⟩
          rw [two_flat] at hC3 ⊢
          have HB3 := Lib.hid (below_next (below_alloc (below_alloc HB.out _) _) hb3)
          generalize hF : q.pre ++ q.dep = F at hC3 ⊢
          have HFF := Lib.hid (show okCl l q = F.all fun c => metS c l by unfold okCl; rw [hF])
          have hbd3 := hC3.bd
          have HC3 := Lib.hid hC3
          clear hC3 hb3 K2 hF e0 e1 e2 e3 e4 e5 e6 e7 e8
          go_wp2
          go_loopw [54] (fun i wr => ∃ j : Nat, j ≤ F.length ∧ i = .int .i64 j ∧ Below w.heap.size w wr ∧ Kept w3 wr ∧ (F.take j).all (fun c => metS c l) = true) (fun i _ => F.length - (intOf i).toNat)
          case atStart => exact ⟨0, Nat.zero_le _, rfl, HB3.out, Kept.refl _, rfl⟩
          case round =>
            clear HB3
            obtain ⟨j, hj, rfl, hb, hkp, hn⟩ := hrel
            have HB2 := Lib.hid hb
            have HK2 := Lib.hid hkp
            have HN2 := Lib.hid hn
            clear hb hkp hn
            by_cases hlt2 : j < F.length
            · obtain ⟨x, b', o', A', c', hx, rfl, hA, e0⟩ := HC3.out.at_ hlt2 HK2.out
              have HX := Lib.hid hx
              have HA := Lib.hid (hA.kept HK2.out)
              clear hx hA
              rcases hm : metS x l
              · have HM := Lib.hid hm
                clear hm
                go_wp2_with fail
                refine (met_any _ _ _ _ x l _ HA.out (HL.out.kept (Kept.of_below HB2.out))).mono ?_
                rintro e w4 ⟨rfl, hb4⟩
                rw [HM.out]
                go_wp2
                go_ret
                refine ⟨?_, below_next HB2.out hb4⟩
                rw [hlth_cl HQ.out (by rw [HFF.out]; exact all_no HX.out HM.out)]; rfl
              · have HM := Lib.hid hm
                clear hm
                go_wp2_with fail
                refine (met_any _ _ _ _ x l _ HA.out (HL.out.kept (Kept.of_below HB2.out))).mono ?_
                rintro e w4 ⟨rfl, hb4⟩
                rw [HM.out]
                go_wp2
                go_roundw
                case rel => exact ⟨j + 1, by omega, by simp, below_next HB2.out hb4, HK2.out.trans (Kept.of_below hb4), all_step' HX.out HM.out HN2.out⟩
                case measure => (try simp only [intOf]); omega
            · go_wp2
              go_roundw
              case rel => exact ⟨k + 1, by omega, by simp, HB2.out, all_step' HQ.out (by rw [HFF.out]; exact all_end hj hlt2 HN2.out) HN.out⟩
              case measure => (try simp only [intOf]); omega
        · go_wp2
          go_ret
          exact ⟨by rw [hlth_yes HT.out (all_end hk hlt HN.out)]; rfl, HB.out⟩
end Go.Proofs.YthgghkicdclinaaGreatDoor
