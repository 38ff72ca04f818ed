/- Slices of strings: what they read as; slices.Contains at them. The contract of the reference's MayAll. -/
import Derived.Test.YtaicidbopgnmfaaGreatDoorMk
import Derived.Test.YtaicidbopgnmfaaGreatDoorWa
import Derived.Test.YtaicidbopgnmfaaGreatDoorMx
namespace Go.Proofs.YtaicidbopgnmfaaGreatDoor
set_option linter.unusedSimpArgs false
set_option linter.unusedVariables false
open Go.RowKit

def RStr (cs : List Value) (n : List UInt8) : Prop := cs = [.string (bs n)]
def Strs (w : World) (A : Option Addr) (c : Nat) (l : List (List UInt8)) : Prop := Slc w 1 16 RStr A c l
theorem Strs.kept {w w' : World} {A : Option Addr} {c : Nat} {l : List (List UInt8)} (h : Strs w A c l) (hk : Kept w w') : Strs w' A c l := Slc.mono h hk fun _ _ h => h
theorem Strs.at_ {w w' : World} {A : Option Addr} {c : Nat} {l : List (List UInt8)} {i : Nat} (h : Strs w A c l) (hi : i < l.length) (hk : Kept w w') : ∃ x b o, l[i]? = some x ∧ A = some ⟨b, o, none⟩ ∧ w'.cell? ⟨b, o + i, none⟩ = some (.string (bs x)) := by
  obtain ⟨x, b, o, cs, h1, h2, rfl, _, h4⟩ := Slc.at_ h hi
  refine ⟨x, b, o, h1, h2, ?_⟩
  have := rangeAt_kept hk h4 0 _ rfl
  simpa using this
theorem infStr' : (Tryz.prog.info? 9).map (fun i => (i.zero, i.size, i.bytes)) = some (some (.string (bs [])), 1, 16) := by kernel_rfl
theorem conN_eq (n : List UInt8) (l : List (List UInt8)) : (l.any fun y => decide (y = n)) = l.contains n := by
  rw [Bool.eq_iff_iff]; simp
set_option maxRecDepth 100000 in
theorem idxN_any (A : Option Addr) (c : Nat) (l : List (List UInt8)) (n : List UInt8) (w : World) (hl : Strs w A c l) :
    Calls Tryz.prog 145 #[.slice A l.length c, .string (bs n)] w fun e w' => e = .returned (.int .i64 (idxS (fun y => decide (y = n)) l)) ∧ w = w' := by
  have hbd := hl.bd
  have HL := Lib.hid hl
  clear hl
  go_enter Tryz.func145, Tryz.ntmps145
  go_wp2
  go_loop [8] (fun i => ∃ k : Nat, k ≤ l.length ∧ i = .int .i64 k ∧ (l.take k).any (fun y => decide (y = n)) = false) (fun i => l.length - (intOf i).toNat)
  case atStart => exact ⟨0, Nat.zero_le _, rfl, rfl⟩
  case round =>
    obtain ⟨k, hk, rfl, hn⟩ := hrel
    have HN := Lib.hid hn
    clear hn
    by_cases hlt : k < l.length
    · obtain ⟨q, b, o, hq, rfl, e0⟩ := HL.out.at_ hlt (Kept.refl _)
      have HQ := Lib.hid hq
      clear hq
      by_cases hnm : q = n
      · subst hnm
        go_wp2
        go_ret
        exact ⟨by rw [idx_at HQ.out (by simp) HN.out]; rfl, rfl⟩
      · have hne : (n == q) = false := by simpa using (fun h : n = q => hnm h.symm)
        go_wp2
        go_round
        case rel => exact ⟨k + 1, by omega, by simp, any_step HQ.out (by simpa using hnm) HN.out⟩
        case measure => (try simp only [intOf]); omega
    · go_wp2
      go_ret
      exact ⟨by rw [idx_no (any_end hk hlt HN.out)]; rfl, rfl⟩
set_option maxRecDepth 100000 in
theorem conN_any (A : Option Addr) (c : Nat) (l : List (List UInt8)) (n : List UInt8) (w : World) (hl : Strs w A c l) :
    Calls Tryz.prog 101 #[.slice A l.length c, .string (bs n)] w fun e w' => e = .returned (.bool (l.contains n)) ∧ w = w' := by
  have HI := Lib.hid (show decide (0 ≤ idxS (fun y => decide (y = n)) l) = l.contains n by rw [idx_any, conN_eq])
  go_enter Tryz.func101, Tryz.ntmps101
  go_wp2_with (go_at_call 145; refine (idxN_any _ _ _ _ _ hl).mono ?_; rintro e w1 ⟨rfl, rfl⟩)
  go_ret
  exact ⟨by rw [← HI.out]; rfl, rfl⟩
end Go.Proofs.YtaicidbopgnmfaaGreatDoor
namespace Go.Proofs.YtaicidbopgnmfaaGreatDoor
set_option linter.unusedSimpArgs false
set_option linter.unusedVariables false
open Go.RowKit

def isB (l : List Pkg) (q : Pkg) (j : Nat) : Bool := (l.take j).any fun x => decide (x.name = q.name)
theorem isB_step {l : List Pkg} {q x : Pkg} {j : Nat} (hx : l[j]? = some x) : isB l q (j + 1) = (isB l q j || decide (x.name = q.name)) := by
  unfold isB
  rw [take_step hx, List.any_append]
  simp
theorem isB_nms {l : List Pkg} {q : Pkg} {k : Nat} : (nmsS (l.take k)).contains q.name = isB l q k := nms_has
set_option maxRecDepth 100000 in
set_option maxHeartbeats 1000000 in
theorem rmayAll_any (A : Option Addr) (c : Nat) (l : List Pkg) (w : World) (hl : Pkgs w A c l) :
    Calls Tryz.prog 31 #[.slice A l.length c] w fun e w' => e = .returned (.int .i64 (mayAllE l)) ∧ Below w.heap.size w w' := by
  have hbd := hl.bd
  have HL := Lib.hid hl
  clear hl
  by_cases h24 : (24 : Int) < (l.length : Int)
  · go_enter Tryz.func31, Tryz.ntmps31
    go_wp2
    go_ret
    exact ⟨by rw [mayAll_many (by omega)]; rfl, Below.refl _ _⟩
  · have H24 := Lib.hid h24
    go_enter Tryz.func31, Tryz.ntmps31
    go_wp2
    go_loopw [17] (fun i wr => ∃ k : Nat, k ≤ l.length ∧ i = .int .i64 k ∧ Below w.heap.size w wr ∧ ∀ q ∈ l.take k, mayE q = 0) (fun i _ => l.length - (intOf i).toNat)
    case atStart => exact ⟨0, Nat.zero_le _, rfl, Below.refl _ _, fun q hq => by simp at hq⟩
    case round =>
      obtain ⟨k, hk, rfl, hb, hn⟩ := hrel
      obtain ⟨wo, rfl⟩ : ∃ wo : World, wo = wr := ⟨_, rfl⟩
      have HB := Lib.hid hb
      have HN := Lib.hid hn
      clear hb hn
      by_cases hlt : k < l.length
      · obtain ⟨q, b, o, r, hq, rfl, hr, e0, e1, e2, e3, e4, e5, e6, e7, e8⟩ := HL.out.at_ hlt (Kept.of_below HB.out)
        have HQ := Lib.hid hq
        have HR := Lib.hid hr
        clear hq hr
        generalize hE : mayE q = E
        have HE := Lib.hid hE
        clear hE
        by_cases hE0 : E = 0
        · subst hE0
          go_wp2_with fail
          refine (rmay_any q r _ (HR.out.kept ((Kept.of_below HB.out).trans (Kept.alloc _ _)))).mono ?_
          rintro e w1 ⟨rfl, hb1⟩
          rw [HE.out]
          clear e0 e1 e2 e3 e4 e5 e6 e7 e8
          go_wp2
          go_roundw
          case rel => exact ⟨k + 1, by omega, by simp, below_next (below_alloc HB.out _) hb1, may_step HN.out HQ.out HE.out⟩
          case measure => (try simp only [intOf]); omega
        · have hEb : (E != 0) = true := by rw [bne_iff_ne]; exact hE0
          go_wp2_with fail
          refine (rmay_any q r _ (HR.out.kept ((Kept.of_below HB.out).trans (Kept.alloc _ _)))).mono ?_
          rintro e w1 ⟨rfl, hb1⟩
          rw [HE.out]
          clear e0 e1 e2 e3 e4 e5 e6 e7 e8
          go_wp2
          go_ret
          refine ⟨?_, below_next (below_alloc HB.out _) hb1⟩
          rw [mayAll_err (by have := H24.out; omega) HN.out HQ.out (by rw [HE.out]; exact hE0), HE.out]; rfl
      · have hT := HN.out
        rw [take_end hk hlt] at hT
        have HT := Lib.hid hT
        clear hT HN
        have HBo := HB
        clear HB
        go_wp2
        clear hlt hk
        go_loopw [6, 29] (fun v i wr => ∃ (k : Nat) (ns : List (List UInt8)), k ≤ l.length ∧ i = .int .i64 k ∧ ns = nmsS (l.take k) ∧ Below w.heap.size w wr ∧ Own wr w.heap.size 9 1 RStr v ns ∧ dupT l k = false) (fun _ i _ => l.length - (intOf i).toNat)
        case atStart => exact ⟨0, [], Nat.zero_le _, rfl, rfl, HBo.out, Own.nil_ _ _ _ _ _, rfl⟩
        case round =>
          clear HBo
          obtain ⟨k, ns, hk, rfl, hns, hb, ho, hd⟩ := hrel
          obtain ⟨wo, rfl⟩ : ∃ wo : World, wo = wr := ⟨_, rfl⟩
          have hnl : ns.length ≤ k := by
            have := nms_le (l.take k)
            rw [← hns, List.length_take] at this
            omega
          have HB := Lib.hid hb
          have HNS := Lib.hid hns
          have HD := Lib.hid hd
          have HO := Lib.hid ho
          obtain ⟨A2, c2, hv2, _⟩ := ho.slc (z := 16) (by have := H24.out; omega)
          have HV2 := Lib.hid hv2
          clear hb hns ho hd hv2
          by_cases hlt : k < l.length
          · obtain ⟨q, b, o, r, hq, rfl, hr, e0, e1, e2, e3, e4, e5, e6, e7, e8⟩ := HL.out.at_ hlt (Kept.of_below HB.out)
            have HQ := Lib.hid hq
            have hi0 : (0 : Int) ≤ (k : Int) := Int.natCast_nonneg _
            have hi1 : (k : Int) ≤ (l.length : Int) := by omega
            have hi2 : (k : Int) ≤ (c : Int) := by omega
            have htn : ((k : Int)).toNat = k := Int.toNat_natCast _
            clear hq hr
            go_wp2
            have K1 := Lib.hid (blk_new1 wo 43 #[.string (bs (q).name), .string (bs (q).ver), .slice (r).a1 (q).pre.length (r).c1, .slice (r).a2 (q).dep.length (r).c2, .slice (r).a3 (q).rcm.length (r).c3, .slice (r).a4 (q).con.length (r).c4, .slice (r).a5 (q).brk.length (r).c5, .slice (r).a6 (q).prv.length (r).c6, .bool (q).ess])
            have HB1 := Lib.hid (below_alloc HB.out (.cells #[.string (bs (q).name), .string (bs (q).ver), .slice (r).a1 (q).pre.length (r).c1, .slice (r).a2 (q).dep.length (r).c2, .slice (r).a3 (q).rcm.length (r).c3, .slice (r).a4 (q).con.length (r).c4, .slice (r).a5 (q).brk.length (r).c5, .slice (r).a6 (q).prv.length (r).c6, .bool (q).ess] 43))
            have HO1 := Lib.hid (HO.out.alloc (.cells #[.string (bs (q).name), .string (bs (q).ver), .slice (r).a1 (q).pre.length (r).c1, .slice (r).a2 (q).dep.length (r).c2, .slice (r).a3 (q).rcm.length (r).c3, .slice (r).a4 (q).con.length (r).c4, .slice (r).a5 (q).brk.length (r).c5, .slice (r).a6 (q).prv.length (r).c6, .bool (q).ess] 43))
            clear e0 e1 e2 e3 e4 e5 e6 e7 e8 HB HO
            generalize World.alloc _ _ = W at K1 HB1 HO1 ⊢
            generalize wo.heap.size = g at K1 ⊢
            go_loopw [9, 38] (fun t i wr => ∃ j : Nat, j ≤ k ∧ i = .int .i64 j ∧ t = .bool (isB l q j) ∧ (l.take j).any (dupB q) = false ∧ Below W.heap.size W wr) (fun _ i _ => k - (intOf i).toNat)
            case atStart => exact ⟨0, Nat.zero_le _, rfl, rfl, rfl, Below.refl _ _⟩
            case round =>
              obtain ⟨j, hj, rfl, rfl, hdj, hb⟩ := hrel
              obtain ⟨wi, rfl⟩ : ∃ wi : World, wi = wr := ⟨_, rfl⟩
              have HBi := Lib.hid hb
              have HDJ := Lib.hid hdj
              obtain ⟨c0, c1, c2, c3, c4, c5, c6, c7, c8⟩ := blk9 (K1.out.next hb)
              clear c2 c3 c4 c5 c6 c7 c8
              have hgl := (K1.out.next hb).lt
              clear hb hdj
              by_cases hjk : j < k
              · obtain ⟨x, b', o', s, hx, hA, hs, f0, f1, f2, f3, f4, f5, f6, f7, f8⟩ := HL.out.at_ (by omega : j < l.length) (Kept.of_below (below_next HB1.out HBi.out))
                injection hA with hA
                injection hA with hA1 hA2
                subst hA1 hA2
                have HX := Lib.hid hx
                clear hx hs
                have hj0 : (0 : Int) ≤ (j : Int) := Int.natCast_nonneg _
                have hj1 : (j : Int) < (k : Int) := by omega
                by_cases hnm : x.name = q.name
                · have hnb : (x.name == q.name) = true := by simpa using hnm
                  generalize hsv : sameV x.ver q.ver = sv
                  have HSV := Lib.hid hsv
                  have HI := Lib.hid (show isB l q (j + 1) = true by rw [isB_step HX.out]; simp [hnm])
                  have HDB := Lib.hid (show dupB q x = sv by unfold dupB; simp [hnm, hsv])
                  clear hsv hnm
                  go_wp2_with fail
                  refine (rSameVersion_any _ _ _).mono ?_
                  rintro e w3 ⟨rfl, hb3⟩
                  rw [HSV.out]
                  have HB3 := Lib.hid (below_next (below_alloc HBi.out _) hb3)
                  clear hb3 f0 f1 f2 f3 f4 f5 f6 f7 f8
                  rcases sv
                  · go_wp2
                    go_roundw
                    case rel => exact ⟨j + 1, by omega, by simp, by rw [HI.out], any_step HX.out HDB.out HDJ.out, HB3.out⟩
                    case measure => (try simp only [intOf]); omega
                  · go_wp2
                    go_ret
                    refine ⟨?_, below_next HB1.out HB3.out⟩
                    rw [mayAll_dup (k := k) (by have := H24.out; omega) HT.out HQ.out (List.any_eq_true.2 ⟨x, List.mem_of_getElem? (i := j) (by rw [List.getElem?_take_of_lt hjk]; exact HX.out), HDB.out⟩)]
                    rfl
                · have hnb : (x.name == q.name) = false := by simpa using hnm
                  have HI := Lib.hid (show isB l q (j + 1) = isB l q j by rw [isB_step HX.out]; simp [hnm])
                  have HDB := Lib.hid (show dupB q x = false by unfold dupB; simp [hnm])
                  clear hnm
                  go_wp2
                  go_roundw
                  case rel => exact ⟨j + 1, by omega, by simp, by rw [HI.out], any_step HX.out HDB.out HDJ.out, below_alloc HBi.out _⟩
                  case measure => (try simp only [intOf]); omega
              · obtain rfl : j = k := by omega
                have HD2 := Lib.hid (show dupT l (j + 1) = false by rw [dupT_step HQ.out, HD.out, HDJ.out]; rfl)
                have HO2 := Lib.hid (HO1.out.next HBi.out)
                have HB2 := Lib.hid (below_next HB1.out HBi.out)
                rcases hc : isB l q j
                · have HC := Lib.hid (isB_nms.trans hc)
                  clear hc
                  go_wp2_with (at_builtin; refine wpList_append_el (by rfl) _ _ 89 (by rfl) w.heap.size 9 _ 1 16 Tryz.underlying89 infStr' rfl (by omega) RStr _ ns (by rfl) (HO2.out.alloc _) q.name [.string (bs q.name)] wi.heap.size 1 (by rfl) (Blk.new _ _ _) rfl rfl (by simp [Value.oneCell']) (by have := H24.out; omega) (by omega) (by simp; have := HB2.out.size; omega) ?_; intro g' cap w4 ho4 hg4)
                  have hb4 := (HO2.out.alloc _).below (below_alloc HB2.out _) (by simp; have := HB2.out.size; omega) hg4
                  go_roundw
                  case rel => exact ⟨j + 1, ns ++ [q.name], by omega, by simp, by rw [nms_step HQ.out, ← HNS.out, nmsF, HNS.out, HC.out]; rfl, hb4, ho4, HD2.out⟩
                  case measure => (try simp only [intOf]); omega
                · have HC := Lib.hid (isB_nms.trans hc)
                  clear hc
                  go_wp2
                  go_roundw
                  case rel => exact ⟨j + 1, ns, by omega, by simp, by rw [nms_step HQ.out, ← HNS.out, nmsF, HNS.out, HC.out]; rfl, HB2.out, HO2.out, HD2.out⟩
                  case measure => (try simp only [intOf]); omega
          · have HE := Lib.hid (show mayAllE l = if 10 < ns.length then 12 else 0 by
              rw [HNS.out, take_end hk hlt]
              refine mayAll_end (by have := H24.out; omega) HT.out ?_
              have := HD.out
              rwa [show k = l.length by omega] at this)
            obtain rfl := HV2.out
            by_cases h10 : (10 : Int) < (ns.length : Int)
            · go_wp2
              go_ret
              exact ⟨by rw [HE.out, if_pos (by omega)]; rfl, HB.out⟩
            · go_wp2
              go_ret
              exact ⟨by rw [HE.out, if_neg (by omega)]; rfl, HB.out⟩
end Go.Proofs.YtaicidbopgnmfaaGreatDoor
