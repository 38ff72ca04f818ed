/- The contract of the reference's Wrong. -/
import Derived.Test.YtaicidbopgnmfaaGreatDoorSth
namespace Go.Proofs.YtaicidbopgnmfaaGreatDoor
set_option linter.unusedSimpArgs false
set_option linter.unusedVariables false
open Go.RowKit

/-- what the reference's Wrong holds while it goes over an entry -/
def RW (w : World) (Ad : Option Addr) (cd : Nat) (on : List Pkg) (xb : Nat) (xc : Array Value) (v : Value) (R : List Vio) (wr : World) : Prop :=
  Own wr w.heap.size 83 5 RVio v R ∧ Own wr w.heap.size 43 9 (RPkg w) (.slice Ad on.length cd) on ∧ Blk wr xb 45 xc ∧ Below w.heap.size w wr
section
variable {w wr w1 : World} {Ad : Option Addr} {cd : Nat} {on : List Pkg} {xb : Nat} {xc : Array Value} {v : Value} {R : List Vio}
theorem RW.next (h : RW w Ad cd on xb xc v R wr) (hb : Below wr.heap.size wr w1) : RW w Ad cd on xb xc v R w1 := let ⟨h1, h2, h3, h4⟩ := h; ⟨h1.next hb, h2.next hb, h3.next hb, below_next h4 hb⟩
theorem RW.alloc (h : RW w Ad cd on xb xc v R wr) (o : Obj) : RW w Ad cd on xb xc v R (wr.alloc o) := let ⟨h1, h2, h3, h4⟩ := h; ⟨h1.alloc o, h2.alloc o, h3.alloc o, below_alloc h4 o⟩
theorem RW.put {o : Obj} {v' : Value} {x : Vio} (h : RW w Ad cd on xb xc v R wr) (h1 : Own w1 w.heap.size 83 5 RVio v' (R ++ [x])) (hg : (wr.alloc o).grownBy w1 v.ownBlock) : RW w Ad cd on xb xc v' (R ++ [x]) w1 :=
  let ⟨k1, k2, k3, k4⟩ := h
  ⟨h1, (k2.alloc o).far (k1.alloc o) (by decide) hg, (k1.alloc o).blk (k3.alloc o) (by decide) hg, (k1.alloc o).below (below_alloc k4 o) (by have := k4.size; simp; omega) hg⟩
theorem RW.pkgs (h : RW w Ad cd on xb xc v R wr) (hn : on.length * 184 ≤ 140737488351232) : Pkgs wr Ad cd on := by
  obtain ⟨A2, c2, he, hs⟩ := h.2.1.slc hn
  injection he with e1 e2 e3
  subst e1 e3
  exact Slc.mono hs (Kept.refl _) fun _ _ h' => h'.kept (Kept.of_below h.2.2.2)
end
set_option maxRecDepth 100000 in
set_option maxHeartbeats 1600000 in
theorem rwrong_any (A : Option Addr) (c : Nat) (l : List Ent) (w : World) (hl : Ents w A c l) (hf : fewE l) :
    Calls Tryz.prog 23 #[.slice A l.length c] w (RetVios w (wrongS l)) := by
  have hbd := hl.bd
  have hfl := hf.1
  have HF := Lib.hid hf
  have HL := Lib.hid hl
  clear hl hf
  go_enter Tryz.func23, Tryz.ntmps23
  go_wp2
  go_loopw [3, 24] (fun v i wr => ∃ k : Nat, k ≤ l.length ∧ i = .int .i64 k ∧ Below w.heap.size w wr ∧ Own wr w.heap.size 43 9 (RPkg w) v (onS (l.take k))) (fun _ i _ => l.length - (intOf i).toNat)
  case atStart => exact ⟨0, Nat.zero_le _, rfl, Below.refl _ _, Own.nil_ _ _ _ _ _⟩
  case round =>
    obtain ⟨k, hk, rfl, hb, ho⟩ := hrel
    have HB := Lib.hid hb
    clear hb
    by_cases hlt : k < l.length
    · have hon := onS_len l k
      generalize hR : onS (l.take k) = R at ho hon
      have HR := Lib.hid hR
      have HO := Lib.hid ho
      obtain ⟨q, b, o, r, hq, rfl, hr, e0, e1, e2, e3, e4, e5, e6, e7, e8, e9, e10⟩ := HL.out.at_ hlt (Kept.of_below HB.out)
      have HQ := Lib.hid hq
      clear hq ho hR
      rcases hcf : q.conf
      · rw [hcf] at e9
        have HCF := Lib.hid hcf
        clear hcf
        go_wp2
        go_roundw
        case rel => exact ⟨k + 1, by omega, by simp, by have hb0 := HB.out; (repeat (first | assumption | exact Below.refl _ _ | refine below_next ?_ (by assumption) | refine below_drewN ?_ _ | refine below_alloc ?_ _)), by
          rw [onS_step HQ.out, HCF.out, HR.out]
          simpa using HO.out.alloc _⟩
        case measure => (try simp only [intOf]); omega
      · rw [hcf] at e9
        have HCF := Lib.hid hcf
        clear hcf
        go_wp2_with (at_builtin; refine wpList_append_el (by rfl) _ _ 25 (by rfl) w.heap.size 43 _ 9 184 Tryz.underlying25 infPkg rfl (by omega) (RPkg w) _ R (by rfl) ((HO.out.alloc _).alloc _) q.pkg (encK r q.pkg) (wr.heap.size + 1) 1 (by rfl) (blk_new2 _ _ _ _) ⟨r, rfl, hr⟩ rfl (encK_one _ _) (by omega) (by omega) (by simp; have := HB.out.size; omega) ?_; intro g cap w1 ho1 hg1)
        have HB1 : Below w.heap.size w w1 := ((HO.out.alloc _).alloc _).below (by have hb0 := HB.out; (repeat (first | assumption | exact Below.refl _ _ | refine below_next ?_ (by assumption) | refine below_drewN ?_ _ | refine below_alloc ?_ _))) (by simp; have := HB.out.size; omega) hg1
        go_roundw
        case rel => exact ⟨k + 1, by omega, by simp, HB1, by
          rw [onS_step HQ.out, HCF.out, HR.out]
          simpa using ho1⟩
        case measure => (try simp only [intOf]); omega
    · rw [take_end hk hlt] at ho
      have hon := onS_len l l.length
      rw [List.take_length] at hon
      obtain ⟨Ad, cd, rfl, _⟩ := ho.slc (z := 184) (by omega)
      have HO := Lib.hid ho
      clear ho
      obtain ⟨wx, rfl⟩ : ∃ wx : World, wx = wr := ⟨_, rfl⟩
      go_wp2
      go_loopw [6, 38] (fun v i wr => ∃ k : Nat, k ≤ l.length ∧ i = .int .i64 k ∧ Below w.heap.size w wr ∧ Own wr w.heap.size 43 9 (RPkg w) (.slice Ad (onS l).length cd) (onS l) ∧ Own wr w.heap.size 83 5 RVio v (wrongT l k)) (fun _ i _ => l.length - (intOf i).toNat)
      case atStart => exact ⟨0, Nat.zero_le _, rfl, HB.out, HO.out, Own.nil_ _ _ _ _ _⟩
      case round =>
        obtain ⟨k, hk, rfl, hbw, hop, hov⟩ := hrel
        obtain ⟨wo, rfl⟩ : ∃ wo : World, wo = wr := ⟨_, rfl⟩
        by_cases hlt : k < l.length
        · obtain ⟨q, b, o, r, hq, rfl, hr, e0, e1, e2, e3, e4, e5, e6, e7, e8, e9, e10⟩ := HL.out.at_ hlt (Kept.of_below hbw)
          rcases r with ⟨a1, a2, a3, a4, a5, a6, c1, c2, c3, c4, c5, c6⟩
          dsimp only at e2 e3 e4 e5 e6 e7
          have Hpre := Lib.hid (show Clss w a1 c1 q.pkg.pre from hr.pre)
          have Hdep := Lib.hid (show Clss w a2 c2 q.pkg.dep from hr.dep)
          have Hcon := Lib.hid (show Atms w a4 c4 q.pkg.con from hr.con)
          have Hbrk := Lib.hid (show Atms w a5 c5 q.pkg.brk from hr.brk)
          have hb1 := Hpre.out.bd
          have hb2 := Hdep.out.bd
          have hb4 := Hcon.out.bd
          have hb5 := Hbrk.out.bd
          have hw := wrongT_len HF.out k hk
          have hws := wrongT_step hq
          have hqm := (HF.out.2 q (List.mem_of_getElem? hq))
          obtain ⟨hq1, hq2⟩ := hqm
          have hc1 : q.pkg.con.length * l.length ≤ 1000000 * 1000 := Nat.mul_le_mul (by omega) hfl
          have hc2 : q.pkg.brk.length * l.length ≤ 1000000 * 1000 := Nat.mul_le_mul (by omega) hfl
          have HQ := Lib.hid hq
          have HWS := Lib.hid hws
          generalize hT : wrongT l k = T at hov hw
          have HT := Lib.hid hT
          clear hq hws hT hr
          rcases hcf : q.conf
          · rw [hcf] at e9
            have HCF := Lib.hid hcf
            obtain ⟨xc, hxc⟩ : ∃ xc : Array Value, #[.string (bs q.pkg.name), .string (bs q.pkg.ver), .slice a1 q.pkg.pre.length c1, .slice a2 q.pkg.dep.length c2, .slice a3 q.pkg.rcm.length c3, .slice a4 q.pkg.con.length c4, .slice a5 q.pkg.brk.length c5, .slice a6 q.pkg.prv.length c6, .bool q.pkg.ess, .bool false, .bool q.hold] = xc := ⟨_, rfl⟩
            have HXC := Lib.hid hxc
            have HRW := Lib.hid (show RW w Ad cd (onS l) wo.heap.size xc _ T (wo.alloc (.cells #[.string (bs q.pkg.name), .string (bs q.pkg.ver), .slice a1 q.pkg.pre.length c1, .slice a2 q.pkg.dep.length c2, .slice a3 q.pkg.rcm.length c3, .slice a4 q.pkg.con.length c4, .slice a5 q.pkg.brk.length c5, .slice a6 q.pkg.prv.length c6, .bool q.pkg.ess, .bool false, .bool q.hold] 45)) from by
              rw [← hxc]
              exact ⟨hov.alloc _, hop.alloc _, blk_new1 wo _ _, below_alloc hbw _⟩)
            clear hxc
            clear hbw hop hov hcf
            go_wp2
            go_loopw [6, 50] (fun v i wr => ∃ j : Nat, j ≤ q.pkg.pre.length ∧ i = .int .i64 j ∧ RW w Ad cd (onS l) wo.heap.size xc v (T ++ lacksS q.pkg.name true (onS l) (q.pkg.pre.take j)) wr) (fun _ i _ => q.pkg.pre.length - (intOf i).toNat)
            case atStart => exact ⟨0, Nat.zero_le _, rfl, by simpa [lacksS] using HRW.out⟩
            case round =>
              obtain ⟨j, hj, rfl, hw⟩ := hrel
              by_cases hltj : j < q.pkg.pre.length
              · have hn := lacks_len q.pkg.name true (onS l) (q.pkg.pre.take j)
                simp only [List.length_take] at hn
                generalize hS : T ++ lacksS q.pkg.name true (onS l) (q.pkg.pre.take j) = S at hw
                have hSl : S.length ≤ T.length + j := by rw [← hS, List.length_append]; omega
                have HS := Lib.hid hS
                have HW := Lib.hid hw
                clear hw hS hn
                obtain ⟨x, b', o', A', c', hx, rfl, hA, d0⟩ := Hpre.out.at_ hltj (Kept.of_below HW.out.2.2.2)
                have HX := Lib.hid hx
                clear hx
                go_wp2_with (first | (go_at_call 62; refine (rmet_any _ _ _ _ x (onS l) _ (hA.kept (Kept.of_below HW.out.2.2.2)) (HW.out.pkgs (by omega))).mono ?_; rintro e w1 ⟨rfl, hb⟩; have KW := Lib.hid (HW.out.next hb)) | (at_builtin; refine wpList_append_el (by rfl) _ _ 37 (by rfl) w.heap.size 83 _ 5 56 Tryz.underlying37 infVio rfl (by omega) RVio _ S (by rfl) (KW.out.1.alloc _) ⟨1, q.pkg.name, true, j, []⟩ [.int .i64 1, .string (bs q.pkg.name), .bool true, .int .i64 j, .string (bs []) ] w1.heap.size 1 (by rfl) (blk_new1 _ _ _) rfl rfl (by simp [Value.oneCell']) (by omega) (by omega) (by simp; have := KW.out.2.2.2.size; omega) ?_; intro g cap w2 ho2 hg2))
                · have hm : metS x (onS l) = false := by simpa using (by assumption : (!metS x (onS l)) = true)
                  go_roundw
                  case rel =>
                    refine ⟨j + 1, by omega, by simp, ?_⟩
                    rw [lacks_take HX.out, hm, ← List.append_assoc, HS.out]
                    exact KW.out.put ho2 hg2
                  case measure => (try simp only [intOf]); omega
                · have hm : metS x (onS l) = true := by simpa using (by assumption : (!metS x (onS l)) = false)
                  go_roundw
                  case rel =>
                    refine ⟨j + 1, by omega, by simp, ?_⟩
                    rw [lacks_take HX.out, hm, ← List.append_assoc, HS.out]
                    simpa using KW.out
                  case measure => (try simp only [intOf]); omega
              · rw [take_end hj hltj] at hw
                have n1 := lacks_len q.pkg.name true (onS l) q.pkg.pre
                generalize hT : T ++ lacksS q.pkg.name true (onS l) q.pkg.pre = T1 at hw
                have hTl : T1.length ≤ T.length + q.pkg.pre.length := by
                  rw [← hT]
                  (try simp only [List.length_append])
                  omega
                have HT1 := Lib.hid hT
                have HRW := Lib.hid hw
                obtain ⟨g0, g1, g2, g3, g4, g5, g6, g7, g8, g9, g10⟩ := blk11 (by have h := hw.2.2.1; rw [← HXC.out] at h; exact h)
                clear hT hw
                go_wp2
                clear g0 g1 g2 g3 g4 g5 g6 g7 g8 g9 g10
                go_loopw [6, 92] (fun v i wr => ∃ m : Nat, m ≤ q.pkg.con.length ∧ i = .int .i64 m ∧ RW w Ad cd (onS l) wo.heap.size xc v (T1 ++ clashS l k 2 q.pkg.name (q.pkg.con.take m)) wr) (fun _ i _ => q.pkg.con.length - (intOf i).toNat)
                case atStart => exact ⟨0, Nat.zero_le _, rfl, by simpa [clashS] using HRW.out⟩
                case round =>
                  obtain ⟨m, hm, rfl, hw⟩ := hrel
                  obtain ⟨wz, rfl⟩ : ∃ wz : World, wz = wr := ⟨_, rfl⟩
                  by_cases hltm : m < q.pkg.con.length
                  · have hn := clashS_len l k 2 q.pkg.name q.pkg.con m hm
                    have hn2 : m * l.length + l.length ≤ q.pkg.con.length * l.length := by rw [← Nat.succ_mul]; exact Nat.mul_le_mul_right _ hltm
                    generalize hS : T1 ++ clashS l k 2 q.pkg.name (q.pkg.con.take m) = S at hw
                    have hSl : S.length ≤ T1.length + m * l.length := by rw [← hS, List.length_append]; omega
                    have HS := Lib.hid hS
                    have HW := Lib.hid hw
                    clear hw hS hn
                    obtain ⟨a, b', o', ha, rfl, hok, d0, d1, d2⟩ := Hcon.out.at_ hltm (Kept.of_below HW.out.2.2.2)
                    have HA := Lib.hid ha
                    clear ha
                    go_wp2
                    clear d0 d1 d2
                    go_loopw [6, 99] (fun v i wr => ∃ j : Nat, j ≤ l.length ∧ i = .int .i64 j ∧ RW w Ad cd (onS l) wo.heap.size xc v (S ++ clashT l k 2 q.pkg.name m a j) wr ∧ Blk wr wz.heap.size 72 #[.string (bs (a).name), .int .i64 (a).rel, .string (bs (a).ver)]) (fun _ i _ => l.length - (intOf i).toNat)
                    case atStart => exact ⟨0, Nat.zero_le _, rfl, by simpa [clashT] using HW.out.alloc _, blk_new1 _ _ _⟩
                    case round =>
                      obtain ⟨j, hj, rfl, hw, hab⟩ := hrel
                      by_cases hltj : j < l.length
                      · have hn := clashT_len l k 2 q.pkg.name m a j
                        generalize hU : S ++ clashT l k 2 q.pkg.name m a j = U at hw
                        have hUl : U.length ≤ S.length + j := by rw [← hU, List.length_append]; omega
                        have HU := Lib.hid hU
                        have HW2 := Lib.hid hw
                        have HAB := Lib.hid hab
                        obtain ⟨y0, y1, y2⟩ := blk3 hab
                        have hsza : wz.heap.size < wr.heap.size := hab.lt
                        clear hw hU hn hab
                        obtain ⟨x, b2, o2, r2, hx, hA2, hr2, e0, e1, e2, e3, e4, e5, e6, e7, e8, e9, e10⟩ := HL.out.at_ hltj (Kept.of_below HW2.out.2.2.2)
                        injection hA2 with hA2
                        injection hA2 with hA2 hA3
                        subst hA2 hA3
                        have HX := Lib.hid hx
                        have HRP := Lib.hid (fun ob : Obj => hr2.kept ((Kept.of_below HW2.out.2.2.2).trans (Kept.alloc _ ob)))
                        clear hx hr2
                        by_cases hjk : j = k
                        · subst hjk
                          go_wp2
                          go_roundw
                          case rel =>
                            refine ⟨j + 1, by omega, by simp, ?_, HAB.out.alloc _⟩
                            rw [clashT_step HX.out, ← List.append_assoc, HU.out]
                            simpa using HW2.out.alloc _
                          case measure => (try simp only [intOf]); omega
                        · have hjb : ((j : Int) != (k : Int)) = true := by rw [bne_iff_ne]; omega
                          go_wp2_with (first | (go_at_call 49; refine (rsat_any x.pkg r2 a _ (HRP.out _) hok).mono ?_; rintro e w1 ⟨rfl, hb⟩; have KW := Lib.hid ((HW2.out.alloc _).next hb); have kA := (HAB.out.alloc _).next hb; have kX := (blk_new1 wr 45 _).next hb; have z0 := kX.cell 0; simp only [List.getElem?_toArray, List.getElem?_cons_zero] at z0) | (at_builtin; refine wpList_append_el (by rfl) _ _ 37 (by rfl) w.heap.size 83 _ 5 56 Tryz.underlying37 infVio rfl (by omega) RVio _ U (by rfl) (KW.out.1.alloc _) ⟨2, q.pkg.name, false, m, x.pkg.name⟩ [.int .i64 2, .string (bs q.pkg.name), .bool false, .int .i64 m, .string (bs x.pkg.name) ] w1.heap.size 1 (by rfl) (blk_new1 _ _ _) rfl rfl (by simp [Value.oneCell']) (by omega) (by omega) (by simp; have := KW.out.2.2.2.size; omega) ?_; intro g cap w2 ho2 hg2))
                          all_goals first
                            | (go_roundw
                               case rel =>
                                 have hd : (decide (j ≠ k) && (decide ((2 : Int) = 2) || x.conf) && satS x.pkg a) = true := by rw [decide_eq_true (p := j ≠ k) hjk, show decide ((2 : Int) = 2) = true from rfl]; simp only [Bool.true_or, Bool.true_and, Bool.false_or]; first | assumption | (rw [(by assumption : x.conf = true), (by assumption : satS x.pkg a = true)]; rfl) | (rw [(by assumption : x.conf = false)]; rfl) | (rw [Bool.eq_false_iff.2 (by assumption : ¬ x.conf = true)]; rfl) | (rw [(by assumption : satS x.pkg a = false), Bool.and_false])
                                 refine ⟨j + 1, by omega, by simp, ?_, (KW.out.1.alloc _).blk (kA.alloc _) (by decide) hg2⟩
                                 rw [clashT_step HX.out, ← List.append_assoc, HU.out, hd]
                                 exact KW.out.put ho2 hg2
                               case measure => (try simp only [intOf]); omega)
                            | (go_roundw
                               case rel =>
                                 have hd : (decide (j ≠ k) && (decide ((2 : Int) = 2) || x.conf) && satS x.pkg a) = false := by rw [decide_eq_true (p := j ≠ k) hjk, show decide ((2 : Int) = 2) = true from rfl]; simp only [Bool.true_or, Bool.true_and, Bool.false_or]; first | assumption | (rw [(by assumption : x.conf = true), (by assumption : satS x.pkg a = true)]; rfl) | (rw [(by assumption : x.conf = false)]; rfl) | (rw [Bool.eq_false_iff.2 (by assumption : ¬ x.conf = true)]; rfl) | (rw [(by assumption : satS x.pkg a = false), Bool.and_false])
                                 refine ⟨j + 1, by omega, by simp, ?_, by first | exact kA | exact HAB.out.alloc _⟩
                                 rw [clashT_step HX.out, ← List.append_assoc, HU.out, hd]
                                 first
                                   | simpa using KW.out
                                   | simpa using HW2.out.alloc _
                               case measure => (try simp only [intOf]); omega)
                      · go_wp2
                        go_roundw
                        case rel =>
                          refine ⟨m + 1, by omega, by simp, ?_⟩
                          rw [clash_take HA.out, ← List.append_assoc, HS.out, ← clashT_end (j := j) (by omega)]
                          exact hw
                        case measure => (try simp only [intOf]); omega
                  · rw [take_end hm hltm] at hw
                    have n2 := clash_len l k 2 q.pkg.name q.pkg.con
                    generalize hT : T1 ++ clashS l k 2 q.pkg.name q.pkg.con = T2 at hw
                    have hTl : T2.length ≤ T1.length + q.pkg.con.length * l.length := by
                      rw [← hT]
                      (try simp only [List.length_append])
                      omega
                    have HT2 := Lib.hid hT
                    have HRW := Lib.hid hw
                    obtain ⟨g0, g1, g2, g3, g4, g5, g6, g7, g8, g9, g10⟩ := blk11 (by have h := hw.2.2.1; rw [← HXC.out] at h; exact h)
                    clear hT hw
                    go_wp2
                    clear g0 g1 g2 g3 g4 g5 g6 g7 g8 g9 g10
                    go_loopw [6, 128] (fun v i wr => ∃ m : Nat, m ≤ q.pkg.brk.length ∧ i = .int .i64 m ∧ RW w Ad cd (onS l) wo.heap.size xc v (T2 ++ clashS l k 3 q.pkg.name (q.pkg.brk.take m)) wr) (fun _ i _ => q.pkg.brk.length - (intOf i).toNat)
                    case atStart => exact ⟨0, Nat.zero_le _, rfl, by simpa [clashS] using HRW.out⟩
                    case round =>
                      obtain ⟨m, hm, rfl, hw⟩ := hrel
                      obtain ⟨wz, rfl⟩ : ∃ wz : World, wz = wr := ⟨_, rfl⟩
                      by_cases hltm : m < q.pkg.brk.length
                      · have hn := clashS_len l k 3 q.pkg.name q.pkg.brk m hm
                        have hn2 : m * l.length + l.length ≤ q.pkg.brk.length * l.length := by rw [← Nat.succ_mul]; exact Nat.mul_le_mul_right _ hltm
                        generalize hS : T2 ++ clashS l k 3 q.pkg.name (q.pkg.brk.take m) = S at hw
                        have hSl : S.length ≤ T2.length + m * l.length := by rw [← hS, List.length_append]; omega
                        have HS := Lib.hid hS
                        have HW := Lib.hid hw
                        clear hw hS hn
                        obtain ⟨a, b', o', ha, rfl, hok, d0, d1, d2⟩ := Hbrk.out.at_ hltm (Kept.of_below HW.out.2.2.2)
                        have HA := Lib.hid ha
                        clear ha
                        go_wp2
                        clear d0 d1 d2
                        go_loopw [6, 135] (fun v i wr => ∃ j : Nat, j ≤ l.length ∧ i = .int .i64 j ∧ RW w Ad cd (onS l) wo.heap.size xc v (S ++ clashT l k 3 q.pkg.name m a j) wr ∧ Blk wr wz.heap.size 72 #[.string (bs (a).name), .int .i64 (a).rel, .string (bs (a).ver)]) (fun _ i _ => l.length - (intOf i).toNat)
                        case atStart => exact ⟨0, Nat.zero_le _, rfl, by simpa [clashT] using HW.out.alloc _, blk_new1 _ _ _⟩
                        case round =>
                          obtain ⟨j, hj, rfl, hw, hab⟩ := hrel
                          by_cases hltj : j < l.length
                          · have hn := clashT_len l k 3 q.pkg.name m a j
                            generalize hU : S ++ clashT l k 3 q.pkg.name m a j = U at hw
                            have hUl : U.length ≤ S.length + j := by rw [← hU, List.length_append]; omega
                            have HU := Lib.hid hU
                            have HW2 := Lib.hid hw
                            have HAB := Lib.hid hab
                            obtain ⟨y0, y1, y2⟩ := blk3 hab
                            have hsza : wz.heap.size < wr.heap.size := hab.lt
                            clear hw hU hn hab
                            obtain ⟨x, b2, o2, r2, hx, hA2, hr2, e0, e1, e2, e3, e4, e5, e6, e7, e8, e9, e10⟩ := HL.out.at_ hltj (Kept.of_below HW2.out.2.2.2)
                            injection hA2 with hA2
                            injection hA2 with hA2 hA3
                            subst hA2 hA3
                            have HX := Lib.hid hx
                            have HRP := Lib.hid (fun ob : Obj => hr2.kept ((Kept.of_below HW2.out.2.2.2).trans (Kept.alloc _ ob)))
                            clear hx hr2
                            by_cases hjk : j = k
                            · subst hjk
                              go_wp2
                              go_roundw
                              case rel =>
                                refine ⟨j + 1, by omega, by simp, ?_, HAB.out.alloc _⟩
                                rw [clashT_step HX.out, ← List.append_assoc, HU.out]
                                simpa using HW2.out.alloc _
                              case measure => (try simp only [intOf]); omega
                            · have hjb : ((j : Int) != (k : Int)) = true := by rw [bne_iff_ne]; omega
                              go_wp2_with (first | (go_at_call 49; refine (rsat_any x.pkg r2 a _ (HRP.out _) hok).mono ?_; rintro e w1 ⟨rfl, hb⟩; have KW := Lib.hid ((HW2.out.alloc _).next hb); have kA := (HAB.out.alloc _).next hb; have kX := (blk_new1 wr 45 _).next hb; have z0 := kX.cell 0; simp only [List.getElem?_toArray, List.getElem?_cons_zero] at z0) | (at_builtin; refine wpList_append_el (by rfl) _ _ 37 (by rfl) w.heap.size 83 _ 5 56 Tryz.underlying37 infVio rfl (by omega) RVio _ U (by rfl) (KW.out.1.alloc _) ⟨3, q.pkg.name, false, m, x.pkg.name⟩ [.int .i64 3, .string (bs q.pkg.name), .bool false, .int .i64 m, .string (bs x.pkg.name) ] w1.heap.size 1 (by rfl) (blk_new1 _ _ _) rfl rfl (by simp [Value.oneCell']) (by omega) (by omega) (by simp; have := KW.out.2.2.2.size; omega) ?_; intro g cap w2 ho2 hg2))
                              all_goals first
                                | (go_roundw
                                   case rel =>
                                     have hd : (decide (j ≠ k) && (decide ((3 : Int) = 2) || x.conf) && satS x.pkg a) = true := by rw [decide_eq_true (p := j ≠ k) hjk, show decide ((3 : Int) = 2) = false from rfl]; simp only [Bool.true_or, Bool.true_and, Bool.false_or]; first | assumption | (rw [(by assumption : x.conf = true), (by assumption : satS x.pkg a = true)]; rfl) | (rw [(by assumption : x.conf = false)]; rfl) | (rw [Bool.eq_false_iff.2 (by assumption : ¬ x.conf = true)]; rfl) | (rw [(by assumption : satS x.pkg a = false), Bool.and_false])
                                     refine ⟨j + 1, by omega, by simp, ?_, (KW.out.1.alloc _).blk (kA.alloc _) (by decide) hg2⟩
                                     rw [clashT_step HX.out, ← List.append_assoc, HU.out, hd]
                                     exact KW.out.put ho2 hg2
                                   case measure => (try simp only [intOf]); omega)
                                | (go_roundw
                                   case rel =>
                                     have hd : (decide (j ≠ k) && (decide ((3 : Int) = 2) || x.conf) && satS x.pkg a) = false := by rw [decide_eq_true (p := j ≠ k) hjk, show decide ((3 : Int) = 2) = false from rfl]; simp only [Bool.true_or, Bool.true_and, Bool.false_or]; first | assumption | (rw [(by assumption : x.conf = true), (by assumption : satS x.pkg a = true)]; rfl) | (rw [(by assumption : x.conf = false)]; rfl) | (rw [Bool.eq_false_iff.2 (by assumption : ¬ x.conf = true)]; rfl) | (rw [(by assumption : satS x.pkg a = false), Bool.and_false])
                                     refine ⟨j + 1, by omega, by simp, ?_, by first | exact kA | exact HAB.out.alloc _⟩
                                     rw [clashT_step HX.out, ← List.append_assoc, HU.out, hd]
                                     first
                                       | simpa using KW.out
                                       | simpa using HW2.out.alloc _
                                   case measure => (try simp only [intOf]); omega)
                          · go_wp2
                            go_roundw
                            case rel =>
                              refine ⟨m + 1, by omega, by simp, ?_⟩
                              rw [clash_take HA.out, ← List.append_assoc, HS.out, ← clashT_end (j := j) (by omega)]
                              exact hw
                            case measure => (try simp only [intOf]); omega
                      · rw [take_end hm hltm] at hw
                        go_wp2
                        go_roundw
                        case rel =>
                          refine ⟨k + 1, by omega, by simp, hw.2.2.2, hw.2.1, ?_⟩
                          have hv := hw.1
                          rw [← HT2.out, ← HT1.out] at hv
                          rw [HWS.out, HT.out]
                          simp only [List.append_assoc] at hv
                          simpa [wrong1, HCF.out] using hv
                        case measure => (try simp only [intOf]); omega
          · rw [hcf] at e9
            have HCF := Lib.hid hcf
            obtain ⟨xc, hxc⟩ : ∃ xc : Array Value, #[.string (bs q.pkg.name), .string (bs q.pkg.ver), .slice a1 q.pkg.pre.length c1, .slice a2 q.pkg.dep.length c2, .slice a3 q.pkg.rcm.length c3, .slice a4 q.pkg.con.length c4, .slice a5 q.pkg.brk.length c5, .slice a6 q.pkg.prv.length c6, .bool q.pkg.ess, .bool true, .bool q.hold] = xc := ⟨_, rfl⟩
            have HXC := Lib.hid hxc
            have HRW := Lib.hid (show RW w Ad cd (onS l) wo.heap.size xc _ T (wo.alloc (.cells #[.string (bs q.pkg.name), .string (bs q.pkg.ver), .slice a1 q.pkg.pre.length c1, .slice a2 q.pkg.dep.length c2, .slice a3 q.pkg.rcm.length c3, .slice a4 q.pkg.con.length c4, .slice a5 q.pkg.brk.length c5, .slice a6 q.pkg.prv.length c6, .bool q.pkg.ess, .bool true, .bool q.hold] 45)) from by
              rw [← hxc]
              exact ⟨hov.alloc _, hop.alloc _, blk_new1 wo _ _, below_alloc hbw _⟩)
            clear hxc
            clear hbw hop hov hcf
            go_wp2
            go_loopw [6, 50] (fun v i wr => ∃ j : Nat, j ≤ q.pkg.pre.length ∧ i = .int .i64 j ∧ RW w Ad cd (onS l) wo.heap.size xc v (T ++ lacksS q.pkg.name true (onS l) (q.pkg.pre.take j)) wr) (fun _ i _ => q.pkg.pre.length - (intOf i).toNat)
            case atStart => exact ⟨0, Nat.zero_le _, rfl, by simpa [lacksS] using HRW.out⟩
            case round =>
              obtain ⟨j, hj, rfl, hw⟩ := hrel
              by_cases hltj : j < q.pkg.pre.length
              · have hn := lacks_len q.pkg.name true (onS l) (q.pkg.pre.take j)
                simp only [List.length_take] at hn
                generalize hS : T ++ lacksS q.pkg.name true (onS l) (q.pkg.pre.take j) = S at hw
                have hSl : S.length ≤ T.length + j := by rw [← hS, List.length_append]; omega
                have HS := Lib.hid hS
                have HW := Lib.hid hw
                clear hw hS hn
                obtain ⟨x, b', o', A', c', hx, rfl, hA, d0⟩ := Hpre.out.at_ hltj (Kept.of_below HW.out.2.2.2)
                have HX := Lib.hid hx
                clear hx
                go_wp2_with (first | (go_at_call 62; refine (rmet_any _ _ _ _ x (onS l) _ (hA.kept (Kept.of_below HW.out.2.2.2)) (HW.out.pkgs (by omega))).mono ?_; rintro e w1 ⟨rfl, hb⟩; have KW := Lib.hid (HW.out.next hb)) | (at_builtin; refine wpList_append_el (by rfl) _ _ 37 (by rfl) w.heap.size 83 _ 5 56 Tryz.underlying37 infVio rfl (by omega) RVio _ S (by rfl) (KW.out.1.alloc _) ⟨1, q.pkg.name, true, j, []⟩ [.int .i64 1, .string (bs q.pkg.name), .bool true, .int .i64 j, .string (bs []) ] w1.heap.size 1 (by rfl) (blk_new1 _ _ _) rfl rfl (by simp [Value.oneCell']) (by omega) (by omega) (by simp; have := KW.out.2.2.2.size; omega) ?_; intro g cap w2 ho2 hg2))
                · have hm : metS x (onS l) = false := by simpa using (by assumption : (!metS x (onS l)) = true)
                  go_roundw
                  case rel =>
                    refine ⟨j + 1, by omega, by simp, ?_⟩
                    rw [lacks_take HX.out, hm, ← List.append_assoc, HS.out]
                    exact KW.out.put ho2 hg2
                  case measure => (try simp only [intOf]); omega
                · have hm : metS x (onS l) = true := by simpa using (by assumption : (!metS x (onS l)) = false)
                  go_roundw
                  case rel =>
                    refine ⟨j + 1, by omega, by simp, ?_⟩
                    rw [lacks_take HX.out, hm, ← List.append_assoc, HS.out]
                    simpa using KW.out
                  case measure => (try simp only [intOf]); omega
              · rw [take_end hj hltj] at hw
                have n0 := lacks_len q.pkg.name true (onS l) q.pkg.pre
                generalize hT : T ++ lacksS q.pkg.name true (onS l) q.pkg.pre = T0 at hw
                have hTl : T0.length ≤ T.length + q.pkg.pre.length := by
                  rw [← hT]
                  (try simp only [List.length_append])
                  omega
                have HT0 := Lib.hid hT
                have HRW := Lib.hid hw
                obtain ⟨g0, g1, g2, g3, g4, g5, g6, g7, g8, g9, g10⟩ := blk11 (by have h := hw.2.2.1; rw [← HXC.out] at h; exact h)
                clear hT hw
                go_wp2
                clear g0 g1 g2 g3 g4 g5 g6 g7 g8 g9 g10
                go_loopw [6, 72] (fun v i wr => ∃ j : Nat, j ≤ q.pkg.dep.length ∧ i = .int .i64 j ∧ RW w Ad cd (onS l) wo.heap.size xc v (T0 ++ lacksS q.pkg.name false (onS l) (q.pkg.dep.take j)) wr) (fun _ i _ => q.pkg.dep.length - (intOf i).toNat)
                case atStart => exact ⟨0, Nat.zero_le _, rfl, by simpa [lacksS] using HRW.out⟩
                case round =>
                  obtain ⟨j, hj, rfl, hw⟩ := hrel
                  by_cases hltj : j < q.pkg.dep.length
                  · have hn := lacks_len q.pkg.name false (onS l) (q.pkg.dep.take j)
                    simp only [List.length_take] at hn
                    generalize hS : T0 ++ lacksS q.pkg.name false (onS l) (q.pkg.dep.take j) = S at hw
                    have hSl : S.length ≤ T0.length + j := by rw [← hS, List.length_append]; omega
                    have HS := Lib.hid hS
                    have HW := Lib.hid hw
                    clear hw hS hn
                    obtain ⟨x, b', o', A', c', hx, rfl, hA, d0⟩ := Hdep.out.at_ hltj (Kept.of_below HW.out.2.2.2)
                    have HX := Lib.hid hx
                    clear hx
                    go_wp2_with (first | (go_at_call 62; refine (rmet_any _ _ _ _ x (onS l) _ (hA.kept (Kept.of_below HW.out.2.2.2)) (HW.out.pkgs (by omega))).mono ?_; rintro e w1 ⟨rfl, hb⟩; have KW := Lib.hid (HW.out.next hb)) | (at_builtin; refine wpList_append_el (by rfl) _ _ 37 (by rfl) w.heap.size 83 _ 5 56 Tryz.underlying37 infVio rfl (by omega) RVio _ S (by rfl) (KW.out.1.alloc _) ⟨1, q.pkg.name, false, j, []⟩ [.int .i64 1, .string (bs q.pkg.name), .bool false, .int .i64 j, .string (bs []) ] w1.heap.size 1 (by rfl) (blk_new1 _ _ _) rfl rfl (by simp [Value.oneCell']) (by omega) (by omega) (by simp; have := KW.out.2.2.2.size; omega) ?_; intro g cap w2 ho2 hg2))
                    · have hm : metS x (onS l) = false := by simpa using (by assumption : (!metS x (onS l)) = true)
                      go_roundw
                      case rel =>
                        refine ⟨j + 1, by omega, by simp, ?_⟩
                        rw [lacks_take HX.out, hm, ← List.append_assoc, HS.out]
                        exact KW.out.put ho2 hg2
                      case measure => (try simp only [intOf]); omega
                    · have hm : metS x (onS l) = true := by simpa using (by assumption : (!metS x (onS l)) = false)
                      go_roundw
                      case rel =>
                        refine ⟨j + 1, by omega, by simp, ?_⟩
                        rw [lacks_take HX.out, hm, ← List.append_assoc, HS.out]
                        simpa using KW.out
                      case measure => (try simp only [intOf]); omega
                  · rw [take_end hj hltj] at hw
                    have n1 := lacks_len q.pkg.name false (onS l) q.pkg.dep
                    generalize hT : T0 ++ lacksS q.pkg.name false (onS l) q.pkg.dep = T1 at hw
                    have hTl : T1.length ≤ T0.length + q.pkg.dep.length := by
                      rw [← hT]
                      (try simp only [List.length_append])
                      omega
                    have HT1 := Lib.hid hT
                    have HRW := Lib.hid hw
                    obtain ⟨g0, g1, g2, g3, g4, g5, g6, g7, g8, g9, g10⟩ := blk11 (by have h := hw.2.2.1; rw [← HXC.out] at h; exact h)
                    clear hT hw
                    go_wp2
                    clear g0 g1 g2 g3 g4 g5 g6 g7 g8 g9 g10
                    go_loopw [6, 92] (fun v i wr => ∃ m : Nat, m ≤ q.pkg.con.length ∧ i = .int .i64 m ∧ RW w Ad cd (onS l) wo.heap.size xc v (T1 ++ clashS l k 2 q.pkg.name (q.pkg.con.take m)) wr) (fun _ i _ => q.pkg.con.length - (intOf i).toNat)
                    case atStart => exact ⟨0, Nat.zero_le _, rfl, by simpa [clashS] using HRW.out⟩
                    case round =>
                      obtain ⟨m, hm, rfl, hw⟩ := hrel
                      obtain ⟨wz, rfl⟩ : ∃ wz : World, wz = wr := ⟨_, rfl⟩
                      by_cases hltm : m < q.pkg.con.length
                      · have hn := clashS_len l k 2 q.pkg.name q.pkg.con m hm
                        have hn2 : m * l.length + l.length ≤ q.pkg.con.length * l.length := by rw [← Nat.succ_mul]; exact Nat.mul_le_mul_right _ hltm
                        generalize hS : T1 ++ clashS l k 2 q.pkg.name (q.pkg.con.take m) = S at hw
                        have hSl : S.length ≤ T1.length + m * l.length := by rw [← hS, List.length_append]; omega
                        have HS := Lib.hid hS
                        have HW := Lib.hid hw
                        clear hw hS hn
                        obtain ⟨a, b', o', ha, rfl, hok, d0, d1, d2⟩ := Hcon.out.at_ hltm (Kept.of_below HW.out.2.2.2)
                        have HA := Lib.hid ha
                        clear ha
                        go_wp2
                        clear d0 d1 d2
                        go_loopw [6, 99] (fun v i wr => ∃ j : Nat, j ≤ l.length ∧ i = .int .i64 j ∧ RW w Ad cd (onS l) wo.heap.size xc v (S ++ clashT l k 2 q.pkg.name m a j) wr ∧ Blk wr wz.heap.size 72 #[.string (bs (a).name), .int .i64 (a).rel, .string (bs (a).ver)]) (fun _ i _ => l.length - (intOf i).toNat)
                        case atStart => exact ⟨0, Nat.zero_le _, rfl, by simpa [clashT] using HW.out.alloc _, blk_new1 _ _ _⟩
                        case round =>
                          obtain ⟨j, hj, rfl, hw, hab⟩ := hrel
                          by_cases hltj : j < l.length
                          · have hn := clashT_len l k 2 q.pkg.name m a j
                            generalize hU : S ++ clashT l k 2 q.pkg.name m a j = U at hw
                            have hUl : U.length ≤ S.length + j := by rw [← hU, List.length_append]; omega
                            have HU := Lib.hid hU
                            have HW2 := Lib.hid hw
                            have HAB := Lib.hid hab
                            obtain ⟨y0, y1, y2⟩ := blk3 hab
                            have hsza : wz.heap.size < wr.heap.size := hab.lt
                            clear hw hU hn hab
                            obtain ⟨x, b2, o2, r2, hx, hA2, hr2, e0, e1, e2, e3, e4, e5, e6, e7, e8, e9, e10⟩ := HL.out.at_ hltj (Kept.of_below HW2.out.2.2.2)
                            injection hA2 with hA2
                            injection hA2 with hA2 hA3
                            subst hA2 hA3
                            have HX := Lib.hid hx
                            have HRP := Lib.hid (fun ob : Obj => hr2.kept ((Kept.of_below HW2.out.2.2.2).trans (Kept.alloc _ ob)))
                            clear hx hr2
                            by_cases hjk : j = k
                            · subst hjk
                              go_wp2
                              go_roundw
                              case rel =>
                                refine ⟨j + 1, by omega, by simp, ?_, HAB.out.alloc _⟩
                                rw [clashT_step HX.out, ← List.append_assoc, HU.out]
                                simpa using HW2.out.alloc _
                              case measure => (try simp only [intOf]); omega
                            · have hjb : ((j : Int) != (k : Int)) = true := by rw [bne_iff_ne]; omega
                              go_wp2_with (first | (go_at_call 49; refine (rsat_any x.pkg r2 a _ (HRP.out _) hok).mono ?_; rintro e w1 ⟨rfl, hb⟩; have KW := Lib.hid ((HW2.out.alloc _).next hb); have kA := (HAB.out.alloc _).next hb; have kX := (blk_new1 wr 45 _).next hb; have z0 := kX.cell 0; simp only [List.getElem?_toArray, List.getElem?_cons_zero] at z0) | (at_builtin; refine wpList_append_el (by rfl) _ _ 37 (by rfl) w.heap.size 83 _ 5 56 Tryz.underlying37 infVio rfl (by omega) RVio _ U (by rfl) (KW.out.1.alloc _) ⟨2, q.pkg.name, false, m, x.pkg.name⟩ [.int .i64 2, .string (bs q.pkg.name), .bool false, .int .i64 m, .string (bs x.pkg.name) ] w1.heap.size 1 (by rfl) (blk_new1 _ _ _) rfl rfl (by simp [Value.oneCell']) (by omega) (by omega) (by simp; have := KW.out.2.2.2.size; omega) ?_; intro g cap w2 ho2 hg2))
                              all_goals first
                                | (go_roundw
                                   case rel =>
                                     have hd : (decide (j ≠ k) && (decide ((2 : Int) = 2) || x.conf) && satS x.pkg a) = true := by rw [decide_eq_true (p := j ≠ k) hjk, show decide ((2 : Int) = 2) = true from rfl]; simp only [Bool.true_or, Bool.true_and, Bool.false_or]; first | assumption | (rw [(by assumption : x.conf = true), (by assumption : satS x.pkg a = true)]; rfl) | (rw [(by assumption : x.conf = false)]; rfl) | (rw [Bool.eq_false_iff.2 (by assumption : ¬ x.conf = true)]; rfl) | (rw [(by assumption : satS x.pkg a = false), Bool.and_false])
                                     refine ⟨j + 1, by omega, by simp, ?_, (KW.out.1.alloc _).blk (kA.alloc _) (by decide) hg2⟩
                                     rw [clashT_step HX.out, ← List.append_assoc, HU.out, hd]
                                     exact KW.out.put ho2 hg2
                                   case measure => (try simp only [intOf]); omega)
                                | (go_roundw
                                   case rel =>
                                     have hd : (decide (j ≠ k) && (decide ((2 : Int) = 2) || x.conf) && satS x.pkg a) = false := by rw [decide_eq_true (p := j ≠ k) hjk, show decide ((2 : Int) = 2) = true from rfl]; simp only [Bool.true_or, Bool.true_and, Bool.false_or]; first | assumption | (rw [(by assumption : x.conf = true), (by assumption : satS x.pkg a = true)]; rfl) | (rw [(by assumption : x.conf = false)]; rfl) | (rw [Bool.eq_false_iff.2 (by assumption : ¬ x.conf = true)]; rfl) | (rw [(by assumption : satS x.pkg a = false), Bool.and_false])
                                     refine ⟨j + 1, by omega, by simp, ?_, by first | exact kA | exact HAB.out.alloc _⟩
                                     rw [clashT_step HX.out, ← List.append_assoc, HU.out, hd]
                                     first
                                       | simpa using KW.out
                                       | simpa using HW2.out.alloc _
                                   case measure => (try simp only [intOf]); omega)
                          · go_wp2
                            go_roundw
                            case rel =>
                              refine ⟨m + 1, by omega, by simp, ?_⟩
                              rw [clash_take HA.out, ← List.append_assoc, HS.out, ← clashT_end (j := j) (by omega)]
                              exact hw
                            case measure => (try simp only [intOf]); omega
                      · rw [take_end hm hltm] at hw
                        have n2 := clash_len l k 2 q.pkg.name q.pkg.con
                        generalize hT : T1 ++ clashS l k 2 q.pkg.name q.pkg.con = T2 at hw
                        have hTl : T2.length ≤ T1.length + q.pkg.con.length * l.length := by
                          rw [← hT]
                          (try simp only [List.length_append])
                          omega
                        have HT2 := Lib.hid hT
                        have HRW := Lib.hid hw
                        obtain ⟨g0, g1, g2, g3, g4, g5, g6, g7, g8, g9, g10⟩ := blk11 (by have h := hw.2.2.1; rw [← HXC.out] at h; exact h)
                        clear hT hw
                        go_wp2
                        clear g0 g1 g2 g3 g4 g5 g6 g7 g8 g9 g10
                        go_loopw [6, 128] (fun v i wr => ∃ m : Nat, m ≤ q.pkg.brk.length ∧ i = .int .i64 m ∧ RW w Ad cd (onS l) wo.heap.size xc v (T2 ++ clashS l k 3 q.pkg.name (q.pkg.brk.take m)) wr) (fun _ i _ => q.pkg.brk.length - (intOf i).toNat)
                        case atStart => exact ⟨0, Nat.zero_le _, rfl, by simpa [clashS] using HRW.out⟩
                        case round =>
                          obtain ⟨m, hm, rfl, hw⟩ := hrel
                          obtain ⟨wz, rfl⟩ : ∃ wz : World, wz = wr := ⟨_, rfl⟩
                          by_cases hltm : m < q.pkg.brk.length
                          · have hn := clashS_len l k 3 q.pkg.name q.pkg.brk m hm
                            have hn2 : m * l.length + l.length ≤ q.pkg.brk.length * l.length := by rw [← Nat.succ_mul]; exact Nat.mul_le_mul_right _ hltm
                            generalize hS : T2 ++ clashS l k 3 q.pkg.name (q.pkg.brk.take m) = S at hw
                            have hSl : S.length ≤ T2.length + m * l.length := by rw [← hS, List.length_append]; omega
                            have HS := Lib.hid hS
                            have HW := Lib.hid hw
                            clear hw hS hn
                            obtain ⟨a, b', o', ha, rfl, hok, d0, d1, d2⟩ := Hbrk.out.at_ hltm (Kept.of_below HW.out.2.2.2)
                            have HA := Lib.hid ha
                            clear ha
                            go_wp2
                            clear d0 d1 d2
                            go_loopw [6, 135] (fun v i wr => ∃ j : Nat, j ≤ l.length ∧ i = .int .i64 j ∧ RW w Ad cd (onS l) wo.heap.size xc v (S ++ clashT l k 3 q.pkg.name m a j) wr ∧ Blk wr wz.heap.size 72 #[.string (bs (a).name), .int .i64 (a).rel, .string (bs (a).ver)]) (fun _ i _ => l.length - (intOf i).toNat)
                            case atStart => exact ⟨0, Nat.zero_le _, rfl, by simpa [clashT] using HW.out.alloc _, blk_new1 _ _ _⟩
                            case round =>
                              obtain ⟨j, hj, rfl, hw, hab⟩ := hrel
                              by_cases hltj : j < l.length
                              · have hn := clashT_len l k 3 q.pkg.name m a j
                                generalize hU : S ++ clashT l k 3 q.pkg.name m a j = U at hw
                                have hUl : U.length ≤ S.length + j := by rw [← hU, List.length_append]; omega
                                have HU := Lib.hid hU
                                have HW2 := Lib.hid hw
                                have HAB := Lib.hid hab
                                obtain ⟨y0, y1, y2⟩ := blk3 hab
                                have hsza : wz.heap.size < wr.heap.size := hab.lt
                                clear hw hU hn hab
                                obtain ⟨x, b2, o2, r2, hx, hA2, hr2, e0, e1, e2, e3, e4, e5, e6, e7, e8, e9, e10⟩ := HL.out.at_ hltj (Kept.of_below HW2.out.2.2.2)
                                injection hA2 with hA2
                                injection hA2 with hA2 hA3
                                subst hA2 hA3
                                have HX := Lib.hid hx
                                have HRP := Lib.hid (fun ob : Obj => hr2.kept ((Kept.of_below HW2.out.2.2.2).trans (Kept.alloc _ ob)))
                                clear hx hr2
                                by_cases hjk : j = k
                                · subst hjk
                                  go_wp2
                                  go_roundw
                                  case rel =>
                                    refine ⟨j + 1, by omega, by simp, ?_, HAB.out.alloc _⟩
                                    rw [clashT_step HX.out, ← List.append_assoc, HU.out]
                                    simpa using HW2.out.alloc _
                                  case measure => (try simp only [intOf]); omega
                                · have hjb : ((j : Int) != (k : Int)) = true := by rw [bne_iff_ne]; omega
                                  go_wp2_with (first | (go_at_call 49; refine (rsat_any x.pkg r2 a _ (HRP.out _) hok).mono ?_; rintro e w1 ⟨rfl, hb⟩; have KW := Lib.hid ((HW2.out.alloc _).next hb); have kA := (HAB.out.alloc _).next hb; have kX := (blk_new1 wr 45 _).next hb; have z0 := kX.cell 0; simp only [List.getElem?_toArray, List.getElem?_cons_zero] at z0) | (at_builtin; refine wpList_append_el (by rfl) _ _ 37 (by rfl) w.heap.size 83 _ 5 56 Tryz.underlying37 infVio rfl (by omega) RVio _ U (by rfl) (KW.out.1.alloc _) ⟨3, q.pkg.name, false, m, x.pkg.name⟩ [.int .i64 3, .string (bs q.pkg.name), .bool false, .int .i64 m, .string (bs x.pkg.name) ] w1.heap.size 1 (by rfl) (blk_new1 _ _ _) rfl rfl (by simp [Value.oneCell']) (by omega) (by omega) (by simp; have := KW.out.2.2.2.size; omega) ?_; intro g cap w2 ho2 hg2))
                                  all_goals first
                                    | (go_roundw
                                       case rel =>
                                         have hd : (decide (j ≠ k) && (decide ((3 : Int) = 2) || x.conf) && satS x.pkg a) = true := by rw [decide_eq_true (p := j ≠ k) hjk, show decide ((3 : Int) = 2) = false from rfl]; simp only [Bool.true_or, Bool.true_and, Bool.false_or]; first | assumption | (rw [(by assumption : x.conf = true), (by assumption : satS x.pkg a = true)]; rfl) | (rw [(by assumption : x.conf = false)]; rfl) | (rw [Bool.eq_false_iff.2 (by assumption : ¬ x.conf = true)]; rfl) | (rw [(by assumption : satS x.pkg a = false), Bool.and_false])
                                         refine ⟨j + 1, by omega, by simp, ?_, (KW.out.1.alloc _).blk (kA.alloc _) (by decide) hg2⟩
                                         rw [clashT_step HX.out, ← List.append_assoc, HU.out, hd]
                                         exact KW.out.put ho2 hg2
                                       case measure => (try simp only [intOf]); omega)
                                    | (go_roundw
                                       case rel =>
                                         have hd : (decide (j ≠ k) && (decide ((3 : Int) = 2) || x.conf) && satS x.pkg a) = false := by rw [decide_eq_true (p := j ≠ k) hjk, show decide ((3 : Int) = 2) = false from rfl]; simp only [Bool.true_or, Bool.true_and, Bool.false_or]; first | assumption | (rw [(by assumption : x.conf = true), (by assumption : satS x.pkg a = true)]; rfl) | (rw [(by assumption : x.conf = false)]; rfl) | (rw [Bool.eq_false_iff.2 (by assumption : ¬ x.conf = true)]; rfl) | (rw [(by assumption : satS x.pkg a = false), Bool.and_false])
                                         refine ⟨j + 1, by omega, by simp, ?_, by first | exact kA | exact HAB.out.alloc _⟩
                                         rw [clashT_step HX.out, ← List.append_assoc, HU.out, hd]
                                         first
                                           | simpa using KW.out
                                           | simpa using HW2.out.alloc _
                                       case measure => (try simp only [intOf]); omega)
                              · go_wp2
                                go_roundw
                                case rel =>
                                  refine ⟨m + 1, by omega, by simp, ?_⟩
                                  rw [clash_take HA.out, ← List.append_assoc, HS.out, ← clashT_end (j := j) (by omega)]
                                  exact hw
                                case measure => (try simp only [intOf]); omega
                          · rw [take_end hm hltm] at hw
                            go_wp2
                            go_roundw
                            case rel =>
                              refine ⟨k + 1, by omega, by simp, hw.2.2.2, hw.2.1, ?_⟩
                              have hv := hw.1
                              rw [← HT2.out, ← HT1.out, ← HT0.out] at hv
                              rw [HWS.out, HT.out]
                              simp only [List.append_assoc] at hv
                              simpa [wrong1, HCF.out] using hv
                            case measure => (try simp only [intOf]); omega
        · go_wp2
          go_ret
          have hend := wrongT_end (l := l) (k := k) (by omega)
          have hlen := wrongT_len HF.out k hk
          rw [hend] at hov hlen
          obtain ⟨A2, c2, rfl, hs⟩ := hov.slc (z := 56) (by omega)
          exact ⟨A2, c2, rfl, Slc.mono hs (Kept.refl _) fun _ _ h => h, hbw⟩
end Go.Proofs.YtaicidbopgnmfaaGreatDoor
