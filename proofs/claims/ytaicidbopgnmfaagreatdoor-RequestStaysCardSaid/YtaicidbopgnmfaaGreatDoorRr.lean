/- The contracts of the reference's MayAsks, Has. The contracts of request.exact, frees, kind, named. The contracts of request.find, once. The contracts of FindPkg, of request.once, wanted, meets. -/
import Derived.Test.YtaicidbopgnmfaaGreatDoorRp
import Derived.Test.YtaicidbopgnmfaaGreatDoorDa
import Derived.Test.YtaicidbopgnmfaaGreatDoorEz
import Derived.Test.YtaicidbopgnmfaaGreatDoorVw
import Derived.Test.YtaicidbopgnmfaaGreatDoorSq2
import Derived.Deep.RegionWith
namespace Go.Proofs.YtaicidbopgnmfaaGreatDoor
set_option linter.unusedSimpArgs false
set_option linter.unusedVariables false
open Go.RowKit
attribute [local go_sem ↓] Go.wp_at_zero Go.wp_at_succ
theorem cntE_step {l : List Stp} {k : Nat} {a : Stp} (h : l[k]? = some a) : cntE (l.take (k + 1)) = cntE (l.take k) + (if a.name == [] then 1 else 0) := by
  unfold cntE
  rw [take_step h, List.filter_append, List.length_append, List.filter_cons]
  split <;> simp
theorem cntE_le (l : List Stp) : cntE l ≤ l.length := List.length_filter_le ..
set_option maxRecDepth 100000 in
set_option maxHeartbeats 2000000 in
theorem rmayAsks_any (l : List Stp) (A : Option Addr) (c : Nat) (w : World) (hl : Stps w A c l) (hs : ∀ a ∈ l, short a.name) :
    Calls Tryz.prog 52 #[.slice A l.length c] w fun e w' => e = .returned (.int .i64 (mayQs l)) ∧ Below w.heap.size w w' := by
  have HL := Lib.hid hl
  have HSH := Lib.hid hs
  have hbl := Slc.bd hl
  clear hl hs
  obtain ⟨G, hG⟩ : ∃ G, G = mayQs l := ⟨_, rfl⟩
  rw [← hG]
  by_cases h0 : l.length = 0 ∨ 6 < l.length
  · have HG := Lib.hid (show G = 12 from hG.trans (mayQs_len h0))
    clear hG
    by_cases hz : l.length = 0
    · have hzb : ((l.length : Int) == 0) = true := by rw [beq_iff_eq]; omega
      clear hz h0
      go_enter Tryz.func52, Tryz.ntmps52
      go_wp2
      go_ret
      exact ⟨by rw [HG.out]; rfl, Below.refl _ _⟩
    · have hzb : ((l.length : Int) == 0) = false := by rw [beq_eq_false_iff_ne]; omega
      have h6 : decide ((6 : Int) < (l.length : Int)) = true := decide_eq_true (by omega)
      clear hz h0
      go_enter Tryz.func52, Tryz.ntmps52
      go_wp2
      go_ret
      exact ⟨by rw [HG.out]; rfl, Below.refl _ _⟩
  · have hzb : ((l.length : Int) == 0) = false := by rw [beq_eq_false_iff_ne]; omega
    have h6 : decide ((6 : Int) < (l.length : Int)) = false := decide_eq_false (by omega)
    have HN := Lib.hid h0
    have HG := Lib.hid hG
    have hle : l.length ≤ 6 := by omega
    clear h0 hG
    go_enter Tryz.func52, Tryz.ntmps52
    go_wp2
    go_loopw [21] (fun i wr => ∃ k : Nat, k ≤ l.length ∧ i = .int .i64 k ∧ (l.take k).all mayQ = true ∧ Below w.heap.size w wr) (fun i _ => l.length - (intOf i).toNat)
    case atStart => exact ⟨0, Nat.zero_le _, rfl, rfl, Below.refl _ _⟩
    case round =>
      obtain ⟨k, hk, rfl, hn, hb⟩ := hrel
      have HA := Lib.hid hn
      have HB := Lib.hid hb
      clear hn hb
      by_cases hlt : k < l.length
      · obtain ⟨⟨kd, nm, vr⟩, b, o, hst, rfl, e0, e1, e2⟩ := HL.out.at_ hlt (Kept.of_below HB.out)
        have HST := Lib.hid hst
        have HSN := Lib.hid (show short nm from HSH.out _ (List.mem_of_getElem? hst))
        dsimp only at e0 e1 e2
        have HB1 := Lib.hid (below_alloc HB.out (.cells #[.int .i64 kd, .string (bs nm), .string (bs vr)] 68))
        clear hst
        by_cases hk7 : 1 ≤ kd ∧ kd ≤ 7
        · obtain rfl | rfl | rfl | rfl | rfl | rfl | rfl : kd = 1 ∨ kd = 2 ∨ kd = 3 ∨ kd = 4 ∨ kd = 5 ∨ kd = 6 ∨ kd = 7 := by omega
          · rcases hnm : nameS nm
            · have HNM := Lib.hid hnm
              have HMF := Lib.hid (show mayQ ⟨1, nm, vr⟩ = false by simp [mayQ, namQ, hnm])
              clear hnm
              go_wp2_with fail
              refine (rname_any nm HSN.out _).mono ?_
              rintro e w2 ⟨rfl, hw2⟩
              subst hw2
              rw [HNM.out]
              have HG := Lib.hid (HG.out.trans (mayQs_form HN.out HST.out HMF.out))
              go_wp2
              go_ret
              exact ⟨by rw [HG.out]; rfl, HB1.out⟩
            · have HNM := Lib.hid hnm
              by_cases hv0 : vr = []
              · have hvb : vr.isEmpty = true := by simpa using hv0
                have HMT := Lib.hid (show mayQ ⟨1, nm, vr⟩ = true by simp [mayQ, namQ, hnm, hv0, wordQ])
                clear hnm hv0
                go_wp2_with fail
                refine (rname_any nm HSN.out _).mono ?_
                rintro e w2 ⟨rfl, hw2⟩
                subst hw2
                rw [HNM.out]
                go_wp2
                go_roundw
                case rel => exact ⟨k + 1, by omega, by simp, qall_step HST.out HA.out HMT.out, HB1.out⟩
                case measure => (try simp only [intOf]); omega
              · have hvb : vr.isEmpty = false := by simpa using hv0
                rcases hiv : isV vr
                · have HIV := Lib.hid hiv
                  have HMF := Lib.hid (show mayQ ⟨1, nm, vr⟩ = false by simp [mayQ, namQ, hnm, hv0, verQ, hiv])
                  clear hnm hv0 hiv
                  go_wp2_with fail
                  refine (rname_any nm HSN.out _).mono ?_
                  rintro e w2 ⟨rfl, hw2⟩
                  subst hw2
                  rw [HNM.out]
                  go_wp2_with fail
                  refine (rIs_any vr _).mono ?_
                  rintro e w3 ⟨rfl, hb3⟩
                  rw [HIV.out]
                  have HB3 := Lib.hid (below_next HB1.out hb3)
                  clear hb3
                  have HG := Lib.hid (HG.out.trans (mayQs_form HN.out HST.out HMF.out))
                  go_wp2
                  go_ret
                  exact ⟨by rw [HG.out]; rfl, HB3.out⟩
                · have HIV := Lib.hid hiv
                  have HMT := Lib.hid (show mayQ ⟨1, nm, vr⟩ = true by simp [mayQ, namQ, hnm, hv0, verQ, hiv, wordQ])
                  clear hnm hv0 hiv
                  go_wp2_with fail
                  refine (rname_any nm HSN.out _).mono ?_
                  rintro e w2 ⟨rfl, hw2⟩
                  subst hw2
                  rw [HNM.out]
                  go_wp2_with fail
                  refine (rIs_any vr _).mono ?_
                  rintro e w3 ⟨rfl, hb3⟩
                  rw [HIV.out]
                  have HB3 := Lib.hid (below_next HB1.out hb3)
                  clear hb3
                  go_wp2
                  go_roundw
                  case rel => exact ⟨k + 1, by omega, by simp, qall_step HST.out HA.out HMT.out, HB3.out⟩
                  case measure => (try simp only [intOf]); omega
          · rcases hnm : nameS nm
            · have HNM := Lib.hid hnm
              have HMF := Lib.hid (show mayQ ⟨2, nm, vr⟩ = false by simp [mayQ, namQ, hnm])
              clear hnm
              go_wp2_with fail
              refine (rname_any nm HSN.out _).mono ?_
              rintro e w2 ⟨rfl, hw2⟩
              subst hw2
              rw [HNM.out]
              have HG := Lib.hid (HG.out.trans (mayQs_form HN.out HST.out HMF.out))
              go_wp2
              go_ret
              exact ⟨by rw [HG.out]; rfl, HB1.out⟩
            · have HNM := Lib.hid hnm
              by_cases hv0 : vr = []
              · have hvb : vr.isEmpty = true := by simpa using hv0
                have HMT := Lib.hid (show mayQ ⟨2, nm, vr⟩ = true by simp [mayQ, namQ, hnm, hv0, wordQ])
                clear hnm hv0
                go_wp2_with fail
                refine (rname_any nm HSN.out _).mono ?_
                rintro e w2 ⟨rfl, hw2⟩
                subst hw2
                rw [HNM.out]
                go_wp2
                go_roundw
                case rel => exact ⟨k + 1, by omega, by simp, qall_step HST.out HA.out HMT.out, HB1.out⟩
                case measure => (try simp only [intOf]); omega
              · have hvb : vr.isEmpty = false := by simpa using hv0
                have HMF := Lib.hid (show mayQ ⟨2, nm, vr⟩ = false by simp [mayQ, namQ, hnm, hv0, verQ])
                clear hnm hv0
                go_wp2_with fail
                refine (rname_any nm HSN.out _).mono ?_
                rintro e w2 ⟨rfl, hw2⟩
                subst hw2
                rw [HNM.out]
                have HG := Lib.hid (HG.out.trans (mayQs_form HN.out HST.out HMF.out))
                go_wp2
                go_ret
                exact ⟨by rw [HG.out]; rfl, HB1.out⟩
          · by_cases hn0 : nm = []
            · have hnb : nm.isEmpty = true := by simpa using hn0
              by_cases hv0 : vr = []
              · have hvb : vr.isEmpty = true := by simpa using hv0
                have HMT := Lib.hid (show mayQ ⟨3, nm, vr⟩ = true by simp [mayQ, namQ, hn0, hv0, wordQ])
                clear hn0 hv0
                go_wp2
                go_roundw
                case rel => exact ⟨k + 1, by omega, by simp, qall_step HST.out HA.out HMT.out, HB1.out⟩
                case measure => (try simp only [intOf]); omega
              · have hvb : vr.isEmpty = false := by simpa using hv0
                have HMF := Lib.hid (show mayQ ⟨3, nm, vr⟩ = false by simp [mayQ, namQ, hv0, verQ])
                clear hn0 hv0
                have HG := Lib.hid (HG.out.trans (mayQs_form HN.out HST.out HMF.out))
                go_wp2
                go_ret
                exact ⟨by rw [HG.out]; rfl, HB1.out⟩
            · have hnb : nm.isEmpty = false := by simpa using hn0
              have HMF := Lib.hid (show mayQ ⟨3, nm, vr⟩ = false by simp [mayQ, namQ, hn0])
              clear hn0
              have HG := Lib.hid (HG.out.trans (mayQs_form HN.out HST.out HMF.out))
              go_wp2
              go_ret
              exact ⟨by rw [HG.out]; rfl, HB1.out⟩
          · by_cases hn0 : nm = []
            · have hnb : nm.isEmpty = true := by simpa using hn0
              by_cases hv0 : vr = []
              · have hvb : vr.isEmpty = true := by simpa using hv0
                have HMT := Lib.hid (show mayQ ⟨4, nm, vr⟩ = true by simp [mayQ, namQ, hn0, hv0, wordQ])
                clear hn0 hv0
                go_wp2
                go_roundw
                case rel => exact ⟨k + 1, by omega, by simp, qall_step HST.out HA.out HMT.out, HB1.out⟩
                case measure => (try simp only [intOf]); omega
              · have hvb : vr.isEmpty = false := by simpa using hv0
                have HMF := Lib.hid (show mayQ ⟨4, nm, vr⟩ = false by simp [mayQ, namQ, hv0, verQ])
                clear hn0 hv0
                have HG := Lib.hid (HG.out.trans (mayQs_form HN.out HST.out HMF.out))
                go_wp2
                go_ret
                exact ⟨by rw [HG.out]; rfl, HB1.out⟩
            · have hnb : nm.isEmpty = false := by simpa using hn0
              have HMF := Lib.hid (show mayQ ⟨4, nm, vr⟩ = false by simp [mayQ, namQ, hn0])
              clear hn0
              have HG := Lib.hid (HG.out.trans (mayQs_form HN.out HST.out HMF.out))
              go_wp2
              go_ret
              exact ⟨by rw [HG.out]; rfl, HB1.out⟩
          · rcases hnm : nameS nm
            · have HNM := Lib.hid hnm
              have HMF := Lib.hid (show mayQ ⟨5, nm, vr⟩ = false by simp [mayQ, namQ, hnm])
              clear hnm
              go_wp2_with fail
              refine (rname_any nm HSN.out _).mono ?_
              rintro e w2 ⟨rfl, hw2⟩
              subst hw2
              rw [HNM.out]
              have HG := Lib.hid (HG.out.trans (mayQs_form HN.out HST.out HMF.out))
              go_wp2
              go_ret
              exact ⟨by rw [HG.out]; rfl, HB1.out⟩
            · have HNM := Lib.hid hnm
              by_cases hv0 : vr = []
              · have hvb : vr.isEmpty = true := by simpa using hv0
                have HMT := Lib.hid (show mayQ ⟨5, nm, vr⟩ = true by simp [mayQ, namQ, hnm, hv0, wordQ])
                clear hnm hv0
                go_wp2_with fail
                refine (rname_any nm HSN.out _).mono ?_
                rintro e w2 ⟨rfl, hw2⟩
                subst hw2
                rw [HNM.out]
                go_wp2
                go_roundw
                case rel => exact ⟨k + 1, by omega, by simp, qall_step HST.out HA.out HMT.out, HB1.out⟩
                case measure => (try simp only [intOf]); omega
              · have hvb : vr.isEmpty = false := by simpa using hv0
                have HMF := Lib.hid (show mayQ ⟨5, nm, vr⟩ = false by simp [mayQ, namQ, hnm, hv0, verQ])
                clear hnm hv0
                go_wp2_with fail
                refine (rname_any nm HSN.out _).mono ?_
                rintro e w2 ⟨rfl, hw2⟩
                subst hw2
                rw [HNM.out]
                have HG := Lib.hid (HG.out.trans (mayQs_form HN.out HST.out HMF.out))
                go_wp2
                go_ret
                exact ⟨by rw [HG.out]; rfl, HB1.out⟩
          · rcases hnm : nameS nm
            · have HNM := Lib.hid hnm
              have HMF := Lib.hid (show mayQ ⟨6, nm, vr⟩ = false by simp [mayQ, namQ, hnm])
              clear hnm
              go_wp2_with fail
              refine (rname_any nm HSN.out _).mono ?_
              rintro e w2 ⟨rfl, hw2⟩
              subst hw2
              rw [HNM.out]
              have HG := Lib.hid (HG.out.trans (mayQs_form HN.out HST.out HMF.out))
              go_wp2
              go_ret
              exact ⟨by rw [HG.out]; rfl, HB1.out⟩
            · have HNM := Lib.hid hnm
              by_cases hv0 : vr = []
              · have hvb : vr.isEmpty = true := by simpa using hv0
                have HMT := Lib.hid (show mayQ ⟨6, nm, vr⟩ = true by simp [mayQ, namQ, hnm, hv0, wordQ])
                clear hnm hv0
                go_wp2_with fail
                refine (rname_any nm HSN.out _).mono ?_
                rintro e w2 ⟨rfl, hw2⟩
                subst hw2
                rw [HNM.out]
                go_wp2
                go_roundw
                case rel => exact ⟨k + 1, by omega, by simp, qall_step HST.out HA.out HMT.out, HB1.out⟩
                case measure => (try simp only [intOf]); omega
              · have hvb : vr.isEmpty = false := by simpa using hv0
                have HMF := Lib.hid (show mayQ ⟨6, nm, vr⟩ = false by simp [mayQ, namQ, hnm, hv0, verQ])
                clear hnm hv0
                go_wp2_with fail
                refine (rname_any nm HSN.out _).mono ?_
                rintro e w2 ⟨rfl, hw2⟩
                subst hw2
                rw [HNM.out]
                have HG := Lib.hid (HG.out.trans (mayQs_form HN.out HST.out HMF.out))
                go_wp2
                go_ret
                exact ⟨by rw [HG.out]; rfl, HB1.out⟩
          · by_cases hn0 : nm = []
            · have hnb : nm.isEmpty = true := by simpa using hn0
              by_cases hv0 : vr = []
              · have hvb : vr.isEmpty = true := by simpa using hv0
                have HMT := Lib.hid (show mayQ ⟨7, nm, vr⟩ = true by simp [mayQ, namQ, hn0, hv0, wordQ])
                clear hn0 hv0
                go_wp2
                go_roundw
                case rel => exact ⟨k + 1, by omega, by simp, qall_step HST.out HA.out HMT.out, HB1.out⟩
                case measure => (try simp only [intOf]); omega
              · have hvb : vr.isEmpty = false := by simpa using hv0
                have HMF := Lib.hid (show mayQ ⟨7, nm, vr⟩ = false by simp [mayQ, namQ, hv0, verQ])
                clear hn0 hv0
                have HG := Lib.hid (HG.out.trans (mayQs_form HN.out HST.out HMF.out))
                go_wp2
                go_ret
                exact ⟨by rw [HG.out]; rfl, HB1.out⟩
            · have hnb : nm.isEmpty = false := by simpa using hn0
              have HMF := Lib.hid (show mayQ ⟨7, nm, vr⟩ = false by simp [mayQ, namQ, hn0])
              clear hn0
              have HG := Lib.hid (HG.out.trans (mayQs_form HN.out HST.out HMF.out))
              go_wp2
              go_ret
              exact ⟨by rw [HG.out]; rfl, HB1.out⟩
        · have HMF := Lib.hid (show mayQ ⟨kd, nm, vr⟩ = false by unfold mayQ; dsimp only; rw [(wordQ_nil kd).2 hk7]; rfl)
          have k1 : (kd == 1) = false := by rw [beq_eq_false_iff_ne]; omega
          have k2 : (kd == 2) = false := by rw [beq_eq_false_iff_ne]; omega
          have k5 : (kd == 5) = false := by rw [beq_eq_false_iff_ne]; omega
          have k6 : (kd == 6) = false := by rw [beq_eq_false_iff_ne]; omega
          by_cases h1 : kd < 1
          · have h1 : decide (kd < 1) = true := decide_eq_true h1
            clear hk7
            have HG := Lib.hid (HG.out.trans (mayQs_form HN.out HST.out HMF.out))
            go_wp2
            go_ret
            exact ⟨by rw [HG.out]; rfl, HB1.out⟩
          · have h7 : decide (7 < kd) = true := decide_eq_true (by omega)
            have h1 : decide (kd < 1) = false := decide_eq_false h1
            clear hk7
            have HG := Lib.hid (HG.out.trans (mayQs_form HN.out HST.out HMF.out))
            go_wp2
            go_ret
            exact ⟨by rw [HG.out]; rfl, HB1.out⟩
      · have ha := HA.out
        rw [take_end hk hlt] at ha
        have HG := Lib.hid (show G = if twF sameN [] l || decide (1 < cntE l) then 4 else 0 from HG.out.trans (mayQs_cnt HN.out ha))
        have HB0 := Lib.hid HB.out
        clear ha HA
        go_wp2
        clear hk hlt HB
        go_loopw [6, 84] (fun cv i wr => ∃ k n : Nat, k ≤ l.length ∧ i = .int .i64 k ∧ cv = .int .i64 n ∧ n = cntE (l.take k) ∧ twF sameN [] l = twF sameN (l.take k) (l.drop k) ∧ Below w.heap.size w wr) (fun _ i _ => l.length - (intOf i).toNat)
        case atStart => exact ⟨0, 0, Nat.zero_le _, rfl, rfl, rfl, rfl, HB0.out⟩
        case round =>
          clear HB0
          obtain ⟨k, n, hk, rfl, rfl, hc, ht, hb⟩ := hrel
          have HT := Lib.hid ht
          have HC := Lib.hid hc
          have HB := Lib.hid hb
          have hn6 : n ≤ 6 := by rw [hc]; exact Nat.le_trans (cntE_le _) (by rw [List.length_take]; omega)
          clear ht hb hc
          by_cases hlt : k < l.length
          · obtain ⟨⟨kd, nm, vr⟩, b, o, hst, rfl, e0, e1, e2⟩ := HL.out.at_ hlt (Kept.of_below HB.out)
            have HST := Lib.hid hst
            have HT := Lib.hid (HT.out.trans (twF_step hst))
            have HCS := Lib.hid (cntE_step hst)
            dsimp only at e0 e1 e2
            clear hst
            have hkc : (k : Int) ≤ (c : Int) := by omega
            rcases hne : nm.isEmpty
            · have HC1 := Lib.hid (show n = cntE (l.take (k + 1)) by rw [HCS.out, ← HC.out, show (nm == []) = false by simpa using hne]; rfl)
              go_wp2_with fail
              clear e0 e1 e2
              have K1 := Lib.hid (blk_new1 wr 68 #[.int .i64 kd, .string (bs nm), .string (bs vr)])
              have HB1 := Lib.hid (below_alloc HB.out (.cells #[.int .i64 kd, .string (bs nm), .string (bs vr)] 68))
              generalize wr.alloc (.cells #[.int .i64 kd, .string (bs nm), .string (bs vr)] 68) = W at K1 HB1 ⊢
              generalize wr.heap.size = g at K1 ⊢
              go_loopw [98] (fun i w2 => ∃ j : Nat, j ≤ k ∧ i = .int .i64 j ∧ (l.take j).any (sameN ⟨kd, nm, vr⟩) = false ∧ Below W.heap.size W w2) (fun i _ => k - (intOf i).toNat)
              case atStart => exact ⟨0, Nat.zero_le _, rfl, rfl, Below.refl _ _⟩
              case round =>
                obtain ⟨j, hj, rfl, hn, hb⟩ := hrel
                have HJ := Lib.hid hn
                have HBj := Lib.hid hb
                have K2 := Lib.hid (K1.out.next hb)
                clear hn hb
                by_cases hjk : j < k
                · obtain ⟨⟨kb, nb, vb⟩, b2, o2, hsb, hA2, d0, d1, d2⟩ := HL.out.at_ (show j < l.length by omega) (Kept.of_below (below_next HB1.out HBj.out))
                  obtain ⟨rfl, rfl⟩ : b = b2 ∧ o = o2 := by injection hA2 with hA; injection hA with h1 h2; exact ⟨h1, h2⟩
                  have HSB := Lib.hid hsb
                  have HAN := Lib.hid (fun (h : sameN ⟨kd, nm, vr⟩ ⟨kb, nb, vb⟩ = true) => show G = 4 by
                    rw [HG.out, HT.out, List.any_eq_true.2 ⟨_, List.mem_of_getElem? (show (l.take k)[j]? = some ⟨kb, nb, vb⟩ by rw [List.getElem?_take, if_pos hjk]; exact hsb), h⟩]
                    rfl)
                  dsimp only at d0 d1 d2
                  have HBB := Lib.hid (below_next HB1.out (below_alloc HBj.out (.cells #[.int .i64 kb, .string (bs nb), .string (bs vb)] 68)))
                  have HBI := Lib.hid (below_alloc HBj.out (.cells #[.int .i64 kb, .string (bs nb), .string (bs vb)] 68))
                  have p0 := fun (o : Obj) => (K2.out.alloc o).cell 0
                  have p1 := fun (o : Obj) => (K2.out.alloc o).cell 1
                  have p2 := fun (o : Obj) => (K2.out.alloc o).cell 2
                  simp only [List.getElem?_toArray, List.getElem?_cons_zero, List.getElem?_cons_succ] at p0 p1 p2
                  clear hsb hA2
                  by_cases hq : nm = nb
                  · have hqb : (nb == nm) = true := by simpa using hq.symm
                    have HG := Lib.hid (HAN.out (by unfold sameN; dsimp only; rw [show (nm == []) = false by simpa using hne, show (nm == nb) = true by simpa using hq]; rfl))
                    clear hq
                    go_wp2
                    go_ret
                    exact ⟨by rw [HG.out]; rfl, HBB.out⟩
                  · have hqb : (nb == nm) = false := by simpa using fun h => hq h.symm
                    have HP := Lib.hid (show sameN ⟨kd, nm, vr⟩ ⟨kb, nb, vb⟩ = false by simp [sameN, hq])
                    clear hq
                    go_wp2
                    go_roundw
                    case rel => exact ⟨j + 1, by omega, by simp, any_step HSB.out HP.out HJ.out, HBI.out⟩
                    case measure => (try simp only [intOf]); omega
                · obtain rfl : j = k := by omega
                  have HT := Lib.hid (show twF sameN [] l = twF sameN (l.take (j + 1)) (l.drop (j + 1)) by rw [HT.out, HJ.out]; rfl)
                  go_wp2
                  go_roundw
                  case rel => exact ⟨j + 1, n, by omega, by simp, by first | rfl | simp, HC1.out, HT.out, below_next HB1.out HBj.out⟩
                  case measure => (try simp only [intOf]); omega
            · have HC1 := Lib.hid (show n + 1 = cntE (l.take (k + 1)) by rw [HCS.out, ← HC.out, show (nm == []) = true by simpa using hne]; rfl)
              go_wp2_with fail
              clear e0 e1 e2
              have K1 := Lib.hid (blk_new1 wr 68 #[.int .i64 kd, .string (bs nm), .string (bs vr)])
              have HB1 := Lib.hid (below_alloc HB.out (.cells #[.int .i64 kd, .string (bs nm), .string (bs vr)] 68))
              generalize wr.alloc (.cells #[.int .i64 kd, .string (bs nm), .string (bs vr)] 68) = W at K1 HB1 ⊢
              generalize wr.heap.size = g at K1 ⊢
              go_loopw [98] (fun i w2 => ∃ j : Nat, j ≤ k ∧ i = .int .i64 j ∧ (l.take j).any (sameN ⟨kd, nm, vr⟩) = false ∧ Below W.heap.size W w2) (fun i _ => k - (intOf i).toNat)
              case atStart => exact ⟨0, Nat.zero_le _, rfl, rfl, Below.refl _ _⟩
              case round =>
                obtain ⟨j, hj, rfl, hn, hb⟩ := hrel
                have HJ := Lib.hid hn
                have HBj := Lib.hid hb
                have K2 := Lib.hid (K1.out.next hb)
                clear hn hb
                by_cases hjk : j < k
                · obtain ⟨⟨kb, nb, vb⟩, b2, o2, hsb, hA2, d0, d1, d2⟩ := HL.out.at_ (show j < l.length by omega) (Kept.of_below (below_next HB1.out HBj.out))
                  obtain ⟨rfl, rfl⟩ : b = b2 ∧ o = o2 := by injection hA2 with hA; injection hA with h1 h2; exact ⟨h1, h2⟩
                  have HSB := Lib.hid hsb
                  have HAN := Lib.hid (fun (h : sameN ⟨kd, nm, vr⟩ ⟨kb, nb, vb⟩ = true) => show G = 4 by
                    rw [HG.out, HT.out, List.any_eq_true.2 ⟨_, List.mem_of_getElem? (show (l.take k)[j]? = some ⟨kb, nb, vb⟩ by rw [List.getElem?_take, if_pos hjk]; exact hsb), h⟩]
                    rfl)
                  dsimp only at d0 d1 d2
                  have HBB := Lib.hid (below_next HB1.out (below_alloc HBj.out (.cells #[.int .i64 kb, .string (bs nb), .string (bs vb)] 68)))
                  have HBI := Lib.hid (below_alloc HBj.out (.cells #[.int .i64 kb, .string (bs nb), .string (bs vb)] 68))
                  have p0 := fun (o : Obj) => (K2.out.alloc o).cell 0
                  have p1 := fun (o : Obj) => (K2.out.alloc o).cell 1
                  have p2 := fun (o : Obj) => (K2.out.alloc o).cell 2
                  simp only [List.getElem?_toArray, List.getElem?_cons_zero, List.getElem?_cons_succ] at p0 p1 p2
                  clear hsb hA2
                  have HP := Lib.hid (show sameN ⟨kd, nm, vr⟩ ⟨kb, nb, vb⟩ = false by simp [sameN, show nm = [] by simpa using hne])
                  go_wp2
                  go_roundw
                  case rel => exact ⟨j + 1, by omega, by simp, any_step HSB.out HP.out HJ.out, HBI.out⟩
                  case measure => (try simp only [intOf]); omega
                · obtain rfl : j = k := by omega
                  have HT := Lib.hid (show twF sameN [] l = twF sameN (l.take (j + 1)) (l.drop (j + 1)) by rw [HT.out, HJ.out]; rfl)
                  go_wp2
                  go_roundw
                  case rel => exact ⟨j + 1, n + 1, by omega, by simp, by first | rfl | simp, HC1.out, HT.out, below_next HB1.out HBj.out⟩
                  case measure => (try simp only [intOf]); omega
          · have ht := HT.out.trans (twF_end (by omega))
            have hc := HC.out
            rw [take_end hk hlt] at hc
            rw [ht, ← hc] at HG
            by_cases h1 : 1 < n
            · have HG := Lib.hid (show G = 4 by rw [HG.out, decide_eq_true h1]; rfl)
              have h1a : decide ((1 : Int) < (n : Int)) = true := decide_eq_true (by omega)
              have h1b : decide (1 < n) = true := decide_eq_true h1
              go_wp2
              go_ret
              exact ⟨by rw [HG.out]; rfl, HB.out⟩
            · have HG := Lib.hid (show G = 0 by rw [HG.out, decide_eq_false h1]; rfl)
              have h1a : decide ((1 : Int) < (n : Int)) = false := decide_eq_false (by omega)
              have h1b : decide (1 < n) = false := decide_eq_false h1
              go_wp2
              go_ret
              exact ⟨by rw [HG.out]; rfl, HB.out⟩
set_option maxRecDepth 100000 in
theorem rhas_any (l : List Stp) (A : Option Addr) (c : Nat) (kd : Int) (w : World) (hl : Stps w A c l) :
    Calls Tryz.prog 53 #[.slice A l.length c, .int .i64 kd] w fun e w' => e = .returned (.bool (l.any fun a => a.kind == kd)) ∧ Below w.heap.size w w' := by
  have HL := Lib.hid hl
  have hbl := Slc.bd hl
  clear hl
  obtain ⟨p, hp⟩ : ∃ p : Stp → Bool, p = fun a => a.kind == kd := ⟨_, rfl⟩
  rw [← hp]
  have HP := Lib.hid hp
  clear hp
  go_enter Tryz.func53, Tryz.ntmps53
  go_wp2
  go_loopw [9] (fun i wr => ∃ k : Nat, k ≤ l.length ∧ i = .int .i64 k ∧ (l.take k).any p = false ∧ Below w.heap.size w wr) (fun i _ => l.length - (intOf i).toNat)
  case atStart => exact ⟨0, Nat.zero_le _, rfl, rfl, Below.refl _ _⟩
  case round =>
    obtain ⟨k, hk, rfl, hn, hb⟩ := hrel
    have HN := Lib.hid hn
    have HB := Lib.hid hb
    clear hn hb
    by_cases hlt : k < l.length
    · obtain ⟨⟨ka, nm, vr⟩, b, o, hst, rfl, e0, e1, e2⟩ := HL.out.at_ hlt (Kept.of_below HB.out)
      have HST := Lib.hid hst
      dsimp only at e0 e1 e2
      clear hst
      by_cases hk2 : ka = kd
      · have hkb : (ka == kd) = true := by simpa using hk2
        have HA := Lib.hid (show l.any p = true from List.any_eq_true.2 ⟨_, List.mem_of_getElem? HST.out, by rw [HP.out]; simpa using hk2⟩)
        clear hk2
        go_wp2
        go_ret
        exact ⟨by rw [HA.out]; rfl, below_alloc HB.out _⟩
      · have hkb : (ka == kd) = false := by simpa using hk2
        have HA := Lib.hid (show p ⟨ka, nm, vr⟩ = false by rw [HP.out]; simpa using hk2)
        clear hk2
        go_wp2
        go_roundw
        case rel => exact ⟨k + 1, by omega, by simp, any_step HST.out HA.out HN.out, below_alloc HB.out _⟩
        case measure => (try simp only [intOf]); omega
    · have hn := HN.out
      rw [take_end hk hlt] at hn
      have HN := Lib.hid hn
      clear hn
      go_wp2
      go_ret
      exact ⟨by rw [HN.out]; rfl, HB.out⟩
end Go.Proofs.YtaicidbopgnmfaaGreatDoor
namespace Go.Proofs.YtaicidbopgnmfaaGreatDoor
set_option linter.unusedSimpArgs false
set_option linter.unusedVariables false
open Go.RowKit
attribute [local go_sem ↓] Go.wp_at_zero Go.wp_at_succ
def exactQ (a : Stp) : Bool := a.kind == 1 && !(a.ver == [])
def freeQ (a : Stp) : Bool := a.kind == 6 || a.kind == 2 || exactQ a
def kindQ (k : Int) (a : Stp) : Bool := a.kind == k
def namB (p : Stp → Bool) (n : List UInt8) (a : Stp) : Bool := (a.name == n) && p a
set_option maxRecDepth 100000 in
theorem exact_any (k : Int) (n v : List UInt8) (w : World) : Calls Tryz.prog 135 #[(.agg #[.int .i64 k, .string (bs n), .string (bs v)])] w fun e w' => e = .returned (.bool (exactQ ⟨k, n, v⟩)) ∧ Below w.heap.size w w' := by
  by_cases hk : k = 1
  · have hkb : (k == 1) = true := by simpa using hk
    have HG := Lib.hid (show exactQ ⟨k, n, v⟩ = !v.isEmpty by simp [exactQ, hk])
    clear hk
    go_enter Tryz.func135, Tryz.ntmps135
    go_wp2
    go_ret
    exact ⟨by rw [HG.out]; rfl, below_alloc (Below.refl _ _) _⟩
  · have hkb : (k == 1) = false := by simpa using hk
    have HG := Lib.hid (show exactQ ⟨k, n, v⟩ = false by simp [exactQ, hk])
    clear hk
    go_enter Tryz.func135, Tryz.ntmps135
    go_wp2
    go_ret
    exact ⟨by rw [HG.out]; rfl, below_alloc (Below.refl _ _) _⟩
set_option maxRecDepth 100000 in
theorem frees_any (k : Int) (n v : List UInt8) (w : World) : Calls Tryz.prog 88 #[(.agg #[.int .i64 k, .string (bs n), .string (bs v)])] w fun e w' => e = .returned (.bool (freeQ ⟨k, n, v⟩)) ∧ Below w.heap.size w w' := by
  obtain ⟨G, hG⟩ : ∃ G, G = freeQ ⟨k, n, v⟩ := ⟨_, rfl⟩
  rw [← hG]
  by_cases h6 : k = 6
  · have hkb : (k == 6) = true := by simpa using h6
    have HG := Lib.hid (show G = true by rw [hG]; simp [freeQ, h6])
    clear h6 hG
    go_enter Tryz.func88, Tryz.ntmps88
    go_wp2
    go_ret
    exact ⟨by rw [HG.out]; rfl, below_alloc (Below.refl _ _) _⟩
  · have hkb : (k == 6) = false := by simpa using h6
    by_cases h2 : k = 2
    · have hkc : (k == 2) = true := by simpa using h2
      have HG := Lib.hid (show G = true by rw [hG]; simp [freeQ, h2])
      clear h6 h2 hG
      go_enter Tryz.func88, Tryz.ntmps88
      go_wp2
      go_ret
      exact ⟨by rw [HG.out]; rfl, below_alloc (Below.refl _ _) _⟩
    · have hkc : (k == 2) = false := by simpa using h2
      have HG := Lib.hid (show G = exactQ ⟨k, n, v⟩ by rw [hG]; simp [freeQ, h2, h6])
      clear h6 h2 hG
      go_enter Tryz.func88, Tryz.ntmps88
      go_wp2_with fail
      refine (exact_any k n v _).mono ?_
      rintro e w2 ⟨rfl, hb2⟩
      rw [← HG.out]
      have HB := Lib.hid (below_next (below_alloc (Below.refl w.heap.size w) (.cells #[.int .i64 k, .string (bs n), .string (bs v)] 68)) hb2)
      clear hb2
      go_wp2
      go_ret
      exact ⟨rfl, HB.out⟩
set_option maxRecDepth 100000 in
theorem kindF_any (k : Int) (w : World) : Calls Tryz.prog 89 #[.int .i64 k] w fun e w' => e = .returned (.func (.func 139) #[] #[.pointer (some ⟨w.heap.size, 0, none⟩)]) ∧ w' = w.alloc (.cells #[.int .i64 k] 3) := by
  go_enter Tryz.func89, Tryz.ntmps89
  go_wp2
  go_ret
  exact ⟨rfl, rfl⟩
set_option maxRecDepth 100000 in
theorem kind1_any (k0 k : Int) (n v : List UInt8) (g : Nat) (w : World) (hg : Blk w g 3 #[.int .i64 k0]) : Calls Tryz.prog 139 #[(.agg #[.int .i64 k, .string (bs n), .string (bs v)]), .pointer (some ⟨g, 0, none⟩)] w fun e w' => e = .returned (.bool (kindQ k0 ⟨k, n, v⟩)) ∧ Below w.heap.size w w' := by
  have c0 := fun (o : Obj) => (hg.alloc o).cell 0
  simp only [List.getElem?_toArray, List.getElem?_cons_zero, List.getElem?_cons_succ] at c0
  go_enter Tryz.func139, Tryz.ntmps139
  go_wp2
  go_ret
  exact ⟨rfl, below_alloc (Below.refl _ _) _⟩
set_option maxRecDepth 100000 in
theorem named_frees (l : List Stp) (A : Option Addr) (c : Nat) (n : List UInt8) (w : World) (hl : Stps w A c l)  :
    Calls Tryz.prog 87 #[.slice A l.length c, .string (bs n), .func (.func 88) #[] #[]] w fun e w' => e = .returned (.bool (l.any (namB (freeQ) n))) ∧ Below w.heap.size w w' := by
  have HL := Lib.hid hl
  have HY := Lib.hid ((trivial : True))
  have hbl := Slc.bd hl
  obtain ⟨p, hp⟩ : ∃ p, p = namB (freeQ) n := ⟨_, rfl⟩
  rw [← hp]
  have HP := Lib.hid hp
  clear hl hp
  go_enter Tryz.func87, Tryz.ntmps87
  go_wp2
  go_loopw [11] (fun i wr => ∃ k : Nat, k ≤ l.length ∧ i = .int .i64 k ∧ (l.take k).any p = false ∧ Below w.heap.size w wr) (fun i _ => l.length - (intOf i).toNat)
  case atStart => exact ⟨0, Nat.zero_le _, rfl, rfl, Below.refl _ _⟩
  case round =>
    obtain ⟨k, hk, rfl, hn, hb⟩ := hrel
    have HN := Lib.hid hn
    have HB := Lib.hid hb
    clear hn hb
    by_cases hlt : k < l.length
    · obtain ⟨⟨ka, nm, vr⟩, b, o, hst, rfl, e0, e1, e2⟩ := HL.out.at_ hlt (Kept.of_below HB.out)
      have HST := Lib.hid hst
      dsimp only at e0 e1 e2
      clear hst
      by_cases hq : nm = n
      · have hqb : (nm == n) = true := by simpa using hq
        have HV := Lib.hid (show p ⟨ka, nm, vr⟩ = (freeQ) ⟨ka, nm, vr⟩ by rw [HP.out]; simp [namB, hq])
        clear hq
        go_wp2_with fail
        clear e0 e1 e2
        have HBA := Lib.hid (below_alloc HB.out (.cells #[.int .i64 ka, .string (bs nm), .string (bs vr)] 68))
        refine (frees_any _ _ _ _).mono ?_
        rintro e w2 ⟨rfl, hb2⟩
        rw [← HV.out]
        have HB2 := Lib.hid (below_next HBA.out hb2)
        clear hb2 HV
        rcases hv : p ⟨ka, nm, vr⟩
        · have HF := Lib.hid hv
          clear hv
          go_wp2
          go_roundw
          case rel => exact ⟨k + 1, by omega, by simp, any_step HST.out HF.out HN.out, HB2.out⟩
          case measure => (try simp only [intOf]); omega
        · have HA := Lib.hid (show l.any p = true from List.any_eq_true.2 ⟨_, List.mem_of_getElem? HST.out, hv⟩)
          clear hv
          go_wp2
          go_ret
          exact ⟨by rw [HA.out]; rfl, HB2.out⟩
      · have hqb : (nm == n) = false := by simpa using hq
        have HF := Lib.hid (show p ⟨ka, nm, vr⟩ = false by rw [HP.out]; simp [namB, hq])
        clear hq
        go_wp2
        go_roundw
        case rel => exact ⟨k + 1, by omega, by simp, any_step HST.out HF.out HN.out, below_alloc HB.out _⟩
        case measure => (try simp only [intOf]); omega
    · have hn := HN.out
      rw [take_end hk hlt] at hn
      have HN := Lib.hid hn
      clear hn
      go_wp2
      go_ret
      exact ⟨by rw [HN.out]; rfl, HB.out⟩
set_option maxRecDepth 100000 in
theorem named_exact (l : List Stp) (A : Option Addr) (c : Nat) (n : List UInt8) (w : World) (hl : Stps w A c l)  :
    Calls Tryz.prog 87 #[.slice A l.length c, .string (bs n), .func (.func 135) #[] #[]] w fun e w' => e = .returned (.bool (l.any (namB (exactQ) n))) ∧ Below w.heap.size w w' := by
  have HL := Lib.hid hl
  have HY := Lib.hid ((trivial : True))
  have hbl := Slc.bd hl
  obtain ⟨p, hp⟩ : ∃ p, p = namB (exactQ) n := ⟨_, rfl⟩
  rw [← hp]
  have HP := Lib.hid hp
  clear hl hp
  go_enter Tryz.func87, Tryz.ntmps87
  go_wp2
  go_loopw [11] (fun i wr => ∃ k : Nat, k ≤ l.length ∧ i = .int .i64 k ∧ (l.take k).any p = false ∧ Below w.heap.size w wr) (fun i _ => l.length - (intOf i).toNat)
  case atStart => exact ⟨0, Nat.zero_le _, rfl, rfl, Below.refl _ _⟩
  case round =>
    obtain ⟨k, hk, rfl, hn, hb⟩ := hrel
    have HN := Lib.hid hn
    have HB := Lib.hid hb
    clear hn hb
    by_cases hlt : k < l.length
    · obtain ⟨⟨ka, nm, vr⟩, b, o, hst, rfl, e0, e1, e2⟩ := HL.out.at_ hlt (Kept.of_below HB.out)
      have HST := Lib.hid hst
      dsimp only at e0 e1 e2
      clear hst
      by_cases hq : nm = n
      · have hqb : (nm == n) = true := by simpa using hq
        have HV := Lib.hid (show p ⟨ka, nm, vr⟩ = (exactQ) ⟨ka, nm, vr⟩ by rw [HP.out]; simp [namB, hq])
        clear hq
        go_wp2_with fail
        clear e0 e1 e2
        have HBA := Lib.hid (below_alloc HB.out (.cells #[.int .i64 ka, .string (bs nm), .string (bs vr)] 68))
        refine (exact_any _ _ _ _).mono ?_
        rintro e w2 ⟨rfl, hb2⟩
        rw [← HV.out]
        have HB2 := Lib.hid (below_next HBA.out hb2)
        clear hb2 HV
        rcases hv : p ⟨ka, nm, vr⟩
        · have HF := Lib.hid hv
          clear hv
          go_wp2
          go_roundw
          case rel => exact ⟨k + 1, by omega, by simp, any_step HST.out HF.out HN.out, HB2.out⟩
          case measure => (try simp only [intOf]); omega
        · have HA := Lib.hid (show l.any p = true from List.any_eq_true.2 ⟨_, List.mem_of_getElem? HST.out, hv⟩)
          clear hv
          go_wp2
          go_ret
          exact ⟨by rw [HA.out]; rfl, HB2.out⟩
      · have hqb : (nm == n) = false := by simpa using hq
        have HF := Lib.hid (show p ⟨ka, nm, vr⟩ = false by rw [HP.out]; simp [namB, hq])
        clear hq
        go_wp2
        go_roundw
        case rel => exact ⟨k + 1, by omega, by simp, any_step HST.out HF.out HN.out, below_alloc HB.out _⟩
        case measure => (try simp only [intOf]); omega
    · have hn := HN.out
      rw [take_end hk hlt] at hn
      have HN := Lib.hid hn
      clear hn
      go_wp2
      go_ret
      exact ⟨by rw [HN.out]; rfl, HB.out⟩
set_option maxRecDepth 100000 in
theorem named_kind (l : List Stp) (A : Option Addr) (c : Nat) (n : List UInt8) (w : World) (hl : Stps w A c l) {k0 : Int} {g0 : Nat} (hg : Blk w g0 3 #[.int .i64 k0]) :
    Calls Tryz.prog 87 #[.slice A l.length c, .string (bs n), .func (.func 139) #[] #[.pointer (some ⟨g0, 0, none⟩)]] w fun e w' => e = .returned (.bool (l.any (namB (kindQ k0) n))) ∧ Below w.heap.size w w' := by
  have HL := Lib.hid hl
  have HY := Lib.hid (hg)
  have hbl := Slc.bd hl
  obtain ⟨p, hp⟩ : ∃ p, p = namB (kindQ k0) n := ⟨_, rfl⟩
  rw [← hp]
  have HP := Lib.hid hp
  clear hl hp
  go_enter Tryz.func87, Tryz.ntmps87
  go_wp2
  go_loopw [11] (fun i wr => ∃ k : Nat, k ≤ l.length ∧ i = .int .i64 k ∧ (l.take k).any p = false ∧ Below w.heap.size w wr) (fun i _ => l.length - (intOf i).toNat)
  case atStart => exact ⟨0, Nat.zero_le _, rfl, rfl, Below.refl _ _⟩
  case round =>
    obtain ⟨k, hk, rfl, hn, hb⟩ := hrel
    have HN := Lib.hid hn
    have HB := Lib.hid hb
    clear hn hb
    by_cases hlt : k < l.length
    · obtain ⟨⟨ka, nm, vr⟩, b, o, hst, rfl, e0, e1, e2⟩ := HL.out.at_ hlt (Kept.of_below HB.out)
      have HST := Lib.hid hst
      dsimp only at e0 e1 e2
      clear hst
      by_cases hq : nm = n
      · have hqb : (nm == n) = true := by simpa using hq
        have HV := Lib.hid (show p ⟨ka, nm, vr⟩ = (kindQ k0) ⟨ka, nm, vr⟩ by rw [HP.out]; simp [namB, hq])
        clear hq
        go_wp2_with fail
        clear e0 e1 e2
        have HBA := Lib.hid (below_alloc HB.out (.cells #[.int .i64 ka, .string (bs nm), .string (bs vr)] 68))
        refine (kind1_any k0 _ _ _ g0 _ (HY.out.next HBA.out)).mono ?_
        rintro e w2 ⟨rfl, hb2⟩
        rw [← HV.out]
        have HB2 := Lib.hid (below_next HBA.out hb2)
        clear hb2 HV
        rcases hv : p ⟨ka, nm, vr⟩
        · have HF := Lib.hid hv
          clear hv
          go_wp2
          go_roundw
          case rel => exact ⟨k + 1, by omega, by simp, any_step HST.out HF.out HN.out, HB2.out⟩
          case measure => (try simp only [intOf]); omega
        · have HA := Lib.hid (show l.any p = true from List.any_eq_true.2 ⟨_, List.mem_of_getElem? HST.out, hv⟩)
          clear hv
          go_wp2
          go_ret
          exact ⟨by rw [HA.out]; rfl, HB2.out⟩
      · have hqb : (nm == n) = false := by simpa using hq
        have HF := Lib.hid (show p ⟨ka, nm, vr⟩ = false by rw [HP.out]; simp [namB, hq])
        clear hq
        go_wp2
        go_roundw
        case rel => exact ⟨k + 1, by omega, by simp, any_step HST.out HF.out HN.out, below_alloc HB.out _⟩
        case measure => (try simp only [intOf]); omega
    · have hn := HN.out
      rw [take_end hk hlt] at hn
      have HN := Lib.hid hn
      clear hn
      go_wp2
      go_ret
      exact ⟨by rw [HN.out]; rfl, HB.out⟩
end Go.Proofs.YtaicidbopgnmfaaGreatDoor
namespace Go.Proofs.YtaicidbopgnmfaaGreatDoor
set_option linter.unusedSimpArgs false
set_option linter.unusedVariables false
open Go.RowKit
def pnB (n : List UInt8) (p : Pkg) : Bool := p.name == n
set_option maxRecDepth 100000 in
set_option maxHeartbeats 1600000 in
theorem qfind_any (A : Option Addr) (c : Nat) (l : List Pkg) (n : List UInt8) (w : World) (hl : Pkgs w A c l) :
    Calls Tryz.prog 134 #[.slice A l.length c, .string (bs n)] w (RetPk w (l.find? (pnB n))) := by
  have hbd := hl.bd
  have HL := Lib.hid hl
  clear hl
  go_enter Tryz.func134, Tryz.ntmps134
  go_wp2
  go_loopw [10] (fun i wr => ∃ k : Nat, k ≤ l.length ∧ i = .int .i64 k ∧ Below w.heap.size w wr ∧ Blk wr w.heap.size 43 #[.string (bs []), .string (bs []), .slice none 0 0, .slice none 0 0, .slice none 0 0, .slice none 0 0, .slice none 0 0, .slice none 0 0, .bool false] ∧ (l.take k).any (pnB n) = false) (fun i _ => l.length - (intOf i).toNat)
  case atStart => exact ⟨0, Nat.zero_le _, rfl, (Below.refl _ _).alloc (Nat.le_refl _) _, blk_new1 _ _ _, rfl⟩
  case round =>
    obtain ⟨k, hk, rfl, hb, hB, hn⟩ := hrel
    have HB := Lib.hid hb
    have HN := Lib.hid hn
    have HBk := Lib.hid hB
    have hsz : w.heap.size < wr.heap.size := hB.lt
    clear hb hn hB
    by_cases hlt : k < l.length
    · obtain ⟨q, b, o, r, hq, rfl, hr, e0, e1, e2, e3, e4, e5, e6, e7, e8⟩ := HL.out.at_ hlt (Kept.of_below HB.out)
      have HQ := Lib.hid hq
      have HR := Lib.hid hr
      clear hq hr
      by_cases hnm : q.name = n
      · have HF := Lib.hid (find_hit HQ.out (show pnB n q = true by simp [pnB, hnm]) HN.out)
        have hnb : (q.name == n) = true := by simpa using hnm
        clear hnm
        obtain ⟨c0, c1, c2, c3, c4, c5, c6, c7, c8⟩ := blk9 HBk.out
        have f0 := HBk.out.frozen 0
        have f1 := HBk.out.frozen 1
        have f2 := HBk.out.frozen 2
        have f3 := HBk.out.frozen 3
        have f4 := HBk.out.frozen 4
        have f5 := HBk.out.frozen 5
        have f6 := HBk.out.frozen 6
        have f7 := HBk.out.frozen 7
        have f8 := HBk.out.frozen 8
        go_wp2_with fail
        refine bodyPost_ret (v := .tuple #[(.agg #[.string (bs (q).name), .string (bs (q).ver), .slice (r).a1 (q).pre.length (r).c1, .slice (r).a2 (q).dep.length (r).c2, .slice (r).a3 (q).rcm.length (r).c3, .slice (r).a4 (q).con.length (r).c4, .slice (r).a5 (q).brk.length (r).c5, .slice (r).a6 (q).prv.length (r).c6, .bool (q).ess]), .bool true]) (by simp [results, Tryz.results134, go_sem, c0, c1, c2, c3, c4, c5, c6, c7, c8, hsz]) rfl ?_
        refine RetPk.some_ HF.out HR.out ?_
        have hb0 := HB.out
        exact below_alloc (((((((((hb0.setCell (Nat.le_refl _) _).setCell (Nat.le_refl _) _).setCell (Nat.le_refl _) _).setCell (Nat.le_refl _) _).setCell (Nat.le_refl _) _).setCell (Nat.le_refl _) _).setCell (Nat.le_refl _) _).setCell (Nat.le_refl _) _).setCell (Nat.le_refl _) _) _
      · have HN1 := Lib.hid (show pnB n q = false by simp [pnB, hnm])
        have hnb : (q.name == n) = false := by simpa using hnm
        clear hnm
        go_wp2_with fail
        go_roundw
        case rel => exact ⟨k + 1, by omega, by simp, by have hb0 := HB.out; (repeat (first | assumption | exact Below.refl _ _ | refine below_next ?_ (by assumption) | refine below_drewN ?_ _ | refine below_alloc ?_ _)), HBk.out.alloc _, any_step HQ.out HN1.out HN.out⟩
        case measure => (try simp only [intOf]); omega
    · have HF := Lib.hid (show l.find? (pnB n) = none from find_at (any_end hk hlt HN.out))
      obtain ⟨c0, c1, c2, c3, c4, c5, c6, c7, c8⟩ := blk9 HBk.out
      have f0 := HBk.out.frozen 0
      have f1 := HBk.out.frozen 1
      have f2 := HBk.out.frozen 2
      have f3 := HBk.out.frozen 3
      have f4 := HBk.out.frozen 4
      have f5 := HBk.out.frozen 5
      have f6 := HBk.out.frozen 6
      have f7 := HBk.out.frozen 7
      have f8 := HBk.out.frozen 8
      go_wp2
      refine bodyPost_ret (v := .tuple #[.agg #[.string (bs []), .string (bs []), .slice none 0 0, .slice none 0 0, .slice none 0 0, .slice none 0 0, .slice none 0 0, .slice none 0 0, .bool false], .bool false]) (by simp [results, Tryz.results134, go_sem, c0, c1, c2, c3, c4, c5, c6, c7, c8, hsz]; rfl) rfl ?_
      rw [HF.out]
      refine ⟨rfl, ?_⟩
      have hb0 := HB.out
      exact (((((((((hb0.setCell (Nat.le_refl _) _).setCell (Nat.le_refl _) _).setCell (Nat.le_refl _) _).setCell (Nat.le_refl _) _).setCell (Nat.le_refl _) _).setCell (Nat.le_refl _) _).setCell (Nat.le_refl _) _).setCell (Nat.le_refl _) _).setCell (Nat.le_refl _) _)
end Go.Proofs.YtaicidbopgnmfaaGreatDoor
namespace Go.Proofs.YtaicidbopgnmfaaGreatDoor
set_option linter.unusedSimpArgs false
set_option linter.unusedVariables false
open Go.RowKit
attribute [local go_sem ↓] Go.wp_at_zero Go.wp_at_succ
theorem pnB_same (n : List UInt8) (p : Pkg) : pnB n p = true ↔ p.name = n := by simp [pnB]
set_option maxRecDepth 100000 in
theorem rfindPk_any (A : Option Addr) (c : Nat) (l : List Pkg) (n : List UInt8) (w : World) (hl : Pkgs w A c l) :
    Calls Tryz.prog 42 #[.slice A l.length c, .string (bs n)] w fun e w' => e = .returned (.int .i64 (idxS (pnB n) l)) ∧ Below w.heap.size w w' := by
  have hbd := hl.bd
  have HL := Lib.hid hl
  clear hl
  go_enter Tryz.func42, Tryz.ntmps42
  go_wp2
  go_loopw [9] (fun i wr => ∃ k : Nat, k ≤ l.length ∧ i = .int .i64 k ∧ Below w.heap.size w wr ∧ (l.take k).any (pnB n) = false) (fun i _ => l.length - (intOf i).toNat)
  case atStart => exact ⟨0, Nat.zero_le _, rfl, Below.refl _ _, rfl⟩
  case round =>
    obtain ⟨k, hk, rfl, hb, hn⟩ := hrel
    have HB := Lib.hid hb
    have HN := Lib.hid hn
    clear hb hn
    by_cases hlt : k < l.length
    · obtain ⟨q, b, o, r, hq, rfl, hr, e0, e1, e2, e3, e4, e5, e6, e7, e8⟩ := HL.out.at_ hlt (Kept.of_below HB.out)
      have HQ := Lib.hid hq
      clear hq hr
      by_cases hnm : q.name = n
      · have hnb : (q.name == n) = true := by simpa using hnm
        have HP := Lib.hid (show pnB n q = true from hnb)
        clear hnm
        go_wp2
        go_ret
        exact ⟨by rw [idx_at HQ.out HP.out HN.out]; rfl, below_alloc HB.out _⟩
      · have hnb : (q.name == n) = false := by simpa using hnm
        have HP := Lib.hid (show pnB n q = false from hnb)
        clear hnm
        go_wp2
        go_roundw
        case rel => exact ⟨k + 1, by omega, by simp, below_alloc HB.out _, any_step HQ.out HP.out HN.out⟩
        case measure => (try simp only [intOf]); omega
    · go_wp2
      go_ret
      exact ⟨by rw [idx_no (any_end hk hlt HN.out)]; rfl, HB.out⟩
/-- does a name stand twice? -/
def twP : List Pkg → List Pkg → Bool
  | _, [] => false
  | pre, a :: l => pre.any (pnB a.name) || twP (pre ++ [a]) l
theorem twP_step {l : List Pkg} {i : Nat} {a : Pkg} (h : l[i]? = some a) : twP (l.take i) (l.drop i) = ((l.take i).any (pnB a.name) || twP (l.take (i + 1)) (l.drop (i + 1))) := by
  obtain ⟨hi, rfl⟩ := List.getElem?_eq_some_iff.1 h
  rw [List.drop_eq_getElem_cons hi, twP, take_step (List.getElem?_eq_getElem hi)]
theorem twP_end {l : List Pkg} {i : Nat} (h : l.length ≤ i) : twP (l.take i) (l.drop i) = false := by
  rw [List.drop_eq_nil_of_le h, twP]
theorem find_some_any {α : Type} {l : List α} {p : α → Bool} : (l.find? p).isSome = l.any p := by
  rw [Bool.eq_iff_iff]
  simp [List.find?_isSome]
theorem Blk.nextOfQ {w w' : World} {g : Nat} {t : TypeId} {cs : Array Value} (hb : Below w.heap.size w w') (h : Blk w g t cs) : Blk w' g t cs := h.next hb
theorem Blk.drewQ {w : World} {g : Nat} {t : TypeId} {cs : Array Value} (h : Blk w g t cs) : Blk w.drew g t cs := h
theorem below_drew {B : Nat} {a w : World} (h : Below B a w) : Below B a w.drew := h.drew
theorem qfind_no (A : Option Addr) (c k : Nat) (l : List Pkg) (n : List UInt8) (hk : l.length = k) (hn : l.find? (pnB n) = none) (w : World) (hl : Pkgs w A c l) :
    Calls Tryz.prog 134 #[.slice A k c, .string (bs n)] w fun e w' => e = .returned (.tuple #[.agg #[.string (bs []), .string (bs []), .slice none 0 0, .slice none 0 0, .slice none 0 0, .slice none 0 0, .slice none 0 0, .slice none 0 0, .bool false], .bool false]) ∧ Below w.heap.size w w' := by
  have h := qfind_any A c l n w hl
  rw [hn, hk] at h
  exact h
theorem qfind_yes (A : Option Addr) (c k : Nat) (l : List Pkg) (n : List UInt8) (q : Pkg) (hk : l.length = k) (hn : l.find? (pnB n) = some q) (w : World) (hl : Pkgs w A c l) :
    Calls Tryz.prog 134 #[.slice A k c, .string (bs n)] w fun e w' => (∃ r, RP w r q ∧ e = .returned (.tuple #[(.agg #[.string (bs (q).name), .string (bs (q).ver), .slice (r).a1 (q).pre.length (r).c1, .slice (r).a2 (q).dep.length (r).c2, .slice (r).a3 (q).rcm.length (r).c3, .slice (r).a4 (q).con.length (r).c4, .slice (r).a5 (q).brk.length (r).c5, .slice (r).a6 (q).prv.length (r).c6, .bool (q).ess]), .bool true])) ∧ Below w.heap.size w w' := by
  have h := qfind_any A c l n w hl
  rw [hn, hk] at h
  exact h
set_option maxRecDepth 100000 in
set_option maxHeartbeats 1000000 in
theorem once_any (A : Option Addr) (c : Nat) (l : List Pkg) (w : World) (hl : Pkgs w A c l) :
    Calls Tryz.prog 79 #[.slice A l.length c] w fun e w' => e = .returned (.bool (!twP [] l)) ∧ Below w.heap.size w w' := by
  have hbd := hl.bd
  have HL := Lib.hid hl
  clear hl
  obtain ⟨G, hG⟩ : ∃ G, G = twP [] l := ⟨_, rfl⟩
  rw [← hG]
  have HG := Lib.hid hG
  clear hG
  go_enter Tryz.func79, Tryz.ntmps79
  go_wp2
  go_loopw [9] (fun i wr => ∃ k : Nat, k ≤ l.length ∧ i = .int .i64 k ∧ G = twP (l.take k) (l.drop k) ∧ Below w.heap.size w wr) (fun i _ => l.length - (intOf i).toNat)
  case atStart => exact ⟨0, Nat.zero_le _, rfl, HG.out, Below.refl _ _⟩
  case round =>
    obtain ⟨k, hk, rfl, hg, hb⟩ := hrel
    have HB := Lib.hid hb
    have HT := Lib.hid hg
    clear hb hg
    by_cases hlt : k < l.length
    · obtain ⟨q, b, o, r, hq, rfl, hr, e0, e1, e2, e3, e4, e5, e6, e7, e8⟩ := HL.out.at_ hlt (Kept.of_below HB.out)
      have HQ := Lib.hid hq
      have HT := Lib.hid (HT.out.trans (twP_step hq))
      clear hq hr
      have hkc : (k : Int) ≤ (c : Int) := by omega
      go_wp2_with fail
      clear e0 e1 e2 e3 e4 e5 e6 e7 e8
      have HLK := Lib.hid (show (l.take k).length = k by rw [List.length_take]; omega)
      have HTK := Lib.hid (show Pkgs w (some ⟨b, o, none⟩) c (l.take k) from Slc.take HL.out k)
      have HFA := Lib.hid (find_some_any (l := l.take k) (p := pnB q.name))
      have hsw := HB.out.size
      rcases hf : (l.take k).find? (pnB q.name) with _ | q2
      · have HFN := Lib.hid hf
        have HT := Lib.hid (show G = twP (l.take (k + 1)) (l.drop (k + 1)) by rw [HT.out, ← HFA.out, hf]; rfl)
        clear hf
        go_region_with (first | (go_at_call 134; refine (qfind_no _ _ k (l.take k) q.name HLK.out HFN.out _ (HTK.out.kept ((((Kept.of_below HB.out).trans (Kept.alloc _ _)).trans (Kept.alloc _ _)).trans (Kept.drew _)))).mono ?_; rintro e w1 ⟨rfl, hb1⟩; have kP := Blk.nextOfQ hb1 (Blk.drewQ (Blk.alloc (blk_new1 wr _ _) _)); obtain ⟨c0, c1, c2, c3, c4, c5, c6, c7, c8⟩ := blk9 kP; have kO := Blk.nextOfQ hb1 (Blk.drewQ (blk_new2 wr _ _ _)); obtain ⟨z0, z1, z2, z3, z4, z5, z6, z7, z8⟩ := blk9 kO; have f0 := kO.frozen 0; have f1 := kO.frozen 1; have f2 := kO.frozen 2; have f3 := kO.frozen 3; have f4 := kO.frozen 4; have f5 := kO.frozen 5; have f6 := kO.frozen 6; have f7 := kO.frozen 7; have f8 := kO.frozen 8; have hsz1 : wr.heap.size < w1.heap.size := kP.lt; have hsz2 : wr.heap.size + 1 < w1.heap.size := kO.lt; have HB1 := Lib.hid (below_next (below_drew (below_alloc (below_alloc HB.out _) _)) hb1)) | (go_at_call 134; refine (qfind_no _ _ k (l.take k) q.name HLK.out HFN.out _ (HTK.out.kept (((Kept.of_below HB.out).trans (Kept.alloc _ _)).trans (Kept.drew _)))).mono ?_; rintro e w1 ⟨rfl, hb1⟩; have kP := Blk.nextOfQ hb1 (Blk.drewQ (blk_new1 wr _ _)); obtain ⟨c0, c1, c2, c3, c4, c5, c6, c7, c8⟩ := blk9 kP; have hsz1 : wr.heap.size < w1.heap.size := kP.lt; have HB1 := Lib.hid (below_next (below_drew (below_alloc HB.out _)) hb1)) )
        all_goals go_wp2_with fail
        all_goals go_roundw
        all_goals first
          | (case rel => exact ⟨k + 1, by omega, by simp, HT.out, by (repeat (first | with_reducible exact HB1.out | with_reducible refine below_alloc ?_ _ | with_reducible refine Below.setCell ?_ (show w.heap.size ≤ _ from by dsimp only; omega) _))⟩)
          | (case measure => (try simp only [intOf]); omega)
      · have HFN := Lib.hid hf
        have HG := Lib.hid (show G = true by rw [HT.out, ← HFA.out, hf]; rfl)
        clear hf
        go_region_with (first | (go_at_call 134; refine (qfind_yes _ _ k (l.take k) q.name q2 HLK.out HFN.out _ (HTK.out.kept ((((Kept.of_below HB.out).trans (Kept.alloc _ _)).trans (Kept.alloc _ _)).trans (Kept.drew _)))).mono ?_; rintro e w1 ⟨⟨ry, hry, rfl⟩, hb1⟩; have kP := Blk.nextOfQ hb1 (Blk.drewQ (Blk.alloc (blk_new1 wr _ _) _)); obtain ⟨c0, c1, c2, c3, c4, c5, c6, c7, c8⟩ := blk9 kP; have kO := Blk.nextOfQ hb1 (Blk.drewQ (blk_new2 wr _ _ _)); obtain ⟨z0, z1, z2, z3, z4, z5, z6, z7, z8⟩ := blk9 kO; have f0 := kO.frozen 0; have f1 := kO.frozen 1; have f2 := kO.frozen 2; have f3 := kO.frozen 3; have f4 := kO.frozen 4; have f5 := kO.frozen 5; have f6 := kO.frozen 6; have f7 := kO.frozen 7; have f8 := kO.frozen 8; have hsz1 : wr.heap.size < w1.heap.size := kP.lt; have hsz2 : wr.heap.size + 1 < w1.heap.size := kO.lt; have HB1 := Lib.hid (below_next (below_drew (below_alloc (below_alloc HB.out _) _)) hb1)) | (go_at_call 134; refine (qfind_yes _ _ k (l.take k) q.name q2 HLK.out HFN.out _ (HTK.out.kept (((Kept.of_below HB.out).trans (Kept.alloc _ _)).trans (Kept.drew _)))).mono ?_; rintro e w1 ⟨⟨ry, hry, rfl⟩, hb1⟩; have kP := Blk.nextOfQ hb1 (Blk.drewQ (blk_new1 wr _ _)); obtain ⟨c0, c1, c2, c3, c4, c5, c6, c7, c8⟩ := blk9 kP; have hsz1 : wr.heap.size < w1.heap.size := kP.lt; have HB1 := Lib.hid (below_next (below_drew (below_alloc HB.out _)) hb1)) )
        all_goals go_wp2_with fail
        all_goals go_ret
        all_goals exact ⟨by rw [HG.out]; rfl, by (repeat (first | with_reducible exact HB1.out | with_reducible refine below_alloc ?_ _ | with_reducible refine Below.setCell ?_ (show w.heap.size ≤ _ from by dsimp only; omega) _))⟩
    · have ht := HT.out.trans (twP_end (by omega))
      have HG := Lib.hid ht
      clear ht
      go_wp2
      go_ret
      exact ⟨by rw [HG.out]; rfl, HB.out⟩
def wantQ (l : List Stp) (s : List Ent) (n : List UInt8) : Bool := (s.any (nameE n) || l.any (namB (kindQ 1) n)) && !l.any (namB (kindQ 2) n)
set_option maxRecDepth 100000 in
set_option maxHeartbeats 1000000 in
theorem wanted_any (l : List Stp) (A : Option Addr) (c : Nat) (s : List Ent) (A2 : Option Addr) (c2 : Nat) (n : List UInt8) (w : World) (hl : Stps w A c l) (hs : Ents w A2 c2 s) :
    Calls Tryz.prog 136 #[.slice A l.length c, .slice A2 s.length c2, .string (bs n)] w fun e w' => e = .returned (.bool (wantQ l s n)) ∧ Below w.heap.size w w' := by
  have HL := Lib.hid hl
  have HSF := Lib.hid (sfind_any A2 c2 s n w hs)
  have hbl := Slc.bd hl
  clear hl hs
  obtain ⟨G, hG⟩ : ∃ G, G = wantQ l s n := ⟨_, rfl⟩
  rw [← hG]
  obtain ⟨I, hI⟩ : ∃ I, s.any (nameE n) = I := ⟨_, rfl⟩
  obtain ⟨J, hJ⟩ : ∃ J, l.any (namB (kindQ 1) n) = J := ⟨_, rfl⟩
  obtain ⟨R, hR⟩ : ∃ R, l.any (namB (kindQ 2) n) = R := ⟨_, rfl⟩
  have hG' : G = ((I || J) && !R) := by rw [hG, wantQ, hI, hJ, hR]
  rw [hI] at HSF
  have HJ := Lib.hid hJ
  have HR := Lib.hid hR
  clear hG hI hJ hR
  go_enter Tryz.func136, Tryz.ntmps136
  go_wp2_with fail
  refine HSF.out.mono ?_
  rintro e w2 ⟨rfl, hb2⟩
  have HB2 := Lib.hid hb2
  clear hb2 HSF
  generalize max 0 (idxS (nameE n) s) = mi
  rcases I with _ | _
  · go_wp2_with fail
    have HK := Lib.hid (kindF_any 1 w2)
    refine HK.out.mono ?_
    rintro e w3 ⟨rfl, rfl⟩
    have HB3 := Lib.hid (below_alloc HB2.out (.cells #[.int .i64 1] 3))
    go_wp2_with fail
    have HNM := Lib.hid (named_kind l A c n (w2.alloc (.cells #[.int .i64 1] 3)) (HL.out.kept (Kept.of_below HB3.out)) (blk_new1 w2 3 #[.int .i64 1]))
    refine HNM.out.mono ?_
    rintro e w4 ⟨rfl, hb4⟩
    rw [HJ.out]
    have HB2 := Lib.hid (below_next HB3.out hb4)
    clear hb4 HNM HK HB3
    obtain ⟨w2, hw2⟩ : ∃ w2 : World, w2 = w4 := ⟨_, rfl⟩
    subst hw2
    rcases J with _ | _
    · have HG := Lib.hid (show G = false from hG')
      clear hG'
      go_wp2
      go_ret
      exact ⟨by rw [HG.out]; rfl, HB2.out⟩
    · have HG := Lib.hid (show G = !R from hG')
      clear hG'
      go_wp2_with fail
      have HK := Lib.hid (kindF_any 2 w2)
      refine HK.out.mono ?_
      rintro e w3 ⟨rfl, rfl⟩
      have HB3 := Lib.hid (below_alloc HB2.out (.cells #[.int .i64 2] 3))
      go_wp2_with fail
      have HNM := Lib.hid (named_kind l A c n (w2.alloc (.cells #[.int .i64 2] 3)) (HL.out.kept (Kept.of_below HB3.out)) (blk_new1 w2 3 #[.int .i64 2]))
      refine HNM.out.mono ?_
      rintro e w4 ⟨rfl, hb4⟩
      rw [HR.out]
      have HB4 := Lib.hid (below_next HB3.out hb4)
      clear hb4 HNM HK
      go_wp2
      go_ret
      exact ⟨by rw [HG.out]; rfl, HB4.out⟩
  · have HG := Lib.hid (show G = !R from hG')
    clear hG'
    go_wp2_with fail
    have HK := Lib.hid (kindF_any 2 w2)
    refine HK.out.mono ?_
    rintro e w3 ⟨rfl, rfl⟩
    have HB3 := Lib.hid (below_alloc HB2.out (.cells #[.int .i64 2] 3))
    go_wp2_with fail
    have HNM := Lib.hid (named_kind l A c n (w2.alloc (.cells #[.int .i64 2] 3)) (HL.out.kept (Kept.of_below HB3.out)) (blk_new1 w2 3 #[.int .i64 2]))
    refine HNM.out.mono ?_
    rintro e w4 ⟨rfl, hb4⟩
    rw [HR.out]
    have HB4 := Lib.hid (below_next HB3.out hb4)
    clear hb4 HNM HK
    go_wp2
    go_ret
    exact ⟨by rw [HG.out]; rfl, HB4.out⟩
end Go.Proofs.YtaicidbopgnmfaaGreatDoor
