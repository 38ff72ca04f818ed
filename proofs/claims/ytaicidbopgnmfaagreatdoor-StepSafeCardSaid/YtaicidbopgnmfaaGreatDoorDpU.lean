/- The law StepSafe. -/
import Derived.Test.YtaicidbopgnmfaaGreatDoorDpR
import Derived.Test.YtaicidbopgnmfaaGreatDoorDoL
import Derived.Test.YtaicidbopgnmfaaGreatDoorPy
namespace Go.Proofs.YtaicidbopgnmfaaGreatDoor
set_option linter.unusedSimpArgs false
set_option linter.unusedVariables false
open Go.RowKit
def swpB (n : List UInt8) (st : Stp) : Bool := decide (st.kind = 3) && (st.name == n)
theorem any_mono {α : Type} {l : List α} {p : α → Bool} {k : Nat} {q : α} (h : l[k]? = some q) (hp : p q = true) : l.any p = true := List.any_eq_true.2 ⟨q, List.mem_of_getElem? h, hp⟩
set_option maxRecDepth 100000 in
set_option maxHeartbeats 1000000 in
theorem swapped_any (n : List UInt8) (l : List Stp) (A2 : Option Addr) (c2 : Nat) (fr : List Pkg) (A' : Option Addr) (c' : Nat) (w : World) (hl : Stps w A2 c2 l) :
    Calls Tryz.prog 25 #[.string (bs n), .slice A2 l.length c2, .slice A' fr.length c'] w fun e w' => e = .returned (.bool ((l.take 40).any (swpB n))) ∧ Below w.heap.size w w' := by
  have HL := Lib.hid hl
  have hbl := Slc.bd hl
  clear hl
  go_enter Tryz.func25, Tryz.ntmps25
  go_wp2
  go_loopw [11] (fun i wr => ∃ k : Nat, k ≤ l.length ∧ i = .int .i64 k ∧ ((l.take 40).take k).any (swpB n) = false ∧ Below w.heap.size w wr) (fun i _ => l.length - (intOf i).toNat)
  case atStart => exact ⟨0, Nat.zero_le _, rfl, rfl, Below.refl _ _⟩
  case round =>
    obtain ⟨k, hk, rfl, hn, hb⟩ := hrel
    have HN := Lib.hid hn
    have HB := Lib.hid hb
    clear hn hb
    by_cases hlt : k < l.length
    · obtain ⟨⟨kd, nm, vr⟩, b2, o2, hst, rfl, e0, e1, e2⟩ := HL.out.at_ hlt (Kept.of_below HB.out)
      have HST := Lib.hid hst
      dsimp only at e0 e1 e2
      clear hst
      by_cases h40 : k < 40
      · have hd40 : decide ((k : Int) < 40) = true := decide_eq_true (by omega)
        have hst4 : (l.take 40)[k]? = some ⟨kd, nm, vr⟩ := by rw [List.getElem?_take, if_pos h40]; exact HST.out
        have HS4 := Lib.hid hst4
        clear hst4
        by_cases hkd : kd = 3
        · have hkb : (kd == 3) = true := by rw [beq_iff_eq]; exact hkd
          by_cases hnm : nm = n
          · have hnb : (nm == n) = true := by simpa using hnm
            have HP := Lib.hid (any_mono (p := swpB n) HS4.out (by simp [swpB, hkd, hnm]))
            clear hkd hnm
            go_wp2
            go_ret
            exact ⟨by rw [HP.out]; rfl, below_alloc HB.out _⟩
          · have hnb : (nm == n) = false := by simpa using hnm
            have HP := Lib.hid (show swpB n ⟨kd, nm, vr⟩ = false by simp [swpB, hnm])
            clear hkd hnm
            go_wp2
            go_roundw
            case rel => exact ⟨k + 1, by omega, by simp, any_step HS4.out HP.out HN.out, below_alloc HB.out _⟩
            case measure => (try simp only [intOf]); omega
        · have hkb : (kd == 3) = false := by rw [beq_eq_false_iff_ne]; exact hkd
          have HP := Lib.hid (show swpB n ⟨kd, nm, vr⟩ = false by simp [swpB, hkd])
          clear hkd
          go_wp2
          go_roundw
          case rel => exact ⟨k + 1, by omega, by simp, any_step HS4.out HP.out HN.out, below_alloc HB.out _⟩
          case measure => (try simp only [intOf]); omega
      · have hd40 : decide ((k : Int) < 40) = false := decide_eq_false (by omega)
        have HN2 := Lib.hid (show ((l.take 40).take (k + 1)).any (swpB n) = false by
          have := HN.out
          rw [List.take_of_length_le (by simp; omega)] at this ⊢
          exact this)
        go_wp2
        go_roundw
        case rel => exact ⟨k + 1, by omega, by simp, HN2.out, below_alloc HB.out _⟩
        case measure => (try simp only [intOf]); omega
    · have HN2 := Lib.hid (show (l.take 40).any (swpB n) = false by
        have := HN.out
        rwa [List.take_of_length_le (by simp; omega)] at this)
      go_wp2
      go_ret
      exact ⟨by rw [HN2.out]; rfl, HB.out⟩
set_option maxRecDepth 100000 in
set_option maxHeartbeats 8000000 in
theorem law_safe (A : Option Addr) (c : Nat) (s : List Ent) (A2 : Option Addr) (c2 : Nat) (l : List Stp) (A' : Option Addr) (c' : Nat) (fr : List Pkg) (w : World) (hs : Ents w A c s) (hl : Stps w A2 c2 l) (hf : Pkgs w A' c' fr) :
    Calls Tryz.prog 4 #[.slice A s.length c, .slice A2 l.length c2, .slice A' fr.length c'] w fun e w' => e = .returned (.bool true) ∧ Below w.heap.size w w' := by
  have HS := Lib.hid hs
  have HL := Lib.hid hl
  have HF := Lib.hid hf
  have hbs := hs.bd
  have hbl := Slc.bd hl
  have hbf := hf.bd
  have HB := Lib.hid (Below.refl w.heap.size w)
  clear hs hf hl
  rcases h1 : lightM 26 40 14 10 (s.map Ent.pkg)
  · have H1 := Lib.hid h1
    clear h1
    go_enter Tryz.func4, Tryz.ntmps4
    go_wp2_with fail
    refine (bare22_any _ _ s _ (HS.out.kept (Kept.of_below HB.out))).mono ?_
    rintro e w1 ⟨A1, c1, rfl, hp, hb1⟩
    generalize hm : s.map Ent.pkg = lp at hp ⊢
    have HP1 := Lib.hid hp
    have HT1 := Lib.hid (show lightM 26 40 14 10 lp = _ from hm ▸ H1.out)
    have HB := Lib.hid (below_next HB.out hb1)
    clear hp hm hb1
    go_wp2_with fail
    refine (light22_any _ _ _ _ HP1.out).mono ?_
    rintro e w2 ⟨rfl, hb2⟩
    rw [HT1.out]
    have HB := Lib.hid (below_next HB.out hb2)
    clear hb2 HP1 HT1
    go_wp2_with fail
    refine (awake22_any _).mono ?_
    rintro e w9 ⟨rfl, hb9⟩
    go_wp2
    go_ret
    exact ⟨rfl, below_next HB.out hb9⟩
  · have hfs := light_fewD h1
    have hs26 : s.length ≤ 26 := by simpa using hfs.1
    have HFS := Lib.hid (show ∀ x ∈ s, fewD x.pkg from fun x hx => hfs.2 _ (List.mem_map_of_mem hx))
    have H1 := Lib.hid h1
    clear h1 hfs
    rcases h2 : lightM 26 40 14 10 fr
    · have H2 := Lib.hid h2
      clear h2
      go_enter Tryz.func4, Tryz.ntmps4
      go_wp2_with fail
      refine (bare22_any _ _ s _ (HS.out.kept (Kept.of_below HB.out))).mono ?_
      rintro e w1 ⟨A1, c1, rfl, hp, hb1⟩
      generalize hm : s.map Ent.pkg = lp at hp ⊢
      have HP1 := Lib.hid hp
      have HT1 := Lib.hid (show lightM 26 40 14 10 lp = _ from hm ▸ H1.out)
      have HB := Lib.hid (below_next HB.out hb1)
      clear hp hm hb1
      go_wp2_with fail
      refine (light22_any _ _ _ _ HP1.out).mono ?_
      rintro e w2 ⟨rfl, hb2⟩
      rw [HT1.out]
      have HB := Lib.hid (below_next HB.out hb2)
      clear hb2 HP1 HT1
      go_wp2_with fail
      refine (light22_any _ _ fr _ (HF.out.kept (Kept.of_below HB.out))).mono ?_
      rintro e w2 ⟨rfl, hb2⟩
      rw [H2.out]
      have HB := Lib.hid (below_next HB.out hb2)
      clear hb2
      go_wp2_with fail
      refine (awake22_any _).mono ?_
      rintro e w9 ⟨rfl, hb9⟩
      go_wp2
      go_ret
      exact ⟨rfl, below_next HB.out hb9⟩
    · have hff := light_fewD h2
      have HFF := Lib.hid hff.2
      have H2 := Lib.hid h2
      clear h2 hff
      obtain ⟨E, hE⟩ : ∃ E, mayEntsE s = E := ⟨_, rfl⟩
      have HM := Lib.hid hE
      clear hE
      go_enter Tryz.func4, Tryz.ntmps4
      go_wp2_with fail
      refine (bare22_any _ _ s _ (HS.out.kept (Kept.of_below HB.out))).mono ?_
      rintro e w1 ⟨A1, c1, rfl, hp, hb1⟩
      generalize hm : s.map Ent.pkg = lp at hp ⊢
      have HP1 := Lib.hid hp
      have HT1 := Lib.hid (show lightM 26 40 14 10 lp = _ from hm ▸ H1.out)
      have HB := Lib.hid (below_next HB.out hb1)
      clear hp hm hb1
      go_wp2_with fail
      refine (light22_any _ _ _ _ HP1.out).mono ?_
      rintro e w2 ⟨rfl, hb2⟩
      rw [HT1.out]
      have HB := Lib.hid (below_next HB.out hb2)
      clear hb2 HP1 HT1
      go_wp2_with fail
      refine (light22_any _ _ fr _ (HF.out.kept (Kept.of_below HB.out))).mono ?_
      rintro e w2 ⟨rfl, hb2⟩
      rw [H2.out]
      have HB := Lib.hid (below_next HB.out hb2)
      clear hb2
      go_wp2_with fail
      have HQ := Lib.hid (rents_any _ _ s _ (HS.out.kept (Kept.of_below HB.out)) (fun x h => (HFS.out x h).r))
      refine HQ.out.mono ?_
      rintro e w3 ⟨rfl, hb3⟩
      rw [HM.out]
      have HB := Lib.hid (below_next HB.out hb3)
      clear hb3 HQ
      by_cases h0 : E = 0
      · subst h0
        go_wp2_with fail
        go_loopw [7, 33] (fun tv i wr => ∃ (k : Nat) (t : List Ent) (B : Option Addr) (d : Nat), k ≤ l.length ∧ k ≤ 40 ∧ i = .int .i64 k ∧ tv = .slice B t.length d ∧ Ents wr B d t ∧ SafeI s fr (l.take k) t ∧ Below w.heap.size w wr) (fun _ i _ => l.length - (intOf i).toNat)
        case atStart => exact ⟨0, s, A, c, Nat.zero_le _, Nat.zero_le _, rfl, rfl, HS.out.kept (Kept.of_below HB.out), SafeI.zero HM.out HFS.out, HB.out⟩
        case round =>
          clear HB
          obtain ⟨k, t, B, d, hk, hk40, rfl, rfl, ht, hsi, hb⟩ := hrel
          have HT := Lib.hid ht
          have HSI := Lib.hid hsi
          have HB := Lib.hid hb
          have hbt := ht.bd
          have ht10 : t.length ≤ 1000 := by have := (ents_zero hsi.ents).1; omega
          clear ht hsi hb
          by_cases hlt : k < l.length
          · obtain ⟨⟨kd, nm, vr⟩, b2, o2, hst, rfl, e0, e1, e2⟩ := HL.out.at_ hlt (Kept.of_below HB.out)
            have HST := Lib.hid hst
            dsimp only at e0 e1 e2
            clear hst
            by_cases h40 : k = 40
            · have hd40 : decide ((40 : Int) ≤ (k : Int)) = true := decide_eq_true (by omega)
              have HL40 := Lib.hid (show ∀ st ∈ l.take k, st ∈ l.take 40 from fun st h => by rw [h40] at h; exact h)
              clear h40
              have HB := Lib.hid (below_alloc HB.out (.cells #[.int .i64 kd, .string (bs nm), .string (bs vr)] 24))
              have HT := Lib.hid (HT.out.kept (Kept.alloc wr (.cells #[.int .i64 kd, .string (bs nm), .string (bs vr)] 24)))
              go_wp2_with fail
              have HQ := Lib.hid (rwrong_any _ _ t _ HT.out (fewD.e ht10 HSI.out.few))
              refine HQ.out.mono ?_
              rintro e w5 ⟨A5, c5, rfl, hv5, hb5⟩
              have HV5 := Lib.hid hv5
              have HB5 := Lib.hid (below_next HB.out hb5)
              have HT5 := Lib.hid (HT.out.kept (Kept.of_below hb5))
              clear hv5 hb5 HQ
              go_wp2_with fail
              have HQ := Lib.hid (rwrong_any _ _ s w5 (HS.out.kept (Kept.of_below HB5.out)) (fewD.e (by omega) HFS.out))
              refine HQ.out.mono ?_
              rintro e w6 ⟨A6, c6, rfl, hv6, hb6⟩
              have HV6 := Lib.hid hv6
              have HV5 := Lib.hid (HV5.out.kept (Kept.of_below hb6))
              have HB6 := Lib.hid (below_next HB5.out hb6)
              have HT6 := Lib.hid (HT5.out.kept (Kept.of_below hb6))
              clear hv6 hb6 HQ
              obtain ⟨V5, hV5⟩ : ∃ V, V = wrongS t := ⟨_, rfl⟩
              obtain ⟨V6, hV6⟩ : ∃ V, V = wrongS s := ⟨_, rfl⟩
              rw [← hV5] at HV5 ⊢
              rw [← hV6] at HV6 ⊢
              have HWI := Lib.hid (show withinS V5 V6 = true by rw [hV5, hV6]; exact HSI.out.within)
              clear hV5 hV6
              go_wp2_with fail
              have HQ := Lib.hid (rwithin_any A5 A6 c5 c6 V5 V6 w6 HV5.out HV6.out)
              refine HQ.out.mono ?_
              rintro e w7 ⟨rfl, hb7⟩
              rw [HWI.out]
              have HB7 := Lib.hid (below_next HB6.out hb7)
              have HT7 := Lib.hid (HT6.out.kept (Kept.of_below hb7))
              clear hb7 HQ HV5 HV6 HWI
              go_wp2_with fail
              go_loopw [73] (fun i wi => ∃ m : Nat, m ≤ s.length ∧ i = .int .i64 m ∧ Below w7.heap.size w7 wi) (fun i _ => s.length - (intOf i).toNat)
              case atStart => exact ⟨0, Nat.zero_le _, rfl, Below.refl _ _⟩
              case round =>
                obtain ⟨m, hm, rfl, hbw⟩ := hrel
                have HBW := Lib.hid hbw
                clear hbw
                by_cases hml : m < s.length
                · obtain ⟨q, b, o, rr, hq, hAq, hr, e0, e1, e2, e3, e4, e5, e6, e7, e8, e9, e10⟩ := HS.out.at_ hml (Kept.of_below (below_next HB7.out HBW.out))
                  have HQq := Lib.hid hq
                  clear hq hr
                  subst hAq
                  go_wp2_with fail
                  clear e0 e1 e2 e3 e4 e5 e6 e7 e8 e9 e10
                  have HQ := Lib.hid (rfind_any _ _ t q.pkg.name _ (HT7.out.kept (Kept.of_below (below_alloc HBW.out (.cells #[.string (bs (q).pkg.name), .string (bs (q).pkg.ver), .slice (rr).a1 (q).pkg.pre.length (rr).c1, .slice (rr).a2 (q).pkg.dep.length (rr).c2, .slice (rr).a3 (q).pkg.rcm.length (rr).c3, .slice (rr).a4 (q).pkg.con.length (rr).c4, .slice (rr).a5 (q).pkg.brk.length (rr).c5, .slice (rr).a6 (q).pkg.prv.length (rr).c6, .bool (q).pkg.ess, .bool (q).conf, .bool (q).hold] 45)))))
                  refine HQ.out.mono ?_
                  rintro e w8 ⟨rfl, hb8⟩
                  have HBX := Lib.hid ((blk_new1 wr 45 #[.string (bs (q).pkg.name), .string (bs (q).pkg.ver), .slice (rr).a1 (q).pkg.pre.length (rr).c1, .slice (rr).a2 (q).pkg.dep.length (rr).c2, .slice (rr).a3 (q).pkg.rcm.length (rr).c3, .slice (rr).a4 (q).pkg.con.length (rr).c4, .slice (rr).a5 (q).pkg.brk.length (rr).c5, .slice (rr).a6 (q).pkg.prv.length (rr).c6, .bool (q).pkg.ess, .bool (q).conf, .bool (q).hold]).next hb8)
                  have HB8 := Lib.hid (below_next (below_alloc HBW.out (.cells #[.string (bs (q).pkg.name), .string (bs (q).pkg.ver), .slice (rr).a1 (q).pkg.pre.length (rr).c1, .slice (rr).a2 (q).pkg.dep.length (rr).c2, .slice (rr).a3 (q).pkg.rcm.length (rr).c3, .slice (rr).a4 (q).pkg.con.length (rr).c4, .slice (rr).a5 (q).pkg.brk.length (rr).c5, .slice (rr).a6 (q).pkg.prv.length (rr).c6, .bool (q).pkg.ess, .bool (q).conf, .bool (q).hold] 45)) hb8)
                  obtain ⟨f0, f1, f2, f3, f4, f5, f6, f7, f8, f9, f10⟩ := blk11 HBX.out
                  clear hb8 HQ f1 f2 f3 f4 f5 f6 f7 f9 f10
                  rcases hes : q.pkg.ess
                  · rw [hes] at f8
                    clear hes
                    obtain ⟨I, hI⟩ : ∃ I, I = idxS (nameE q.pkg.name) t := ⟨_, rfl⟩
                    rw [← hI]
                    clear hI
                    go_wp2_with fail
                    go_roundw
                    case rel => exact ⟨m + 1, by omega, by simp, HB8.out⟩
                    case measure => (try simp only [intOf]); omega
                  · rw [hes] at f8
                    have HES := Lib.hid hes
                    clear hes
                    rcases idx_casesE (nameE q.pkg.name) t with ⟨hi, ha⟩ | ⟨j, x, hi, hx, ha, hnx, hfd⟩
                    · rw [hi]
                      have HSW := Lib.hid (show (l.take 40).any (swpB q.pkg.name) = true by
                        rcases hsw : (l.take 40).any (swpB q.pkg.name)
                        · exfalso
                          obtain ⟨y, hy, hye⟩ := HSI.out.keeps q (List.mem_of_getElem? HQq.out) HES.out (fun st hst h => by
                            have h1 := List.any_eq_false.1 hsw st (HL40.out st hst)
                            simp [swpB, h.1, h.2] at h1)
                          have h2 := List.any_eq_false.1 ha y hy
                          simp [nameE, hye] at h2
                        · rfl)
                      clear hi ha
                      go_wp2_with fail
                      have HQ := Lib.hid (swapped_any q.pkg.name l _ c2 fr A' c' w8 (HL.out.kept (Kept.of_below (below_next HB7.out HB8.out))))
                      refine HQ.out.mono ?_
                      rintro e w9 ⟨rfl, hb9⟩
                      rw [HSW.out]
                      have HB9 := Lib.hid (below_next HB8.out hb9)
                      clear hb9 HQ
                      go_wp2_with fail
                      go_roundw
                      case rel => exact ⟨m + 1, by omega, by simp, HB9.out⟩
                      case measure => (try simp only [intOf]); omega
                    · rw [hi]
                      have hjd : decide ((j : Int) < 0) = false := decide_eq_false (by omega)
                      clear hi ha hx hnx hfd
                      go_wp2_with fail
                      go_roundw
                      case rel => exact ⟨m + 1, by omega, by simp, HB8.out⟩
                      case measure => (try simp only [intOf]); omega
                · go_wp2_with fail
                  refine (awake22_any _).mono ?_
                  rintro e w9 ⟨rfl, hb9⟩
                  go_wp2
                  go_ret
                  exact ⟨rfl, below_next (below_next HB7.out HBW.out) hb9⟩
            · have hd40 : decide ((40 : Int) ≤ (k : Int)) = false := decide_eq_false (by omega)
              go_wp2_with fail
              clear e0 e1 e2
              have HB1 := Lib.hid (below_alloc HB.out (.cells #[.int .i64 kd, .string (bs nm), .string (bs vr)] 24))
              have HT1 := Lib.hid (HT.out.kept (Kept.alloc wr (.cells #[.int .i64 kd, .string (bs nm), .string (bs vr)] 24)))
              have HQ := Lib.hid (do_any t B d kd nm vr fr A' c' _ HT1.out (HF.out.kept (Kept.of_below HB1.out)) HSI.out.few HFF.out)
              refine HQ.out.mono ?_
              rintro e w3 ⟨B3, d3, rfl, he3, hb3⟩
              have HE3 := Lib.hid he3
              have HT3 := Lib.hid (HT1.out.kept (Kept.of_below hb3))
              have HB3 := Lib.hid (below_next HB1.out hb3)
              have HY := Lib.hid (fun h => HSI.out.yes (st := ⟨kd, nm, vr⟩) HFF.out h)
              have HDI := Lib.hid (fun h => do_did (s := t) (st := ⟨kd, nm, vr⟩) (fr := fr) h)
              have HNI := Lib.hid (fun h => do_nil (s := t) (st := ⟨kd, nm, vr⟩) (fr := fr) h)
              clear he3 hb3 HQ HT1 HB1
              obtain ⟨r, hr⟩ : ∃ r, r = doS t ⟨kd, nm, vr⟩ fr := ⟨_, rfl⟩
              rw [← hr] at HE3 HY HDI HNI ⊢
              clear hr
              obtain ⟨u, er⟩ := r
              dsimp only at HE3 HY HDI HNI ⊢
              have hbu := HE3.out.bd
              by_cases her : er = 0
              · subst her
                have HS2 := Lib.hid (HY.out rfl)
                have HDD := Lib.hid (HDI.out rfl)
                have hu10 := HDD.out.few
                clear HY HDI HNI
                go_wp2_with fail
                have HQ := Lib.hid (rwrong_any B3 d3 u w3 HE3.out (fewD.e (by omega) HS2.out.few))
                refine HQ.out.mono ?_
                rintro e w5 ⟨A5, c5, rfl, hv5, hb5⟩
                have HV5 := Lib.hid hv5
                have HB5 := Lib.hid (below_next HB3.out hb5)
                have HE5 := Lib.hid (HE3.out.kept (Kept.of_below hb5))
                have HT5 := Lib.hid (HT3.out.kept (Kept.of_below hb5))
                clear hv5 hb5 HQ
                go_wp2_with fail
                have HQ := Lib.hid (rwrong_any B d t w5 HT5.out (fewD.e ht10 HSI.out.few))
                refine HQ.out.mono ?_
                rintro e w6 ⟨A6, c6, rfl, hv6, hb6⟩
                have HV6 := Lib.hid hv6
                have HV5 := Lib.hid (HV5.out.kept (Kept.of_below hb6))
                have HB6 := Lib.hid (below_next HB5.out hb6)
                have HE6 := Lib.hid (HE5.out.kept (Kept.of_below hb6))
                clear hv6 hb6 HQ
                obtain ⟨V5, hV5⟩ : ∃ V, V = wrongS u := ⟨_, rfl⟩
                obtain ⟨V6, hV6⟩ : ∃ V, V = wrongS t := ⟨_, rfl⟩
                rw [← hV5] at HV5 ⊢
                rw [← hV6] at HV6 ⊢
                have HWI := Lib.hid (show withinS V5 V6 = true by rw [hV5, hV6]; exact HDD.out.within)
                clear hV5 hV6
                go_wp2_with fail
                have HQ := Lib.hid (rwithin_any A5 A6 c5 c6 V5 V6 w6 HV5.out HV6.out)
                refine HQ.out.mono ?_
                rintro e w7 ⟨rfl, hb7⟩
                rw [HWI.out]
                have HB7 := Lib.hid (below_next HB6.out hb7)
                have HE7 := Lib.hid (HE6.out.kept (Kept.of_below hb7))
                clear hb7 HQ HV5 HV6 HWI
                go_wp2_with fail
                have HQ := Lib.hid (rents_any B3 d3 u w7 HE7.out (fun x h => (HS2.out.few x h).r))
                refine HQ.out.mono ?_
                rintro e w8 ⟨rfl, hb8⟩
                rw [HDD.out.may]
                have HB8 := Lib.hid (below_next HB7.out hb8)
                have HE8 := Lib.hid (HE7.out.kept (Kept.of_below hb8))
                clear hb8 HQ
                go_wp2_with fail
                go_roundw
                case rel => exact ⟨k + 1, u, B3, d3, by omega, by omega, by simp, rfl, HE8.out, by rw [take_step HST.out]; exact HS2.out, HB8.out⟩
                case measure => (try simp only [intOf]); omega
              · have hu : u = [] := HNI.out her
                subst hu
                have hEb : (er != 0) = true := by rw [bne_iff_ne]; exact her
                have HS2 := Lib.hid (HSI.out.no ⟨kd, nm, vr⟩)
                clear her HY HDI HNI
                go_wp2_with fail
                go_roundw
                case rel => exact ⟨k + 1, t, B, d, by omega, by omega, by simp, rfl, HT3.out, by rw [take_step HST.out]; exact HS2.out, HB3.out⟩
                case measure => (try simp only [intOf]); omega
          · have HL40 := Lib.hid (show ∀ st ∈ l.take k, st ∈ l.take 40 from fun st h => by
              have h3 := List.mem_of_mem_take h
              rw [List.take_of_length_le (show l.length ≤ 40 by omega)]
              exact h3)
            go_wp2_with fail
            have HQ := Lib.hid (rwrong_any _ _ t _ HT.out (fewD.e ht10 HSI.out.few))
            refine HQ.out.mono ?_
            rintro e w5 ⟨A5, c5, rfl, hv5, hb5⟩
            have HV5 := Lib.hid hv5
            have HB5 := Lib.hid (below_next HB.out hb5)
            have HT5 := Lib.hid (HT.out.kept (Kept.of_below hb5))
            clear hv5 hb5 HQ
            go_wp2_with fail
            have HQ := Lib.hid (rwrong_any _ _ s w5 (HS.out.kept (Kept.of_below HB5.out)) (fewD.e (by omega) HFS.out))
            refine HQ.out.mono ?_
            rintro e w6 ⟨A6, c6, rfl, hv6, hb6⟩
            have HV6 := Lib.hid hv6
            have HV5 := Lib.hid (HV5.out.kept (Kept.of_below hb6))
            have HB6 := Lib.hid (below_next HB5.out hb6)
            have HT6 := Lib.hid (HT5.out.kept (Kept.of_below hb6))
            clear hv6 hb6 HQ
            obtain ⟨V5, hV5⟩ : ∃ V, V = wrongS t := ⟨_, rfl⟩
            obtain ⟨V6, hV6⟩ : ∃ V, V = wrongS s := ⟨_, rfl⟩
            rw [← hV5] at HV5 ⊢
            rw [← hV6] at HV6 ⊢
            have HWI := Lib.hid (show withinS V5 V6 = true by rw [hV5, hV6]; exact HSI.out.within)
            clear hV5 hV6
            go_wp2_with fail
            have HQ := Lib.hid (rwithin_any A5 A6 c5 c6 V5 V6 w6 HV5.out HV6.out)
            refine HQ.out.mono ?_
            rintro e w7 ⟨rfl, hb7⟩
            rw [HWI.out]
            have HB7 := Lib.hid (below_next HB6.out hb7)
            have HT7 := Lib.hid (HT6.out.kept (Kept.of_below hb7))
            clear hb7 HQ HV5 HV6 HWI
            go_wp2_with fail
            go_loopw [73] (fun i wi => ∃ m : Nat, m ≤ s.length ∧ i = .int .i64 m ∧ Below w7.heap.size w7 wi) (fun i _ => s.length - (intOf i).toNat)
            case atStart => exact ⟨0, Nat.zero_le _, rfl, Below.refl _ _⟩
            case round =>
              obtain ⟨m, hm, rfl, hbw⟩ := hrel
              have HBW := Lib.hid hbw
              clear hbw
              by_cases hml : m < s.length
              · obtain ⟨q, b, o, rr, hq, hAq, hr, e0, e1, e2, e3, e4, e5, e6, e7, e8, e9, e10⟩ := HS.out.at_ hml (Kept.of_below (below_next HB7.out HBW.out))
                have HQq := Lib.hid hq
                clear hq hr
                subst hAq
                go_wp2_with fail
                clear e0 e1 e2 e3 e4 e5 e6 e7 e8 e9 e10
                have HQ := Lib.hid (rfind_any _ _ t q.pkg.name _ (HT7.out.kept (Kept.of_below (below_alloc HBW.out (.cells #[.string (bs (q).pkg.name), .string (bs (q).pkg.ver), .slice (rr).a1 (q).pkg.pre.length (rr).c1, .slice (rr).a2 (q).pkg.dep.length (rr).c2, .slice (rr).a3 (q).pkg.rcm.length (rr).c3, .slice (rr).a4 (q).pkg.con.length (rr).c4, .slice (rr).a5 (q).pkg.brk.length (rr).c5, .slice (rr).a6 (q).pkg.prv.length (rr).c6, .bool (q).pkg.ess, .bool (q).conf, .bool (q).hold] 45)))))
                refine HQ.out.mono ?_
                rintro e w8 ⟨rfl, hb8⟩
                have HBX := Lib.hid ((blk_new1 wr 45 #[.string (bs (q).pkg.name), .string (bs (q).pkg.ver), .slice (rr).a1 (q).pkg.pre.length (rr).c1, .slice (rr).a2 (q).pkg.dep.length (rr).c2, .slice (rr).a3 (q).pkg.rcm.length (rr).c3, .slice (rr).a4 (q).pkg.con.length (rr).c4, .slice (rr).a5 (q).pkg.brk.length (rr).c5, .slice (rr).a6 (q).pkg.prv.length (rr).c6, .bool (q).pkg.ess, .bool (q).conf, .bool (q).hold]).next hb8)
                have HB8 := Lib.hid (below_next (below_alloc HBW.out (.cells #[.string (bs (q).pkg.name), .string (bs (q).pkg.ver), .slice (rr).a1 (q).pkg.pre.length (rr).c1, .slice (rr).a2 (q).pkg.dep.length (rr).c2, .slice (rr).a3 (q).pkg.rcm.length (rr).c3, .slice (rr).a4 (q).pkg.con.length (rr).c4, .slice (rr).a5 (q).pkg.brk.length (rr).c5, .slice (rr).a6 (q).pkg.prv.length (rr).c6, .bool (q).pkg.ess, .bool (q).conf, .bool (q).hold] 45)) hb8)
                obtain ⟨f0, f1, f2, f3, f4, f5, f6, f7, f8, f9, f10⟩ := blk11 HBX.out
                clear hb8 HQ f1 f2 f3 f4 f5 f6 f7 f9 f10
                rcases hes : q.pkg.ess
                · rw [hes] at f8
                  clear hes
                  obtain ⟨I, hI⟩ : ∃ I, I = idxS (nameE q.pkg.name) t := ⟨_, rfl⟩
                  rw [← hI]
                  clear hI
                  go_wp2_with fail
                  go_roundw
                  case rel => exact ⟨m + 1, by omega, by simp, HB8.out⟩
                  case measure => (try simp only [intOf]); omega
                · rw [hes] at f8
                  have HES := Lib.hid hes
                  clear hes
                  rcases idx_casesE (nameE q.pkg.name) t with ⟨hi, ha⟩ | ⟨j, x, hi, hx, ha, hnx, hfd⟩
                  · rw [hi]
                    have HSW := Lib.hid (show (l.take 40).any (swpB q.pkg.name) = true by
                      rcases hsw : (l.take 40).any (swpB q.pkg.name)
                      · exfalso
                        obtain ⟨y, hy, hye⟩ := HSI.out.keeps q (List.mem_of_getElem? HQq.out) HES.out (fun st hst h => by
                          have h1 := List.any_eq_false.1 hsw st (HL40.out st hst)
                          simp [swpB, h.1, h.2] at h1)
                        have h2 := List.any_eq_false.1 ha y hy
                        simp [nameE, hye] at h2
                      · rfl)
                    clear hi ha
                    go_wp2_with fail
                    have HQ := Lib.hid (swapped_any q.pkg.name l _ c2 fr A' c' w8 (HL.out.kept (Kept.of_below (below_next HB7.out HB8.out))))
                    refine HQ.out.mono ?_
                    rintro e w9 ⟨rfl, hb9⟩
                    rw [HSW.out]
                    have HB9 := Lib.hid (below_next HB8.out hb9)
                    clear hb9 HQ
                    go_wp2_with fail
                    go_roundw
                    case rel => exact ⟨m + 1, by omega, by simp, HB9.out⟩
                    case measure => (try simp only [intOf]); omega
                  · rw [hi]
                    have hjd : decide ((j : Int) < 0) = false := decide_eq_false (by omega)
                    clear hi ha hx hnx hfd
                    go_wp2_with fail
                    go_roundw
                    case rel => exact ⟨m + 1, by omega, by simp, HB8.out⟩
                    case measure => (try simp only [intOf]); omega
              · go_wp2_with fail
                refine (awake22_any _).mono ?_
                rintro e w9 ⟨rfl, hb9⟩
                go_wp2
                go_ret
                exact ⟨rfl, below_next (below_next HB7.out HBW.out) hb9⟩
      · have hb0 : (E != 0) = true := by rw [bne_iff_ne]; exact h0
        clear h0
        go_wp2_with fail
        refine (awake22_any _).mono ?_
        rintro e w9 ⟨rfl, hb9⟩
        go_wp2
        go_ret
        exact ⟨rfl, below_next HB.out hb9⟩
end Go.Proofs.YtaicidbopgnmfaaGreatDoor
