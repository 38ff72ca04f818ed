/- The stable sort of slices of packages: its contract. -/
import Derived.Test.YtaicidbopgnmfaaGreatDoorZoV
import Derived.Test.YtaicidbopgnmfaaGreatDoorSp
namespace Go.Proofs.YtaicidbopgnmfaaGreatDoor
set_option linter.unusedSimpArgs false
set_option linter.unusedVariables false
open Go.RowKit
theorem insS_seg (B : Nat) (Z : Raw → Stp → Prop) (c : Stp → Stp → Int) (hc : CmpOkS 65 Z c) (hsw : SW (fun x y => decide (c x y < 0))) (g cap n a b : Nat) (X M Y q : List Stp) (w : World) (F : List Stp) (hq : q = X ++ M ++ Y) (ho : Own w B 24 3 (RKS Z) (.slice (some ⟨g, 0, none⟩) n cap) (q)) (hn : q.length = n) (ha : X.length = a) (hb : a + M.length = b) (hs : n ≤ 1000) (hF : X ++ srt (fun x y => decide (c x y < 0)) M ++ Y = F) :
    Calls Tryz.prog 157 #[(.slice (some ⟨g, 0, none⟩) n cap), .int .i64 a, .int .i64 b, .func (.func 65) #[] #[]] w (RetRow w B 24 3 (RKS Z) g n cap F) := by
  subst hn
  have := insS_any B Z c hc g cap q a b w ho (by omega) (by rw [hq]; simp; omega) hs
  have e := insO_srt hsw X M Y ha hb
  rw [← hq, hF] at e
  rw [e] at this
  exact this
theorem symS_all (B : Nat) (Z : Raw → Stp → Prop) (c : Stp → Stp → Int) (hc : CmpOkS 65 Z c) (hsw : SW (fun x y => decide (c x y < 0))) (g cap n : Nat) (hs : n ≤ 1000) : ∀ N, SymCS B Z c g cap n N
  | 0 => fun a m b X L R Y q w F h1 h2 h3 h4 h5 h6 h7 h8 h9 h10 h11 h12 => by omega
  | N + 1 => fun a m b X L R Y q w F h1 h2 h3 h4 h5 h6 h7 h8 h9 h10 h11 h12 => by
    by_cases hL : L.length = 1
    · obtain ⟨x, rfl⟩ : ∃ x, L = [x] := by
        match L, hL with
        | [x], _ => exact ⟨x, rfl⟩
      exact symS_one_any B Z c hc hsw g cap n a m b X R Y q x h2 w h3 h4 h5 (by simpa using h6) h7 h9 h11 hs F h12
    · by_cases hR : R.length = 1
      · obtain ⟨y, rfl⟩ : ∃ y, R = [y] := by
          match R, hR with
          | [y], _ => exact ⟨y, rfl⟩
        exact symS_last_any B Z c hc hsw g cap n a m b X L Y q y h2 w h3 h4 h5 h6 (by simpa using h7) h8 (by omega) hs F h12
      · exact symS_gen B Z c hc hsw g cap n N (symS_all B Z c hc hsw g cap n hs N) a m b X L R Y q h2 w h3 h1 h4 h5 h6 h7 h8 h9 (by omega) (by omega) hs F h12
set_option maxRecDepth 100000 in
set_option maxHeartbeats 1000000 in
theorem stableS_any (B : Nat) (Z : Raw → Stp → Prop) (c : Stp → Stp → Int) (hc : CmpOkS 65 Z c) (hsw : SW (fun x y => decide (c x y < 0))) (g cap n : Nat) (l : List Stp) (w : World) (ho : Own w B 24 3 (RKS Z) (.slice (some ⟨g, 0, none⟩) n cap) (l)) (hn : l.length = n) (hs : n ≤ 1000) (F : List Stp) (hF : srt (fun x y => decide (c x y < 0)) l = F) :
    Calls Tryz.prog 118 #[(.slice (some ⟨g, 0, none⟩) n cap), .int .i64 n, .func (.func 65) #[] #[]] w (RetRow w B 24 3 (RKS Z) g n cap F) := by
  have HO := Lib.hid ho
  have HN := Lib.hid hn
  have HF := Lib.hid hF
  have HS := Lib.hid (symS_all B Z c hc hsw g cap n hs)
  clear ho hn hF
  go_enter Tryz.func118, Tryz.ntmps118
  go_wp2
  go_loopw [7, 8] (fun va vb wr => ∃ (a : Nat) (A0 A D : List Stp), va = .int .i64 a ∧ vb = .int .i64 (a + 20 : Nat) ∧ l = A0 ++ D ∧ A0.length = a ∧ PreP (fun x y => decide (c x y < 0)) 20 A0 A ∧ Own wr B 24 3 (RKS Z) (.slice (some ⟨g, 0, none⟩) n cap) (A ++ D) ∧ w.grownBy wr (some g)) (fun va _ _ => n + 20 - (intOf va).toNat)
  case atStart => exact ⟨0, [], [], l, rfl, rfl, rfl, rfl, .nil, HO.out, grown_refl _ _⟩
  case round =>
    clear HO
    obtain ⟨a, A0, A, D, rfl, rfl, hl, ha, hp, ho, hg⟩ := hrel
    obtain ⟨wo, rfl⟩ : ∃ wo : World, wo = wr := ⟨_, rfl⟩
    have HL := Lib.hid hl
    have HA := Lib.hid ha
    have HP := Lib.hid hp
    have HO := Lib.hid ho
    have HG := Lib.hid hg
    have hD : a + D.length = n := by rw [← HN.out, hl, List.length_append, ha]
    have HAL := Lib.hid (show A.length = a by rw [hp.len, ha])
    clear hl ha hp ho hg
    by_cases hlt : a + 20 ≤ n
    · have hd : ((a : Int) + 20 ≤ (n : Int)) := by omega
      go_wp2_with fail
      rw [show ((a : Int) + 20) = ((a + 20 : Nat) : Int) by simp]
      refine (insS_seg B Z c hc hsw g cap n a (a + 20) A (D.take 20) (D.drop 20) (A ++ D) _ (A ++ srt (fun x y => decide (c x y < 0)) (D.take 20) ++ D.drop 20) (by rw [List.append_assoc, List.take_append_drop]) HO.out (by rw [List.length_append, HAL.out]; exact hD) HAL.out (by simp; omega) hs rfl).mono ?_
      rintro e w1 ⟨rfl, ho1, hg1⟩
      have HO1 := Lib.hid ho1
      have HG1 := Lib.hid (grown_trans HG.out hg1)
      clear ho1 hg1
      go_wp2
      go_roundw
      case rel => exact ⟨a + 20, A0 ++ D.take 20, A ++ srt (fun x y => decide (c x y < 0)) (D.take 20), D.drop 20, by simp, by simp, by rw [HL.out, List.append_assoc, List.take_append_drop], by simp [HA.out]; omega, .snoc _ _ _ HP.out (by simp; omega), HO1.out, HG1.out⟩
      case measure => (try simp only [intOf]); omega
    · have hd : ¬ ((a : Int) + 20 ≤ (n : Int)) := by omega
      go_wp2_with fail
      refine (insS_seg B Z c hc hsw g cap n a n A D [] (A ++ D) _ (A ++ srt (fun x y => decide (c x y < 0)) D) (by simp) HO.out (by rw [List.length_append, HAL.out]; exact hD) HAL.out hD hs (by simp)).mono ?_
      rintro e w1 ⟨rfl, ho1, hg1⟩
      have HO1 := Lib.hid ho1
      have HG1 := Lib.hid (grown_trans HG.out hg1)
      have HBk := Lib.hid (show BlkP (fun x y => decide (c x y < 0)) 20 l (A ++ srt (fun x y => decide (c x y < 0)) D) by rw [HL.out]; exact HP.out.app (.last D (by omega)))
      generalize A ++ srt (fun x y => decide (c x y < 0)) D = q at HBk HO1
      clear ho1 hg1 HO HG HL HP HA HAL hD hd hlt
      go_wp2
      go_loopw [6, 7, 8, 9] (fun vs va vb vm wr => ∃ (s : Nat) (q : List Stp), vs = .int .i64 s ∧ 20 ≤ s ∧ s ≤ 4000 ∧ BlkP (fun x y => decide (c x y < 0)) s l q ∧ Own wr B 24 3 (RKS Z) (.slice (some ⟨g, 0, none⟩) n cap) (q) ∧ w.grownBy wr (some g)) (fun vs _ _ _ _ => 5000 - (intOf vs).toNat)
      case atStart => exact ⟨20, q, rfl, by omega, by omega, HBk.out, HO1.out, HG1.out⟩
      case round =>
        clear HO1 HBk HG1
        obtain ⟨s, q, rfl, hs20, hs4, hbk, ho, hg⟩ := hrel
        obtain ⟨wo, rfl⟩ : ∃ wo : World, wo = wr := ⟨_, rfl⟩
        have HBk := Lib.hid hbk
        have HO := Lib.hid ho
        have HG := Lib.hid hg
        clear hbk ho hg
        by_cases hsn : s < n
        · go_wp2
          go_loopw [7, 8] (fun va vb wr => ∃ (a : Nat) (A0 A D E : List Stp), va = .int .i64 a ∧ vb = .int .i64 (a + 2 * s : Nat) ∧ l = A0 ++ D ∧ A0.length = a ∧ PreP (fun x y => decide (c x y < 0)) (2 * s) A0 A ∧ BlkP (fun x y => decide (c x y < 0)) s D E ∧ Own wr B 24 3 (RKS Z) (.slice (some ⟨g, 0, none⟩) n cap) (A ++ E) ∧ w.grownBy wr (some g)) (fun va _ _ => n + 5000 - (intOf va).toNat)
          case atStart => exact ⟨0, [], [], l, q, rfl, by congr 1; omega, rfl, rfl, .nil, HBk.out, HO.out, HG.out⟩
          case round =>
            clear HO HBk HG
            obtain ⟨a, A0, A, D, E, rfl, rfl, hl, ha, hp, hbk, ho, hg⟩ := hrel
            obtain ⟨wo, rfl⟩ : ∃ wo : World, wo = wr := ⟨_, rfl⟩
            have HL := Lib.hid hl
            have HA := Lib.hid ha
            have HP := Lib.hid hp
            have HBk := Lib.hid hbk
            have HO := Lib.hid ho
            have HG := Lib.hid hg
            have hD : a + D.length = n := by rw [← HN.out, hl, List.length_append, ha]
            have HAL := Lib.hid (show A.length = a by rw [hp.len, ha])
            have HEL := Lib.hid hbk.len
            clear hl ha hp hbk ho hg
            obtain ⟨t, ht⟩ : ∃ t : Nat, t = a + 2 * s := ⟨_, rfl⟩
            obtain ⟨m, hm⟩ : ∃ m : Nat, m = a + s := ⟨_, rfl⟩
            have ht1 : t ≤ a + 2 * s := by omega
            have ht2 : a + 2 * s ≤ t := by omega
            have hm1 : m ≤ a + s := by omega
            have hm2 : a + s ≤ m := by omega
            rw [← ht]
            have HT := Lib.hid ht
            have HM := Lib.hid hm
            have hwm : IntKind.i64.wrap ((a : Int) + s) = (m : Int) := by rw [IntKind.wrap_i64]; omega
            have hwm2 : ((a : Int) + s) = (m : Int) := by omega
            clear ht hm
            by_cases hlt : t ≤ n
            · obtain ⟨u, hu⟩ : ∃ u : Nat, u = t + 2 * s := ⟨_, rfl⟩
              have hwu : ((t : Int) + 2 * s) = (u : Int) := by omega
              have HU := Lib.hid hu
              clear hu
              obtain ⟨l1, l2, D', E', hD', hE', e1, e2, hb'⟩ := HBk.out.two (by omega) (by omega)
              have HD' := Lib.hid hD'
              have HE' := Lib.hid hE'
              have HE1 := Lib.hid e1
              have HE2 := Lib.hid e2
              have HB' := Lib.hid hb'
              clear hD' hE' e1 e2 hb'
              go_wp2_with fail
              refine ((HS.out (2 * s)).call a m t A (srt (fun x y => decide (c x y < 0)) l1) (srt (fun x y => decide (c x y < 0)) l2) E' (A ++ E) _ (A ++ srt (fun x y => decide (c x y < 0)) (l1 ++ l2) ++ E') (by omega) (by rw [HE'.out]; simp only [List.append_assoc]) HO.out (by rw [List.length_append, HAL.out, HEL.out]; exact hD) HAL.out (by rw [srt_len, HE1.out]; omega) (by rw [srt_len, HE2.out]; omega) (srt_ris hsw _) (srt_ris hsw _) (by rw [srt_len, HE1.out]; omega) (by rw [srt_len, HE2.out]; omega) (by rw [srt_app hsw])).mono ?_
              rintro e w2 ⟨rfl, ho2, hg2⟩
              have HO2 := Lib.hid ho2
              have HG2 := Lib.hid (grown_trans HG.out hg2)
              clear ho2 hg2 hwm hwm2
              go_wp2
              go_roundw
              case rel => exact ⟨t, A0 ++ (l1 ++ l2), A ++ srt (fun x y => decide (c x y < 0)) (l1 ++ l2), D', E', rfl, by rw [← HU.out], by rw [HL.out, HD'.out]; simp only [List.append_assoc], by rw [List.length_append, List.length_append, HA.out, HE1.out, HE2.out]; omega, .snoc _ _ _ HP.out (by rw [List.length_append, HE1.out, HE2.out]; omega), HB'.out, HO2.out, HG2.out⟩
              case measure => (try simp only [intOf]); omega
            · have hws : IntKind.i64.wrap ((s : Int) * 2) = (s : Int) * 2 := by rw [IntKind.wrap_i64]; omega
              by_cases hmn : m < n
              · obtain ⟨l1, l2, hD', hE', e1, e2, e3⟩ := HBk.out.rest (by omega) (by omega) (by omega)
                have HD' := Lib.hid hD'
                have HE' := Lib.hid hE'
                have HE1 := Lib.hid e1
                have hl2 : m + l2.length = n := by rw [hD', List.length_append, e1] at hD; omega
                have HL2 := Lib.hid hl2
                clear hD' hE' e1 hl2
                go_wp2_with fail
                refine ((HS.out (2 * s)).call a m n A (srt (fun x y => decide (c x y < 0)) l1) (srt (fun x y => decide (c x y < 0)) l2) [] (A ++ E) _ (A ++ srt (fun x y => decide (c x y < 0)) D) (by omega) (by rw [HE'.out]; simp only [List.append_assoc, List.append_nil]) HO.out (by rw [List.length_append, HAL.out, HEL.out]; exact hD) HAL.out (by rw [srt_len, HE1.out]; omega) (by rw [srt_len]; exact HL2.out) (srt_ris hsw _) (srt_ris hsw _) (by rw [srt_len, HE1.out]; omega) (by rw [srt_len]; exact e2) (by rw [srt_app hsw, HD'.out, List.append_nil])).mono ?_
                rintro e w2 ⟨rfl, ho2, hg2⟩
                have HO2 := Lib.hid ho2
                have HG2 := Lib.hid (grown_trans HG.out hg2)
                clear ho2 hg2 hwm hwm2
                go_wp2
                go_roundw
                case rel => exact ⟨s * 2, A ++ srt (fun x y => decide (c x y < 0)) D, by simp, by omega, by omega, by rw [HL.out, Nat.mul_comm]; exact HP.out.app (.last D (by omega)), HO2.out, HG2.out⟩
                case measure => (try simp only [intOf]); omega
              · have hE := HBk.out.short (by omega) (by omega)
                have HE := Lib.hid hE
                clear hE
                go_wp2
                go_roundw
                case rel => exact ⟨s * 2, A ++ srt (fun x y => decide (c x y < 0)) D, by simp, by omega, by omega, by rw [HL.out, Nat.mul_comm]; exact HP.out.app (.last D (by omega)), by rw [← HE.out]; exact HO.out, HG.out⟩
                case measure => (try simp only [intOf]); omega
        · have hE := HBk.out.short (by rw [HN.out]; omega) (by omega)
          have HE := Lib.hid hE
          clear hE
          go_wp2
          go_end0
          exact ⟨rfl, by rw [← HF.out, ← HE.out]; exact HO.out, HG.out⟩
end Go.Proofs.YtaicidbopgnmfaaGreatDoor
