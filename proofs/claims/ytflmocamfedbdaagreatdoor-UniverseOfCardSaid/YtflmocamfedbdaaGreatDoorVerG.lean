/- The contract of the reference's Part. -/
import Derived.Test.YtflmocamfedbdaaGreatDoorVerF
import Derived.Test.YtflmocamfedbdaaGreatDoorVerE
namespace Go.Proofs.YtflmocamfedbdaaGreatDoor
set_option linter.unusedSimpArgs false
set_option linter.unusedVariables false
open Go.RowKit

theorem rsign_quiet (x y : Int) (w : World) :
    Calls Tryz.prog 126 #[.int .i64 x, .int .i64 y] w fun e w' => e = .returned (.int .i64 (Lib.compareInt x y)) ∧ w' = w :=
  (rsign_any x y w).mono fun _ _ h => ⟨h.1, h.2.symm⟩
def NotBoth (a b : List UInt8) : Prop := ¬ (a = [] ∧ b = [])
theorem skip_len (l : List UInt8) : (skipS l).length ≤ l.length := by
  unfold skipS
  have h1 := (List.dropWhile_suffix (l := l.dropWhile (fun c => !digB c)) (· == 48)).length_le
  have h2 := (List.dropWhile_suffix (l := l) (fun c => !digB c)).length_le
  omega
theorem sgn_stop {a b : List UInt8} {k : Nat} (hs : signsS (a.drop k) (b.drop k) = signsS a b) (h1 : rrankS (a.drop k) = 0) (h2 : rrankS (b.drop k) = 0) : (signsS a b).1 = 0 := by
  rw [← hs, signs_stop (by rw [(rrank_zero _).1 h1, (rrank_zero _).1 h2]) ((rrank_zero _).1 h2)]
theorem sgn_part {a b : List UInt8} {k : Nat} (hs : signsS (a.drop k) (b.drop k) = signsS a b) (h1 : ¬ Lib.compareInt (rrankS (a.drop k)) (rrankS (b.drop k)) = 0) :
    (signsS a b).1 = Lib.compareInt (rrankS (a.drop k)) (rrankS (b.drop k)) := by
  rw [rrank_cmp] at h1 ⊢
  rw [← hs, signs_part (fun h => h1 ((compareInt_zero _ _).2 h))]
theorem sgn_go {a b : List UInt8} {k : Nat} (hs : signsS (a.drop k) (b.drop k) = signsS a b) (h1 : Lib.compareInt (rrankS (a.drop k)) (rrankS (b.drop k)) = 0) (h2 : ¬ (rrankS (a.drop k) = 0 ∧ rrankS (b.drop k) = 0)) :
    k + 1 ≤ a.length ∧ k + 1 ≤ b.length ∧ signsS (a.drop (k + 1)) (b.drop (k + 1)) = signsS a b := by
  rw [rrank_cmp, compareInt_zero] at h1
  have hb : ¬ rankS (b.drop k) = 0 := fun h => h2 ⟨(rrank_zero _).2 (by rw [h1]; exact h), (rrank_zero _).2 h⟩
  have ha : ¬ rankS (a.drop k) = 0 := by rw [h1]; exact hb
  have hka : k < a.length := by
    rcases Nat.lt_or_ge k a.length with h | h
    · exact h
    · rw [List.drop_eq_nil_of_le h] at ha; exact absurd rfl ha
  have hkb : k < b.length := by
    rcases Nat.lt_or_ge k b.length with h | h
    · exact h
    · rw [List.drop_eq_nil_of_le h] at hb; exact absurd rfl hb
  refine ⟨hka, hkb, ?_⟩
  rw [← hs]
  have ea := List.drop_eq_getElem_cons hka
  have eb := List.drop_eq_getElem_cons hkb
  rw [ea, eb] at h1
  rw [eb] at hb
  rw [show signsS (a.drop k) (b.drop k) = signsS (a[k] :: a.drop (k + 1)) (b[k] :: b.drop (k + 1)) by rw [← ea, ← eb]]
  exact (signs_go h1 hb).symm

set_option maxRecDepth 100000 in
set_option maxHeartbeats 800000 in
theorem rpart_any (a b : List UInt8) (w : World) (hl : a.length ≤ 1048576) (hl2 : b.length ≤ 1048576) :
    Calls Tryz.prog 108 #[.string (bs a), .string (bs b)] w fun e w' => e = .returned (.int .i64 (partS a b)) ∧ Below w.heap.size w w' := by
  go_enter Tryz.func108, Tryz.ntmps108
  go_wp2
  go_loopw [0, 1] (fun u v wr => ∃ a' b', u = .string (bs a') ∧ v = .string (bs b') ∧ Below w.heap.size w wr ∧ partS a' b' = partS a b ∧ a'.length ≤ 1048576 ∧ b'.length ≤ 1048576) (fun u v _ => strLen u + strLen v)
  case atStart => exact ⟨a, b, rfl, rfl, Below.refl _ _, rfl, hl, hl2⟩
  case round =>
    obtain ⟨a', b', rfl, rfl, hg', heq, hl1, hl3⟩ := hrel
    have HG := Lib.hid hg'
    have HE := Lib.hid heq
    clear hg' heq
    rcases a' with _ | ⟨x, a'⟩
    · rcases b' with _ | ⟨y, b'⟩
      · go_wp2
        go_ret
        exact ⟨by rw [← HE.out]; rfl, HG.out⟩
      · have HNE : NotBoth ([] : List UInt8) (y :: b') := by simp [NotBoth]
        have hla : (([] : List UInt8)).length ≤ 1048576 := hl1
        have hlb : ((y :: b')).length ≤ 1048576 := hl3
        go_wp2
        go_loop [5] (fun i => ∃ k : Nat, i = .int .i64 k ∧ k ≤ (([] : List UInt8)).length ∧ k ≤ ((y :: b')).length ∧ signsS ((([] : List UInt8)).drop k) (((y :: b')).drop k) = signsS ([] : List UInt8) (y :: b')) (fun i => (([] : List UInt8)).length - (intOf i).toNat)
        case atStart => exact ⟨0, rfl, Nat.zero_le _, Nat.zero_le _, rfl⟩
        case round =>
          obtain ⟨k, rfl, hka, hkb, hsg⟩ := hrel
          have HS := Lib.hid hsg
          clear hsg
          go_wp2_with (first | (go_at_call 125; refine (rrank_any _ k (by omega) (by omega) _).mono ?_; rintro e w' ⟨rfl, rfl⟩) | (go_at_call 126; refine (rsign_any _ _ _).mono ?_; rintro e w' ⟨rfl, rfl⟩))
          · have hq : (signsS ([] : List UInt8) (y :: b')).1 = Lib.compareInt (rrankS (List.drop k ([] : List UInt8))) (rrankS (List.drop k (y :: b'))) := sgn_part HS.out (by go_tidy; grind)
            have hp : partS a b = (signsS ([] : List UInt8) (y :: b')).1 := by rw [← HE.out, partS_signs HNE (by rw [hq]; go_tidy; grind)]
            rw [hq] at hp
            have HP := Lib.hid hp
            clear hq hp
            go_ret
            refine ⟨?_, HG.out⟩
            rw [HP.out]
            try (go_tidy; simp; try grind)
          · have hgo := sgn_go HS.out (by go_tidy; grind) (by go_tidy; grind)
            have HGO := Lib.hid hgo
            clear hgo
            go_round
            case rel => exact ⟨k + 1, by go_num, HGO.out⟩
            case measure => have := HGO.out.1; simp only [intOf]; omega
          · have hstop : (signsS ([] : List UInt8) (y :: b')).1 = 0 := sgn_stop HS.out (by go_tidy; grind) (by go_tidy; grind)
            have hsk := skip_parts hstop
            have hsl := signs_len ([] : List UInt8) (y :: b')
            have hd1 := digits_len (signsS ([] : List UInt8) (y :: b')).2.1
            have hd2 := digits_len (signsS ([] : List UInt8) (y :: b')).2.2
            have hr1 := run_parts (signsS ([] : List UInt8) (y :: b')).2.1
            have hr2 := run_parts (signsS ([] : List UInt8) (y :: b')).2.2
            have hstep := partS_step HNE hstop
            have hnums := partS_nums HNE hstop
            have hrl := round_len HNE hstop
            unfold numsS at hstep hnums
            generalize (digitsS (signsS ([] : List UInt8) (y :: b')).2.1).1 = p at hsk hd1 hr1 hstep hnums
            generalize (digitsS (signsS ([] : List UInt8) (y :: b')).2.2).1 = q at hsk hd2 hr2 hstep hnums
            generalize (digitsS (signsS ([] : List UInt8) (y :: b')).2.1).2 = A2 at hsk hd1 hr1 hstep hrl
            generalize (digitsS (signsS ([] : List UInt8) (y :: b')).2.2).2 = B2 at hsk hd2 hr2 hstep hrl
            have hpl := skip_len ([] : List UInt8)
            have hql := skip_len (y :: b')
            rw [hsk.1, List.length_append] at hpl
            rw [hsk.2, List.length_append] at hql
            have HP := Lib.hid hsk.1
            have HQ := Lib.hid hsk.2
            have hPk : ∀ k, k < p.length → (p ++ A2)[k]? = p[k]? := fun k h => List.getElem?_append_left h
            have hQk : ∀ k, k < q.length → (q ++ B2)[k]? = q[k]? := fun k h => List.getElem?_append_left h
            have hPd : (p ++ A2).drop p.length = A2 := List.drop_left
            have hQd : (q ++ B2).drop q.length = B2 := List.drop_left
            have hPl : p.length ≤ (p ++ A2).length := by simp
            have hQl : q.length ≤ (q ++ B2).length := by simp
            have hPn : (p ++ A2).length ≤ 1048576 := by simp; omega
            have hQn : (q ++ B2).length ≤ 1048576 := by simp; omega
            generalize p ++ A2 = P at HP hr1 hPk hPd hPl hPn
            generalize q ++ B2 = Q at HQ hr2 hQk hQd hQl hQn
            have HPK := Lib.hid hPk
            have HQK := Lib.hid hQk
            have HPD := Lib.hid hPd
            have HQD := Lib.hid hQd
            clear hPk hQk hPd hQd
            have HR1 := Lib.hid hr1
            have HR2 := Lib.hid hr2
            have HST := Lib.hid hstep
            have HNU := Lib.hid hnums
            clear hsk hr1 hr2 hstep hnums hstop
            go_wp2_with fail
            refine (rskip_any _ hla _).mono ?_
            rintro e w' ⟨rfl, rfl⟩
            rw [HP.out]
            go_wp2_with fail
            refine (rskip_any _ hlb _).mono ?_
            rintro e w' ⟨rfl, rfl⟩
            rw [HQ.out]
            by_cases hpq : p.length = q.length
            · rw [if_pos hpq] at HST HNU
              have HL := Lib.hid hpq
              have hlq : p.length ≤ q.length := by omega
              clear hpq
              go_wp2_with fail
              refine (rrun_any _ (by omega) _).mono ?_
              rintro e w' ⟨rfl, rfl⟩
              rw [HR1.out]
              go_wp2_with fail
              refine (rrun_any _ (by omega) _).mono ?_
              rintro e w' ⟨rfl, rfl⟩
              rw [HR2.out, ← HL.out]
              go_wp2_with fail
              obtain ⟨wo, hwo⟩ : ∃ wo : World, wo = wr := ⟨_, rfl⟩
              go_loopw [54] (fun i w3 => ∃ k : Nat, i = .int .i64 k ∧ k ≤ p.length ∧ p.take k = q.take k ∧ Below w.heap.size w w3) (fun i _ => p.length - (intOf i).toNat)
              case atStart => exact ⟨0, rfl, Nat.zero_le _, rfl, HG.out⟩
              case round =>
                obtain ⟨k3, rfl, hk3, htk, hb3⟩ := hrel
                have HT := Lib.hid htk
                have HB3 := Lib.hid hb3
                clear htk hb3
                by_cases hp3 : k3 < p.length
                · have hq3 : k3 < q.length := by rw [← HL.out]; exact hp3
                  have hP3 : (k3 : Int) < P.length := by omega
                  have hQ3 : (k3 : Int) < Q.length := by omega
                  go_wp2_with fail
                  go_quiet ((go_at_call 126; exact Calls.quiet_of_same (rsign_quiet _ _ _)))
                  go_wp2
                  · have hx : p[k3]? = some P[k3] := by rw [← HPK.out k3 hp3]; exact List.getElem?_eq_getElem _
                    have hy : q[k3]? = some Q[k3] := by rw [← HQK.out k3 hq3]; exact List.getElem?_eq_getElem _
                    have hc : ¬ Lib.compareInt P[k3].toNat Q[k3].toNat = 0 := by go_tidy; grind
                    have hb := cmpB_diff HT.out hx hy (fun h => hc ((compareInt_zero _ _).2 (by omega)))
                    have HF := Lib.hid (HNU.out (by rw [hb]; exact hc))
                    have HBB := Lib.hid hb
                    clear hb hx hy hc
                    go_ret
                    exact ⟨by rw [← HE.out, HF.out, HBB.out]; rfl, below_drewN HB3.out _⟩
                  · have hx : p[k3]? = some P[k3] := by rw [← HPK.out k3 hp3]; exact List.getElem?_eq_getElem _
                    have hy : q[k3]? = some Q[k3] := by rw [← HQK.out k3 hq3]; exact List.getElem?_eq_getElem _
                    have hc : Lib.compareInt P[k3].toNat Q[k3].toNat = 0 := by go_tidy; grind
                    have he : P[k3] = Q[k3] := UInt8.toNat_inj.1 (by have := (compareInt_zero _ _).1 hc; omega)
                    have ht : p.take (k3 + 1) = q.take (k3 + 1) := by
                      rw [List.take_add_one, List.take_add_one, hx, hy, he, HT.out]
                    have HTT := Lib.hid ht
                    clear hx hy hc he ht
                    go_roundw
                    case rel => exact ⟨k3 + 1, by go_num, by omega, HTT.out, below_drewN HB3.out _⟩
                    case measure => simp only [intOf]; omega
                · have hd1 := HPD.out
                  have hd2 : Q.drop p.length = B2 := by rw [HL.out]; exact HQD.out
                  have hd3 : List.take (P.length - p.length) A2 = A2 := by rw [← hd1]; exact take_rest P _
                  have hd4 : List.take (Q.length - p.length) B2 = B2 := by rw [← hd2]; exact take_rest Q _
                  have hd5 : p.length ≤ Q.length := by omega
                  go_wp2_with fail
                  have hpe : p = q := by
                    have := HT.out
                    rw [List.take_of_length_le (by omega), List.take_of_length_le (by have := HL.out; omega)] at this
                    exact this
                  have HF := Lib.hid (HST.out (by rw [hpe]; exact cmpB_same q))
                  clear hpe
                  go_quiet (fail)
                  go_wp2
                  go_roundw
                  case rel => exact ⟨A2, B2, rfl, rfl, below_drewN HB3.out _, HF.out.symm.trans HE.out, by omega, by omega⟩
                  case measure => simp only [strLen_bs]; omega
            · rw [if_neg hpq] at HST HNU
              go_wp2_with fail
              refine (rrun_any _ (by omega) _).mono ?_
              rintro e w' ⟨rfl, rfl⟩
              rw [HR1.out]
              go_wp2_with fail
              refine (rrun_any _ (by omega) _).mono ?_
              rintro e w' ⟨rfl, rfl⟩
              rw [HR2.out]
              go_wp2_with (go_at_call 126; refine (rsign_any _ _ _).mono ?_; rintro e w' ⟨rfl, rfl⟩)
              go_ret
              exact ⟨by rw [← HE.out, HNU.out (fun h => hpq (by rw [compareInt_zero] at h; omega))]; rfl, HG.out⟩
    · have HNE : NotBoth (x :: a') b' := by simp [NotBoth]
      have hla : ((x :: a')).length ≤ 1048576 := hl1
      have hlb : (b').length ≤ 1048576 := hl3
      go_wp2
      go_loop [5] (fun i => ∃ k : Nat, i = .int .i64 k ∧ k ≤ ((x :: a')).length ∧ k ≤ (b').length ∧ signsS (((x :: a')).drop k) ((b').drop k) = signsS (x :: a') b') (fun i => ((x :: a')).length - (intOf i).toNat)
      case atStart => exact ⟨0, rfl, Nat.zero_le _, Nat.zero_le _, rfl⟩
      case round =>
        obtain ⟨k, rfl, hka, hkb, hsg⟩ := hrel
        have HS := Lib.hid hsg
        clear hsg
        go_wp2_with (first | (go_at_call 125; refine (rrank_any _ k (by omega) (by omega) _).mono ?_; rintro e w' ⟨rfl, rfl⟩) | (go_at_call 126; refine (rsign_any _ _ _).mono ?_; rintro e w' ⟨rfl, rfl⟩))
        · have hq : (signsS (x :: a') b').1 = Lib.compareInt (rrankS (List.drop k (x :: a'))) (rrankS (List.drop k b')) := sgn_part HS.out (by go_tidy; grind)
          have hp : partS a b = (signsS (x :: a') b').1 := by rw [← HE.out, partS_signs HNE (by rw [hq]; go_tidy; grind)]
          rw [hq] at hp
          have HP := Lib.hid hp
          clear hq hp
          go_ret
          refine ⟨?_, HG.out⟩
          rw [HP.out]
          try (go_tidy; simp; try grind)
        · have hgo := sgn_go HS.out (by go_tidy; grind) (by go_tidy; grind)
          have HGO := Lib.hid hgo
          clear hgo
          go_round
          case rel => exact ⟨k + 1, by go_num, HGO.out⟩
          case measure => have := HGO.out.1; simp only [intOf]; omega
        · have hstop : (signsS (x :: a') b').1 = 0 := sgn_stop HS.out (by go_tidy; grind) (by go_tidy; grind)
          have hsk := skip_parts hstop
          have hsl := signs_len (x :: a') b'
          have hd1 := digits_len (signsS (x :: a') b').2.1
          have hd2 := digits_len (signsS (x :: a') b').2.2
          have hr1 := run_parts (signsS (x :: a') b').2.1
          have hr2 := run_parts (signsS (x :: a') b').2.2
          have hstep := partS_step HNE hstop
          have hnums := partS_nums HNE hstop
          have hrl := round_len HNE hstop
          unfold numsS at hstep hnums
          generalize (digitsS (signsS (x :: a') b').2.1).1 = p at hsk hd1 hr1 hstep hnums
          generalize (digitsS (signsS (x :: a') b').2.2).1 = q at hsk hd2 hr2 hstep hnums
          generalize (digitsS (signsS (x :: a') b').2.1).2 = A2 at hsk hd1 hr1 hstep hrl
          generalize (digitsS (signsS (x :: a') b').2.2).2 = B2 at hsk hd2 hr2 hstep hrl
          have hpl := skip_len (x :: a')
          have hql := skip_len b'
          rw [hsk.1, List.length_append] at hpl
          rw [hsk.2, List.length_append] at hql
          have HP := Lib.hid hsk.1
          have HQ := Lib.hid hsk.2
          have hPk : ∀ k, k < p.length → (p ++ A2)[k]? = p[k]? := fun k h => List.getElem?_append_left h
          have hQk : ∀ k, k < q.length → (q ++ B2)[k]? = q[k]? := fun k h => List.getElem?_append_left h
          have hPd : (p ++ A2).drop p.length = A2 := List.drop_left
          have hQd : (q ++ B2).drop q.length = B2 := List.drop_left
          have hPl : p.length ≤ (p ++ A2).length := by simp
          have hQl : q.length ≤ (q ++ B2).length := by simp
          have hPn : (p ++ A2).length ≤ 1048576 := by simp; omega
          have hQn : (q ++ B2).length ≤ 1048576 := by simp; omega
          generalize p ++ A2 = P at HP hr1 hPk hPd hPl hPn
          generalize q ++ B2 = Q at HQ hr2 hQk hQd hQl hQn
          have HPK := Lib.hid hPk
          have HQK := Lib.hid hQk
          have HPD := Lib.hid hPd
          have HQD := Lib.hid hQd
          clear hPk hQk hPd hQd
          have HR1 := Lib.hid hr1
          have HR2 := Lib.hid hr2
          have HST := Lib.hid hstep
          have HNU := Lib.hid hnums
          clear hsk hr1 hr2 hstep hnums hstop
          go_wp2_with fail
          refine (rskip_any _ hla _).mono ?_
          rintro e w' ⟨rfl, rfl⟩
          rw [HP.out]
          go_wp2_with fail
          refine (rskip_any _ hlb _).mono ?_
          rintro e w' ⟨rfl, rfl⟩
          rw [HQ.out]
          by_cases hpq : p.length = q.length
          · rw [if_pos hpq] at HST HNU
            have HL := Lib.hid hpq
            have hlq : p.length ≤ q.length := by omega
            clear hpq
            go_wp2_with fail
            refine (rrun_any _ (by omega) _).mono ?_
            rintro e w' ⟨rfl, rfl⟩
            rw [HR1.out]
            go_wp2_with fail
            refine (rrun_any _ (by omega) _).mono ?_
            rintro e w' ⟨rfl, rfl⟩
            rw [HR2.out, ← HL.out]
            go_wp2_with fail
            obtain ⟨wo, hwo⟩ : ∃ wo : World, wo = wr := ⟨_, rfl⟩
            go_loopw [54] (fun i w3 => ∃ k : Nat, i = .int .i64 k ∧ k ≤ p.length ∧ p.take k = q.take k ∧ Below w.heap.size w w3) (fun i _ => p.length - (intOf i).toNat)
            case atStart => exact ⟨0, rfl, Nat.zero_le _, rfl, HG.out⟩
            case round =>
              obtain ⟨k3, rfl, hk3, htk, hb3⟩ := hrel
              have HT := Lib.hid htk
              have HB3 := Lib.hid hb3
              clear htk hb3
              by_cases hp3 : k3 < p.length
              · have hq3 : k3 < q.length := by rw [← HL.out]; exact hp3
                have hP3 : (k3 : Int) < P.length := by omega
                have hQ3 : (k3 : Int) < Q.length := by omega
                go_wp2_with fail
                go_quiet ((go_at_call 126; exact Calls.quiet_of_same (rsign_quiet _ _ _)))
                go_wp2
                · have hx : p[k3]? = some P[k3] := by rw [← HPK.out k3 hp3]; exact List.getElem?_eq_getElem _
                  have hy : q[k3]? = some Q[k3] := by rw [← HQK.out k3 hq3]; exact List.getElem?_eq_getElem _
                  have hc : ¬ Lib.compareInt P[k3].toNat Q[k3].toNat = 0 := by go_tidy; grind
                  have hb := cmpB_diff HT.out hx hy (fun h => hc ((compareInt_zero _ _).2 (by omega)))
                  have HF := Lib.hid (HNU.out (by rw [hb]; exact hc))
                  have HBB := Lib.hid hb
                  clear hb hx hy hc
                  go_ret
                  exact ⟨by rw [← HE.out, HF.out, HBB.out]; rfl, below_drewN HB3.out _⟩
                · have hx : p[k3]? = some P[k3] := by rw [← HPK.out k3 hp3]; exact List.getElem?_eq_getElem _
                  have hy : q[k3]? = some Q[k3] := by rw [← HQK.out k3 hq3]; exact List.getElem?_eq_getElem _
                  have hc : Lib.compareInt P[k3].toNat Q[k3].toNat = 0 := by go_tidy; grind
                  have he : P[k3] = Q[k3] := UInt8.toNat_inj.1 (by have := (compareInt_zero _ _).1 hc; omega)
                  have ht : p.take (k3 + 1) = q.take (k3 + 1) := by
                    rw [List.take_add_one, List.take_add_one, hx, hy, he, HT.out]
                  have HTT := Lib.hid ht
                  clear hx hy hc he ht
                  go_roundw
                  case rel => exact ⟨k3 + 1, by go_num, by omega, HTT.out, below_drewN HB3.out _⟩
                  case measure => simp only [intOf]; omega
              · have hd1 := HPD.out
                have hd2 : Q.drop p.length = B2 := by rw [HL.out]; exact HQD.out
                have hd3 : List.take (P.length - p.length) A2 = A2 := by rw [← hd1]; exact take_rest P _
                have hd4 : List.take (Q.length - p.length) B2 = B2 := by rw [← hd2]; exact take_rest Q _
                have hd5 : p.length ≤ Q.length := by omega
                go_wp2_with fail
                have hpe : p = q := by
                  have := HT.out
                  rw [List.take_of_length_le (by omega), List.take_of_length_le (by have := HL.out; omega)] at this
                  exact this
                have HF := Lib.hid (HST.out (by rw [hpe]; exact cmpB_same q))
                clear hpe
                go_quiet (fail)
                go_wp2
                go_roundw
                case rel => exact ⟨A2, B2, rfl, rfl, below_drewN HB3.out _, HF.out.symm.trans HE.out, by omega, by omega⟩
                case measure => simp only [strLen_bs]; omega
          · rw [if_neg hpq] at HST HNU
            go_wp2_with fail
            refine (rrun_any _ (by omega) _).mono ?_
            rintro e w' ⟨rfl, rfl⟩
            rw [HR1.out]
            go_wp2_with fail
            refine (rrun_any _ (by omega) _).mono ?_
            rintro e w' ⟨rfl, rfl⟩
            rw [HR2.out]
            go_wp2_with (go_at_call 126; refine (rsign_any _ _ _).mono ?_; rintro e w' ⟨rfl, rfl⟩)
            go_ret
            exact ⟨by rw [← HE.out, HNU.out (fun h => hpq (by rw [compareInt_zero] at h; omega))]; rfl, HG.out⟩
        · have hq : (signsS (x :: a') b').1 = Lib.compareInt (rrankS (List.drop k (x :: a'))) (rrankS (List.drop k b')) := sgn_part HS.out (by go_tidy; grind)
          have hp : partS a b = (signsS (x :: a') b').1 := by rw [← HE.out, partS_signs HNE (by rw [hq]; go_tidy; grind)]
          rw [hq] at hp
          have HP := Lib.hid hp
          clear hq hp
          go_ret
          refine ⟨?_, HG.out⟩
          rw [HP.out]
          try (go_tidy; simp; try grind)
        · have hgo := sgn_go HS.out (by go_tidy; grind) (by go_tidy; grind)
          have HGO := Lib.hid hgo
          clear hgo
          go_round
          case rel => exact ⟨k + 1, by go_num, HGO.out⟩
          case measure => have := HGO.out.1; simp only [intOf]; omega
end Go.Proofs.YtflmocamfedbdaaGreatDoor
