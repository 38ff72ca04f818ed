/- The contract of step.may: may a step be written? The contract of step.Text. Words between white space: plainly, by bytes and by runes. Plainly: the words of what is written; a step's text is read as it was. -/
import Derived.Test.YtaicidbopgnmfaaGreatDoorDa
import Derived.Test.YtaicidbopgnmfaaGreatDoorMx
import Derived.Test.YtaicidbopgnmfaaGreatDoorWa
import Derived.Laws.Concat
import Derived.Test.YtaicidbopgnmfaaGreatDoorVb
import Derived.Lib.FieldsP
import Derived.Lib.SpaceUEq
namespace Go.Proofs.YtaicidbopgnmfaaGreatDoor
set_option linter.unusedSimpArgs false
set_option linter.unusedVariables false
open Go.RowKit
def mayT (st : Stp) : Bool := !(wordS st.kind == []) && nameS st.name && (if st.kind = 3 then isV st.ver else st.ver == [])
set_option maxRecDepth 100000 in
set_option maxHeartbeats 2000000 in
theorem mayT_any (k : Int) (nm vr : List UInt8) (w : World) (hn : short nm) :
    Calls Tryz.prog 73 #[.agg #[.int .i64 k, .string (bs nm), .string (bs vr)]] w fun e w' => e = .returned (.bool (mayT ⟨k, nm, vr⟩)) ∧ Below w.heap.size w w' := by
  obtain ⟨G, hG⟩ : ∃ G, G = mayT ⟨k, nm, vr⟩ := ⟨_, rfl⟩
  rw [← hG]
  obtain ⟨W0, hW⟩ : ∃ W0, wordS k = W0 := ⟨_, rfl⟩
  have HW := Lib.hid hW
  by_cases hw0 : W0 = []
  · have HG := Lib.hid (show G = false by rw [hG, mayT]; simp [hW, hw0])
    have hwb : (W0 == []) = true := by simpa using hw0
    clear hG hW hw0
    go_enter Tryz.func73, Tryz.ntmps73
    have K1 := Lib.hid (blk_new1 w 24 #[.int .i64 k, .string (bs nm), .string (bs vr)])
    have HB := Lib.hid (below_alloc (Below.refl w.heap.size w) (.cells #[.int .i64 k, .string (bs nm), .string (bs vr)] 24))
    have a0 := K1.out.cell 0
    have a1 := K1.out.cell 1
    have a2 := K1.out.cell 2
    simp only [List.getElem?_toArray, List.getElem?_cons_zero, List.getElem?_cons_succ] at a0 a1 a2
    go_wp2_with fail
    refine (word_any k _).mono ?_
    rintro e w1 ⟨rfl, hw1⟩
    subst hw1
    rw [HW.out]
    go_wp2
    go_ret
    exact ⟨by rw [HG.out]; rfl, HB.out⟩
  · have hwb : (W0 == []) = false := by simpa using hw0
    rcases hnm : nameS nm
    · have HN := Lib.hid hnm
      have HG := Lib.hid (show G = false by rw [hG, mayT]; simp [hnm])
      clear hG hW hw0 hnm
      go_enter Tryz.func73, Tryz.ntmps73
      have K1 := Lib.hid (blk_new1 w 24 #[.int .i64 k, .string (bs nm), .string (bs vr)])
      have HB := Lib.hid (below_alloc (Below.refl w.heap.size w) (.cells #[.int .i64 k, .string (bs nm), .string (bs vr)] 24))
      have a0 := K1.out.cell 0
      have a1 := K1.out.cell 1
      have a2 := K1.out.cell 2
      simp only [List.getElem?_toArray, List.getElem?_cons_zero, List.getElem?_cons_succ] at a0 a1 a2
      go_wp2_with fail
      refine (word_any k _).mono ?_
      rintro e w1 ⟨rfl, hw1⟩
      subst hw1
      rw [HW.out]
      go_wp2_with fail
      refine (name_any nm (by unfold short at hn; omega) _).mono ?_
      rintro e w2 ⟨rfl, hb2⟩
      have HB2 := Lib.hid (below_next HB.out hb2)
      have a0 := Kept.of_below hb2 _ _ a0
      have a2 := Kept.of_below hb2 _ _ a2
      clear hb2 a1 HB
      rw [HN.out]
      go_wp2
      go_ret
      exact ⟨by rw [HG.out]; rfl, HB2.out⟩
    · have HN := Lib.hid hnm
      by_cases hk : k = 3
      · have HG := Lib.hid (show G = isV vr by rw [hG, mayT]; dsimp only; rw [hW, hnm, if_pos hk]; simp [hw0])
        have hkb : (k != 3) = false := by simpa using hk
        clear hG hW hw0 hnm hk
        rcases hv : verS vr with _ | ⟨a, b, c⟩
        · have HV := Lib.hid (verV_none hv)
          have HI := Lib.hid (show isV vr = false by simp [isV, hv])
          clear hv
          go_enter Tryz.func73, Tryz.ntmps73
          have K1 := Lib.hid (blk_new1 w 24 #[.int .i64 k, .string (bs nm), .string (bs vr)])
          have HB := Lib.hid (below_alloc (Below.refl w.heap.size w) (.cells #[.int .i64 k, .string (bs nm), .string (bs vr)] 24))
          have a0 := K1.out.cell 0
          have a1 := K1.out.cell 1
          have a2 := K1.out.cell 2
          simp only [List.getElem?_toArray, List.getElem?_cons_zero, List.getElem?_cons_succ] at a0 a1 a2
          go_wp2_with fail
          refine (word_any k _).mono ?_
          rintro e w1 ⟨rfl, hw1⟩
          subst hw1
          rw [HW.out]
          go_wp2_with fail
          refine (name_any nm (by unfold short at hn; omega) _).mono ?_
          rintro e w2 ⟨rfl, hb2⟩
          have HB2 := Lib.hid (below_next HB.out hb2)
          have a0 := Kept.of_below hb2 _ _ a0
          have a2 := Kept.of_below hb2 _ _ a2
          clear hb2 a1 HB
          rw [HN.out]
          go_wp2_with fail
          refine (parse_any vr _).mono ?_
          rintro e w3 ⟨rfl, hb3⟩
          rw [HV.out]
          go_wp2
          go_ret
          exact ⟨by rw [HG.out, HI.out]; rfl, below_next HB2.out hb3⟩
        · have HV := Lib.hid (verV_some hv)
          have HI := Lib.hid (show isV vr = true by simp [isV, hv])
          clear hv
          go_enter Tryz.func73, Tryz.ntmps73
          have K1 := Lib.hid (blk_new1 w 24 #[.int .i64 k, .string (bs nm), .string (bs vr)])
          have HB := Lib.hid (below_alloc (Below.refl w.heap.size w) (.cells #[.int .i64 k, .string (bs nm), .string (bs vr)] 24))
          have a0 := K1.out.cell 0
          have a1 := K1.out.cell 1
          have a2 := K1.out.cell 2
          simp only [List.getElem?_toArray, List.getElem?_cons_zero, List.getElem?_cons_succ] at a0 a1 a2
          go_wp2_with fail
          refine (word_any k _).mono ?_
          rintro e w1 ⟨rfl, hw1⟩
          subst hw1
          rw [HW.out]
          go_wp2_with fail
          refine (name_any nm (by unfold short at hn; omega) _).mono ?_
          rintro e w2 ⟨rfl, hb2⟩
          have HB2 := Lib.hid (below_next HB.out hb2)
          have a0 := Kept.of_below hb2 _ _ a0
          have a2 := Kept.of_below hb2 _ _ a2
          clear hb2 a1 HB
          rw [HN.out]
          go_wp2_with fail
          refine (parse_any vr _).mono ?_
          rintro e w3 ⟨rfl, hb3⟩
          rw [HV.out]
          go_wp2
          go_ret
          exact ⟨by rw [HG.out, HI.out]; rfl, below_next HB2.out hb3⟩
      · have HG := Lib.hid (show G = vr.isEmpty by rw [hG, mayT]; dsimp only; rw [hW, hnm, if_neg hk]; simp [hw0])
        have hkb : (k != 3) = true := by simpa using hk
        clear hG hW hw0 hnm hk
        go_enter Tryz.func73, Tryz.ntmps73
        have K1 := Lib.hid (blk_new1 w 24 #[.int .i64 k, .string (bs nm), .string (bs vr)])
        have HB := Lib.hid (below_alloc (Below.refl w.heap.size w) (.cells #[.int .i64 k, .string (bs nm), .string (bs vr)] 24))
        have a0 := K1.out.cell 0
        have a1 := K1.out.cell 1
        have a2 := K1.out.cell 2
        simp only [List.getElem?_toArray, List.getElem?_cons_zero, List.getElem?_cons_succ] at a0 a1 a2
        go_wp2_with fail
        refine (word_any k _).mono ?_
        rintro e w1 ⟨rfl, hw1⟩
        subst hw1
        rw [HW.out]
        go_wp2_with fail
        refine (name_any nm (by unfold short at hn; omega) _).mono ?_
        rintro e w2 ⟨rfl, hb2⟩
        have HB2 := Lib.hid (below_next HB.out hb2)
        have a0 := Kept.of_below hb2 _ _ a0
        have a2 := Kept.of_below hb2 _ _ a2
        clear hb2 a1 HB
        rw [HN.out]
        go_wp2
        go_ret
        exact ⟨by rw [HG.out]; rfl, HB2.out⟩
end Go.Proofs.YtaicidbopgnmfaaGreatDoor
namespace Go.Proofs.YtaicidbopgnmfaaGreatDoor
set_option linter.unusedSimpArgs false
set_option linter.unusedVariables false
open Go.RowKit
def textT (st : Stp) : List UInt8 := if mayT st then wordS st.kind ++ [32] ++ st.name ++ (if st.kind = 3 then [32] ++ st.ver else []) else []
theorem bs_appT (a b : List UInt8) : bs (a ++ b) = bs a ++ bs b := ByteArray.ext (by simp [bs])
theorem wordS_len (k : Int) : (wordS k).length ≤ 11 := by
  unfold wordS
  repeat' split
  all_goals simp
set_option maxRecDepth 100000 in
set_option maxHeartbeats 2000000 in
theorem text_any (k : Int) (nm vr : List UInt8) (w : World) (hn : short nm) (hv : short vr) :
    Calls Tryz.prog 36 #[.agg #[.int .i64 k, .string (bs nm), .string (bs vr)]] w fun e w' => e = .returned (.string (bs (textT ⟨k, nm, vr⟩))) ∧ Below w.heap.size w w' := by
  obtain ⟨G, hG⟩ : ∃ G, G = textT ⟨k, nm, vr⟩ := ⟨_, rfl⟩
  rw [← hG]
  have hwl := wordS_len k
  have z1 : (bs (wordS k)).size + (⟨#[32]⟩ : ByteArray).size ≤ 9223372036854775807 := by simp [bs, ByteArray.size]; omega
  have z2 : (bs (wordS k) ++ (⟨#[32]⟩ : ByteArray)).size + (bs nm).size ≤ 9223372036854775807 := by unfold short at hn; simp [bs, ByteArray.size_append, ByteArray.size]; omega
  have z3 : (⟨#[32]⟩ : ByteArray).size + (bs vr).size ≤ 9223372036854775807 := by unfold short at hv; simp [bs, ByteArray.size]; omega
  have z4 : (bs (wordS k) ++ (⟨#[32]⟩ : ByteArray) ++ bs nm).size + ((⟨#[32]⟩ : ByteArray) ++ bs vr).size ≤ 9223372036854775807 := by unfold short at hn hv; simp [bs, ByteArray.size_append, ByteArray.size]; omega
  clear hwl
  rcases hm : mayT ⟨k, nm, vr⟩
  · have HM := Lib.hid hm
    have HG := Lib.hid (show G = [] by rw [hG, textT, hm]; rfl)
    clear hG hm
    go_enter Tryz.func36, Tryz.ntmps36
    have K1 := Lib.hid (blk_new1 w 24 #[.int .i64 k, .string (bs nm), .string (bs vr)])
    have HB := Lib.hid (below_alloc (Below.refl w.heap.size w) (.cells #[.int .i64 k, .string (bs nm), .string (bs vr)] 24))
    have a0 := K1.out.cell 0
    have a1 := K1.out.cell 1
    have a2 := K1.out.cell 2
    simp only [List.getElem?_toArray, List.getElem?_cons_zero, List.getElem?_cons_succ] at a0 a1 a2
    go_wp2_with fail
    have HQ := Lib.hid (mayT_any k nm vr (w.alloc (.cells #[.int .i64 k, .string (bs nm), .string (bs vr)] 24)) hn)
    refine HQ.out.mono ?_
    rintro e w1 ⟨rfl, hb1⟩
    rw [HM.out]
    have HB1 := Lib.hid (below_next HB.out hb1)
    have a0 := Kept.of_below hb1 _ _ a0
    have a1 := Kept.of_below hb1 _ _ a1
    have a2 := Kept.of_below hb1 _ _ a2
    clear hb1 HQ HB
    go_wp2
    go_ret
    exact ⟨by rw [HG.out]; rfl, HB1.out⟩
  · have HM := Lib.hid hm
    by_cases hk : k = 3
    · have HG := Lib.hid (show G = wordS k ++ [32] ++ nm ++ ([32] ++ vr) by rw [hG, textT, hm]; dsimp only; rw [if_pos rfl, if_pos hk])
      have hkb : (k == 3) = true := by simpa using hk
      clear hG hm hk
      go_enter Tryz.func36, Tryz.ntmps36
      have K1 := Lib.hid (blk_new1 w 24 #[.int .i64 k, .string (bs nm), .string (bs vr)])
      have HB := Lib.hid (below_alloc (Below.refl w.heap.size w) (.cells #[.int .i64 k, .string (bs nm), .string (bs vr)] 24))
      have a0 := K1.out.cell 0
      have a1 := K1.out.cell 1
      have a2 := K1.out.cell 2
      simp only [List.getElem?_toArray, List.getElem?_cons_zero, List.getElem?_cons_succ] at a0 a1 a2
      go_wp2_with fail
      have HQ := Lib.hid (mayT_any k nm vr (w.alloc (.cells #[.int .i64 k, .string (bs nm), .string (bs vr)] 24)) hn)
      refine HQ.out.mono ?_
      rintro e w1 ⟨rfl, hb1⟩
      rw [HM.out]
      have HB1 := Lib.hid (below_next HB.out hb1)
      have a0 := Kept.of_below hb1 _ _ a0
      have a1 := Kept.of_below hb1 _ _ a1
      have a2 := Kept.of_below hb1 _ _ a2
      clear hb1 HQ HB
      go_wp2_with fail
      go_quiet ((go_at_call 56; exact Calls.quiet_of_same ((word_any k _).mono fun _ _ h => ⟨h.1, h.2.symm⟩)))
      go_wp2
      go_ret
      exact ⟨by rw [HG.out]; simp only [bs_appT]; rfl, below_drewN HB1.out _⟩
    · have HG := Lib.hid (show G = wordS k ++ [32] ++ nm by rw [hG, textT, hm]; dsimp only; rw [if_pos rfl, if_neg hk]; simp)
      have hkb : (k == 3) = false := by simpa using hk
      clear hG hm hk
      go_enter Tryz.func36, Tryz.ntmps36
      have K1 := Lib.hid (blk_new1 w 24 #[.int .i64 k, .string (bs nm), .string (bs vr)])
      have HB := Lib.hid (below_alloc (Below.refl w.heap.size w) (.cells #[.int .i64 k, .string (bs nm), .string (bs vr)] 24))
      have a0 := K1.out.cell 0
      have a1 := K1.out.cell 1
      have a2 := K1.out.cell 2
      simp only [List.getElem?_toArray, List.getElem?_cons_zero, List.getElem?_cons_succ] at a0 a1 a2
      go_wp2_with fail
      have HQ := Lib.hid (mayT_any k nm vr (w.alloc (.cells #[.int .i64 k, .string (bs nm), .string (bs vr)] 24)) hn)
      refine HQ.out.mono ?_
      rintro e w1 ⟨rfl, hb1⟩
      rw [HM.out]
      have HB1 := Lib.hid (below_next HB.out hb1)
      have a0 := Kept.of_below hb1 _ _ a0
      have a1 := Kept.of_below hb1 _ _ a1
      have a2 := Kept.of_below hb1 _ _ a2
      clear hb1 HQ HB
      go_wp2_with fail
      go_quiet ((go_at_call 56; exact Calls.quiet_of_same ((word_any k _).mono fun _ _ h => ⟨h.1, h.2.symm⟩)))
      go_wp2
      go_ret
      exact ⟨by rw [HG.out]; simp only [bs_appT]; rfl, below_drewN HB1.out _⟩
end Go.Proofs.YtaicidbopgnmfaaGreatDoor
namespace Go.Proofs.YtaicidbopgnmfaaGreatDoor
set_option linter.unusedSimpArgs false
set_option linter.unusedVariables false
open Go.Lib
def whB (c : UInt8) : Bool := c == 32 || c == 9
def whP (x : Nat) : Bool := x == 32 || x == 9
def wsA : List UInt8 → List UInt8 → List (List UInt8)
  | [], cur => if cur = [] then [] else [cur]
  | c :: l, cur => if whB c then (if cur = [] then wsA l [] else cur :: wsA l []) else wsA l (cur ++ [c])
def wordsS (l : List UInt8) : List (List UInt8) := wsA l []
theorem wsA_run : ∀ (u v cur : List UInt8), (∀ c ∈ u, whB c = false) → wsA (u ++ v) cur = wsA v (cur ++ u)
  | [], v, cur, _ => by simp
  | c :: u, v, cur, h => by
    have h0 : whB c = false := h c (by simp)
    rw [List.cons_append, wsA, if_neg (by simp [h0]), wsA_run u v (cur ++ [c]) fun d hd => h d (by simp [hd]), List.append_assoc, List.singleton_append]
theorem whB_lt {c : UInt8} (h : whB c = true) : c.toNat < 128 ∧ whP c.toNat = true := by
  unfold whB at h
  simp only [Bool.or_eq_true, beq_iff_eq] at h
  rcases h with rfl | rfl <;> exact ⟨by decide, by decide⟩
theorem whB_of {c : UInt8} (h : whP c.toNat = true) : whB c = true := by
  unfold whP at h
  simp only [Bool.or_eq_true, beq_iff_eq] at h
  unfold whB
  simp only [Bool.or_eq_true, beq_iff_eq]
  rcases h with h | h
  · exact .inl (UInt8.toNat_inj.1 h)
  · exact .inr (UInt8.toNat_inj.1 h)
theorem whB_high {c : UInt8} (h : 128 ≤ c.toNat) : whB c = false := by
  rcases hc : whB c
  · rfl
  · have := (whB_lt hc).1; omega
theorem whP_small {x : Nat} (h : 128 ≤ x) : whP x = false := by
  unfold whP
  simp only [Bool.or_eq_false_iff, beq_eq_false_iff_ne]
  omega
theorem decode_bs (l : List UInt8) (pos : Nat) : Utf8.decode (bs l) pos = decodeN (l.length - pos) (l.getD pos 0).toNat (l.getD (pos + 1) 0).toNat (l.getD (pos + 2) 0).toNat (l.getD (pos + 3) 0).toNat := decode_N (bs l) pos
theorem dec_white {l : List UInt8} {pos : Nat} {c : UInt8} {rest : List UInt8} (hd : l.drop pos = c :: rest) (h : whP (Utf8.decode (bs l) pos).1 = true) : whB c = true ∧ (Utf8.decode (bs l) pos).2 = 1 := by
  have hc : l.getD pos 0 = c := by
    have := congrArg (fun x => x[0]?) hd
    simp only [List.getElem?_drop, Nat.add_zero, List.getElem?_cons_zero] at this
    simp [List.getD, this]
  rw [decode_bs] at h ⊢
  rw [hc] at h ⊢
  have hcs := decodeN_cases (l.length - pos) c.toNat (l.getD (pos + 1) 0).toNat (l.getD (pos + 2) 0).toNat (l.getD (pos + 3) 0).toNat
  rcases hcs with ⟨h1, h2⟩ | ⟨_, _, _, h1, h2⟩ | ⟨_, _, _, _, h1, h2⟩ | ⟨h1, _⟩ | h2
  · rw [h2] at h ⊢
    exact ⟨whB_of h, rfl⟩
  · rw [h2, whP_small h1] at h; cases h
  · rw [h2, whP_small (by omega)] at h; cases h
  · rw [whP_small (by omega)] at h; cases h
  · rw [h2, whP_small (by omega)] at h; cases h
theorem dec_black {l : List UInt8} {pos : Nat} (hp : pos < l.length) (h : whP (Utf8.decode (bs l) pos).1 = false) : ∀ c ∈ (l.drop pos).take (Utf8.decode (bs l) pos).2, whB c = false := by
  intro c hc
  obtain ⟨j, hj⟩ := List.getElem?_of_mem hc
  rw [List.getElem?_take] at hj
  split at hj
  · rename_i hjn
    rw [List.getElem?_drop] at hj
    have hg : l.getD (pos + j) 0 = c := by simp [List.getD, hj]
    rw [decode_bs] at h hjn
    have hcont := decodeN_conts (l.length - pos) (l.getD pos 0).toNat (l.getD (pos + 1) 0).toNat (l.getD (pos + 2) 0).toNat (l.getD (pos + 3) 0).toNat
    obtain ⟨h1, h2, h3, h4⟩ := hcont
    obtain rfl | rfl | rfl | rfl : j = 0 ∨ j = 1 ∨ j = 2 ∨ j = 3 := by omega
    · rcases hb : whB c
      · rfl
      · obtain ⟨k1, k2⟩ := whB_lt hb
        rw [Nat.add_zero] at hg
        rw [hg, decodeN_ascii _ _ _ _ _ k1, k2] at h
        cases h
    · have := (h1 (by omega)).1
      rw [hg] at this
      exact whB_high (by omega)
    · have := (h2 (by omega)).1
      rw [hg] at this
      exact whB_high (by omega)
    · have := (h3 (by omega)).1
      rw [hg] at this
      exact whB_high (by omega)
  · cases hj
theorem dec_le {l : List UInt8} {pos : Nat} (hp : pos < l.length) : 1 ≤ (Utf8.decode (bs l) pos).2 ∧ pos + (Utf8.decode (bs l) pos).2 ≤ l.length := by
  refine ⟨width_pos _ _, ?_⟩
  rw [decode_bs]
  have := decodeN_le_n' (l.length - pos) (l.getD pos 0).toNat (l.getD (pos + 1) 0).toNat (l.getD (pos + 2) 0).toNat (l.getD (pos + 3) 0).toNat (by omega)
  omega
/-- the pieces so far, and those of what is left -/
def cutW (l : List UInt8) (acc : List (Nat × Nat)) : List (List UInt8) := acc.map fun x => pieceU l x.1 x.2
theorem cutW_snoc (l : List UInt8) (acc : List (Nat × Nat)) (a b : Nat) : cutW l (acc ++ [(a, b)]) = cutW l acc ++ [pieceU l a b] := by simp [cutW]
theorem spans_words (l : List UInt8) : ∀ (f pos : Nat) (st : Option Nat) (acc : List (Nat × Nat)), pos ≤ l.length → l.length ≤ pos + f → (∀ a, st = some a → a < pos) →
    cutW l (closeSpans (bs l) (spansFromP whP (bs l) f pos st acc)) = cutW l acc ++ wsA (l.drop pos) (openPiece l st pos) := by
  intro f
  induction f with
  | zero =>
    intro pos st acc hp hf hst
    obtain rfl : pos = l.length := by omega
    rw [spansFromP_end _ _ _ _ _ _ (by rw [bs_size]; omega), List.drop_length]
    rcases st with _ | a
    · simp [closeSpans, openPiece, wsA]
    · have hne : openPiece l (some a) l.length ≠ [] := pieceU_ne l a _ (hst a rfl) (Nat.le_refl _)
      rw [wsA, if_neg hne]
      exact cutW_snoc l acc a l.length
  | succ f ih =>
    intro pos st acc hp hf hst
    by_cases hlt : pos < l.length
    · obtain ⟨h1, h2⟩ := dec_le hlt
      have hdr : l.drop pos = l[pos] :: l.drop (pos + 1) := List.drop_eq_getElem_cons hlt
      unfold spansFromP
      rw [if_pos (show pos < (bs l).size from hlt)]
      rcases hw : whP (Utf8.decode (bs l) pos).1
      · have hrun := wsA_run ((l.drop pos).take (Utf8.decode (bs l) pos).2) ((l.drop pos).drop (Utf8.decode (bs l) pos).2) (openPiece l st pos) (dec_black hlt hw)
        rw [List.take_append_drop, List.drop_drop] at hrun
        rw [hrun]
        rcases st with _ | a
        · simp only [Bool.false_eq_true, if_false]
          rw [ih _ _ _ h2 (by omega) (fun a h => by injection h with h; omega)]
          congr 2
          show pieceU l pos (pos + (Utf8.decode (bs l) pos).2) = [] ++ _
          unfold pieceU
          rw [List.nil_append, Nat.add_sub_cancel_left]
        · simp only [Bool.false_eq_true, if_false]
          have := hst a rfl
          rw [ih _ _ _ h2 (by omega) (fun a' h => by injection h with h; omega)]
          congr 2
          exact (pieceU_grow l a pos _ (by omega)).symm
      · obtain ⟨hb, hn⟩ := dec_white hdr hw
        rw [hn] at h2 ⊢
        rw [hdr, wsA, if_pos hb]
        rcases st with _ | a
        · simp only [if_true]
          rw [ih _ _ _ h2 (by omega) (fun a h => by cases h)]
          rfl
        · simp only [if_true]
          have hne : openPiece l (some a) pos ≠ [] := pieceU_ne l a _ (hst a rfl) hp
          rw [ih _ _ _ h2 (by omega) (fun a h => by cases h), if_neg hne, cutW_snoc, List.append_assoc]
          rfl
    · obtain rfl : pos = l.length := by omega
      rw [spansFromP_end _ _ _ _ _ _ (by rw [bs_size]; omega), List.drop_length]
      rcases st with _ | a
      · simp [closeSpans, openPiece, wsA]
      · have hne : openPiece l (some a) l.length ≠ [] := pieceU_ne l a _ (hst a rfl) (Nat.le_refl _)
        rw [wsA, if_neg hne]
        exact cutW_snoc l acc a l.length
theorem fields_words (l : List UInt8) : goFieldsP whP (bs l) = (wordsS l).map bs := by
  have h := spans_words l l.length 0 none [] (Nat.zero_le _) (by omega) (fun a h => by cases h)
  unfold wordsS
  rw [show wsA l [] = cutW l (spansOfP whP (bs l)) from by
    unfold spansOfP
    rw [show (bs l).size = l.length from rfl, h]
    simp [cutW, openPiece]]
  unfold goFieldsP cutW
  rw [List.map_map]
  exact List.map_congr_left fun x _ => bs_extract l x.1 x.2
theorem words_len : ∀ (l cur : List UInt8), (wsA l cur).length ≤ l.length + 1
  | [], cur => by unfold wsA; split <;> simp
  | c :: l, cur => by
    unfold wsA
    split
    · split
      · have := words_len l []; simp; omega
      · have := words_len l []; simp; omega
    · have := words_len l (cur ++ [c]); simp; omega
theorem words_short : ∀ (l cur x : List UInt8), x ∈ wsA l cur → x.length ≤ l.length + cur.length
  | [], cur, x, h => by
    unfold wsA at h
    split at h
    · cases h
    · rw [List.mem_singleton.1 h]; simp
  | c :: l, cur, x, h => by
    unfold wsA at h
    split at h
    · split at h
      · have := words_short l [] x h; simp at this ⊢ <;> omega
      · rcases List.mem_cons.1 h with rfl | h
        · simp <;> omega
        · have := words_short l [] x h; simp at this ⊢ <;> omega
    · have := words_short l (cur ++ [c]) x h
      simp at this ⊢
      omega
end Go.Proofs.YtaicidbopgnmfaaGreatDoor
namespace Go.Proofs.YtaicidbopgnmfaaGreatDoor
set_option linter.unusedSimpArgs false
set_option linter.unusedVariables false
theorem ixB_at : ∀ {l : List UInt8} {c : UInt8}, 0 ≤ Lib.indexByte l c → l[(Lib.indexByte l c).toNat]? = some c
  | [], c, h => by simp [Lib.indexByte] at h
  | x :: l, c, h => by
    have ih := @ixB_at l c
    have hg := (indexByte_lt l c).1
    by_cases hx : x = c
    · have : Lib.indexByte (x :: l) c = 0 := by simp [Lib.indexByte, hx]
      rw [this]; simp [hx]
    · have h2 : Lib.indexByte (x :: l) c = if 0 ≤ Lib.indexByte l c then Lib.indexByte l c + 1 else -1 := by simp only [Lib.indexByte]; grind
      rw [h2] at h ⊢
      by_cases h0 : 0 ≤ Lib.indexByte l c
      · rw [if_pos h0, show (Lib.indexByte l c + 1).toNat = (Lib.indexByte l c).toNat + 1 by omega, List.getElem?_cons_succ]
        exact ih h0
      · rw [if_neg h0] at h; omega
theorem lsB_at : ∀ {l : List UInt8} {c : UInt8}, 0 ≤ lastB l c → l[(lastB l c).toNat]? = some c
  | [], c, h => by simp [lastB] at h
  | x :: l, c, h => by
    have ih := @lsB_at l c
    unfold lastB at h ⊢
    by_cases h0 : 0 ≤ lastB l c
    · rw [if_pos h0, show (lastB l c + 1).toNat = (lastB l c).toNat + 1 by omega, List.getElem?_cons_succ]
      exact ih h0
    · rw [if_neg h0] at h ⊢
      by_cases hx : x = c
      · rw [if_pos hx]; simp [hx]
      · rw [if_neg hx] at h; omega
theorem mem_cut {l : List UInt8} {i : Nat} {d c : UInt8} (hd : l[i]? = some d) (h : c ∈ l) : c ∈ l.take i ∨ c = d ∨ c ∈ l.drop (i + 1) := by
  obtain ⟨hi, rfl⟩ := List.getElem?_eq_some_iff.1 hd
  rw [← List.take_append_drop i l, List.drop_eq_getElem_cons hi] at h
  rcases List.mem_append.1 h with h | h
  · exact .inl h
  · rcases List.mem_cons.1 h with h | h
    · exact .inr (.inl h)
    · exact .inr (.inr h)
theorem dig_black {c : UInt8} (h : digB c = true) : whB c = false := by
  rcases hw : whB c
  · rfl
  · unfold whB at hw
    simp only [Bool.or_eq_true, beq_iff_eq] at hw
    rcases hw with rfl | rfl <;> simp [digB] at h
theorem ok_black {b l : List UInt8} (h : okS b l = true) (hb : b.all (fun c => !whB c) = true) {c : UInt8} (hc : c ∈ l) : whB c = false := by
  have h1 := List.all_eq_true.1 h c hc
  simp only [Bool.or_eq_true] at h1
  rcases h1 with (h1 | h1) | h1
  · exact dig_black h1
  · rcases hw : whB c
    · rfl
    · unfold whB at hw
      simp only [Bool.or_eq_true, beq_iff_eq] at hw
      rcases hw with rfl | rfl <;> simp [letB] at h1
  · have := List.all_eq_true.1 hb c (by simpa using h1)
    simpa using this
/-- a version has no white space -/
theorem ver_black {l : List UInt8} (h : isV l = true) : l ≠ [] ∧ ∀ c ∈ l, whB c = false := by
  unfold isV verS at h
  by_cases h1 : l.length = 0 ∨ 48 < l.length
  · rw [if_pos h1] at h; cases h
  rw [if_neg h1] at h
  refine ⟨fun e => h1 (.inl (by rw [e]; rfl)), fun c hc => ?_⟩
  by_cases h2 : 0 ≤ lastB (cutE l).2 45 ∧ (cutR (cutE l).2).2 = []
  · rw [if_pos h2] at h; cases h
  rw [if_neg h2] at h
  rcases h3 : verOk (cutE l).1 (cutR (cutE l).2).1 (cutR (cutE l).2).2
  · rw [h3] at h; cases h
  unfold verOk at h3
  simp only [Bool.and_eq_true] at h3
  obtain ⟨⟨⟨⟨he, hv⟩, _⟩, _⟩, hu⟩ := h3
  have hru : ∀ x ∈ (cutE l).2, whB x = false := fun x hx => by
    unfold cutR at hu hv
    by_cases h0 : 0 ≤ lastB (cutE l).2 45
    · rw [if_pos h0] at hu hv
      rcases mem_cut (lsB_at h0) hx with h4 | h4 | h4
      · exact ok_black hu (by decide) h4
      · rw [h4]; decide
      · exact ok_black hv (by decide) h4
    · rw [if_neg h0] at hu
      exact ok_black hu (by decide) hx
  unfold epochS at he
  simp only [Bool.and_eq_true] at he
  unfold cutE at he hru
  by_cases h0 : 0 ≤ Lib.indexByte l 58
  · rw [if_pos h0] at he hru
    rcases mem_cut (ixB_at h0) hc with h4 | h4 | h4
    · exact dig_black (List.all_eq_true.1 he.2 c h4)
    · rw [h4]; decide
    · exact hru c h4
  · rw [if_neg h0] at hru
    exact hru c hc
theorem name_black {l : List UInt8} (h : nameS l = true) : l ≠ [] ∧ ∀ c ∈ l, whB c = false := by
  unfold nameS at h
  simp only [Bool.and_eq_true, decide_eq_true_eq] at h
  refine ⟨fun e => by rw [e] at h; simp at h, fun c hc => ?_⟩
  have hC : nmC c = true := by
    rcases l with _ | ⟨d, l⟩
    · cases hc
    · have h2 := h.2
      unfold nmOk at h2
      rw [Bool.and_eq_true] at h2
      rcases List.mem_cons.1 hc with rfl | hc
      · exact nmB_C h2.1
      · exact List.all_eq_true.1 h2.2 c hc
  rcases hw : whB c
  · rfl
  · unfold whB at hw
    simp only [Bool.or_eq_true, beq_iff_eq] at hw
    rcases hw with rfl | rfl <;> simp [nmC, nmB, smlB, digB] at hC
theorem word_black (k : Int) : ∀ c ∈ wordS k, whB c = false := by
  unfold wordS
  repeat' split
  all_goals decide
theorem words_one {u v : List UInt8} (h0 : u ≠ []) (h : ∀ c ∈ u, whB c = false) : wordsS (u ++ 32 :: v) = u :: wordsS v := by
  unfold wordsS
  rw [wsA_run u _ [] h, List.nil_append, wsA, if_pos (by decide), if_neg h0]
theorem words_end {u : List UInt8} (h0 : u ≠ []) (h : ∀ c ∈ u, whB c = false) : wordsS u = [u] := by
  have := wsA_run u [] [] h
  rw [List.append_nil, List.nil_append] at this
  unfold wordsS
  rw [this, wsA, if_neg h0]
/-- the kind of a word: the last below k -/
def kwS : Nat → List UInt8 → Int
  | 0, _ => 0
  | k + 1, a => if wordS (k : Int) = a then (k : Int) else kwS k a
def kindW (x : List UInt8) : Int := kwS 5 x
def parseW : List (List UInt8) → Stp × Int
  | [a, b] => if mayT ⟨kindW a, b, []⟩ then (⟨kindW a, b, []⟩, 0) else (⟨0, [], []⟩, 3)
  | [a, b, v] => if mayT ⟨kindW a, b, v⟩ then (⟨kindW a, b, v⟩, 0) else (⟨0, [], []⟩, 3)
  | _ => (⟨0, [], []⟩, 3)
def parseT (s : List UInt8) : Stp × Int := parseW (wordsS s)
theorem kw_one (a : List UInt8) : kwS 1 a = 0 := by
  unfold kwS
  split <;> rfl
theorem mayT_kind {st : Stp} (h : mayT st = true) : 1 ≤ st.kind ∧ st.kind ≤ 4 := by
  unfold mayT at h
  simp only [Bool.and_eq_true] at h
  have h1 := h.1.1
  refine Classical.not_not.1 fun hn => ?_
  rw [(word_nil st.kind).2 hn] at h1
  cases h1
theorem kindW_word {k : Int} (h : 1 ≤ k ∧ k ≤ 4) : kindW (wordS k) = k := by
  obtain rfl | rfl | rfl | rfl : k = 1 ∨ k = 2 ∨ k = 3 ∨ k = 4 := by omega
  all_goals decide
theorem text_parse {st : Stp} (h : mayT st = true) : parseT (textT st) = (st, 0) := by
  have hk := mayT_kind h
  have hm := h
  unfold mayT at hm
  simp only [Bool.and_eq_true] at hm
  obtain ⟨⟨h1, h2⟩, h3⟩ := hm
  obtain ⟨n0, nb⟩ := name_black h2
  have w0 : wordS st.kind ≠ [] := fun e => (word_nil st.kind).1 e hk
  obtain ⟨k, n, v⟩ := st
  dsimp only at *
  unfold textT
  rw [h, if_pos rfl]
  dsimp only
  by_cases k3 : k = 3
  · rw [if_pos k3] at h3 ⊢
    obtain ⟨v0, vb⟩ := ver_black h3
    have : wordsS (wordS k ++ [32] ++ n ++ ([32] ++ v)) = [wordS k, n, v] := by
      rw [show wordS k ++ [32] ++ n ++ ([32] ++ v) = wordS k ++ 32 :: (n ++ 32 :: v) by simp, words_one w0 (word_black k), words_one n0 nb, words_end v0 vb]
    unfold parseT
    rw [this]
    unfold parseW
    dsimp only
    rw [kindW_word hk, h, if_pos rfl]
  · rw [if_neg k3] at h3 ⊢
    obtain rfl : v = [] := by simpa using h3
    have : wordsS (wordS k ++ [32] ++ n ++ []) = [wordS k, n] := by
      rw [show wordS k ++ [32] ++ n ++ [] = wordS k ++ 32 :: n by simp, words_one w0 (word_black k), words_end n0 nb]
    unfold parseT
    rw [this]
    unfold parseW
    dsimp only
    rw [kindW_word hk, h, if_pos rfl]
theorem textT_nil (st : Stp) : textT st = [] ↔ mayT st = false := by
  unfold textT
  rcases h : mayT st
  · simp
  · simp
end Go.Proofs.YtaicidbopgnmfaaGreatDoor
