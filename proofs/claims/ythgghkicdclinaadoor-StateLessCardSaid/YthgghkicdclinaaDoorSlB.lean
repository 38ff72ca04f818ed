/- The law StateLess. -/
import Derived.Test.YthgghkicdclinaaDoorSlA
import Derived.Test.YthgghkicdclinaaDoorOs
import Derived.Test.YthgghkicdclinaaDoorAp
import Derived.Test.YthgghkicdclinaaDoorStO
namespace Go.Proofs.YthgghkicdclinaaDoor
set_option linter.unusedSimpArgs false
set_option linter.unusedVariables false
open Go.RowKit

theorem infEnt : (Tryd.prog.info? 38).map (fun i => (i.zero, i.size, i.bytes)) = some (some (.agg #[.string (bs []), .string (bs []), .slice none 0 0, .slice none 0 0, .slice none 0 0, .slice none 0 0, .slice none 0 0, .slice none 0 0, .bool false, .bool false, .bool false]), 11, 192) := by kernel_rfl
theorem at_idx (x : Int) (n : Nat) (hn : 0 < n) (hb : n ≤ 1000000000) : ∃ i : Nat, i < n ∧ wrap64 ((IntKind.u64.wrap x).tmod (n : Int)) = (i : Int) := by
  have h0 : 0 ≤ IntKind.u64.wrap x := by
    simp only [IntKind.wrap, IntKind.signed, IntKind.bits]
    simp
    omega
  have h1 : (IntKind.u64.wrap x).tmod (n : Int) = IntKind.u64.wrap x % (n : Int) := Int.tmod_eq_emod_of_nonneg h0
  have h2 := Int.emod_nonneg (IntKind.u64.wrap x) (by omega : (n : Int) ≠ 0)
  have h3 := Int.emod_lt_of_pos (IntKind.u64.wrap x) (by omega : (0 : Int) < n)
  refine ⟨(IntKind.u64.wrap x % (n : Int)).toNat, by omega, ?_⟩
  rw [h1]
  unfold wrap64
  omega
theorem mod4 (x : Int) : (IntKind.u64.wrap x).tmod 4 = 0 ∨ (IntKind.u64.wrap x).tmod 4 = 1 ∨ (IntKind.u64.wrap x).tmod 4 = 2 ∨ (IntKind.u64.wrap x).tmod 4 = 3 := by
  have h0 : 0 ≤ IntKind.u64.wrap x := by
    simp only [IntKind.wrap, IntKind.signed, IntKind.bits]
    simp
    omega
  rw [Int.tmod_eq_emod_of_nonneg h0]
  omega
theorem ent_one {w : World} : ∀ cs y, REnt w cs y → ∀ u ∈ cs, u.oneCell' = true := fun cs y ⟨r, h, _⟩ u hu => by
  subst h
  exact encE_one r y u hu
theorem flip_ent {w : World} {x : Ent} : ∀ cs, REnt w cs x → REnt w (cs.set 10 (.bool (!x.hold))) (flipE x) := fun cs ⟨r, h, hr⟩ => by
  subst h
  exact ⟨r, rfl, hr⟩
theorem cut_ent0 {w : World} {x : Ent} : ∀ cs, REnt w cs x → REnt w (cs.set 3 (.slice none 0 0)) (cutK 0 x) := fun cs ⟨r, h, h1, h2, h3, h4, h5, h6, h7, h8⟩ => by
  subst h
  exact ⟨⟨r.a1, none, r.a3, r.a4, r.a5, r.a6, r.c1, 0, r.c3, r.c4, r.c5, r.c6⟩, rfl, h1, h2, h3, Slc.nil_ (Nat.zero_le _), h5, h6, h7, h8⟩
theorem cut_ent1 {w : World} {x : Ent} : ∀ cs, REnt w cs x → REnt w (cs.set 2 (.slice none 0 0)) (cutK 1 x) := fun cs ⟨r, h, h1, h2, h3, h4, h5, h6, h7, h8⟩ => by
  subst h
  exact ⟨⟨none, r.a2, r.a3, r.a4, r.a5, r.a6, 0, r.c2, r.c3, r.c4, r.c5, r.c6⟩, rfl, h1, h2, Slc.nil_ (Nat.zero_le _), h4, h5, h6, h7, h8⟩
theorem cut_ent2 {w : World} {x : Ent} : ∀ cs, REnt w cs x → REnt w (cs.set 5 (.slice none 0 0)) (cutK 2 x) := fun cs ⟨r, h, h1, h2, h3, h4, h5, h6, h7, h8⟩ => by
  subst h
  exact ⟨⟨r.a1, r.a2, r.a3, none, r.a5, r.a6, r.c1, r.c2, r.c3, 0, r.c5, r.c6⟩, rfl, h1, h2, h3, h4, h5, Slc.nil_ (Nat.zero_le _), h7, h8⟩
theorem cut_ent3 {w : World} {x : Ent} : ∀ cs, REnt w cs x → REnt w (cs.set 6 (.slice none 0 0)) (cutK 3 x) := fun cs ⟨r, h, h1, h2, h3, h4, h5, h6, h7, h8⟩ => by
  subst h
  exact ⟨⟨r.a1, r.a2, r.a3, r.a4, none, r.a6, r.c1, r.c2, r.c3, r.c4, 0, r.c6⟩, rfl, h1, h2, h3, h4, h5, h6, Slc.nil_ (Nat.zero_le _), h8⟩
theorem cut_all (x : Ent) : cutK 3 (cutK 2 (cutK 1 (cutK 0 x))) = bareE x := rfl
/-- a row of entries of the call's own, as entries -/
theorem own_ents {w wr : World} {B : Nat} {g n cap : Nat} {l : List Ent} (h : Own wr B 38 11 (REnt w) (.slice (some ⟨g, 0, none⟩) n cap) l) (hb : Below w.heap.size w wr) (hl : l.length ≤ 1000) : n = l.length ∧ Ents wr (some ⟨g, 0, none⟩) cap l := by
  obtain ⟨A, c, hv, hs⟩ := h.slc (z := 192) (by omega)
  injection hv with h1 h2 h3
  subst h1 h2 h3
  exact ⟨rfl, Slc.mono hs (Kept.refl _) fun _ _ h => h.kept (Kept.of_below hb)⟩
theorem few_map {f : Ent → Ent} (hf : ∀ x, (f x).pkg.pre.length ≤ x.pkg.pre.length ∧ (f x).pkg.dep.length ≤ x.pkg.dep.length ∧ (f x).pkg.con.length ≤ x.pkg.con.length ∧ (f x).pkg.brk.length ≤ x.pkg.brk.length) {l : List Ent} (h : fewE l) : fewE (l.map f) :=
  ⟨by rw [List.length_map]; exact h.1, fun y hy => by
    obtain ⟨x, hx, rfl⟩ := List.mem_map.1 hy
    have h1 := h.2 x hx
    have h2 := hf x
    omega⟩
theorem few_set {l : List Ent} {i k : Nat} {x : Ent} (hx : l[i]? = some x) (h : fewE l) : fewE (l.set i (cutK k x)) :=
  ⟨by rw [List.length_set]; exact h.1, fun y hy => by
    rcases List.mem_or_eq_of_mem_set hy with hy | rfl
    · exact h.2 y hy
    · have h1 := h.2 x (List.mem_of_getElem? hx)
      unfold cutK
      split <;> (dsimp only; simp only [List.length_nil]; omega)⟩
set_option maxRecDepth 100000 in
set_option maxHeartbeats 800000 in
theorem law_less (A : Option Addr) (c : Nat) (s : List Ent) (at_ kd : Int) (w : World) (hs : Ents w A c s) (hat : -9223372036854775808 ≤ at_ ∧ at_ ≤ 9223372036854775807) (hkd : -9223372036854775808 ≤ kd ∧ kd ≤ 9223372036854775807) :
    Calls Tryd.prog 5 #[.slice A s.length c, .int .i64 at_, .int .i64 kd] w fun e w' => e = .returned (.bool true) ∧ Below w.heap.size w w' := by
  have hbd := hs.bd
  have HS := Lib.hid hs
  clear hs
  rcases h1 : lightS 50 20 20 (s.map Ent.pkg)
  · have H1 := Lib.hid h1
    clear h1
    go_enter Tryd.func5, Tryd.ntmps5
    go_wp2_with fail
    refine (bare_any _ _ s _ HS.out).mono ?_
    rintro e w1 ⟨Ab, cb, rfl, hp, hb1⟩
    generalize hm : s.map Ent.pkg = lp at hp ⊢
    have HP := Lib.hid hp
    have H1 := Lib.hid (show lightS 50 20 20 lp = _ from hm ▸ H1.out)
    clear hp hm
    go_wp2_with fail
    refine (light_any _ _ lp _ HP.out).mono ?_
    rintro e w2 ⟨rfl, hb2⟩
    rw [H1.out]
    have HB2 := Lib.hid (below_next hb1 hb2)
    clear hb1 hb2 HP
    go_wp2_with fail
    refine (awake_any _).mono ?_
    rintro e w9 ⟨rfl, hb9⟩
    go_wp2
    go_ret
    exact ⟨rfl, below_next HB2.out hb9⟩
  · have HF := Lib.hid (light_few (by decide) (by decide) h1)
    have hs26 : s.length ≤ 26 := by simp only [lightS, Bool.and_eq_true, decide_eq_true_eq, List.length_map] at h1; exact h1.1
    have H1 := Lib.hid h1
    clear h1
    by_cases hs0 : s = []
    · have Z0 := Lib.hid (show ((s.length : Int) == 0) = true by rw [hs0]; rfl)
      clear hs0
      go_enter Tryd.func5, Tryd.ntmps5
      go_wp2_with fail
      refine (bare_any _ _ s _ HS.out).mono ?_
      rintro e w1 ⟨Ab, cb, rfl, hp, hb1⟩
      generalize hm : s.map Ent.pkg = lp at hp ⊢
      have HP := Lib.hid hp
      have H1 := Lib.hid (show lightS 50 20 20 lp = _ from hm ▸ H1.out)
      clear hp hm
      go_wp2_with fail
      refine (light_any _ _ lp _ HP.out).mono ?_
      rintro e w2 ⟨rfl, hb2⟩
      rw [H1.out]
      have HB2 := Lib.hid (below_next hb1 hb2)
      clear hb1 hb2 HP
      have z0 := Z0.out
      go_wp2_with fail
      refine (awake_any _).mono ?_
      rintro e w9 ⟨rfl, hb9⟩
      go_wp2
      go_ret
      exact ⟨rfl, below_next HB2.out hb9⟩
    · have hsl : 0 < s.length := List.length_pos_iff.2 hs0
      have z1 : ((s.length : Int) == 0) = false := by rw [beq_eq_false_iff_ne]; omega
      obtain ⟨i, hil, hi⟩ := at_idx at_ s.length hsl (by omega)
      go_enter Tryd.func5, Tryd.ntmps5
      go_wp2_with fail
      refine (bare_any _ _ s _ HS.out).mono ?_
      rintro e w1 ⟨Ab, cb, rfl, hp, hb1⟩
      generalize hm : s.map Ent.pkg = lp at hp ⊢
      have HP := Lib.hid hp
      have H1 := Lib.hid (show lightS 50 20 20 lp = _ from hm ▸ H1.out)
      clear hp hm
      go_wp2_with fail
      refine (light_any _ _ lp _ HP.out).mono ?_
      rintro e w2 ⟨rfl, hb2⟩
      rw [H1.out]
      have HB2 := Lib.hid (below_next hb1 hb2)
      clear hb1 hb2 HP
      go_wp2_with (at_builtin; refine wpList_append_all (by rfl) _ _ 22 (by rfl) w.heap.size 38 _ 11 192 192 Tryd.underlying22 infEnt rfl (by omega) (REnt w) (.slice none 0 0) [] (by rfl) (Own.nil_ _ _ _ _ _) A c s (by rfl) (Slc.mono HS.out (Kept.of_below HB2.out) fun _ _ h => h) ent_one (by simp; omega) (by omega) HB2.out.size ?_; intro v3 w3 ho3 hg3; have hb3 := (Own.nil_ w2 w.heap.size 38 11 (REnt w)).below HB2.out HB2.out.size hg3; rw [List.nil_append] at ho3; obtain ⟨g, cap, rfl, hgB⟩ := ho3.form hsl)
      have HI := Lib.hid hi
      have HO3 := Lib.hid ho3
      have HB3 := Lib.hid hb3
      clear hi ho3 hg3 hb3 HB2
      go_loopw [31] (fun i wr => ∃ k : Nat, k ≤ s.length ∧ i = .int .i64 k ∧ Below w.heap.size w wr ∧ Own wr w.heap.size 38 11 (REnt w) (.slice (some ⟨g, 0, none⟩) s.length cap) ((s.take k).map flipE ++ s.drop k)) (fun i _ => s.length - (intOf i).toNat)
      case atStart => exact ⟨0, Nat.zero_le _, rfl, HB3.out, by simpa using HO3.out⟩
      case round =>
        clear HB3 HO3
        obtain ⟨k, hk, rfl, hb, ho⟩ := hrel
        have HB := Lib.hid hb
        have HO := Lib.hid ho
        clear hb ho
        by_cases hlt : k < s.length
        · have hx : s[k]? = some s[k] := List.getElem?_eq_getElem hlt
          generalize s[k] = x at hx
          have hxm := get_map (f := flipE) hx
          obtain ⟨cs, ⟨r, hcs, _⟩, hlen, hr⟩ := HO.out.elem hxm (by rw [len_map]; omega)
          subst hcs
          have e10 : wr.cell? ⟨g, k * 11 + 10, none⟩ = some (.bool x.hold) := hr 10 _ rfl
          have hfz := HO.out.frz (k * 11 + 10)
          have hgz := HO.out.sizeLt
          have hOn := HO.out.set (j := 10) (u := .bool (!x.hold)) hxm (by omega) flip_ent
          rw [set_map hx] at hOn
          have HOn := Lib.hid hOn
          have HBn := Lib.hid (HO.out.belowSet HB.out ⟨g, k * 11 + 10, none⟩ rfl (.bool (!x.hold)))
          have hi0 : (0 : Int) ≤ (k : Int) := Int.natCast_nonneg _
          have hi1 : (k : Int) < (s.length : Int) := by omega
          have htn : ((k : Int)).toNat = k := Int.toNat_natCast _
          clear hOn hxm hx hr hlen
          go_wp2
          go_roundw
          case rel => exact ⟨k + 1, by omega, by simp, HBn.out, HOn.out⟩
          case measure => (try simp only [intOf]); omega
        · have hk2 : k = s.length := by omega
          have ho := HO.out
          rw [hk2, List.take_length, List.drop_length, List.append_nil] at ho
          obtain ⟨-, hen⟩ := own_ents ho HB.out (by rw [List.length_map]; omega)
          have HO4 := Lib.hid ho
          have HE4 := Lib.hid hen
          have HFF := Lib.hid (few_map (f := flipE) (fun x => ⟨Nat.le_refl _, Nat.le_refl _, Nat.le_refl _, Nat.le_refl _⟩) HF.out)
          have hx : s[i]? = some s[i] := List.getElem?_eq_getElem hil
          generalize s[i] = xi at hx
          have HX := Lib.hid hx
          clear ho hen HO hx
          go_wp2_with fail
          refine (wrong_any _ _ s _ (HS.out.kept (Kept.of_below HB.out)) HF.out).mono ?_
          rintro e w4 ⟨A4, c4, rfl, hv4, hb4⟩
          generalize hV : wrongS s = V at hv4 ⊢
          have HV := Lib.hid hV
          have HV4 := Lib.hid hv4
          have HB4 := Lib.hid (below_next HB.out hb4)
          go_wp2_with fail
          have hfl : (s.map flipE).length = s.length := List.length_map ..
          have hc5 := wrong_any _ _ (s.map flipE) _ (HE4.out.kept (Kept.of_below hb4)) HFF.out
          rw [hfl, wrong_flip, HV.out] at hc5
          refine hc5.mono ?_
          rintro e w5 ⟨A5, c5, rfl, hv5, hb5⟩
          have HO5 := Lib.hid ((HO4.out.next hb4).next hb5)
          have HB5 := Lib.hid (below_next HB4.out hb5)
          go_wp2_with fail
          refine (sameWrong_any _ _ _ _ V V _ (HV4.out.kept (Kept.of_below hb5)) hv5).mono ?_
          rintro e w6 ⟨rfl, hb6⟩
          rw [decide_eq_true rfl]
          have HO5 := Lib.hid (HO5.out.next hb6)
          have HB5 := Lib.hid (below_next HB5.out hb6)
          clear hv4 hv5 hb4 hb5 hb6 hV hc5 hfl HV4 HB4 HO4 HE4 HB hlt hk hk2
          obtain ⟨w5, rfl⟩ : ∃ w7 : World, w7 = w6 := ⟨_, rfl⟩
          have i0 : (0 : Int) ≤ (i : Int) := Int.natCast_nonneg _
          have i1 : (i : Int) < (s.length : Int) := by omega
          have tn : ((i : Int)).toNat = i := Int.toNat_natCast _
          rcases mod4 kd with hk | hk | hk | hk
          · have hxi : (s.map flipE)[i]? = some (flipE xi) := by rw [List.getElem?_map, HX.out]; rfl
            have hOc := HO5.out.set (j := 3) (u := .slice none 0 0) hxi (by omega) cut_ent0
            have HO6 := Lib.hid hOc
            have HB6 := Lib.hid (HO5.out.belowSet HB5.out ⟨g, i * 11 + 3, none⟩ rfl (.slice none 0 0))
            have HF6 := Lib.hid (few_set (k := 0) hxi HFF.out)
            have hwl := wrong_less (k := 0) hxi
            rw [wrong_flip] at hwl
            have HWL := Lib.hid hwl
            have hfz := HO5.out.frz (i * 11 + 3)
            have hgz := HO5.out.sizeLt
            have hcell : ∃ v, w5.cell? ⟨g, i * 11 + 3, none⟩ = some v := by
              obtain ⟨cs, hcs, hlen, hr⟩ := HO5.out.elem hxi (by rw [List.length_map]; omega)
              exact ⟨cs[3]'(by omega), hr 3 _ (List.getElem?_eq_getElem (by omega))⟩
            obtain ⟨vc, hvc⟩ := hcell
            generalize ht1 : (s.map flipE).set i (cutK 0 (flipE xi)) = t1 at hOc HO6 HF6 HWL hwl
            have htl : t1.length = s.length := by rw [← ht1, List.length_set, List.length_map]
            have HTL := Lib.hid htl
            clear hxi hOc hwl ht1 htl
            go_wp2_with fail
            obtain ⟨-, hen⟩ := own_ents HO6.out HB6.out (by rw [HTL.out]; omega)
            have hc6 := wrong_any _ _ t1 _ hen HF6.out
            rw [HTL.out] at hc6
            generalize wrongS t1 = V1 at hc6 HWL
            refine hc6.mono ?_
            rintro e w7 ⟨A7, c7, rfl, hv7, hb7⟩
            have HO7 := Lib.hid (HO6.out.next hb7)
            have HB7 := Lib.hid (below_next HB6.out hb7)
            clear hc6 hen hb7 hvc hfz hgz HO6 HB6
            go_wp2_with fail
            refine (wrong_any _ _ s _ (HS.out.kept (Kept.of_below HB7.out)) HF.out).mono ?_
            rintro e w8 ⟨A8, c8, rfl, hv8, hb8⟩
            have hwl := HWL.out
            rw [HV.out] at hv8 hwl ⊢
            have HO8 := Lib.hid (HO7.out.next hb8)
            have HB8 := Lib.hid (below_next HB7.out hb8)
            have HWL2 := Lib.hid hwl
            go_wp2_with fail
            refine (within_any _ _ _ _ V1 V _ (hv7.kept (Kept.of_below hb8)) hv8).mono ?_
            rintro e w9 ⟨rfl, hb9⟩
            rw [HWL2.out]
            have HO9 := Lib.hid (HO8.out.next hb9)
            have HB9 := Lib.hid (below_next HB8.out hb9)
            clear hv7 hv8 hb8 hb9 hwl HWL HWL2 HO7 HB7 HO8 HB8 HO5 HB5
            go_wp2
            go_loopw [88] (fun i wr => ∃ k : Nat, k ≤ s.length ∧ i = .int .i64 k ∧ Below w.heap.size w wr ∧ Own wr w.heap.size 38 11 (REnt w) (.slice (some ⟨g, 0, none⟩) s.length cap) ((t1.take k).map bareE ++ t1.drop k)) (fun i _ => s.length - (intOf i).toNat)
            case atStart => exact ⟨0, Nat.zero_le _, rfl, HB9.out, by simpa using HO9.out⟩
            case round =>
              clear HB9 HO9
              obtain ⟨k, hk, rfl, hb, ho⟩ := hrel
              have HB := Lib.hid hb
              have HO := Lib.hid ho
              clear hb ho
              by_cases hlt : k < s.length
              · have hy : t1[k]? = some (t1[k]'(by rw [HTL.out]; exact hlt)) := List.getElem?_eq_getElem _
                generalize t1[k]'(by rw [HTL.out]; exact hlt) = y at hy
                have hym := get_map (f := bareE) hy
                have hsm := set_map (f := bareE) hy
                have hln := len_map (f := bareE) t1 k
                generalize (t1.take k).map bareE ++ t1.drop k = L at HO hym hsm hln
                have hL1000 : L.length ≤ 1000 := by rw [hln, HTL.out]; omega
                obtain ⟨cs, ⟨r, hcs, _⟩, hlen, hr⟩ := HO.out.elem hym hL1000
                subst hcs
                have q2 := hr 2 _ rfl
                have q3 := hr 3 _ rfl
                have q5 := hr 5 _ rfl
                have q6 := hr 6 _ rfl
                have f2 := HO.out.frz (k * 11 + 2)
                have f3 := HO.out.frz (k * 11 + 3)
                have f5 := HO.out.frz (k * 11 + 5)
                have f6 := HO.out.frz (k * 11 + 6)
                have hgz := HO.out.sizeLt
                have hk1 : k < L.length := (List.getElem?_eq_some_iff.1 hym).1
                have o1 := HO.out.set (j := 3) (u := .slice none 0 0) hym (by omega) cut_ent0
                have b1 := HO.out.belowSet HB.out ⟨g, k * 11 + 3, none⟩ rfl (.slice none 0 0)
                have o2 := o1.set (j := 2) (u := .slice none 0 0) (List.getElem?_set_self hk1) (by omega) cut_ent1
                have b2 := o1.belowSet b1 ⟨g, k * 11 + 2, none⟩ rfl (.slice none 0 0)
                rw [List.set_set] at o2
                have o3 := o2.set (j := 5) (u := .slice none 0 0) (List.getElem?_set_self hk1) (by omega) cut_ent2
                have b3 := o2.belowSet b2 ⟨g, k * 11 + 5, none⟩ rfl (.slice none 0 0)
                rw [List.set_set] at o3
                have o4 := o3.set (j := 6) (u := .slice none 0 0) (List.getElem?_set_self hk1) (by omega) cut_ent3
                have b4 := o3.belowSet b3 ⟨g, k * 11 + 6, none⟩ rfl (.slice none 0 0)
                rw [List.set_set, cut_all, hsm] at o4
                have HO4 := Lib.hid o4
                have HB4 := Lib.hid b4
                have j0 : (0 : Int) ≤ (k : Int) := Int.natCast_nonneg _
                have j1 : (k : Int) < (s.length : Int) := by omega
                have jn : ((k : Int)).toNat = k := Int.toNat_natCast _
                clear o1 o2 o3 o4 b1 b2 b3 b4 hym hsm hln hL1000 hr hlen hy hk1
                go_wp2
                go_roundw
                case rel => exact ⟨k + 1, by omega, by simp, HB4.out, HO4.out⟩
                case measure => (try simp only [intOf]); omega
              · have hk2 : k = t1.length := by rw [HTL.out]; omega
                have ho := HO.out
                rw [hk2, List.take_length, List.drop_length, List.append_nil] at ho
                obtain ⟨-, hen⟩ := own_ents ho HB.out (by rw [List.length_map, HTL.out]; omega)
                have hcE := wrong_any _ _ (t1.map bareE) _ hen (few_map (f := bareE) (fun x => ⟨Nat.zero_le _, Nat.zero_le _, Nat.zero_le _, Nat.zero_le _⟩) HF6.out)
                rw [List.length_map, HTL.out, wrong_bare] at hcE
                have HCE := Lib.hid hcE
                clear hcE hen ho hk2
                go_wp2_with fail
                refine HCE.out.mono ?_
                rintro e w10 ⟨A10, c10, rfl, -, hb10⟩
                have HB10 := Lib.hid (below_next HB.out hb10)
                clear hb10
                go_wp2_with fail
                refine (awake_any _).mono ?_
                rintro e w9 ⟨rfl, hb9⟩
                go_wp2
                go_ret
                exact ⟨rfl, below_next HB10.out hb9⟩
          · have hxi : (s.map flipE)[i]? = some (flipE xi) := by rw [List.getElem?_map, HX.out]; rfl
            have hOc := HO5.out.set (j := 2) (u := .slice none 0 0) hxi (by omega) cut_ent1
            have HO6 := Lib.hid hOc
            have HB6 := Lib.hid (HO5.out.belowSet HB5.out ⟨g, i * 11 + 2, none⟩ rfl (.slice none 0 0))
            have HF6 := Lib.hid (few_set (k := 1) hxi HFF.out)
            have hwl := wrong_less (k := 1) hxi
            rw [wrong_flip] at hwl
            have HWL := Lib.hid hwl
            have hfz := HO5.out.frz (i * 11 + 2)
            have hgz := HO5.out.sizeLt
            have hcell : ∃ v, w5.cell? ⟨g, i * 11 + 2, none⟩ = some v := by
              obtain ⟨cs, hcs, hlen, hr⟩ := HO5.out.elem hxi (by rw [List.length_map]; omega)
              exact ⟨cs[2]'(by omega), hr 2 _ (List.getElem?_eq_getElem (by omega))⟩
            obtain ⟨vc, hvc⟩ := hcell
            generalize ht1 : (s.map flipE).set i (cutK 1 (flipE xi)) = t1 at hOc HO6 HF6 HWL hwl
            have htl : t1.length = s.length := by rw [← ht1, List.length_set, List.length_map]
            have HTL := Lib.hid htl
            clear hxi hOc hwl ht1 htl
            go_wp2_with fail
            obtain ⟨-, hen⟩ := own_ents HO6.out HB6.out (by rw [HTL.out]; omega)
            have hc6 := wrong_any _ _ t1 _ hen HF6.out
            rw [HTL.out] at hc6
            generalize wrongS t1 = V1 at hc6 HWL
            refine hc6.mono ?_
            rintro e w7 ⟨A7, c7, rfl, hv7, hb7⟩
            have HO7 := Lib.hid (HO6.out.next hb7)
            have HB7 := Lib.hid (below_next HB6.out hb7)
            clear hc6 hen hb7 hvc hfz hgz HO6 HB6
            go_wp2_with fail
            refine (wrong_any _ _ s _ (HS.out.kept (Kept.of_below HB7.out)) HF.out).mono ?_
            rintro e w8 ⟨A8, c8, rfl, hv8, hb8⟩
            have hwl := HWL.out
            rw [HV.out] at hv8 hwl ⊢
            have HO8 := Lib.hid (HO7.out.next hb8)
            have HB8 := Lib.hid (below_next HB7.out hb8)
            have HWL2 := Lib.hid hwl
            go_wp2_with fail
            refine (within_any _ _ _ _ V1 V _ (hv7.kept (Kept.of_below hb8)) hv8).mono ?_
            rintro e w9 ⟨rfl, hb9⟩
            rw [HWL2.out]
            have HO9 := Lib.hid (HO8.out.next hb9)
            have HB9 := Lib.hid (below_next HB8.out hb9)
            clear hv7 hv8 hb8 hb9 hwl HWL HWL2 HO7 HB7 HO8 HB8 HO5 HB5
            go_wp2
            go_loopw [88] (fun i wr => ∃ k : Nat, k ≤ s.length ∧ i = .int .i64 k ∧ Below w.heap.size w wr ∧ Own wr w.heap.size 38 11 (REnt w) (.slice (some ⟨g, 0, none⟩) s.length cap) ((t1.take k).map bareE ++ t1.drop k)) (fun i _ => s.length - (intOf i).toNat)
            case atStart => exact ⟨0, Nat.zero_le _, rfl, HB9.out, by simpa using HO9.out⟩
            case round =>
              clear HB9 HO9
              obtain ⟨k, hk, rfl, hb, ho⟩ := hrel
              have HB := Lib.hid hb
              have HO := Lib.hid ho
              clear hb ho
              by_cases hlt : k < s.length
              · have hy : t1[k]? = some (t1[k]'(by rw [HTL.out]; exact hlt)) := List.getElem?_eq_getElem _
                generalize t1[k]'(by rw [HTL.out]; exact hlt) = y at hy
                have hym := get_map (f := bareE) hy
                have hsm := set_map (f := bareE) hy
                have hln := len_map (f := bareE) t1 k
                generalize (t1.take k).map bareE ++ t1.drop k = L at HO hym hsm hln
                have hL1000 : L.length ≤ 1000 := by rw [hln, HTL.out]; omega
                obtain ⟨cs, ⟨r, hcs, _⟩, hlen, hr⟩ := HO.out.elem hym hL1000
                subst hcs
                have q2 := hr 2 _ rfl
                have q3 := hr 3 _ rfl
                have q5 := hr 5 _ rfl
                have q6 := hr 6 _ rfl
                have f2 := HO.out.frz (k * 11 + 2)
                have f3 := HO.out.frz (k * 11 + 3)
                have f5 := HO.out.frz (k * 11 + 5)
                have f6 := HO.out.frz (k * 11 + 6)
                have hgz := HO.out.sizeLt
                have hk1 : k < L.length := (List.getElem?_eq_some_iff.1 hym).1
                have o1 := HO.out.set (j := 3) (u := .slice none 0 0) hym (by omega) cut_ent0
                have b1 := HO.out.belowSet HB.out ⟨g, k * 11 + 3, none⟩ rfl (.slice none 0 0)
                have o2 := o1.set (j := 2) (u := .slice none 0 0) (List.getElem?_set_self hk1) (by omega) cut_ent1
                have b2 := o1.belowSet b1 ⟨g, k * 11 + 2, none⟩ rfl (.slice none 0 0)
                rw [List.set_set] at o2
                have o3 := o2.set (j := 5) (u := .slice none 0 0) (List.getElem?_set_self hk1) (by omega) cut_ent2
                have b3 := o2.belowSet b2 ⟨g, k * 11 + 5, none⟩ rfl (.slice none 0 0)
                rw [List.set_set] at o3
                have o4 := o3.set (j := 6) (u := .slice none 0 0) (List.getElem?_set_self hk1) (by omega) cut_ent3
                have b4 := o3.belowSet b3 ⟨g, k * 11 + 6, none⟩ rfl (.slice none 0 0)
                rw [List.set_set, cut_all, hsm] at o4
                have HO4 := Lib.hid o4
                have HB4 := Lib.hid b4
                have j0 : (0 : Int) ≤ (k : Int) := Int.natCast_nonneg _
                have j1 : (k : Int) < (s.length : Int) := by omega
                have jn : ((k : Int)).toNat = k := Int.toNat_natCast _
                clear o1 o2 o3 o4 b1 b2 b3 b4 hym hsm hln hL1000 hr hlen hy hk1
                go_wp2
                go_roundw
                case rel => exact ⟨k + 1, by omega, by simp, HB4.out, HO4.out⟩
                case measure => (try simp only [intOf]); omega
              · have hk2 : k = t1.length := by rw [HTL.out]; omega
                have ho := HO.out
                rw [hk2, List.take_length, List.drop_length, List.append_nil] at ho
                obtain ⟨-, hen⟩ := own_ents ho HB.out (by rw [List.length_map, HTL.out]; omega)
                have hcE := wrong_any _ _ (t1.map bareE) _ hen (few_map (f := bareE) (fun x => ⟨Nat.zero_le _, Nat.zero_le _, Nat.zero_le _, Nat.zero_le _⟩) HF6.out)
                rw [List.length_map, HTL.out, wrong_bare] at hcE
                have HCE := Lib.hid hcE
                clear hcE hen ho hk2
                go_wp2_with fail
                refine HCE.out.mono ?_
                rintro e w10 ⟨A10, c10, rfl, -, hb10⟩
                have HB10 := Lib.hid (below_next HB.out hb10)
                clear hb10
                go_wp2_with fail
                refine (awake_any _).mono ?_
                rintro e w9 ⟨rfl, hb9⟩
                go_wp2
                go_ret
                exact ⟨rfl, below_next HB10.out hb9⟩
          · have hxi : (s.map flipE)[i]? = some (flipE xi) := by rw [List.getElem?_map, HX.out]; rfl
            have hOc := HO5.out.set (j := 5) (u := .slice none 0 0) hxi (by omega) cut_ent2
            have HO6 := Lib.hid hOc
            have HB6 := Lib.hid (HO5.out.belowSet HB5.out ⟨g, i * 11 + 5, none⟩ rfl (.slice none 0 0))
            have HF6 := Lib.hid (few_set (k := 2) hxi HFF.out)
            have hwl := wrong_less (k := 2) hxi
            rw [wrong_flip] at hwl
            have HWL := Lib.hid hwl
            have hfz := HO5.out.frz (i * 11 + 5)
            have hgz := HO5.out.sizeLt
            have hcell : ∃ v, w5.cell? ⟨g, i * 11 + 5, none⟩ = some v := by
              obtain ⟨cs, hcs, hlen, hr⟩ := HO5.out.elem hxi (by rw [List.length_map]; omega)
              exact ⟨cs[5]'(by omega), hr 5 _ (List.getElem?_eq_getElem (by omega))⟩
            obtain ⟨vc, hvc⟩ := hcell
            generalize ht1 : (s.map flipE).set i (cutK 2 (flipE xi)) = t1 at hOc HO6 HF6 HWL hwl
            have htl : t1.length = s.length := by rw [← ht1, List.length_set, List.length_map]
            have HTL := Lib.hid htl
            clear hxi hOc hwl ht1 htl
            go_wp2_with fail
            obtain ⟨-, hen⟩ := own_ents HO6.out HB6.out (by rw [HTL.out]; omega)
            have hc6 := wrong_any _ _ t1 _ hen HF6.out
            rw [HTL.out] at hc6
            generalize wrongS t1 = V1 at hc6 HWL
            refine hc6.mono ?_
            rintro e w7 ⟨A7, c7, rfl, hv7, hb7⟩
            have HO7 := Lib.hid (HO6.out.next hb7)
            have HB7 := Lib.hid (below_next HB6.out hb7)
            clear hc6 hen hb7 hvc hfz hgz HO6 HB6
            go_wp2_with fail
            refine (wrong_any _ _ s _ (HS.out.kept (Kept.of_below HB7.out)) HF.out).mono ?_
            rintro e w8 ⟨A8, c8, rfl, hv8, hb8⟩
            have hwl := HWL.out
            rw [HV.out] at hv8 hwl ⊢
            have HO8 := Lib.hid (HO7.out.next hb8)
            have HB8 := Lib.hid (below_next HB7.out hb8)
            have HWL2 := Lib.hid hwl
            go_wp2_with fail
            refine (within_any _ _ _ _ V1 V _ (hv7.kept (Kept.of_below hb8)) hv8).mono ?_
            rintro e w9 ⟨rfl, hb9⟩
            rw [HWL2.out]
            have HO9 := Lib.hid (HO8.out.next hb9)
            have HB9 := Lib.hid (below_next HB8.out hb9)
            clear hv7 hv8 hb8 hb9 hwl HWL HWL2 HO7 HB7 HO8 HB8 HO5 HB5
            go_wp2
            go_loopw [88] (fun i wr => ∃ k : Nat, k ≤ s.length ∧ i = .int .i64 k ∧ Below w.heap.size w wr ∧ Own wr w.heap.size 38 11 (REnt w) (.slice (some ⟨g, 0, none⟩) s.length cap) ((t1.take k).map bareE ++ t1.drop k)) (fun i _ => s.length - (intOf i).toNat)
            case atStart => exact ⟨0, Nat.zero_le _, rfl, HB9.out, by simpa using HO9.out⟩
            case round =>
              clear HB9 HO9
              obtain ⟨k, hk, rfl, hb, ho⟩ := hrel
              have HB := Lib.hid hb
              have HO := Lib.hid ho
              clear hb ho
              by_cases hlt : k < s.length
              · have hy : t1[k]? = some (t1[k]'(by rw [HTL.out]; exact hlt)) := List.getElem?_eq_getElem _
                generalize t1[k]'(by rw [HTL.out]; exact hlt) = y at hy
                have hym := get_map (f := bareE) hy
                have hsm := set_map (f := bareE) hy
                have hln := len_map (f := bareE) t1 k
                generalize (t1.take k).map bareE ++ t1.drop k = L at HO hym hsm hln
                have hL1000 : L.length ≤ 1000 := by rw [hln, HTL.out]; omega
                obtain ⟨cs, ⟨r, hcs, _⟩, hlen, hr⟩ := HO.out.elem hym hL1000
                subst hcs
                have q2 := hr 2 _ rfl
                have q3 := hr 3 _ rfl
                have q5 := hr 5 _ rfl
                have q6 := hr 6 _ rfl
                have f2 := HO.out.frz (k * 11 + 2)
                have f3 := HO.out.frz (k * 11 + 3)
                have f5 := HO.out.frz (k * 11 + 5)
                have f6 := HO.out.frz (k * 11 + 6)
                have hgz := HO.out.sizeLt
                have hk1 : k < L.length := (List.getElem?_eq_some_iff.1 hym).1
                have o1 := HO.out.set (j := 3) (u := .slice none 0 0) hym (by omega) cut_ent0
                have b1 := HO.out.belowSet HB.out ⟨g, k * 11 + 3, none⟩ rfl (.slice none 0 0)
                have o2 := o1.set (j := 2) (u := .slice none 0 0) (List.getElem?_set_self hk1) (by omega) cut_ent1
                have b2 := o1.belowSet b1 ⟨g, k * 11 + 2, none⟩ rfl (.slice none 0 0)
                rw [List.set_set] at o2
                have o3 := o2.set (j := 5) (u := .slice none 0 0) (List.getElem?_set_self hk1) (by omega) cut_ent2
                have b3 := o2.belowSet b2 ⟨g, k * 11 + 5, none⟩ rfl (.slice none 0 0)
                rw [List.set_set] at o3
                have o4 := o3.set (j := 6) (u := .slice none 0 0) (List.getElem?_set_self hk1) (by omega) cut_ent3
                have b4 := o3.belowSet b3 ⟨g, k * 11 + 6, none⟩ rfl (.slice none 0 0)
                rw [List.set_set, cut_all, hsm] at o4
                have HO4 := Lib.hid o4
                have HB4 := Lib.hid b4
                have j0 : (0 : Int) ≤ (k : Int) := Int.natCast_nonneg _
                have j1 : (k : Int) < (s.length : Int) := by omega
                have jn : ((k : Int)).toNat = k := Int.toNat_natCast _
                clear o1 o2 o3 o4 b1 b2 b3 b4 hym hsm hln hL1000 hr hlen hy hk1
                go_wp2
                go_roundw
                case rel => exact ⟨k + 1, by omega, by simp, HB4.out, HO4.out⟩
                case measure => (try simp only [intOf]); omega
              · have hk2 : k = t1.length := by rw [HTL.out]; omega
                have ho := HO.out
                rw [hk2, List.take_length, List.drop_length, List.append_nil] at ho
                obtain ⟨-, hen⟩ := own_ents ho HB.out (by rw [List.length_map, HTL.out]; omega)
                have hcE := wrong_any _ _ (t1.map bareE) _ hen (few_map (f := bareE) (fun x => ⟨Nat.zero_le _, Nat.zero_le _, Nat.zero_le _, Nat.zero_le _⟩) HF6.out)
                rw [List.length_map, HTL.out, wrong_bare] at hcE
                have HCE := Lib.hid hcE
                clear hcE hen ho hk2
                go_wp2_with fail
                refine HCE.out.mono ?_
                rintro e w10 ⟨A10, c10, rfl, -, hb10⟩
                have HB10 := Lib.hid (below_next HB.out hb10)
                clear hb10
                go_wp2_with fail
                refine (awake_any _).mono ?_
                rintro e w9 ⟨rfl, hb9⟩
                go_wp2
                go_ret
                exact ⟨rfl, below_next HB10.out hb9⟩
          · have hxi : (s.map flipE)[i]? = some (flipE xi) := by rw [List.getElem?_map, HX.out]; rfl
            have hOc := HO5.out.set (j := 6) (u := .slice none 0 0) hxi (by omega) cut_ent3
            have HO6 := Lib.hid hOc
            have HB6 := Lib.hid (HO5.out.belowSet HB5.out ⟨g, i * 11 + 6, none⟩ rfl (.slice none 0 0))
            have HF6 := Lib.hid (few_set (k := 3) hxi HFF.out)
            have hwl := wrong_less (k := 3) hxi
            rw [wrong_flip] at hwl
            have HWL := Lib.hid hwl
            have hfz := HO5.out.frz (i * 11 + 6)
            have hgz := HO5.out.sizeLt
            have hcell : ∃ v, w5.cell? ⟨g, i * 11 + 6, none⟩ = some v := by
              obtain ⟨cs, hcs, hlen, hr⟩ := HO5.out.elem hxi (by rw [List.length_map]; omega)
              exact ⟨cs[6]'(by omega), hr 6 _ (List.getElem?_eq_getElem (by omega))⟩
            obtain ⟨vc, hvc⟩ := hcell
            generalize ht1 : (s.map flipE).set i (cutK 3 (flipE xi)) = t1 at hOc HO6 HF6 HWL hwl
            have htl : t1.length = s.length := by rw [← ht1, List.length_set, List.length_map]
            have HTL := Lib.hid htl
            clear hxi hOc hwl ht1 htl
            go_wp2_with fail
            obtain ⟨-, hen⟩ := own_ents HO6.out HB6.out (by rw [HTL.out]; omega)
            have hc6 := wrong_any _ _ t1 _ hen HF6.out
            rw [HTL.out] at hc6
            generalize wrongS t1 = V1 at hc6 HWL
            refine hc6.mono ?_
            rintro e w7 ⟨A7, c7, rfl, hv7, hb7⟩
            have HO7 := Lib.hid (HO6.out.next hb7)
            have HB7 := Lib.hid (below_next HB6.out hb7)
            clear hc6 hen hb7 hvc hfz hgz HO6 HB6
            go_wp2_with fail
            refine (wrong_any _ _ s _ (HS.out.kept (Kept.of_below HB7.out)) HF.out).mono ?_
            rintro e w8 ⟨A8, c8, rfl, hv8, hb8⟩
            have hwl := HWL.out
            rw [HV.out] at hv8 hwl ⊢
            have HO8 := Lib.hid (HO7.out.next hb8)
            have HB8 := Lib.hid (below_next HB7.out hb8)
            have HWL2 := Lib.hid hwl
            go_wp2_with fail
            refine (within_any _ _ _ _ V1 V _ (hv7.kept (Kept.of_below hb8)) hv8).mono ?_
            rintro e w9 ⟨rfl, hb9⟩
            rw [HWL2.out]
            have HO9 := Lib.hid (HO8.out.next hb9)
            have HB9 := Lib.hid (below_next HB8.out hb9)
            clear hv7 hv8 hb8 hb9 hwl HWL HWL2 HO7 HB7 HO8 HB8 HO5 HB5
            go_wp2
            go_loopw [88] (fun i wr => ∃ k : Nat, k ≤ s.length ∧ i = .int .i64 k ∧ Below w.heap.size w wr ∧ Own wr w.heap.size 38 11 (REnt w) (.slice (some ⟨g, 0, none⟩) s.length cap) ((t1.take k).map bareE ++ t1.drop k)) (fun i _ => s.length - (intOf i).toNat)
            case atStart => exact ⟨0, Nat.zero_le _, rfl, HB9.out, by simpa using HO9.out⟩
            case round =>
              clear HB9 HO9
              obtain ⟨k, hk, rfl, hb, ho⟩ := hrel
              have HB := Lib.hid hb
              have HO := Lib.hid ho
              clear hb ho
              by_cases hlt : k < s.length
              · have hy : t1[k]? = some (t1[k]'(by rw [HTL.out]; exact hlt)) := List.getElem?_eq_getElem _
                generalize t1[k]'(by rw [HTL.out]; exact hlt) = y at hy
                have hym := get_map (f := bareE) hy
                have hsm := set_map (f := bareE) hy
                have hln := len_map (f := bareE) t1 k
                generalize (t1.take k).map bareE ++ t1.drop k = L at HO hym hsm hln
                have hL1000 : L.length ≤ 1000 := by rw [hln, HTL.out]; omega
                obtain ⟨cs, ⟨r, hcs, _⟩, hlen, hr⟩ := HO.out.elem hym hL1000
                subst hcs
                have q2 := hr 2 _ rfl
                have q3 := hr 3 _ rfl
                have q5 := hr 5 _ rfl
                have q6 := hr 6 _ rfl
                have f2 := HO.out.frz (k * 11 + 2)
                have f3 := HO.out.frz (k * 11 + 3)
                have f5 := HO.out.frz (k * 11 + 5)
                have f6 := HO.out.frz (k * 11 + 6)
                have hgz := HO.out.sizeLt
                have hk1 : k < L.length := (List.getElem?_eq_some_iff.1 hym).1
                have o1 := HO.out.set (j := 3) (u := .slice none 0 0) hym (by omega) cut_ent0
                have b1 := HO.out.belowSet HB.out ⟨g, k * 11 + 3, none⟩ rfl (.slice none 0 0)
                have o2 := o1.set (j := 2) (u := .slice none 0 0) (List.getElem?_set_self hk1) (by omega) cut_ent1
                have b2 := o1.belowSet b1 ⟨g, k * 11 + 2, none⟩ rfl (.slice none 0 0)
                rw [List.set_set] at o2
                have o3 := o2.set (j := 5) (u := .slice none 0 0) (List.getElem?_set_self hk1) (by omega) cut_ent2
                have b3 := o2.belowSet b2 ⟨g, k * 11 + 5, none⟩ rfl (.slice none 0 0)
                rw [List.set_set] at o3
                have o4 := o3.set (j := 6) (u := .slice none 0 0) (List.getElem?_set_self hk1) (by omega) cut_ent3
                have b4 := o3.belowSet b3 ⟨g, k * 11 + 6, none⟩ rfl (.slice none 0 0)
                rw [List.set_set, cut_all, hsm] at o4
                have HO4 := Lib.hid o4
                have HB4 := Lib.hid b4
                have j0 : (0 : Int) ≤ (k : Int) := Int.natCast_nonneg _
                have j1 : (k : Int) < (s.length : Int) := by omega
                have jn : ((k : Int)).toNat = k := Int.toNat_natCast _
                clear o1 o2 o3 o4 b1 b2 b3 b4 hym hsm hln hL1000 hr hlen hy hk1
                go_wp2
                go_roundw
                case rel => exact ⟨k + 1, by omega, by simp, HB4.out, HO4.out⟩
                case measure => (try simp only [intOf]); omega
              · have hk2 : k = t1.length := by rw [HTL.out]; omega
                have ho := HO.out
                rw [hk2, List.take_length, List.drop_length, List.append_nil] at ho
                obtain ⟨-, hen⟩ := own_ents ho HB.out (by rw [List.length_map, HTL.out]; omega)
                have hcE := wrong_any _ _ (t1.map bareE) _ hen (few_map (f := bareE) (fun x => ⟨Nat.zero_le _, Nat.zero_le _, Nat.zero_le _, Nat.zero_le _⟩) HF6.out)
                rw [List.length_map, HTL.out, wrong_bare] at hcE
                have HCE := Lib.hid hcE
                clear hcE hen ho hk2
                go_wp2_with fail
                refine HCE.out.mono ?_
                rintro e w10 ⟨A10, c10, rfl, -, hb10⟩
                have HB10 := Lib.hid (below_next HB.out hb10)
                clear hb10
                go_wp2_with fail
                refine (awake_any _).mono ?_
                rintro e w9 ⟨rfl, hb9⟩
                go_wp2
                go_ret
                exact ⟨rfl, below_next HB10.out hb9⟩
end Go.Proofs.YthgghkicdclinaaDoor
