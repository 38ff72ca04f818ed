/- The contract of strings.FieldsFunc at this program (printed by lay-plain.mjs for this seat; the numbers are this seat's). The contracts of text.Words and of the reference's Words. -/
import Derived.Test.YtaicidbopgnmfaaGreatDoorDr
import Derived.Test.YtaicidbopgnmfaaGreatDoorShelf
import Derived.Test.YtaicidbopgnmfaaGreatDoorMk
import Derived.Shelf.Strings.FieldsFuncGrows
import Derived.Test.YtaicidbopgnmfaaGreatDoorMl
namespace Go.Proofs
set_option linter.unusedSimpArgs false
set_option linter.unusedVariables false
open Go.Shelf
def Tryz.lays229_ren : Go.Shelf.Ren := ⟨fun | 229 => 122 | n => n, fun | 9 => 9 | 40 => 146 | 31 => 89 | 152 => 177 | 3 => 3 | 0 => 0 | 4 => 4 | 21 => 21 | 154 => 179 | n => n, fun | n => n⟩
theorem Tryz.lays229 : Go.Proofs.Lays.n229 Tryz.prog Tryz.lays229_ren := {
  mixed := by kernel_rfl
  f229 := Tryz.func122.trans (congrArg some (by kernel_rfl))
  t0 := Tryz.underlying0
  a0 := Tryz.isAgg0
  z0 := Tryz.sizeOf0
  v0 := Tryz.zeroValue0
  t3 := Tryz.underlying3
  a3 := Tryz.isAgg3
  z3 := Tryz.sizeOf3
  v3 := Tryz.zeroValue3
  t4 := Tryz.underlying4
  a4 := Tryz.isAgg4
  z4 := Tryz.sizeOf4
  v4 := Tryz.zeroValue4
  t9 := Tryz.underlying9
  a9 := Tryz.isAgg9
  z9 := Tryz.sizeOf9
  v9 := Tryz.zeroValue9
  t21 := Tryz.underlying21
  a21 := Tryz.isAgg21
  z21 := Tryz.sizeOf21
  v21 := Tryz.zeroValue21
  t31 := Tryz.underlying89
  a31 := Tryz.isAgg89
  z31 := Tryz.sizeOf89
  v31 := Tryz.zeroValue89
  t40 := Tryz.underlying146
  a40 := Tryz.isAgg146
  z40 := Tryz.sizeOf146
  v40 := Tryz.zeroValue146
  t152 := Tryz.underlying177
  a152 := Tryz.isAgg177
  z152 := Tryz.sizeOf177
  v152 := Tryz.zeroValue177
  t154 := Tryz.underlying179
  a154 := Tryz.isAgg179
  z154 := Tryz.sizeOf179
  v154 := Tryz.zeroValue179 }
open Go.RowKit Go.Lib in
theorem Tryz.strings_FieldsFunc_grows (g : Nat) (lb : Array Value) (eg : ∀ args w, (callFunc g args).run Tryz.prog w = .ok (.enter g args) w) (p : Nat → Bool) (s : ByteArray) (w : World) (hs : s.size ≤ 4294967296) (hp : PredGrows Tryz.prog g lb p w) :
    Calls Tryz.prog 122 #[.string s, .func (.func g) #[] lb] w fun e w' => ∃ A, e = .returned (.slice (some ⟨A, 0, none⟩) (Lib.goFieldsP p s).length (Lib.goFieldsP p s).length) ∧ w.heap.size ≤ A ∧
      w'.ownsRow w.heap.size 9 1 (.slice (some ⟨A, 0, none⟩) (Lib.goFieldsP p s).length (Lib.goFieldsP p s).length) (Lib.goFieldsP p s).length ((Lib.goFieldsP p s).map Value.string) ∧ Below w.heap.size w w' := Any.strings_FieldsFunc_grows Tryz.lays229 g lb eg p s w hs hp (by kernel_rfl) (by kernel_rfl)
end Go.Proofs
namespace Go.Proofs.YtaicidbopgnmfaaGreatDoor
set_option linter.unusedSimpArgs false
set_option linter.unusedVariables false
open Go.RowKit
attribute [local go_sem ↓] Go.wp_at_zero Go.wp_at_succ
theorem below_drewN {B : Nat} {a w : World} (h : Below B a w) (n : Nat) : Below B a (w.drewN n) := h.trans ⟨rfl, rfl, rfl, Nat.le_refl _, fun _ _ => rfl⟩
def RetW (w : World) (l : List (List UInt8)) (e : Ending) (w' : World) : Prop := ∃ A c, e = .returned (.slice A l.length c) ∧ Strs w' A c l ∧ Below w.heap.size w w'
set_option maxRecDepth 100000 in
theorem white_any (x : Nat) (hx : x ≤ 1114111) (W : World) : Calls Tryz.prog 123 #[.int .i32 x] W fun e w' => e = .returned (.bool (whP x)) ∧ W = w' := by
  go_enter Tryz.func123, Tryz.ntmps123
  go_wp2
  all_goals go_ret
  all_goals (refine ⟨?_, rfl⟩; go_tidy; simp [whP]; try grind)
theorem whB_dec (c : UInt8) : whB c = (decide (c.toNat = 32) || decide (c.toNat = 9)) := by
  unfold whB
  congr 1
  · rw [Bool.eq_iff_iff]; simp [← UInt8.toNat_inj]
  · rw [Bool.eq_iff_iff]; simp [← UInt8.toNat_inj]
theorem rwhite_any (c : UInt8) (W : World) : Calls Tryz.prog 126 #[.int .u8 c.toNat] W fun e w' => e = .returned (.bool (whB c)) ∧ W = w' := by
  have H := Lib.hid (whB_dec c)
  go_enter Tryz.func126, Tryz.ntmps126
  go_wp2
  all_goals go_ret
  all_goals (refine ⟨?_, rfl⟩; rw [H.out]; go_tidy; first | (simp; done) | (simp; omega) | (go_simp; congr 2; all_goals (rw [Bool.eq_iff_iff]; simp; try omega)) | (simp; rw [Bool.eq_iff_iff]; simp; omega))
theorem flat_strs : ∀ l : List (List UInt8), (l.map fun x => [Value.string (bs x)]).flatten = (l.map bs).map Value.string
  | [] => rfl
  | x :: l => by rw [List.map_cons, List.flatten_cons, flat_strs l]; rfl
theorem own_strs {w' : World} {B : Nat} {A n : Nat} {l : List (List UInt8)} (hn : l.length = n) (h : w'.ownsRow B 9 1 (.slice (some ⟨A, 0, none⟩) n n) n ((l.map bs).map Value.string)) : Own w' B 9 1 RStr (.slice (some ⟨A, 0, none⟩) n n) l := by
  refine ⟨l.map fun x => [.string (bs x)], by simp, fun i cs x h1 h2 => ?_, ?_⟩
  · rw [List.getElem?_map, h2] at h1
    injection h1 with h1
    subst h1
    exact ⟨rfl, rfl⟩
  · rw [flat_strs, hn]
    exact h
set_option maxRecDepth 100000 in
theorem words_any (l : List UInt8) (hl : l.length ≤ 4294967296) (w : World) : Calls Tryz.prog 72 #[.string (bs l)] w (RetW w (wordsS l)) := by
  have HQ := Lib.hid (Tryz.strings_FieldsFunc_grows 123 #[] (enters_of Tryz.func123 (by kernel_rfl) rfl) whP (bs l) w hl (fun W x hx _ => (white_any x hx W).mono fun _ _ h => ⟨h.1, h.2 ▸ Below.refl _ _⟩))
  have hwl := words_len l []
  go_enter Tryz.func72, Tryz.ntmps72
  go_wp2_with fail
  refine HQ.out.mono ?_
  rintro e w1 ⟨A, rfl, hA, ho, hb⟩
  have hn : (Lib.goFieldsP whP (bs l)).length = (wordsS l).length := by rw [fields_words, List.length_map]
  rw [fields_words] at ho
  rw [hn]
  rw [List.length_map] at ho
  obtain ⟨A1, c1, hv, h1⟩ := (own_strs rfl ho).slc (z := 16) (by unfold wordsS; omega)
  have HV := Lib.hid hv
  have H1 := Lib.hid h1
  have HB := Lib.hid hb
  clear ho hn hv h1 hb HQ hwl hA
  go_wp2
  go_ret
  exact ⟨A1, c1, congrArg Ending.returned HV.out, H1.out, HB.out⟩
theorem ws_cut {l p : List UInt8} (hp : p ≠ []) (hl : l = [] ∨ ∃ c r, l = c :: r ∧ whB c = true) : wsA l p = p :: wsA l [] := by
  rcases hl with rfl | ⟨c, r, rfl, hc⟩
  · rw [wsA, wsA, if_neg hp, if_pos rfl]
  · rw [wsA, wsA, if_pos hc, if_pos hc, if_neg hp, if_pos rfl]
theorem ws_white {l : List UInt8} {i : Nat} {c : UInt8} (h : l[i]? = some c) (hc : whB c = true) : wsA (l.drop i) [] = wsA (l.drop (i + 1)) [] := by
  obtain ⟨hi, rfl⟩ := List.getElem?_eq_some_iff.1 h
  rw [List.drop_eq_getElem_cons hi, wsA, if_pos hc, if_pos rfl]
theorem ws_piece {l : List UInt8} {i j : Nat} (hij : i < j) (hj : j ≤ l.length) (hb : ∀ c ∈ (l.drop i).take (j - i), whB c = false) (he : l.length ≤ j ∨ ∃ c, l[j]? = some c ∧ whB c = true) : wsA (l.drop i) [] = (l.drop i).take (j - i) :: wsA (l.drop j) [] := by
  have h1 : l.drop i = (l.drop i).take (j - i) ++ l.drop j := by
    have := List.take_append_drop (j - i) (l.drop i)
    rw [List.drop_drop, show i + (j - i) = j by omega] at this
    exact this.symm
  have h2 : (l.drop i).take (j - i) ≠ [] := fun e => by
    have := congrArg List.length e
    simp at this
    omega
  conv => lhs; rw [h1]
  rw [wsA_run _ _ _ hb, List.nil_append, ws_cut h2]
  rcases he with he | ⟨c, hc, hw⟩
  · exact .inl (List.drop_eq_nil_of_le he)
  · obtain ⟨hj', rfl⟩ := List.getElem?_eq_some_iff.1 hc
    exact .inr ⟨_, _, List.drop_eq_getElem_cons hj', hw⟩
set_option maxRecDepth 100000 in
set_option maxHeartbeats 2000000 in
theorem rwords_any (l : List UInt8) (hl : l.length ≤ 4294967296) (w : World) : Calls Tryz.prog 74 #[.string (bs l)] w (RetW w (wordsS l)) := by
  obtain ⟨G, hG⟩ : ∃ G, G = wordsS l := ⟨_, rfl⟩
  have hgl : G.length ≤ l.length + 1 := by rw [hG]; exact words_len l []
  rw [← hG]
  have HG := Lib.hid hG
  clear hG
  go_enter Tryz.func74, Tryz.ntmps74
  go_wp2
  go_loopw [3, 4] (fun v i wr => ∃ (k : Nat) (acc : List (List UInt8)), k ≤ l.length ∧ i = .int .i64 k ∧ Own wr w.heap.size 9 1 RStr v acc ∧ acc ++ wsA (l.drop k) [] = G ∧ Below w.heap.size w wr) (fun _ i _ => l.length - (intOf i).toNat)
  case atStart => exact ⟨0, [], Nat.zero_le _, rfl, Own.nil_ _ _ _ _ _, HG.out.symm, Below.refl _ _⟩
  case round =>
    obtain ⟨k, acc, hk, rfl, ho, hq, hb⟩ := hrel
    have hal : acc.length ≤ l.length + 1 := by have := congrArg List.length hq; rw [List.length_append] at this; omega
    have HO := Lib.hid ho
    have HQ := Lib.hid hq
    have HB := Lib.hid hb
    clear ho hq hb
    by_cases hlt : k < l.length
    · have HC := Lib.hid (List.getElem?_eq_getElem hlt)
      rcases hw : whB (l[k]'hlt)
      · have HW := Lib.hid hw
        clear hw
        go_wp2_with fail
        refine (rwhite_any _ _).mono ?_
        rintro e w1 ⟨rfl, hw1⟩
        subst hw1
        generalize hb : whB _ = bb
        obtain rfl : bb = false := hb.symm.trans HW.out
        clear hb
        go_wp2
        go_loopw [4] (fun i w2 => ∃ j : Nat, k ≤ j ∧ j ≤ l.length ∧ i = .int .i64 j ∧ (∀ c ∈ (l.drop k).take (j - k), whB c = false) ∧ w2 = wr) (fun i _ => l.length - (intOf i).toNat)
        case atStart => exact ⟨k, Nat.le_refl _, hk, rfl, fun c hc => by simp at hc, rfl⟩
        case round =>
          obtain ⟨j, hkj, hj, rfl, hn, rfl⟩ := hrel
          have HN := Lib.hid hn
          clear hn
          by_cases hjl : j < l.length
          · have hjd : decide ((j : Int) < (l.length : Int)) = true := decide_eq_true (by omega)
            have HD := Lib.hid (List.getElem?_eq_getElem hjl)
            rcases hw2 : whB (l[j]'hjl)
            · have HW2 := Lib.hid hw2
              clear hw2
              go_wp2_with fail
              refine (rwhite_any _ _).mono ?_
              rintro e w1 ⟨rfl, hw1⟩
              subst hw1
              generalize hb : whB _ = bb
              obtain rfl : bb = false := hb.symm.trans HW2.out
              clear hb
              go_wp2
              go_roundw
              case rel => exact ⟨j + 1, by omega, by omega, by simp, fun x hx => (by
                have e1 : (l.drop k).take (j + 1 - k) = (l.drop k).take (j - k) ++ [l[j]'hjl] := by
                  rw [show j + 1 - k = (j - k) + 1 by omega]
                  exact take_step (by rw [List.getElem?_drop, show k + (j - k) = j by omega]; exact HD.out)
                rw [e1, List.mem_append, List.mem_singleton] at hx
                rcases hx with hx | rfl
                · exact HN.out x hx
                · exact HW2.out), by first | rfl | trivial⟩
              case measure => (try simp only [intOf]); omega
            · have HW2 := Lib.hid hw2
              have hne : j ≠ k := fun e => by
                subst e
                exact Bool.noConfusion (HW.out.symm.trans hw2)
              have HP := Lib.hid (ws_piece (l := l) (i := k) (j := j) (by omega) hj HN.out (.inr ⟨_, HD.out, HW2.out⟩))
              clear hw2
              go_wp2_with fail
              refine (rwhite_any _ _).mono ?_
              rintro e w1 ⟨rfl, hw1⟩
              subst hw1
              generalize hb : whB _ = bb
              obtain rfl : bb = true := hb.symm.trans HW2.out
              clear hb
              have hjk : (k : Int) ≤ (j : Int) := by omega
              go_wp2_with (at_builtin; refine wpList_append_el (by rfl) _ _ 89 (by rfl) w.heap.size 9 _ 1 16 Tryz.underlying89 infStr' rfl (by omega) RStr _ acc (by rfl) (HO.out.alloc _) ((l.drop k).take (j - k)) [.string (bs ((l.drop k).take (j - k)))] _ 1 (by rfl) (blk_new1 _ _ _) rfl rfl (by simp [Value.oneCell']) (by omega) (by omega) (by have := HB.out.size; simp; omega) ?_; intro g cap w4 ho4 hg4; have HO4 := Lib.hid ho4; have HB4 := Lib.hid ((HO.out.alloc _).below (below_alloc HB.out _) (by have := HB.out.size; simp; omega) hg4); clear ho4 hg4)
              go_roundw
              case rel => exact ⟨j, _, hj, by first | rfl | trivial, HO4.out, by rw [← HQ.out, HP.out]; simp, HB4.out⟩
              case measure => (try simp only [intOf]); omega
          · obtain rfl : j = l.length := by omega
            have hjd : decide ((l.length : Int) < (l.length : Int)) = false := decide_eq_false (by omega)
            have HP := Lib.hid (ws_piece (l := l) (i := k) (j := l.length) hlt (Nat.le_refl _) HN.out (.inl (Nat.le_refl _)))
            have hjk : (k : Int) ≤ (l.length : Int) := by omega
            obtain ⟨n, hn⟩ : ∃ n, n = l.length := ⟨_, rfl⟩
            go_wp2_with (at_builtin; refine wpList_append_el (by rfl) _ _ 89 (by rfl) w.heap.size 9 _ 1 16 Tryz.underlying89 infStr' rfl (by omega) RStr _ acc (by rfl) (HO.out.alloc _) ((l.drop k).take (l.length - k)) [.string (bs ((l.drop k).take (l.length - k)))] _ 1 (by rfl) (by first | exact blk_new1 _ _ _ | (rw [take_rest]; exact blk_new1 _ _ _)) rfl rfl (by simp [Value.oneCell']) (by omega) (by omega) (by have := HB.out.size; simp; omega) ?_; intro g cap w4 ho4 hg4; have HO4 := Lib.hid ho4; have HB4 := Lib.hid ((HO.out.alloc _).below (below_alloc HB.out _) (by have := HB.out.size; simp; omega) hg4); clear ho4 hg4)
            go_roundw
            case rel => exact ⟨l.length, _, Nat.le_refl _, by first | rfl | trivial, HO4.out, by rw [← HQ.out, HP.out]; simp, HB4.out⟩
            case measure => (try simp only [intOf]); omega
      · have HW := Lib.hid hw
        have HP := Lib.hid (ws_white HC.out hw)
        clear hw
        go_wp2_with fail
        refine (rwhite_any _ _).mono ?_
        rintro e w1 ⟨rfl, hw1⟩
        subst hw1
        generalize hb : whB _ = bb
        obtain rfl : bb = true := hb.symm.trans HW.out
        clear hb
        go_wp2
        go_roundw
        case rel => exact ⟨k + 1, acc, by omega, by simp, HO.out, by rw [← HP.out]; exact HQ.out, HB.out⟩
        case measure => (try simp only [intOf]); omega
    · have hq := HQ.out
      rw [List.drop_eq_nil_of_le (by omega), wsA, if_pos rfl, List.append_nil] at hq
      subst hq
      obtain ⟨A1, c1, rfl, h1⟩ := HO.out.slc (z := 16) (by omega)
      have H1 := Lib.hid h1
      clear h1 HO HQ
      go_wp2
      go_ret
      exact ⟨A1, c1, rfl, H1.out, HB.out⟩
end Go.Proofs.YtaicidbopgnmfaaGreatDoor
