/- Words between white space: plainly, by bytes and by runes. The contract of strings.FieldsFunc at this program (printed by lay-plain.mjs for this seat; the numbers are this seat's). The contracts of text.Words and of the reference's Words. -/
import Derived.Test.YtcbomomlojhghaaDoorVb
import Derived.Lib.FieldsP
import Derived.Lib.SpaceUEq
import Derived.Test.YtcbomomlojhghaaDoorShelf
import Derived.Test.YtcbomomlojhghaaDoorOw
import Derived.Shelf.Strings.FieldsFuncGrows
import Derived.Test.YtcbomomlojhghaaDoorNl
import Derived.Deep.DrawnRows
namespace Go.Proofs.YtcbomomlojhghaaDoor
set_option linter.unusedSimpArgs false
set_option linter.unusedVariables false
open Go.Lib
def whB (c : UInt8) : Bool := c == 32 || c == 9
def whP (x : Nat) : Bool := x == 32 || x == 9
def wsA : List UInt8 → List UInt8 → List (List UInt8)
  | [], cur => if cur = [] then [] else [cur]
  | c :: l, cur => if whB c then (if cur = [] then wsA l [] else cur :: wsA l []) else wsA l (cur ++ [c])
def wordsS (l : List UInt8) : List (List UInt8) := wsA l []
theorem wsA_run : ∀ (u v cur : List UInt8), (∀ c ∈ u, whB c = false) → wsA (u ++ v) cur = wsA v (cur ++ u)
  | [], v, cur, _ => by simp
  | c :: u, v, cur, h => by
    have h0 : whB c = false := h c (by simp)
    rw [List.cons_append, wsA, if_neg (by simp [h0]), wsA_run u v (cur ++ [c]) fun d hd => h d (by simp [hd]), List.append_assoc, List.singleton_append]
theorem whB_lt {c : UInt8} (h : whB c = true) : c.toNat < 128 ∧ whP c.toNat = true := by
  unfold whB at h
  simp only [Bool.or_eq_true, beq_iff_eq] at h
  rcases h with rfl | rfl <;> exact ⟨by decide, by decide⟩
theorem whB_of {c : UInt8} (h : whP c.toNat = true) : whB c = true := by
  unfold whP at h
  simp only [Bool.or_eq_true, beq_iff_eq] at h
  unfold whB
  simp only [Bool.or_eq_true, beq_iff_eq]
  rcases h with h | h
  · exact .inl (UInt8.toNat_inj.1 h)
  · exact .inr (UInt8.toNat_inj.1 h)
theorem whB_high {c : UInt8} (h : 128 ≤ c.toNat) : whB c = false := by
  rcases hc : whB c
  · rfl
  · have := (whB_lt hc).1; omega
theorem whP_small {x : Nat} (h : 128 ≤ x) : whP x = false := by
  unfold whP
  simp only [Bool.or_eq_false_iff, beq_eq_false_iff_ne]
  omega
theorem decode_bs (l : List UInt8) (pos : Nat) : Utf8.decode (bs l) pos = decodeN (l.length - pos) (l.getD pos 0).toNat (l.getD (pos + 1) 0).toNat (l.getD (pos + 2) 0).toNat (l.getD (pos + 3) 0).toNat := decode_N (bs l) pos
theorem dec_white {l : List UInt8} {pos : Nat} {c : UInt8} {rest : List UInt8} (hd : l.drop pos = c :: rest) (h : whP (Utf8.decode (bs l) pos).1 = true) : whB c = true ∧ (Utf8.decode (bs l) pos).2 = 1 := by
  have hc : l.getD pos 0 = c := by
    have := congrArg (fun x => x[0]?) hd
    simp only [List.getElem?_drop, Nat.add_zero, List.getElem?_cons_zero] at this
    simp [List.getD, this]
  rw [decode_bs] at h ⊢
  rw [hc] at h ⊢
  have hcs := decodeN_cases (l.length - pos) c.toNat (l.getD (pos + 1) 0).toNat (l.getD (pos + 2) 0).toNat (l.getD (pos + 3) 0).toNat
  rcases hcs with ⟨h1, h2⟩ | ⟨_, _, _, h1, h2⟩ | ⟨_, _, _, _, h1, h2⟩ | ⟨h1, _⟩ | h2
  · rw [h2] at h ⊢
    exact ⟨whB_of h, rfl⟩
  · rw [h2, whP_small h1] at h; cases h
  · rw [h2, whP_small (by omega)] at h; cases h
  · rw [whP_small (by omega)] at h; cases h
  · rw [h2, whP_small (by omega)] at h; cases h
theorem dec_black {l : List UInt8} {pos : Nat} (hp : pos < l.length) (h : whP (Utf8.decode (bs l) pos).1 = false) : ∀ c ∈ (l.drop pos).take (Utf8.decode (bs l) pos).2, whB c = false := by
  intro c hc
  obtain ⟨j, hj⟩ := List.getElem?_of_mem hc
  rw [List.getElem?_take] at hj
  split at hj
  · rename_i hjn
    rw [List.getElem?_drop] at hj
    have hg : l.getD (pos + j) 0 = c := by simp [List.getD, hj]
    rw [decode_bs] at h hjn
    have hcont := decodeN_conts (l.length - pos) (l.getD pos 0).toNat (l.getD (pos + 1) 0).toNat (l.getD (pos + 2) 0).toNat (l.getD (pos + 3) 0).toNat
    obtain ⟨h1, h2, h3, h4⟩ := hcont
    obtain rfl | rfl | rfl | rfl : j = 0 ∨ j = 1 ∨ j = 2 ∨ j = 3 := by omega
    · rcases hb : whB c
      · rfl
      · obtain ⟨k1, k2⟩ := whB_lt hb
        rw [Nat.add_zero] at hg
        rw [hg, decodeN_ascii _ _ _ _ _ k1, k2] at h
        cases h
    · have := (h1 (by omega)).1
      rw [hg] at this
      exact whB_high (by omega)
    · have := (h2 (by omega)).1
      rw [hg] at this
      exact whB_high (by omega)
    · have := (h3 (by omega)).1
      rw [hg] at this
      exact whB_high (by omega)
  · cases hj
theorem dec_le {l : List UInt8} {pos : Nat} (hp : pos < l.length) : 1 ≤ (Utf8.decode (bs l) pos).2 ∧ pos + (Utf8.decode (bs l) pos).2 ≤ l.length := by
  refine ⟨width_pos _ _, ?_⟩
  rw [decode_bs]
  have := decodeN_le_n' (l.length - pos) (l.getD pos 0).toNat (l.getD (pos + 1) 0).toNat (l.getD (pos + 2) 0).toNat (l.getD (pos + 3) 0).toNat (by omega)
  omega
/-- the pieces so far, and those of what is left -/
def cutW (l : List UInt8) (acc : List (Nat × Nat)) : List (List UInt8) := acc.map fun x => pieceU l x.1 x.2
theorem cutW_snoc (l : List UInt8) (acc : List (Nat × Nat)) (a b : Nat) : cutW l (acc ++ [(a, b)]) = cutW l acc ++ [pieceU l a b] := by simp [cutW]
theorem spans_words (l : List UInt8) : ∀ (f pos : Nat) (st : Option Nat) (acc : List (Nat × Nat)), pos ≤ l.length → l.length ≤ pos + f → (∀ a, st = some a → a < pos) →
    cutW l (closeSpans (bs l) (spansFromP whP (bs l) f pos st acc)) = cutW l acc ++ wsA (l.drop pos) (openPiece l st pos) := by
  intro f
  induction f with
  | zero =>
    intro pos st acc hp hf hst
    obtain rfl : pos = l.length := by omega
    rw [spansFromP_end _ _ _ _ _ _ (by rw [bs_size]; omega), List.drop_length]
    rcases st with _ | a
    · simp [closeSpans, openPiece, wsA]
    · have hne : openPiece l (some a) l.length ≠ [] := pieceU_ne l a _ (hst a rfl) (Nat.le_refl _)
      rw [wsA, if_neg hne]
      exact cutW_snoc l acc a l.length
  | succ f ih =>
    intro pos st acc hp hf hst
    by_cases hlt : pos < l.length
    · obtain ⟨h1, h2⟩ := dec_le hlt
      have hdr : l.drop pos = l[pos] :: l.drop (pos + 1) := List.drop_eq_getElem_cons hlt
      unfold spansFromP
      rw [if_pos (show pos < (bs l).size from hlt)]
      rcases hw : whP (Utf8.decode (bs l) pos).1
      · have hrun := wsA_run ((l.drop pos).take (Utf8.decode (bs l) pos).2) ((l.drop pos).drop (Utf8.decode (bs l) pos).2) (openPiece l st pos) (dec_black hlt hw)
        rw [List.take_append_drop, List.drop_drop] at hrun
        rw [hrun]
        rcases st with _ | a
        · simp only [Bool.false_eq_true, if_false]
          rw [ih _ _ _ h2 (by omega) (fun a h => by injection h with h; omega)]
          congr 2
          show pieceU l pos (pos + (Utf8.decode (bs l) pos).2) = [] ++ _
          unfold pieceU
          rw [List.nil_append, Nat.add_sub_cancel_left]
        · simp only [Bool.false_eq_true, if_false]
          have := hst a rfl
          rw [ih _ _ _ h2 (by omega) (fun a' h => by injection h with h; omega)]
          congr 2
          exact (pieceU_grow l a pos _ (by omega)).symm
      · obtain ⟨hb, hn⟩ := dec_white hdr hw
        rw [hn] at h2 ⊢
        rw [hdr, wsA, if_pos hb]
        rcases st with _ | a
        · simp only [if_true]
          rw [ih _ _ _ h2 (by omega) (fun a h => by cases h)]
          rfl
        · simp only [if_true]
          have hne : openPiece l (some a) pos ≠ [] := pieceU_ne l a _ (hst a rfl) hp
          rw [ih _ _ _ h2 (by omega) (fun a h => by cases h), if_neg hne, cutW_snoc, List.append_assoc]
          rfl
    · obtain rfl : pos = l.length := by omega
      rw [spansFromP_end _ _ _ _ _ _ (by rw [bs_size]; omega), List.drop_length]
      rcases st with _ | a
      · simp [closeSpans, openPiece, wsA]
      · have hne : openPiece l (some a) l.length ≠ [] := pieceU_ne l a _ (hst a rfl) (Nat.le_refl _)
        rw [wsA, if_neg hne]
        exact cutW_snoc l acc a l.length
theorem fields_words (l : List UInt8) : goFieldsP whP (bs l) = (wordsS l).map bs := by
  have h := spans_words l l.length 0 none [] (Nat.zero_le _) (by omega) (fun a h => by cases h)
  unfold wordsS
  rw [show wsA l [] = cutW l (spansOfP whP (bs l)) from by
    unfold spansOfP
    rw [show (bs l).size = l.length from rfl, h]
    simp [cutW, openPiece]]
  unfold goFieldsP cutW
  rw [List.map_map]
  exact List.map_congr_left fun x _ => bs_extract l x.1 x.2
theorem words_len : ∀ (l cur : List UInt8), (wsA l cur).length ≤ l.length + 1
  | [], cur => by unfold wsA; split <;> simp
  | c :: l, cur => by
    unfold wsA
    split
    · split
      · have := words_len l []; simp; omega
      · have := words_len l []; simp; omega
    · have := words_len l (cur ++ [c]); simp; omega
theorem words_short : ∀ (l cur x : List UInt8), x ∈ wsA l cur → x.length ≤ l.length + cur.length
  | [], cur, x, h => by
    unfold wsA at h
    split at h
    · cases h
    · rw [List.mem_singleton.1 h]; simp
  | c :: l, cur, x, h => by
    unfold wsA at h
    split at h
    · split at h
      · have := words_short l [] x h; simp at this ⊢ <;> omega
      · rcases List.mem_cons.1 h with rfl | h
        · simp <;> omega
        · have := words_short l [] x h; simp at this ⊢ <;> omega
    · have := words_short l (cur ++ [c]) x h
      simp at this ⊢
      omega
end Go.Proofs.YtcbomomlojhghaaDoor
namespace Go.Proofs
set_option linter.unusedSimpArgs false
set_option linter.unusedVariables false
open Go.Shelf
def Tryd.lays229_ren : Go.Shelf.Ren := ⟨fun | 229 => 63 | n => n, fun | 9 => 9 | 40 => 111 | 31 => 73 | 152 => 128 | 3 => 3 | 0 => 0 | 4 => 4 | 21 => 21 | 154 => 130 | n => n, fun | n => n⟩
theorem Tryd.lays229 : Go.Proofs.Lays.n229 Tryd.prog Tryd.lays229_ren := {
  mixed := by kernel_rfl
  f229 := Tryd.func63.trans (congrArg some (by kernel_rfl))
  t0 := Tryd.underlying0
  a0 := Tryd.isAgg0
  z0 := Tryd.sizeOf0
  v0 := Tryd.zeroValue0
  t3 := Tryd.underlying3
  a3 := Tryd.isAgg3
  z3 := Tryd.sizeOf3
  v3 := Tryd.zeroValue3
  t4 := Tryd.underlying4
  a4 := Tryd.isAgg4
  z4 := Tryd.sizeOf4
  v4 := Tryd.zeroValue4
  t9 := Tryd.underlying9
  a9 := Tryd.isAgg9
  z9 := Tryd.sizeOf9
  v9 := Tryd.zeroValue9
  t21 := Tryd.underlying21
  a21 := Tryd.isAgg21
  z21 := Tryd.sizeOf21
  v21 := Tryd.zeroValue21
  t31 := Tryd.underlying73
  a31 := Tryd.isAgg73
  z31 := Tryd.sizeOf73
  v31 := Tryd.zeroValue73
  t40 := Tryd.underlying111
  a40 := Tryd.isAgg111
  z40 := Tryd.sizeOf111
  v40 := Tryd.zeroValue111
  t152 := Tryd.underlying128
  a152 := Tryd.isAgg128
  z152 := Tryd.sizeOf128
  v152 := Tryd.zeroValue128
  t154 := Tryd.underlying130
  a154 := Tryd.isAgg130
  z154 := Tryd.sizeOf130
  v154 := Tryd.zeroValue130 }
open Go.RowKit Go.Lib in
theorem Tryd.strings_FieldsFunc_grows (g : Nat) (lb : Array Value) (eg : ∀ args w, (callFunc g args).run Tryd.prog w = .ok (.enter g args) w) (p : Nat → Bool) (s : ByteArray) (w : World) (hs : s.size ≤ 4294967296) (hp : PredGrows Tryd.prog g lb p w) :
    Calls Tryd.prog 63 #[.string s, .func (.func g) #[] lb] w fun e w' => ∃ A, e = .returned (.slice (some ⟨A, 0, none⟩) (Lib.goFieldsP p s).length (Lib.goFieldsP p s).length) ∧ w.heap.size ≤ A ∧
      w'.ownsRow w.heap.size 9 1 (.slice (some ⟨A, 0, none⟩) (Lib.goFieldsP p s).length (Lib.goFieldsP p s).length) (Lib.goFieldsP p s).length ((Lib.goFieldsP p s).map Value.string) ∧ Below w.heap.size w w' := Any.strings_FieldsFunc_grows Tryd.lays229 g lb eg p s w hs hp (by kernel_rfl) (by kernel_rfl)
end Go.Proofs
namespace Go.Proofs.YtcbomomlojhghaaDoor
set_option linter.unusedSimpArgs false
set_option linter.unusedVariables false
open Go.RowKit
attribute [local go_sem ↓] Go.wp_at_zero Go.wp_at_succ
theorem below_drewN {B : Nat} {a w : World} (h : Below B a w) (n : Nat) : Below B a (w.drewN n) := h.trans ⟨rfl, rfl, rfl, Nat.le_refl _, fun _ _ => rfl⟩
def RetW (w : World) (l : List (List UInt8)) (e : Ending) (w' : World) : Prop := ∃ A c, e = .returned (.slice A l.length c) ∧ Strs w' A c l ∧ Below w.heap.size w w'
set_option maxRecDepth 100000 in
theorem white_any (x : Nat) (hx : x ≤ 1114111) (W : World) : Calls Tryd.prog 64 #[.int .i32 x] W fun e w' => e = .returned (.bool (whP x)) ∧ W = w' := by
  go_enter Tryd.func64, Tryd.ntmps64
  go_wp2
  all_goals go_ret
  all_goals (refine ⟨?_, rfl⟩; go_tidy; simp [whP]; try grind)
theorem whB_dec (c : UInt8) : whB c = (decide (c.toNat = 32) || decide (c.toNat = 9)) := by
  unfold whB
  congr 1
  · rw [Bool.eq_iff_iff]; simp [← UInt8.toNat_inj]
  · rw [Bool.eq_iff_iff]; simp [← UInt8.toNat_inj]
theorem rwhite_any (c : UInt8) (W : World) : Calls Tryd.prog 68 #[.int .u8 c.toNat] W fun e w' => e = .returned (.bool (whB c)) ∧ W = w' := by
  have H := Lib.hid (whB_dec c)
  go_enter Tryd.func68, Tryd.ntmps68
  go_wp2
  all_goals go_ret
  all_goals (refine ⟨?_, rfl⟩; rw [H.out]; go_tidy; first | (simp; done) | (simp; omega) | (go_simp; congr 2; all_goals (rw [Bool.eq_iff_iff]; simp; try omega)) | (simp; rw [Bool.eq_iff_iff]; simp; omega))
theorem flat_strs : ∀ l : List (List UInt8), (l.map fun x => [Value.string (bs x)]).flatten = (l.map bs).map Value.string
  | [] => rfl
  | x :: l => by rw [List.map_cons, List.flatten_cons, flat_strs l]; rfl
theorem own_strs {w' : World} {B : Nat} {A n : Nat} {l : List (List UInt8)} (hn : l.length = n) (h : w'.ownsRow B 9 1 (.slice (some ⟨A, 0, none⟩) n n) n ((l.map bs).map Value.string)) : Own w' B 9 1 RStr (.slice (some ⟨A, 0, none⟩) n n) l := by
  refine ⟨l.map fun x => [.string (bs x)], by simp, fun i cs x h1 h2 => ?_, ?_⟩
  · rw [List.getElem?_map, h2] at h1
    injection h1 with h1
    subst h1
    exact ⟨rfl, rfl⟩
  · rw [flat_strs, hn]
    exact h
set_option maxRecDepth 100000 in
theorem words_any (l : List UInt8) (hl : l.length ≤ 4294967296) (w : World) : Calls Tryd.prog 39 #[.string (bs l)] w (RetW w (wordsS l)) := by
  have HQ := Lib.hid (Tryd.strings_FieldsFunc_grows 64 #[] (enters_of Tryd.func64 (by kernel_rfl) rfl) whP (bs l) w hl (fun W x hx _ => (white_any x hx W).mono fun _ _ h => ⟨h.1, h.2 ▸ Below.refl _ _⟩))
  have hwl := words_len l []
  go_enter Tryd.func39, Tryd.ntmps39
  go_wp2_with fail
  refine HQ.out.mono ?_
  rintro e w1 ⟨A, rfl, hA, ho, hb⟩
  have hn : (Lib.goFieldsP whP (bs l)).length = (wordsS l).length := by rw [fields_words, List.length_map]
  rw [fields_words] at ho
  rw [hn]
  rw [List.length_map] at ho
  obtain ⟨A1, c1, hv, h1⟩ := (own_strs rfl ho).slc (z := 16) (by unfold wordsS; omega)
  have HV := Lib.hid hv
  have H1 := Lib.hid h1
  have HB := Lib.hid hb
  clear ho hn hv h1 hb HQ hwl hA
  go_wp2
  go_ret
  exact ⟨A1, c1, congrArg Ending.returned HV.out, H1.out, HB.out⟩
theorem ws_cut {l p : List UInt8} (hp : p ≠ []) (hl : l = [] ∨ ∃ c r, l = c :: r ∧ whB c = true) : wsA l p = p :: wsA l [] := by
  rcases hl with rfl | ⟨c, r, rfl, hc⟩
  · rw [wsA, wsA, if_neg hp, if_pos rfl]
  · rw [wsA, wsA, if_pos hc, if_pos hc, if_neg hp, if_pos rfl]
theorem ws_white {l : List UInt8} {i : Nat} {c : UInt8} (h : l[i]? = some c) (hc : whB c = true) : wsA (l.drop i) [] = wsA (l.drop (i + 1)) [] := by
  obtain ⟨hi, rfl⟩ := List.getElem?_eq_some_iff.1 h
  rw [List.drop_eq_getElem_cons hi, wsA, if_pos hc, if_pos rfl]
theorem ws_piece {l : List UInt8} {i j : Nat} (hij : i < j) (hj : j ≤ l.length) (hb : ∀ c ∈ (l.drop i).take (j - i), whB c = false) (he : l.length ≤ j ∨ ∃ c, l[j]? = some c ∧ whB c = true) : wsA (l.drop i) [] = (l.drop i).take (j - i) :: wsA (l.drop j) [] := by
  have h1 : l.drop i = (l.drop i).take (j - i) ++ l.drop j := by
    have := List.take_append_drop (j - i) (l.drop i)
    rw [List.drop_drop, show i + (j - i) = j by omega] at this
    exact this.symm
  have h2 : (l.drop i).take (j - i) ≠ [] := fun e => by
    have := congrArg List.length e
    simp at this
    omega
  conv => lhs; rw [h1]
  rw [wsA_run _ _ _ hb, List.nil_append, ws_cut h2]
  rcases he with he | ⟨c, hc, hw⟩
  · exact .inl (List.drop_eq_nil_of_le he)
  · obtain ⟨hj', rfl⟩ := List.getElem?_eq_some_iff.1 hc
    exact .inr ⟨_, _, List.drop_eq_getElem_cons hj', hw⟩
set_option maxRecDepth 100000 in
set_option maxHeartbeats 2000000 in
theorem rwords_any (l : List UInt8) (hl : l.length ≤ 4294967296) (w : World) : Calls Tryd.prog 43 #[.string (bs l)] w (RetW w (wordsS l)) := by
  obtain ⟨G, hG⟩ : ∃ G, G = wordsS l := ⟨_, rfl⟩
  have hgl : G.length ≤ l.length + 1 := by rw [hG]; exact words_len l []
  rw [← hG]
  have HG := Lib.hid hG
  clear hG
  go_enter Tryd.func43, Tryd.ntmps43
  go_wp2
  go_loopw [3, 4] (fun v i wr => ∃ (k : Nat) (acc : List (List UInt8)), k ≤ l.length ∧ i = .int .i64 k ∧ Own wr w.heap.size 9 1 RStr v acc ∧ acc ++ wsA (l.drop k) [] = G ∧ Below w.heap.size w wr) (fun _ i _ => l.length - (intOf i).toNat)
  case atStart => exact ⟨0, [], Nat.zero_le _, rfl, Own.nil_ _ _ _ _ _, HG.out.symm, Below.refl _ _⟩
  case round =>
    obtain ⟨k, acc, hk, rfl, ho, hq, hb⟩ := hrel
    have hal : acc.length ≤ l.length + 1 := by have := congrArg List.length hq; rw [List.length_append] at this; omega
    have HO := Lib.hid ho
    have HQ := Lib.hid hq
    have HB := Lib.hid hb
    clear ho hq hb
    by_cases hlt : k < l.length
    · have HC := Lib.hid (List.getElem?_eq_getElem hlt)
      rcases hw : whB (l[k]'hlt)
      · have HW := Lib.hid hw
        clear hw
        go_wp2_with fail
        refine (rwhite_any _ _).mono ?_
        rintro e w1 ⟨rfl, hw1⟩
        subst hw1
        generalize hb : whB _ = bb
        obtain rfl : bb = false := hb.symm.trans HW.out
        clear hb
        go_wp2
        go_loopw [4] (fun i w2 => ∃ j : Nat, k ≤ j ∧ j ≤ l.length ∧ i = .int .i64 j ∧ (∀ c ∈ (l.drop k).take (j - k), whB c = false) ∧ w2 = wr) (fun i _ => l.length - (intOf i).toNat)
        case atStart => exact ⟨k, Nat.le_refl _, hk, rfl, fun c hc => by simp at hc, rfl⟩
        case round =>
          obtain ⟨j, hkj, hj, rfl, hn, rfl⟩ := hrel
          have HN := Lib.hid hn
          clear hn
          by_cases hjl : j < l.length
          · have hjd : decide ((j : Int) < (l.length : Int)) = true := decide_eq_true (by omega)
            have HD := Lib.hid (List.getElem?_eq_getElem hjl)
            rcases hw2 : whB (l[j]'hjl)
            · have HW2 := Lib.hid hw2
              clear hw2
              go_wp2_with fail
              refine (rwhite_any _ _).mono ?_
              rintro e w1 ⟨rfl, hw1⟩
              subst hw1
              generalize hb : whB _ = bb
              obtain rfl : bb = false := hb.symm.trans HW2.out
              clear hb
              go_wp2
              go_roundw
              case rel => exact ⟨j + 1, by omega, by omega, by simp, fun x hx => (by
                have e1 : (l.drop k).take (j + 1 - k) = (l.drop k).take (j - k) ++ [l[j]'hjl] := by
                  rw [show j + 1 - k = (j - k) + 1 by omega]
                  exact take_step (by rw [List.getElem?_drop, show k + (j - k) = j by omega]; exact HD.out)
                rw [e1, List.mem_append, List.mem_singleton] at hx
                rcases hx with hx | rfl
                · exact HN.out x hx
                · exact HW2.out), by first | rfl | trivial⟩
              case measure => (try simp only [intOf]); omega
            · have HW2 := Lib.hid hw2
              have hne : j ≠ k := fun e => by
                subst e
                exact Bool.noConfusion (HW.out.symm.trans hw2)
              have HP := Lib.hid (ws_piece (l := l) (i := k) (j := j) (by omega) hj HN.out (.inr ⟨_, HD.out, HW2.out⟩))
              clear hw2
              go_wp2_with fail
              refine (rwhite_any _ _).mono ?_
              rintro e w1 ⟨rfl, hw1⟩
              subst hw1
              generalize hb : whB _ = bb
              obtain rfl : bb = true := hb.symm.trans HW2.out
              clear hb
              have hjk : (k : Int) ≤ (j : Int) := by omega
              go_wp2_with (at_builtin; refine wpList_append_el (by rfl) _ _ 73 (by rfl) w.heap.size 9 _ 1 16 Tryd.underlying73 infStr' rfl (by omega) RStr _ acc (by rfl) (HO.out.alloc _) ((l.drop k).take (j - k)) [.string (bs ((l.drop k).take (j - k)))] _ 1 (by rfl) (blk_new1 _ _ _) rfl rfl (by simp [Value.oneCell']) (by omega) (by omega) (by have := HB.out.size; simp; omega) ?_; intro g cap w4 ho4 hg4; have HO4 := Lib.hid ho4; have HB4 := Lib.hid ((HO.out.alloc _).below (below_alloc HB.out _) (by have := HB.out.size; simp; omega) hg4); clear ho4 hg4)
              go_roundw
              case rel => exact ⟨j, _, hj, by first | rfl | trivial, HO4.out, by rw [← HQ.out, HP.out]; simp, HB4.out⟩
              case measure => (try simp only [intOf]); omega
          · obtain rfl : j = l.length := by omega
            have hjd : decide ((l.length : Int) < (l.length : Int)) = false := decide_eq_false (by omega)
            have HP := Lib.hid (ws_piece (l := l) (i := k) (j := l.length) hlt (Nat.le_refl _) HN.out (.inl (Nat.le_refl _)))
            have hjk : (k : Int) ≤ (l.length : Int) := by omega
            obtain ⟨n, hn⟩ : ∃ n, n = l.length := ⟨_, rfl⟩
            go_wp2_with (at_builtin; refine wpList_append_el (by rfl) _ _ 73 (by rfl) w.heap.size 9 _ 1 16 Tryd.underlying73 infStr' rfl (by omega) RStr _ acc (by rfl) (HO.out.alloc _) ((l.drop k).take (l.length - k)) [.string (bs ((l.drop k).take (l.length - k)))] _ 1 (by rfl) (by first | exact blk_new1 _ _ _ | (rw [take_rest]; exact blk_new1 _ _ _)) rfl rfl (by simp [Value.oneCell']) (by omega) (by omega) (by have := HB.out.size; simp; omega) ?_; intro g cap w4 ho4 hg4; have HO4 := Lib.hid ho4; have HB4 := Lib.hid ((HO.out.alloc _).below (below_alloc HB.out _) (by have := HB.out.size; simp; omega) hg4); clear ho4 hg4)
            go_roundw
            case rel => exact ⟨l.length, _, Nat.le_refl _, by first | rfl | trivial, HO4.out, by rw [← HQ.out, HP.out]; simp, HB4.out⟩
            case measure => (try simp only [intOf]); omega
      · have HW := Lib.hid hw
        have HP := Lib.hid (ws_white HC.out hw)
        clear hw
        go_wp2_with fail
        refine (rwhite_any _ _).mono ?_
        rintro e w1 ⟨rfl, hw1⟩
        subst hw1
        generalize hb : whB _ = bb
        obtain rfl : bb = true := hb.symm.trans HW.out
        clear hb
        go_wp2
        go_roundw
        case rel => exact ⟨k + 1, acc, by omega, by simp, HO.out, by rw [← HP.out]; exact HQ.out, HB.out⟩
        case measure => (try simp only [intOf]); omega
    · have hq := HQ.out
      rw [List.drop_eq_nil_of_le (by omega), wsA, if_pos rfl, List.append_nil] at hq
      subst hq
      obtain ⟨A1, c1, rfl, h1⟩ := HO.out.slc (z := 16) (by omega)
      have H1 := Lib.hid h1
      clear h1 HO HQ
      go_wp2
      go_ret
      exact ⟨A1, c1, rfl, H1.out, HB.out⟩
end Go.Proofs.YtcbomomlojhghaaDoor
