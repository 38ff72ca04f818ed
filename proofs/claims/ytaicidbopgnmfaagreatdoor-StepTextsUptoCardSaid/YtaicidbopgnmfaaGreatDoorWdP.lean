/- Words between white space: plainly, by bytes and by runes. -/
import Derived.Test.YtaicidbopgnmfaaGreatDoorVb
import Derived.Lib.FieldsP
import Derived.Lib.SpaceUEq
namespace Go.Proofs.YtaicidbopgnmfaaGreatDoor
set_option linter.unusedSimpArgs false
set_option linter.unusedVariables false
open Go.Lib
def whB (c : UInt8) : Bool := c == 32 || c == 9
def whP (x : Nat) : Bool := x == 32 || x == 9
def wsA : List UInt8 → List UInt8 → List (List UInt8)
  | [], cur => if cur = [] then [] else [cur]
  | c :: l, cur => if whB c then (if cur = [] then wsA l [] else cur :: wsA l []) else wsA l (cur ++ [c])
def wordsS (l : List UInt8) : List (List UInt8) := wsA l []
theorem wsA_run : ∀ (u v cur : List UInt8), (∀ c ∈ u, whB c = false) → wsA (u ++ v) cur = wsA v (cur ++ u)
  | [], v, cur, _ => by simp
  | c :: u, v, cur, h => by
    have h0 : whB c = false := h c (by simp)
    rw [List.cons_append, wsA, if_neg (by simp [h0]), wsA_run u v (cur ++ [c]) fun d hd => h d (by simp [hd]), List.append_assoc, List.singleton_append]
theorem whB_lt {c : UInt8} (h : whB c = true) : c.toNat < 128 ∧ whP c.toNat = true := by
  unfold whB at h
  simp only [Bool.or_eq_true, beq_iff_eq] at h
  rcases h with rfl | rfl <;> exact ⟨by decide, by decide⟩
theorem whB_of {c : UInt8} (h : whP c.toNat = true) : whB c = true := by
  unfold whP at h
  simp only [Bool.or_eq_true, beq_iff_eq] at h
  unfold whB
  simp only [Bool.or_eq_true, beq_iff_eq]
  rcases h with h | h
  · exact .inl (UInt8.toNat_inj.1 h)
  · exact .inr (UInt8.toNat_inj.1 h)
theorem whB_high {c : UInt8} (h : 128 ≤ c.toNat) : whB c = false := by
  rcases hc : whB c
  · rfl
  · have := (whB_lt hc).1; omega
theorem whP_small {x : Nat} (h : 128 ≤ x) : whP x = false := by
  unfold whP
  simp only [Bool.or_eq_false_iff, beq_eq_false_iff_ne]
  omega
theorem decode_bs (l : List UInt8) (pos : Nat) : Utf8.decode (bs l) pos = decodeN (l.length - pos) (l.getD pos 0).toNat (l.getD (pos + 1) 0).toNat (l.getD (pos + 2) 0).toNat (l.getD (pos + 3) 0).toNat := decode_N (bs l) pos
theorem dec_white {l : List UInt8} {pos : Nat} {c : UInt8} {rest : List UInt8} (hd : l.drop pos = c :: rest) (h : whP (Utf8.decode (bs l) pos).1 = true) : whB c = true ∧ (Utf8.decode (bs l) pos).2 = 1 := by
  have hc : l.getD pos 0 = c := by
    have := congrArg (fun x => x[0]?) hd
    simp only [List.getElem?_drop, Nat.add_zero, List.getElem?_cons_zero] at this
    simp [List.getD, this]
  rw [decode_bs] at h ⊢
  rw [hc] at h ⊢
  have hcs := decodeN_cases (l.length - pos) c.toNat (l.getD (pos + 1) 0).toNat (l.getD (pos + 2) 0).toNat (l.getD (pos + 3) 0).toNat
  rcases hcs with ⟨h1, h2⟩ | ⟨_, _, _, h1, h2⟩ | ⟨_, _, _, _, h1, h2⟩ | ⟨h1, _⟩ | h2
  · rw [h2] at h ⊢
    exact ⟨whB_of h, rfl⟩
  · rw [h2, whP_small h1] at h; cases h
  · rw [h2, whP_small (by omega)] at h; cases h
  · rw [whP_small (by omega)] at h; cases h
  · rw [h2, whP_small (by omega)] at h; cases h
theorem dec_black {l : List UInt8} {pos : Nat} (hp : pos < l.length) (h : whP (Utf8.decode (bs l) pos).1 = false) : ∀ c ∈ (l.drop pos).take (Utf8.decode (bs l) pos).2, whB c = false := by
  intro c hc
  obtain ⟨j, hj⟩ := List.getElem?_of_mem hc
  rw [List.getElem?_take] at hj
  split at hj
  · rename_i hjn
    rw [List.getElem?_drop] at hj
    have hg : l.getD (pos + j) 0 = c := by simp [List.getD, hj]
    rw [decode_bs] at h hjn
    have hcont := decodeN_conts (l.length - pos) (l.getD pos 0).toNat (l.getD (pos + 1) 0).toNat (l.getD (pos + 2) 0).toNat (l.getD (pos + 3) 0).toNat
    obtain ⟨h1, h2, h3, h4⟩ := hcont
    obtain rfl | rfl | rfl | rfl : j = 0 ∨ j = 1 ∨ j = 2 ∨ j = 3 := by omega
    · rcases hb : whB c
      · rfl
      · obtain ⟨k1, k2⟩ := whB_lt hb
        rw [Nat.add_zero] at hg
        rw [hg, decodeN_ascii _ _ _ _ _ k1, k2] at h
        cases h
    · have := (h1 (by omega)).1
      rw [hg] at this
      exact whB_high (by omega)
    · have := (h2 (by omega)).1
      rw [hg] at this
      exact whB_high (by omega)
    · have := (h3 (by omega)).1
      rw [hg] at this
      exact whB_high (by omega)
  · cases hj
theorem dec_le {l : List UInt8} {pos : Nat} (hp : pos < l.length) : 1 ≤ (Utf8.decode (bs l) pos).2 ∧ pos + (Utf8.decode (bs l) pos).2 ≤ l.length := by
  refine ⟨width_pos _ _, ?_⟩
  rw [decode_bs]
  have := decodeN_le_n' (l.length - pos) (l.getD pos 0).toNat (l.getD (pos + 1) 0).toNat (l.getD (pos + 2) 0).toNat (l.getD (pos + 3) 0).toNat (by omega)
  omega
/-- the pieces so far, and those of what is left -/
def cutW (l : List UInt8) (acc : List (Nat × Nat)) : List (List UInt8) := acc.map fun x => pieceU l x.1 x.2
theorem cutW_snoc (l : List UInt8) (acc : List (Nat × Nat)) (a b : Nat) : cutW l (acc ++ [(a, b)]) = cutW l acc ++ [pieceU l a b] := by simp [cutW]
theorem spans_words (l : List UInt8) : ∀ (f pos : Nat) (st : Option Nat) (acc : List (Nat × Nat)), pos ≤ l.length → l.length ≤ pos + f → (∀ a, st = some a → a < pos) →
    cutW l (closeSpans (bs l) (spansFromP whP (bs l) f pos st acc)) = cutW l acc ++ wsA (l.drop pos) (openPiece l st pos) := by
  intro f
  induction f with
  | zero =>
    intro pos st acc hp hf hst
    obtain rfl : pos = l.length := by omega
    rw [spansFromP_end _ _ _ _ _ _ (by rw [bs_size]; omega), List.drop_length]
    rcases st with _ | a
    · simp [closeSpans, openPiece, wsA]
    · have hne : openPiece l (some a) l.length ≠ [] := pieceU_ne l a _ (hst a rfl) (Nat.le_refl _)
      rw [wsA, if_neg hne]
      exact cutW_snoc l acc a l.length
  | succ f ih =>
    intro pos st acc hp hf hst
    by_cases hlt : pos < l.length
    · obtain ⟨h1, h2⟩ := dec_le hlt
      have hdr : l.drop pos = l[pos] :: l.drop (pos + 1) := List.drop_eq_getElem_cons hlt
      unfold spansFromP
      rw [if_pos (show pos < (bs l).size from hlt)]
      rcases hw : whP (Utf8.decode (bs l) pos).1
      · have hrun := wsA_run ((l.drop pos).take (Utf8.decode (bs l) pos).2) ((l.drop pos).drop (Utf8.decode (bs l) pos).2) (openPiece l st pos) (dec_black hlt hw)
        rw [List.take_append_drop, List.drop_drop] at hrun
        rw [hrun]
        rcases st with _ | a
        · simp only [Bool.false_eq_true, if_false]
          rw [ih _ _ _ h2 (by omega) (fun a h => by injection h with h; omega)]
          congr 2
          show pieceU l pos (pos + (Utf8.decode (bs l) pos).2) = [] ++ _
          unfold pieceU
          rw [List.nil_append, Nat.add_sub_cancel_left]
        · simp only [Bool.false_eq_true, if_false]
          have := hst a rfl
          rw [ih _ _ _ h2 (by omega) (fun a' h => by injection h with h; omega)]
          congr 2
          exact (pieceU_grow l a pos _ (by omega)).symm
      · obtain ⟨hb, hn⟩ := dec_white hdr hw
        rw [hn] at h2 ⊢
        rw [hdr, wsA, if_pos hb]
        rcases st with _ | a
        · simp only [if_true]
          rw [ih _ _ _ h2 (by omega) (fun a h => by cases h)]
          rfl
        · simp only [if_true]
          have hne : openPiece l (some a) pos ≠ [] := pieceU_ne l a _ (hst a rfl) hp
          rw [ih _ _ _ h2 (by omega) (fun a h => by cases h), if_neg hne, cutW_snoc, List.append_assoc]
          rfl
    · obtain rfl : pos = l.length := by omega
      rw [spansFromP_end _ _ _ _ _ _ (by rw [bs_size]; omega), List.drop_length]
      rcases st with _ | a
      · simp [closeSpans, openPiece, wsA]
      · have hne : openPiece l (some a) l.length ≠ [] := pieceU_ne l a _ (hst a rfl) (Nat.le_refl _)
        rw [wsA, if_neg hne]
        exact cutW_snoc l acc a l.length
theorem fields_words (l : List UInt8) : goFieldsP whP (bs l) = (wordsS l).map bs := by
  have h := spans_words l l.length 0 none [] (Nat.zero_le _) (by omega) (fun a h => by cases h)
  unfold wordsS
  rw [show wsA l [] = cutW l (spansOfP whP (bs l)) from by
    unfold spansOfP
    rw [show (bs l).size = l.length from rfl, h]
    simp [cutW, openPiece]]
  unfold goFieldsP cutW
  rw [List.map_map]
  exact List.map_congr_left fun x _ => bs_extract l x.1 x.2
theorem words_len : ∀ (l cur : List UInt8), (wsA l cur).length ≤ l.length + 1
  | [], cur => by unfold wsA; split <;> simp
  | c :: l, cur => by
    unfold wsA
    split
    · split
      · have := words_len l []; simp; omega
      · have := words_len l []; simp; omega
    · have := words_len l (cur ++ [c]); simp; omega
theorem words_short : ∀ (l cur x : List UInt8), x ∈ wsA l cur → x.length ≤ l.length + cur.length
  | [], cur, x, h => by
    unfold wsA at h
    split at h
    · cases h
    · rw [List.mem_singleton.1 h]; simp
  | c :: l, cur, x, h => by
    unfold wsA at h
    split at h
    · split at h
      · have := words_short l [] x h; simp at this ⊢ <;> omega
      · rcases List.mem_cons.1 h with rfl | h
        · simp <;> omega
        · have := words_short l [] x h; simp at this ⊢ <;> omega
    · have := words_short l (cur ++ [c]) x h
      simp at this ⊢
      omega
end Go.Proofs.YtaicidbopgnmfaaGreatDoor
