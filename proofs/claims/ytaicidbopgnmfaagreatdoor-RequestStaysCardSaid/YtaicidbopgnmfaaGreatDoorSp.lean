/- The stable sort, plainly: one element put into a row, a row sorted, two sorted rows put together; how a merge parts; how a row is turned round. Places exchanged, one behind the other; a row turned round: plainly. The insertion sort, as the code goes: plainly it is the stable sort of a stretch. The merge in place, plainly: a place found by halving, one element moved, and how the two halves come together. The merge in place, plainly: where the two rows part. The stable sort by blocks, plainly. -/
import Derived.Lib.Hide
namespace Go.Proofs.YtaicidbopgnmfaaGreatDoor
set_option linter.unusedSimpArgs false
set_option linter.unusedVariables false

/-- y put behind all that are not greater -/
def insR {α : Type} (lt : α → α → Bool) : List α → α → List α
  | [], y => [y]
  | x :: l, y => if lt y x then y :: x :: l else x :: insR lt l y
def mrg {α : Type} (lt : α → α → Bool) (L R : List α) : List α := R.foldl (insR lt) L
def srt {α : Type} (lt : α → α → Bool) (l : List α) : List α := mrg lt [] l
/-- a strict weak order -/
structure SW {α : Type} (lt : α → α → Bool) : Prop where
  asym : ∀ x y, lt x y = true → lt y x = false
  nt : ∀ x y z, lt x z = true → lt x y = true ∨ lt y z = true
/-- rising -/
def Ris {α : Type} (lt : α → α → Bool) (l : List α) : Prop := l.Pairwise fun x y => lt y x = false
section
variable {α : Type} {lt : α → α → Bool}
theorem SW.trans (h : SW lt) {x y z : α} (h1 : lt x y = true) (h2 : lt y z = true) : lt x z = true := by
  rcases h.nt x z y h1 with h3 | h3
  · exact h3
  · rw [h.asym _ _ h2] at h3; cases h3
theorem SW.le_trans (h : SW lt) {x y z : α} (h1 : lt y x = false) (h2 : lt z y = false) : lt z x = false := by
  rcases hz : lt z x
  · rfl
  · rcases h.nt z y x hz with h3 | h3
    · rw [h2] at h3; cases h3
    · rw [h1] at h3; cases h3
theorem SW.irr (h : SW lt) (x : α) : lt x x = false := by
  rcases hx : lt x x
  · rfl
  · have := h.asym _ _ hx
    rw [hx] at this; cases this
theorem insR_yes {l : List α} {x y : α} (h : lt y x = true) : insR lt (x :: l) y = y :: x :: l := by simp [insR, h]
theorem insR_no {l : List α} {x y : α} (h : lt y x = false) : insR lt (x :: l) y = x :: insR lt l y := by simp [insR, h]
theorem insR_right {N : List α} {y : α} (h : ∀ x ∈ N, lt y x = true) : ∀ M : List α, insR lt (M ++ N) y = insR lt M y ++ N
  | [] => by
    rcases N with _ | ⟨x, N⟩
    · rfl
    · simp [insR, h x (by simp)]
  | m :: M => by
    rcases hm : lt y m
    · rw [List.cons_append, insR_no hm, insR_no hm, insR_right h M, List.cons_append]
    · rw [List.cons_append, insR_yes hm, insR_yes hm]; rfl
theorem insR_left {N : List α} {y : α} : ∀ {M : List α}, (∀ x ∈ M, lt y x = false) → insR lt (M ++ N) y = M ++ insR lt N y
  | [], _ => rfl
  | m :: M, h => by rw [List.cons_append, insR_no (h m (by simp)), insR_left (fun x hx => h x (by simp [hx])), List.cons_append]
theorem insR_len {y : α} : ∀ l : List α, (insR lt l y).length = l.length + 1
  | [] => rfl
  | x :: l => by
    rcases hx : lt y x
    · rw [insR_no hx, List.length_cons, insR_len l, List.length_cons]
    · rw [insR_yes hx]; rfl
theorem mem_insR {y z : α} : ∀ {l : List α}, z ∈ insR lt l y ↔ z = y ∨ z ∈ l
  | [] => by simp [insR]
  | x :: l => by
    rcases hx : lt y x
    · rw [insR_no hx, List.mem_cons, mem_insR, List.mem_cons]
      constructor
      · rintro (h | h | h)
        · exact .inr (.inl h)
        · exact .inl h
        · exact .inr (.inr h)
      · rintro (h | h | h)
        · exact .inr (.inl h)
        · exact .inl h
        · exact .inr (.inr h)
    · rw [insR_yes hx, List.mem_cons]
theorem insR_ris (hs : SW lt) {y : α} : ∀ {l : List α}, Ris lt l → Ris lt (insR lt l y)
  | [], _ => by simp [insR, Ris]
  | x :: l, h => by
    have h1 := List.pairwise_cons.1 h
    rcases hx : lt y x
    · rw [insR_no hx]
      refine List.pairwise_cons.2 ⟨fun z hz => ?_, insR_ris hs h1.2⟩
      rcases mem_insR.1 hz with rfl | hz
      · exact hx
      · exact h1.1 z hz
    · rw [insR_yes hx]
      refine List.pairwise_cons.2 ⟨fun z hz => ?_, h⟩
      rcases List.mem_cons.1 hz with rfl | hz
      · exact hs.asym _ _ hx
      · exact hs.le_trans (hs.asym _ _ hx) (h1.1 z hz)
theorem insR_comm (hs : SW lt) {x y : α} (h : lt y x = true) : ∀ S : List α, insR lt (insR lt S x) y = insR lt (insR lt S y) x
  | [] => by simp [insR, h, hs.asym _ _ h]
  | s :: S => by
    rcases hy : lt y s
    · have hx : lt x s = false := by
        rcases hx : lt x s
        · rfl
        · have := hs.trans h hx
          rw [hy] at this; cases this
      rw [insR_no hx, insR_no hy, insR_no hy, insR_no hx, insR_comm hs h S]
    · rw [insR_yes hy, insR_no (hs.asym _ _ h)]
      rcases hx : lt x s
      · rw [insR_no hx, insR_yes hy]
      · rw [insR_yes hx, insR_yes h]
theorem mrg_nil (L : List α) : mrg lt L [] = L := rfl
theorem mrg_cons (L R : List α) (y : α) : mrg lt L (y :: R) = mrg lt (insR lt L y) R := rfl
theorem mrg_snoc (L R : List α) (y : α) : mrg lt L (R ++ [y]) = insR lt (mrg lt L R) y := by simp [mrg]
theorem mrg_app (L R S : List α) : mrg lt L (R ++ S) = mrg lt (mrg lt L R) S := by simp [mrg]
theorem mrg_len : ∀ (R L : List α), (mrg lt L R).length = L.length + R.length
  | [], L => rfl
  | y :: R, L => by rw [mrg_cons, mrg_len R, insR_len, List.length_cons]; omega
theorem srt_len (l : List α) : (srt lt l).length = l.length := by rw [srt, mrg_len]; simp
theorem mem_mrg {z : α} : ∀ {R L : List α}, z ∈ mrg lt L R ↔ z ∈ L ∨ z ∈ R
  | [], L => by simp [mrg_nil]
  | y :: R, L => by
    rw [mrg_cons, mem_mrg, mem_insR, List.mem_cons]
    constructor
    · rintro ((h | h) | h)
      · exact .inr (.inl h)
      · exact .inl h
      · exact .inr (.inr h)
    · rintro (h | h | h)
      · exact .inl (.inr h)
      · exact .inl (.inl h)
      · exact .inr h
theorem mem_srt {z : α} {l : List α} : z ∈ srt lt l ↔ z ∈ l := by rw [srt, mem_mrg]; simp
theorem mrg_ris (hs : SW lt) : ∀ {R L : List α}, Ris lt L → Ris lt (mrg lt L R)
  | [], _, h => h
  | y :: R, L, h => mrg_ris hs (R := R) (L := insR lt L y) (insR_ris hs h)
theorem srt_ris (hs : SW lt) (l : List α) : Ris lt (srt lt l) := mrg_ris hs .nil
theorem insR_mrg (hs : SW lt) {y : α} : ∀ {R : List α}, (∀ m ∈ R, lt y m = true) → ∀ S : List α, mrg lt (insR lt S y) R = insR lt (mrg lt S R) y
  | [], _, _ => rfl
  | m :: R, h, S => by
    rw [mrg_cons, mrg_cons, ← insR_comm hs (h m (by simp)), insR_mrg hs fun z hz => h z (by simp [hz])]
theorem mrg_insR (hs : SW lt) {y : α} : ∀ {M : List α}, Ris lt M → ∀ S : List α, mrg lt S (insR lt M y) = insR lt (mrg lt S M) y
  | [], _, _ => rfl
  | m :: M, h, S => by
    have h1 := List.pairwise_cons.1 h
    rcases hm : lt y m
    · rw [insR_no hm, mrg_cons, mrg_cons, mrg_insR hs h1.2]
    · rw [insR_yes hm, mrg_cons]
      refine insR_mrg hs (fun z hz => ?_) S
      rcases List.mem_cons.1 hz with rfl | hz
      · exact hm
      · rcases hs.nt y z m hm with h2 | h2
        · exact h2
        · rw [h1.1 z hz] at h2; cases h2
theorem mrg_mrg (hs : SW lt) : ∀ (R : List α) {M : List α}, Ris lt M → ∀ S : List α, mrg lt S (mrg lt M R) = mrg lt (mrg lt S M) R
  | [], _, _, _ => rfl
  | y :: R, M, h, S => by rw [mrg_cons, mrg_mrg hs R (insR_ris hs h), mrg_insR hs h, mrg_cons]
/-- two sorted rows put together -/
theorem srt_app (hs : SW lt) (l m : List α) : mrg lt (srt lt l) (srt lt m) = srt lt (l ++ m) := by
  rw [srt, srt, mrg_mrg hs m .nil, mrg_nil, srt, mrg_app]
theorem srt_snoc (l : List α) (y : α) : srt lt (l ++ [y]) = insR lt (srt lt l) y := mrg_snoc _ _ _
/-- a merge parts -/
theorem mrg_right {L2 : List α} : ∀ {R1 : List α}, (∀ y ∈ R1, ∀ x ∈ L2, lt y x = true) → ∀ M : List α, mrg lt (M ++ L2) R1 = mrg lt M R1 ++ L2
  | [], _, _ => rfl
  | y :: R, h, M => by rw [mrg_cons, insR_right (h y (by simp)), mrg_right (fun z hz => h z (by simp [hz])), mrg_cons]
theorem mrg_left {M : List α} : ∀ {R2 : List α}, (∀ y ∈ R2, ∀ x ∈ M, lt y x = false) → ∀ N : List α, mrg lt (M ++ N) R2 = M ++ mrg lt N R2
  | [], _, _ => rfl
  | y :: R, h, N => by rw [mrg_cons, insR_left (h y (by simp)), mrg_left (fun z hz => h z (by simp [hz])), mrg_cons]
theorem mrg_parts {L1 L2 R1 R2 : List α} (h1 : ∀ y ∈ R1, ∀ x ∈ L2, lt y x = true) (h2 : ∀ y ∈ R2, ∀ x ∈ L1, lt y x = false) (h3 : ∀ y ∈ R2, ∀ x ∈ R1, lt y x = false) :
    mrg lt (L1 ++ L2) (R1 ++ R2) = mrg lt L1 R1 ++ mrg lt L2 R2 := by
  rw [mrg_app, mrg_right h1, mrg_left]
  intro y hy x hx
  rcases mem_mrg.1 hx with hx | hx
  · exact h2 y hy x hx
  · exact h3 y hy x hx
/-- what is rising stays as it is -/
theorem mrg_ris_app (hs : SW lt) : ∀ {R L : List α}, Ris lt (L ++ R) → mrg lt L R = L ++ R
  | [], L, _ => by simp [mrg_nil]
  | y :: R, L, h => by
    have h1 := List.pairwise_append.1 h
    rw [mrg_cons]
    have e : insR lt L y = L ++ [y] := by
      have := insR_left (lt := lt) (N := []) (y := y) (M := L) fun x hx => h1.2.2 x hx y (by simp)
      simpa [insR] using this
    rw [e, mrg_ris_app hs (by simpa using h)]
    simp
theorem srt_of_ris (hs : SW lt) {l : List α} (h : Ris lt l) : srt lt l = l := by
  have := mrg_ris_app hs (R := l) (L := []) (by simpa using h)
  simpa [srt] using this
/-- one ahead of a rising row -/
theorem mrg_one (hs : SW lt) {x : α} {R1 R2 : List α} (hR : Ris lt (R1 ++ R2)) (h1 : ∀ y ∈ R1, lt y x = true) (h2 : ∀ y ∈ R2, lt y x = false) : mrg lt [x] (R1 ++ R2) = R1 ++ x :: R2 := by
  have h3 := List.pairwise_append.1 hR
  have e := mrg_parts (lt := lt) (L1 := []) (L2 := [x]) (R1 := R1) (R2 := R2) (fun y hy z hz => by simp at hz; subst hz; exact h1 y hy) (fun y _ z hz => by simp at hz) (fun y hy z hz => h3.2.2 z hz y hy)
  rw [List.nil_append] at e
  rw [e]
  have e1 : mrg lt [] R1 = R1 := srt_of_ris hs h3.1
  have e2 : mrg lt [x] R2 = [x] ++ R2 := mrg_ris_app hs (by
    refine List.pairwise_append.2 ⟨by simp, h3.2.1, fun z hz y hy => ?_⟩
    simp at hz
    subst hz
    exact h2 y hy)
  rw [e1, e2]
  rfl
/-- one behind a rising row -/
theorem insR_parts {y : α} {L1 L2 : List α} (h1 : ∀ x ∈ L1, lt y x = false) (h2 : ∀ x ∈ L2, lt y x = true) : insR lt (L1 ++ L2) y = L1 ++ y :: L2 := by
  rw [insR_left h1]
  have := insR_right (lt := lt) h2 []
  simp only [List.nil_append] at this
  rw [this]
  simp [insR]
end
/-- two places exchanged -/
def swp {α : Type} (l : List α) (i j : Nat) : List α := match l[i]?, l[j]? with
  | some x, some y => (l.set i y).set j x
  | _, _ => l
theorem swp_len {α : Type} (l : List α) (i j : Nat) : (swp l i j).length = l.length := by
  unfold swp
  split <;> simp
theorem swp_at {α : Type} {l : List α} {i j : Nat} {x y : α} (hx : l[i]? = some x) (hy : l[j]? = some y) : swp l i j = (l.set i y).set j x := by rw [swp, hx, hy]
theorem swp_mid {α : Type} (P U V : List α) (x y : α) {i j : Nat} (hi : i = P.length) (hj : j = P.length + 1 + U.length) : swp (P ++ x :: (U ++ y :: V)) i j = P ++ y :: (U ++ x :: V) := by
  subst hi hj
  rw [swp_at (x := x) (y := y) (by simp) (by
    rw [List.getElem?_append_right (by omega), show P.length + 1 + U.length - P.length = U.length + 1 by omega]
    simp)]
  rw [List.set_append_right _ _ (by omega), Nat.sub_self, List.set_cons_zero, List.set_append_right _ _ (by omega), show P.length + 1 + U.length - P.length = U.length + 1 by omega, List.set_cons_succ, List.set_append_right _ _ (by omega), Nat.sub_self, List.set_cons_zero]
theorem swp_mid' {α : Type} (P U V : List α) (x y : α) {i j : Nat} (hi : i = P.length) (hj : j = P.length + 1 + U.length) : swp (P ++ x :: (U ++ y :: V)) j i = P ++ y :: (U ++ x :: V) := by
  subst hi hj
  rw [swp_at (x := y) (y := x) (by
    rw [List.getElem?_append_right (by omega), show P.length + 1 + U.length - P.length = U.length + 1 by omega]
    simp) (by simp)]
  rw [List.set_append_right _ _ (by omega), show P.length + 1 + U.length - P.length = U.length + 1 by omega, List.set_cons_succ, List.set_append_right _ _ (by omega), Nat.sub_self, List.set_cons_zero, List.set_append_right _ _ (by omega), Nat.sub_self, List.set_cons_zero]
end Go.Proofs.YtaicidbopgnmfaaGreatDoor
namespace Go.Proofs.YtaicidbopgnmfaaGreatDoor
set_option linter.unusedSimpArgs false
set_option linter.unusedVariables false

/-- n places from a on exchanged with those from b on -/
def swpN {α : Type} (l : List α) (a b : Nat) : Nat → List α
  | 0 => l
  | n + 1 => swp (swpN l a b n) (a + n) (b + n)
theorem swpN_len {α : Type} (l : List α) (a b : Nat) : ∀ n, (swpN l a b n).length = l.length
  | 0 => rfl
  | n + 1 => by rw [swpN, swp_len, swpN_len l a b n]
theorem swpN_go {α : Type} (P M Q : List α) : ∀ (U V : List α) (n : Nat), n ≤ U.length → U.length = V.length → ∀ {a b : Nat}, a = P.length → b = P.length + U.length + M.length →
    swpN (P ++ U ++ M ++ V ++ Q) a b n = P ++ (V.take n ++ U.drop n) ++ M ++ (U.take n ++ V.drop n) ++ Q
  | U, V, 0, _, _, a, b, _, _ => by simp [swpN]
  | U, V, n + 1, hn, hl, a, b, ha, hb => by
    rw [swpN, swpN_go P M Q U V n (by omega) hl ha hb]
    have hu : U.drop n = U[n] :: U.drop (n + 1) := by rw [List.drop_eq_getElem_cons]
    have hv : V.drop n = V[n] :: V.drop (n + 1) := by rw [List.drop_eq_getElem_cons]
    have e1 : P ++ (V.take n ++ U.drop n) ++ M ++ (U.take n ++ V.drop n) ++ Q = (P ++ V.take n) ++ U[n] :: ((U.drop (n + 1) ++ M ++ U.take n) ++ V[n] :: (V.drop (n + 1) ++ Q)) := by
      rw [hu, hv]; simp only [List.append_assoc, List.cons_append]
    rw [e1, swp_mid _ _ _ _ _ (by simp; omega) (by simp; omega)]
    rw [List.take_succ_eq_append_getElem (by omega : n < U.length), List.take_succ_eq_append_getElem (by omega : n < V.length)]
    simp only [List.append_assoc, List.cons_append, List.nil_append]
theorem swpN_all {α : Type} (P U M V Q : List α) {a b n : Nat} (ha : a = P.length) (hb : b = P.length + U.length + M.length) (h1 : U.length = n) (h2 : V.length = n) : swpN (P ++ U ++ M ++ V ++ Q) a b n = P ++ V ++ M ++ U ++ Q := by
  rw [swpN_go P M Q U V n (by omega) (by omega) ha hb, List.take_of_length_le (by omega), List.take_of_length_le (by omega), List.drop_of_length_le (by omega), List.drop_of_length_le (by omega)]
  simp
end Go.Proofs.YtaicidbopgnmfaaGreatDoor
namespace Go.Proofs.YtaicidbopgnmfaaGreatDoor
set_option linter.unusedSimpArgs false
set_option linter.unusedVariables false
section
variable {α : Type} {lt : α → α → Bool}
/-- from place a + d down to a -/
def insA (lt : α → α → Bool) (a : Nat) : Nat → List α → List α
  | 0, l => l
  | d + 1, l => match l[a + d + 1]?, l[a + d]? with
    | some x, some y => if lt x y then insA lt a d (swp l (a + d + 1) (a + d)) else l
    | _, _ => l
/-- the places from i on, n of them -/
def insO (lt : α → α → Bool) (a : Nat) : Nat → Nat → List α → List α
  | 0, _, l => l
  | n + 1, i, l => insO lt a n (i + 1) (insA lt a (i - a) l)
theorem insA_go {a d : Nat} {l : List α} {x y : α} (hx : l[a + d + 1]? = some x) (hy : l[a + d]? = some y) (h : lt x y = true) : insA lt a (d + 1) l = insA lt a d (swp l (a + d + 1) (a + d)) := by
  rw [insA, hx, hy]
  simp [h]
theorem insA_stop {a d : Nat} {l : List α} {x y : α} (hx : l[a + d + 1]? = some x) (hy : l[a + d]? = some y) (h : lt x y = false) : insA lt a (d + 1) l = l := by
  rw [insA, hx, hy]
  simp [h]
theorem insA_len {a : Nat} : ∀ (d : Nat) (l : List α), (insA lt a d l).length = l.length
  | 0, l => rfl
  | d + 1, l => by
    rw [insA]
    split
    · split
      · rw [insA_len d, swp_len]
      · rfl
    · rfl
theorem insO_len {a : Nat} : ∀ (n i : Nat) (l : List α), (insO lt a n i l).length = l.length
  | 0, _, l => rfl
  | n + 1, i, l => by rw [insO, insO_len n, insA_len]
theorem insA_eq (hs : SW lt) {a : Nat} (X : List α) (hX : X.length = a) (y : α) : ∀ (d : Nat) (S D : List α), S.length = d → Ris lt S → insA lt a d (X ++ S ++ y :: D) = X ++ insR lt S y ++ D
  | 0, S, D, h, _ => by
    have : S = [] := List.eq_nil_of_length_eq_zero h
    subst this
    simp [insA, insR]
  | d + 1, S, D, h, hr => by
    obtain ⟨S', p, rfl⟩ : ∃ S' p, S = S' ++ [p] := ⟨S.dropLast, S.getLast (by intro e; subst e; simp at h), (List.dropLast_concat_getLast _).symm⟩
    have hl : S'.length = d := by simpa using h
    have hr' := List.pairwise_append.1 hr
    have hx : (X ++ (S' ++ [p]) ++ y :: D)[a + d + 1]? = some y := by
      rw [List.getElem?_append_right (by simp; omega)]
      simp [hX, hl]
      rw [show a + d + 1 - (a + (d + 1)) = 0 by omega]
      rfl
    have hy : (X ++ (S' ++ [p]) ++ y :: D)[a + d]? = some p := by
      rw [List.getElem?_append_left (by simp; omega), List.getElem?_append_right (by omega), List.getElem?_append_right (by omega)]
      simp [hX, hl]
    rcases hc : lt y p
    · rw [insA_stop hx hy hc]
      have e := insR_left (lt := lt) (N := []) (y := y) (M := S' ++ [p]) fun z hz => by
        rcases List.mem_append.1 hz with hz | hz
        · exact hs.le_trans (hr'.2.2 z hz p (by simp)) hc
        · simp at hz; subst hz; exact hc
      have e2 : insR lt (S' ++ [p]) y = S' ++ [p] ++ [y] := by simpa [insR] using e
      rw [e2]
      simp
    · rw [insA_go hx hy hc]
      have e : swp (X ++ (S' ++ [p]) ++ y :: D) (a + d + 1) (a + d) = X ++ S' ++ y :: (p :: D) := by
        have := swp_mid' (X ++ S') [] D p y (i := a + d) (j := a + d + 1) (by simp; omega) (by simp; omega)
        simpa using this
      rw [e, insA_eq hs X hX y d S' (p :: D) hl hr'.1, insR_right (N := [p]) (fun z hz => by simp at hz; subst hz; exact hc)]
      simp
theorem insO_eq (hs : SW lt) {a : Nat} (X : List α) (hX : X.length = a) (Y : List α) : ∀ (n : Nat) (S T : List α), T.length = n → Ris lt S → insO lt a n (a + S.length) (X ++ S ++ T ++ Y) = X ++ mrg lt S T ++ Y
  | 0, S, T, h, _ => by
    have : T = [] := List.eq_nil_of_length_eq_zero h
    subst this
    simp [insO, mrg_nil]
  | n + 1, S, T, h, hr => by
    obtain ⟨y, T', rfl⟩ : ∃ y T', T = y :: T' := by
      rcases T with _ | ⟨y, T'⟩
      · simp at h
      · exact ⟨y, T', rfl⟩
    have e : X ++ S ++ y :: T' ++ Y = X ++ S ++ y :: (T' ++ Y) := by simp
    rw [insO, e, show a + S.length - a = S.length by omega, insA_eq hs X hX y S.length S (T' ++ Y) rfl hr]
    have := insO_eq hs X hX Y n (insR lt S y) T' (by simpa using h) (insR_ris hs hr)
    rw [insR_len] at this
    rw [show a + S.length + 1 = a + (S.length + 1) by omega, show X ++ insR lt S y ++ (T' ++ Y) = X ++ insR lt S y ++ T' ++ Y by simp, this]
    rfl
/-- a stretch sorted by insertion -/
theorem insO_srt (hs : SW lt) {a b : Nat} (X M Y : List α) (hX : X.length = a) (hM : a + M.length = b) : insO lt a (b - (a + 1)) (a + 1) (X ++ M ++ Y) = X ++ srt lt M ++ Y := by
  rcases M with _ | ⟨m, M⟩
  · simp at hM
    rw [show b - (a + 1) = 0 by omega]
    simp [insO, srt, mrg_nil]
  · simp at hM
    have := insO_eq hs X hX Y (b - (a + 1)) [m] M (by omega) (by simp [Ris])
    simp only [List.length_cons, List.length_nil, Nat.zero_add] at this
    have e : X ++ m :: M ++ Y = X ++ [m] ++ M ++ Y := by simp
    rw [e, this]
    rfl
/-- a row turned round: U V becomes V U, as the code goes -/
def rotF (l : List α) (m : Nat) : Nat → Nat → Nat → List α
  | 0, _, _ => l
  | f + 1, i, j => if i = j then swpN l (m - i) m i else if j < i then rotF (swpN l (m - i) m j) m f (i - j) j else rotF (swpN l (m - i) (m + j - i) i) m f i (j - i)
theorem rotF_eq {m : Nat} : ∀ (f i j : Nat), i + j < f → 0 < i → 0 < j → ∀ P U V Q : List α, P.length + i = m → U.length = i → V.length = j → rotF (P ++ U ++ V ++ Q) m f i j = P ++ V ++ U ++ Q
  | 0, _, _, h, _, _, _, _, _, _, _, _, _ => by omega
  | f + 1, i, j, h, hi, hj, P, U, V, Q, hP, hU, hV => by
    rw [rotF]
    by_cases hij : i = j
    · rw [if_pos hij]
      have := swpN_all P U [] V Q (a := m - i) (b := m) (n := i) (by omega) (by simp; omega) hU (by omega)
      simpa using this
    · rw [if_neg hij]
      by_cases hlt : j < i
      · rw [if_pos hlt]
        have e1 : U = U.take j ++ U.drop j := (List.take_append_drop j U).symm
        have := swpN_all P (U.take j) (U.drop j) V Q (a := m - i) (b := m) (n := j) (by omega) (by simp; omega) (by simp; omega) hV
        rw [show P ++ U.take j ++ U.drop j ++ V ++ Q = P ++ U ++ V ++ Q by rw [List.append_assoc P, ← e1]] at this
        rw [this]
        have ih := rotF_eq (m := m) f (i - j) j (by omega) (by omega) hj (P ++ V) (U.drop j) (U.take j) Q (by simp; omega) (by simp; omega) (by simp; omega)
        rw [ih, List.append_assoc (P ++ V), ← e1]
      · rw [if_neg hlt]
        have e1 : V = V.take (j - i) ++ V.drop (j - i) := (List.take_append_drop _ V).symm
        have := swpN_all P U (V.take (j - i)) (V.drop (j - i)) Q (a := m - i) (b := m + j - i) (n := i) (by omega) (by simp; omega) hU (by simp; omega)
        rw [show P ++ U ++ V.take (j - i) ++ V.drop (j - i) ++ Q = P ++ U ++ V ++ Q by rw [List.append_assoc (P ++ U), ← e1]] at this
        rw [this]
        have ih := rotF_eq (m := m) f i (j - i) (by omega) hi (by omega) P (V.drop (j - i)) (V.take (j - i)) (U ++ Q) hP (by simp; omega) (by simp; omega)
        rw [show P ++ V.drop (j - i) ++ V.take (j - i) ++ U ++ Q = P ++ V.drop (j - i) ++ V.take (j - i) ++ (U ++ Q) by simp, ih]
        rw [show P ++ V.take (j - i) ++ V.drop (j - i) ++ (U ++ Q) = P ++ (V.take (j - i) ++ V.drop (j - i)) ++ U ++ Q by simp, ← e1]
theorem rotF_same {l : List α} {m f i : Nat} : rotF l m (f + 1) i i = swpN l (m - i) m i := by simp [rotF]
theorem rotF_gt {l : List α} {m f i j : Nat} (h : j < i) : rotF l m (f + 1) i j = rotF (swpN l (m - i) m j) m f (i - j) j := by
  rw [rotF, if_neg (by omega), if_pos h]
theorem rotF_lt {l : List α} {m f i j : Nat} (h : i < j) : rotF l m (f + 1) i j = rotF (swpN l (m - i) (m + j - i) i) m f i (j - i) := by
  rw [rotF, if_neg (by omega), if_neg (by omega)]
theorem rotF_len : ∀ (f : Nat) (l : List α) (m i j : Nat), (rotF l m f i j).length = l.length
  | 0, _, _, _, _ => rfl
  | f + 1, l, m, i, j => by
    rw [rotF]
    split
    · rw [swpN_len]
    · split
      · rw [rotF_len f, swpN_len]
      · rw [rotF_len f, swpN_len]
end
end Go.Proofs.YtaicidbopgnmfaaGreatDoor
namespace Go.Proofs.YtaicidbopgnmfaaGreatDoor
set_option linter.unusedSimpArgs false
set_option linter.unusedVariables false
/-- between lo and hi: ahead of i it holds, from j on it does not, at the edges -/
def Bd (Q : Nat → Bool) (lo hi i j : Nat) : Prop := lo ≤ i ∧ i ≤ j ∧ j ≤ hi ∧ (i = lo ∨ Q (i - 1) = true) ∧ (j = hi ∨ Q j = false)
theorem Bd.start {Q : Nat → Bool} {lo hi : Nat} (h : lo ≤ hi) : Bd Q lo hi lo hi := ⟨Nat.le_refl _, h, Nat.le_refl _, .inl rfl, .inl rfl⟩
theorem Bd.up {Q : Nat → Bool} {lo hi i j h : Nat} (hb : Bd Q lo hi i j) (h1 : i ≤ h) (h2 : h < j) (hq : Q h = true) : Bd Q lo hi (h + 1) j :=
  ⟨by have := hb.1; omega, by omega, hb.2.2.1, .inr (by simpa using hq), hb.2.2.2.2⟩
theorem Bd.down {Q : Nat → Bool} {lo hi i j h : Nat} (hb : Bd Q lo hi i j) (h1 : i ≤ h) (h2 : h < j) (hq : Q h = false) : Bd Q lo hi i h :=
  ⟨hb.1, h1, by have := hb.2.2.1; omega, hb.2.2.2.1, .inr hq⟩
/-- what the halvings ask -/
def bdR {α : Type} (lt : α → α → Bool) (R : List α) (m : Nat) (x : α) (t : Nat) : Bool := match R[t - m]? with | some y => lt y x | none => false
def bdL {α : Type} (lt : α → α → Bool) (L : List α) (a : Nat) (y : α) (t : Nat) : Bool := match L[t - a]? with | some x => !lt y x | none => false
theorem bdR_of {α : Type} {lt : α → α → Bool} {R : List α} {m : Nat} {x y : α} {t : Nat} (h : R[t - m]? = some y) : bdR lt R m x t = lt y x := by simp [bdR, h]
theorem bdL_of {α : Type} {lt : α → α → Bool} {L : List α} {a : Nat} {x y : α} {t : Nat} (h : L[t - a]? = some x) : bdL lt L a y t = !lt y x := by simp [bdL, h]
section
variable {α : Type} {lt : α → α → Bool}
/-- moved n places on -/
def mvR (l : List α) (a : Nat) : Nat → List α
  | 0 => l
  | n + 1 => swp (mvR l a n) (a + n) (a + n + 1)
def mvL (l : List α) (m : Nat) : Nat → List α
  | 0 => l
  | n + 1 => swp (mvL l m n) (m - n) (m - n - 1)
theorem mvR_len (l : List α) (a : Nat) : ∀ n, (mvR l a n).length = l.length
  | 0 => rfl
  | n + 1 => by rw [mvR, swp_len, mvR_len l a n]
theorem mvL_len (l : List α) (a : Nat) : ∀ n, (mvL l a n).length = l.length
  | 0 => rfl
  | n + 1 => by rw [mvL, swp_len, mvL_len l a n]
theorem mvR_eq (X U Y : List α) (x : α) {a : Nat} (ha : X.length = a) : ∀ n, n ≤ U.length → mvR (X ++ x :: (U ++ Y)) a n = X ++ U.take n ++ x :: (U.drop n ++ Y)
  | 0, _ => by simp [mvR]
  | n + 1, hn => by
    rw [mvR, mvR_eq X U Y x ha n (by omega)]
    have hu : U.drop n = U[n] :: U.drop (n + 1) := by rw [List.drop_eq_getElem_cons]
    rw [hu]
    have := swp_mid (X ++ U.take n) [] (U.drop (n + 1) ++ Y) x U[n] (i := a + n) (j := a + n + 1) (by simp; omega) (by simp; omega)
    simp only [List.nil_append] at this
    rw [List.cons_append, this, List.take_succ_eq_append_getElem (by omega : n < U.length)]
    simp only [List.append_assoc, List.cons_append, List.nil_append]
theorem mvL_eq (X U Y : List α) (y : α) {m : Nat} (hm : X.length + U.length = m) : ∀ n, n ≤ U.length → mvL (X ++ U ++ y :: Y) m n = X ++ U.take (U.length - n) ++ y :: (U.drop (U.length - n) ++ Y)
  | 0, _ => by simp [mvL]
  | n + 1, hn => by
    rw [mvL, mvL_eq X U Y y hm n (by omega)]
    obtain ⟨k, hk⟩ : ∃ k, k = U.length - (n + 1) := ⟨_, rfl⟩
    have hk1 : U.length - n = k + 1 := by omega
    have hkl : k < U.length := by omega
    rw [hk1, ← hk, List.take_succ_eq_append_getElem hkl]
    have hu : U.drop k = U[k] :: U.drop (k + 1) := by rw [List.drop_eq_getElem_cons]
    rw [hu]
    have := swp_mid' (X ++ U.take k) [] (U.drop (k + 1) ++ Y) U[k] y (i := m - n - 1) (j := m - n) (by simp; omega) (by simp; omega)
    simp only [List.nil_append] at this
    rw [show X ++ (U.take k ++ [U[k]]) ++ y :: (U.drop (k + 1) ++ Y) = X ++ U.take k ++ U[k] :: (y :: (U.drop (k + 1) ++ Y)) by simp only [List.append_assoc, List.cons_append, List.nil_append], this]
    simp only [List.append_assoc, List.cons_append, List.nil_append]
theorem ris_get {l : List α} (h : Ris lt l) {i j : Nat} {x y : α} (hij : i < j) (hi : l[i]? = some x) (hj : l[j]? = some y) : lt y x = false := by
  obtain ⟨h1, rfl⟩ := List.getElem?_eq_some_iff.1 hi
  obtain ⟨h2, rfl⟩ := List.getElem?_eq_some_iff.1 hj
  exact List.pairwise_iff_getElem.1 h i j h1 h2 hij
theorem ris_take {l : List α} (h : Ris lt l) (n : Nat) : Ris lt (l.take n) := List.Pairwise.sublist (List.take_sublist n l) h
theorem ris_drop {l : List α} (h : Ris lt l) (n : Nat) : Ris lt (l.drop n) := List.Pairwise.sublist (List.drop_sublist n l) h
theorem SW.lt_le (h : SW lt) {x y z : α} (h1 : lt x y = true) (h2 : lt z y = false) : lt x z = true := by
  rcases h.nt x z y h1 with h3 | h3
  · exact h3
  · rw [h2] at h3; cases h3
theorem SW.le_lt (h : SW lt) {x y z : α} (h1 : lt y x = false) (h2 : lt y z = true) : lt x z = true := by
  rcases h.nt y x z h2 with h3 | h3
  · rw [h1] at h3; cases h3
  · exact h3
theorem look_R {X L R Y : List α} {a m t : Nat} (ha : X.length = a) (hm : a + L.length = m) (h1 : m ≤ t) (h2 : t < m + R.length) : (X ++ L ++ R ++ Y)[t]? = R[t - m]? := by
  rw [List.getElem?_append_left (by simp; omega), List.getElem?_append_right (by simp; omega)]
  simp only [List.length_append]
  congr 1
  omega
theorem look_L {X L R Y : List α} {a m t : Nat} (ha : X.length = a) (hm : a + L.length = m) (h1 : a ≤ t) (h2 : t < m) : (X ++ L ++ R ++ Y)[t]? = L[t - a]? := by
  rw [List.getElem?_append_left (by simp; omega), List.getElem?_append_left (by simp; omega), List.getElem?_append_right (by omega), ha]
/-- one ahead: behind all that are less -/
theorem sym_one (hs : SW lt) (X R Y : List α) (x : α) {m b p : Nat} (hm : X.length + 1 = m) (hb : m + R.length = b) (hR : Ris lt R) (hB : Bd (bdR lt R m x) m b p p) :
    mvR (X ++ [x] ++ R ++ Y) (m - 1) (p - m) = X ++ mrg lt [x] R ++ Y := by
  obtain ⟨h1, _, h2, h3, h4⟩ := hB
  have e := mvR_eq X R Y x (a := m - 1) (by omega) (p - m) (by omega)
  rw [show X ++ [x] ++ R ++ Y = X ++ x :: (R ++ Y) by simp, e]
  have hr : R = R.take (p - m) ++ R.drop (p - m) := (List.take_append_drop _ R).symm
  have e2 := mrg_one hs (x := x) (R1 := R.take (p - m)) (R2 := R.drop (p - m)) (by rw [← hr]; exact hR) (fun y hy => by
    obtain ⟨t, ht, rfl⟩ := List.mem_iff_getElem.1 hy
    have htl : t < p - m := by simp at ht; omega
    rcases h3 with h3 | h3
    · omega
    · obtain ⟨z, hz⟩ : ∃ z, R[p - 1 - m]? = some z := ⟨_, List.getElem?_eq_getElem (by omega)⟩
      rw [bdR_of hz] at h3
      simp only [List.getElem_take]
      by_cases htz : t = p - 1 - m
      · subst htz
        obtain ⟨_, rfl⟩ := List.getElem?_eq_some_iff.1 hz
        exact h3
      · exact hs.le_lt (ris_get hR (by omega : t < p - 1 - m) (List.getElem?_eq_getElem (by omega)) hz) h3) (fun y hy => by
    obtain ⟨t, ht, rfl⟩ := List.mem_iff_getElem.1 hy
    simp at ht
    rcases h4 with h4 | h4
    · omega
    · obtain ⟨z, hz⟩ : ∃ z, R[p - m]? = some z := ⟨_, List.getElem?_eq_getElem (by omega)⟩
      rw [bdR_of hz] at h4
      simp only [List.getElem_drop]
      by_cases htz : t = 0
      · subst htz
        obtain ⟨_, rfl⟩ := List.getElem?_eq_some_iff.1 hz
        exact h4
      · exact hs.le_trans h4 (ris_get hR (by omega : p - m < p - m + t) hz (List.getElem?_eq_getElem (by omega))))
  rw [← hr] at e2
  rw [e2]
  simp
/-- one behind: ahead of all that are greater -/
theorem sym_last (hs : SW lt) (X L Y : List α) (y : α) {a m p : Nat} (ha : X.length = a) (hm : a + L.length = m) (hL : Ris lt L) (hB : Bd (bdL lt L a y) a m p p) :
    mvL (X ++ L ++ [y] ++ Y) m (m - p) = X ++ mrg lt L [y] ++ Y := by
  obtain ⟨h1, _, h2, h3, h4⟩ := hB
  have e := mvL_eq X L Y y (m := m) (by omega) (m - p) (by omega)
  rw [show X ++ L ++ [y] ++ Y = X ++ L ++ y :: Y by simp, e, show L.length - (m - p) = p - a by omega]
  have hl : L = L.take (p - a) ++ L.drop (p - a) := (List.take_append_drop _ L).symm
  have e2 := insR_parts (lt := lt) (y := y) (L1 := L.take (p - a)) (L2 := L.drop (p - a)) (fun x hx => by
    obtain ⟨t, ht, rfl⟩ := List.mem_iff_getElem.1 hx
    have htl : t < p - a := by simp at ht; omega
    rcases h3 with h3 | h3
    · omega
    · obtain ⟨z, hz⟩ : ∃ z, L[p - 1 - a]? = some z := ⟨_, List.getElem?_eq_getElem (by omega)⟩
      rw [bdL_of hz] at h3
      simp only [Bool.not_eq_true'] at h3
      simp only [List.getElem_take]
      by_cases htz : t = p - 1 - a
      · subst htz
        obtain ⟨_, rfl⟩ := List.getElem?_eq_some_iff.1 hz
        exact h3
      · exact hs.le_trans (ris_get hL (by omega : t < p - 1 - a) (List.getElem?_eq_getElem (by omega)) hz) h3) (fun x hx => by
    obtain ⟨t, ht, rfl⟩ := List.mem_iff_getElem.1 hx
    simp at ht
    rcases h4 with h4 | h4
    · omega
    · obtain ⟨z, hz⟩ : ∃ z, L[p - a]? = some z := ⟨_, List.getElem?_eq_getElem (by omega)⟩
      rw [bdL_of hz] at h4
      simp only [Bool.not_eq_false'] at h4
      simp only [List.getElem_drop]
      by_cases htz : t = 0
      · subst htz
        obtain ⟨_, rfl⟩ := List.getElem?_eq_some_iff.1 hz
        exact h4
      · exact hs.lt_le h4 (ris_get hL (by omega : p - a < p - a + t) hz (List.getElem?_eq_getElem (by omega))))
  rw [← hl] at e2
  show _ = X ++ insR lt L y ++ Y
  rw [e2]
  simp
/-- the two halves -/
theorem sym_parts (hs : SW lt) {L R : List α} {a m b s e : Nat} (hm : a + L.length = m) (hb : m + R.length = b) (hL : Ris lt L) (hR : Ris lt R) (h1 : a ≤ s) (h2 : s ≤ m) (h3 : m ≤ e) (h4 : e ≤ b)
    (h5 : s = a ∨ e = b ∨ ∃ x y, L[s - 1 - a]? = some x ∧ R[e - m]? = some y ∧ lt y x = false) (h6 : s = m ∨ e = m ∨ ∃ x y, L[s - a]? = some x ∧ R[e - 1 - m]? = some y ∧ lt y x = true) :
    mrg lt L R = mrg lt (L.take (s - a)) (R.take (e - m)) ++ mrg lt (L.drop (s - a)) (R.drop (e - m)) := by
  have hl : L = L.take (s - a) ++ L.drop (s - a) := (List.take_append_drop _ L).symm
  have hr : R = R.take (e - m) ++ R.drop (e - m) := (List.take_append_drop _ R).symm
  have := mrg_parts (lt := lt) (L1 := L.take (s - a)) (L2 := L.drop (s - a)) (R1 := R.take (e - m)) (R2 := R.drop (e - m)) (fun y hy x hx => by
    obtain ⟨t, ht, rfl⟩ := List.mem_iff_getElem.1 hy
    obtain ⟨u, hu, rfl⟩ := List.mem_iff_getElem.1 hx
    simp only [List.length_take, List.length_drop] at ht hu
    rcases h6 with h6 | h6 | ⟨x0, y0, hx0, hy0, hlt⟩
    · omega
    · omega
    · simp only [List.getElem_take, List.getElem_drop]
      have k1 : lt (R[t]'(by omega)) x0 = true := by
        by_cases htz : t = e - 1 - m
        · subst htz
          obtain ⟨_, rfl⟩ := List.getElem?_eq_some_iff.1 hy0
          exact hlt
        · exact hs.le_lt (ris_get hR (by omega : t < e - 1 - m) (List.getElem?_eq_getElem (by omega)) hy0) hlt
      by_cases huz : u = 0
      · subst huz
        obtain ⟨_, rfl⟩ := List.getElem?_eq_some_iff.1 hx0
        exact k1
      · exact hs.lt_le k1 (ris_get hL (by omega : s - a < s - a + u) hx0 (List.getElem?_eq_getElem (by omega)))) (fun y hy x hx => by
    obtain ⟨t, ht, rfl⟩ := List.mem_iff_getElem.1 hy
    obtain ⟨u, hu, rfl⟩ := List.mem_iff_getElem.1 hx
    simp only [List.length_take, List.length_drop] at ht hu
    rcases h5 with h5 | h5 | ⟨x0, y0, hx0, hy0, hlt⟩
    · omega
    · omega
    · simp only [List.getElem_take, List.getElem_drop]
      have k1 : lt y0 (L[u]'(by omega)) = false := by
        by_cases huz : u = s - 1 - a
        · subst huz
          obtain ⟨_, rfl⟩ := List.getElem?_eq_some_iff.1 hx0
          exact hlt
        · exact hs.le_trans (ris_get hL (by omega : u < s - 1 - a) (List.getElem?_eq_getElem (by omega)) hx0) hlt
      by_cases htz : t = 0
      · subst htz
        obtain ⟨_, rfl⟩ := List.getElem?_eq_some_iff.1 hy0
        exact k1
      · exact hs.le_trans k1 (ris_get hR (by omega : e - m < e - m + t) hy0 (List.getElem?_eq_getElem (by omega)))) (fun y hy x hx => by
    rw [hr] at hR
    exact (List.pairwise_append.1 hR).2.2 x hx y hy)
  rw [← hl, ← hr] at this
  exact this
end
end Go.Proofs.YtaicidbopgnmfaaGreatDoor
namespace Go.Proofs.YtaicidbopgnmfaaGreatDoor
set_option linter.unusedSimpArgs false
set_option linter.unusedVariables false
def bdQ {α : Type} (lt : α → α → Bool) (L R : List α) (a m P : Nat) (t : Nat) : Bool := match L[t - a]?, R[P - t - m]? with | some x, some y => !lt y x | _, _ => false
theorem bdQ_of {α : Type} {lt : α → α → Bool} {L R : List α} {a m P : Nat} {x y : α} {t : Nat} (h1 : L[t - a]? = some x) (h2 : R[P - t - m]? = some y) : bdQ lt L R a m P t = !lt y x := by simp [bdQ, h1, h2]
section
variable {α : Type} {lt : α → α → Bool}
/-- P + 1 = M + m; e = M + m - s -/
theorem sym_split (hs : SW lt) {L R : List α} {a m b M P lo hi s e : Nat} (hm : a + L.length = m) (hb : m + R.length = b) (hL : Ris lt L) (hR : Ris lt R) (h0 : 0 < L.length) (h1 : 0 < R.length) (hM1 : 2 * M ≤ a + b) (hM2 : a + b ≤ 2 * M + 1)
    (hP : P + 1 = M + m) (he : e + s = M + m) (hlo : m > M ∧ lo + b = M + m ∧ hi = M ∨ m ≤ M ∧ lo = a ∧ hi = m) (hB : Bd (bdQ lt L R a m P) lo hi s s) :
    a ≤ s ∧ s ≤ m ∧ m ≤ e ∧ e ≤ b ∧ ∃ L1 L2 R1 R2, L = L1 ++ L2 ∧ R = R1 ++ R2 ∧ a + L1.length = s ∧ m + R1.length = e ∧ Ris lt L1 ∧ Ris lt L2 ∧ Ris lt R1 ∧ Ris lt R2 ∧ mrg lt L R = mrg lt L1 R1 ++ mrg lt L2 R2 := by
  obtain ⟨k1, _, k2, k3, k4⟩ := hB
  have q1 : a ≤ s := by omega
  have q2 : s ≤ m := by omega
  have q3 : m ≤ e := by omega
  have q4 : e ≤ b := by omega
  refine ⟨q1, q2, q3, q4, L.take (s - a), L.drop (s - a), R.take (e - m), R.drop (e - m), (List.take_append_drop _ _).symm, (List.take_append_drop _ _).symm, by simp; omega, by simp; omega, ris_take hL _, ris_drop hL _, ris_take hR _, ris_drop hR _, ?_⟩
  refine sym_parts hs hm hb hL hR q1 q2 q3 q4 ?_ ?_
  · rcases k3 with k3 | k3
    · rcases hlo with ⟨_, h2, _⟩ | ⟨_, h2, _⟩
      · exact .inr (.inl (by omega))
      · exact .inl (by omega)
    · by_cases hsl : s = lo
      · rcases hlo with ⟨_, h2, _⟩ | ⟨_, h2, _⟩
        · exact .inr (.inl (by omega))
        · exact .inl (by omega)
      · obtain ⟨x, hx⟩ : ∃ x, L[s - 1 - a]? = some x := ⟨_, List.getElem?_eq_getElem (by omega)⟩
        obtain ⟨y, hy⟩ : ∃ y, R[e - m]? = some y := ⟨_, List.getElem?_eq_getElem (by omega)⟩
        rw [bdQ_of hx (by rw [show P - (s - 1) - m = e - m by omega]; exact hy)] at k3
        exact .inr (.inr ⟨x, y, hx, hy, by simpa using k3⟩)
  · rcases k4 with k4 | k4
    · rcases hlo with ⟨_, _, h2⟩ | ⟨_, _, h2⟩
      · exact .inr (.inl (by omega))
      · exact .inl (by omega)
    · by_cases hsl : s = hi
      · rcases hlo with ⟨_, _, h2⟩ | ⟨_, _, h2⟩
        · exact .inr (.inl (by omega))
        · exact .inl (by omega)
      · obtain ⟨x, hx⟩ : ∃ x, L[s - a]? = some x := ⟨_, List.getElem?_eq_getElem (by omega)⟩
        obtain ⟨y, hy⟩ : ∃ y, R[e - 1 - m]? = some y := ⟨_, List.getElem?_eq_getElem (by omega)⟩
        rw [bdQ_of hx (by rw [show P - s - m = e - 1 - m by omega]; exact hy)] at k4
        exact .inr (.inr ⟨x, y, hx, hy, by simpa using k4⟩)
theorem mrg_nil_left (hs : SW lt) {R : List α} (h : Ris lt R) : mrg lt [] R = R := srt_of_ris hs h
end
end Go.Proofs.YtaicidbopgnmfaaGreatDoor
namespace Go.Proofs.YtaicidbopgnmfaaGreatDoor
set_option linter.unusedSimpArgs false
set_option linter.unusedVariables false
/-- blocks of s places, each sorted; the last may be shorter -/
inductive BlkP {α : Type} (lt : α → α → Bool) (s : Nat) : List α → List α → Prop
  | nil : BlkP lt s [] []
  | last (l : List α) : l.length ≤ s → BlkP lt s l (srt lt l)
  | cons (l m q : List α) : l.length = s → BlkP lt s m q → BlkP lt s (l ++ m) (srt lt l ++ q)
/-- full blocks -/
inductive PreP {α : Type} (lt : α → α → Bool) (s : Nat) : List α → List α → Prop
  | nil : PreP lt s [] []
  | snoc (A B l : List α) : PreP lt s A B → l.length = s → PreP lt s (A ++ l) (B ++ srt lt l)
section
variable {α : Type} {lt : α → α → Bool} {s : Nat}
theorem PreP.app {A B : List α} (h : PreP lt s A B) : ∀ {D E : List α}, BlkP lt s D E → BlkP lt s (A ++ D) (B ++ E) := by
  induction h with
  | nil => intro D E h; exact h
  | snoc A B l h hl ih =>
    intro D E hd
    rw [List.append_assoc, List.append_assoc]
    exact ih (.cons _ _ _ hl hd)
theorem PreP.len {A B : List α} (h : PreP lt s A B) : B.length = A.length := by
  induction h with
  | nil => rfl
  | snoc A B l h hl ih => rw [List.length_append, List.length_append, srt_len, ih]
theorem BlkP.len {D E : List α} (h : BlkP lt s D E) : E.length = D.length := by
  induction h with
  | nil => rfl
  | last l hl => rw [srt_len]
  | cons l m q hl h ih => rw [List.length_append, List.length_append, srt_len, ih]
theorem BlkP.one {D E : List α} (h : BlkP lt s D E) (hs : 0 < s) (hl : s ≤ D.length) : ∃ l D' E', D = l ++ D' ∧ E = srt lt l ++ E' ∧ l.length = s ∧ BlkP lt s D' E' := by
  cases h with
  | nil => simp at hl; omega
  | last _ h => exact ⟨D, [], [], by simp, by simp, by omega, .nil⟩
  | cons l m q h hm => exact ⟨l, m, q, rfl, rfl, h, hm⟩
theorem BlkP.two {D E : List α} (h : BlkP lt s D E) (hs : 0 < s) (hl : 2 * s ≤ D.length) : ∃ l m D' E', D = l ++ m ++ D' ∧ E = srt lt l ++ srt lt m ++ E' ∧ l.length = s ∧ m.length = s ∧ BlkP lt s D' E' := by
  obtain ⟨l, D1, E1, rfl, rfl, h1, h2⟩ := h.one hs (by omega)
  rw [List.length_append] at hl
  obtain ⟨m, D2, E2, rfl, rfl, h3, h4⟩ := h2.one hs (by omega)
  exact ⟨l, m, D2, E2, by simp, by simp, h1, h3, h4⟩
theorem BlkP.short {D E : List α} (h : BlkP lt s D E) (hl : D.length ≤ s) (hs : 0 < s) : E = srt lt D := by
  cases h with
  | nil => rfl
  | last _ h => rfl
  | cons l m q h hm =>
    rw [List.length_append] at hl
    have : m = [] := List.eq_nil_of_length_eq_zero (by omega)
    subst this
    have : q = [] := List.eq_nil_of_length_eq_zero (by rw [hm.len]; rfl)
    subst this
    simp
theorem BlkP.rest {D E : List α} (h : BlkP lt s D E) (hs : 0 < s) (hl : D.length < 2 * s) (hl2 : s < D.length) : ∃ l m, D = l ++ m ∧ E = srt lt l ++ srt lt m ∧ l.length = s ∧ 0 < m.length ∧ m.length < s := by
  obtain ⟨l, m, q, rfl, rfl, h1, h2⟩ := h.one hs (by omega)
  rw [List.length_append] at hl hl2
  exact ⟨l, m, rfl, by rw [h2.short (by omega) hs], h1, by omega, by omega⟩
end
end Go.Proofs.YtaicidbopgnmfaaGreatDoor
