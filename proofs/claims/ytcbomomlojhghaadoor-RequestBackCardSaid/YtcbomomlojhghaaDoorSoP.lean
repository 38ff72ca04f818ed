/- The stable sort, plainly: one element put into a row, a row sorted, two sorted rows put together; how a merge parts; how a row is turned round. -/
import Derived.Lib.Hide
namespace Go.Proofs.YtcbomomlojhghaaDoor
set_option linter.unusedSimpArgs false
set_option linter.unusedVariables false

/-- y put behind all that are not greater -/
def insR {α : Type} (lt : α → α → Bool) : List α → α → List α
  | [], y => [y]
  | x :: l, y => if lt y x then y :: x :: l else x :: insR lt l y
def mrg {α : Type} (lt : α → α → Bool) (L R : List α) : List α := R.foldl (insR lt) L
def srt {α : Type} (lt : α → α → Bool) (l : List α) : List α := mrg lt [] l
/-- a strict weak order -/
structure SW {α : Type} (lt : α → α → Bool) : Prop where
  asym : ∀ x y, lt x y = true → lt y x = false
  nt : ∀ x y z, lt x z = true → lt x y = true ∨ lt y z = true
/-- rising -/
def Ris {α : Type} (lt : α → α → Bool) (l : List α) : Prop := l.Pairwise fun x y => lt y x = false
section
variable {α : Type} {lt : α → α → Bool}
theorem SW.trans (h : SW lt) {x y z : α} (h1 : lt x y = true) (h2 : lt y z = true) : lt x z = true := by
  rcases h.nt x z y h1 with h3 | h3
  · exact h3
  · rw [h.asym _ _ h2] at h3; cases h3
theorem SW.le_trans (h : SW lt) {x y z : α} (h1 : lt y x = false) (h2 : lt z y = false) : lt z x = false := by
  rcases hz : lt z x
  · rfl
  · rcases h.nt z y x hz with h3 | h3
    · rw [h2] at h3; cases h3
    · rw [h1] at h3; cases h3
theorem SW.irr (h : SW lt) (x : α) : lt x x = false := by
  rcases hx : lt x x
  · rfl
  · have := h.asym _ _ hx
    rw [hx] at this; cases this
theorem insR_yes {l : List α} {x y : α} (h : lt y x = true) : insR lt (x :: l) y = y :: x :: l := by simp [insR, h]
theorem insR_no {l : List α} {x y : α} (h : lt y x = false) : insR lt (x :: l) y = x :: insR lt l y := by simp [insR, h]
theorem insR_right {N : List α} {y : α} (h : ∀ x ∈ N, lt y x = true) : ∀ M : List α, insR lt (M ++ N) y = insR lt M y ++ N
  | [] => by
    rcases N with _ | ⟨x, N⟩
    · rfl
    · simp [insR, h x (by simp)]
  | m :: M => by
    rcases hm : lt y m
    · rw [List.cons_append, insR_no hm, insR_no hm, insR_right h M, List.cons_append]
    · rw [List.cons_append, insR_yes hm, insR_yes hm]; rfl
theorem insR_left {N : List α} {y : α} : ∀ {M : List α}, (∀ x ∈ M, lt y x = false) → insR lt (M ++ N) y = M ++ insR lt N y
  | [], _ => rfl
  | m :: M, h => by rw [List.cons_append, insR_no (h m (by simp)), insR_left (fun x hx => h x (by simp [hx])), List.cons_append]
theorem insR_len {y : α} : ∀ l : List α, (insR lt l y).length = l.length + 1
  | [] => rfl
  | x :: l => by
    rcases hx : lt y x
    · rw [insR_no hx, List.length_cons, insR_len l, List.length_cons]
    · rw [insR_yes hx]; rfl
theorem mem_insR {y z : α} : ∀ {l : List α}, z ∈ insR lt l y ↔ z = y ∨ z ∈ l
  | [] => by simp [insR]
  | x :: l => by
    rcases hx : lt y x
    · rw [insR_no hx, List.mem_cons, mem_insR, List.mem_cons]
      constructor
      · rintro (h | h | h)
        · exact .inr (.inl h)
        · exact .inl h
        · exact .inr (.inr h)
      · rintro (h | h | h)
        · exact .inr (.inl h)
        · exact .inl h
        · exact .inr (.inr h)
    · rw [insR_yes hx, List.mem_cons]
theorem insR_ris (hs : SW lt) {y : α} : ∀ {l : List α}, Ris lt l → Ris lt (insR lt l y)
  | [], _ => by simp [insR, Ris]
  | x :: l, h => by
    have h1 := List.pairwise_cons.1 h
    rcases hx : lt y x
    · rw [insR_no hx]
      refine List.pairwise_cons.2 ⟨fun z hz => ?_, insR_ris hs h1.2⟩
      rcases mem_insR.1 hz with rfl | hz
      · exact hx
      · exact h1.1 z hz
    · rw [insR_yes hx]
      refine List.pairwise_cons.2 ⟨fun z hz => ?_, h⟩
      rcases List.mem_cons.1 hz with rfl | hz
      · exact hs.asym _ _ hx
      · exact hs.le_trans (hs.asym _ _ hx) (h1.1 z hz)
theorem insR_comm (hs : SW lt) {x y : α} (h : lt y x = true) : ∀ S : List α, insR lt (insR lt S x) y = insR lt (insR lt S y) x
  | [] => by simp [insR, h, hs.asym _ _ h]
  | s :: S => by
    rcases hy : lt y s
    · have hx : lt x s = false := by
        rcases hx : lt x s
        · rfl
        · have := hs.trans h hx
          rw [hy] at this; cases this
      rw [insR_no hx, insR_no hy, insR_no hy, insR_no hx, insR_comm hs h S]
    · rw [insR_yes hy, insR_no (hs.asym _ _ h)]
      rcases hx : lt x s
      · rw [insR_no hx, insR_yes hy]
      · rw [insR_yes hx, insR_yes h]
theorem mrg_nil (L : List α) : mrg lt L [] = L := rfl
theorem mrg_cons (L R : List α) (y : α) : mrg lt L (y :: R) = mrg lt (insR lt L y) R := rfl
theorem mrg_snoc (L R : List α) (y : α) : mrg lt L (R ++ [y]) = insR lt (mrg lt L R) y := by simp [mrg]
theorem mrg_app (L R S : List α) : mrg lt L (R ++ S) = mrg lt (mrg lt L R) S := by simp [mrg]
theorem mrg_len : ∀ (R L : List α), (mrg lt L R).length = L.length + R.length
  | [], L => rfl
  | y :: R, L => by rw [mrg_cons, mrg_len R, insR_len, List.length_cons]; omega
theorem srt_len (l : List α) : (srt lt l).length = l.length := by rw [srt, mrg_len]; simp
theorem mem_mrg {z : α} : ∀ {R L : List α}, z ∈ mrg lt L R ↔ z ∈ L ∨ z ∈ R
  | [], L => by simp [mrg_nil]
  | y :: R, L => by
    rw [mrg_cons, mem_mrg, mem_insR, List.mem_cons]
    constructor
    · rintro ((h | h) | h)
      · exact .inr (.inl h)
      · exact .inl h
      · exact .inr (.inr h)
    · rintro (h | h | h)
      · exact .inl (.inr h)
      · exact .inl (.inl h)
      · exact .inr h
theorem mem_srt {z : α} {l : List α} : z ∈ srt lt l ↔ z ∈ l := by rw [srt, mem_mrg]; simp
theorem mrg_ris (hs : SW lt) : ∀ {R L : List α}, Ris lt L → Ris lt (mrg lt L R)
  | [], _, h => h
  | y :: R, L, h => mrg_ris hs (R := R) (L := insR lt L y) (insR_ris hs h)
theorem srt_ris (hs : SW lt) (l : List α) : Ris lt (srt lt l) := mrg_ris hs .nil
theorem insR_mrg (hs : SW lt) {y : α} : ∀ {R : List α}, (∀ m ∈ R, lt y m = true) → ∀ S : List α, mrg lt (insR lt S y) R = insR lt (mrg lt S R) y
  | [], _, _ => rfl
  | m :: R, h, S => by
    rw [mrg_cons, mrg_cons, ← insR_comm hs (h m (by simp)), insR_mrg hs fun z hz => h z (by simp [hz])]
theorem mrg_insR (hs : SW lt) {y : α} : ∀ {M : List α}, Ris lt M → ∀ S : List α, mrg lt S (insR lt M y) = insR lt (mrg lt S M) y
  | [], _, _ => rfl
  | m :: M, h, S => by
    have h1 := List.pairwise_cons.1 h
    rcases hm : lt y m
    · rw [insR_no hm, mrg_cons, mrg_cons, mrg_insR hs h1.2]
    · rw [insR_yes hm, mrg_cons]
      refine insR_mrg hs (fun z hz => ?_) S
      rcases List.mem_cons.1 hz with rfl | hz
      · exact hm
      · rcases hs.nt y z m hm with h2 | h2
        · exact h2
        · rw [h1.1 z hz] at h2; cases h2
theorem mrg_mrg (hs : SW lt) : ∀ (R : List α) {M : List α}, Ris lt M → ∀ S : List α, mrg lt S (mrg lt M R) = mrg lt (mrg lt S M) R
  | [], _, _, _ => rfl
  | y :: R, M, h, S => by rw [mrg_cons, mrg_mrg hs R (insR_ris hs h), mrg_insR hs h, mrg_cons]
/-- two sorted rows put together -/
theorem srt_app (hs : SW lt) (l m : List α) : mrg lt (srt lt l) (srt lt m) = srt lt (l ++ m) := by
  rw [srt, srt, mrg_mrg hs m .nil, mrg_nil, srt, mrg_app]
theorem srt_snoc (l : List α) (y : α) : srt lt (l ++ [y]) = insR lt (srt lt l) y := mrg_snoc _ _ _
/-- a merge parts -/
theorem mrg_right {L2 : List α} : ∀ {R1 : List α}, (∀ y ∈ R1, ∀ x ∈ L2, lt y x = true) → ∀ M : List α, mrg lt (M ++ L2) R1 = mrg lt M R1 ++ L2
  | [], _, _ => rfl
  | y :: R, h, M => by rw [mrg_cons, insR_right (h y (by simp)), mrg_right (fun z hz => h z (by simp [hz])), mrg_cons]
theorem mrg_left {M : List α} : ∀ {R2 : List α}, (∀ y ∈ R2, ∀ x ∈ M, lt y x = false) → ∀ N : List α, mrg lt (M ++ N) R2 = M ++ mrg lt N R2
  | [], _, _ => rfl
  | y :: R, h, N => by rw [mrg_cons, insR_left (h y (by simp)), mrg_left (fun z hz => h z (by simp [hz])), mrg_cons]
theorem mrg_parts {L1 L2 R1 R2 : List α} (h1 : ∀ y ∈ R1, ∀ x ∈ L2, lt y x = true) (h2 : ∀ y ∈ R2, ∀ x ∈ L1, lt y x = false) (h3 : ∀ y ∈ R2, ∀ x ∈ R1, lt y x = false) :
    mrg lt (L1 ++ L2) (R1 ++ R2) = mrg lt L1 R1 ++ mrg lt L2 R2 := by
  rw [mrg_app, mrg_right h1, mrg_left]
  intro y hy x hx
  rcases mem_mrg.1 hx with hx | hx
  · exact h2 y hy x hx
  · exact h3 y hy x hx
/-- what is rising stays as it is -/
theorem mrg_ris_app (hs : SW lt) : ∀ {R L : List α}, Ris lt (L ++ R) → mrg lt L R = L ++ R
  | [], L, _ => by simp [mrg_nil]
  | y :: R, L, h => by
    have h1 := List.pairwise_append.1 h
    rw [mrg_cons]
    have e : insR lt L y = L ++ [y] := by
      have := insR_left (lt := lt) (N := []) (y := y) (M := L) fun x hx => h1.2.2 x hx y (by simp)
      simpa [insR] using this
    rw [e, mrg_ris_app hs (by simpa using h)]
    simp
theorem srt_of_ris (hs : SW lt) {l : List α} (h : Ris lt l) : srt lt l = l := by
  have := mrg_ris_app hs (R := l) (L := []) (by simpa using h)
  simpa [srt] using this
/-- one ahead of a rising row -/
theorem mrg_one (hs : SW lt) {x : α} {R1 R2 : List α} (hR : Ris lt (R1 ++ R2)) (h1 : ∀ y ∈ R1, lt y x = true) (h2 : ∀ y ∈ R2, lt y x = false) : mrg lt [x] (R1 ++ R2) = R1 ++ x :: R2 := by
  have h3 := List.pairwise_append.1 hR
  have e := mrg_parts (lt := lt) (L1 := []) (L2 := [x]) (R1 := R1) (R2 := R2) (fun y hy z hz => by simp at hz; subst hz; exact h1 y hy) (fun y _ z hz => by simp at hz) (fun y hy z hz => h3.2.2 z hz y hy)
  rw [List.nil_append] at e
  rw [e]
  have e1 : mrg lt [] R1 = R1 := srt_of_ris hs h3.1
  have e2 : mrg lt [x] R2 = [x] ++ R2 := mrg_ris_app hs (by
    refine List.pairwise_append.2 ⟨by simp, h3.2.1, fun z hz y hy => ?_⟩
    simp at hz
    subst hz
    exact h2 y hy)
  rw [e1, e2]
  rfl
/-- one behind a rising row -/
theorem insR_parts {y : α} {L1 L2 : List α} (h1 : ∀ x ∈ L1, lt y x = false) (h2 : ∀ x ∈ L2, lt y x = true) : insR lt (L1 ++ L2) y = L1 ++ y :: L2 := by
  rw [insR_left h1]
  have := insR_right (lt := lt) h2 []
  simp only [List.nil_append] at this
  rw [this]
  simp [insR]
end
/-- two places exchanged -/
def swp {α : Type} (l : List α) (i j : Nat) : List α := match l[i]?, l[j]? with
  | some x, some y => (l.set i y).set j x
  | _, _ => l
theorem swp_len {α : Type} (l : List α) (i j : Nat) : (swp l i j).length = l.length := by
  unfold swp
  split <;> simp
theorem swp_at {α : Type} {l : List α} {i j : Nat} {x y : α} (hx : l[i]? = some x) (hy : l[j]? = some y) : swp l i j = (l.set i y).set j x := by rw [swp, hx, hy]
theorem swp_mid {α : Type} (P U V : List α) (x y : α) {i j : Nat} (hi : i = P.length) (hj : j = P.length + 1 + U.length) : swp (P ++ x :: (U ++ y :: V)) i j = P ++ y :: (U ++ x :: V) := by
  subst hi hj
  rw [swp_at (x := x) (y := y) (by simp) (by
    rw [List.getElem?_append_right (by omega), show P.length + 1 + U.length - P.length = U.length + 1 by omega]
    simp)]
  rw [List.set_append_right _ _ (by omega), Nat.sub_self, List.set_cons_zero, List.set_append_right _ _ (by omega), show P.length + 1 + U.length - P.length = U.length + 1 by omega, List.set_cons_succ, List.set_append_right _ _ (by omega), Nat.sub_self, List.set_cons_zero]
theorem swp_mid' {α : Type} (P U V : List α) (x y : α) {i j : Nat} (hi : i = P.length) (hj : j = P.length + 1 + U.length) : swp (P ++ x :: (U ++ y :: V)) j i = P ++ y :: (U ++ x :: V) := by
  subst hi hj
  rw [swp_at (x := y) (y := x) (by
    rw [List.getElem?_append_right (by omega), show P.length + 1 + U.length - P.length = U.length + 1 by omega]
    simp) (by simp)]
  rw [List.set_append_right _ _ (by omega), show P.length + 1 + U.length - P.length = U.length + 1 by omega, List.set_cons_succ, List.set_append_right _ _ (by omega), Nat.sub_self, List.set_cons_zero, List.set_append_right _ _ (by omega), Nat.sub_self, List.set_cons_zero]
end Go.Proofs.YtcbomomlojhghaaDoor
