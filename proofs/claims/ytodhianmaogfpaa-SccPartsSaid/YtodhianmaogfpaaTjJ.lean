/- There are components; when there is an order. -/
import Derived.Test.YtodhianmaogfpaaScO
namespace Go.Proofs.Ytodhianmaogfpaa
set_option linter.unusedSimpArgs false
set_option linter.unusedVariables false
theorem comps_ex {n : Nat} {G : Nat → Nat → Bool} (hG : Gr n G) : ∃ out, CompsIs n G out := by
  apply Classical.byContradiction
  intro hne
  have hs : ∀ k, ∃ i, nextS n G (outK n G k).1 = some i := fun k => by
    cases h : nextS n G (outK n G k).1 with
    | none => exact absurd ⟨_, k, h, rfl⟩ hne
    | some i => exact ⟨i, rfl⟩
  have hl : ∀ k, (outK n G k).2.length = k := by
    intro k
    induction k with
    | zero => rfl
    | succ k ih =>
      obtain ⟨i, hi⟩ := hs k
      rw [outK_some hi]
      simp [ih]
  obtain ⟨_, h2, h3⟩ := outK_ci hG (n + 1)
  have hnd : (outK n G (n + 1)).2.Pairwise (· ≠ ·) := by
    refine h3.imp_of_mem fun {a b} ha _ hab he => ?_
    obtain ⟨i, hi, rfl⟩ := h2 a ha
    subst he
    have hm : i ∈ compS n G i := mem_comp.2 ⟨hi, hG.rf i hi, hG.rf i hi⟩
    have := hab i hm i hm
    rw [hG.rf i hi] at this
    cases this
  have := len_sub (m := (List.range n).map (compS n G)) hnd fun c hc => by
    obtain ⟨i, hi, rfl⟩ := h2 c hc
    exact List.mem_map.2 ⟨i, List.mem_range.2 hi, rfl⟩
  rw [hl] at this
  simp at this
  omega
/-- no edge leads back, as the edges say -/
def canP (n : Nat) (G : Nat → Nat → Bool) (l : List (Int × Int)) : Bool := l.all fun e => !(okE n e && G e.2.toNat e.1.toNat)
theorem canP_snoc (n : Nat) (G : Nat → Nat → Bool) (l : List (Int × Int)) (e : Int × Int) : canP n G (l ++ [e]) = (canP n G l && !(okE n e && G e.2.toNat e.1.toNat)) := by simp [canP]
theorem two_mem {l : List Nat} {a b : Nat} (ha : a ∈ l) (hb : b ∈ l) (hne : a ≠ b) : 1 < l.length := by
  match l, ha, hb with
  | [x], ha, hb => rw [List.mem_singleton.1 ha, List.mem_singleton.1 hb] at hne; exact absurd rfl hne
  | _ :: _ :: _, _, _ => simp
theorem rch_first {adj : Nat → List Nat} {a b : Nat} (h : Rch adj a b) (hne : a ≠ b) : ∃ w, w ∈ adj a ∧ Rch adj w b := by
  cases h with
  | refl => exact absurd rfl hne
  | step h k => exact ⟨_, h, k⟩
theorem can_eq {n : Nat} {l : List (Int × Int)} (hl : l.length ≤ 20000) {out : List (List Nat)} (hc : CompsIs n (gE n (vE n l)) out) : canS n (adjE (vE n l)) out = canP n (gE n (vE n l)) l := by
  have hci := hc.ci gE_gr
  have hE := vE_in n l
  have hmem : ∀ {a b : Nat}, (a, b) ∈ vE n l ↔ ((a : Int), (b : Int)) ∈ l ∧ a < n ∧ b < n := fun {a b} => by rw [vE_few hl]; exact mem_inE
  rw [Bool.eq_iff_iff]
  constructor
  · intro h
    unfold canS at h
    rw [Bool.and_eq_true, List.all_eq_true, List.all_eq_true] at h
    obtain ⟨h1, h2⟩ := h
    unfold canP
    rw [List.all_eq_true]
    rintro ⟨a, b⟩ he
    cases hok : okE n (a, b) with
    | false => rfl
    | true =>
      simp only [okE, Bool.and_eq_true, decide_eq_true_eq] at hok
      cases hg : gE n (vE n l) b.toNat a.toNat with
      | false => rfl
      | true =>
        exfalso
        have hab : (a.toNat, b.toNat) ∈ vE n l := hmem.2 ⟨by rw [show ((a.toNat : Int)) = a by omega, show ((b.toNat : Int)) = b by omega]; exact he, by omega, by omega⟩
        have hg2 : gE n (vE n l) a.toNat b.toNat = true := (gE_iff hE (by omega)).2 (.edge (mem_adj.2 hab))
        by_cases hne : a.toNat = b.toNat
        · have h3 := h1 a.toNat (List.mem_range.2 (by omega))
          have h4 : (adjE (vE n l) a.toNat).contains a.toNat = true := by
            rw [List.contains_iff_mem, mem_adj]
            rw [← hne] at hab
            exact hab
          rw [h4] at h3
          cases h3
        · have h3 := h2 _ (hci.mem gE_gr (i := a.toNat) (by omega))
          have h4 := two_mem (l := compS n (gE n (vE n l)) a.toNat) (mem_comp.2 ⟨by omega, gE_gr.rf _ (by omega), gE_gr.rf _ (by omega)⟩) (mem_comp.2 ⟨by omega, hg2, hg⟩) hne
          simp at h3
          omega
  · intro h
    unfold canP at h
    rw [List.all_eq_true] at h
    have hback : ∀ a b, (a, b) ∈ vE n l → gE n (vE n l) b a = true → False := fun a b hab hg => by
      obtain ⟨h1, h2, h3⟩ := hmem.1 hab
      have h4 := h _ h1
      have h5 : okE n ((a : Int), (b : Int)) = true := by simp only [okE, Bool.and_eq_true, decide_eq_true_eq]; omega
      rw [h5] at h4
      simp [hg] at h4
    apply can_yes
    · intro v hv
      rw [Bool.eq_false_iff]
      intro h1
      rw [List.contains_iff_mem, mem_adj] at h1
      exact hback v v h1 (gE_gr.rf v hv)
    · intro c hc'
      obtain ⟨i, hi, rfl⟩ := hci.each c hc'
      apply Classical.byContradiction
      intro hlen
      have hone : ∀ j ∈ compS n (gE n (vE n l)) i, j = i := fun j hj => by
        apply Classical.byContradiction
        intro hne
        obtain ⟨h1, h2, h3⟩ := mem_comp.1 hj
        obtain ⟨w, hw, hwj⟩ := rch_first ((gE_iff hE hi).1 h2) (fun e => hne e.symm)
        have hwn := adj_lt hE _ _ hw
        have := hwj.trans ((gE_iff hE h1).1 h3)
        exact hback i w (mem_adj.1 hw) ((gE_iff hE hwn).2 this)
      have hnd : (compS n (gE n (vE n l)) i).Pairwise (· ≠ ·) := ((range_lt n).filter _).imp fun h => by omega
      have := len_sub (m := [i]) hnd fun x hx => by rw [hone x hx]; simp
      simp at this
      omega
theorem flat_lenB {b : Nat} : ∀ {m : List (List Nat)}, (∀ c ∈ m, c.length ≤ b) → m.flatten.length ≤ m.length * b
  | [], _ => by simp
  | c :: m, h => by
    have h1 := h c (List.mem_cons_self ..)
    have h2 := flat_lenB (m := m) fun c hc => h c (List.mem_cons_of_mem _ hc)
    simp only [List.flatten_cons, List.length_append, List.length_cons, Nat.succ_mul]
    omega
theorem comp_len (n : Nat) (G : Nat → Nat → Bool) (i : Nat) : (compS n G i).length ≤ n := by
  unfold compS
  have := List.length_filter_le (fun j => G i j && G j i) (List.range n)
  simpa using this
theorem CI.lens {n : Nat} {G : Nat → Nat → Bool} {out : List (List Nat)} (h : CI n G out) : ∀ c ∈ out, c.length ≤ n := fun c hc => by
  obtain ⟨i, _, rfl⟩ := h.each c hc
  exact comp_len n G i
end Go.Proofs.Ytodhianmaogfpaa
