/- A long row, forth or back, shut to a ring or not. -/
import Derived.Test.YtodhianmaogfpaaTjJ
namespace Go.Proofs.Ytodhianmaogfpaa
set_option linter.unusedSimpArgs false
set_option linter.unusedVariables false
def chE (bk : Bool) (k : Nat) : List (Int × Int) := (List.range k).map fun (i : Nat) => if bk then ((i : Int) + 1, (i : Int)) else ((i : Int), (i : Int) + 1)
def lonE (n : Nat) (bk rg : Bool) : List (Int × Int) := chE bk (n - 1) ++ if rg then [if bk then (0, (n : Int) - 1) else ((n : Int) - 1, 0)] else []
theorem ch_snoc (bk : Bool) (k : Nat) : chE bk (k + 1) = chE bk k ++ [if bk then ((k : Int) + 1, (k : Int)) else ((k : Int), (k : Int) + 1)] := by
  unfold chE; rw [List.range_succ, List.map_append]; rfl
theorem ch_len (bk : Bool) (k : Nat) : (chE bk k).length = k := by simp [chE]
theorem rch_up {n : Nat} {adj : Nat → List Nat} (h : ∀ i, i + 1 < n → i + 1 ∈ adj i) {a : Nat} : ∀ {b : Nat}, a ≤ b → b < n → Rch adj a b
  | b, hab, hb => by
    induction b with
    | zero => obtain rfl : a = 0 := by omega
              exact .refl _
    | succ b ih =>
      by_cases e : a = b + 1
      · subst e; exact .refl _
      · exact (ih (by omega) (by omega)).trans (.edge (h b hb))
theorem rch_dn {n : Nat} {adj : Nat → List Nat} (h : ∀ i, i + 1 < n → i ∈ adj (i + 1)) {b : Nat} : ∀ {a : Nat}, b ≤ a → a < n → Rch adj a b
  | a, hab, ha => by
    induction a with
    | zero => obtain rfl : b = 0 := by omega
              exact .refl _
    | succ a ih =>
      by_cases e : b = a + 1
      · subst e; exact .refl _
      · exact .step (h a ha) (ih (by omega) (by omega))
theorem rch_rel {adj : Nat → List Nat} {R : Nat → Nat → Prop} (h0 : ∀ u, R u u) (ht : ∀ a b c, R a b → R b c → R a c) (h : ∀ u w, w ∈ adj u → R u w) {a b : Nat} (k : Rch adj a b) : R a b := by
  induction k with
  | refl u => exact h0 u
  | step h1 _ ih => exact ht _ _ _ (h _ _ h1) ih
theorem mem_ch {bk : Bool} {k : Nat} {x : Int × Int} : x ∈ chE bk k ↔ ∃ i, i < k ∧ x = if bk then ((i : Int) + 1, (i : Int)) else ((i : Int), (i : Int) + 1) := by
  unfold chE
  rw [List.mem_map]
  constructor
  · rintro ⟨i, hi, rfl⟩; exact ⟨i, List.mem_range.1 hi, rfl⟩
  · rintro ⟨i, hi, rfl⟩; exact ⟨i, List.mem_range.2 hi, rfl⟩
theorem lon_few {n : Nat} {bk rg : Bool} (hn : n ≤ 2000) : (lonE n bk rg).length ≤ 20000 := by
  unfold lonE
  rw [List.length_append, ch_len]
  cases rg <;> simp <;> omega
theorem lon_adj {n : Nat} {bk rg : Bool} (hn : n ≤ 2000) {a b : Nat} : b ∈ adjE (vE n (lonE n bk rg)) a ↔ ((a : Int), (b : Int)) ∈ lonE n bk rg ∧ a < n ∧ b < n := by
  rw [mem_adj, vE_few (lon_few hn)]; exact mem_inE
theorem lon_step {n : Nat} {bk rg : Bool} (hn : n ≤ 2000) (i : Nat) (hi : i + 1 < n) : if bk then i ∈ adjE (vE n (lonE n bk rg)) (i + 1) else i + 1 ∈ adjE (vE n (lonE n bk rg)) i := by
  cases bk
  · simp only [Bool.false_eq_true, if_false]
    rw [lon_adj hn]
    exact ⟨List.mem_append_left _ (mem_ch.2 ⟨i, by omega, by simp⟩), by omega, by omega⟩
  · simp only [if_true]
    rw [lon_adj hn]
    exact ⟨List.mem_append_left _ (mem_ch.2 ⟨i, by omega, by simp⟩), by omega, by omega⟩
theorem lon_row {n : Nat} {bk : Bool} (hn : n ≤ 2000) {a b : Nat} (ha : a < n) (hb : b < n) : gE n (vE n (lonE n bk false)) a b = true ↔ if bk then b ≤ a else a ≤ b := by
  rw [gE_iff (vE_in n _) ha]
  cases bk
  · simp only [Bool.false_eq_true, if_false]
    constructor
    · refine rch_rel (R := fun a b => a ≤ b) (fun _ => Nat.le_refl _) (fun _ _ _ => Nat.le_trans) fun u w hw => ?_
      rw [lon_adj hn] at hw
      simp only [lonE, Bool.false_eq_true, if_false, List.append_nil] at hw
      obtain ⟨i, _, he⟩ := mem_ch.1 hw.1
      simp at he
      omega
    · intro h
      exact rch_up (fun i hi => by have := lon_step (bk := false) (rg := false) hn i hi; simpa using this) h hb
  · simp only [if_true]
    constructor
    · refine rch_rel (R := fun a b => b ≤ a) (fun _ => Nat.le_refl _) (fun _ _ _ h1 h2 => Nat.le_trans h2 h1) fun u w hw => ?_
      rw [lon_adj hn] at hw
      simp only [lonE, Bool.false_eq_true, if_false, List.append_nil] at hw
      obtain ⟨i, _, he⟩ := mem_ch.1 hw.1
      simp at he
      omega
    · intro h
      exact rch_dn (fun i hi => by have := lon_step (bk := true) (rg := false) hn i hi; simpa using this) h ha
theorem lon_ring {n : Nat} {bk : Bool} (hn : n ≤ 2000) {a b : Nat} (ha : a < n) (hb : b < n) : gE n (vE n (lonE n bk true)) a b = true := by
  rw [gE_iff (vE_in n _) ha]
  cases bk
  · have hup : ∀ i, i + 1 < n → i + 1 ∈ adjE (vE n (lonE n false true)) i := fun i hi => by have := lon_step (bk := false) (rg := true) hn i hi; simpa using this
    have h1 : Rch (adjE (vE n (lonE n false true))) a (n - 1) := rch_up hup (by omega) (by omega)
    have h2 : Rch (adjE (vE n (lonE n false true))) 0 b := rch_up hup (by omega) hb
    have h3 : 0 ∈ adjE (vE n (lonE n false true)) (n - 1) := by
      rw [lon_adj hn]
      refine ⟨List.mem_append_right _ ?_, by omega, by omega⟩
      simp
      omega
    exact h1.trans (.step h3 h2)
  · have hdn : ∀ i, i + 1 < n → i ∈ adjE (vE n (lonE n true true)) (i + 1) := fun i hi => by have := lon_step (bk := true) (rg := true) hn i hi; simpa using this
    have h1 : Rch (adjE (vE n (lonE n true true))) a 0 := rch_dn hdn (by omega) ha
    have h2 : Rch (adjE (vE n (lonE n true true))) (n - 1) b := rch_dn hdn (by omega) (by omega)
    have h3 : n - 1 ∈ adjE (vE n (lonE n true true)) 0 := by
      rw [lon_adj hn]
      refine ⟨List.mem_append_right _ ?_, by omega, by omega⟩
      simp
      omega
    exact h1.trans (.step h3 h2)
theorem filter_one {n i : Nat} {p : Nat → Bool} (hi : i < n) (hp : ∀ j, j < n → (p j = true ↔ j = i)) : (List.range n).filter p = [i] := by
  apply ofN_inj
  apply srt_ext
  · unfold ofN
    rw [List.pairwise_map]
    exact ((range_lt n).filter _).imp fun h => by omega
  · simp [ofN]
  · intro x
    rw [mem_ofN, mem_ofN]
    constructor
    · rintro ⟨k, hk, rfl⟩
      obtain ⟨h1, h2⟩ := List.mem_filter.1 hk
      exact ⟨i, by simp, by rw [(hp k (List.mem_range.1 h1)).1 h2]⟩
    · rintro ⟨k, hk, rfl⟩
      obtain rfl := List.mem_singleton.1 hk
      exact ⟨k, List.mem_filter.2 ⟨List.mem_range.2 hi, (hp k hi).2 rfl⟩, rfl⟩
theorem range_is {n : Nat} {h : List Nat} (hp : h.Pairwise (· < ·)) (hm : ∀ x, x ∈ h ↔ x < n) : h = List.range n := by
  apply ofN_inj
  apply srt_ext
  · unfold ofN
    rw [List.pairwise_map]
    exact hp.imp fun h => by omega
  · unfold ofN
    rw [List.pairwise_map]
    exact (range_lt n).imp fun h => by omega
  · intro x
    rw [mem_ofN, mem_ofN]
    constructor
    · rintro ⟨k, hk, rfl⟩; exact ⟨k, List.mem_range.2 ((hm k).1 hk), rfl⟩
    · rintro ⟨k, hk, rfl⟩; exact ⟨k, (hm k).2 (List.mem_range.1 hk), rfl⟩
theorem flat_one : ∀ h : List Nat, (h.map fun x => [x]).flatten = h
  | [] => rfl
  | a :: h => by rw [List.map_cons, List.flatten_cons, flat_one h]; rfl
theorem rev_range (n : Nat) : (List.range n).reverse = (List.range n).map fun i => n - 1 - i := by
  apply List.ext_getElem (by simp)
  intro i h1 h2
  simp
/-- where each node stands -/
def wantL (n : Nat) (bk : Bool) : List Nat := (List.range n).map fun i => if bk then i else n - 1 - i
theorem long_out {n : Nat} {bk : Bool} (hn : n ≤ 2000) {out : List (List Nat)} (hc : CompsIs n (gE n (vE n (lonE n bk false))) out) : out = (wantL n bk).map fun x => [x] := by
  have hci := hc.ci gE_gr
  have hrow := fun {a b : Nat} (ha : a < n) (hb : b < n) => lon_row (bk := bk) hn ha hb
  generalize gE n (vE n (lonE n bk false)) = G at hci hrow hc
  have hone : ∀ i, i < n → compS n G i = [i] := fun i hi => filter_one hi fun j hj => by
    rw [Bool.and_eq_true, hrow hi hj, hrow hj hi]
    cases bk <;> simp <;> omega
  have hG : ∀ c ∈ out, ∃ i, i < n ∧ c = [i] := fun c hc => by
    obtain ⟨i, hi, rfl⟩ := hci.each c hc
    exact ⟨i, hi, hone i hi⟩
  have hmap : out = (out.map fun c => c.headD 0).map fun x => [x] := by
    rw [List.map_map]
    conv => lhs; rw [← List.map_id out]
    apply List.map_congr_left
    intro c hc
    obtain ⟨i, _, rfl⟩ := hG c hc
    rfl
  obtain ⟨h, hh⟩ : ∃ h, h = out.map fun c => c.headD 0 := ⟨_, rfl⟩
  rw [← hh] at hmap
  have hm : ∀ x, x ∈ h ↔ x < n := fun x => by
    rw [hh, List.mem_map]
    constructor
    · rintro ⟨c, hc, rfl⟩
      obtain ⟨i, hi, rfl⟩ := hG c hc
      exact hi
    · intro hx
      obtain ⟨c, hc, hxc⟩ := hci.all x hx
      obtain ⟨i, hi, rfl⟩ := hG c hc
      obtain rfl := List.mem_singleton.1 hxc
      exact ⟨_, hc, rfl⟩
  have hp : h.Pairwise fun x y => G x y = false := by
    rw [hh, List.pairwise_map]
    refine hci.ord.imp_of_mem fun {a b} ha hb hab => ?_
    obtain ⟨i, hi, rfl⟩ := hG a ha
    obtain ⟨j, hj, rfl⟩ := hG b hb
    exact hab i (by simp) j (by simp)
  rw [hmap]
  congr 1
  cases bk
  · have h1 : h.reverse = List.range n := by
      refine range_is ?_ fun x => by rw [List.mem_reverse]; exact hm x
      rw [List.pairwise_reverse]
      refine hp.imp_of_mem fun {a b} ha hb hab => ?_
      have h2 := (hrow ((hm a).1 ha) ((hm b).1 hb)).2
      simp only [Bool.false_eq_true, if_false] at h2
      apply Classical.byContradiction
      intro hlt
      rw [h2 (by omega)] at hab
      cases hab
    have h3 : h = (List.range n).reverse := by rw [← h1, List.reverse_reverse]
    rw [h3, rev_range]
    simp [wantL]
  · have h1 : h = List.range n := by
      refine range_is ?_ hm
      refine hp.imp_of_mem fun {a b} ha hb hab => ?_
      have h2 := (hrow ((hm a).1 ha) ((hm b).1 hb)).2
      simp only [if_true] at h2
      apply Classical.byContradiction
      intro hlt
      rw [h2 (by omega)] at hab
      cases hab
    rw [h1]
    simp [wantL]
theorem ring_out {n : Nat} {bk : Bool} (hn : n ≤ 2000) (h2 : 2 ≤ n) {out : List (List Nat)} (hc : CompsIs n (gE n (vE n (lonE n bk true))) out) : out = [List.range n] := by
  have hci := hc.ci gE_gr
  have hone : ∀ i, i < n → compS n (gE n (vE n (lonE n bk true))) i = List.range n := fun i hi => by
    unfold compS
    rw [List.filter_eq_self]
    intro j hj
    rw [lon_ring hn hi (List.mem_range.1 hj), lon_ring hn (List.mem_range.1 hj) hi]; rfl
  have hG : ∀ c ∈ out, c = List.range n := fun c hc => by
    obtain ⟨i, hi, rfl⟩ := hci.each c hc
    exact hone i hi
  have hnd := hci.nodup gE_gr
  match out, hG, hnd, hci with
  | [], _, _, hci => obtain ⟨c, hc, _⟩ := hci.all 0 (by omega); cases hc
  | [c], hG, _, _ => rw [hG c (by simp)]
  | c :: d :: r, hG, hnd, _ =>
    exfalso
    have := (List.pairwise_cons.1 hnd).1 d (by simp)
    exact this ((hG c (by simp)).trans (hG d (by simp)).symm)
theorem ring_reach {n : Nat} {bk : Bool} (hn : n ≤ 2000) {f : Nat} (hf : f < n) : reachV n (vE n (lonE n bk true)) f = List.range n := by
  unfold reachV
  rw [if_pos (by omega), List.filter_eq_self]
  intro j hj
  exact lon_ring hn (by omega) (List.mem_range.1 hj)
theorem long_can {n : Nat} {bk : Bool} (hn : n ≤ 2000) {out : List (List Nat)} (hc : CompsIs n (gE n (vE n (lonE n bk false))) out) : canS n (adjE (vE n (lonE n bk false))) out = true := by
  apply can_yes
  · intro v hv
    rw [Bool.eq_false_iff]
    intro h
    rw [List.contains_iff_mem, lon_adj hn] at h
    simp only [lonE, Bool.false_eq_true, if_false, List.append_nil] at h
    obtain ⟨i, _, he⟩ := mem_ch.1 h.1
    cases bk <;> simp at he <;> omega
  · intro c hcm
    rw [long_out hn hc] at hcm
    obtain ⟨x, _, rfl⟩ := List.mem_map.1 hcm
    simp
end Go.Proofs.Ytodhianmaogfpaa
