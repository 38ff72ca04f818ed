/- A region that draws its order, walked once an operation: a relation of what is listed, the frame and the world that each operation that may come up keeps. -/
import Derived.RegionTactic
import Derived.Deep.RegionHeld3
namespace Go.Proofs.YtcbomomlojhghaaDoor
set_option linter.unusedSimpArgs false
set_option linter.unusedVariables false

def mis (listed : Array Bool) : Nat := listed.toList.countP fun b => !b
theorem mis_set {listed : Array Bool} {i : Nat} (h : listed.getD i true = false) : mis listed = mis (listed.setIfInBounds i true) + 1 := by
  obtain ⟨l⟩ := listed
  have hi : i < l.length := by
    rcases Nat.lt_or_ge i l.length with h1 | h1
    · exact h1
    · simp [h1] at h
  have hl : l[i] = false := by simpa [hi] using h
  unfold mis
  simp only [List.setIfInBounds_toArray]
  clear h
  induction l generalizing i with
  | nil => simp at hi
  | cons b l ih =>
    cases i with
    | zero =>
      have : b = false := hl
      subst this
      simp
    | succ i =>
      have := ih (i := i) (by simpa using hi) (by simpa using hl)
      simp only [List.set_cons_succ, List.countP_cons]
      omega
section
variable {P : Program} {ops : Array Oper} {Q : Exit → Act → World → Prop} {md : Region.Mode} {J : Array Bool → Act → World → Prop}
theorem wpAny_inv (hs : ∀ listed a w, J listed a w → (∀ f, wpAny P md ops Q (f + mis listed) listed a w) ∨ (Region.ready md ops listed ≠ [] ∧ ∀ i ∈ Region.ready md ops listed, wpOp P ops Q i (J (listed.setIfInBounds i true)) a w)) :
    ∀ listed a w, J listed a w → ∀ f, wpAny P md ops Q (f + mis listed) listed a w := by
  have key : ∀ m listed a w, mis listed ≤ m → J listed a w → ∀ f, wpAny P md ops Q (f + mis listed) listed a w := by
    intro m
    induction m with
    | zero =>
      intro listed a w hm hJ f
      rcases hs listed a w hJ with h | ⟨h1, _⟩
      · exact h f
      · obtain ⟨i, hi⟩ := List.exists_mem_of_ne_nil _ h1
        have := mis_set (mem_ready.1 hi).1
        omega
    | succ m ih =>
      intro listed a w hm hJ f
      rcases hs listed a w hJ with h | ⟨h1, h2⟩
      · exact h f
      · obtain ⟨i0, hi0⟩ := List.exists_mem_of_ne_nil _ h1
        have h0 := mis_set (mem_ready.1 hi0).1
        rw [h0]
        refine ⟨fun h => absurd h h1, fun i hi => ?_⟩
        have h3 := mis_set (mem_ready.1 hi).1
        refine wpOp_mono (fun a' w' hJ' => ?_) (h2 i hi)
        have h4 := ih (listed.setIfInBounds i true) a' w' (by omega) hJ' f
        rw [show mis (listed.setIfInBounds i0 true) = mis (listed.setIfInBounds i true) from by omega]
        exact h4
  exact fun listed a w hJ f => key _ listed a w (Nat.le_refl _) hJ f
/-- where nothing may come up, all is listed: each operation waits for earlier ones alone -/
theorem ready_all (hb : (List.range ops.size).all (fun j => match ops[j]? with | some o => o.after.all (fun e => !Region.binds md e || decide (e.on < j)) | none => true) = true) {listed : Array Bool} (hr : Region.ready md ops listed = []) : ∀ i, i < ops.size → listed.getD i true = true := by
  intro i
  induction i using Nat.strongRecOn with
  | _ i ih =>
    intro hi
    rcases h : listed.getD i true
    · exfalso
      have ho : ops[i]? = some ops[i] := Array.getElem?_eq_getElem hi
      have h1 := List.all_eq_true.1 hb i (List.mem_range.2 hi)
      simp only [ho] at h1
      have hm : i ∈ Region.ready md ops listed := mem_ready.2 ⟨h, _, ho, fun e he hbe => by
        have h2 := Array.all_eq_true_iff_forall_mem.1 h1 e he
        have h3 : e.on < i := by simpa [hbe] using h2
        have h4 := ih e.on h3 (by omega)
        have hlt : e.on < listed.size := by
          have hil : i < listed.size := by
            rcases Nat.lt_or_ge i listed.size with h5 | h5
            · exact h5
            · simp [h5] at h
          omega
        simpa [hlt] using h4⟩
      rw [hr] at hm
      cases hm
    · rfl
/-- an operation that yields its value in whatever world, taken first: the operations written out -/
theorem take_l {l : List Oper} {i : Nat} {oi : Oper} {v : Value} {fuel : Nat} {listed : Array Bool} {a : Act} {w : World} (hi : l[i]? = some oi)
    (hs : Region.noSelect l.toArray = true) (hf : Region.free md l.toArray listed i = true) (hr : (Region.ready md l.toArray listed).contains i = true)
    (hQ : ∀ c a w, Q (.panic c) (a.put oi.dst v) w → Q (.panic c) a w) (hy : Yields P l.toArray oi v a)
    (h : wpAny P md l.toArray Q fuel (listed.setIfInBounds i true) (a.put oi.dst v) w) : wpAny P md l.toArray Q (fuel + 1) listed a w :=
  wpAny_take (by simpa using hi) hs hf hr hQ hy h
/-- one operation that may come up -/
theorem step_l {l : List Oper} {i : Nat} {o : Oper} {K : Act → World → Prop} {a : Act} {w : World} (ho : l[i]? = some o)
    (h : ∀ K' : Act → World → Prop, (∀ a w, K a w → K' a w) → if Region.wanted o (yielded l.toArray a.tmps) = true then Oper.wp P o a w K' Q else K' (a.put o.dst undef) w) : wpOp P l.toArray Q i K a w :=
  wpOp_step (by simpa using ho) h
theorem region_l {l : List Oper} {id n : Nat} {listed : Array Bool} {a : Act} {w : World} (hm : P.follows .mixedOrders = true) (hn : l.length = n) (hl : Array.replicate n false = listed)
    (h : wpAny P .any l.toArray Q n listed a w.drew) : (Code.region id l.toArray true).wp P Q a w := by
  subst hl hn
  exact wp_region_any hm (by simpa using h)
/-- what an operation that may come up has waited for -/
theorem dep_l {l : List Oper} {i k : Nat} {o : Oper} {listed : Array Bool} (hi : i ∈ Region.ready md l.toArray listed) (ho : l[i]? = some o) (hk : (o.after.any fun e => Region.binds md e && e.on == k) = true) : listed.getD k false = true := by
  obtain ⟨_, o', ho', hd⟩ := mem_ready.1 hi
  obtain rfl : o = o' := by rw [List.getElem?_toArray, ho] at ho'; exact Option.some.inj ho'
  obtain ⟨e, he, hb⟩ := Array.any_eq_true'.1 hk
  simp only [Bool.and_eq_true, beq_iff_eq] at hb
  have := hd e he hb.1
  rwa [hb.2] at this
theorem lt_l {l : List Oper} {i n : Nat} {listed : Array Bool} (hn : l.length = n) (hi : i ∈ Region.ready md l.toArray listed) : i < n := by
  obtain ⟨_, o', ho', _⟩ := mem_ready.1 hi
  have := (Array.getElem?_eq_some_iff.1 ho').1
  simpa [hn] using this
theorem own_l {i : Nat} {listed : Array Bool} (hi : i ∈ Region.ready md ops listed) : listed.getD i true = false := (mem_ready.1 hi).1
theorem inv_l {n : Nat} {listed : Array Bool} {a : Act} {w : World} (hJ : J listed a w) (hn : mis listed = n)
    (hs : ∀ listed a w, J listed a w → (∀ f, wpAny P md ops Q (f + mis listed) listed a w) ∨ (Region.ready md ops listed ≠ [] ∧ ∀ i ∈ Region.ready md ops listed, wpOp P ops Q i (J (listed.setIfInBounds i true)) a w)) : wpAny P md ops Q n listed a w := by
  have := wpAny_inv hs listed a w hJ 0
  rwa [hn, Nat.zero_add] at this
end
end Go.Proofs.YtcbomomlojhghaaDoor
