/- A region that draws its order: what it loads is taken first, under a condition on the world that each operation ahead of the late ones keeps; what is left goes in the orders that are left. -/
import Derived.Test.YtodhianmaogfpaaJn
namespace Go.Proofs.Ytodhianmaogfpaa
set_option linter.unusedSimpArgs false
set_option linter.unusedVariables false
section
variable {P : Program} {ops : Array Oper} {Q : Exit → Act → World → Prop} {md : Region.Mode} {C : World → Prop} {E : Nat → Bool}
/-- every order, the condition kept by the early operations -/
def wpAnyC (P : Program) (md : Region.Mode) (ops : Array Oper) (Q : Exit → Act → World → Prop) (C : World → Prop) (E : Nat → Bool) : Nat → Array Bool → Act → World → Prop
  | 0, listed, a, w => Region.ready md ops listed = [] ∧ Q .normal a w
  | fuel + 1, listed, a, w =>
    (Region.ready md ops listed = [] → Q .normal a w) ∧
    ∀ i ∈ Region.ready md ops listed, wpOp P ops Q i (fun a' w' => (E i = true → C w') ∧ wpAnyC P md ops Q C E fuel (listed.setIfInBounds i true) a' w') a w
theorem wpAnyC.any : ∀ {fuel : Nat} {listed : Array Bool} {a : Act} {w : World}, wpAnyC P md ops Q C E fuel listed a w → wpAny P md ops Q fuel listed a w
  | 0, _, _, _, h => h
  | _ + 1, _, _, _, h => ⟨h.1, fun i hi => wpOp_mono (fun _ _ hk => wpAnyC.any hk.2) (h.2 i hi)⟩
/-- operation o gives v in every world of the condition -/
def Gives (P : Program) (ops : Array Oper) (C : World → Prop) (o : Oper) (v : Value) (a : Act) : Prop :=
  (Region.wanted o (yielded ops a.tmps) = true ∧ ∀ w, C w → (execOp a.eval o).run P w = .ok (.value v) w) ∨ (Region.wanted o (yielded ops a.tmps) = false ∧ v = undef)
theorem Gives.of_same {o : Oper} {v : Value} {a a' : Act} (hy : Gives P ops C o v a) (he : execOp a'.eval o = execOp a.eval o)
    (hw : Region.wanted o (yielded ops a'.tmps) = Region.wanted o (yielded ops a.tmps)) : Gives P ops C o v a' := by
  unfold Gives at *
  rw [he, hw]
  exact hy
theorem Gives.wpOp {i : Nat} {o : Oper} {v : Value} {a : Act} {w : World} (hi : ops[i]? = some o) (hy : Gives P ops C o v a) (hC : C w) {K : Act → World → Prop} (h : K (a.put o.dst v) w) : wpOp P ops Q i K a w := by
  unfold Go.wpOp
  rw [hi]
  rcases hy with ⟨h1, h2⟩ | ⟨h1, rfl⟩
  · show if Region.wanted o (yielded ops a.tmps) = true then _ else _
    rw [if_pos h1]
    exact .inl (by unfold Oper.wp; rw [h2 w hC]; exact h)
  · show if Region.wanted o (yielded ops a.tmps) = true then _ else _
    rw [h1]
    exact h
/-- another operation ahead of one that gives its value anyhow -/
theorem wpOp_later {j : Nat} {oi oj : Oper} {v : Value} (hj : ops[j]? = some oj) (hap : oi.apart ops oj = true)
    (hsi : ∀ cs b, oi.op ≠ .select cs b) (hsj : ∀ cs b, oj.op ≠ .select cs b)
    (hQ : ∀ c a w, Q (.panic c) (a.put oi.dst v) w → Q (.panic c) a w) {K : Act → World → Prop} {a : Act} {w : World}
    (hy : Gives P ops C oi v a) (h : wpOp P ops Q j K (a.put oi.dst v) w) :
    wpOp P ops Q j (fun a' w' => Gives P ops C oi v a' ∧ K (a'.put oi.dst v) w') a w := by
  obtain ⟨h1, h2, h3⟩ := Oper.apart_spec hap
  have keep : ∀ (b : Act), Gives P ops C oi v b → ∀ u, Gives P ops C oi v (b.put oj.dst u) := fun b hb u =>
    hb.of_same (execOp_put oi hsi b oj.dst u h3) (wanted_put oi b oj.dst u h3)
  have hx := execOp_put oj hsj a oi.dst v h1
  unfold wpOp at *
  rw [hj] at h ⊢
  simp only at h ⊢
  rw [wanted_put oj a oi.dst v h1] at h
  by_cases hw : Region.wanted oj (yielded ops a.tmps) = true
  · rw [if_pos hw] at h ⊢
    rcases h with h | ⟨hasks, hlets⟩
    · refine .inl ?_
      unfold Oper.wp at *
      rw [hx] at h
      generalize (execOp a.eval oj).run P w = r at *
      rcases r with ⟨n, w'⟩ | ⟨x, w'⟩
      · cases n with
        | value u => exact ⟨keep a hy u, by rw [← Act.put_comm a v u h2]; exact h⟩
        | skip => exact ⟨keep a hy undef, by rw [← Act.put_comm a v undef h2]; exact h⟩
        | defer d =>
          have hd : Gives P ops C oi v { a with defers := d :: a.defers } := hy.of_same rfl rfl
          refine ⟨keep _ hd undef, ?_⟩
          rw [← Act.put_comm _ v undef h2, ← Act.put_defers]
          exact h
        | enter f args =>
          refine Calls.mono h fun e w'' he => ?_
          cases e with
          | returned u => exact ⟨keep a hy u, by rw [← Act.put_comm a v u h2]; exact he⟩
          | panicked c => exact hQ _ _ _ he
          | outgrown => exact he
        | row r args => exact Rows.mono h fun u w'' he => ⟨keep a hy u, by rw [← Act.put_comm a v u h2]; exact he⟩
        | _ => exact h
      · cases x with
        | panic u => exact hQ _ _ _ h
        | _ => exact h
    · exact .inr ⟨by unfold Oper.asks at *; rw [hx] at hasks; exact hasks, hlets⟩
  · rw [if_neg hw] at h ⊢
    exact ⟨keep a hy undef, by rw [← Act.put_comm a v undef h2]; exact h⟩
theorem wpAnyC_first {i : Nat} {oi : Oper} {v : Value} (hi : ops[i]? = some oi) (hsel : ∀ (j : Nat) (o : Oper) cs b, ops[j]? = some o → o.op ≠ .select cs b)
    (hQ : ∀ c a w, Q (.panic c) (a.put oi.dst v) w → Q (.panic c) a w)
    (hlate : ∀ j oj, ops[j]? = some oj → E j = false → ∃ e ∈ oj.after, Region.binds md e = true ∧ e.on = i) :
    ∀ (fuel : Nat) (listed : Array Bool) (a : Act) (w : World),
      (∀ j oj, ops[j]? = some oj → j ≠ i → listed.getD j true = false → (∀ e ∈ oj.after, Region.binds md e = true → e.on ≠ i) → oi.apart ops oj = true) →
      i ∈ Region.ready md ops listed → Gives P ops C oi v a → C w →
      wpAnyC P md ops Q C E fuel (listed.setIfInBounds i true) (a.put oi.dst v) w → wpAnyC P md ops Q C E (fuel + 1) listed a w := by
  intro fuel
  induction fuel with
  | zero =>
    intro listed a w _ hr hy hC H
    refine ⟨fun h => (by rw [h] at hr; cases hr), fun j hj => ?_⟩
    by_cases hji : j = i
    · subst hji; exact hy.wpOp hi hC ⟨fun _ => hC, H⟩
    · have := ready_mono hj hji
      rw [H.1] at this
      cases this
  | succ fuel ih =>
    intro listed a w hfree hr hy hC H
    refine ⟨fun h => (by rw [h] at hr; cases hr), fun j hj => ?_⟩
    by_cases hji : j = i
    · subst hji; exact hy.wpOp hi hC ⟨fun _ => hC, H⟩
    · have h1 := H.2 j (ready_mono hj hji)
      obtain ⟨hjun, oj, hoj, hall⟩ := mem_ready.1 hj
      have hnot : ∀ e ∈ oj.after, Region.binds md e = true → e.on ≠ i := fun e he hb heq => by
        have h2 := hall e he hb
        have h0 := (mem_ready.1 hr).1
        rw [heq] at h2
        rcases Nat.lt_or_ge i listed.size with h' | h'
        · simp [h'] at h0 h2; rw [h0] at h2; cases h2
        · simp [Array.getElem?_eq_none h'] at h2
      have hEj : E j = true := by
        rcases hE : E j
        · obtain ⟨e, he, hb, heq⟩ := hlate j oj hoj hE
          exact absurd heq (hnot e he hb)
        · rfl
      have h2 := wpOp_later hoj (hfree j oj hoj hji hjun hnot) (fun cs b => hsel i oi cs b hi) (fun cs b => hsel j oj cs b hoj) hQ hy h1
      have hfree' : ∀ k ok, ops[k]? = some ok → k ≠ i → (listed.setIfInBounds j true).getD k true = false →
          (∀ e ∈ ok.after, Region.binds md e = true → e.on ≠ i) → oi.apart ops ok = true := fun k ok hk hki hun hno => by
        refine hfree k ok hk hki ?_ hno
        by_cases hjk : j = k
        · subst hjk; exact hjun
        · rw [getD_set_ne true hjk] at hun; exact hun
      refine wpOp_mono (fun a' w' h3 => ⟨fun _ => h3.2.1 hEj, ih (listed.setIfInBounds j true) a' w' hfree' (ready_mono hr (Ne.symm hji)) h3.1 (h3.2.1 hEj) ?_⟩) h2
      rw [Array.setIfInBounds_comm _ _ hji]
      exact h3.2.2
/-- a load taken first -/
theorem load_l {l : List Oper} {i : Nat} {oi : Oper} {v : Value} {fuel : Nat} {listed : Array Bool} {a : Act} {w : World} (hi : l[i]? = some oi)
    (hs : Region.noSelect l.toArray = true) (hf : Region.free md l.toArray listed i = true) (hr : (Region.ready md l.toArray listed).contains i = true)
    (hl : ((List.range l.length).all fun j => E j || match l[j]? with | some o => o.after.any fun e => Region.binds md e && e.on == i | none => true) = true)
    (hQ : ∀ c a w, Q (.panic c) (a.put oi.dst v) w → Q (.panic c) a w) (hy : Region.wanted oi (yielded l.toArray a.tmps) = true ∧ ∀ w, C w → (execOp a.eval oi).run P w = .ok (.value v) w) (hC : C w)
    (h : wpAnyC P md l.toArray Q C E fuel (listed.setIfInBounds i true) (a.put oi.dst v) w) : wpAnyC P md l.toArray Q C E (fuel + 1) listed a w := by
  have hi' : l.toArray[i]? = some oi := by simpa using hi
  refine wpAnyC_first hi' (Region.noSelect_spec hs) hQ (fun j oj hoj hE => ?_) fuel listed a w (Region.free_spec hi' hf) (by simpa using hr) (.inl hy) hC h
  have hoj' : l[j]? = some oj := by simpa using hoj
  have h1 := List.all_eq_true.1 hl j (List.mem_range.2 (List.getElem?_eq_some_iff.1 hoj').1)
  rw [hE, hoj'] at h1
  obtain ⟨e, he, hb⟩ := Array.any_eq_true'.1 (by simpa using h1 : (oj.after.any fun e => Region.binds md e && e.on == i) = true)
  simp only [Bool.and_eq_true, beq_iff_eq] at hb
  exact ⟨e, he, hb.1, hb.2⟩
/-- an operation passed over -/
theorem skip_l {l : List Oper} {i : Nat} {oi : Oper} {fuel : Nat} {listed : Array Bool} {a : Act} {w : World} (hi : l[i]? = some oi)
    (hs : Region.noSelect l.toArray = true) (hf : Region.free md l.toArray listed i = true) (hr : (Region.ready md l.toArray listed).contains i = true)
    (hl : ((List.range l.length).all fun j => E j || match l[j]? with | some o => o.after.any fun e => Region.binds md e && e.on == i | none => true) = true)
    (hQ : ∀ c a w, Q (.panic c) (a.put oi.dst undef) w → Q (.panic c) a w) (hw : Region.wanted oi (yielded l.toArray a.tmps) = false) (hC : C w)
    (h : wpAnyC P md l.toArray Q C E fuel (listed.setIfInBounds i true) (a.put oi.dst undef) w) : wpAnyC P md l.toArray Q C E (fuel + 1) listed a w := by
  have hi' : l.toArray[i]? = some oi := by simpa using hi
  refine wpAnyC_first hi' (Region.noSelect_spec hs) hQ (fun j oj hoj hE => ?_) fuel listed a w (Region.free_spec hi' hf) (by simpa using hr) (.inr ⟨hw, rfl⟩) hC h
  have hoj' : l[j]? = some oj := by simpa using hoj
  have h1 := List.all_eq_true.1 hl j (List.mem_range.2 (List.getElem?_eq_some_iff.1 hoj').1)
  rw [hE, hoj'] at h1
  obtain ⟨e, he, hb⟩ := Array.any_eq_true'.1 (by simpa using h1 : (oj.after.any fun e => Region.binds md e && e.on == i) = true)
  simp only [Bool.and_eq_true, beq_iff_eq] at hb
  exact ⟨e, he, hb.1, hb.2⟩
/-- an operation that gives its value in whatever world -/
theorem pure_l {l : List Oper} {i : Nat} {oi : Oper} {v : Value} {fuel : Nat} {listed : Array Bool} {a : Act} {w : World} (hi : l[i]? = some oi)
    (hs : Region.noSelect l.toArray = true) (hf : Region.free md l.toArray listed i = true) (hr : (Region.ready md l.toArray listed).contains i = true)
    (hl : ((List.range l.length).all fun j => E j || match l[j]? with | some o => o.after.any fun e => Region.binds md e && e.on == i | none => true) = true)
    (hQ : ∀ c a w, Q (.panic c) (a.put oi.dst v) w → Q (.panic c) a w) (hw : Region.wanted oi (yielded l.toArray a.tmps) = true) (hy : ∀ w, (execOp a.eval oi).run P w = .ok (.value v) w) (hC : C w)
    (h : wpAnyC P md l.toArray Q C E fuel (listed.setIfInBounds i true) (a.put oi.dst v) w) : wpAnyC P md l.toArray Q C E (fuel + 1) listed a w :=
  load_l hi hs hf hr hl hQ ⟨hw, fun w _ => hy w⟩ hC h
/-- the one operation that may come up -/
theorem one_l {l : List Oper} {i : Nat} {o : Oper} {fuel : Nat} {listed : Array Bool} {a : Act} {w : World} (hr : Region.ready md l.toArray listed = [i]) (ho : l[i]? = some o)
    (h : ∀ K' : Act → World → Prop, (∀ a w, (E i = true → C w) → wpAnyC P md l.toArray Q C E fuel (listed.setIfInBounds i true) a w → K' a w) → if Region.wanted o (yielded l.toArray a.tmps) = true then Oper.wp P o a w K' Q else K' (a.put o.dst undef) w) :
    wpAnyC P md l.toArray Q C E (fuel + 1) listed a w := by
  refine ⟨fun h0 => (by rw [h0] at hr; cases hr), fun j hj => ?_⟩
  rw [hr] at hj
  obtain rfl := List.mem_singleton.1 hj
  exact step_l ho fun K' hK => h K' fun a w h1 h2 => hK a w ⟨h1, h2⟩
theorem done_l {listed : Array Bool} {a : Act} {w : World} (hr : Region.ready md ops listed = []) (h : Q .normal a w) : ∀ fuel, wpAnyC P md ops Q C E fuel listed a w
  | 0 => ⟨hr, h⟩
  | _ + 1 => ⟨fun _ => h, by rw [hr]; simp⟩
theorem regionC_l {l : List Oper} {id n : Nat} {listed : Array Bool} {a : Act} {w : World} (C : World → Prop) (E : Nat → Bool) (hm : P.follows .mixedOrders = true) (hn : l.length = n) (hl : Array.replicate n false = listed)
    (h : wpAnyC P .any l.toArray Q C E n listed a w.drew) : (Code.region id l.toArray true).wp P Q a w := region_l hm hn hl h.any
end
end Go.Proofs.Ytodhianmaogfpaa
