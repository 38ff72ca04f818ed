/- The search's rounds, plainly: each keeps what holds and takes one off what is left to do. -/
import Derived.Test.YtodhianmaogfpaaTjD
namespace Go.Proofs.Ytodhianmaogfpaa
set_option linter.unusedSimpArgs false
set_option linter.unusedVariables false
variable {n : Nat} {adj : Nat → List Nat} {s : TS}
/-- how many are not met -/
def uns (n : Nat) (seen : Nat → Nat) : Nat := (List.range n).countP fun v => seen v == 0
theorem uns_upd {seen : Nat → Nat} {w t : Nat} : ∀ {n : Nat}, w < n → seen w = 0 → 0 < t → uns n (upd seen w t) + 1 = uns n seen
  | 0, h, _, _ => absurd h (by omega)
  | n + 1, hw, h0, ht => by
    unfold uns
    rw [List.range_succ, List.countP_append, List.countP_append]
    by_cases e : w = n
    · subst e
      have h1 : (List.range w).countP (fun v => upd seen w t v == 0) = (List.range w).countP fun v => seen v == 0 := by
        apply List.countP_congr
        intro v hv
        rw [upd_ne (by have := List.mem_range.1 hv; omega)]
      rw [h1]
      have ht' : t ≠ 0 := by omega
      simp [upd_at, h0, ht']
    · have ih := uns_upd (n := n) (by omega) h0 ht
      unfold uns at ih
      have h1 : [n].countP (fun v => upd seen w t v == 0) = [n].countP fun v => seen v == 0 := by
        apply List.countP_congr
        intro v hv
        rw [List.mem_singleton.1 hv, upd_ne (by omega)]
      rw [h1]; omega
/-- bounds of the numbers that the search keeps -/
def Bd (n : Nat) (s : TS) : Prop := s.cnt + s.stack.length ≤ s.time ∧ s.time + uns n s.seen = n
theorem muT_app (adj : Nat → List Nat) (a b : List (Nat × Nat)) : muT adj (a ++ b) = muT adj a + muT adj b := by simp [muT]
theorem muT_cons (adj : Nat → List Nat) (f : Nat × Nat) (b : List (Nat × Nat)) : muT adj (f :: b) = ((adj f.1).length - f.2 + 1) + muT adj b := by simp [muT]
theorem muT_nil (adj : Nat → List Nat) : muT adj [] = 0 := rfl
theorem todo_mu (adj : Nat → List Nat) : ∀ t : List (Nat × Nat), t.length ≤ muT adj t
  | [] => Nat.le_refl _
  | f :: t => by rw [muT_cons, List.length_cons]; have := todo_mu adj t; omega
theorem TI.last (h : TI n adj s) {t : List (Nat × Nat)} {v e : Nat} (ht : s.todo = t ++ [(v, e)]) : (v ∈ s.stack ∧ v < n) ∧ e ≤ (adj v).length ∧ ∀ f ∈ s.todo, s.seen f.1 ≤ s.seen v := by
  have hm : (v, e) ∈ s.todo := by rw [ht]; simp
  obtain ⟨h1, h2⟩ := h.todo_m _ hm
  refine ⟨⟨h1, h.seen_lt _ (h.pos _ h1)⟩, h2, fun f hf => ?_⟩
  have hts := h.todo_s
  rw [ht] at hts hf
  rcases List.mem_append.1 hf with hf | hf
  · exact Nat.le_of_lt (pw_last (f := fun a : Nat × Nat => s.seen a.1) hts hf)
  · rw [List.mem_singleton.1 hf]; exact Nat.le_refl _
theorem TI.stackLt (h : TI n adj s) : ∀ x ∈ s.stack, x < n := fun x hx => h.seen_lt x (h.pos x hx)
/-- an edge to a node not met yet -/
theorem TI.stepPush (h : TI n adj s) {t : List (Nat × Nat)} {v e w : Nat} (ht : s.todo = t ++ [(v, e)]) (he : (adj v)[e]? = some w) (h0 : s.seen w = 0) :
    TI n adj { s.meet w with todo := t ++ [(v, e + 1)] ++ [(w, 0)] } ∧ TS.mu n adj { s.meet w with todo := t ++ [(v, e + 1)] ++ [(w, 0)] } + 1 = s.mu n adj ∧ (Bd n s → Bd n { s.meet w with todo := t ++ [(v, e + 1)] ++ [(w, 0)] }) := by
  obtain ⟨hel, hew⟩ := List.getElem?_eq_some_iff.1 he
  have hwn : w < n := h.adj_lt v w (hew ▸ List.getElem_mem hel)
  obtain ⟨⟨hvs, hvn⟩, _, hlast⟩ := h.last ht
  have hvw : v ≠ w := fun e2 => by have := h.pos v hvs; rw [e2] at this; omega
  have h1 := h.meet hwn h0 (fun f hf => (h.rch8 f hf v hvs (hlast f hf)).trans (.edge (hew ▸ List.getElem_mem hel)))
  have ht1 : (s.meet w).todo = t ++ (v, e) :: [(w, 0)] := by simp [TS.meet, ht]
  have h2 := h1.adv ht1 he (by simp [TS.meet, upd_at]) (fun _ => by
    have h3 := (h.low6 v hvs).1
    have h4 := h.seen_le v
    simp only [TS.meet]
    rw [upd_ne hvw, upd_at]; omega)
  refine ⟨by simpa using h2, ?_, fun hb => ⟨?_, ?_⟩⟩
  · unfold TS.mu
    rw [ht]
    simp only [muT_app, muT_cons, muT_nil, TS.meet]
    have := muN_upd (n := n) (adj := adj) (seen := s.seen) (t := s.time + 1) hwn h0 (by omega)
    omega
  · have := hb.1
    simp only [TS.meet, List.length_append, List.length_cons, List.length_nil]; omega
  · have := hb.2
    simp only [TS.meet]
    have := uns_upd (n := n) (seen := s.seen) (t := s.time + 1) hwn h0 (by omega)
    omega
theorem mu_adv {t : List (Nat × Nat)} {v e : Nat} (ht : s.todo = t ++ [(v, e)]) (he : e < (adj v).length) {s' : TS} (h1 : s'.seen = s.seen) (h2 : s'.todo = t ++ [(v, e + 1)]) : s'.mu n adj + 1 = s.mu n adj := by
  unfold TS.mu
  rw [ht, h1, h2]
  simp only [muT_app, muT_cons, muT_nil]
  omega
/-- an edge to a node that stands on the stack -/
theorem TI.stepBack (h : TI n adj s) {t : List (Nat × Nat)} {v e w : Nat} (ht : s.todo = t ++ [(v, e)]) (he : (adj v)[e]? = some w) (hw : w ∈ s.stack) :
    TI n adj { s with low := upd s.low v (min (s.low v) (s.seen w)), todo := t ++ [(v, e + 1)] } := by
  obtain ⟨hel, hew⟩ := List.getElem?_eq_some_iff.1 he
  have hm : (v, e) ∈ s.todo := by rw [ht]; simp
  have h1 := h.lower hm hw (.edge (hew ▸ List.getElem_mem hel))
  have h2 := h1.adv (t := t) (t' := []) ht he (h.pos w hw) (fun _ => by simp only [upd_at]; omega)
  exact h2
/-- an edge to a node that is shut in -/
theorem TI.stepCross (h : TI n adj s) {t : List (Nat × Nat)} {v e w : Nat} (ht : s.todo = t ++ [(v, e)]) (he : (adj v)[e]? = some w) (hw : 0 < s.seen w) (hn : w ∉ s.stack) :
    TI n adj { s with todo := t ++ [(v, e + 1)] } := h.adv (t := t) (t' := []) ht he hw (fun hm => absurd hm hn)
theorem mu_pop {t : List (Nat × Nat)} {v : Nat} (ht : s.todo = t ++ [(v, (adj v).length)]) {s' : TS} (h1 : s'.seen = s.seen) (h2 : s'.todo = t) : s'.mu n adj + 1 = s.mu n adj := by
  unfold TS.mu
  rw [ht, h1, h2]
  simp only [muT_app, muT_cons, muT_nil]
  omega
/-- a node is left, its low handed to the one above -/
theorem TI.stepPop (h : TI n adj s) {t : List (Nat × Nat)} {up e' v : Nat} (ht : s.todo = t ++ [(up, e')] ++ [(v, (adj v).length)]) (hlow : s.low v ≠ s.seen v) :
    TI n adj { s with low := upd s.low up (min (s.low up) (s.low v)), todo := t ++ [(up, e')] } := by
  have ht' : s.todo = t ++ [(up, e'), (v, (adj v).length)] := by simpa using ht
  obtain ⟨⟨hvs, _⟩, _, hlast⟩ := h.last ht
  have hum : (up, e') ∈ s.todo := by rw [ht]; simp
  have hup := h.todo_m _ hum
  have hts := h.todo_s
  rw [ht] at hts
  have hlt : s.seen up < s.seen v := pw_last (f := fun a : Nat × Nat => s.seen a.1) hts (y := (up, e')) (by simp)
  obtain ⟨hl1, u, hu, hue, hur⟩ := h.low6 v hvs
  have hne : v ≠ up := fun e => by rw [e] at hlt; omega
  have h1 := h.lower hum hu ((h.rch8 _ hum v hvs (by show s.seen up ≤ s.seen v; omega)).trans hur)
  have h2 := h1.pop (t := t) (up := up) (e' := e') (v := v) ht' (by simp only [upd_ne hne]; omega) (by simp only [upd_ne hne, upd_at]; omega)
  simpa [hue] using h2
/-- .. or its component is shut -/
theorem TI.stepShut (h : TI n adj s) {t : List (Nat × Nat)} {v : Nat} {s1 s2 : List Nat} (ht : s.todo = t ++ [(v, (adj v).length)]) (hlow : s.low v = s.seen v) (hs : s.stack = s1 ++ v :: s2) : TI n adj (s.shut s1 s2 v t) := h.shut ht hlow hs
theorem bd_shut {s1 s2 : List Nat} {v : Nat} {t : List (Nat × Nat)} (hs : s.stack = s1 ++ v :: s2) (hb : Bd n s) : Bd n (s.shut s1 s2 v t) := by
  refine ⟨?_, hb.2⟩
  have := hb.1
  rw [hs] at this
  simp at this
  simp only [TS.shut]; omega
theorem TI.split (h : TI n adj s) {v : Nat} (hv : v ∈ s.stack) : ∃ s1 s2, s.stack = s1 ++ v :: s2 ∧ v ∉ s2 := by
  obtain ⟨s1, s2, hs⟩ := List.append_of_mem hv
  refine ⟨s1, s2, hs, fun hm => ?_⟩
  have := h.sorted
  rw [hs] at this
  have := (List.pairwise_cons.1 (List.pairwise_append.1 this).2.1).1 v hm
  omega
end Go.Proofs.Ytodhianmaogfpaa
