/- The search for components, plainly: what holds at each step, and what it tells. -/
import Derived.Test.YtodhianmaogfpaaBs
namespace Go.Proofs.Ytodhianmaogfpaa
set_option linter.unusedSimpArgs false
set_option linter.unusedVariables false
/-- a value turned at one place -/
def upd (f : Nat → Nat) (i v : Nat) : Nat → Nat := fun j => if j = i then v else f j
inductive Rch (adj : Nat → List Nat) : Nat → Nat → Prop
  | refl (u : Nat) : Rch adj u u
  | step {u w x : Nat} (h : w ∈ adj u) (k : Rch adj w x) : Rch adj u x
theorem Rch.trans {adj : Nat → List Nat} {a b c : Nat} (h : Rch adj a b) (k : Rch adj b c) : Rch adj a c := by
  induction h with
  | refl => exact k
  | step h _ ih => exact .step h (ih k)
theorem Rch.edge {adj : Nat → List Nat} {a b : Nat} (h : b ∈ adj a) : Rch adj a b := .step h (.refl _)
/-- a set shut under edges holds what is reached -/
theorem Rch.shut {adj : Nat → List Nat} {P : Nat → Prop} (hP : ∀ u w, P u → w ∈ adj u → P w) {a b : Nat} (h : Rch adj a b) (ha : P a) : P b := by
  induction h with
  | refl => exact ha
  | step h _ ih => exact ih (hP _ _ ha h)
structure TS where
  seen : Nat → Nat
  low : Nat → Nat
  on : Nat → Nat
  of : Nat → Nat
  stack : List Nat
  time : Nat
  cnt : Nat
  todo : List (Nat × Nat)
def TS.cl (s : TS) (v : Nat) : Prop := 0 < s.seen v ∧ v ∉ s.stack
def TS.cons (adj : Nat → List Nat) (s : TS) (u w : Nat) : Prop := (∃ e, (u, e) ∈ s.todo ∧ w ∈ (adj u).take e) ∨ ((∀ f ∈ s.todo, f.1 ≠ u) ∧ w ∈ adj u)
structure TI (n : Nat) (adj : Nat → List Nat) (s : TS) : Prop where
  adj_lt : ∀ v w, w ∈ adj v → w < n
  seen_lt : ∀ v, 0 < s.seen v → v < n
  on_iff : ∀ v, v < n → s.on v = if v ∈ s.stack then 1 else 0
  sorted : s.stack.Pairwise (fun a b => s.seen a < s.seen b)
  pos : ∀ v ∈ s.stack, 0 < s.seen v
  seen_le : ∀ v, s.seen v ≤ s.time
  todo_s : s.todo.Pairwise (fun a b => s.seen a.1 < s.seen b.1)
  todo_m : ∀ f ∈ s.todo, f.1 ∈ s.stack ∧ f.2 ≤ (adj f.1).length
  cl_adj : ∀ v w, s.cl v → w ∈ adj v → s.cl w
  cl_of : ∀ v, s.cl v → s.of v < s.cnt
  cl_eq : ∀ v w, s.cl v → s.cl w → (s.of v = s.of w ↔ Rch adj v w ∧ Rch adj w v)
  cl_all : ∀ c, c < s.cnt → ∃ v, s.cl v ∧ s.of v = c
  low6 : ∀ v ∈ s.stack, s.low v ≤ s.seen v ∧ ∃ u ∈ s.stack, s.seen u = s.low v ∧ Rch adj v u
  low7 : ∀ v ∈ s.stack, (∀ f ∈ s.todo, f.1 ≠ v) → s.low v < s.seen v
  rch8 : ∀ f ∈ s.todo, ∀ u ∈ s.stack, s.seen f.1 ≤ s.seen u → Rch adj f.1 u
  own9 : ∀ f ∈ s.todo, ∀ u ∈ s.stack, s.seen f.1 ≤ s.seen u → (∀ q ∈ s.todo, s.seen q.1 ≤ s.seen u → s.seen q.1 ≤ s.seen f.1) → s.low f.1 ≤ s.low u
  edge10 : ∀ u ∈ s.stack, ∀ w, s.cons adj u w → 0 < s.seen w ∧ (w ∈ s.stack → s.low u ≤ s.seen w)
  base11 : ∀ u ∈ s.stack, ∃ f ∈ s.todo, s.seen f.1 ≤ s.seen u
/-- what stands sorted is told apart by its key -/
theorem pw_inj {α : Type} {f : α → Nat} : ∀ {l : List α}, l.Pairwise (fun a b => f a < f b) → ∀ {a b : α}, a ∈ l → b ∈ l → f a = f b → a = b
  | c :: l, h, a, b, ha, hb, he => by
    rw [List.pairwise_cons] at h
    rcases List.mem_cons.1 ha with h1 | h1 <;> rcases List.mem_cons.1 hb with h2 | h2
    · rw [h1, h2]
    · have := h.1 _ h2; rw [← h1] at this; omega
    · have := h.1 _ h1; rw [← h2] at this; omega
    · exact pw_inj h.2 h1 h2 he
theorem TI.inj {n : Nat} {adj : Nat → List Nat} {s : TS} (h : TI n adj s) {a b : Nat} (ha : a ∈ s.stack) (hb : b ∈ s.stack) (he : s.seen a = s.seen b) : a = b := pw_inj h.sorted ha hb he
theorem pw_last {α : Type} {f : α → Nat} {t : List α} {x y : α} (h : (t ++ [x]).Pairwise (fun a b => f a < f b)) (hy : y ∈ t) : f y < f x := by
  rw [List.pairwise_append] at h
  exact h.2.2 y hy x (by simp)

/-- a node is met -/
def TS.meet (s : TS) (w : Nat) : TS :=
  { s with time := s.time + 1, seen := upd s.seen w (s.time + 1), low := upd s.low w (s.time + 1), on := upd s.on w 1, stack := s.stack ++ [w], todo := s.todo ++ [(w, 0)] }
variable {n : Nat} {adj : Nat → List Nat} {s : TS}
theorem upd_at (f : Nat → Nat) (i v : Nat) : upd f i v i = v := by simp [upd]
theorem upd_ne {f : Nat → Nat} {i v j : Nat} (h : j ≠ i) : upd f i v j = f j := by simp [upd, h]

theorem TI.meet (h : TI n adj s) {w : Nat} (hw : w < n) (h0 : s.seen w = 0) (hr : ∀ f ∈ s.todo, Rch adj f.1 w) : TI n adj (s.meet w) := by
  have hns : w ∉ s.stack := fun hm => by have := h.pos w hm; omega
  have hst : ∀ v ∈ s.stack, v ≠ w := fun v hv e => hns (e ▸ hv)
  have hcl : ∀ v, (s.meet w).cl v ↔ s.cl v := by
    intro v
    simp only [TS.cl, TS.meet, List.mem_append, List.mem_singleton]
    by_cases e : v = w
    · subst e; rw [upd_at]; constructor
      · intro hh; exact absurd (.inr rfl) hh.2
      · intro hh; omega
    · rw [upd_ne e]; simp [e]
  have hclw : ∀ v, s.cl v → v ≠ w := fun v hv e => by have := hv.1; rw [e] at this; omega
  have htd : ∀ f ∈ s.todo, f.1 ≠ w := fun f hf => hst _ (h.todo_m f hf).1
  constructor
  case adj_lt => exact h.adj_lt
  case seen_lt =>
    intro v hv
    by_cases e : v = w
    · exact e ▸ hw
    · simp only [TS.meet, upd_ne e] at hv; exact h.seen_lt v hv
  case on_iff =>
    intro v hv
    have := h.on_iff v hv
    simp only [TS.meet, List.mem_append, List.mem_singleton]
    by_cases e : v = w
    · subst e; simp [upd_at]
    · rw [upd_ne e, this]; simp [e]
  case sorted =>
    simp only [TS.meet]
    rw [List.pairwise_append]
    refine ⟨?_, by simp, ?_⟩
    · refine List.Pairwise.imp_of_mem ?_ h.sorted
      intro a b ha hb hab
      rw [upd_ne (hst a ha), upd_ne (hst b hb)]; exact hab
    · intro a ha b hb
      rw [List.mem_singleton.1 hb, upd_at, upd_ne (hst a ha)]
      have := h.seen_le a; omega
  case pos =>
    intro v hv
    simp only [TS.meet, List.mem_append, List.mem_singleton] at hv ⊢
    rcases hv with hv | rfl
    · rw [upd_ne (hst v hv)]; exact h.pos v hv
    · rw [upd_at]; omega
  case seen_le =>
    intro v
    simp only [TS.meet]
    by_cases e : v = w
    · subst e; rw [upd_at]; omega
    · rw [upd_ne e]; have := h.seen_le v; omega
  case todo_s =>
    simp only [TS.meet]
    rw [List.pairwise_append]
    refine ⟨?_, by simp, ?_⟩
    · refine List.Pairwise.imp_of_mem ?_ h.todo_s
      intro a b ha hb hab
      rw [upd_ne (htd a ha), upd_ne (htd b hb)]; exact hab
    · intro a ha b hb
      rw [List.mem_singleton.1 hb, upd_at, upd_ne (htd a ha)]
      have := h.seen_le a.1; omega
  case todo_m =>
    intro f hf
    simp only [TS.meet, List.mem_append, List.mem_singleton] at hf ⊢
    rcases hf with hf | rfl
    · exact ⟨.inl (h.todo_m f hf).1, (h.todo_m f hf).2⟩
    · simp
  case cl_adj => intro v x hv hx; rw [hcl] at hv ⊢; exact h.cl_adj v x hv hx
  case cl_of => intro v hv; rw [hcl] at hv; exact h.cl_of v hv
  case cl_eq => intro v x hv hx; rw [hcl] at hv hx; exact h.cl_eq v x hv hx
  case cl_all => intro c hc; obtain ⟨v, hv, e⟩ := h.cl_all c hc; exact ⟨v, (hcl v).2 hv, e⟩
  case low6 =>
    intro v hv
    simp only [TS.meet, List.mem_append, List.mem_singleton] at hv ⊢
    rcases hv with hv | rfl
    · obtain ⟨h1, u, hu, h2, h3⟩ := h.low6 v hv
      rw [upd_ne (hst v hv), upd_ne (hst v hv)]
      exact ⟨h1, u, .inl hu, by rw [upd_ne (hst u hu)]; exact h2, h3⟩
    · rw [upd_at, upd_at]
      exact ⟨Nat.le_refl _, v, .inr rfl, by rw [upd_at], .refl _⟩
  case low7 =>
    intro v hv hf
    simp only [TS.meet, List.mem_append, List.mem_singleton] at hv hf ⊢
    rcases hv with hv | rfl
    · rw [upd_ne (hst v hv), upd_ne (hst v hv)]
      exact h.low7 v hv fun f hff => hf f (.inl hff)
    · exact absurd rfl (hf (v, 0) (.inr rfl))
  case rch8 =>
    intro f hf u hu hle
    simp only [TS.meet, List.mem_append, List.mem_singleton] at hf hu hle
    rcases hf with hf | rfl <;> rcases hu with hu | rfl
    · rw [upd_ne (htd f hf), upd_ne (hst u hu)] at hle
      exact h.rch8 f hf u hu hle
    · exact hr f hf
    · rw [upd_at, upd_ne (hst u hu)] at hle
      have := h.seen_le u; omega
    · exact .refl _
  case own9 =>
    intro f hf u hu hle hq
    simp only [TS.meet, List.mem_append, List.mem_singleton] at hf hu hle hq ⊢
    rcases hf with hf | rfl <;> rcases hu with hu | rfl
    · rw [upd_ne (htd f hf), upd_ne (hst u hu)] at hle ⊢
      refine h.own9 f hf u hu hle fun q hqm hqle => ?_
      have := hq q (.inl hqm)
      rw [upd_ne (htd q hqm), upd_ne (htd f hf), upd_ne (hst u hu)] at this
      exact this hqle
    · have := hq (u, 0) (.inr rfl) (Nat.le_refl _)
      rw [upd_at, upd_ne (htd f hf)] at this
      have := h.seen_le f.1; omega
    · rw [upd_at, upd_ne (hst u hu)] at hle
      have := h.seen_le u; omega
    · exact Nat.le_refl _
  case edge10 =>
    intro u hu x hx
    have hx' : s.cons adj u x ∧ u ∈ s.stack := by
      simp only [TS.meet, List.mem_append, List.mem_singleton] at hu
      rcases hx with ⟨e, he, hx⟩ | ⟨hf, hx⟩
      · simp only [TS.meet, List.mem_append, List.mem_singleton] at he
        rcases he with he | he
        · exact ⟨.inl ⟨e, he, hx⟩, (h.todo_m _ he).1⟩
        · injection he with h1 h2; subst h1 h2; simp at hx
      · simp only [TS.meet, List.mem_append, List.mem_singleton] at hf
        have : u ≠ w := fun e => hf (w, 0) (.inr rfl) e.symm
        exact ⟨.inr ⟨fun f hm => hf f (.inl hm), hx⟩, hu.resolve_right this⟩
    obtain ⟨h1, h2⟩ := h.edge10 u hx'.2 x hx'.1
    simp only [TS.meet, List.mem_append, List.mem_singleton]
    rw [upd_ne (hst u hx'.2)]
    have hxw : x ≠ w := fun e => by rw [e] at h1; omega
    rw [upd_ne hxw]
    exact ⟨h1, fun hm => h2 (hm.resolve_right hxw)⟩
  case base11 =>
    intro u hu
    simp only [TS.meet, List.mem_append, List.mem_singleton] at hu ⊢
    rcases hu with hu | rfl
    · obtain ⟨f, hf, hle⟩ := h.base11 u hu
      exact ⟨f, .inl hf, by rw [upd_ne (htd f hf), upd_ne (hst u hu)]; exact hle⟩
    · exact ⟨(u, 0), .inr rfl, Nat.le_refl _⟩

/-- one edge more of a frame is gone over -/
theorem TI.adv (h : TI n adj s) {t t' : List (Nat × Nat)} {v e w : Nat} (ht : s.todo = t ++ (v, e) :: t') (he : (adj v)[e]? = some w) (hw : 0 < s.seen w) (hl : w ∈ s.stack → s.low v ≤ s.seen w) :
    TI n adj { s with todo := t ++ (v, e + 1) :: t' } := by
  obtain ⟨hel, hew⟩ := List.getElem?_eq_some_iff.1 he
  have hmap : ∀ f, f ∈ t ++ (v, e + 1) :: t' → ∃ g ∈ s.todo, g.1 = f.1 := by
    intro f hf
    rw [ht]
    simp only [List.mem_append, List.mem_cons] at hf
    rcases hf with hf | rfl | hf
    · exact ⟨f, by simp [hf], rfl⟩
    · exact ⟨(v, e), by simp, rfl⟩
    · exact ⟨f, by simp [hf], rfl⟩
  have hmap2 : ∀ f, f ∈ s.todo → ∃ g ∈ t ++ (v, e + 1) :: t', g.1 = f.1 := by
    intro f hf
    rw [ht] at hf
    simp only [List.mem_append, List.mem_cons] at hf
    rcases hf with hf | rfl | hf
    · exact ⟨f, by simp [hf], rfl⟩
    · exact ⟨(v, e + 1), by simp, rfl⟩
    · exact ⟨f, by simp [hf], rfl⟩
  constructor
  case adj_lt => exact h.adj_lt
  case seen_lt => exact h.seen_lt
  case on_iff => exact h.on_iff
  case sorted => exact h.sorted
  case pos => exact h.pos
  case seen_le => exact h.seen_le
  case todo_s =>
    have := h.todo_s
    rw [ht] at this
    simp only [List.pairwise_append, List.pairwise_cons, List.mem_cons] at this ⊢
    refine ⟨this.1, ⟨this.2.1.1, this.2.1.2⟩, fun a ha b hb => ?_⟩
    rcases hb with rfl | hb
    · exact this.2.2 a ha (v, e) (.inl rfl)
    · exact this.2.2 a ha b (.inr hb)
  case todo_m =>
    intro f hf
    simp only [List.mem_append, List.mem_cons] at hf
    rcases hf with hf | rfl | hf
    · exact h.todo_m f (by rw [ht]; simp [hf])
    · exact ⟨(h.todo_m (v, e) (by rw [ht]; simp)).1, hel⟩
    · exact h.todo_m f (by rw [ht]; simp [hf])
  case cl_adj => exact h.cl_adj
  case cl_of => exact h.cl_of
  case cl_eq => exact h.cl_eq
  case cl_all => exact h.cl_all
  case low6 => exact h.low6
  case low7 =>
    intro u hu hf
    refine h.low7 u hu fun f hff => ?_
    obtain ⟨g, hg, e⟩ := hmap2 f hff
    rw [← e]; exact hf g hg
  case rch8 =>
    intro f hf u hu hle
    obtain ⟨g, hg, e⟩ := hmap f hf
    have := h.rch8 g hg u hu
    rw [e] at this; exact this hle
  case own9 =>
    intro f hf u hu hle hq
    obtain ⟨g, hg, e⟩ := hmap f hf
    have := h.own9 g hg u hu
    rw [e] at this
    refine this hle fun q hqm hqle => ?_
    obtain ⟨g', hg', e'⟩ := hmap2 q hqm
    have := hq g' hg'
    rw [e'] at this; exact this hqle
  case edge10 =>
    intro u hu x hx
    have hnodup : ∀ e2, (v, e2) ∈ s.todo → e2 = e := by
      intro e2 he2
      have h1 : (v, e) ∈ s.todo := by rw [ht]; simp
      have := pw_inj h.todo_s he2 h1 rfl
      injection this
    have key : s.cons adj u x ∨ (u = v ∧ x = w) := by
      rcases hx with ⟨e2, hm, hx⟩ | ⟨hf, hx⟩
      · simp only [List.mem_append, List.mem_cons] at hm
        have other : (u, e2) ∈ s.todo → s.cons adj u x := fun hm => .inl ⟨e2, hm, hx⟩
        rcases hm with hm | hm | hm
        · exact .inl (other (by rw [ht]; simp [hm]))
        · injection hm with h1 h2
          subst h1 h2
          rw [List.take_succ_eq_append_getElem hel, List.mem_append, List.mem_singleton] at hx
          rcases hx with hx | hx
          · exact .inl (.inl ⟨e, by rw [ht]; simp, hx⟩)
          · exact .inr ⟨rfl, hx.trans hew⟩
        · exact .inl (other (by rw [ht]; simp [hm]))
      · refine .inl (.inr ⟨fun f hff => ?_, hx⟩)
        obtain ⟨g, hg, e⟩ := hmap2 f hff
        rw [← e]; exact hf g hg
    rcases key with key | ⟨rfl, rfl⟩
    · exact h.edge10 u hu x key
    · exact ⟨hw, hl⟩
  case base11 =>
    intro u hu
    obtain ⟨f, hf, hle⟩ := h.base11 u hu
    obtain ⟨g, hg, e⟩ := hmap2 f hf
    exact ⟨g, hg, by rw [e]; exact hle⟩

/-- the low of a node on the way falls -/
theorem TI.lower (h : TI n adj s) {p u : Nat} {e : Nat} (hp : (p, e) ∈ s.todo) (hu : u ∈ s.stack) (hr : Rch adj p u) : TI n adj { s with low := upd s.low p (min (s.low p) (s.seen u)) } := by
  have hps := (h.todo_m _ hp).1
  have hle : ∀ x, upd s.low p (min (s.low p) (s.seen u)) x ≤ s.low x := by
    intro x
    by_cases e : x = p
    · subst e; rw [upd_at]; omega
    · rw [upd_ne e]; exact Nat.le_refl _
  constructor
  case adj_lt => exact h.adj_lt
  case seen_lt => exact h.seen_lt
  case on_iff => exact h.on_iff
  case sorted => exact h.sorted
  case pos => exact h.pos
  case seen_le => exact h.seen_le
  case todo_s => exact h.todo_s
  case todo_m => exact h.todo_m
  case cl_adj => exact h.cl_adj
  case cl_of => exact h.cl_of
  case cl_eq => exact h.cl_eq
  case cl_all => exact h.cl_all
  case low6 =>
    intro v hv
    obtain ⟨h1, x, hx, h2, h3⟩ := h.low6 v hv
    refine ⟨Nat.le_trans (hle v) h1, ?_⟩
    by_cases e : v = p
    · subst e
      simp only [upd_at]
      rcases Nat.le_total (s.low v) (s.seen u) with hc | hc
      · exact ⟨x, hx, by rw [h2]; omega, h3⟩
      · exact ⟨u, hu, by omega, hr⟩
    · simp only [upd_ne e]
      exact ⟨x, hx, h2, h3⟩
  case low7 => intro v hv hf; exact Nat.lt_of_le_of_lt (hle v) (h.low7 v hv hf)
  case rch8 => exact h.rch8
  case own9 =>
    intro f hf x hx hfx hq
    have h0 := h.own9 f hf x hx hfx hq
    by_cases ex : x = p
    · subst ex
      have := hq (x, e) hp (Nat.le_refl _)
      obtain rfl : f.1 = x := h.inj (h.todo_m f hf).1 hx (by simp only at this hfx; omega)
      exact Nat.le_refl _
    · simp only [upd_ne ex]
      exact Nat.le_trans (hle _) h0
  case edge10 =>
    intro x hx w hc
    obtain ⟨h1, h2⟩ := h.edge10 x hx w hc
    exact ⟨h1, fun hm => Nat.le_trans (hle x) (h2 hm)⟩
  case base11 => exact h.base11

/-- a node is left that reaches farther up -/
theorem TI.pop (h : TI n adj s) {t : List (Nat × Nat)} {up e' v : Nat} (ht : s.todo = t ++ [(up, e'), (v, (adj v).length)]) (hlow : s.low v < s.seen v) (hup : s.low up ≤ s.low v) :
    TI n adj { s with todo := t ++ [(up, e')] } := by
  have hsub : ∀ f, f ∈ t ++ [(up, e')] → f ∈ s.todo := by intro f hf; rw [ht]; simp at hf ⊢; grind
  have hsup : ∀ f, f ∈ s.todo → f ∈ t ++ [(up, e')] ∨ f = (v, (adj v).length) := by intro f hf; rw [ht] at hf; simp at hf ⊢; grind
  have hts := h.todo_s
  rw [ht, show t ++ [(up, e'), (v, (adj v).length)] = (t ++ [(up, e')]) ++ [(v, (adj v).length)] by simp] at hts
  have hvm : (v, (adj v).length) ∈ s.todo := by rw [ht]; simp
  have hum : (up, e') ∈ s.todo := by rw [ht]; simp
  have hlt : ∀ f ∈ t ++ [(up, e')], s.seen f.1 < s.seen v := fun f hf => pw_last (f := fun a : Nat × Nat => s.seen a.1) hts hf
  have hts2 := (List.pairwise_append.1 hts).1
  have hul : ∀ f ∈ t ++ [(up, e')], s.seen f.1 ≤ s.seen up := by
    intro f hf
    rcases List.mem_append.1 hf with hf | hf
    · exact Nat.le_of_lt (pw_last (f := fun a : Nat × Nat => s.seen a.1) hts2 hf)
    · rw [List.mem_singleton.1 hf]; exact Nat.le_refl _
  have huv : s.seen up < s.seen v := hlt (up, e') (by simp)
  constructor
  case adj_lt => exact h.adj_lt
  case seen_lt => exact h.seen_lt
  case on_iff => exact h.on_iff
  case sorted => exact h.sorted
  case pos => exact h.pos
  case seen_le => exact h.seen_le
  case todo_s => exact hts2
  case todo_m => intro f hf; exact h.todo_m f (hsub f hf)
  case cl_adj => exact h.cl_adj
  case cl_of => exact h.cl_of
  case cl_eq => exact h.cl_eq
  case cl_all => exact h.cl_all
  case low6 => exact h.low6
  case low7 =>
    intro x hx hf
    by_cases e : x = v
    · exact e ▸ hlow
    · refine h.low7 x hx fun f hff => ?_
      rcases hsup f hff with hff | rfl
      · exact hf f hff
      · exact fun e2 => e e2.symm
  case rch8 => intro f hf; exact h.rch8 f (hsub f hf)
  case own9 =>
    intro f hf u hu hle hq
    by_cases hvu : s.seen v ≤ s.seen u
    · have h1 := h.own9 (v, (adj v).length) hvm u hu hvu (fun q hqm _ => by
        rcases hsup q hqm with hqm | rfl
        · exact Nat.le_of_lt (hlt q hqm)
        · exact Nat.le_refl _)
      have h2 := hq (up, e') (by simp) (by simp only; omega)
      have h3 := hul f hf
      have : f.1 = up := h.inj (h.todo_m f (hsub f hf)).1 (h.todo_m _ hum).1 (by simp only at h2; omega)
      rw [this]
      exact Nat.le_trans hup h1
    · refine h.own9 f (hsub f hf) u hu hle fun q hqm hqle => ?_
      rcases hsup q hqm with hqm | rfl
      · exact hq q hqm hqle
      · exact absurd hqle hvu
  case edge10 =>
    intro u hu w hc
    refine h.edge10 u hu w ?_
    rcases hc with ⟨e, hm, hw⟩ | ⟨hf, hw⟩
    · exact .inl ⟨e, hsub _ hm, hw⟩
    · by_cases e : u = v
      · subst e; exact .inl ⟨_, hvm, by rw [List.take_length]; exact hw⟩
      · refine .inr ⟨fun f hff => ?_, hw⟩
        rcases hsup f hff with hff | rfl
        · exact hf f hff
        · exact fun e2 => e e2.symm
  case base11 =>
    intro u hu
    obtain ⟨f, hf, hle⟩ := h.base11 u hu
    rcases hsup f hf with hf | rfl
    · exact ⟨f, hf, hle⟩
    · exact ⟨(up, e'), by simp, by simp only at hle ⊢; omega⟩

/-- a component is shut -/
def TS.shut (s : TS) (s1 s2 : List Nat) (v : Nat) (t : List (Nat × Nat)) : TS :=
  { s with stack := s1, on := fun x => if x ∈ v :: s2 then 0 else s.on x, of := fun x => if x ∈ v :: s2 then s.cnt else s.of x, cnt := s.cnt + 1, todo := t }
theorem TI.shut (h : TI n adj s) {t : List (Nat × Nat)} {v : Nat} {s1 s2 : List Nat} (ht : s.todo = t ++ [(v, (adj v).length)]) (hlow : s.low v = s.seen v) (hs : s.stack = s1 ++ v :: s2) : TI n adj (s.shut s1 s2 v t) := by
  have hso := h.sorted
  rw [hs] at hso
  obtain ⟨hso1, hso2, hso3⟩ := List.pairwise_append.1 hso
  rw [List.pairwise_cons] at hso2
  have hst : ∀ x, x ∈ s.stack ↔ x ∈ s1 ∨ x ∈ v :: s2 := by intro x; rw [hs, List.mem_append]
  have h1 : ∀ x ∈ s1, s.seen x < s.seen v := fun x hx => hso3 x hx v (by simp)
  have h2 : ∀ x ∈ v :: s2, s.seen v ≤ s.seen x := by
    intro x hx
    rcases List.mem_cons.1 hx with rfl | hx
    · exact Nat.le_refl _
    · exact Nat.le_of_lt (hso2.1 x hx)
  have h12 : ∀ x ∈ s1, x ∉ v :: s2 := fun x hx hx2 => by have := h1 x hx; have := h2 x hx2; omega
  have hvm : (v, (adj v).length) ∈ s.todo := by rw [ht]; simp
  have hts := h.todo_s
  rw [ht] at hts
  have htl : ∀ f ∈ t, s.seen f.1 < s.seen v := fun f hf => pw_last (f := fun a : Nat × Nat => s.seen a.1) hts hf
  have hsub : ∀ f ∈ t, f ∈ s.todo := fun f hf => by rw [ht]; simp [hf]
  have hsup : ∀ f ∈ s.todo, f ∈ t ∨ f = (v, (adj v).length) := fun f hf => by rw [ht] at hf; simpa using hf
  have hown : ∀ u ∈ v :: s2, s.seen v ≤ s.low u := fun u hu => hlow ▸ h.own9 _ hvm u ((hst u).2 (.inr hu)) (h2 u hu) (fun q hq _ => by
    rcases hsup q hq with hq | rfl
    · exact Nat.le_of_lt (htl q hq)
    · exact Nat.le_refl _)
  have hnt : ∀ u ∈ v :: s2, u ≠ v → ∀ f ∈ s.todo, f.1 ≠ u := by
    intro u hu hne f hf e
    rcases hsup f hf with hf | rfl
    · have := htl f hf; have := h2 u hu; rw [e] at *; omega
    · exact hne e.symm
  have hback : ∀ k, ∀ u ∈ v :: s2, s.seen u ≤ k → Rch adj u v := by
    intro k
    induction k with
    | zero => intro u hu hk; have := h.pos u ((hst u).2 (.inr hu)); omega
    | succ k ih =>
      intro u hu hk
      by_cases e : u = v
      · exact e ▸ .refl _
      · have hlt := h.low7 u ((hst u).2 (.inr hu)) (hnt u hu e)
        obtain ⟨_, x, hx, hxe, hr⟩ := h.low6 u ((hst u).2 (.inr hu))
        have := hown u hu
        have hx2 : x ∈ v :: s2 := ((hst x).1 hx).resolve_left fun hx1 => by have := h1 x hx1; omega
        exact hr.trans (ih x hx2 (by omega))
  have hforth : ∀ u ∈ v :: s2, Rch adj v u := fun u hu => h.rch8 _ hvm u ((hst u).2 (.inr hu)) (h2 u hu)
  have hedge : ∀ u ∈ v :: s2, ∀ w ∈ adj u, 0 < s.seen w ∧ (w ∈ s.stack → w ∈ v :: s2) := by
    intro u hu w hw
    have hc : s.cons adj u w := by
      by_cases e : u = v
      · subst e; exact .inl ⟨_, hvm, by rw [List.take_length]; exact hw⟩
      · exact .inr ⟨hnt u hu e, hw⟩
    obtain ⟨e1, e2⟩ := h.edge10 u ((hst u).2 (.inr hu)) w hc
    refine ⟨e1, fun hm => ((hst w).1 hm).resolve_left fun hw1 => ?_⟩
    have := e2 hm; have := hown u hu; have := h1 w hw1; omega
  have hcl : ∀ x, (s.shut s1 s2 v t).cl x ↔ s.cl x ∨ x ∈ v :: s2 := by
    intro x
    simp only [TS.cl, TS.shut]
    constructor
    · rintro ⟨a, b⟩
      by_cases hx : x ∈ v :: s2
      · exact .inr hx
      · exact .inl ⟨a, fun hm => ((hst x).1 hm).elim b hx⟩
    · rintro (⟨a, b⟩ | hx)
      · exact ⟨a, fun hm => b ((hst x).2 (.inl hm))⟩
      · exact ⟨h.pos x ((hst x).2 (.inr hx)), fun hm => h12 x hm hx⟩
  have hclp : ∀ x, s.cl x → x ∉ v :: s2 := fun x hx hm => hx.2 ((hst x).2 (.inr hm))
  constructor
  case adj_lt => exact h.adj_lt
  case seen_lt => exact h.seen_lt
  case on_iff =>
    intro x hx
    have := h.on_iff x hx
    simp only [TS.shut]
    by_cases e : x ∈ v :: s2
    · rw [if_pos e]; symm; apply if_neg; exact fun hm => h12 x hm e
    · rw [if_neg e, this]
      by_cases e1 : x ∈ s1
      · rw [if_pos ((hst x).2 (.inl e1))]; symm; exact if_pos e1
      · rw [if_neg (fun hm => ((hst x).1 hm).elim e1 e)]; symm; exact if_neg e1
  case sorted => exact hso1
  case pos => intro x hx; exact h.pos x ((hst x).2 (.inl hx))
  case seen_le => exact h.seen_le
  case todo_s => exact (List.pairwise_append.1 hts).1
  case todo_m =>
    intro f hf
    obtain ⟨a, b⟩ := h.todo_m f (hsub f hf)
    exact ⟨((hst _).1 a).resolve_right fun hm => by have := htl f hf; have := h2 _ hm; omega, b⟩
  case cl_adj =>
    intro x w hx hw
    rw [hcl] at hx ⊢
    rcases hx with hx | hx
    · exact .inl (h.cl_adj x w hx hw)
    · obtain ⟨a, b⟩ := hedge x hx w hw
      by_cases hm : w ∈ s.stack
      · exact .inr (b hm)
      · exact .inl ⟨a, hm⟩
  case cl_of =>
    intro x hx
    rw [hcl] at hx
    simp only [TS.shut]
    rcases hx with hx | hx
    · rw [if_neg (hclp x hx)]; have := h.cl_of x hx; omega
    · rw [if_pos hx]; omega
  case cl_eq =>
    have hno : ∀ x y, s.cl x → y ∈ v :: s2 → ¬ Rch adj x y := fun x y hx hy hr => hclp y (hr.shut (P := s.cl) (fun a b => h.cl_adj a b) hx) hy
    intro x y hx hy
    rw [hcl] at hx hy
    simp only [TS.shut]
    rcases hx with hx | hx <;> rcases hy with hy | hy
    · rw [if_neg (hclp x hx), if_neg (hclp y hy)]; exact h.cl_eq x y hx hy
    · rw [if_neg (hclp x hx), if_pos hy]
      have := h.cl_of x hx
      exact ⟨fun e => by omega, fun hr => absurd hr.1 (hno x y hx hy)⟩
    · rw [if_neg (hclp y hy), if_pos hx]
      have := h.cl_of y hy
      exact ⟨fun e => by omega, fun hr => absurd hr.2 (hno y x hy hx)⟩
    · rw [if_pos hx, if_pos hy]
      exact ⟨fun _ => ⟨(hback _ x hx (Nat.le_refl _)).trans (hforth y hy), (hback _ y hy (Nat.le_refl _)).trans (hforth x hx)⟩, fun _ => rfl⟩
  case cl_all =>
    intro c hc
    simp only [TS.shut] at hc
    by_cases e : c = s.cnt
    · refine ⟨v, (hcl v).2 (.inr (by simp)), ?_⟩
      simp [TS.shut, e]
    · obtain ⟨x, hx, hxe⟩ := h.cl_all c (by omega)
      refine ⟨x, (hcl x).2 (.inl hx), ?_⟩
      simp only [TS.shut]
      rw [if_neg (hclp x hx)]; exact hxe
  case low6 =>
    intro x hx
    obtain ⟨a, u, hu, b, c⟩ := h.low6 x ((hst x).2 (.inl hx))
    refine ⟨a, u, ((hst u).1 hu).resolve_right fun hm => ?_, b, c⟩
    have := h2 u hm; have := h1 x hx; omega
  case low7 =>
    intro x hx hf
    refine h.low7 x ((hst x).2 (.inl hx)) fun f hff => ?_
    rcases hsup f hff with hff | rfl
    · exact hf f hff
    · intro e; simp only at e; subst e; have := h1 _ hx; omega
  case rch8 => intro f hf u hu; exact h.rch8 f (hsub f hf) u ((hst u).2 (.inl hu))
  case own9 =>
    intro f hf u hu hle hq
    refine h.own9 f (hsub f hf) u ((hst u).2 (.inl hu)) hle fun q hqm hqle => ?_
    rcases hsup q hqm with hqm | rfl
    · exact hq q hqm hqle
    · have := h1 u hu; simp only at hqle; omega
  case edge10 =>
    intro u hu w hc
    obtain ⟨a, b⟩ := h.edge10 u ((hst u).2 (.inl hu)) w (by
      rcases hc with ⟨e, hm, hw⟩ | ⟨hf, hw⟩
      · exact .inl ⟨e, hsub _ hm, hw⟩
      · refine .inr ⟨fun f hff => ?_, hw⟩
        rcases hsup f hff with hff | rfl
        · exact hf f hff
        · intro e; simp only at e; subst e; have := h1 _ hu; omega)
    exact ⟨a, fun hm => b ((hst w).2 (.inl hm))⟩
  case base11 =>
    intro u hu
    obtain ⟨f, hf, hle⟩ := h.base11 u ((hst u).2 (.inl hu))
    rcases hsup f hf with hf | rfl
    · exact ⟨f, hf, hle⟩
    · have := h1 u hu; simp only at hle; omega
/-- the last node's low is its own where nothing stands above -/
theorem TI.root (h : TI n adj s) {v e : Nat} (ht : s.todo = [(v, e)]) : s.low v = s.seen v := by
  have hv : (v, e) ∈ s.todo := by rw [ht]; simp
  obtain ⟨a, u, hu, b, _⟩ := h.low6 v (h.todo_m _ hv).1
  obtain ⟨f, hf, hle⟩ := h.base11 u hu
  rw [ht] at hf
  rw [List.mem_singleton.1 hf] at hle
  have : s.seen v ≤ s.seen u := hle
  omega
theorem TI.stack_nil (h : TI n adj s) (ht : s.todo = []) : s.stack = [] := by
  cases hs : s.stack with
  | nil => rfl
  | cons a l =>
    obtain ⟨f, hf, _⟩ := h.base11 a (by rw [hs]; simp)
    rw [ht] at hf; simp at hf
theorem TI.up_low (h : TI n adj s) {t : List (Nat × Nat)} {up e' v e : Nat} (ht : s.todo = t ++ [(up, e'), (v, e)]) (hlow : s.low v = s.seen v) : min (s.low up) (s.low v) = s.low up := by
  have h1 := (h.low6 up (h.todo_m (up, e') (by rw [ht]; simp)).1).1
  have h2 := h.todo_s
  rw [ht, show t ++ [(up, e'), (v, e)] = (t ++ [(up, e')]) ++ [(v, e)] by simp] at h2
  have : s.seen up < s.seen v := pw_last (f := fun a : Nat × Nat => s.seen a.1) h2 (y := (up, e')) (by simp)
  omega
theorem upd_self (f : Nat → Nat) (i : Nat) : upd f i (f i) = f := by
  funext j; unfold upd; by_cases h : j = i
  · rw [if_pos h, h]
  · rw [if_neg h]
def ts0 : TS := ⟨fun _ => 0, fun _ => 0, fun _ => 0, fun _ => 0, [], 0, 0, []⟩
theorem ti0 (hadj : ∀ v w, w ∈ adj v → w < n) : TI n adj ts0 := by
  constructor <;> first | exact hadj | simp [ts0, TS.cl, TS.cons]
/-- what the search tells -/
theorem TI.done (h : TI n adj s) (ht : s.todo = []) (hall : ∀ v, v < n → 0 < s.seen v) :
    (∀ v, v < n → s.of v < s.cnt) ∧ (∀ v w, v < n → w < n → (s.of v = s.of w ↔ Rch adj v w ∧ Rch adj w v)) ∧ (∀ c, c < s.cnt → ∃ v, v < n ∧ s.of v = c) := by
  have hs := h.stack_nil ht
  have hcl : ∀ v, v < n → s.cl v := fun v hv => ⟨hall v hv, by rw [hs]; simp⟩
  exact ⟨fun v hv => h.cl_of v (hcl v hv), fun v w hv hw => h.cl_eq v w (hcl v hv) (hcl w hw), fun c hc => let ⟨v, hv, e⟩ := h.cl_all c hc; ⟨v, h.seen_lt v hv.1, e⟩⟩
/-- what is left to do -/
def muN (n : Nat) (adj : Nat → List Nat) (seen : Nat → Nat) : Nat := ((List.range n).map fun v => if seen v = 0 then (adj v).length + 1 else 0).sum
def muT (adj : Nat → List Nat) (t : List (Nat × Nat)) : Nat := (t.map fun f => (adj f.1).length - f.2 + 1).sum
def TS.mu (n : Nat) (adj : Nat → List Nat) (s : TS) : Nat := muN n adj s.seen + muT adj s.todo
theorem muN_upd {n : Nat} {adj : Nat → List Nat} {seen : Nat → Nat} {w t : Nat} (hw : w < n) (h0 : seen w = 0) (ht : 0 < t) : muN n adj (upd seen w t) + ((adj w).length + 1) = muN n adj seen := by
  unfold muN
  induction n with
  | zero => omega
  | succ n ih =>
    rw [List.range_succ, List.map_append, List.sum_append, List.map_append, List.sum_append]
    simp only [List.map_cons, List.map_nil, List.sum_cons, List.sum_nil, Nat.add_zero]
    by_cases e : w = n
    · subst e
      rw [upd_at, if_neg (by omega : ¬ t = 0), if_pos h0]
      have : ((List.range w).map fun v => if upd seen w t v = 0 then (adj v).length + 1 else 0) = ((List.range w).map fun v => if seen v = 0 then (adj v).length + 1 else 0) := by
        apply List.map_congr_left
        intro v hv
        rw [upd_ne (by have := List.mem_range.1 hv; omega)]
      rw [this]; omega
    · rw [upd_ne (by omega : n ≠ w)]
      have := ih (by omega)
      omega
end Go.Proofs.Ytodhianmaogfpaa
