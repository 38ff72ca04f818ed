/- The reference's Reached, plainly: what is reached. The law UniverseOf. -/
import Derived.Test.YtflmocamfedbdaaGreatDoorUrB
import Derived.Test.YtflmocamfedbdaaGreatDoorUa
import Derived.Test.YtflmocamfedbdaaGreatDoorUrC
namespace Go.Proofs.YtflmocamfedbdaaGreatDoor
set_option linter.unusedSimpArgs false
set_option linter.unusedVariables false
open Go.RowKit
theorem atmQ_adds (a : Atm) : Adds (atmQ a) fun q m => satP a q = true ∧ m = q.name := by
  intro T q
  unfold atmQ
  by_cases h : satP a q = true
  · rw [if_pos h]
    refine ⟨List.prefix_append _ _, fun m ⟨_, hm⟩ => by subst hm; simp, fun m hm => ?_⟩
    rcases List.mem_append.1 hm with hm | hm
    · exact .inl hm
    · exact .inr ⟨h, List.mem_singleton.1 hm⟩
  · rw [if_neg h]
    exact ⟨List.prefix_refl _, fun m ⟨h1, _⟩ => absurd h1 h, fun m hm => .inl hm⟩
theorem atmF_adds (all : List Pkg) : Adds (atmF all) fun a m => ∃ q ∈ all, satP a q = true ∧ m = q.name := fun T a => (atmQ_adds a).fold T all
theorem lstF_adds (all : List Pkg) : Adds (lstF all) fun L m => ∃ c ∈ L, ∃ a ∈ c, ∃ q ∈ all, satP a q = true ∧ m = q.name := fun T L => (atmF_adds all).fold.fold T L
theorem pkgF_adds (all : List Pkg) : Adds (pkgF all) fun x m => x.2 = true ∧ Ask all x.1 m := by
  intro T x
  unfold pkgF
  by_cases h : x.2 = true
  · rw [if_pos h]
    obtain ⟨h1, h2, h3⟩ := (lstF_adds all).fold T [x.1.pre, x.1.dep, x.1.rcm]
    refine ⟨h1, fun m ⟨_, c, hc, r⟩ => h2 m ?_, fun m hm => ?_⟩
    · simp only [relL, List.mem_append] at hc
      rcases hc with hc | hc | hc
      · exact ⟨x.1.pre, by simp, c, hc, r⟩
      · exact ⟨x.1.dep, by simp, c, hc, r⟩
      · exact ⟨x.1.rcm, by simp, c, hc, r⟩
    · rcases h3 m hm with hm | ⟨L, hL, c, hc, r⟩
      · exact .inl hm
      · refine .inr ⟨h, c, ?_, r⟩
        simp only [List.mem_cons, List.not_mem_nil, or_false] at hL
        simp only [relL, List.mem_append]
        rcases hL with rfl | rfl | rfl
        · exact .inl hc
        · exact .inr (.inl hc)
        · exact .inr (.inr hc)
  · rw [if_neg h]
    exact ⟨List.prefix_refl _, fun m ⟨h1, _⟩ => absurd h1 h, fun m hm => .inl hm⟩
/-- what a round puts in -/
def Gv (all : List Pkg) (I : List Bool) (m : List UInt8) : Prop := ∃ (i : Nat) (p : Pkg), all[i]? = some p ∧ I[i]? = some true ∧ Ask all p m
theorem rnd_mem {all : List Pkg} {I : List Bool} {W : Nms} {m : List UInt8} : m ∈ (rndF all (I, W)).2 ↔ m ∈ W ∨ Gv all (rndF all (I, W)).1 m := by
  have h : m ∈ (rndF all (I, W)).2 ↔ m ∈ (all.zip (stpI all I W)).foldl (pkgF all) W := by
    unfold rndF
    dsimp only
    by_cases h : 2000 < ((all.zip (stpI all I W)).foldl (pkgF all) W).length
    · rw [if_pos h, uniS_mem]
    · rw [if_neg h]
  rw [h]
  obtain ⟨h1, h2, h3⟩ := (pkgF_adds all).fold W (all.zip (stpI all I W))
  show _ ↔ m ∈ W ∨ Gv all (stpI all I W) m
  constructor
  · intro hm
    rcases h3 m hm with hm | ⟨x, hx, hb, ha⟩
    · exact .inl hm
    · obtain ⟨i, hi⟩ := List.mem_iff_getElem?.1 hx
      obtain ⟨h4, h5⟩ := List.getElem?_zip_eq_some.1 hi
      exact .inr ⟨i, x.1, h4, by rw [h5, hb], ha⟩
  · rintro (hm | ⟨i, p, hp, hb, ha⟩)
    · exact h1.subset hm
    · exact h2 m ⟨(p, true), List.mem_of_getElem? (zip_at hp hb), rfl, ha⟩
theorem rnd_len {all : List Pkg} {I : List Bool} {W : Nms} (h : I.length = all.length) : (rndF all (I, W)).1.length = all.length := stpI_len h
theorem rnd_at {all : List Pkg} {I : List Bool} {W : Nms} {k : Nat} {p : Pkg} {b : Bool} (hp : all[k]? = some p) (hb : I[k]? = some b) : (rndF all (I, W)).1[k]? = some (b || W.any fun y => decide (y = p.name)) := stpI_at hp hb
theorem any_name {W : Nms} {n : List UInt8} : (W.any fun y => decide (y = n)) = true ↔ n ∈ W := by
  rw [List.any_eq_true]
  constructor
  · rintro ⟨y, hy, h⟩
    have : y = n := by simpa using h
    rwa [← this]
  · intro h; exact ⟨n, h, by simp⟩
theorem gv_name {all : List Pkg} {I : List Bool} {m : List UInt8} (h : Gv all I m) : m ∈ all.map Pkg.name := by
  obtain ⟨i, p, _, _, c, _, a, _, q, hq, _, rfl⟩ := h
  exact List.mem_map.2 ⟨q, hq, rfl⟩
section
variable (all : List Pkg) (seeds : Nms)
abbrev itA (k : Nat) : List Bool × Nms := itR all (List.replicate all.length false, seeds) k
theorem it_len : ∀ k, (itA all seeds k).1.length = all.length
  | 0 => by simp [itR]
  | k + 1 => rnd_len (it_len k)
theorem it_sub : ∀ k, ∀ m ∈ (itA all seeds k).2, m ∈ seeds ++ all.map Pkg.name
  | 0 => fun m hm => List.mem_append.2 (.inl hm)
  | k + 1 => fun m hm => by
    rcases rnd_mem.1 hm with hm | hm
    · exact it_sub k m hm
    · exact List.mem_append.2 (.inr (gv_name hm))
theorem it_bound (h : seeds.length + all.length ≤ 2000) : ∀ k, (itA all seeds k).2.length ≤ 2000
  | 0 => by show seeds.length ≤ 2000; omega
  | k + 1 => by
    show (rndF all (itA all seeds k)).2.length ≤ 2000
    have hs := it_sub all seeds (k + 1)
    unfold rndF
    dsimp only
    by_cases hc : 2000 < ((all.zip (stpI all (itA all seeds k).1 (itA all seeds k).2)).foldl (pkgF all) (itA all seeds k).2).length
    · rw [if_pos hc]
      have hn := uni_nodup ((all.zip (stpI all (itA all seeds k).1 (itA all seeds k).2)).foldl (pkgF all) (itA all seeds k).2) (out := []) .nil
      have := nodup_sub (L := seeds ++ all.map Pkg.name) hn fun x hx => hs x (by
        show x ∈ (rndF all (itA all seeds k)).2
        unfold rndF
        dsimp only
        rw [if_pos hc]
        exact hx)
      rw [List.length_append, List.length_map] at this
      exact Nat.le_trans this h
    · rw [if_neg hc]
      omega
theorem it_sound : ∀ k, (∀ n ∈ (itA all seeds k).2, n ∈ seeds ∨ Rch all seeds n) ∧ ∀ (i : Nat) p, all[i]? = some p → (itA all seeds k).1[i]? = some true → Rch all seeds p.name
  | 0 => ⟨fun n hn => .inl hn, fun i p hp hb => by
    have hb : (List.replicate all.length false)[i]? = some true := hb
    rw [List.getElem?_replicate] at hb
    split at hb <;> simp at hb⟩
  | k + 1 => by
    obtain ⟨h1, h2⟩ := it_sound k
    have h3 : ∀ (i : Nat) p, all[i]? = some p → (itA all seeds (k + 1)).1[i]? = some true → Rch all seeds p.name := fun i p hp hb => by
      have hi := (List.getElem?_eq_some_iff.1 hp).1
      have hbk : (itA all seeds k).1[i]? = some ((itA all seeds k).1[i]'(by rw [it_len]; exact hi)) := List.getElem?_eq_getElem _
      have h4 : (itA all seeds (k + 1)).1[i]? = _ := rnd_at hp hbk
      rw [h4] at hb
      injection hb with hb
      rw [Bool.or_eq_true] at hb
      rcases hb with hb | hb
      · rw [hb] at hbk
        exact h2 i p hp hbk
      · rw [any_name] at hb
        rcases h1 _ hb with hs | hr
        · exact .seed hs (List.any_eq_true.2 ⟨p, List.mem_of_getElem? hp, by simp [nmP]⟩)
        · exact hr
    refine ⟨fun n hn => ?_, h3⟩
    rcases rnd_mem.1 hn with hn | ⟨i, p, hp, hb, c, hc, a, ha, q, hq, hs, rfl⟩
    · exact h1 n hn
    · exact .inr (.step (h3 i p hp hb) (List.mem_of_getElem? hp) hc ha hq hs)
theorem it_seeds : ∀ k, ∀ n ∈ seeds, n ∈ (itA all seeds k).2
  | 0 => fun n hn => hn
  | k + 1 => fun n hn => rnd_mem.2 (.inl (it_seeds k n hn))
theorem it_mono (k : Nat) {i : Nat} (h : (itA all seeds k).1[i]? = some true) : (itA all seeds (k + 1)).1[i]? = some true := by
  have hi := (List.getElem?_eq_some_iff.1 h).1
  rw [it_len] at hi
  have h4 : (itA all seeds (k + 1)).1[i]? = _ := rnd_at (List.getElem?_eq_getElem hi) h
  rw [h4]; rfl
theorem it_mono_le {k m : Nat} (hk : k ≤ m) {i : Nat} (h : (itA all seeds k).1[i]? = some true) : (itA all seeds m).1[i]? = some true := by
  induction m with
  | zero => obtain rfl : k = 0 := by omega
            exact h
  | succ m ih =>
    rcases Nat.lt_or_ge k (m + 1) with h1 | h1
    · exact it_mono all seeds m (ih (by omega))
    · obtain rfl : k = m + 1 := by omega
      exact h
theorem it_full {k : Nat} (hk : 1 ≤ k) (he : (itA all seeds (k + 1)).1 = (itA all seeds k).1) {n : List UInt8} (hr : Rch all seeds n) : ∀ (i : Nat) p, all[i]? = some p → p.name = n → (itA all seeds (k + 1)).1[i]? = some true := by
  have hin : ∀ (i : Nat) p, all[i]? = some p → p.name ∈ (itA all seeds k).2 → (itA all seeds (k + 1)).1[i]? = some true := fun i p hp hm => by
    have hi := (List.getElem?_eq_some_iff.1 hp).1
    have hbk : (itA all seeds k).1[i]? = some ((itA all seeds k).1[i]'(by rw [it_len]; exact hi)) := List.getElem?_eq_getElem _
    have h4 : (itA all seeds (k + 1)).1[i]? = _ := rnd_at hp hbk
    rw [h4, any_name.2 hm, Bool.or_true]
  induction hr with
  | seed h1 _ => intro i p hp hn; exact hin i p hp (by rw [hn]; exact it_seeds all seeds k _ h1)
  | @step p0 c a q _ hp0 hc ha hq hs ih =>
    intro i p hp hn
    obtain ⟨j, hj⟩ := List.mem_iff_getElem?.1 hp0
    have h1 := ih j p0 hj rfl
    rw [he] at h1
    refine hin i p hp ?_
    obtain ⟨m, rfl⟩ : ∃ m, k = m + 1 := ⟨k - 1, by omega⟩
    exact rnd_mem.2 (.inr ⟨j, p0, hj, h1, c, hc, a, ha, q, hq, hs, hn⟩)
end
theorem count_lt : ∀ {I J : List Bool}, I.length = J.length → (∀ i : Nat, I[i]? = some true → J[i]? = some true) → I ≠ J → I.count true < J.count true
  | [], [], _, _, h => absurd rfl h
  | [], _ :: _, h, _, _ => by simp at h
  | _ :: _, [], h, _, _ => by simp at h
  | a :: I, b :: J, hl, hm, hne => by
    have hl' : I.length = J.length := by simpa using hl
    have hm' : ∀ i : Nat, I[i]? = some true → J[i]? = some true := fun i h => by have := hm (i + 1) (by simpa using h); simpa using this
    have h0 : a = true → b = true := fun h => by have := hm 0 (by simp [h]); simpa using this
    by_cases he : I = J
    · subst he
      have hab : a ≠ b := fun h => hne (by rw [h])
      rcases a <;> rcases b <;> simp_all
    · have ih := count_lt hl' hm' he
      rcases a <;> rcases b <;> simp_all <;> omega
theorem count_le_len (I : List Bool) : I.count true ≤ I.length := List.count_le_length ..
theorem it_stable (all : List Pkg) (seeds : Nms) (h0 : 0 < all.length) : ∃ k, 1 ≤ k ∧ k ≤ all.length ∧ (itA all seeds (k + 1)).1 = (itA all seeds k).1 := by
  by_cases hex : ∃ k, 1 ≤ k ∧ k ≤ all.length ∧ (itA all seeds (k + 1)).1 = (itA all seeds k).1
  · exact hex
  · exfalso
    have hne : ∀ k, 1 ≤ k → k ≤ all.length → (itA all seeds k).1 ≠ (itA all seeds (k + 1)).1 := fun k h1 h2 h3 => hex ⟨k, h1, h2, h3.symm⟩
    have hc : ∀ j, j ≤ all.length → (itA all seeds 1).1.count true + j ≤ (itA all seeds (j + 1)).1.count true := by
      intro j
      induction j with
      | zero => intro _; exact Nat.le_refl _
      | succ j ih =>
        intro hj
        have h1 := ih (by omega)
        have h2 := count_lt (by rw [it_len, it_len]) (fun i h => it_mono all seeds (j + 1) h) (hne (j + 1) (by omega) hj)
        omega
    have h1 := hc all.length (Nat.le_refl _)
    have h2 := count_le_len (itA all seeds (all.length + 1)).1
    rw [it_len] at h2
    have h3 : (itA all seeds 1).1.count true = 0 := by omega
    have hf : ∀ i : Nat, (itA all seeds 1).1[i]? ≠ some true := fun i h => by
      have : true ∈ (itA all seeds 1).1 := List.mem_of_getElem? h
      exact absurd this (List.count_eq_zero.1 h3)
    refine hne 1 (Nat.le_refl _) h0 ?_
    refine List.ext_getElem? fun i => ?_
    rcases Nat.lt_or_ge i all.length with hi | hi
    · have hp : all[i]? = some all[i] := List.getElem?_eq_getElem hi
      obtain ⟨b1, hb1⟩ : ∃ b, (itA all seeds 1).1[i]? = some b := ⟨_, List.getElem?_eq_getElem (by rw [it_len]; exact hi)⟩
      obtain ⟨b0, hb0⟩ : ∃ b, (itA all seeds 0).1[i]? = some b := ⟨_, List.getElem?_eq_getElem (by rw [it_len]; exact hi)⟩
      have h4 : (itA all seeds 2).1[i]? = some (b1 || (itA all seeds 1).2.any fun y => decide (y = all[i].name)) := rnd_at hp hb1
      have h5 : (itA all seeds 1).1[i]? = some (b0 || (itA all seeds 0).2.any fun y => decide (y = all[i].name)) := rnd_at hp hb0
      have hno : ¬ all[i].name ∈ (itA all seeds 0).2 := fun hm => hf i (by rw [h5, any_name.2 hm, Bool.or_true])
      have hno1 : ((itA all seeds 1).2.any fun y => decide (y = all[i].name)) = false := by
        rcases hx : (itA all seeds 1).2.any fun y => decide (y = all[i].name)
        · rfl
        · rcases rnd_mem.1 (any_name.1 hx) with hm | ⟨j, p, _, hb, _⟩
          · exact absurd hm hno
          · exact absurd hb (hf j)
      show (itA all seeds 1).1[i]? = (itA all seeds 2).1[i]?
      rw [h4, hno1, Bool.or_false, hb1]
    · rw [List.getElem?_eq_none (by rw [it_len]; exact hi), List.getElem?_eq_none (by rw [it_len]; exact hi)]
theorem outR_map (f : Pkg → Bool) : ∀ all : List Pkg, outR all (all.map f) = all.filter f
  | [] => rfl
  | p :: all => by
    have ih := outR_map f all
    unfold outR at ih ⊢
    rw [List.map_cons, List.zip_cons_cons, List.filter_cons]
    rcases h : f p
    · simp [h, ih]
    · simp [h, ih]
open Classical in
theorem rsR_eq (all : List Pkg) (seeds : Nms) : rsR all seeds = rchS all seeds := by
  unfold rsR rchS
  rw [← outR_map (fun p => decide (Rch all seeds p.name)) all]
  congr 1
  refine List.ext_getElem? fun i => ?_
  rw [List.getElem?_map]
  rcases Nat.lt_or_ge i all.length with hi | hi
  · have hp : all[i]? = some all[i] := List.getElem?_eq_getElem hi
    obtain ⟨k, hk1, hk2, he⟩ := it_stable all seeds (by omega)
    have hb : (itA all seeds (all.length + 1)).1[i]? = some ((itA all seeds (all.length + 1)).1[i]'(by rw [it_len]; exact hi)) := List.getElem?_eq_getElem _
    show (itA all seeds (all.length + 1)).1[i]? = _
    rw [hp]
    by_cases hr : Rch all seeds all[i].name
    · rw [it_mono_le all seeds (by omega : k + 1 ≤ all.length + 1) (it_full all seeds hk1 he hr i _ hp rfl)]
      simp [hr]
    · rw [hb]
      simp only [Option.map_some, hr, decide_false, Option.some.injEq]
      rcases hx : (itA all seeds (all.length + 1)).1[i]'(by rw [it_len]; exact hi)
      · rfl
      · rw [hx] at hb
        exact absurd ((it_sound all seeds _).2 i _ hp hb) hr
  · show (itA all seeds (all.length + 1)).1[i]? = _
    rw [List.getElem?_eq_none (by rw [it_len]; exact hi), List.getElem?_eq_none hi]
    rfl
end Go.Proofs.YtflmocamfedbdaaGreatDoor
namespace Go.Proofs.YtflmocamfedbdaaGreatDoor
set_option linter.unusedSimpArgs false
set_option linter.unusedVariables false
open Go.RowKit
attribute [local go_sem ↓] Go.wp_at_zero Go.wp_at_succ
attribute [local irreducible] wpQuiet
theorem rch_seeds {s : List Pkg} {a b : List (List UInt8)} (h : ∀ n, n ∈ a ↔ n ∈ b) : rchS s a = rchS s b := by
  have h1 : ∀ {a b : List (List UInt8)}, (∀ n, n ∈ a → n ∈ b) → ∀ n, Rch s a n → Rch s b n := by
    intro a b hab n hr
    induction hr with
    | seed h1 h2 => exact .seed (hab _ h1) h2
    | step _ h1 h2 h3 h4 h5 ih => exact .step ih h1 h2 h3 h4 h5
  unfold rchS
  congr 1
  funext p
  rw [decide_eq_decide]
  exact ⟨h1 (fun n hn => (h n).1 hn) _, h1 (fun n hn => (h n).2 hn) _⟩
theorem rsR_rch (t : List Pkg) (names sn : List (List UInt8)) : rsR t (names ++ sn) = rchS t (sn ++ names) := by
  rw [rsR_eq]
  exact rch_seeds fun n => by rw [List.mem_append, List.mem_append, or_comm]
theorem l12_l15 {l : List Pkg} (h : lightM 40 60 15 15 l = true) : ∀ p ∈ l, l15 p := fun p hp => by
  obtain ⟨_, h1, h2, h3⟩ := (lm_of h).2 p hp
  exact ⟨h1, h2, h3⟩
theorem l15_all {s : List Ent} {repo : List Pkg} (hf : ∀ p ∈ repo, l15 p) (hfs : ∀ x ∈ s, l15 x.pkg) : ∀ p ∈ srt pLt (allL s repo), l15 p := fun p hp => by
  rw [mem_srt] at hp
  rcases List.mem_append.1 hp with hp | hp
  · obtain ⟨x, hx, rfl⟩ := List.mem_map.1 hp
    exact hfs x hx
  · exact hf p (List.mem_filter.1 hp).1
set_option maxRecDepth 100000 in
set_option maxHeartbeats 1000000 in
theorem of_h1 (A A2 A3 : Option Addr) (c c2 c3 : Nat) (repo : List Pkg) (s : List Ent) (names : List (List UInt8)) (w : World) (hl : Pkgs w A c repo) (hs : Ents w A2 c2 s) (hn : Strs w A3 c3 names) (hLR : lightM 40 60 15 15 repo = false) : Calls Tryz.prog 7 #[.slice A repo.length c, .slice A2 s.length c2, .slice A3 names.length c3] w fun e w' => e = .returned (.bool true) ∧ Below w.heap.size w w' := by
  have hbd := hl.bd
  have hbd2 := hs.bd
  have HL := Lib.hid hl
  have HS := Lib.hid hs
  have HLR := Lib.hid hLR
  clear hl hs hLR
  go_enter Tryz.func7, Tryz.ntmps7
  go_wp2_with fail
  refine (light12_any A c repo _ HL.out).mono ?_
  rintro e w1 ⟨rfl, hb1⟩
  rw [HLR.out]
  have HB := Lib.hid hb1
  clear hb1
  go_wp2_with fail
  refine (awake12_any _).mono ?_
  rintro e w99 ⟨rfl, hb99⟩
  go_wp2
  go_ret
  exact ⟨rfl, below_next HB.out hb99⟩
set_option maxRecDepth 100000 in
set_option maxHeartbeats 1000000 in
theorem of_h2 (A A2 A3 : Option Addr) (c c2 c3 : Nat) (repo : List Pkg) (s : List Ent) (names : List (List UInt8)) (w : World) (hl : Pkgs w A c repo) (hs : Ents w A2 c2 s) (hn : Strs w A3 c3 names) (hLR : lightM 40 60 15 15 repo = true) (hLS : lightM 40 60 15 15 (s.map Ent.pkg) = false) : Calls Tryz.prog 7 #[.slice A repo.length c, .slice A2 s.length c2, .slice A3 names.length c3] w fun e w' => e = .returned (.bool true) ∧ Below w.heap.size w w' := by
  have hbd := hl.bd
  have hbd2 := hs.bd
  have HL := Lib.hid hl
  have HS := Lib.hid hs
  have HLR := Lib.hid hLR
  clear hl hs hLR
  obtain ⟨sp, hsp⟩ : ∃ sp, sp = s.map Ent.pkg := ⟨_, rfl⟩
  have HSP := Lib.hid hsp.symm
  rw [← hsp] at hLS
  have HLS := Lib.hid hLS
  clear hLS hsp
  go_enter Tryz.func7, Tryz.ntmps7
  go_wp2_with fail
  refine (light12_any A c repo _ HL.out).mono ?_
  rintro e w1 ⟨rfl, hb1⟩
  rw [HLR.out]
  have HB := Lib.hid hb1
  clear hb1
  go_wp2_with fail
  refine (bare12_any A2 c2 s _ (HS.out.kept (Kept.of_below HB.out))).mono ?_
  rintro e w2 ⟨A4, c4, rfl, hp4, hb2⟩
  rw [HSP.out] at hp4 ⊢
  have HP4 := Lib.hid hp4
  have HB := Lib.hid (below_next HB.out hb2)
  clear hb2 hp4
  go_wp2_with fail
  refine (light12_any A4 c4 sp _ HP4.out).mono ?_
  rintro e w3 ⟨rfl, hb3⟩
  rw [HLS.out]
  have HB := Lib.hid (below_next HB.out hb3)
  clear hb3 HP4
  go_wp2_with fail
  refine (awake12_any _).mono ?_
  rintro e w99 ⟨rfl, hb99⟩
  go_wp2
  go_ret
  exact ⟨rfl, below_next HB.out hb99⟩
set_option maxRecDepth 100000 in
set_option maxHeartbeats 1000000 in
theorem of_h3 (A A2 A3 : Option Addr) (c c2 c3 : Nat) (repo : List Pkg) (s : List Ent) (names : List (List UInt8)) (w : World) (hl : Pkgs w A c repo) (hs : Ents w A2 c2 s) (hn : Strs w A3 c3 names) (hLR : lightM 40 60 15 15 repo = true) (hLS : lightM 40 60 15 15 (s.map Ent.pkg) = true) (h20 : 20 < names.length) : Calls Tryz.prog 7 #[.slice A repo.length c, .slice A2 s.length c2, .slice A3 names.length c3] w fun e w' => e = .returned (.bool true) ∧ Below w.heap.size w w' := by
  have hd20 : decide ((20 : Int) < (names.length : Int)) = true := decide_eq_true (by omega)
  have hbd := hl.bd
  have hbd2 := hs.bd
  have HL := Lib.hid hl
  have HS := Lib.hid hs
  have HLR := Lib.hid hLR
  clear hl hs hLR
  obtain ⟨sp, hsp⟩ : ∃ sp, sp = s.map Ent.pkg := ⟨_, rfl⟩
  have HSP := Lib.hid hsp.symm
  rw [← hsp] at hLS
  have HLS := Lib.hid hLS
  clear hLS hsp
  go_enter Tryz.func7, Tryz.ntmps7
  go_wp2_with fail
  refine (light12_any A c repo _ HL.out).mono ?_
  rintro e w1 ⟨rfl, hb1⟩
  rw [HLR.out]
  have HB := Lib.hid hb1
  clear hb1
  go_wp2_with fail
  refine (bare12_any A2 c2 s _ (HS.out.kept (Kept.of_below HB.out))).mono ?_
  rintro e w2 ⟨A4, c4, rfl, hp4, hb2⟩
  rw [HSP.out] at hp4 ⊢
  have HP4 := Lib.hid hp4
  have HB := Lib.hid (below_next HB.out hb2)
  clear hb2 hp4
  go_wp2_with fail
  refine (light12_any A4 c4 sp _ HP4.out).mono ?_
  rintro e w3 ⟨rfl, hb3⟩
  rw [HLS.out]
  have HB := Lib.hid (below_next HB.out hb3)
  clear hb3 HP4
  go_wp2_with fail
  refine (awake12_any _).mono ?_
  rintro e w99 ⟨rfl, hb99⟩
  go_wp2
  go_ret
  exact ⟨rfl, below_next HB.out hb99⟩
set_option maxRecDepth 100000 in
set_option maxHeartbeats 2000000 in
theorem of_y (A A2 A3 : Option Addr) (c c2 c3 : Nat) (repo : List Pkg) (s : List Ent) (names : List (List UInt8)) (w : World) (hl : Pkgs w A c repo) (hs : Ents w A2 c2 s) (hn : Strs w A3 c3 names) (hLR : lightM 40 60 15 15 repo = true) (hLS : lightM 40 60 15 15 (s.map Ent.pkg) = true) (h20 : names.length ≤ 20) (h0 : allE s repo = 0) : Calls Tryz.prog 7 #[.slice A repo.length c, .slice A2 s.length c2, .slice A3 names.length c3] w fun e w' => e = .returned (.bool true) ∧ Below w.heap.size w w' := by
  have hd20 : decide ((20 : Int) < (names.length : Int)) = false := decide_eq_false (by omega)
  have H15 := Lib.hid (l15_all (s := s) (l12_l15 hLR) (fun x (hx : x ∈ s) => l12_l15 hLS x.pkg (List.mem_map.2 ⟨x, hx, rfl⟩)))
  have HL24 := Lib.hid (all_len24 h0)
  have HS10 := Lib.hid (ents_zero (allE_zero h0).2.1).1
  have HF := Lib.hid (l12_few hLR)
  have HM := Lib.hid (l12_smP hLR)
  have HFS := Lib.hid (fun x (hx : x ∈ s) => l12_few hLS x.pkg (List.mem_map.2 ⟨x, hx, rfl⟩))
  have HMS := Lib.hid (fun x (hx : x ∈ s) => l12_smP hLS x.pkg (List.mem_map.2 ⟨x, hx, rfl⟩))
  have HN := Lib.hid hn
  have hbd := hl.bd
  have hbd2 := hs.bd
  have HL := Lib.hid hl
  have HS := Lib.hid hs
  have HLR := Lib.hid hLR
  clear hl hs hLR
  obtain ⟨sp, hsp⟩ : ∃ sp, sp = s.map Ent.pkg := ⟨_, rfl⟩
  have HSP := Lib.hid hsp.symm
  rw [← hsp] at hLS
  have HLS := Lib.hid hLS
  clear hLS hsp
  have H0 := Lib.hid h0
  obtain ⟨t, ht⟩ : ∃ t, t = srt pLt (allL s repo) := ⟨_, rfl⟩
  have HT := Lib.hid ht.symm
  rw [← ht] at H15 HL24
  have HRS := Lib.hid (rsR_rch t names (entN s))
  have htl : t.length ≤ 24 := HL24.out
  have hs10 : s.length ≤ 10 := HS10.out
  clear h0 ht hn
  go_enter Tryz.func7, Tryz.ntmps7
  go_wp2_with fail
  refine (light12_any A c repo _ HL.out).mono ?_
  rintro e w1 ⟨rfl, hb1⟩
  rw [HLR.out]
  have HB := Lib.hid hb1
  clear hb1
  go_wp2_with fail
  refine (bare12_any A2 c2 s _ (HS.out.kept (Kept.of_below HB.out))).mono ?_
  rintro e w2 ⟨A4, c4, rfl, hp4, hb2⟩
  rw [HSP.out] at hp4 ⊢
  have HP4 := Lib.hid hp4
  have HB := Lib.hid (below_next HB.out hb2)
  clear hb2 hp4
  go_wp2_with fail
  refine (light12_any A4 c4 sp _ HP4.out).mono ?_
  rintro e w3 ⟨rfl, hb3⟩
  rw [HLS.out]
  have HB := Lib.hid (below_next HB.out hb3)
  clear hb3 HP4
  go_wp2_with fail
  refine (uniOf_any A A2 A3 c c2 c3 repo s names _ (HL.out.kept (Kept.of_below HB.out)) (HS.out.kept (Kept.of_below HB.out)) (Strs.kept HN.out (Kept.of_below HB.out)) HF.out HFS.out HM.out HMS.out).mono ?_
  rintro e w5 (⟨_, A5, c5, rfl, hp5, hb5⟩ | ⟨h0, _⟩)
  · rw [HT.out] at hp5 ⊢
    have HP5 := Lib.hid hp5
    have HB := Lib.hid (below_next HB.out hb5)
    clear hb5 hp5
    go_wp2_with fail
    refine (rall_any A A2 c c2 repo s _ (HL.out.kept (Kept.of_below HB.out)) (HS.out.kept (Kept.of_below HB.out)) HF.out HFS.out).mono ?_
    rintro e w6 (⟨_, A6, c6, rfl, hp6, hb6⟩ | ⟨h0, _⟩)
    · rw [HT.out] at hp6 ⊢
      have HP6 := Lib.hid hp6
      have HP5 := Lib.hid (HP5.out.kept (Kept.of_below hb6))
      have HB := Lib.hid (below_next HB.out hb6)
      clear hb6 hp6
      go_wp2_with fail
      refine (rreached_any A6 A2 A3 c6 c2 c3 t s names _ HP6.out (HS.out.kept (Kept.of_below HB.out)) (Strs.kept HN.out (Kept.of_below HB.out)) H15.out (by omega) (by omega) (by omega) (fun k => ⟨it_bound t (names ++ entN s) (by rw [List.length_append, entN, List.length_map]; omega) k, it_len t (names ++ entN s) k⟩)).mono ?_
      rintro e w7 ⟨A7, c7, rfl, hp7, hb7⟩
      rw [HRS.out] at hp7 ⊢
      have HP7 := Lib.hid hp7
      have HP5 := Lib.hid (HP5.out.kept (Kept.of_below hb7))
      have HB := Lib.hid (below_next HB.out hb7)
      clear hb7 hp7
      go_wp2_with fail
      refine (samePkgs_any _ _ _ _ _ _ _ HP5.out HP7.out).mono ?_
      rintro e w8 ⟨rfl, hb8⟩
      rw [decide_eq_true (rfl : rchS t (entN s ++ names) = rchS t (entN s ++ names))]
      have HB := Lib.hid (below_next HB.out hb8)
      clear hb8
      go_wp2_with fail
      refine (awake12_any _).mono ?_
      rintro e w99 ⟨rfl, hb99⟩
      go_wp2
      go_ret
      exact ⟨rfl, below_next HB.out hb99⟩
    · exact absurd H0.out h0
  · exact absurd H0.out h0
set_option maxRecDepth 100000 in
set_option maxHeartbeats 2000000 in
theorem of_n (A A2 A3 : Option Addr) (c c2 c3 : Nat) (repo : List Pkg) (s : List Ent) (names : List (List UInt8)) (w : World) (hl : Pkgs w A c repo) (hs : Ents w A2 c2 s) (hn : Strs w A3 c3 names) (hLR : lightM 40 60 15 15 repo = true) (hLS : lightM 40 60 15 15 (s.map Ent.pkg) = true) (h20 : names.length ≤ 20) (h0 : allE s repo ≠ 0) : Calls Tryz.prog 7 #[.slice A repo.length c, .slice A2 s.length c2, .slice A3 names.length c3] w fun e w' => e = .returned (.bool true) ∧ Below w.heap.size w w' := by
  have hd20 : decide ((20 : Int) < (names.length : Int)) = false := decide_eq_false (by omega)
  have HF := Lib.hid (l12_few hLR)
  have HM := Lib.hid (l12_smP hLR)
  have HFS := Lib.hid (fun x (hx : x ∈ s) => l12_few hLS x.pkg (List.mem_map.2 ⟨x, hx, rfl⟩))
  have HMS := Lib.hid (fun x (hx : x ∈ s) => l12_smP hLS x.pkg (List.mem_map.2 ⟨x, hx, rfl⟩))
  have HN := Lib.hid hn
  have hbd := hl.bd
  have hbd2 := hs.bd
  have HL := Lib.hid hl
  have HS := Lib.hid hs
  have HLR := Lib.hid hLR
  clear hl hs hLR
  obtain ⟨sp, hsp⟩ : ∃ sp, sp = s.map Ent.pkg := ⟨_, rfl⟩
  have HSP := Lib.hid hsp.symm
  rw [← hsp] at hLS
  have HLS := Lib.hid hLS
  clear hLS hsp
  have H0 := Lib.hid h0
  obtain ⟨E, he⟩ : ∃ E, E = allE s repo := ⟨_, rfl⟩
  have HE := Lib.hid he.symm
  have hE0 : (E != 0) = true := by rw [bne_iff_ne, he]; exact h0
  clear h0 he hn
  go_enter Tryz.func7, Tryz.ntmps7
  go_wp2_with fail
  refine (light12_any A c repo _ HL.out).mono ?_
  rintro e w1 ⟨rfl, hb1⟩
  rw [HLR.out]
  have HB := Lib.hid hb1
  clear hb1
  go_wp2_with fail
  refine (bare12_any A2 c2 s _ (HS.out.kept (Kept.of_below HB.out))).mono ?_
  rintro e w2 ⟨A4, c4, rfl, hp4, hb2⟩
  rw [HSP.out] at hp4 ⊢
  have HP4 := Lib.hid hp4
  have HB := Lib.hid (below_next HB.out hb2)
  clear hb2 hp4
  go_wp2_with fail
  refine (light12_any A4 c4 sp _ HP4.out).mono ?_
  rintro e w3 ⟨rfl, hb3⟩
  rw [HLS.out]
  have HB := Lib.hid (below_next HB.out hb3)
  clear hb3 HP4
  go_wp2_with fail
  refine (uniOf_any A A2 A3 c c2 c3 repo s names _ (HL.out.kept (Kept.of_below HB.out)) (HS.out.kept (Kept.of_below HB.out)) (Strs.kept HN.out (Kept.of_below HB.out)) HF.out HFS.out HM.out HMS.out).mono ?_
  rintro e w5 (⟨h0, _⟩ | ⟨_, rfl, hb5⟩)
  · exact absurd h0 H0.out
  · rw [HE.out]
    have HB := Lib.hid (below_next HB.out hb5)
    clear hb5
    go_wp2_with fail
    refine (rall_any A A2 c c2 repo s _ (HL.out.kept (Kept.of_below HB.out)) (HS.out.kept (Kept.of_below HB.out)) HF.out HFS.out).mono ?_
    rintro e w6 (⟨h0, _⟩ | ⟨_, rfl, hb6⟩)
    · exact absurd h0 H0.out
    · rw [HE.out]
      have HB := Lib.hid (below_next HB.out hb6)
      clear hb6
      go_wp2_with fail
      refine (awake12_any _).mono ?_
      rintro e w99 ⟨rfl, hb99⟩
      go_wp2
      go_ret
      exact ⟨rfl, below_next HB.out hb99⟩
theorem law_universeOf (A : Option Addr) (c : Nat) (repo : List Pkg) (A2 : Option Addr) (c2 : Nat) (s : List Ent) (A3 : Option Addr) (c3 : Nat) (names : List (List UInt8)) (w : World) (hl : Pkgs w A c repo) (hs : Ents w A2 c2 s) (hn : Strs w A3 c3 names) : Calls Tryz.prog 7 #[.slice A repo.length c, .slice A2 s.length c2, .slice A3 names.length c3] w fun e w' => e = .returned (.bool true) ∧ Below w.heap.size w w' := by
  rcases hLR : lightM 40 60 15 15 repo
  · exact of_h1 A A2 A3 c c2 c3 repo s names w hl hs hn hLR
  · rcases hLS : lightM 40 60 15 15 (s.map Ent.pkg)
    · exact of_h2 A A2 A3 c c2 c3 repo s names w hl hs hn hLR hLS
    · by_cases h20 : names.length ≤ 20
      · by_cases h0 : allE s repo = 0
        · exact of_y A A2 A3 c c2 c3 repo s names w hl hs hn hLR hLS h20 h0
        · exact of_n A A2 A3 c c2 c3 repo s names w hl hs hn hLR hLS h20 h0
      · exact of_h3 A A2 A3 c c2 c3 repo s names w hl hs hn hLR hLS (by omega)
end Go.Proofs.YtflmocamfedbdaaGreatDoor
