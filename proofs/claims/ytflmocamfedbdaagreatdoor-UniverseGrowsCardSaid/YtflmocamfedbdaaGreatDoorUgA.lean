/- The law UniverseGrows. -/
import Derived.Test.YtflmocamfedbdaaGreatDoorUaA
namespace Go.Proofs.YtflmocamfedbdaaGreatDoor
set_option linter.unusedSimpArgs false
set_option linter.unusedVariables false
open Go.RowKit
attribute [local go_sem ↓] Go.wp_at_zero Go.wp_at_succ
attribute [local irreducible] wpQuiet
theorem filter_sub {α : Type} {p q : α → Bool} (h : ∀ x, p x = true → q x = true) : ∀ l : List α, List.Sublist (l.filter p) (l.filter q)
  | [] => .slnil
  | x :: l => by
    have ih := filter_sub h l
    rw [List.filter_cons, List.filter_cons]
    by_cases hp : p x = true
    · rw [if_pos hp, if_pos (h x hp)]
      exact ih.cons_cons x
    · rw [if_neg hp]
      by_cases hq : q x = true
      · rw [if_pos hq]; exact ih.cons x
      · rw [if_neg hq]; exact ih
theorem Rch.more {s : List Pkg} {a b : List (List UInt8)} (h : ∀ n, n ∈ a → n ∈ b) {n : List UInt8} (hr : Rch s a n) : Rch s b n := by
  induction hr with
  | seed h1 h2 => exact .seed (h _ h1) h2
  | step _ h1 h2 h3 h4 h5 ih => exact .step ih h1 h2 h3 h4 h5
open Classical in
theorem rch_sub {s : List Pkg} {a b : List (List UInt8)} (h : ∀ n, n ∈ a → n ∈ b) : List.Sublist (rchS s a) (rchS s b) :=
  filter_sub (fun p hp => by
    rw [decide_eq_true_eq] at hp ⊢
    exact hp.more h) s
theorem rch_there {s : List Pkg} {a : List (List UInt8)} {n : List UInt8} (h : Rch s a n) : ∃ p ∈ s, p.name = n := by
  rcases h with ⟨_, h⟩ | ⟨_, _, _, _, hq, _⟩
  · obtain ⟨p, hp, hn⟩ := List.any_eq_true.1 h
    exact ⟨p, hp, by simpa [nmP] using hn⟩
  · exact ⟨_, hq, rfl⟩
theorem rch_again {s : List Pkg} {sn a : List (List UInt8)} : rchS s (sn ++ nmR (rchS s (sn ++ a))) = rchS s (sn ++ a) := by
  have hmem : ∀ n, n ∈ nmR (rchS s (sn ++ a)) ↔ Rch s (sn ++ a) n := fun n => by
    rw [nmR_mem]
    unfold rchS
    constructor
    · rintro ⟨p, hp, rfl⟩
      simpa using (List.mem_filter.1 hp).2
    · intro h
      obtain ⟨p, hp, rfl⟩ := rch_there h
      exact ⟨p, List.mem_filter.2 ⟨hp, by simpa using h⟩, rfl⟩
  have h1 : ∀ n, Rch s (sn ++ nmR (rchS s (sn ++ a))) n ↔ Rch s (sn ++ a) n := fun n => by
    constructor
    · intro h
      induction h with
      | seed h1 h2 =>
        rcases List.mem_append.1 h1 with h1 | h1
        · exact .seed (List.mem_append.2 (.inl h1)) h2
        · exact (hmem _).1 h1
      | step _ h1 h2 h3 h4 h5 ih => exact .step ih h1 h2 h3 h4 h5
    · intro h
      obtain ⟨p, hp, rfl⟩ := rch_there h
      exact .seed (List.mem_append.2 (.inr ((hmem _).2 h))) (List.any_eq_true.2 ⟨p, hp, by simp [nmP]⟩)
  unfold rchS at h1 ⊢
  congr 1
  funext p
  rw [decide_eq_decide]
  exact h1 _
theorem List.cons_sublist_cons_or {α : Type} {a b : α} {x y : List α} (hne : a ≠ b) (h : List.Sublist (a :: x) (b :: y)) : List.Sublist (a :: x) y := by
  generalize he : a :: x = z at h
  generalize hf : b :: y = u at h
  cases h with
  | slnil => cases he
  | cons c h => injection hf with h1 h2; subst h2; exact h
  | cons_cons c h => injection he with h1 _; injection hf with h3 _; exact absurd (h1.trans h3.symm) hne
theorem sub_take {α : Type} {x y : List α} {k j : Nat} {p : α} (h : List.Sublist (x.drop k) (y.drop j)) (hx : x[k]? = some p) (hy : y[j]? = some p) : List.Sublist (x.drop (k + 1)) (y.drop (j + 1)) := by
  obtain ⟨h1, rfl⟩ := List.getElem?_eq_some_iff.1 hx
  obtain ⟨h2, h3⟩ := List.getElem?_eq_some_iff.1 hy
  rw [List.drop_eq_getElem_cons h1, List.drop_eq_getElem_cons h2, h3] at h
  exact List.cons_sublist_cons.1 h
theorem sub_skip {α : Type} {x y : List α} {k j : Nat} {p q : α} (h : List.Sublist (x.drop k) (y.drop j)) (hx : x[k]? = some q) (hy : y[j]? = some p) (hne : q ≠ p) : List.Sublist (x.drop k) (y.drop (j + 1)) := by
  obtain ⟨h1, rfl⟩ := List.getElem?_eq_some_iff.1 hx
  obtain ⟨h2, h3⟩ := List.getElem?_eq_some_iff.1 hy
  rw [List.drop_eq_getElem_cons h1, List.drop_eq_getElem_cons h2, h3] at h
  rw [List.drop_eq_getElem_cons h1]
  exact (List.cons_sublist_cons_or hne h)
theorem sub_end {α : Type} {x : List α} {k : Nat} (hk : x.length ≤ k) (z : List α) : List.Sublist (x.drop k) z := by
  rw [List.drop_of_length_le hk]; exact List.nil_sublist z
set_option maxRecDepth 100000 in
set_option maxHeartbeats 1000000 in
theorem gr_h1 (A A2 A3 A4 : Option Addr) (c c2 c3 c4 : Nat) (repo : List Pkg) (s : List Ent) (a b : List (List UInt8)) (w : World) (hl : Pkgs w A c repo) (hs : Ents w A2 c2 s) (ha : Strs w A3 c3 a) (hb : Strs w A4 c4 b) (hLR : lightM 40 60 15 15 repo = false) : Calls Tryz.prog 8 #[.slice A repo.length c, .slice A2 s.length c2, .slice A3 a.length c3, .slice A4 b.length c4] w fun e w' => e = .returned (.bool true) ∧ Below w.heap.size w w' := by
  clear ha hb
  have hbd := hl.bd
  have hbd2 := hs.bd
  have HL := Lib.hid hl
  have HS := Lib.hid hs
  have HLR := Lib.hid hLR
  clear hl hs hLR
  go_enter Tryz.func8, Tryz.ntmps8
  go_wp2_with fail
  refine (light12_any A c repo _ HL.out).mono ?_
  rintro e w1 ⟨rfl, hb1⟩
  rw [HLR.out]
  have HB := Lib.hid hb1
  clear hb1
  go_wp2_with fail
  refine (awake12_any _).mono ?_
  rintro e w99 ⟨rfl, hb99⟩
  go_wp2
  go_ret
  exact ⟨rfl, below_next HB.out hb99⟩
set_option maxRecDepth 100000 in
set_option maxHeartbeats 1000000 in
theorem gr_h2 (A A2 A3 A4 : Option Addr) (c c2 c3 c4 : Nat) (repo : List Pkg) (s : List Ent) (a b : List (List UInt8)) (w : World) (hl : Pkgs w A c repo) (hs : Ents w A2 c2 s) (ha : Strs w A3 c3 a) (hb : Strs w A4 c4 b) (hLR : lightM 40 60 15 15 repo = true) (hLS : lightM 40 60 15 15 (s.map Ent.pkg) = false) : Calls Tryz.prog 8 #[.slice A repo.length c, .slice A2 s.length c2, .slice A3 a.length c3, .slice A4 b.length c4] w fun e w' => e = .returned (.bool true) ∧ Below w.heap.size w w' := by
  clear ha hb
  have hbd := hl.bd
  have hbd2 := hs.bd
  have HL := Lib.hid hl
  have HS := Lib.hid hs
  have HLR := Lib.hid hLR
  clear hl hs hLR
  obtain ⟨sp, hsp⟩ : ∃ sp, sp = s.map Ent.pkg := ⟨_, rfl⟩
  have HSP := Lib.hid hsp.symm
  rw [← hsp] at hLS
  have HLS := Lib.hid hLS
  clear hLS hsp
  go_enter Tryz.func8, Tryz.ntmps8
  go_wp2_with fail
  refine (light12_any A c repo _ HL.out).mono ?_
  rintro e w1 ⟨rfl, hb1⟩
  rw [HLR.out]
  have HB := Lib.hid hb1
  clear hb1
  go_wp2_with fail
  refine (bare12_any A2 c2 s _ (HS.out.kept (Kept.of_below HB.out))).mono ?_
  rintro e w2 ⟨A9, c9, rfl, hp4, hb2⟩
  rw [HSP.out] at hp4 ⊢
  have HP4 := Lib.hid hp4
  have HB := Lib.hid (below_next HB.out hb2)
  clear hb2 hp4
  go_wp2_with fail
  refine (light12_any A9 c9 sp _ HP4.out).mono ?_
  rintro e w3 ⟨rfl, hb3⟩
  rw [HLS.out]
  have HB := Lib.hid (below_next HB.out hb3)
  clear hb3 HP4
  go_wp2_with fail
  refine (awake12_any _).mono ?_
  rintro e w99 ⟨rfl, hb99⟩
  go_wp2
  go_ret
  exact ⟨rfl, below_next HB.out hb99⟩
set_option maxRecDepth 100000 in
set_option maxHeartbeats 1000000 in
theorem gr_h3 (A A2 A3 A4 : Option Addr) (c c2 c3 c4 : Nat) (repo : List Pkg) (s : List Ent) (a b : List (List UInt8)) (w : World) (hl : Pkgs w A c repo) (hs : Ents w A2 c2 s) (ha : Strs w A3 c3 a) (hb : Strs w A4 c4 b) (hLR : lightM 40 60 15 15 repo = true) (hLS : lightM 40 60 15 15 (s.map Ent.pkg) = true) (h10 : 10 < a.length) : Calls Tryz.prog 8 #[.slice A repo.length c, .slice A2 s.length c2, .slice A3 a.length c3, .slice A4 b.length c4] w fun e w' => e = .returned (.bool true) ∧ Below w.heap.size w w' := by
  have hd10 : decide ((10 : Int) < (a.length : Int)) = true := decide_eq_true (by omega)
  clear ha hb
  have hbd := hl.bd
  have hbd2 := hs.bd
  have HL := Lib.hid hl
  have HS := Lib.hid hs
  have HLR := Lib.hid hLR
  clear hl hs hLR
  obtain ⟨sp, hsp⟩ : ∃ sp, sp = s.map Ent.pkg := ⟨_, rfl⟩
  have HSP := Lib.hid hsp.symm
  rw [← hsp] at hLS
  have HLS := Lib.hid hLS
  clear hLS hsp
  go_enter Tryz.func8, Tryz.ntmps8
  go_wp2_with fail
  refine (light12_any A c repo _ HL.out).mono ?_
  rintro e w1 ⟨rfl, hb1⟩
  rw [HLR.out]
  have HB := Lib.hid hb1
  clear hb1
  go_wp2_with fail
  refine (bare12_any A2 c2 s _ (HS.out.kept (Kept.of_below HB.out))).mono ?_
  rintro e w2 ⟨A9, c9, rfl, hp4, hb2⟩
  rw [HSP.out] at hp4 ⊢
  have HP4 := Lib.hid hp4
  have HB := Lib.hid (below_next HB.out hb2)
  clear hb2 hp4
  go_wp2_with fail
  refine (light12_any A9 c9 sp _ HP4.out).mono ?_
  rintro e w3 ⟨rfl, hb3⟩
  rw [HLS.out]
  have HB := Lib.hid (below_next HB.out hb3)
  clear hb3 HP4
  go_wp2_with fail
  refine (awake12_any _).mono ?_
  rintro e w99 ⟨rfl, hb99⟩
  go_wp2
  go_ret
  exact ⟨rfl, below_next HB.out hb99⟩
set_option maxRecDepth 100000 in
set_option maxHeartbeats 1000000 in
theorem gr_h4 (A A2 A3 A4 : Option Addr) (c c2 c3 c4 : Nat) (repo : List Pkg) (s : List Ent) (a b : List (List UInt8)) (w : World) (hl : Pkgs w A c repo) (hs : Ents w A2 c2 s) (ha : Strs w A3 c3 a) (hb : Strs w A4 c4 b) (hLR : lightM 40 60 15 15 repo = true) (hLS : lightM 40 60 15 15 (s.map Ent.pkg) = true) (h10 : a.length ≤ 10) (h11 : 10 < b.length) : Calls Tryz.prog 8 #[.slice A repo.length c, .slice A2 s.length c2, .slice A3 a.length c3, .slice A4 b.length c4] w fun e w' => e = .returned (.bool true) ∧ Below w.heap.size w w' := by
  have hd10 : decide ((10 : Int) < (a.length : Int)) = false := decide_eq_false (by omega)
  have hd11 : decide ((10 : Int) < (b.length : Int)) = true := decide_eq_true (by omega)
  clear ha hb
  have hbd := hl.bd
  have hbd2 := hs.bd
  have HL := Lib.hid hl
  have HS := Lib.hid hs
  have HLR := Lib.hid hLR
  clear hl hs hLR
  obtain ⟨sp, hsp⟩ : ∃ sp, sp = s.map Ent.pkg := ⟨_, rfl⟩
  have HSP := Lib.hid hsp.symm
  rw [← hsp] at hLS
  have HLS := Lib.hid hLS
  clear hLS hsp
  go_enter Tryz.func8, Tryz.ntmps8
  go_wp2_with fail
  refine (light12_any A c repo _ HL.out).mono ?_
  rintro e w1 ⟨rfl, hb1⟩
  rw [HLR.out]
  have HB := Lib.hid hb1
  clear hb1
  go_wp2_with fail
  refine (bare12_any A2 c2 s _ (HS.out.kept (Kept.of_below HB.out))).mono ?_
  rintro e w2 ⟨A9, c9, rfl, hp4, hb2⟩
  rw [HSP.out] at hp4 ⊢
  have HP4 := Lib.hid hp4
  have HB := Lib.hid (below_next HB.out hb2)
  clear hb2 hp4
  go_wp2_with fail
  refine (light12_any A9 c9 sp _ HP4.out).mono ?_
  rintro e w3 ⟨rfl, hb3⟩
  rw [HLS.out]
  have HB := Lib.hid (below_next HB.out hb3)
  clear hb3 HP4
  go_wp2_with fail
  refine (awake12_any _).mono ?_
  rintro e w99 ⟨rfl, hb99⟩
  go_wp2
  go_ret
  exact ⟨rfl, below_next HB.out hb99⟩
set_option maxRecDepth 100000 in
set_option maxHeartbeats 4000000 in
theorem gr_y (A A2 A3 A4 : Option Addr) (c c2 c3 c4 : Nat) (repo : List Pkg) (s : List Ent) (a b : List (List UInt8)) (w : World) (hl : Pkgs w A c repo) (hs : Ents w A2 c2 s) (ha : Strs w A3 c3 a) (hb : Strs w A4 c4 b) (hLR : lightM 40 60 15 15 repo = true) (hLS : lightM 40 60 15 15 (s.map Ent.pkg) = true) (h10 : a.length ≤ 10) (h11 : b.length ≤ 10) (h0 : allE s repo = 0) : Calls Tryz.prog 8 #[.slice A repo.length c, .slice A2 s.length c2, .slice A3 a.length c3, .slice A4 b.length c4] w fun e w' => e = .returned (.bool true) ∧ Below w.heap.size w w' := by
  have hd10 : decide ((10 : Int) < (a.length : Int)) = false := decide_eq_false (by omega)
  have hd11 : decide ((10 : Int) < (b.length : Int)) = false := decide_eq_false (by omega)
  have hbda := ha.bd
  have hbdb := hb.bd
  have HA := Lib.hid ha
  have HBB := Lib.hid hb
  clear ha hb
  have HL24 := Lib.hid (all_len24 h0)
  have HF := Lib.hid (l12_few hLR)
  have HM := Lib.hid (l12_smP hLR)
  have HFS := Lib.hid (fun x (hx : x ∈ s) => l12_few hLS x.pkg (List.mem_map.2 ⟨x, hx, rfl⟩))
  have HMS := Lib.hid (fun x (hx : x ∈ s) => l12_smP hLS x.pkg (List.mem_map.2 ⟨x, hx, rfl⟩))
  have hbd := hl.bd
  have hbd2 := hs.bd
  have HL := Lib.hid hl
  have HS := Lib.hid hs
  have HLR := Lib.hid hLR
  clear hl hs hLR
  obtain ⟨sp, hsp⟩ : ∃ sp, sp = s.map Ent.pkg := ⟨_, rfl⟩
  have HSP := Lib.hid hsp.symm
  rw [← hsp] at hLS
  have HLS := Lib.hid hLS
  clear hLS hsp
  have H0 := Lib.hid h0
  obtain ⟨t, ht⟩ : ∃ t, t = srt pLt (allL s repo) := ⟨_, rfl⟩
  have HT := Lib.hid ht.symm
  rw [← ht] at HL24
  obtain ⟨X, hX⟩ : ∃ X, X = rchS t (entN s ++ a) := ⟨_, rfl⟩
  obtain ⟨Y, hY⟩ : ∃ Y, Y = rchS t (entN s ++ (a ++ b)) := ⟨_, rfl⟩
  have hXl : X.length ≤ 24 := by rw [hX]; exact Nat.le_trans (List.length_filter_le _ _) HL24.out
  have HSUB := Lib.hid (show List.Sublist X Y by rw [hX, hY, ← List.append_assoc]; exact rch_sub fun n hn => List.mem_append.2 (.inl hn))
  have HAG := Lib.hid (show rchS t (entN s ++ nmR X) = X by rw [hX]; exact rch_again)
  have HX := Lib.hid hX.symm
  have HY := Lib.hid hY.symm
  clear h0 ht hX hY
  go_enter Tryz.func8, Tryz.ntmps8
  go_wp2_with fail
  refine (light12_any A c repo _ HL.out).mono ?_
  rintro e w1 ⟨rfl, hb1⟩
  rw [HLR.out]
  have HB := Lib.hid hb1
  clear hb1
  go_wp2_with fail
  refine (bare12_any A2 c2 s _ (HS.out.kept (Kept.of_below HB.out))).mono ?_
  rintro e w2 ⟨A9, c9, rfl, hp4, hb2⟩
  rw [HSP.out] at hp4 ⊢
  have HP4 := Lib.hid hp4
  have HB := Lib.hid (below_next HB.out hb2)
  clear hb2 hp4
  go_wp2_with fail
  refine (light12_any A9 c9 sp _ HP4.out).mono ?_
  rintro e w3 ⟨rfl, hb3⟩
  rw [HLS.out]
  have HB := Lib.hid (below_next HB.out hb3)
  clear hb3 HP4
  go_wp2_with fail
  refine (uniOf_any A A2 A3 c c2 c3 repo s a _ (HL.out.kept (Kept.of_below HB.out)) (HS.out.kept (Kept.of_below HB.out)) (Strs.kept HA.out (Kept.of_below HB.out)) HF.out HFS.out HM.out HMS.out).mono ?_
  rintro e w5 (⟨_, A5, c5, rfl, hp5, hb5⟩ | ⟨h0, _⟩)
  · rw [HT.out, HX.out] at hp5 ⊢
    have HP5 := Lib.hid hp5
    have hbd5 := hp5.bd
    have HB := Lib.hid (below_next HB.out hb5)
    clear hb5 hp5
    go_wp2_with (first | (at_builtin; refine wpList_append_all (by rfl) _ _ 51 (by rfl) w5.heap.size 9 _ 1 16 16 Tryz.underlying51 infStr' rfl (by omega) RStr _ [] (by rfl) (own_made w5 9 1) A3 c3 a (by rfl) (Strs.kept HA.out ((Kept.of_below HB.out).trans (Kept.alloc _ _))) str_one (by simp; omega) (by omega) (by simp) ?_; intro v6 w6 ho6 hg6; rw [List.nil_append] at ho6; have HB6 := Lib.hid ((own_made (R := RStr) w5 9 1).below (below_alloc (Below.refl w5.heap.size w5) _) (by simp) hg6); have HO6 := Lib.hid ho6; clear ho6 hg6) | (at_builtin; refine wpList_append_all (by rfl) _ _ 51 (by rfl) w5.heap.size 9 _ 1 16 16 Tryz.underlying51 infStr' rfl (by omega) RStr _ a (by rfl) HO6.out A4 c4 b (by rfl) (Strs.kept HBB.out ((Kept.of_below HB.out).trans (Kept.of_below HB6.out))) str_one (by omega) (by omega) HB6.out.size ?_; intro v7 w7 ho7 hg7; have HB7 := Lib.hid (HO6.out.below HB6.out HB6.out.size hg7); have HO7 := Lib.hid ho7; clear ho7 hg7) | fail)
    obtain ⟨A7, c7, rfl, hst7⟩ := HO7.out.slc (z := 16) (by rw [List.length_append]; omega)
    have HST7 := Lib.hid (show Strs w7 A7 c7 (a ++ b) from hst7)
    have HP5 := Lib.hid (HP5.out.kept (Kept.of_below HB7.out))
    have HB := Lib.hid (below_next HB.out HB7.out)
    clear hst7 HO7 HB7 HO6 HB6
    refine (uniOf_any A A2 A7 c c2 c7 repo s (a ++ b) _ (HL.out.kept (Kept.of_below HB.out)) (HS.out.kept (Kept.of_below HB.out)) HST7.out HF.out HFS.out HM.out HMS.out).mono ?_
    rintro e w8 (⟨_, A8, c8, rfl, hp8, hb8⟩ | ⟨h0, _⟩)
    · rw [HT.out, HY.out] at hp8 ⊢
      have HP8 := Lib.hid hp8
      have hbd8 := hp8.bd
      have HP5 := Lib.hid (HP5.out.kept (Kept.of_below hb8))
      have HB := Lib.hid (below_next HB.out hb8)
      clear hb8 hp8
      go_wp2
      go_loopw [13, 70] (fun u i wr => ∃ (k j : Nat), k ≤ X.length ∧ j ≤ Y.length ∧ u = .int .i64 k ∧ i = .int .i64 j ∧ List.Sublist (X.drop k) (Y.drop j) ∧ Below w8.heap.size w8 wr) (fun _ i _ => Y.length - (intOf i).toNat)
      case atStart => exact ⟨0, 0, Nat.zero_le _, Nat.zero_le _, rfl, rfl, HSUB.out, Below.refl _ _⟩
      case round =>
        obtain ⟨k, j, hk, hj, rfl, rfl, hsub, hb⟩ := hrel
        obtain ⟨wo, rfl⟩ : ∃ wo : World, wo = wr := ⟨_, rfl⟩
        have HSB := Lib.hid hsub
        have HB1 := Lib.hid hb
        clear hsub hb
        by_cases hlt : j < Y.length
        · obtain ⟨p, b8, o8, r, hp, rfl, hr, e0, e1, e2, e3, e4, e5, e6, e7, e8⟩ := HP8.out.at_ hlt (Kept.of_below HB1.out)
          have HPY := Lib.hid hp
          have HB2 := Lib.hid (below_alloc HB1.out (.cells #[.string (bs (p).name), .string (bs (p).ver), .slice (r).a1 (p).pre.length (r).c1, .slice (r).a2 (p).dep.length (r).c2, .slice (r).a3 (p).rcm.length (r).c3, .slice (r).a4 (p).con.length (r).c4, .slice (r).a5 (p).brk.length (r).c5, .slice (r).a6 (p).prv.length (r).c6, .bool (p).ess] 26))
          have HR := Lib.hid (hr.kept (Kept.of_below HB2.out))
          have KP := Lib.hid (blk_new1 wo 26 #[.string (bs (p).name), .string (bs (p).ver), .slice (r).a1 (p).pre.length (r).c1, .slice (r).a2 (p).dep.length (r).c2, .slice (r).a3 (p).rcm.length (r).c3, .slice (r).a4 (p).con.length (r).c4, .slice (r).a5 (p).brk.length (r).c5, .slice (r).a6 (p).prv.length (r).c6, .bool (p).ess])
          clear hp hr
          go_upto_region 11 with (fail)
          clear e0 e1 e2 e3 e4 e5 e6 e7 e8
          generalize World.alloc _ _ = W at HB2 HR KP ⊢
          generalize wo.heap.size = gp at KP ⊢
          clear HB1
          by_cases hkx : k < X.length
          · obtain ⟨q, b5, o5, r5, hq, rfl, hr5, f0, f1, f2, f3, f4, f5, f6, f7, f8⟩ := HP5.out.at_ hkx (Kept.of_below HB2.out)
            have HQX := Lib.hid hq
            have HR5 := Lib.hid (hr5.kept (Kept.of_below HB2.out))
            have hk0 : (0 : Int) ≤ (k : Int) := Int.natCast_nonneg _
            have hk1 : (k : Int) < (X.length : Int) := by omega
            have hkd : decide ((k : Int) < (X.length : Int)) = true := decide_eq_true hk1
            clear hq hr5
            obtain ⟨a0, a1, a2, a3, a4, a5, a6, a7, a8⟩ := blk9 KP.out
            have p0 := fun z : Be W => Be.cell a0 z
            have p1 := fun z : Be W => Be.cell a1 z
            have p2 := fun z : Be W => Be.cell a2 z
            have p3 := fun z : Be W => Be.cell a3 z
            have p4 := fun z : Be W => Be.cell a4 z
            have p5 := fun z : Be W => Be.cell a5 z
            have p6 := fun z : Be W => Be.cell a6 z
            have p7 := fun z : Be W => Be.cell a7 z
            have p8 := fun z : Be W => Be.cell a8 z
            have q0 := fun z : Be W => Be.cell f0 z
            have q1 := fun z : Be W => Be.cell f1 z
            have q2 := fun z : Be W => Be.cell f2 z
            have q3 := fun z : Be W => Be.cell f3 z
            have q4 := fun z : Be W => Be.cell f4 z
            have q5 := fun z : Be W => Be.cell f5 z
            have q6 := fun z : Be W => Be.cell f6 z
            have q7 := fun z : Be W => Be.cell f7 z
            have q8 := fun z : Be W => Be.cell f8 z
            clear a0 a1 a2 a3 a4 a5 a6 a7 a8 f0 f1 f2 f3 f4 f5 f6 f7 f8
            by_cases hqp : q = p
            · have HSM := Lib.hid (show decide (q = p) = true from decide_eq_true hqp)
              have HSB2 := Lib.hid (show List.Sublist (X.drop (k + 1)) (Y.drop (j + 1)) from sub_take HSB.out HQX.out (by rw [HPY.out, hqp]))
              clear hqp
              refine region_be (by kernel_rfl) (by kernel_rfl) ?_
              repeat (quiet_step (first | (go_at_call 28; with_reducible exact Calls.be_of ((same_any q p r5 r _ (HR5.out.kept (Be.kept _)) (HR.out.kept (Be.kept _))).mono fun _ _ h => ⟨h.1.trans (congrArg (fun b => Ending.returned (Value.bool b)) HSM.out), h.2⟩))))
              refine wpQuiet_nil ?_
              intro _ hw'
              obtain ⟨pb, hw''⟩ := hw'
              subst hw''
              obtain ⟨W2, hbw⟩ := pb
              dsimp only
              go_wp2
              go_roundw
              case rel => exact ⟨k + 1, j + 1, by omega, by omega, by simp, by simp, HSB2.out, below_next HB2.out hbw⟩
              case measure => (try simp only [intOf]); omega
            · have HSM := Lib.hid (show decide (q = p) = false from decide_eq_false hqp)
              have HSB2 := Lib.hid (sub_skip HSB.out HQX.out HPY.out hqp)
              clear hqp
              refine region_be (by kernel_rfl) (by kernel_rfl) ?_
              repeat (quiet_step (first | (go_at_call 28; with_reducible exact Calls.be_of ((same_any q p r5 r _ (HR5.out.kept (Be.kept _)) (HR.out.kept (Be.kept _))).mono fun _ _ h => ⟨h.1.trans (congrArg (fun b => Ending.returned (Value.bool b)) HSM.out), h.2⟩))))
              refine wpQuiet_nil ?_
              intro _ hw'
              obtain ⟨pb, hw''⟩ := hw'
              subst hw''
              obtain ⟨W2, hbw⟩ := pb
              dsimp only
              go_wp2
              go_roundw
              case rel => exact ⟨k, j + 1, by omega, by omega, by simp, by simp, HSB2.out, below_next HB2.out hbw⟩
              case measure => (try simp only [intOf]); omega
          · have hkd : decide ((k : Int) < (X.length : Int)) = false := decide_eq_false (by omega)
            have HSB2 := Lib.hid (sub_end (x := X) (k := k) (by omega) (Y.drop (j + 1)))
            obtain ⟨q, r5, HR5, HSM⟩ : ∃ (q : Pkg) (r5 : Raw), Hid (RP W r5 q) ∧ Hid (decide (q = p) = true) := ⟨p, r, HR, Lib.hid (decide_eq_true rfl)⟩
            refine region_be (by kernel_rfl) (by kernel_rfl) ?_
            repeat (quiet_step (first | (go_at_call 28; with_reducible exact Calls.be_of ((same_any q p r5 r _ (HR5.out.kept (Be.kept _)) (HR.out.kept (Be.kept _))).mono fun _ _ h => ⟨h.1.trans (congrArg (fun b => Ending.returned (Value.bool b)) HSM.out), h.2⟩))))
            refine wpQuiet_nil ?_
            intro _ hw'
            obtain ⟨pb, hw''⟩ := hw'
            subst hw''
            obtain ⟨W2, hbw⟩ := pb
            dsimp only
            go_wp2
            go_roundw
            case rel => exact ⟨k, j + 1, by omega, by omega, by simp, by simp, HSB2.out, below_next HB2.out hbw⟩
            case measure => (try simp only [intOf]); omega
        · have hsub := HSB.out
          rw [List.drop_of_length_le (show Y.length ≤ j by omega)] at hsub
          have hkx : k = X.length := by
            have h := List.Sublist.length_le hsub
            rw [List.length_drop, List.length_nil] at h
            omega
          subst hkx
          have HP5 := Lib.hid (HP5.out.kept (Kept.of_below HB1.out))
          have HB := Lib.hid (below_next HB.out HB1.out)
          clear hsub HSB HB1 HP8
          go_wp2_with fail
          refine (rNames_any A5 c5 X _ HP5.out (by omega)).mono ?_
          rintro e w9 ⟨A9', c9', rfl, hn9, hb9⟩
          have HN9 := Lib.hid hn9
          have HP5 := Lib.hid (HP5.out.kept (Kept.of_below hb9))
          have HB := Lib.hid (below_next HB.out hb9)
          clear hb9 hn9
          go_wp2_with fail
          refine (uniOf_any A A2 A9' c c2 c9' repo s (nmR X) _ (HL.out.kept (Kept.of_below HB.out)) (HS.out.kept (Kept.of_below HB.out)) HN9.out HF.out HFS.out HM.out HMS.out).mono ?_
          rintro e w10 (⟨_, A10, c10, rfl, hp10, hb10⟩ | ⟨h0, _⟩)
          · rw [HT.out, HAG.out] at hp10 ⊢
            have HP10 := Lib.hid hp10
            have HP5 := Lib.hid (HP5.out.kept (Kept.of_below hb10))
            have HB := Lib.hid (below_next HB.out hb10)
            clear hb10 hp10
            go_wp2_with fail
            refine (samePkgs_any _ _ _ _ _ _ _ HP5.out HP10.out).mono ?_
            rintro e w11 ⟨rfl, hb11⟩
            rw [decide_eq_true (rfl : X = X)]
            have HB := Lib.hid (below_next HB.out hb11)
            clear hb11
            go_wp2_with fail
            refine (awake12_any _).mono ?_
            rintro e w99 ⟨rfl, hb99⟩
            go_wp2
            go_ret
            exact ⟨rfl, below_next HB.out hb99⟩
          · exact absurd H0.out h0
    · exact absurd H0.out h0
  · exact absurd H0.out h0
set_option maxRecDepth 100000 in
set_option maxHeartbeats 2000000 in
theorem gr_n (A A2 A3 A4 : Option Addr) (c c2 c3 c4 : Nat) (repo : List Pkg) (s : List Ent) (a b : List (List UInt8)) (w : World) (hl : Pkgs w A c repo) (hs : Ents w A2 c2 s) (ha : Strs w A3 c3 a) (hb : Strs w A4 c4 b) (hLR : lightM 40 60 15 15 repo = true) (hLS : lightM 40 60 15 15 (s.map Ent.pkg) = true) (h10 : a.length ≤ 10) (h11 : b.length ≤ 10) (h0 : allE s repo ≠ 0) : Calls Tryz.prog 8 #[.slice A repo.length c, .slice A2 s.length c2, .slice A3 a.length c3, .slice A4 b.length c4] w fun e w' => e = .returned (.bool true) ∧ Below w.heap.size w w' := by
  have hd10 : decide ((10 : Int) < (a.length : Int)) = false := decide_eq_false (by omega)
  have hd11 : decide ((10 : Int) < (b.length : Int)) = false := decide_eq_false (by omega)
  have hbda := ha.bd
  have hbdb := hb.bd
  have HA := Lib.hid ha
  have HBB := Lib.hid hb
  clear ha hb
  have HF := Lib.hid (l12_few hLR)
  have HM := Lib.hid (l12_smP hLR)
  have HFS := Lib.hid (fun x (hx : x ∈ s) => l12_few hLS x.pkg (List.mem_map.2 ⟨x, hx, rfl⟩))
  have HMS := Lib.hid (fun x (hx : x ∈ s) => l12_smP hLS x.pkg (List.mem_map.2 ⟨x, hx, rfl⟩))
  have hbd := hl.bd
  have hbd2 := hs.bd
  have HL := Lib.hid hl
  have HS := Lib.hid hs
  have HLR := Lib.hid hLR
  clear hl hs hLR
  obtain ⟨sp, hsp⟩ : ∃ sp, sp = s.map Ent.pkg := ⟨_, rfl⟩
  have HSP := Lib.hid hsp.symm
  rw [← hsp] at hLS
  have HLS := Lib.hid hLS
  clear hLS hsp
  have H0 := Lib.hid h0
  obtain ⟨E, he⟩ : ∃ E, E = allE s repo := ⟨_, rfl⟩
  have HE := Lib.hid he.symm
  have hE0 : (E != 0) = true := by rw [bne_iff_ne, he]; exact h0
  clear h0 he
  go_enter Tryz.func8, Tryz.ntmps8
  go_wp2_with fail
  refine (light12_any A c repo _ HL.out).mono ?_
  rintro e w1 ⟨rfl, hb1⟩
  rw [HLR.out]
  have HB := Lib.hid hb1
  clear hb1
  go_wp2_with fail
  refine (bare12_any A2 c2 s _ (HS.out.kept (Kept.of_below HB.out))).mono ?_
  rintro e w2 ⟨A9, c9, rfl, hp4, hb2⟩
  rw [HSP.out] at hp4 ⊢
  have HP4 := Lib.hid hp4
  have HB := Lib.hid (below_next HB.out hb2)
  clear hb2 hp4
  go_wp2_with fail
  refine (light12_any A9 c9 sp _ HP4.out).mono ?_
  rintro e w3 ⟨rfl, hb3⟩
  rw [HLS.out]
  have HB := Lib.hid (below_next HB.out hb3)
  clear hb3 HP4
  go_wp2_with fail
  refine (uniOf_any A A2 A3 c c2 c3 repo s a _ (HL.out.kept (Kept.of_below HB.out)) (HS.out.kept (Kept.of_below HB.out)) (Strs.kept HA.out (Kept.of_below HB.out)) HF.out HFS.out HM.out HMS.out).mono ?_
  rintro e w5 (⟨h0, _⟩ | ⟨_, rfl, hb5⟩)
  · exact absurd h0 H0.out
  · rw [HE.out]
    have HB := Lib.hid (below_next HB.out hb5)
    clear hb5
    go_wp2_with (first | (at_builtin; refine wpList_append_all (by rfl) _ _ 51 (by rfl) w5.heap.size 9 _ 1 16 16 Tryz.underlying51 infStr' rfl (by omega) RStr _ [] (by rfl) (own_made w5 9 1) A3 c3 a (by rfl) (Strs.kept HA.out ((Kept.of_below HB.out).trans (Kept.alloc _ _))) str_one (by simp; omega) (by omega) (by simp) ?_; intro v6 w6 ho6 hg6; rw [List.nil_append] at ho6; have HB6 := Lib.hid ((own_made (R := RStr) w5 9 1).below (below_alloc (Below.refl w5.heap.size w5) _) (by simp) hg6); have HO6 := Lib.hid ho6; clear ho6 hg6) | (at_builtin; refine wpList_append_all (by rfl) _ _ 51 (by rfl) w5.heap.size 9 _ 1 16 16 Tryz.underlying51 infStr' rfl (by omega) RStr _ a (by rfl) HO6.out A4 c4 b (by rfl) (Strs.kept HBB.out ((Kept.of_below HB.out).trans (Kept.of_below HB6.out))) str_one (by omega) (by omega) HB6.out.size ?_; intro v7 w7 ho7 hg7; have HB7 := Lib.hid (HO6.out.below HB6.out HB6.out.size hg7); have HO7 := Lib.hid ho7; clear ho7 hg7) | fail)
    obtain ⟨A7, c7, rfl, hst7⟩ := HO7.out.slc (z := 16) (by rw [List.length_append]; omega)
    have HST7 := Lib.hid (show Strs w7 A7 c7 (a ++ b) from hst7)
    have HB := Lib.hid (below_next HB.out HB7.out)
    clear hst7 HO7 HB7 HO6 HB6
    refine (uniOf_any A A2 A7 c c2 c7 repo s (a ++ b) _ (HL.out.kept (Kept.of_below HB.out)) (HS.out.kept (Kept.of_below HB.out)) HST7.out HF.out HFS.out HM.out HMS.out).mono ?_
    rintro e w8 (⟨h0, _⟩ | ⟨_, rfl, hb8⟩)
    · exact absurd h0 H0.out
    · rw [HE.out]
      have HB := Lib.hid (below_next HB.out hb8)
      clear hb8
      go_wp2_with fail
      refine (awake12_any _).mono ?_
      rintro e w99 ⟨rfl, hb99⟩
      go_wp2
      go_ret
      exact ⟨rfl, below_next HB.out hb99⟩
theorem law_universeGrows (A : Option Addr) (c : Nat) (repo : List Pkg) (A2 : Option Addr) (c2 : Nat) (s : List Ent) (A3 : Option Addr) (c3 : Nat) (a : List (List UInt8)) (A4 : Option Addr) (c4 : Nat) (b : List (List UInt8)) (w : World) (hl : Pkgs w A c repo) (hs : Ents w A2 c2 s) (ha : Strs w A3 c3 a) (hb : Strs w A4 c4 b) : Calls Tryz.prog 8 #[.slice A repo.length c, .slice A2 s.length c2, .slice A3 a.length c3, .slice A4 b.length c4] w fun e w' => e = .returned (.bool true) ∧ Below w.heap.size w w' := by
  rcases hLR : lightM 40 60 15 15 repo
  · exact gr_h1 A A2 A3 A4 c c2 c3 c4 repo s a b w hl hs ha hb hLR
  · rcases hLS : lightM 40 60 15 15 (s.map Ent.pkg)
    · exact gr_h2 A A2 A3 A4 c c2 c3 c4 repo s a b w hl hs ha hb hLR hLS
    · by_cases h10 : a.length ≤ 10
      · by_cases h11 : b.length ≤ 10
        · by_cases h0 : allE s repo = 0
          · exact gr_y A A2 A3 A4 c c2 c3 c4 repo s a b w hl hs ha hb hLR hLS h10 h11 h0
          · exact gr_n A A2 A3 A4 c c2 c3 c4 repo s a b w hl hs ha hb hLR hLS h10 h11 h0
        · exact gr_h4 A A2 A3 A4 c c2 c3 c4 repo s a b w hl hs ha hb hLR hLS h10 (by omega)
      · exact gr_h3 A A2 A3 A4 c c2 c3 c4 repo s a b w hl hs ha hb hLR hLS (by omega)
end Go.Proofs.YtflmocamfedbdaaGreatDoor
