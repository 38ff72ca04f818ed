/- The law UniverseAll. -/
import Derived.Test.YtflmocamfedbdaaGreatDoorUn
import Derived.Test.YtflmocamfedbdaaGreatDoorLg
namespace Go.Proofs.YtflmocamfedbdaaGreatDoor
set_option linter.unusedSimpArgs false
set_option linter.unusedVariables false
open Go.RowKit
attribute [local go_sem ↓] Go.wp_at_zero Go.wp_at_succ
attribute [local irreducible] wpQuiet
theorem l12_few {l : List Pkg} (h : lightM 40 60 15 15 l = true) : ∀ p ∈ l, fewO p := fun p hp =>
  light_few ((lm_of h).2 p hp) (by decide) (by decide) (by decide)
theorem l12_smP {l : List Pkg} (h : lightM 40 60 15 15 l = true) : ∀ p ∈ l, smP p := fun p hp => by
  obtain ⟨_, ⟨h1, _⟩, ⟨h2, _⟩, h3, _⟩ := (lm_of h).2 p hp
  exact ⟨by omega, by omega, by omega⟩
set_option maxRecDepth 100000 in
set_option maxHeartbeats 1000000 in
theorem all_h1 (A A2 : Option Addr) (c c2 : Nat) (repo : List Pkg) (s : List Ent) (w : World) (hl : Pkgs w A c repo) (hs : Ents w A2 c2 s) (hLR : lightM 40 60 15 15 repo = false) : Calls Tryz.prog 9 #[.slice A repo.length c, .slice A2 s.length c2] w fun e w' => e = .returned (.bool true) ∧ Below w.heap.size w w' := by
  have hbd := hl.bd
  have hbd2 := hs.bd
  have HL := Lib.hid hl
  have HS := Lib.hid hs
  have HLR := Lib.hid hLR
  clear hl hs hLR
  go_enter Tryz.func9, Tryz.ntmps9
  go_wp2_with fail
  refine (light12_any A c repo _ HL.out).mono ?_
  rintro e w1 ⟨rfl, hb1⟩
  rw [HLR.out]
  have HB := Lib.hid hb1
  clear hb1
  go_wp2_with fail
  refine (awake12_any _).mono ?_
  rintro e w99 ⟨rfl, hb99⟩
  go_wp2
  go_ret
  exact ⟨rfl, below_next HB.out hb99⟩
set_option maxRecDepth 100000 in
set_option maxHeartbeats 1000000 in
theorem all_h2 (A A2 : Option Addr) (c c2 : Nat) (repo : List Pkg) (s : List Ent) (w : World) (hl : Pkgs w A c repo) (hs : Ents w A2 c2 s) (hLR : lightM 40 60 15 15 repo = true) (hLS : lightM 40 60 15 15 (s.map Ent.pkg) = false) : Calls Tryz.prog 9 #[.slice A repo.length c, .slice A2 s.length c2] w fun e w' => e = .returned (.bool true) ∧ Below w.heap.size w w' := by
  have hbd := hl.bd
  have hbd2 := hs.bd
  have HL := Lib.hid hl
  have HS := Lib.hid hs
  have HLR := Lib.hid hLR
  clear hl hs hLR
  obtain ⟨sp, hsp⟩ : ∃ sp, sp = s.map Ent.pkg := ⟨_, rfl⟩
  have HSP := Lib.hid hsp.symm
  rw [← hsp] at hLS
  have HLS := Lib.hid hLS
  clear hLS hsp
  go_enter Tryz.func9, Tryz.ntmps9
  go_wp2_with fail
  refine (light12_any A c repo _ HL.out).mono ?_
  rintro e w1 ⟨rfl, hb1⟩
  rw [HLR.out]
  have HB := Lib.hid hb1
  clear hb1
  go_wp2_with fail
  refine (bare12_any A2 c2 s _ (HS.out.kept (Kept.of_below HB.out))).mono ?_
  rintro e w2 ⟨A4, c4, rfl, hp4, hb2⟩
  rw [HSP.out] at hp4 ⊢
  have HP4 := Lib.hid hp4
  have HB := Lib.hid (below_next HB.out hb2)
  clear hb2 hp4
  go_wp2_with fail
  refine (light12_any A4 c4 sp _ HP4.out).mono ?_
  rintro e w3 ⟨rfl, hb3⟩
  rw [HLS.out]
  have HB := Lib.hid (below_next HB.out hb3)
  clear hb3 HP4
  go_wp2_with fail
  refine (awake12_any _).mono ?_
  rintro e w99 ⟨rfl, hb99⟩
  go_wp2
  go_ret
  exact ⟨rfl, below_next HB.out hb99⟩
set_option maxRecDepth 100000 in
set_option maxHeartbeats 1000000 in
theorem all_y (A A2 : Option Addr) (c c2 : Nat) (repo : List Pkg) (s : List Ent) (w : World) (hl : Pkgs w A c repo) (hs : Ents w A2 c2 s) (hLR : lightM 40 60 15 15 repo = true) (hLS : lightM 40 60 15 15 (s.map Ent.pkg) = true) (h0 : allE s repo = 0) : Calls Tryz.prog 9 #[.slice A repo.length c, .slice A2 s.length c2] w fun e w' => e = .returned (.bool true) ∧ Below w.heap.size w w' := by
  have HF := Lib.hid (l12_few hLR)
  have HM := Lib.hid (l12_smP hLR)
  have HFS := Lib.hid (fun x (hx : x ∈ s) => l12_few hLS x.pkg (List.mem_map.2 ⟨x, hx, rfl⟩))
  have HMS := Lib.hid (fun x (hx : x ∈ s) => l12_smP hLS x.pkg (List.mem_map.2 ⟨x, hx, rfl⟩))
  have hbd := hl.bd
  have hbd2 := hs.bd
  have HL := Lib.hid hl
  have HS := Lib.hid hs
  have HLR := Lib.hid hLR
  clear hl hs hLR
  obtain ⟨sp, hsp⟩ : ∃ sp, sp = s.map Ent.pkg := ⟨_, rfl⟩
  have HSP := Lib.hid hsp.symm
  rw [← hsp] at hLS
  have HLS := Lib.hid hLS
  clear hLS hsp
  have H0 := Lib.hid h0
  obtain ⟨t, ht⟩ : ∃ t, t = srt pLt (allL s repo) := ⟨_, rfl⟩
  have HT := Lib.hid ht.symm
  clear h0 ht
  go_enter Tryz.func9, Tryz.ntmps9
  go_wp2_with fail
  refine (light12_any A c repo _ HL.out).mono ?_
  rintro e w1 ⟨rfl, hb1⟩
  rw [HLR.out]
  have HB := Lib.hid hb1
  clear hb1
  go_wp2_with fail
  refine (bare12_any A2 c2 s _ (HS.out.kept (Kept.of_below HB.out))).mono ?_
  rintro e w2 ⟨A4, c4, rfl, hp4, hb2⟩
  rw [HSP.out] at hp4 ⊢
  have HP4 := Lib.hid hp4
  have HB := Lib.hid (below_next HB.out hb2)
  clear hb2 hp4
  go_wp2_with fail
  refine (light12_any A4 c4 sp _ HP4.out).mono ?_
  rintro e w3 ⟨rfl, hb3⟩
  rw [HLS.out]
  have HB := Lib.hid (below_next HB.out hb3)
  clear hb3 HP4
  go_wp2_with fail
  refine (all_any A A2 c c2 repo s _ (HL.out.kept (Kept.of_below HB.out)) (HS.out.kept (Kept.of_below HB.out)) HF.out HFS.out).mono ?_
  rintro e w5 (⟨_, A5, c5, rfl, hp5, hb5⟩ | ⟨h0, _⟩)
  · rw [HT.out] at hp5 ⊢
    have HP5 := Lib.hid hp5
    have HB := Lib.hid (below_next HB.out hb5)
    clear hb5 hp5
    go_wp2_with fail
    refine (rall_any A A2 c c2 repo s _ (HL.out.kept (Kept.of_below HB.out)) (HS.out.kept (Kept.of_below HB.out)) HF.out HFS.out).mono ?_
    rintro e w6 (⟨_, A6, c6, rfl, hp6, hb6⟩ | ⟨h0, _⟩)
    · rw [HT.out] at hp6 ⊢
      have HP6 := Lib.hid hp6
      have HP5 := Lib.hid (HP5.out.kept (Kept.of_below hb6))
      have HB := Lib.hid (below_next HB.out hb6)
      clear hb6 hp6
      go_wp2_with fail
      refine (samePkgs_any A5 A6 c5 c6 t t _ HP5.out HP6.out).mono ?_
      rintro e w7 ⟨rfl, hb7⟩
      rw [decide_eq_true (rfl : t = t)]
      have HB := Lib.hid (below_next HB.out hb7)
      clear hb7
      go_wp2_with fail
      refine (awake12_any _).mono ?_
      rintro e w99 ⟨rfl, hb99⟩
      go_wp2
      go_ret
      exact ⟨rfl, below_next HB.out hb99⟩
    · exact absurd H0.out h0
  · exact absurd H0.out h0
set_option maxRecDepth 100000 in
set_option maxHeartbeats 1000000 in
theorem all_n (A A2 : Option Addr) (c c2 : Nat) (repo : List Pkg) (s : List Ent) (w : World) (hl : Pkgs w A c repo) (hs : Ents w A2 c2 s) (hLR : lightM 40 60 15 15 repo = true) (hLS : lightM 40 60 15 15 (s.map Ent.pkg) = true) (h0 : allE s repo ≠ 0) : Calls Tryz.prog 9 #[.slice A repo.length c, .slice A2 s.length c2] w fun e w' => e = .returned (.bool true) ∧ Below w.heap.size w w' := by
  have HF := Lib.hid (l12_few hLR)
  have HM := Lib.hid (l12_smP hLR)
  have HFS := Lib.hid (fun x (hx : x ∈ s) => l12_few hLS x.pkg (List.mem_map.2 ⟨x, hx, rfl⟩))
  have HMS := Lib.hid (fun x (hx : x ∈ s) => l12_smP hLS x.pkg (List.mem_map.2 ⟨x, hx, rfl⟩))
  have hbd := hl.bd
  have hbd2 := hs.bd
  have HL := Lib.hid hl
  have HS := Lib.hid hs
  have HLR := Lib.hid hLR
  clear hl hs hLR
  obtain ⟨sp, hsp⟩ : ∃ sp, sp = s.map Ent.pkg := ⟨_, rfl⟩
  have HSP := Lib.hid hsp.symm
  rw [← hsp] at hLS
  have HLS := Lib.hid hLS
  clear hLS hsp
  have H0 := Lib.hid h0
  obtain ⟨E, he⟩ : ∃ E, E = allE s repo := ⟨_, rfl⟩
  have HE := Lib.hid he.symm
  clear h0 he
  go_enter Tryz.func9, Tryz.ntmps9
  go_wp2_with fail
  refine (light12_any A c repo _ HL.out).mono ?_
  rintro e w1 ⟨rfl, hb1⟩
  rw [HLR.out]
  have HB := Lib.hid hb1
  clear hb1
  go_wp2_with fail
  refine (bare12_any A2 c2 s _ (HS.out.kept (Kept.of_below HB.out))).mono ?_
  rintro e w2 ⟨A4, c4, rfl, hp4, hb2⟩
  rw [HSP.out] at hp4 ⊢
  have HP4 := Lib.hid hp4
  have HB := Lib.hid (below_next HB.out hb2)
  clear hb2 hp4
  go_wp2_with fail
  refine (light12_any A4 c4 sp _ HP4.out).mono ?_
  rintro e w3 ⟨rfl, hb3⟩
  rw [HLS.out]
  have HB := Lib.hid (below_next HB.out hb3)
  clear hb3 HP4
  go_wp2_with fail
  refine (all_any A A2 c c2 repo s _ (HL.out.kept (Kept.of_below HB.out)) (HS.out.kept (Kept.of_below HB.out)) HF.out HFS.out).mono ?_
  rintro e w5 (⟨h0, _⟩ | ⟨_, rfl, hb5⟩)
  · exact absurd h0 H0.out
  · rw [HE.out]
    have HB := Lib.hid (below_next HB.out hb5)
    clear hb5
    go_wp2_with fail
    refine (rall_any A A2 c c2 repo s _ (HL.out.kept (Kept.of_below HB.out)) (HS.out.kept (Kept.of_below HB.out)) HF.out HFS.out).mono ?_
    rintro e w6 (⟨h0, _⟩ | ⟨_, rfl, hb6⟩)
    · exact absurd h0 H0.out
    · rw [HE.out]
      have HB := Lib.hid (below_next HB.out hb6)
      clear hb6
      go_wp2_with fail
      refine (samePkgs_any none none 0 0 [] [] _ (Slc.nil_ (Nat.zero_le _)) (Slc.nil_ (Nat.zero_le _))).mono ?_
      rintro e w7 ⟨rfl, hb7⟩
      rw [decide_eq_true (rfl : ([] : List Pkg) = [])]
      have HB := Lib.hid (below_next HB.out hb7)
      clear hb7
      go_wp2_with fail
      refine (awake12_any _).mono ?_
      rintro e w99 ⟨rfl, hb99⟩
      go_wp2
      go_ret
      exact ⟨rfl, below_next HB.out hb99⟩
theorem law_universeAll (A : Option Addr) (c : Nat) (repo : List Pkg) (A2 : Option Addr) (c2 : Nat) (s : List Ent) (w : World) (hl : Pkgs w A c repo) (hs : Ents w A2 c2 s) : Calls Tryz.prog 9 #[.slice A repo.length c, .slice A2 s.length c2] w fun e w' => e = .returned (.bool true) ∧ Below w.heap.size w w' := by
  rcases hLR : lightM 40 60 15 15 repo
  · exact all_h1 A A2 c c2 repo s w hl hs hLR
  · rcases hLS : lightM 40 60 15 15 (s.map Ent.pkg)
    · exact all_h2 A A2 c c2 repo s w hl hs hLR hLS
    · by_cases h0 : allE s repo = 0
      · exact all_y A A2 c c2 repo s w hl hs hLR hLS h0
      · exact all_n A A2 c c2 repo s w hl hs hLR hLS h0
end Go.Proofs.YtflmocamfedbdaaGreatDoor
