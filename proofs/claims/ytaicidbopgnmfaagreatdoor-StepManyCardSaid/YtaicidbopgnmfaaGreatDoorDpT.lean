/- The contract of step.Run; the law StepRuns. -/
import Derived.Test.YtaicidbopgnmfaaGreatDoorDpS
import Derived.Test.YtaicidbopgnmfaaGreatDoorDoL
namespace Go.Proofs.YtaicidbopgnmfaaGreatDoor
set_option linter.unusedSimpArgs false
set_option linter.unusedVariables false
open Go.RowKit
attribute [local go_sem ↓] Go.wp_at_zero Go.wp_at_succ
theorem make_ents (n : Nat) (hn : n ≤ 1000) (W : World) : (Instr.makeSlice 22 (.int .i64 0) (.int .i64 (n : Int))).run Tryz.prog W = .ok (.slice (some ⟨W.heap.size, 0, none⟩) 0 n) (W.alloc (.cells (madeCells (Value.agg #[.string (bs []), .string (bs []), .slice none 0 0, .slice none 0 0, .slice none 0 0, .slice none 0 0, .slice none 0 0, .slice none 0 0, .bool false, .bool false, .bool false] : Value).cells (n * 11)) 45)) := by
  obtain ⟨i0, hi0, hz0, hz1, hz2⟩ := info_parts infEnS
  have h := run_make (P := Tryz.prog) W 22 45 i0 _ Tryz.underlying22 hi0 hz0 .i64 .i64 0 (n : Int) (Int.le_refl _) (by omega) (by rw [hz2]; omega) (by omega)
  rw [hz1] at h
  simpa using h
theorem own_made2 (W : World) (n : Nat) (hn : n ≤ 1000) (R : List Value → Ent → Prop) (z : Array Value) : Own (W.alloc (.cells (madeCells z (n * 11)) 45)) W.heap.size 45 11 R (.slice (some ⟨W.heap.size, 0, none⟩) 0 n) [] :=
  ⟨[], rfl, fun i cs x h => by simp at h, by simp, .inr ⟨W.heap.size, n, _, rfl, Nat.le_refl _, heap_alloc_new W _, Nat.zero_le _, by unfold maxLen; omega, by rw [size_madeCells], by simp⟩⟩
theorem rke_oneR {w : World} : ∀ cs y, RKE (RZE w) cs y → ∀ u ∈ cs, u.oneCell' = true := fun cs y ⟨r, h, _⟩ u hu => by
  subst h
  exact encE_one r y u hu
set_option maxRecDepth 100000 in
set_option maxHeartbeats 4000000 in
theorem run_any (s : List Ent) (A : Option Addr) (c : Nat) (l : List Stp) (A2 : Option Addr) (c2 : Nat) (fr : List Pkg) (A' : Option Addr) (c' : Nat) (w : World) (hs : Ents w A c s) (hl : Stps w A2 c2 l) (hf : Pkgs w A' c' fr) (hx : ∀ x ∈ s, fewD x.pkg) (hp : ∀ p ∈ fr, fewD p) (hsl : s.length ≤ 1000) :
    Calls Tryz.prog 26 #[.slice A s.length c, .slice A2 l.length c2, .slice A' fr.length c'] w (RetRun w (runM s l fr)) := by
  have HS := Lib.hid hs
  have HL := Lib.hid hl
  have HF := Lib.hid hf
  have HX := Lib.hid hx
  have HP := Lib.hid hp
  have hbs := hs.bd
  have hbl := Slc.bd hl
  clear hs hl hf hx hp
  by_cases h2 : 200 < l.length
  · have HR := Lib.hid (run_many (s := s) (fr := fr) h2)
    have hd : decide ((200 : Int) < (l.length : Int)) = true := decide_eq_true (by omega)
    clear h2
    go_enter Tryz.func26, Tryz.ntmps26
    go_wp2
    go_ret3
    rw [HR.out]
    exact ⟨none, 0, rfl, Slc.nil_ (Nat.zero_le _), Below.refl _ _⟩
  · have HR := Lib.hid (run_few (s := s) (fr := fr) h2)
    have hd : decide ((200 : Int) < (l.length : Int)) = false := decide_eq_false (by omega)
    have h20 : l.length ≤ 200 := by omega
    have hmk := make_ents s.length hsl
    clear h2
    go_enter Tryz.func26, Tryz.ntmps26
    go_wp2_with fail
    clear hmk
    go_loopw [9, 24] (fun ov i wr => ∃ k : Nat, k ≤ s.length ∧ i = .int .i64 k ∧ Own wr w.heap.size 45 11 (RKE (RZE wr)) ov (s.take k) ∧ Below w.heap.size w wr) (fun _ i _ => s.length - (intOf i).toNat)
    case atStart => exact ⟨0, Nat.zero_le _, rfl, own_made2 w s.length hsl _ _, below_alloc (Below.refl _ _) _⟩
    case round =>
      obtain ⟨k, hk, rfl, ho, hb⟩ := hrel
      have HO := Lib.hid ho
      have HB := Lib.hid hb
      clear ho hb
      by_cases hlt : k < s.length
      · obtain ⟨q, b, o, r, hq, rfl, hr, e0, e1, e2, e3, e4, e5, e6, e7, e8, e9, e10⟩ := HS.out.at_ hlt (Kept.of_below HB.out)
        have HQ := Lib.hid hq
        have HR1 := Lib.hid hr
        have HFq := Lib.hid (HX.out q (List.mem_of_getElem? hq)).1
        have HSk := Lib.hid (show (s.take k).length = k by simp; omega)
        clear hq hr
        go_wp2_with fail
        clear e0 e1 e2 e3 e4 e5 e6 e7 e8 e9 e10
        have HO2 := Lib.hid (ne_alloc (ne_alloc HO.out (.cells #[.string (bs (q).pkg.name), .string (bs (q).pkg.ver), .slice (r).a1 (q).pkg.pre.length (r).c1, .slice (r).a2 (q).pkg.dep.length (r).c2, .slice (r).a3 (q).pkg.rcm.length (r).c3, .slice (r).a4 (q).pkg.con.length (r).c4, .slice (r).a5 (q).pkg.brk.length (r).c5, .slice (r).a6 (q).pkg.prv.length (r).c6, .bool (q).pkg.ess, .bool (q).conf, .bool (q).hold] 45)) (.cells #[.string (bs (q).pkg.name), .string (bs (q).pkg.ver), .slice (r).a1 (q).pkg.pre.length (r).c1, .slice (r).a2 (q).pkg.dep.length (r).c2, .slice (r).a3 (q).pkg.rcm.length (r).c3, .slice (r).a4 (q).pkg.con.length (r).c4, .slice (r).a5 (q).pkg.brk.length (r).c5, .slice (r).a6 (q).pkg.prv.length (r).c6, .bool (q).pkg.ess, .bool (q).conf, .bool (q).hold] 45))
        have HB2 := Lib.hid (below_alloc (below_alloc HB.out (.cells #[.string (bs (q).pkg.name), .string (bs (q).pkg.ver), .slice (r).a1 (q).pkg.pre.length (r).c1, .slice (r).a2 (q).pkg.dep.length (r).c2, .slice (r).a3 (q).pkg.rcm.length (r).c3, .slice (r).a4 (q).pkg.con.length (r).c4, .slice (r).a5 (q).pkg.brk.length (r).c5, .slice (r).a6 (q).pkg.prv.length (r).c6, .bool (q).pkg.ess, .bool (q).conf, .bool (q).hold] 45)) (.cells #[.string (bs (q).pkg.name), .string (bs (q).pkg.ver), .slice (r).a1 (q).pkg.pre.length (r).c1, .slice (r).a2 (q).pkg.dep.length (r).c2, .slice (r).a3 (q).pkg.rcm.length (r).c3, .slice (r).a4 (q).pkg.con.length (r).c4, .slice (r).a5 (q).pkg.brk.length (r).c5, .slice (r).a6 (q).pkg.prv.length (r).c6, .bool (q).pkg.ess, .bool (q).conf, .bool (q).hold] 45))
        have hE1 : Ents ((wr.alloc (.cells #[.string (bs (q).pkg.name), .string (bs (q).pkg.ver), .slice (r).a1 (q).pkg.pre.length (r).c1, .slice (r).a2 (q).pkg.dep.length (r).c2, .slice (r).a3 (q).pkg.rcm.length (r).c3, .slice (r).a4 (q).pkg.con.length (r).c4, .slice (r).a5 (q).pkg.brk.length (r).c5, .slice (r).a6 (q).pkg.prv.length (r).c6, .bool (q).pkg.ess, .bool (q).conf, .bool (q).hold] 45)).alloc (.cells #[.string (bs (q).pkg.name), .string (bs (q).pkg.ver), .slice (r).a1 (q).pkg.pre.length (r).c1, .slice (r).a2 (q).pkg.dep.length (r).c2, .slice (r).a3 (q).pkg.rcm.length (r).c3, .slice (r).a4 (q).pkg.con.length (r).c4, .slice (r).a5 (q).pkg.brk.length (r).c5, .slice (r).a6 (q).pkg.prv.length (r).c6, .bool (q).pkg.ess, .bool (q).conf, .bool (q).hold] 45)) (some ⟨wr.heap.size + 1, 0, none⟩) 1 [q] := ents_one (by simpa using blk_new1 (wr.alloc (.cells #[.string (bs (q).pkg.name), .string (bs (q).pkg.ver), .slice (r).a1 (q).pkg.pre.length (r).c1, .slice (r).a2 (q).pkg.dep.length (r).c2, .slice (r).a3 (q).pkg.rcm.length (r).c3, .slice (r).a4 (q).pkg.con.length (r).c4, .slice (r).a5 (q).pkg.brk.length (r).c5, .slice (r).a6 (q).pkg.prv.length (r).c6, .bool (q).pkg.ess, .bool (q).conf, .bool (q).hold] 45)) 45 #[.string (bs (q).pkg.name), .string (bs (q).pkg.ver), .slice (r).a1 (q).pkg.pre.length (r).c1, .slice (r).a2 (q).pkg.dep.length (r).c2, .slice (r).a3 (q).pkg.rcm.length (r).c3, .slice (r).a4 (q).pkg.con.length (r).c4, .slice (r).a5 (q).pkg.brk.length (r).c5, .slice (r).a6 (q).pkg.prv.length (r).c6, .bool (q).pkg.ess, .bool (q).conf, .bool (q).hold]) (HR1.out.kept (Kept.of_below HB2.out))
        have HSO := Lib.hid (sortedE_any (some ⟨wr.heap.size + 1, 0, none⟩) 1 [q] _ hE1 (fun x hx => by rw [List.mem_singleton.1 hx]; exact HFq.out) (by simp))
        clear hE1
        refine HSO.out.mono ?_
        rintro e w2 ⟨v, rfl, ho2, hb2⟩
        have HO3 := Lib.hid ((HO2.out.next hb2).mono (RKE.mono fun _ _ h => h.keep (KeepB.of_below hb2)))
        have HB3 := Lib.hid (below_next HB2.out hb2)
        obtain ⟨A4, c4, rfl, h4⟩ := ho2.slc (z := 192) (by show 1 * 192 ≤ _; decide)
        have HS4 := Lib.hid (show Slc w2 11 192 (RKE (RZE w2)) A4 c4 [q] from h4)
        clear h4 ho2 hb2 HSO HO2 HB2
        go_wp2_with (at_builtin; refine wpList_append_all (by rfl) _ _ 22 (by rfl) w.heap.size 45 _ 11 192 192 Tryz.underlying22 infEnS rfl (by omega) (RKE (RZE w2)) _ (s.take k) (by rfl) HO3.out A4 c4 [q] (by rfl) HS4.out rke_oneR (by rw [HSk.out]; simp; omega) (by omega) HB3.out.size ?_; intro v3 w3 ho3 hg3)
        have hb4 := HO3.out.below HB3.out HB3.out.size hg3
        have hk4 := HO3.out.keep (T := fun t => TB t = true) hg3 (by decide)
        go_roundw
        case rel => exact ⟨k + 1, by omega, by simp, by rw [take_step HQ.out]; exact ho3.mono (RKE.mono fun _ _ h => RZE.keep h hk4), hb4⟩
        case measure => (try simp only [intOf]); omega
      · have ho := HO.out
        rw [take_end hk hlt] at ho
        obtain ⟨A3, c3, rfl, h3⟩ := ho.slc (z := 192) (by omega)
        have HE0 := Lib.hid (show Ents wr A3 c3 s from Slc.mono h3 (Kept.refl _) fun cs x ⟨r, e1, e2⟩ => ⟨r, e1, e2.kept (Kept.flt TB _)⟩)
        have HB0 := Lib.hid HB.out
        clear ho h3 HO HB
        obtain ⟨w0, hw0⟩ : ∃ w0 : World, w0 = wr := ⟨_, rfl⟩
        subst hw0
        go_wp2_with fail
        go_loopw [9, 36] (fun sv i wr => ∃ (k : Nat) (t : List Ent) (B : Option Addr) (d : Nat), k ≤ l.length ∧ i = .int .i64 k ∧ sv = .slice B t.length d ∧ Ents wr B d t ∧ (∀ x ∈ t, fewD x.pkg) ∧ runS s l fr 0 = runS t (l.drop k) fr k ∧ Below w.heap.size w wr) (fun _ i _ => l.length - (intOf i).toNat)
        case atStart => exact ⟨0, s, A3, c3, Nat.zero_le _, rfl, rfl, HE0.out, HX.out, rfl, HB0.out⟩
        case round =>
          obtain ⟨k, t, B, d, hk, rfl, rfl, ht, hxt, hrun, hb⟩ := hrel
          have HT := Lib.hid ht
          have HXT := Lib.hid hxt
          have HRUN := Lib.hid hrun
          have HB := Lib.hid hb
          have hbt := ht.bd
          clear ht hxt hrun hb
          by_cases hlt : k < l.length
          · obtain ⟨⟨kd, nm, vr⟩, b2, o2, hst, rfl, e0, e1, e2⟩ := HL.out.at_ hlt (Kept.of_below HB.out)
            have HST := Lib.hid hst
            dsimp only at e0 e1 e2
            clear hst
            go_wp2_with fail
            clear e0 e1 e2
            have HB1 := Lib.hid (below_alloc HB.out (.cells #[.int .i64 kd, .string (bs nm), .string (bs vr)] 24))
            have HT1 := Lib.hid (HT.out.kept (Kept.alloc wr (.cells #[.int .i64 kd, .string (bs nm), .string (bs vr)] 24)))
            have HQ := Lib.hid (do_any t B d kd nm vr fr A' c' _ HT1.out (HF.out.kept (Kept.of_below HB1.out)) HXT.out HP.out)
            refine HQ.out.mono ?_
            rintro e w3 ⟨B3, d3, rfl, he3, hb3⟩
            have HE3 := Lib.hid he3
            have HT3 := Lib.hid (HT1.out.kept (Kept.of_below hb3))
            have HB3 := Lib.hid (below_next HB1.out hb3)
            have HXR := Lib.hid (do_fewD (st := ⟨kd, nm, vr⟩) HXT.out HP.out)
            have HGO := Lib.hid (fun h => run_go (s := t) (fr := fr) HST.out h)
            have HNO := Lib.hid (fun h => run_stop (s := t) (fr := fr) HST.out h)
            clear he3 hb3 HQ HT1 HB1
            obtain ⟨r, hr⟩ : ∃ r, r = doS t ⟨kd, nm, vr⟩ fr := ⟨_, rfl⟩
            rw [← hr] at HE3 HXR HGO HNO ⊢
            clear hr
            obtain ⟨u, er⟩ := r
            dsimp only at HE3 HXR HGO HNO ⊢
            have hbu := HE3.out.bd
            by_cases her : er = 0
            · subst her
              have HR2 := Lib.hid (HRUN.out.trans (HGO.out rfl))
              clear HGO HNO HRUN
              go_wp2_with fail
              go_roundw
              case rel => exact ⟨k + 1, u, B3, d3, by omega, by simp, rfl, HE3.out, HXR.out, HR2.out, HB3.out⟩
              case measure => (try simp only [intOf]); omega
            · have HR2 := Lib.hid (HRUN.out.trans (HNO.out her))
              have hEb : (er != 0) = true := by rw [bne_iff_ne]; exact her
              clear her HGO HNO HRUN
              go_wp2_with fail
              go_ret3
              exact RetRun.of (HR.out.trans HR2.out) HT3.out HB3.out
          · have hkl : k = l.length := by omega
            have HR2 := Lib.hid (HRUN.out.trans (run_end (s := t) (fr := fr) (l := l) (k := k) (by omega)))
            subst hkl
            go_wp2_with fail
            go_ret3
            exact RetRun.of (HR.out.trans HR2.out) HT.out HB.out
end Go.Proofs.YtaicidbopgnmfaaGreatDoor
