/- The contracts of the reference's Run and of step.Run. -/
import Derived.Test.YtaicidbopgnmfaaGreatDoorDpR
import Derived.Test.YtaicidbopgnmfaaGreatDoorDoK
import Derived.Test.YtaicidbopgnmfaaGreatDoorPy
namespace Go.Proofs.YtaicidbopgnmfaaGreatDoor
set_option linter.unusedSimpArgs false
set_option linter.unusedVariables false
open Go.RowKit
theorem ents_one {w : World} {q : Ent} {r : Raw} {g : Nat} (hB : Blk w g 45 #[.string (bs (q).pkg.name), .string (bs (q).pkg.ver), .slice (r).a1 (q).pkg.pre.length (r).c1, .slice (r).a2 (q).pkg.dep.length (r).c2, .slice (r).a3 (q).pkg.rcm.length (r).c3, .slice (r).a4 (q).pkg.con.length (r).c4, .slice (r).a5 (q).pkg.brk.length (r).c5, .slice (r).a6 (q).pkg.prv.length (r).c6, .bool (q).pkg.ess, .bool (q).conf, .bool (q).hold]) (hr : RP w r q.pkg) : Ents w (some ⟨g, 0, none⟩) 1 [q] :=
  slc_blk [encE r q] hB rfl rfl (fun i cs x h1 h2 => by
    rcases i with _ | i
    · simp at h1 h2
      subst h1 h2
      exact ⟨⟨r, rfl, hr⟩, rfl⟩
    · simp at h1) (by simp [encE]) (by show 1 * 192 ≤ _; decide) (by simp) (by decide)
def RetRun (w : World) (r : List Ent × Nat × Int) (e : Ending) (w' : World) : Prop := ∃ B d, e = .returned (.tuple #[.slice B r.1.length d, .int .i64 r.2.1, .int .i64 r.2.2]) ∧ Ents w' B d r.1 ∧ Below w.heap.size w w'
theorem RetRun.of {w w' : World} {r : List Ent × Nat × Int} {t : List Ent} {k : Nat} {e : Int} {B : Option Addr} {d : Nat} (h : r = (t, k, e)) (he : Ents w' B d t) (hb : Below w.heap.size w w') : RetRun w r (.returned (.tuple #[.slice B t.length d, .int .i64 k, .int .i64 e])) w' := by
  rw [h]
  exact ⟨B, d, rfl, he, hb⟩
theorem run_many {s : List Ent} {l : List Stp} {fr : List Pkg} (h : 200 < l.length) : runM s l fr = ([], 0, 12) := if_pos h
theorem run_few {s : List Ent} {l : List Stp} {fr : List Pkg} (h : ¬ 200 < l.length) : runM s l fr = runS s l fr 0 := if_neg h
set_option maxRecDepth 100000 in
set_option maxHeartbeats 4000000 in
theorem rrunS_any (s : List Ent) (A : Option Addr) (c : Nat) (l : List Stp) (A2 : Option Addr) (c2 : Nat) (fr : List Pkg) (A' : Option Addr) (c' : Nat) (w : World) (hs : Ents w A c s) (hl : Stps w A2 c2 l) (hf : Pkgs w A' c' fr) (hx : ∀ x ∈ s, fewD x.pkg) (hp : ∀ p ∈ fr, fewD p) :
    Calls Tryz.prog 27 #[.slice A s.length c, .slice A2 l.length c2, .slice A' fr.length c'] w (RetRun w (runM s l fr)) := by
  have HS := Lib.hid hs
  have HL := Lib.hid hl
  have HF := Lib.hid hf
  have HX := Lib.hid hx
  have HP := Lib.hid hp
  have hbs := hs.bd
  have hbl := Slc.bd hl
  clear hs hl hf hx hp
  by_cases h2 : 200 < l.length
  · have HR := Lib.hid (run_many (s := s) (fr := fr) h2)
    have hd : decide ((200 : Int) < (l.length : Int)) = true := decide_eq_true (by omega)
    clear h2
    go_enter Tryz.func27, Tryz.ntmps27
    go_wp2
    go_ret3
    rw [HR.out]
    exact ⟨none, 0, rfl, Slc.nil_ (Nat.zero_le _), Below.refl _ _⟩
  · have HR := Lib.hid (run_few (s := s) (fr := fr) h2)
    have hd : decide ((200 : Int) < (l.length : Int)) = false := decide_eq_false (by omega)
    have h20 : l.length ≤ 200 := by omega
    clear h2
    go_enter Tryz.func27, Tryz.ntmps27
    go_wp2_with fail
    go_loopw [0, 18] (fun sv i wr => ∃ (k : Nat) (t : List Ent) (B : Option Addr) (d : Nat), k ≤ l.length ∧ i = .int .i64 k ∧ sv = .slice B t.length d ∧ Ents wr B d t ∧ (∀ x ∈ t, fewD x.pkg) ∧ runS s l fr 0 = runS t (l.drop k) fr k ∧ Below w.heap.size w wr) (fun _ i _ => l.length - (intOf i).toNat)
    case atStart => exact ⟨0, s, A, c, Nat.zero_le _, rfl, rfl, HS.out, HX.out, rfl, Below.refl _ _⟩
    case round =>
      obtain ⟨k, t, B, d, hk, rfl, rfl, ht, hxt, hrun, hb⟩ := hrel
      have HT := Lib.hid ht
      have HXT := Lib.hid hxt
      have HRUN := Lib.hid hrun
      have HB := Lib.hid hb
      have hbt := ht.bd
      clear ht hxt hrun hb
      by_cases hlt : k < l.length
      · obtain ⟨⟨kd, nm, vr⟩, b2, o2, hst, rfl, e0, e1, e2⟩ := HL.out.at_ hlt (Kept.of_below HB.out)
        have HST := Lib.hid hst
        dsimp only at e0 e1 e2
        clear hst
        go_wp2_with fail
        clear e0 e1 e2
        have HB1 := Lib.hid (below_alloc HB.out (.cells #[.int .i64 kd, .string (bs nm), .string (bs vr)] 24))
        have HT1 := Lib.hid (HT.out.kept (Kept.alloc wr (.cells #[.int .i64 kd, .string (bs nm), .string (bs vr)] 24)))
        have HQ := Lib.hid (rDo_any t B d kd nm vr fr A' c' _ HT1.out (HF.out.kept (Kept.of_below HB1.out)) HXT.out HP.out)
        refine HQ.out.mono ?_
        rintro e w3 ⟨B3, d3, rfl, he3, hb3⟩
        have HE3 := Lib.hid he3
        have HT3 := Lib.hid (HT1.out.kept (Kept.of_below hb3))
        have HB3 := Lib.hid (below_next HB1.out hb3)
        have HXR := Lib.hid (do_fewD (st := ⟨kd, nm, vr⟩) HXT.out HP.out)
        have HGO := Lib.hid (fun h => run_go (s := t) (fr := fr) HST.out h)
        have HNO := Lib.hid (fun h => run_stop (s := t) (fr := fr) HST.out h)
        clear he3 hb3 HQ HT1 HB1
        obtain ⟨r, hr⟩ : ∃ r, r = doS t ⟨kd, nm, vr⟩ fr := ⟨_, rfl⟩
        rw [← hr] at HE3 HXR HGO HNO ⊢
        clear hr
        obtain ⟨u, er⟩ := r
        dsimp only at HE3 HXR HGO HNO ⊢
        have hbu := HE3.out.bd
        by_cases her : er = 0
        · subst her
          have HR2 := Lib.hid (HRUN.out.trans (HGO.out rfl))
          clear HGO HNO HRUN
          go_wp2_with fail
          go_roundw
          case rel => exact ⟨k + 1, u, B3, d3, by omega, by simp, rfl, HE3.out, HXR.out, HR2.out, HB3.out⟩
          case measure => (try simp only [intOf]); omega
        · have HR2 := Lib.hid (HRUN.out.trans (HNO.out her))
          have hEb : (er != 0) = true := by rw [bne_iff_ne]; exact her
          clear her HGO HNO HRUN
          go_wp2_with fail
          go_ret3
          exact RetRun.of (HR.out.trans HR2.out) HT3.out HB3.out
      · have hkl : k = l.length := by omega
        have HR2 := Lib.hid (HRUN.out.trans (run_end (s := t) (fr := fr) (l := l) (k := k) (by omega)))
        subst hkl
        go_wp2_with fail
        go_ret3
        exact RetRun.of (HR.out.trans HR2.out) HT.out HB.out
end Go.Proofs.YtaicidbopgnmfaaGreatDoor
