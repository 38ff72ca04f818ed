/- The contracts of request.just, request.Meets. The contract of the reference's About. -/
import Derived.Test.YtaicidbopgnmfaaGreatDoorRg
namespace Go.Proofs.YtaicidbopgnmfaaGreatDoor
set_option linter.unusedSimpArgs false
set_option linter.unusedVariables false
open Go.RowKit
attribute [local go_sem ↓] Go.wp_at_zero Go.wp_at_succ
attribute [local irreducible] wpQuiet
def inQ (l : List Stp) (t : List Pkg) (s : List Ent) (x : Ent) : Bool := (t.find? (pnB x.pkg.name)).isSome || !wantQ l s x.pkg.name
def justQ (l : List Stp) (t : List Pkg) (s : List Ent) : Bool := t.all (fun p => wantQ l s p.name) && s.all (inQ l t s)
theorem qa_step {α : Type} {l : List α} {p : α → Bool} {k : Nat} {a : α} (h : l[k]? = some a) (hn : (l.take k).all p = true) (ha : p a = true) : (l.take (k + 1)).all p = true := by rw [take_step h, List.all_append, hn]; simp [ha]
theorem qa_no {α : Type} {l : List α} {p : α → Bool} {k : Nat} {a : α} (h : l[k]? = some a) (ha : p a = false) : l.all p = false := List.all_eq_false.2 ⟨a, List.mem_of_getElem? h, by simp [ha]⟩
set_option maxRecDepth 100000 in
set_option maxHeartbeats 2000000 in
theorem just_any (l : List Stp) (A : Option Addr) (c : Nat) (t : List Pkg) (A2 : Option Addr) (c2 : Nat) (s : List Ent) (A3 : Option Addr) (c3 : Nat) (w : World) (hl : Stps w A c l) (ht : Pkgs w A2 c2 t) (hs : Ents w A3 c3 s) :
    Calls Tryz.prog 83 #[.slice A l.length c, .slice A2 t.length c2, .slice A3 s.length c3] w fun e w' => e = .returned (.bool (justQ l t s)) ∧ Below w.heap.size w w' := by
  have HL := Lib.hid hl
  have HT := Lib.hid ht
  have HS := Lib.hid hs
  have hbl := Slc.bd hl
  have hbt := ht.bd
  have hbs := hs.bd
  clear hl ht hs
  obtain ⟨G, hG⟩ : ∃ G, G = justQ l t s := ⟨_, rfl⟩
  rw [← hG]
  have HG := Lib.hid hG
  obtain ⟨p, hp⟩ : ∃ p : Pkg → Bool, p = fun q => wantQ l s q.name := ⟨_, rfl⟩
  have HP := Lib.hid hp
  have HG := Lib.hid (show G = (t.all p && s.all (inQ l t s)) by rw [hG, hp]; rfl)
  clear hG hp
  go_enter Tryz.func83, Tryz.ntmps83
  go_wp2
  go_loopw [15] (fun i wr => ∃ k : Nat, k ≤ t.length ∧ i = .int .i64 k ∧ (t.take k).all p = true ∧ Below w.heap.size w wr) (fun i _ => t.length - (intOf i).toNat)
  case atStart => exact ⟨0, Nat.zero_le _, rfl, rfl, Below.refl _ _⟩
  case round =>
    obtain ⟨k, hk, rfl, hn, hb⟩ := hrel
    have HN := Lib.hid hn
    have HB := Lib.hid hb
    clear hn hb
    by_cases hlt : k < t.length
    · obtain ⟨q, b, o, r, hq, hA, hr, e0, e1, e2, e3, e4, e5, e6, e7, e8⟩ := HT.out.at_ hlt (Kept.of_below HB.out)
      subst hA
      have HQ := Lib.hid hq
      have HPQ := Lib.hid (show p q = wantQ l s q.name by rw [HP.out])
      clear hq hr
      go_wp2_with fail
      clear e0 e1 e2 e3 e4 e5 e6 e7 e8
      have HBA := Lib.hid (below_alloc HB.out (.cells #[.string (bs (q).name), .string (bs (q).ver), .slice (r).a1 (q).pre.length (r).c1, .slice (r).a2 (q).dep.length (r).c2, .slice (r).a3 (q).rcm.length (r).c3, .slice (r).a4 (q).con.length (r).c4, .slice (r).a5 (q).brk.length (r).c5, .slice (r).a6 (q).prv.length (r).c6, .bool (q).ess] 43))
      have HW := Lib.hid (wanted_any l A c s A3 c3 q.name (wr.alloc (.cells #[.string (bs (q).name), .string (bs (q).ver), .slice (r).a1 (q).pre.length (r).c1, .slice (r).a2 (q).dep.length (r).c2, .slice (r).a3 (q).rcm.length (r).c3, .slice (r).a4 (q).con.length (r).c4, .slice (r).a5 (q).brk.length (r).c5, .slice (r).a6 (q).prv.length (r).c6, .bool (q).ess] 43)) (HL.out.kept (Kept.of_below HBA.out)) (HS.out.kept (Kept.of_below HBA.out)))
      rw [← HPQ.out] at HW
      refine HW.out.mono ?_
      rintro e w2 ⟨rfl, hb2⟩
      have HB2 := Lib.hid (below_next HBA.out hb2)
      clear hb2 HW
      rcases hv : p q
      · have HG := Lib.hid (show G = false by rw [HG.out, qa_no HQ.out hv]; rfl)
        clear hv
        go_wp2
        go_ret
        exact ⟨by rw [HG.out]; (try rfl), HB2.out⟩
      · have HV := Lib.hid hv
        clear hv
        go_wp2
        go_roundw
        case rel => exact ⟨k + 1, by omega, by simp, qa_step HQ.out HN.out HV.out, HB2.out⟩
        case measure => (try simp only [intOf]); omega
    · have hn := HN.out
      rw [take_end hk hlt] at hn
      have HG := Lib.hid (show G = s.all (inQ l t s) by rw [HG.out, hn]; rfl)
      have HB0 := Lib.hid HB.out
      clear hn HN
      go_wp2
      clear hk hlt HB
      go_loopw [28] (fun i wr => ∃ k : Nat, k ≤ s.length ∧ i = .int .i64 k ∧ (s.take k).all (inQ l t s) = true ∧ Below w.heap.size w wr) (fun i _ => s.length - (intOf i).toNat)
      case atStart => exact ⟨0, Nat.zero_le _, rfl, rfl, HB0.out⟩
      case round =>
        clear HB0
        obtain ⟨k, hk, rfl, hn, hb⟩ := hrel
        have HN := Lib.hid hn
        have HB := Lib.hid hb
        clear hn hb
        by_cases hlt : k < s.length
        · obtain ⟨x, b, o, r, hx, hA, hr, e0, e1, e2, e3, e4, e5, e6, e7, e8, e9, e10⟩ := HS.out.at_ hlt (Kept.of_below HB.out)
          subst hA
          have HX := Lib.hid hx
          clear hx hr
          rcases hf : t.find? (pnB x.pkg.name) with _ | y
          · have HF := Lib.hid hf
            have HI := Lib.hid (show inQ l t s x = !wantQ l s x.pkg.name by unfold inQ; rw [hf]; rfl)
            clear hf
            go_wp2_with fail
            clear e0 e1 e2 e3 e4 e5 e6 e7 e8 e9 e10
            have KX := Lib.hid (blk_new1 wr 45 #[.string (bs (x).pkg.name), .string (bs (x).pkg.ver), .slice (r).a1 (x).pkg.pre.length (r).c1, .slice (r).a2 (x).pkg.dep.length (r).c2, .slice (r).a3 (x).pkg.rcm.length (r).c3, .slice (r).a4 (x).pkg.con.length (r).c4, .slice (r).a5 (x).pkg.brk.length (r).c5, .slice (r).a6 (x).pkg.prv.length (r).c6, .bool (x).pkg.ess, .bool (x).conf, .bool (x).hold])
            have HBA := Lib.hid (below_alloc HB.out (.cells #[.string (bs (x).pkg.name), .string (bs (x).pkg.ver), .slice (r).a1 (x).pkg.pre.length (r).c1, .slice (r).a2 (x).pkg.dep.length (r).c2, .slice (r).a3 (x).pkg.rcm.length (r).c3, .slice (r).a4 (x).pkg.con.length (r).c4, .slice (r).a5 (x).pkg.brk.length (r).c5, .slice (r).a6 (x).pkg.prv.length (r).c6, .bool (x).pkg.ess, .bool (x).conf, .bool (x).hold] 45))
            have HQ := Lib.hid (qfind_no A2 c2 t.length t x.pkg.name rfl HF.out (wr.alloc (.cells #[.string (bs (x).pkg.name), .string (bs (x).pkg.ver), .slice (r).a1 (x).pkg.pre.length (r).c1, .slice (r).a2 (x).pkg.dep.length (r).c2, .slice (r).a3 (x).pkg.rcm.length (r).c3, .slice (r).a4 (x).pkg.con.length (r).c4, .slice (r).a5 (x).pkg.brk.length (r).c5, .slice (r).a6 (x).pkg.prv.length (r).c6, .bool (x).pkg.ess, .bool (x).conf, .bool (x).hold] 45)) (HT.out.kept (Kept.of_below HBA.out)))
            refine HQ.out.mono ?_
            rintro e w2 ⟨rfl, hb2⟩
            have KX := Lib.hid (KX.out.next hb2)
            have HB2 := Lib.hid (below_next HBA.out hb2)
            clear hb2 HQ
            have x0 := fun (o : Obj) => (KX.out.alloc o).cell 0
            simp only [List.getElem?_toArray, List.getElem?_cons_zero, List.getElem?_cons_succ] at x0
            go_wp2_with fail
            have HBB := Lib.hid (fun (o : Obj) => below_alloc HB2.out o)
            refine (wanted_any l A c s _ c3 x.pkg.name _ (HL.out.kept (Kept.of_below (HBB.out _))) (HS.out.kept (Kept.of_below (HBB.out _)))).mono ?_
            rintro e w3 ⟨rfl, hb3⟩
            have HB3 := Lib.hid (below_next (HBB.out _) hb3)
            clear hb3 HBB x0
            rcases hv : wantQ l s x.pkg.name
            · have HV := Lib.hid (show inQ l t s x = true by rw [HI.out, hv]; rfl)
              clear hv
              go_wp2
              go_roundw
              case rel => exact ⟨k + 1, by omega, by simp, qa_step HX.out HN.out HV.out, HB3.out⟩
              case measure => (try simp only [intOf]); omega
            · have HG := Lib.hid (show G = false by rw [HG.out, qa_no HX.out (show inQ l t s x = false by rw [HI.out, hv]; rfl)])
              clear hv
              go_wp2
              go_ret
              exact ⟨by rw [HG.out]; (try rfl), HB3.out⟩
          · have HF := Lib.hid hf
            have HV := Lib.hid (show inQ l t s x = true by unfold inQ; rw [hf]; rfl)
            clear hf
            go_wp2_with fail
            clear e0 e1 e2 e3 e4 e5 e6 e7 e8 e9 e10
            have HBA := Lib.hid (below_alloc HB.out (.cells #[.string (bs (x).pkg.name), .string (bs (x).pkg.ver), .slice (r).a1 (x).pkg.pre.length (r).c1, .slice (r).a2 (x).pkg.dep.length (r).c2, .slice (r).a3 (x).pkg.rcm.length (r).c3, .slice (r).a4 (x).pkg.con.length (r).c4, .slice (r).a5 (x).pkg.brk.length (r).c5, .slice (r).a6 (x).pkg.prv.length (r).c6, .bool (x).pkg.ess, .bool (x).conf, .bool (x).hold] 45))
            have HQ := Lib.hid (qfind_yes A2 c2 t.length t x.pkg.name y rfl HF.out (wr.alloc (.cells #[.string (bs (x).pkg.name), .string (bs (x).pkg.ver), .slice (r).a1 (x).pkg.pre.length (r).c1, .slice (r).a2 (x).pkg.dep.length (r).c2, .slice (r).a3 (x).pkg.rcm.length (r).c3, .slice (r).a4 (x).pkg.con.length (r).c4, .slice (r).a5 (x).pkg.brk.length (r).c5, .slice (r).a6 (x).pkg.prv.length (r).c6, .bool (x).pkg.ess, .bool (x).conf, .bool (x).hold] 45)) (HT.out.kept (Kept.of_below HBA.out)))
            refine HQ.out.mono ?_
            rintro e w2 ⟨⟨r2, hr2, rfl⟩, hb2⟩
            have HB2 := Lib.hid (below_next HBA.out hb2)
            clear hb2 HQ hr2
            go_wp2
            go_roundw
            case rel => exact ⟨k + 1, by omega, by simp, qa_step HX.out HN.out HV.out, below_alloc HB2.out _⟩
            case measure => (try simp only [intOf]); omega
        · have hn := HN.out
          rw [take_end hk hlt] at hn
          have HG := Lib.hid (show G = true by rw [HG.out, hn])
          clear hn
          go_wp2
          go_ret
          exact ⟨by rw [HG.out]; (try rfl), HB.out⟩
def stayP (l : List Stp) (t : List Pkg) (x : Ent) : Bool := stayQ l t x (heldS l x)
def meetsQ (l : List Stp) (t : List Pkg) (s : List Ent) : Bool :=
  if mayQs l ≠ 0 then false else if twP [] t then false else if !(l.all fun a => meet1 a t s) then false else if !(s.all (stayP l t)) then false else if l.any (fun a => a.kind == 3) then justQ l t s else true
set_option maxRecDepth 100000 in
set_option maxHeartbeats 2000000 in
theorem qmeets_any (l : List Stp) (A : Option Addr) (c : Nat) (t : List Pkg) (A2 : Option Addr) (c2 : Nat) (s : List Ent) (A3 : Option Addr) (c3 : Nat) (w : World) (hl : Stps w A c l) (hsh : ∀ a ∈ l, short a.name) (ht : Pkgs w A2 c2 t) (hs : Ents w A3 c3 s) (hx : ∀ x ∈ s, fewD x.pkg) (hsl : s.length ≤ 1000) :
    Calls Tryz.prog 43 #[.slice A l.length c, .slice A2 t.length c2, .slice A3 s.length c3] w fun e w' => e = .returned (.bool (meetsQ l t s)) ∧ Below w.heap.size w w' := by
  have HL := Lib.hid hl
  have HT := Lib.hid ht
  have HS := Lib.hid hs
  have HX0 := Lib.hid hx
  have HMQ := Lib.hid (qmay_any l A c w hl hsh)
  have hbl := Slc.bd hl
  have hbt := ht.bd
  have hbs := hs.bd
  clear hl ht hs hx hsh
  obtain ⟨G, hG⟩ : ∃ G, G = meetsQ l t s := ⟨_, rfl⟩
  rw [← hG]
  unfold meetsQ at hG
  obtain ⟨M, hM⟩ : ∃ M, M = mayQs l := ⟨_, rfl⟩
  rw [← hM] at hG HMQ
  clear hM
  by_cases h0 : M = 0
  · subst h0
    rw [if_neg (by simp)] at hG
    go_enter Tryz.func43, Tryz.ntmps43
    have HG := Lib.hid hG
    clear hG
    go_wp2_with fail
    refine HMQ.out.mono ?_
    rintro e w1 ⟨rfl, hb1⟩
    have HB := Lib.hid hb1
    clear hb1 HMQ
    go_wp2_with fail
    have HO := Lib.hid (once_any A2 c2 t w1 (HT.out.kept (Kept.of_below HB.out)))
    refine HO.out.mono ?_
    rintro e w2 ⟨rfl, hb2⟩
    have HB := Lib.hid (below_next HB.out hb2)
    clear hb2 HO
    rcases htw : twP [] t
    · have HG := Lib.hid (HG.out.trans (if_neg (by simp [htw])))
      clear htw
      go_wp2
      have HB0 := HB
      clear HB
      obtain ⟨p, hp⟩ : ∃ p : Stp → Bool, p = fun a => meet1 a t s := ⟨_, rfl⟩
      rw [← hp] at HG
      have HP := Lib.hid hp
      clear hp
      go_loopw [22] (fun i wr => ∃ k : Nat, k ≤ l.length ∧ i = .int .i64 k ∧ (l.take k).all p = true ∧ Below w.heap.size w wr) (fun i _ => l.length - (intOf i).toNat)
      case atStart => exact ⟨0, Nat.zero_le _, rfl, rfl, HB0.out⟩
      case round =>
        clear HB0
        obtain ⟨k, hk, rfl, hn, hb⟩ := hrel
        have HN := Lib.hid hn
        have HB := Lib.hid hb
        clear hn hb
        by_cases hlt : k < l.length
        · obtain ⟨⟨ka, nm, vr⟩, b, o, hst, hA, e0, e1, e2⟩ := HL.out.at_ hlt (Kept.of_below HB.out)
          subst hA
          have HST := Lib.hid hst
          have HPV := Lib.hid (show p ⟨ka, nm, vr⟩ = meet1 ⟨ka, nm, vr⟩ t s by rw [HP.out])
          dsimp only at e0 e1 e2
          clear hst
          go_wp2_with fail
          clear e0 e1 e2
          have HBA := Lib.hid (below_alloc HB.out (.cells #[.int .i64 ka, .string (bs nm), .string (bs vr)] 68))
          have HQ := Lib.hid (meet1_any ka nm vr t A2 c2 s A3 c3 (wr.alloc (.cells #[.int .i64 ka, .string (bs nm), .string (bs vr)] 68)) (HT.out.kept (Kept.of_below HBA.out)) (HS.out.kept (Kept.of_below HBA.out)))
          rw [← HPV.out] at HQ
          refine HQ.out.mono ?_
          rintro e w3 ⟨rfl, hb3⟩
          have HB3 := Lib.hid (below_next HBA.out hb3)
          clear hb3 HQ
          rcases hv : p ⟨ka, nm, vr⟩
          · have HG := Lib.hid (show G = false by rw [HG.out, qa_no HST.out hv]; rfl)
            clear hv
            go_wp2
            go_ret
            exact ⟨by rw [HG.out]; (try rfl), HB3.out⟩
          · have HV := Lib.hid hv
            clear hv
            go_wp2
            go_roundw
            case rel => exact ⟨k + 1, by omega, by simp, qa_step HST.out HN.out HV.out, HB3.out⟩
            case measure => (try simp only [intOf]); omega
        · have hn := HN.out
          rw [take_end hk hlt] at hn
          have HG := Lib.hid (show G = if !(s.all (stayP l t)) then false else if l.any (fun a => a.kind == 3) then justQ l t s else true by rw [HG.out, hn]; rfl)
          clear hn HN
          go_wp2_with fail
          have HQ := Lib.hid (qheld_any l A c s A3 c3 wr (HL.out.kept (Kept.of_below HB.out)) (HS.out.kept (Kept.of_below HB.out)) HX0.out hsl)
          refine HQ.out.mono ?_
          rintro e w3 ⟨B3, d3, rfl, he3, hb3⟩
          have HE := Lib.hid he3
          have HB := Lib.hid (below_next HB.out hb3)
          have hbe := he3.bd
          have HHL := Lib.hid (show (heldL l s).length = s.length from List.length_map ..)
          clear hb3 HQ he3 hk hlt
          have HB0 := HB
          clear HB
          go_wp2
          go_loopw [37] (fun i wr => ∃ k : Nat, k ≤ s.length ∧ i = .int .i64 k ∧ (s.take k).all (stayP l t) = true ∧ Below w3.heap.size w3 wr) (fun i _ => s.length - (intOf i).toNat)
          case atStart => exact ⟨0, Nat.zero_le _, rfl, rfl, Below.refl _ _⟩
          case round =>
            obtain ⟨k, hk, rfl, hn, hb⟩ := hrel
            have HN := Lib.hid hn
            have HBi := Lib.hid hb
            have HB := Lib.hid (below_next HB0.out hb)
            clear hn hb
            by_cases hlt : k < s.length
            · obtain ⟨x, b, o, r, hx, hA, hr, e0, e1, e2, e3, e4, e5, e6, e7, e8, e9, e10⟩ := HS.out.at_ hlt (Kept.of_below HB.out)
              subst hA
              have HX := Lib.hid hx
              have hkh : k < (heldL l s).length := by rw [HHL.out]; exact hlt
              have HBA := Lib.hid (below_alloc HB.out (.cells #[.string (bs (x).pkg.name), .string (bs (x).pkg.ver), .slice (r).a1 (x).pkg.pre.length (r).c1, .slice (r).a2 (x).pkg.dep.length (r).c2, .slice (r).a3 (x).pkg.rcm.length (r).c3, .slice (r).a4 (x).pkg.con.length (r).c4, .slice (r).a5 (x).pkg.brk.length (r).c5, .slice (r).a6 (x).pkg.prv.length (r).c6, .bool (x).pkg.ess, .bool (x).conf, .bool (x).hold] 45))
              have HBAi := Lib.hid (below_alloc HBi.out (.cells #[.string (bs (x).pkg.name), .string (bs (x).pkg.ver), .slice (r).a1 (x).pkg.pre.length (r).c1, .slice (r).a2 (x).pkg.dep.length (r).c2, .slice (r).a3 (x).pkg.rcm.length (r).c3, .slice (r).a4 (x).pkg.con.length (r).c4, .slice (r).a5 (x).pkg.brk.length (r).c5, .slice (r).a6 (x).pkg.prv.length (r).c6, .bool (x).pkg.ess, .bool (x).conf, .bool (x).hold] 45))
              obtain ⟨y, b2, o2, r2, hy, hA2, hr2, y0, y1, y2, y3, y4, y5, y6, y7, y8, y9, y10⟩ := HE.out.at_ hkh (Kept.of_below HBAi.out)
              subst hA2
              have hyx : heldX l x = y := by
                unfold heldL at hy
                rw [List.getElem?_map, hx] at hy
                injection hy
              rw [← hyx] at y10
              have HY := Lib.hid (show (heldX l x).hold = heldS l x from rfl)
              rw [HY.out] at y10
              have HLW := Lib.hid (HL.out.kept (Kept.of_below HBA.out))
              have HTW := Lib.hid (HT.out.kept (Kept.of_below HBA.out))
              have KX := Lib.hid (blk_new1 wr 45 #[.string (bs (x).pkg.name), .string (bs (x).pkg.ver), .slice (r).a1 (x).pkg.pre.length (r).c1, .slice (r).a2 (x).pkg.dep.length (r).c2, .slice (r).a3 (x).pkg.rcm.length (r).c3, .slice (r).a4 (x).pkg.con.length (r).c4, .slice (r).a5 (x).pkg.brk.length (r).c5, .slice (r).a6 (x).pkg.prv.length (r).c6, .bool (x).pkg.ess, .bool (x).conf, .bool (x).hold])
              have hj0 : (0 : Int) ≤ (k : Int) := Int.natCast_nonneg _
              have hj1 : (k : Int) < ((heldL l s).length : Int) := by omega
              obtain ⟨hh, hhh⟩ : ∃ hh, heldS l x = hh := ⟨_, rfl⟩
              rw [hhh] at y10
              obtain ⟨v, hv⟩ : ∃ v, stayQ l t x hh = v := ⟨_, rfl⟩
              have HSV := Lib.hid hv
              have HPV := Lib.hid (show stayP l t x = v by unfold stayP; rw [hhh]; exact hv)
              obtain ⟨nh, hnh⟩ : ∃ nh, nh = (heldL l s).length := ⟨_, rfl⟩
              rw [← hnh] at hj1 ⊢
              clear hx hr hy hr2 hyx hkh hhh hv hnh y0 y1 y2 y3 y4 y5 y6 y7 y8 y9
              go_wp2_with fail
              clear e0 e1 e2 e3 e4 e5 e6 e7 e8 e9 e10
              obtain ⟨x0, x1, x2, x3, x4, x5, x6, x7, x8, x9, x10⟩ := blk11 KX.out
              (have q0 := fun p : Be _ => Be.cell x0 p); (have q1 := fun p : Be _ => Be.cell x1 p); (have q2 := fun p : Be _ => Be.cell x2 p); (have q3 := fun p : Be _ => Be.cell x3 p); (have q4 := fun p : Be _ => Be.cell x4 p); (have q5 := fun p : Be _ => Be.cell x5 p); (have q6 := fun p : Be _ => Be.cell x6 p); (have q7 := fun p : Be _ => Be.cell x7 p); (have q8 := fun p : Be _ => Be.cell x8 p); (have q9 := fun p : Be _ => Be.cell x9 p); (have q10 := fun p : Be _ => Be.cell x10 p)
              have z10 := fun p : Be _ => Be.cell y10 p
              clear x0 x1 x2 x3 x4 x5 x6 x7 x8 x9 x10
              refine region_be (by kernel_rfl) (by kernel_rfl) ?_
              repeat (quiet_step (first | (go_at_call 81; with_reducible exact Calls.be_of ((stays_any l _ _ t _ _ x r hh _ (HLW.out.kept (Be.kept _)) (HTW.out.kept (Be.kept _))).mono fun _ _ h => ⟨h.1.trans (congrArg (fun b => Ending.returned (Value.bool b)) HSV.out), h.2⟩))))
              refine wpQuiet_nil ?_
              intro _ hw'
              obtain ⟨pb, hw''⟩ := hw'
              subst hw''
              obtain ⟨W3, hbw⟩ := pb
              dsimp only
              have HB5 := Lib.hid (below_next HBA.out hbw)
              have HB5i := Lib.hid (below_next HBAi.out hbw)
              clear hbw z10 y10 q0 q1 q2 q3 q4 q5 q6 q7 q8 q9 q10
              rcases v with _ | _
              · have HG := Lib.hid (show G = false by rw [HG.out, qa_no HX.out HPV.out]; rfl)
                go_wp2
                go_ret
                exact ⟨by rw [HG.out]; (try rfl), HB5.out⟩
              · go_wp2
                go_roundw
                case rel => exact ⟨k + 1, by omega, by simp, qa_step HX.out HN.out HPV.out, HB5i.out⟩
                case measure => (try simp only [intOf]); omega
            · have hn := HN.out
              rw [take_end hk hlt] at hn
              have HG := Lib.hid (show G = if l.any (fun a => a.kind == 3) then justQ l t s else true by rw [HG.out, hn]; rfl)
              clear hn HN
              go_wp2_with fail
              have HQ := Lib.hid (asks_any l A c 3 wr (HL.out.kept (Kept.of_below HB.out)))
              refine HQ.out.mono ?_
              rintro e w5 ⟨rfl, hb5⟩
              have HB5 := Lib.hid (below_next HB.out hb5)
              clear hb5 HQ
              rcases ha : l.any (fun a => a.kind == 3)
              · have HG := Lib.hid (show G = true by rw [HG.out, ha]; rfl)
                clear ha
                go_wp2
                go_ret
                exact ⟨by rw [HG.out]; (try rfl), HB5.out⟩
              · have HG := Lib.hid (show G = justQ l t s by rw [HG.out, ha]; rfl)
                clear ha
                go_wp2_with fail
                have HQ := Lib.hid (just_any l A c t A2 c2 s A3 c3 w5 (HL.out.kept (Kept.of_below HB5.out)) (HT.out.kept (Kept.of_below HB5.out)) (HS.out.kept (Kept.of_below HB5.out)))
                rw [← HG.out] at HQ
                refine HQ.out.mono ?_
                rintro e w6 ⟨rfl, hb6⟩
                have HB6 := Lib.hid (below_next HB5.out hb6)
                clear hb6 HQ
                go_wp2
                go_ret
                exact ⟨rfl, HB6.out⟩
    · have HG := Lib.hid (show G = false from HG.out.trans (if_pos (by simp [htw])))
      clear htw
      go_wp2
      go_ret
      exact ⟨by rw [HG.out]; (try rfl), HB.out⟩
  · have HG := Lib.hid (show G = false by rw [hG, if_pos h0])
    have hMb : (M != 0) = true := by rw [bne_iff_ne]; exact h0
    clear h0 hG
    go_enter Tryz.func43, Tryz.ntmps43
    go_wp2_with fail
    refine HMQ.out.mono ?_
    rintro e w1 ⟨rfl, hb1⟩
    have HB := Lib.hid hb1
    clear hb1 HMQ
    go_wp2
    go_ret
    exact ⟨by rw [HG.out]; (try rfl), HB.out⟩
end Go.Proofs.YtaicidbopgnmfaaGreatDoor
namespace Go.Proofs.YtaicidbopgnmfaaGreatDoor
set_option linter.unusedSimpArgs false
set_option linter.unusedVariables false
open Go.RowKit
attribute [local go_sem ↓] Go.wp_at_zero Go.wp_at_succ
def namA (n : List UInt8) (a : Stp) : Bool := a.name == n
def aboutQ (l : List Stp) (n : List UInt8) : Stp := match l.find? (namA n) with | some a => a | none => ⟨0, [], []⟩
set_option maxRecDepth 100000 in
set_option maxHeartbeats 1000000 in
theorem rabout_any (l : List Stp) (A : Option Addr) (c : Nat) (n : List UInt8) (w : World) (hl : Stps w A c l) :
    Calls Tryz.prog 50 #[.slice A l.length c, .string (bs n)] w fun e w' => e = .returned (.agg #[.int .i64 (aboutQ l n).kind, .string (bs (aboutQ l n).name), .string (bs (aboutQ l n).ver)]) ∧ Below w.heap.size w w' := by
  have HL := Lib.hid hl
  have hbl := Slc.bd hl
  clear hl
  obtain ⟨Q, hQ⟩ : ∃ Q, Q = aboutQ l n := ⟨_, rfl⟩
  rw [← hQ]
  have HQQ := Lib.hid hQ
  clear hQ
  go_enter Tryz.func50, Tryz.ntmps50
  go_wp2
  go_loopw [9] (fun i wr => ∃ k : Nat, k ≤ l.length ∧ i = .int .i64 k ∧ (l.take k).any (namA n) = false ∧ Blk wr w.heap.size 68 #[.int .i64 0, .string (bs []), .string (bs [])] ∧ Below w.heap.size w wr) (fun i _ => l.length - (intOf i).toNat)
  case atStart => exact ⟨0, Nat.zero_le _, rfl, rfl, blk_new1 _ _ _, (Below.refl _ _).alloc (Nat.le_refl _) _⟩
  case round =>
    obtain ⟨k, hk, rfl, hn, hB, hb⟩ := hrel
    have HN := Lib.hid hn
    have HB := Lib.hid hb
    have HBk := Lib.hid hB
    have hsz : w.heap.size < wr.heap.size := hB.lt
    clear hn hb hB
    have c0 := HBk.out.cell 0
    have c1 := HBk.out.cell 1
    have c2 := HBk.out.cell 2
    simp only [List.getElem?_toArray, List.getElem?_cons_zero, List.getElem?_cons_succ] at c0 c1 c2
    have f0 := HBk.out.frozen 0
    have f1 := HBk.out.frozen 1
    have f2 := HBk.out.frozen 2
    by_cases hlt : k < l.length
    · obtain ⟨⟨ka, nm, vr⟩, b, o, hst, rfl, e0, e1, e2⟩ := HL.out.at_ hlt (Kept.of_below HB.out)
      have HST := Lib.hid hst
      dsimp only at e0 e1 e2
      clear hst
      by_cases hnm : nm = n
      · have hnb : (nm == n) = true := by simpa using hnm
        have HF := Lib.hid (show Q = ⟨ka, nm, vr⟩ by rw [HQQ.out]; unfold aboutQ; rw [find_hit HST.out (show namA n ⟨ka, nm, vr⟩ = true by simp [namA, hnm]) HN.out])
        clear hnm
        go_wp2_with fail
        refine bodyPost_ret (v := (.agg #[.int .i64 ka, .string (bs nm), .string (bs vr)])) (by simp [results, Tryz.results50, go_sem, c0, c1, c2, hsz]) rfl ?_
        refine ⟨by rw [HF.out], ?_⟩
        have hb0 := HB.out
        exact below_alloc (((hb0.setCell (Nat.le_refl _) _).setCell (Nat.le_refl _) _).setCell (Nat.le_refl _) _) _
      · have hnb : (nm == n) = false := by simpa using hnm
        have HA := Lib.hid (show namA n ⟨ka, nm, vr⟩ = false from hnb)
        clear hnm
        go_wp2_with fail
        go_roundw
        case rel => exact ⟨k + 1, by omega, by simp, any_step HST.out HA.out HN.out, HBk.out.alloc _, below_alloc HB.out _⟩
        case measure => (try simp only [intOf]); omega
    · have HF := Lib.hid (show Q = ⟨0, [], []⟩ by rw [HQQ.out]; unfold aboutQ; rw [find_at (any_end hk hlt HN.out)])
      go_wp2
      refine bodyPost_ret (v := (.agg #[.int .i64 0, .string (bs []), .string (bs [])])) (by simp [results, Tryz.results50, go_sem, c0, c1, c2, hsz]; rfl) rfl ?_
      refine ⟨by rw [HF.out], ?_⟩
      have hb0 := HB.out
      exact ((hb0.setCell (Nat.le_refl _) _).setCell (Nat.le_refl _) _).setCell (Nat.le_refl _) _
end Go.Proofs.YtaicidbopgnmfaaGreatDoor
