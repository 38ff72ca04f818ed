/- The contract of the reference's Meets. -/
import Derived.Test.YtaicidbopgnmfaaGreatDoorRj
namespace Go.Proofs.YtaicidbopgnmfaaGreatDoor
set_option linter.unusedSimpArgs false
set_option linter.unusedVariables false
open Go.RowKit
attribute [local go_sem ↓] Go.wp_at_zero Go.wp_at_succ
attribute [local irreducible] wpQuiet
theorem idx_fnd {α : Type} (p : α → Bool) (l : List α) : (idxS p l = -1 ∧ l.find? p = none) ∨ ∃ (k : Nat) (x : α), idxS p l = k ∧ l[k]? = some x ∧ l.find? p = some x := by
  rcases h : l.findIdx? p with _ | k
  · rw [List.findIdx?_eq_none_iff] at h
    have : l.any p = false := by simpa using h
    exact .inl ⟨idx_no this, find_at this⟩
  · have h2 := h
    rw [List.findIdx?_eq_some_iff_getElem] at h
    obtain ⟨hk, hp, hn⟩ := h
    refine .inr ⟨k, l[k], by simp [idxS, h2], List.getElem?_eq_getElem hk, ?_⟩
    rw [List.find?_eq_some_iff_getElem]
    exact ⟨hp, k, hk, rfl, fun j hj => by simpa using hn j hj⟩
theorem fld3_0 (W : World) (a b c : Value) : (Instr.field 68 (.agg #[a, b, c]) 0).run Tryz.prog W = .ok a W := by kernel_rfl
def rstayQ (l : List Stp) (t : List Pkg) (x : Ent) (h : Bool) : Bool :=
  match t.find? (pnB x.pkg.name) with
  | none => !h && !x.pkg.ess
  | some p => if h && !sameV p.ver x.pkg.ver then false else decide (0 ≤ (cmpV p.ver x.pkg.ver).1) || exactQ (aboutQ l x.pkg.name)
def rstayP (l : List Stp) (t : List Pkg) (x : Ent) : Bool := rstayQ l t x (foldH l x)
def addQ (l : List Stp) (s : List Ent) (p : Pkg) : Bool := s.any (nameE p.name) || (aboutQ l p.name).kind == 1
def goneQ (l : List Stp) (t : List Pkg) (x : Ent) : Bool := (t.find? (pnB x.pkg.name)).isSome || (aboutQ l x.pkg.name).kind == 2
def rmeetsQ (l : List Stp) (t : List Pkg) (s : List Ent) : Bool :=
  if mayQs l ≠ 0 then false else if !(l.all fun a => meet1 a t s) then false else if !(s.all (rstayP l t)) then false else if l.any (fun a => a.kind == 3) then t.all (addQ l s) && s.all (goneQ l t) else true
set_option maxRecDepth 100000 in
set_option maxHeartbeats 4000000 in
theorem rmeets_any (l : List Stp) (A : Option Addr) (c : Nat) (t : List Pkg) (A2 : Option Addr) (c2 : Nat) (s : List Ent) (A3 : Option Addr) (c3 : Nat) (w : World) (hl : Stps w A c l) (hsh : ∀ a ∈ l, short a.name) (ht : Pkgs w A2 c2 t) (hs : Ents w A3 c3 s) (hsl : s.length ≤ 1000) :
    Calls Tryz.prog 44 #[.slice A l.length c, .slice A2 t.length c2, .slice A3 s.length c3] w fun e w' => e = .returned (.bool (rmeetsQ l t s)) ∧ Below w.heap.size w w' := by
  have HL := Lib.hid hl
  have HT := Lib.hid ht
  have HS := Lib.hid hs
  have HMQ := Lib.hid (rmayAsks_any l A c w hl hsh)
  have hbl := Slc.bd hl
  have hbt := ht.bd
  have hbs := hs.bd
  clear hl ht hs hsh
  obtain ⟨G, hG⟩ : ∃ G, G = rmeetsQ l t s := ⟨_, rfl⟩
  rw [← hG]
  unfold rmeetsQ at hG
  obtain ⟨M, hM⟩ : ∃ M, M = mayQs l := ⟨_, rfl⟩
  rw [← hM] at hG HMQ
  clear hM
  by_cases h0 : M = 0
  · subst h0
    rw [if_neg (by simp)] at hG
    go_enter Tryz.func44, Tryz.ntmps44
    have HG := Lib.hid hG
    clear hG
    go_wp2_with fail
    refine HMQ.out.mono ?_
    rintro e w1 ⟨rfl, hb1⟩
    have HB0 := Lib.hid hb1
    clear hb1 HMQ
    go_wp2
    obtain ⟨p, hp⟩ : ∃ p : Stp → Bool, p = fun a => meet1 a t s := ⟨_, rfl⟩
    rw [← hp] at HG
    have HP := Lib.hid hp
    clear hp
    go_loopw [23] (fun i wr => ∃ k : Nat, k ≤ l.length ∧ i = .int .i64 k ∧ (l.take k).all p = true ∧ Below w.heap.size w wr) (fun i _ => l.length - (intOf i).toNat)
    case atStart => exact ⟨0, Nat.zero_le _, rfl, rfl, HB0.out⟩
    case round =>
      clear HB0
      obtain ⟨k, hk, rfl, hn, hb⟩ := hrel
      have HN := Lib.hid hn
      have HB := Lib.hid hb
      clear hn hb
      by_cases hlt : k < l.length
      · obtain ⟨⟨ka, nm, vr⟩, b, o, hst, hA, e0, e1, e2⟩ := HL.out.at_ hlt (Kept.of_below HB.out)
        subst hA
        have HST := Lib.hid hst
        have HPV := Lib.hid (show p ⟨ka, nm, vr⟩ = meet1 ⟨ka, nm, vr⟩ t s by rw [HP.out])
        dsimp only at e0 e1 e2
        clear hst
        go_wp2_with fail
        clear e0 e1 e2
        have KA := Lib.hid (blk_new1 wr 68 #[.int .i64 ka, .string (bs nm), .string (bs vr)])
        have HBA := Lib.hid (below_alloc HB.out (.cells #[.int .i64 ka, .string (bs nm), .string (bs vr)] 68))
        have HQ := Lib.hid (rfindPk_any A2 c2 t nm (wr.alloc (.cells #[.int .i64 ka, .string (bs nm), .string (bs vr)] 68)) (HT.out.kept (Kept.of_below HBA.out)))
        rcases idx_fnd (pnB nm) t with ⟨hi, hf⟩ | ⟨j, q, hi, hj, hf⟩
        · rw [hi] at HQ
          refine HQ.out.mono ?_
          rintro e w1 ⟨rfl, hb1⟩
          have KA := Lib.hid (KA.out.next hb1)
          have HB := Lib.hid (below_next HBA.out hb1)
          have a0 := KA.out.cell 0
          have a1 := KA.out.cell 1
          have a2 := KA.out.cell 2
          simp only [List.getElem?_toArray, List.getElem?_cons_zero, List.getElem?_cons_succ] at a0 a1 a2
          clear hb1 HQ HBA hi
          by_cases h1 : ka = 1
          · have k1 : (ka == 1) = true := by simpa using h1
            have HM1 := Lib.hid (show meet1 ⟨ka, nm, vr⟩ t s = false by unfold meet1; rw [if_pos h1]; simp only [hf])
            clear h1 hf
            go_wp2_with fail
            go_quiet (fail)
            go_wp2
            have HG := Lib.hid (show G = false by rw [HG.out, qa_no HST.out ((HPV.out).trans (HM1.out))]; rfl)
            go_ret
            exact ⟨by rw [HG.out]; (try rfl), by first | exact HB.out | exact below_drewN HB.out _⟩
          · have k1 : (ka == 1) = false := by simpa using h1
            by_cases h2 : ka = 2
            · have k2 : (ka == 2) = true := by simpa using h2
              have HM1 := Lib.hid (show meet1 ⟨ka, nm, vr⟩ t s = true by unfold meet1; rw [if_neg h1, if_pos h2]; simp only [hf]; rfl)
              clear h1 h2 hf
              go_wp2
              have HV := Lib.hid (HPV.out.trans (HM1.out))
              go_roundw
              case rel => exact ⟨k + 1, by omega, by simp, qa_step HST.out HN.out HV.out, by first | exact HB.out | exact below_drewN HB.out _⟩
              case measure => (try simp only [intOf]); omega
            · have k2 : (ka == 2) = false := by simpa using h2
              clear hf
              by_cases h5 : ka = 5
              · have k5 : (ka == 5) = true := by simpa using h5
                have HM1 := Lib.hid (show meet1 ⟨ka, nm, vr⟩ t s = s.any (nameE nm) by unfold meet1; rw [if_neg h1, if_neg h2, if_pos h5])
                clear h1 h2 h5
                go_wp2_with fail
                have HQ := Lib.hid (rfind_any A3 c3 s nm w1 (HS.out.kept (Kept.of_below HB.out)))
                rcases idx_fnd (nameE nm) s with ⟨hi, hf⟩ | ⟨j, y, hi, hj, hf⟩
                · rw [hi] at HQ
                  have HM1 := Lib.hid (show meet1 ⟨ka, nm, vr⟩ t s = false by rw [HM1.out, ← find_some_any, hf]; rfl)
                  clear hi hf
                  refine HQ.out.mono ?_
                  rintro e w3 ⟨rfl, hb3⟩
                  have HB := Lib.hid (below_next HB.out hb3)
                  clear hb3 HQ
                  go_wp2
                  have HG := Lib.hid (show G = false by rw [HG.out, qa_no HST.out ((HPV.out).trans (HM1.out))]; rfl)
                  go_ret
                  exact ⟨by rw [HG.out]; (try rfl), by first | exact HB.out | exact below_drewN HB.out _⟩
                · rw [hi] at HQ
                  have HM1 := Lib.hid (show meet1 ⟨ka, nm, vr⟩ t s = true by rw [HM1.out, ← find_some_any, hf]; rfl)
                  clear hi hf hj
                  refine HQ.out.mono ?_
                  rintro e w3 ⟨rfl, hb3⟩
                  have HB := Lib.hid (below_next HB.out hb3)
                  clear hb3 HQ
                  have hj0 : decide ((j : Int) < 0) = false := decide_eq_false (by omega)
                  go_wp2
                  have HV := Lib.hid (HPV.out.trans (HM1.out))
                  go_roundw
                  case rel => exact ⟨k + 1, by omega, by simp, qa_step HST.out HN.out HV.out, by first | exact HB.out | exact below_drewN HB.out _⟩
                  case measure => (try simp only [intOf]); omega
              · have k5 : (ka == 5) = false := by simpa using h5
                have HM1 := Lib.hid (show meet1 ⟨ka, nm, vr⟩ t s = true by unfold meet1; rw [if_neg h1, if_neg h2, if_neg h5])
                clear h1 h2 h5
                go_wp2
                have HV := Lib.hid (HPV.out.trans (HM1.out))
                go_roundw
                case rel => exact ⟨k + 1, by omega, by simp, qa_step HST.out HN.out HV.out, by first | exact HB.out | exact below_drewN HB.out _⟩
                case measure => (try simp only [intOf]); omega
        · have HJT := Lib.hid hj
          have hjl : j < t.length := (List.getElem?_eq_some_iff.1 hj).1
          have hj0 : (0 : Int) ≤ (j : Int) := Int.natCast_nonneg _
          have hj1 : (j : Int) < (t.length : Int) := by omega
          have hjd : decide ((j : Int) < 0) = false := decide_eq_false (by omega)
          have hje : decide (0 ≤ (j : Int)) = true := decide_eq_true (by omega)
          rw [hi] at HQ
          refine HQ.out.mono ?_
          rintro e w1 ⟨rfl, hb1⟩
          have KA := Lib.hid (KA.out.next hb1)
          have HB := Lib.hid (below_next HBA.out hb1)
          have a0 := KA.out.cell 0
          have a1 := KA.out.cell 1
          have a2 := KA.out.cell 2
          simp only [List.getElem?_toArray, List.getElem?_cons_zero, List.getElem?_cons_succ] at a0 a1 a2
          clear hb1 HQ HBA hi hj
          by_cases h1 : ka = 1
          · have k1 : (ka == 1) = true := by simpa using h1
            by_cases hv : vr = []
            · have hvb : vr.isEmpty = true := by simpa using hv
              have HM1 := Lib.hid (show meet1 ⟨ka, nm, vr⟩ t s = true by unfold meet1; rw [if_pos h1]; simp [hf, hv])
              clear h1 hf hv
              go_wp2_with fail
              go_quiet (fail)
              go_wp2
              have HV := Lib.hid (HPV.out.trans (HM1.out))
              go_roundw
              case rel => exact ⟨k + 1, by omega, by simp, qa_step HST.out HN.out HV.out, by first | exact HB.out | exact below_drewN HB.out _⟩
              case measure => (try simp only [intOf]); omega
            · have hvb : vr.isEmpty = false := by simpa using hv
              obtain ⟨sv, hsv⟩ : ∃ sv, sameV q.ver vr = sv := ⟨_, rfl⟩
              have HSV := Lib.hid hsv
              have HM1 := Lib.hid (show meet1 ⟨ka, nm, vr⟩ t s = sv by unfold meet1; rw [if_pos h1]; simp only [hf]; rw [hsv]; simp [hv])
              clear h1 hf hv hsv
              obtain ⟨q3, b4, o4, rp, hq3, hA4, hrp, d0, d1, d2, d3, d4, d5, d6, d7, d8⟩ := HT.out.at_ hjl (Kept.of_below HB.out)
              have hq4 : q3 = q := Option.some.inj (hq3.symm.trans HJT.out)
              subst hq4
              subst hA4
              clear hq3 hrp d0 d2 d3 d4 d5 d6 d7 d8
              go_wp2_with fail
              have z0 := fun p : Be _ => Be.cell a0 p
              have z2 := fun p : Be _ => Be.cell a2 p
              have z3 := fun p : Be _ => Be.cell d1 p
              refine region_be (by kernel_rfl) (by kernel_rfl) ?_
              repeat (quiet_step (first | (go_at_call 67; with_reducible exact Calls.be_of ((rSameVersion_any _ _ _).mono fun _ _ h => ⟨h.1.trans (congrArg (fun b => Ending.returned (Value.bool b)) HSV.out), h.2⟩))))
              refine wpQuiet_nil ?_
              intro _ hw'
              obtain ⟨pb, hw''⟩ := hw'
              subst hw''
              obtain ⟨W3, hbw⟩ := pb
              dsimp only
              have HB := Lib.hid (below_next HB.out hbw)
              clear hbw z0 z2 z3 d1 a0 a1 a2
              rcases sv with _ | _
              · go_wp2
                have HG := Lib.hid (show G = false by rw [HG.out, qa_no HST.out ((HPV.out).trans (HM1.out))]; rfl)
                go_ret
                exact ⟨by rw [HG.out]; (try rfl), by first | exact HB.out | exact below_drewN HB.out _⟩
              · go_wp2
                have HV := Lib.hid (HPV.out.trans (HM1.out))
                go_roundw
                case rel => exact ⟨k + 1, by omega, by simp, qa_step HST.out HN.out HV.out, by first | exact HB.out | exact below_drewN HB.out _⟩
                case measure => (try simp only [intOf]); omega
          · have k1 : (ka == 1) = false := by simpa using h1
            by_cases h2 : ka = 2
            · have k2 : (ka == 2) = true := by simpa using h2
              have HM1 := Lib.hid (show meet1 ⟨ka, nm, vr⟩ t s = false by unfold meet1; rw [if_neg h1, if_pos h2]; simp only [hf]; rfl)
              clear h1 h2 hf
              go_wp2
              have HG := Lib.hid (show G = false by rw [HG.out, qa_no HST.out ((HPV.out).trans (HM1.out))]; rfl)
              go_ret
              exact ⟨by rw [HG.out]; (try rfl), by first | exact HB.out | exact below_drewN HB.out _⟩
            · have k2 : (ka == 2) = false := by simpa using h2
              clear hf
              by_cases h5 : ka = 5
              · have k5 : (ka == 5) = true := by simpa using h5
                have HM1 := Lib.hid (show meet1 ⟨ka, nm, vr⟩ t s = s.any (nameE nm) by unfold meet1; rw [if_neg h1, if_neg h2, if_pos h5])
                clear h1 h2 h5
                go_wp2_with fail
                have HQ := Lib.hid (rfind_any A3 c3 s nm w1 (HS.out.kept (Kept.of_below HB.out)))
                rcases idx_fnd (nameE nm) s with ⟨hi, hf⟩ | ⟨j, y, hi, hj, hf⟩
                · rw [hi] at HQ
                  have HM1 := Lib.hid (show meet1 ⟨ka, nm, vr⟩ t s = false by rw [HM1.out, ← find_some_any, hf]; rfl)
                  clear hi hf
                  refine HQ.out.mono ?_
                  rintro e w3 ⟨rfl, hb3⟩
                  have HB := Lib.hid (below_next HB.out hb3)
                  clear hb3 HQ
                  go_wp2
                  have HG := Lib.hid (show G = false by rw [HG.out, qa_no HST.out ((HPV.out).trans (HM1.out))]; rfl)
                  go_ret
                  exact ⟨by rw [HG.out]; (try rfl), by first | exact HB.out | exact below_drewN HB.out _⟩
                · rw [hi] at HQ
                  have HM1 := Lib.hid (show meet1 ⟨ka, nm, vr⟩ t s = true by rw [HM1.out, ← find_some_any, hf]; rfl)
                  clear hi hf hj
                  refine HQ.out.mono ?_
                  rintro e w3 ⟨rfl, hb3⟩
                  have HB := Lib.hid (below_next HB.out hb3)
                  clear hb3 HQ
                  have hj0 : decide ((j : Int) < 0) = false := decide_eq_false (by omega)
                  go_wp2
                  have HV := Lib.hid (HPV.out.trans (HM1.out))
                  go_roundw
                  case rel => exact ⟨k + 1, by omega, by simp, qa_step HST.out HN.out HV.out, by first | exact HB.out | exact below_drewN HB.out _⟩
                  case measure => (try simp only [intOf]); omega
              · have k5 : (ka == 5) = false := by simpa using h5
                have HM1 := Lib.hid (show meet1 ⟨ka, nm, vr⟩ t s = true by unfold meet1; rw [if_neg h1, if_neg h2, if_neg h5])
                clear h1 h2 h5
                go_wp2
                have HV := Lib.hid (HPV.out.trans (HM1.out))
                go_roundw
                case rel => exact ⟨k + 1, by omega, by simp, qa_step HST.out HN.out HV.out, by first | exact HB.out | exact below_drewN HB.out _⟩
                case measure => (try simp only [intOf]); omega
      · have hn := HN.out
        rw [take_end hk hlt] at hn
        have HG := Lib.hid (show G = if !(s.all (rstayP l t)) then false else if l.any (fun a => a.kind == 3) then t.all (addQ l s) && s.all (goneQ l t) else true by rw [HG.out, hn]; rfl)
        clear hn HN
        go_wp2_with fail
        have HQ := Lib.hid (rHeld_any l A c s A3 c3 wr (HL.out.kept (Kept.of_below HB.out)) (HS.out.kept (Kept.of_below HB.out)) hsl)
        refine HQ.out.mono ?_
        rintro e w3 ⟨B3, d3, rfl, he3, hb3⟩
        have HE := Lib.hid he3
        have HB0 := Lib.hid (below_next HB.out hb3)
        have hbe := he3.bd
        have HHL := Lib.hid (show (rheldL l s).length = s.length from List.length_map ..)
        clear hb3 HQ he3 hk hlt HB
        go_wp2
        go_loopw [69] (fun i wr => ∃ k : Nat, k ≤ s.length ∧ i = .int .i64 k ∧ (s.take k).all (rstayP l t) = true ∧ Below w3.heap.size w3 wr) (fun i _ => s.length - (intOf i).toNat)
        case atStart => exact ⟨0, Nat.zero_le _, rfl, rfl, Below.refl _ _⟩
        case round =>
          obtain ⟨k, hk, rfl, hn, hb⟩ := hrel
          have HN := Lib.hid hn
          have HBi := Lib.hid hb
          have HB := Lib.hid (below_next HB0.out hb)
          clear hn hb
          by_cases hlt : k < s.length
          · have hkh : k < (rheldL l s).length := by rw [HHL.out]; exact hlt
            obtain ⟨x, hx⟩ : ∃ x, s[k]? = some x := ⟨_, List.getElem?_eq_getElem hlt⟩
            obtain ⟨y, b2, o2, r2, hy, hA2, hr2, y0, y1, y2, y3, y4, y5, y6, y7, y8, y9, y10⟩ := HE.out.at_ hkh (Kept.of_below HBi.out)
            subst hA2
            have hyx : rheldX l x = y := by
              unfold rheldL at hy
              rw [List.getElem?_map, hx] at hy
              injection hy
            have HX := Lib.hid hx
            have HPV := Lib.hid (show rstayP l t x = rstayQ l t y y.hold by rw [← hyx]; rfl)
            obtain ⟨hh, hhh⟩ : ∃ hh, y.hold = hh := ⟨_, rfl⟩
            obtain ⟨es, hes⟩ : ∃ es, y.pkg.ess = es := ⟨_, rfl⟩
            have HHH := Lib.hid hhh
            have HES := Lib.hid hes
            have KX := Lib.hid (blk_new1 wr 45 #[.string (bs (y).pkg.name), .string (bs (y).pkg.ver), .slice (r2).a1 (y).pkg.pre.length (r2).c1, .slice (r2).a2 (y).pkg.dep.length (r2).c2, .slice (r2).a3 (y).pkg.rcm.length (r2).c3, .slice (r2).a4 (y).pkg.con.length (r2).c4, .slice (r2).a5 (y).pkg.brk.length (r2).c5, .slice (r2).a6 (y).pkg.prv.length (r2).c6, .bool (y).pkg.ess, .bool (y).conf, .bool (y).hold])
            have HBA := Lib.hid (below_alloc HB.out (.cells #[.string (bs (y).pkg.name), .string (bs (y).pkg.ver), .slice (r2).a1 (y).pkg.pre.length (r2).c1, .slice (r2).a2 (y).pkg.dep.length (r2).c2, .slice (r2).a3 (y).pkg.rcm.length (r2).c3, .slice (r2).a4 (y).pkg.con.length (r2).c4, .slice (r2).a5 (y).pkg.brk.length (r2).c5, .slice (r2).a6 (y).pkg.prv.length (r2).c6, .bool (y).pkg.ess, .bool (y).conf, .bool (y).hold] 45))
            have HBAi := Lib.hid (below_alloc HBi.out (.cells #[.string (bs (y).pkg.name), .string (bs (y).pkg.ver), .slice (r2).a1 (y).pkg.pre.length (r2).c1, .slice (r2).a2 (y).pkg.dep.length (r2).c2, .slice (r2).a3 (y).pkg.rcm.length (r2).c3, .slice (r2).a4 (y).pkg.con.length (r2).c4, .slice (r2).a5 (y).pkg.brk.length (r2).c5, .slice (r2).a6 (y).pkg.prv.length (r2).c6, .bool (y).pkg.ess, .bool (y).conf, .bool (y).hold] 45))
            have hj0 : (0 : Int) ≤ (k : Int) := Int.natCast_nonneg _
            have hj1 : (k : Int) < ((rheldL l s).length : Int) := by omega
            obtain ⟨nh, hnh⟩ : ∃ nh, nh = (rheldL l s).length := ⟨_, rfl⟩
            rw [← hnh] at hj1 ⊢
            clear hx hy hr2 hyx hkh hnh hhh hes
            go_wp2_with fail
            clear y0 y1 y2 y3 y4 y5 y6 y7 y8 y9 y10
            have HQ := Lib.hid (rfindPk_any A2 c2 t y.pkg.name (wr.alloc (.cells #[.string (bs (y).pkg.name), .string (bs (y).pkg.ver), .slice (r2).a1 (y).pkg.pre.length (r2).c1, .slice (r2).a2 (y).pkg.dep.length (r2).c2, .slice (r2).a3 (y).pkg.rcm.length (r2).c3, .slice (r2).a4 (y).pkg.con.length (r2).c4, .slice (r2).a5 (y).pkg.brk.length (r2).c5, .slice (r2).a6 (y).pkg.prv.length (r2).c6, .bool (y).pkg.ess, .bool (y).conf, .bool (y).hold] 45)) (HT.out.kept (Kept.of_below HBA.out)))
            rcases idx_fnd (pnB y.pkg.name) t with ⟨hi, hf⟩ | ⟨j, q, hi, hj, hf⟩
            · rw [hi] at HQ
              have HPV := Lib.hid (show rstayP l t x = (!hh && !es) by rw [HPV.out, HHH.out]; unfold rstayQ; rw [hf, ← HES.out])
              refine HQ.out.mono ?_
              rintro e w1 ⟨rfl, hb1⟩
              have KX := Lib.hid (KX.out.next hb1)
              have HB := Lib.hid (below_next HBA.out hb1)
              have HBi := Lib.hid (below_next HBAi.out hb1)
              have a0 := KX.out.cell 0
              have a1 := KX.out.cell 1
              have a8 := KX.out.cell 8
              have a10 := KX.out.cell 10
              simp only [List.getElem?_toArray, List.getElem?_cons_zero, List.getElem?_cons_succ] at a0 a1 a8 a10
              rw [HES.out] at a8
              rw [HHH.out] at a10
              clear hb1 HQ HBA HBAi hi hf
              rcases hh with _ | _
              · rcases es with _ | _
                · go_wp2_with fail
                  have z0 := fun p : Be _ => Be.cell a0 p
                  have z1 := fun p : Be _ => Be.cell a1 p
                  have z10 := fun p : Be _ => Be.cell a10 p
                  refine region_be (by kernel_rfl) (by kernel_rfl) ?_
                  repeat (quiet_step (first | (fail)))
                  refine wpQuiet_nil ?_
                  intro _ hw'
                  obtain ⟨pb, hw''⟩ := hw'
                  subst hw''
                  obtain ⟨W3, hbw⟩ := pb
                  dsimp only
                  have HB := Lib.hid (below_next HB.out hbw)
                  have HBi := Lib.hid (below_next HBi.out hbw)
                  have KX := Lib.hid (KX.out.next hbw)
                  clear hbw
                  clear z0 z1 z10 a0 a1 a8 a10
                  have a0 := KX.out.cell 0
                  have a1 := KX.out.cell 1
                  have a8 := KX.out.cell 8
                  have a10 := KX.out.cell 10
                  simp only [List.getElem?_toArray, List.getElem?_cons_zero, List.getElem?_cons_succ] at a0 a1 a8 a10
                  rw [HES.out] at a8
                  rw [HHH.out] at a10
                  go_wp2_with fail
                  have HQ := Lib.hid (rabout_any l A c y.pkg.name _ (HL.out.kept (Kept.of_below HB.out)))
                  obtain ⟨Q, hQ⟩ : ∃ Q, Q = aboutQ l y.pkg.name := ⟨_, rfl⟩
                  rw [← hQ] at HQ
                  have HQE := Lib.hid hQ
                  obtain ⟨qk, qn, qv⟩ := Q
                  dsimp only at HQ
                  refine HQ.out.mono ?_
                  rintro e w5 ⟨rfl, hb5⟩
                  have HB := Lib.hid (below_alloc (below_next HB.out hb5) (.cells #[.int .i64 qk, .string (bs qn), .string (bs qv)] 68))
                  have HBi := Lib.hid (below_alloc (below_next HBi.out hb5) (.cells #[.int .i64 qk, .string (bs qn), .string (bs qv)] 68))
                  have KX := Lib.hid ((KX.out.next hb5).alloc (.cells #[.int .i64 qk, .string (bs qn), .string (bs qv)] 68))
                  have KQ := Lib.hid (blk_new1 w5 68 #[.int .i64 qk, .string (bs qn), .string (bs qv)])
                  clear hb5 HQ hQ
                  go_wp2_with fail
                  clear a0 a1 a8 a10
                  have a0 := KX.out.cell 0
                  have a1 := KX.out.cell 1
                  have a8 := KX.out.cell 8
                  have a10 := KX.out.cell 10
                  simp only [List.getElem?_toArray, List.getElem?_cons_zero, List.getElem?_cons_succ] at a0 a1 a8 a10
                  rw [HES.out] at a8
                  rw [HHH.out] at a10
                  have z1 := fun p : Be _ => Be.cell a1 p
                  refine region_be (by kernel_rfl) (by kernel_rfl) ?_
                  repeat (quiet_step (first | (fail)))
                  refine wpQuiet_nil ?_
                  intro _ hw'
                  obtain ⟨pb, hw''⟩ := hw'
                  subst hw''
                  obtain ⟨W3, hbw⟩ := pb
                  dsimp only
                  have HB := Lib.hid (below_next HB.out hbw)
                  have HBi := Lib.hid (below_next HBi.out hbw)
                  have KX := Lib.hid (KX.out.next hbw)
                  clear hbw
                  have HV := Lib.hid (HPV.out.trans (rfl))
                  go_wp2
                  go_roundw
                  case rel => exact ⟨k + 1, by omega, by simp, qa_step HX.out HN.out HV.out, HBi.out⟩
                  case measure => (try simp only [intOf]); omega
                · have HG := Lib.hid (show G = false by rw [HG.out, qa_no HX.out ((HPV.out).trans (rfl))]; rfl)
                  go_wp2
                  go_ret
                  exact ⟨by rw [HG.out]; (try rfl), HB.out⟩
              · have HG := Lib.hid (show G = false by rw [HG.out, qa_no HX.out ((HPV.out).trans (rfl))]; rfl)
                go_wp2
                go_ret
                exact ⟨by rw [HG.out]; (try rfl), HB.out⟩
            · have HJT := Lib.hid hj
              have hjl : j < t.length := (List.getElem?_eq_some_iff.1 hj).1
              have hj2 : (0 : Int) ≤ (j : Int) := Int.natCast_nonneg _
              have hj3 : (j : Int) < (t.length : Int) := by omega
              have hjd : decide ((j : Int) < 0) = false := decide_eq_false (by omega)
              have hje : decide (0 ≤ (j : Int)) = true := decide_eq_true (by omega)
              rw [hi] at HQ
              have HPV := Lib.hid (show rstayP l t x = if hh && !sameV q.ver y.pkg.ver then false else decide (0 ≤ (cmpV q.ver y.pkg.ver).1) || exactQ (aboutQ l y.pkg.name) by rw [HPV.out, HHH.out]; unfold rstayQ; rw [hf])
              refine HQ.out.mono ?_
              rintro e w1 ⟨rfl, hb1⟩
              have KX := Lib.hid (KX.out.next hb1)
              have HB := Lib.hid (below_next HBA.out hb1)
              have HBi := Lib.hid (below_next HBAi.out hb1)
              have a0 := KX.out.cell 0
              have a1 := KX.out.cell 1
              have a8 := KX.out.cell 8
              have a10 := KX.out.cell 10
              simp only [List.getElem?_toArray, List.getElem?_cons_zero, List.getElem?_cons_succ] at a0 a1 a8 a10
              rw [HES.out] at a8
              rw [HHH.out] at a10
              clear hb1 HQ HBA HBAi hi hf hj
              rcases hh with _ | _
              · have HPV := Lib.hid (show rstayP l t x = (decide (0 ≤ (cmpV q.ver y.pkg.ver).1) || exactQ (aboutQ l y.pkg.name)) from HPV.out)
                rcases es with _ | _
                · go_wp2_with fail
                  have z0 := fun p : Be _ => Be.cell a0 p
                  have z1 := fun p : Be _ => Be.cell a1 p
                  have z10 := fun p : Be _ => Be.cell a10 p
                  refine region_be (by kernel_rfl) (by kernel_rfl) ?_
                  repeat (quiet_step (first | (fail)))
                  refine wpQuiet_nil ?_
                  intro _ hw'
                  obtain ⟨pb, hw''⟩ := hw'
                  subst hw''
                  obtain ⟨W3, hbw⟩ := pb
                  dsimp only
                  have HB := Lib.hid (below_next HB.out hbw)
                  have HBi := Lib.hid (below_next HBi.out hbw)
                  have KX := Lib.hid (KX.out.next hbw)
                  clear hbw
                  clear z0 z1 z10
                  clear a0 a1 a8 a10
                  have a0 := KX.out.cell 0
                  have a1 := KX.out.cell 1
                  have a8 := KX.out.cell 8
                  have a10 := KX.out.cell 10
                  simp only [List.getElem?_toArray, List.getElem?_cons_zero, List.getElem?_cons_succ] at a0 a1 a8 a10
                  rw [HES.out] at a8
                  rw [HHH.out] at a10
                  go_wp2_with fail
                  have HQ := Lib.hid (rabout_any l A c y.pkg.name _ (HL.out.kept (Kept.of_below HB.out)))
                  obtain ⟨Q, hQ⟩ : ∃ Q, Q = aboutQ l y.pkg.name := ⟨_, rfl⟩
                  rw [← hQ] at HQ
                  have HQE := Lib.hid hQ
                  obtain ⟨qk, qn, qv⟩ := Q
                  dsimp only at HQ
                  refine HQ.out.mono ?_
                  rintro e w5 ⟨rfl, hb5⟩
                  have HB := Lib.hid (below_alloc (below_next HB.out hb5) (.cells #[.int .i64 qk, .string (bs qn), .string (bs qv)] 68))
                  have HBi := Lib.hid (below_alloc (below_next HBi.out hb5) (.cells #[.int .i64 qk, .string (bs qn), .string (bs qv)] 68))
                  have KX := Lib.hid ((KX.out.next hb5).alloc (.cells #[.int .i64 qk, .string (bs qn), .string (bs qv)] 68))
                  have KQ := Lib.hid (blk_new1 w5 68 #[.int .i64 qk, .string (bs qn), .string (bs qv)])
                  clear hb5 HQ hQ
                  go_wp2_with fail
                  clear a0 a1 a8 a10
                  have a0 := KX.out.cell 0
                  have a1 := KX.out.cell 1
                  have a8 := KX.out.cell 8
                  have a10 := KX.out.cell 10
                  simp only [List.getElem?_toArray, List.getElem?_cons_zero, List.getElem?_cons_succ] at a0 a1 a8 a10
                  rw [HES.out] at a8
                  rw [HHH.out] at a10
                  have z1 := fun p : Be _ => Be.cell a1 p
                  have z10 := fun p : Be _ => Be.cell a10 p
                  have c0 := KQ.out.cell 0
                  have c2 := KQ.out.cell 2
                  simp only [List.getElem?_toArray, List.getElem?_cons_zero, List.getElem?_cons_succ] at c0 c2
                  have y0 := fun p : Be _ => Be.cell c0 p
                  have y2 := fun p : Be _ => Be.cell c2 p
                  obtain ⟨q3, b4, o4, rp, hq3, hA4, hrp, d0, d1, d2, d3, d4, d5, d6, d7, d8⟩ := HT.out.at_ hjl (Kept.of_below HB.out)
                  have hq4 : q3 = q := Option.some.inj (hq3.symm.trans HJT.out)
                  rw [hq4] at d1
                  clear hq3 hq4 hrp d0 d2 d3 d4 d5 d6 d7 d8
                  have D1 := fun p : Be _ => Be.cell d1 p
                  cases hA4
                  obtain ⟨cv, hcv⟩ : ∃ cv, (cmpV q.ver y.pkg.ver).1 = cv := ⟨_, rfl⟩
                  have HCV := Lib.hid hcv
                  have HPV := Lib.hid (show rstayP l t x = (decide (0 ≤ cv) || exactQ ⟨qk, qn, qv⟩) by rw [HPV.out, hcv, HQE.out])
                  clear hcv
                  by_cases hc : 0 ≤ cv
                  · have hcb : decide (cv < 0) = false := decide_eq_false (by omega)
                    have HM := Lib.hid (show (decide (0 ≤ cv) || exactQ ⟨qk, qn, qv⟩) = true by rw [decide_eq_true hc]; rfl)
                    clear hc
                    refine region_be (by kernel_rfl) (by kernel_rfl) ?_
                    repeat (quiet_step (first | (go_at_call 77; with_reducible exact Calls.be_of ((rCompare_any _ _ _).mono fun _ _ h => ⟨h.1.trans (congrArg (fun b => Ending.returned (Value.int .i64 b)) HCV.out), h.2⟩))))
                    refine wpQuiet_nil ?_
                    intro _ hw'
                    obtain ⟨pb, hw''⟩ := hw'
                    subst hw''
                    obtain ⟨W3, hbw⟩ := pb
                    dsimp only
                    have HB := Lib.hid (below_next HB.out hbw)
                    have HBi := Lib.hid (below_next HBi.out hbw)
                    have KX := Lib.hid (KX.out.next hbw)
                    clear hbw
                    have HV := Lib.hid (HPV.out.trans (HM.out))
                    go_wp2
                    go_roundw
                    case rel => exact ⟨k + 1, by omega, by simp, qa_step HX.out HN.out HV.out, HBi.out⟩
                    case measure => (try simp only [intOf]); omega
                  · have hcb : decide (cv < 0) = true := decide_eq_true (by omega)
                    have HC := Lib.hid (decide_eq_false hc)
                    clear hc
                    by_cases h1 : qk = 1
                    · have k1 : (qk != 1) = false := by simpa using h1
                      by_cases hv : qv = []
                      · have hvb : qv.isEmpty = true := by simpa using hv
                        have HM := Lib.hid (show (decide (0 ≤ cv) || exactQ ⟨qk, qn, qv⟩) = false by rw [HC.out]; simp [exactQ, hv])
                        clear h1 hv
                        refine region_be (by kernel_rfl) (by kernel_rfl) ?_
                        repeat (quiet_step (first | (go_at_call 77; with_reducible exact Calls.be_of ((rCompare_any _ _ _).mono fun _ _ h => ⟨h.1.trans (congrArg (fun b => Ending.returned (Value.int .i64 b)) HCV.out), h.2⟩))))
                        refine wpQuiet_nil ?_
                        intro _ hw'
                        obtain ⟨pb, hw''⟩ := hw'
                        subst hw''
                        obtain ⟨W3, hbw⟩ := pb
                        dsimp only
                        have HB := Lib.hid (below_next HB.out hbw)
                        have HBi := Lib.hid (below_next HBi.out hbw)
                        have KX := Lib.hid (KX.out.next hbw)
                        clear hbw
                        have HG := Lib.hid (show G = false by rw [HG.out, qa_no HX.out ((HPV.out).trans (HM.out))]; rfl)
                        go_wp2
                        go_ret
                        exact ⟨by rw [HG.out]; (try rfl), HB.out⟩
                      · have hvb : qv.isEmpty = false := by simpa using hv
                        have HM := Lib.hid (show (decide (0 ≤ cv) || exactQ ⟨qk, qn, qv⟩) = true by rw [HC.out]; simp [exactQ, hv, h1])
                        clear h1 hv
                        refine region_be (by kernel_rfl) (by kernel_rfl) ?_
                        repeat (quiet_step (first | (go_at_call 77; with_reducible exact Calls.be_of ((rCompare_any _ _ _).mono fun _ _ h => ⟨h.1.trans (congrArg (fun b => Ending.returned (Value.int .i64 b)) HCV.out), h.2⟩))))
                        refine wpQuiet_nil ?_
                        intro _ hw'
                        obtain ⟨pb, hw''⟩ := hw'
                        subst hw''
                        obtain ⟨W3, hbw⟩ := pb
                        dsimp only
                        have HB := Lib.hid (below_next HB.out hbw)
                        have HBi := Lib.hid (below_next HBi.out hbw)
                        have KX := Lib.hid (KX.out.next hbw)
                        clear hbw
                        have HV := Lib.hid (HPV.out.trans (HM.out))
                        go_wp2
                        go_roundw
                        case rel => exact ⟨k + 1, by omega, by simp, qa_step HX.out HN.out HV.out, HBi.out⟩
                        case measure => (try simp only [intOf]); omega
                    · have k1 : (qk != 1) = true := by simpa using h1
                      have HM := Lib.hid (show (decide (0 ≤ cv) || exactQ ⟨qk, qn, qv⟩) = false by rw [HC.out]; simp [exactQ, h1])
                      clear h1
                      refine region_be (by kernel_rfl) (by kernel_rfl) ?_
                      repeat (quiet_step (first | (go_at_call 77; with_reducible exact Calls.be_of ((rCompare_any _ _ _).mono fun _ _ h => ⟨h.1.trans (congrArg (fun b => Ending.returned (Value.int .i64 b)) HCV.out), h.2⟩))))
                      refine wpQuiet_nil ?_
                      intro _ hw'
                      obtain ⟨pb, hw''⟩ := hw'
                      subst hw''
                      obtain ⟨W3, hbw⟩ := pb
                      dsimp only
                      have HB := Lib.hid (below_next HB.out hbw)
                      have HBi := Lib.hid (below_next HBi.out hbw)
                      have KX := Lib.hid (KX.out.next hbw)
                      clear hbw
                      have HG := Lib.hid (show G = false by rw [HG.out, qa_no HX.out ((HPV.out).trans (HM.out))]; rfl)
                      go_wp2
                      go_ret
                      exact ⟨by rw [HG.out]; (try rfl), HB.out⟩
                · go_wp2_with fail
                  have z0 := fun p : Be _ => Be.cell a0 p
                  have z1 := fun p : Be _ => Be.cell a1 p
                  have z10 := fun p : Be _ => Be.cell a10 p
                  refine region_be (by kernel_rfl) (by kernel_rfl) ?_
                  repeat (quiet_step (first | (fail)))
                  refine wpQuiet_nil ?_
                  intro _ hw'
                  obtain ⟨pb, hw''⟩ := hw'
                  subst hw''
                  obtain ⟨W3, hbw⟩ := pb
                  dsimp only
                  have HB := Lib.hid (below_next HB.out hbw)
                  have HBi := Lib.hid (below_next HBi.out hbw)
                  have KX := Lib.hid (KX.out.next hbw)
                  clear hbw
                  clear z0 z1 z10
                  clear a0 a1 a8 a10
                  have a0 := KX.out.cell 0
                  have a1 := KX.out.cell 1
                  have a8 := KX.out.cell 8
                  have a10 := KX.out.cell 10
                  simp only [List.getElem?_toArray, List.getElem?_cons_zero, List.getElem?_cons_succ] at a0 a1 a8 a10
                  rw [HES.out] at a8
                  rw [HHH.out] at a10
                  go_wp2_with fail
                  have HQ := Lib.hid (rabout_any l A c y.pkg.name _ (HL.out.kept (Kept.of_below HB.out)))
                  obtain ⟨Q, hQ⟩ : ∃ Q, Q = aboutQ l y.pkg.name := ⟨_, rfl⟩
                  rw [← hQ] at HQ
                  have HQE := Lib.hid hQ
                  obtain ⟨qk, qn, qv⟩ := Q
                  dsimp only at HQ
                  refine HQ.out.mono ?_
                  rintro e w5 ⟨rfl, hb5⟩
                  have HB := Lib.hid (below_alloc (below_next HB.out hb5) (.cells #[.int .i64 qk, .string (bs qn), .string (bs qv)] 68))
                  have HBi := Lib.hid (below_alloc (below_next HBi.out hb5) (.cells #[.int .i64 qk, .string (bs qn), .string (bs qv)] 68))
                  have KX := Lib.hid ((KX.out.next hb5).alloc (.cells #[.int .i64 qk, .string (bs qn), .string (bs qv)] 68))
                  have KQ := Lib.hid (blk_new1 w5 68 #[.int .i64 qk, .string (bs qn), .string (bs qv)])
                  clear hb5 HQ hQ
                  go_wp2_with fail
                  clear a0 a1 a8 a10
                  have a0 := KX.out.cell 0
                  have a1 := KX.out.cell 1
                  have a8 := KX.out.cell 8
                  have a10 := KX.out.cell 10
                  simp only [List.getElem?_toArray, List.getElem?_cons_zero, List.getElem?_cons_succ] at a0 a1 a8 a10
                  rw [HES.out] at a8
                  rw [HHH.out] at a10
                  have z1 := fun p : Be _ => Be.cell a1 p
                  have z10 := fun p : Be _ => Be.cell a10 p
                  have c0 := KQ.out.cell 0
                  have c2 := KQ.out.cell 2
                  simp only [List.getElem?_toArray, List.getElem?_cons_zero, List.getElem?_cons_succ] at c0 c2
                  have y0 := fun p : Be _ => Be.cell c0 p
                  have y2 := fun p : Be _ => Be.cell c2 p
                  obtain ⟨q3, b4, o4, rp, hq3, hA4, hrp, d0, d1, d2, d3, d4, d5, d6, d7, d8⟩ := HT.out.at_ hjl (Kept.of_below HB.out)
                  have hq4 : q3 = q := Option.some.inj (hq3.symm.trans HJT.out)
                  rw [hq4] at d1
                  clear hq3 hq4 hrp d0 d2 d3 d4 d5 d6 d7 d8
                  have D1 := fun p : Be _ => Be.cell d1 p
                  cases hA4
                  obtain ⟨cv, hcv⟩ : ∃ cv, (cmpV q.ver y.pkg.ver).1 = cv := ⟨_, rfl⟩
                  have HCV := Lib.hid hcv
                  have HPV := Lib.hid (show rstayP l t x = (decide (0 ≤ cv) || exactQ ⟨qk, qn, qv⟩) by rw [HPV.out, hcv, HQE.out])
                  clear hcv
                  by_cases hc : 0 ≤ cv
                  · have hcb : decide (cv < 0) = false := decide_eq_false (by omega)
                    have HM := Lib.hid (show (decide (0 ≤ cv) || exactQ ⟨qk, qn, qv⟩) = true by rw [decide_eq_true hc]; rfl)
                    clear hc
                    refine region_be (by kernel_rfl) (by kernel_rfl) ?_
                    repeat (quiet_step (first | (go_at_call 77; with_reducible exact Calls.be_of ((rCompare_any _ _ _).mono fun _ _ h => ⟨h.1.trans (congrArg (fun b => Ending.returned (Value.int .i64 b)) HCV.out), h.2⟩))))
                    refine wpQuiet_nil ?_
                    intro _ hw'
                    obtain ⟨pb, hw''⟩ := hw'
                    subst hw''
                    obtain ⟨W3, hbw⟩ := pb
                    dsimp only
                    have HB := Lib.hid (below_next HB.out hbw)
                    have HBi := Lib.hid (below_next HBi.out hbw)
                    have KX := Lib.hid (KX.out.next hbw)
                    clear hbw
                    have HV := Lib.hid (HPV.out.trans (HM.out))
                    go_wp2
                    go_roundw
                    case rel => exact ⟨k + 1, by omega, by simp, qa_step HX.out HN.out HV.out, HBi.out⟩
                    case measure => (try simp only [intOf]); omega
                  · have hcb : decide (cv < 0) = true := decide_eq_true (by omega)
                    have HC := Lib.hid (decide_eq_false hc)
                    clear hc
                    by_cases h1 : qk = 1
                    · have k1 : (qk != 1) = false := by simpa using h1
                      by_cases hv : qv = []
                      · have hvb : qv.isEmpty = true := by simpa using hv
                        have HM := Lib.hid (show (decide (0 ≤ cv) || exactQ ⟨qk, qn, qv⟩) = false by rw [HC.out]; simp [exactQ, hv])
                        clear h1 hv
                        refine region_be (by kernel_rfl) (by kernel_rfl) ?_
                        repeat (quiet_step (first | (go_at_call 77; with_reducible exact Calls.be_of ((rCompare_any _ _ _).mono fun _ _ h => ⟨h.1.trans (congrArg (fun b => Ending.returned (Value.int .i64 b)) HCV.out), h.2⟩))))
                        refine wpQuiet_nil ?_
                        intro _ hw'
                        obtain ⟨pb, hw''⟩ := hw'
                        subst hw''
                        obtain ⟨W3, hbw⟩ := pb
                        dsimp only
                        have HB := Lib.hid (below_next HB.out hbw)
                        have HBi := Lib.hid (below_next HBi.out hbw)
                        have KX := Lib.hid (KX.out.next hbw)
                        clear hbw
                        have HG := Lib.hid (show G = false by rw [HG.out, qa_no HX.out ((HPV.out).trans (HM.out))]; rfl)
                        go_wp2
                        go_ret
                        exact ⟨by rw [HG.out]; (try rfl), HB.out⟩
                      · have hvb : qv.isEmpty = false := by simpa using hv
                        have HM := Lib.hid (show (decide (0 ≤ cv) || exactQ ⟨qk, qn, qv⟩) = true by rw [HC.out]; simp [exactQ, hv, h1])
                        clear h1 hv
                        refine region_be (by kernel_rfl) (by kernel_rfl) ?_
                        repeat (quiet_step (first | (go_at_call 77; with_reducible exact Calls.be_of ((rCompare_any _ _ _).mono fun _ _ h => ⟨h.1.trans (congrArg (fun b => Ending.returned (Value.int .i64 b)) HCV.out), h.2⟩))))
                        refine wpQuiet_nil ?_
                        intro _ hw'
                        obtain ⟨pb, hw''⟩ := hw'
                        subst hw''
                        obtain ⟨W3, hbw⟩ := pb
                        dsimp only
                        have HB := Lib.hid (below_next HB.out hbw)
                        have HBi := Lib.hid (below_next HBi.out hbw)
                        have KX := Lib.hid (KX.out.next hbw)
                        clear hbw
                        have HV := Lib.hid (HPV.out.trans (HM.out))
                        go_wp2
                        go_roundw
                        case rel => exact ⟨k + 1, by omega, by simp, qa_step HX.out HN.out HV.out, HBi.out⟩
                        case measure => (try simp only [intOf]); omega
                    · have k1 : (qk != 1) = true := by simpa using h1
                      have HM := Lib.hid (show (decide (0 ≤ cv) || exactQ ⟨qk, qn, qv⟩) = false by rw [HC.out]; simp [exactQ, h1])
                      clear h1
                      refine region_be (by kernel_rfl) (by kernel_rfl) ?_
                      repeat (quiet_step (first | (go_at_call 77; with_reducible exact Calls.be_of ((rCompare_any _ _ _).mono fun _ _ h => ⟨h.1.trans (congrArg (fun b => Ending.returned (Value.int .i64 b)) HCV.out), h.2⟩))))
                      refine wpQuiet_nil ?_
                      intro _ hw'
                      obtain ⟨pb, hw''⟩ := hw'
                      subst hw''
                      obtain ⟨W3, hbw⟩ := pb
                      dsimp only
                      have HB := Lib.hid (below_next HB.out hbw)
                      have HBi := Lib.hid (below_next HBi.out hbw)
                      have KX := Lib.hid (KX.out.next hbw)
                      clear hbw
                      have HG := Lib.hid (show G = false by rw [HG.out, qa_no HX.out ((HPV.out).trans (HM.out))]; rfl)
                      go_wp2
                      go_ret
                      exact ⟨by rw [HG.out]; (try rfl), HB.out⟩
              · obtain ⟨sv, hsv⟩ : ∃ sv, sameV q.ver y.pkg.ver = sv := ⟨_, rfl⟩
                have HSV := Lib.hid hsv
                rw [hsv] at HPV
                clear hsv
                go_wp2_with fail
                have z1 := fun p : Be _ => Be.cell a1 p
                have z10 := fun p : Be _ => Be.cell a10 p
                obtain ⟨q3, b4, o4, rp, hq3, hA4, hrp, d0, d1, d2, d3, d4, d5, d6, d7, d8⟩ := HT.out.at_ hjl (Kept.of_below HB.out)
                have hq4 : q3 = q := Option.some.inj (hq3.symm.trans HJT.out)
                rw [hq4] at d1
                clear hq3 hq4 hrp d0 d2 d3 d4 d5 d6 d7 d8
                have D1 := fun p : Be _ => Be.cell d1 p
                cases hA4
                refine region_be (by kernel_rfl) (by kernel_rfl) ?_
                repeat (quiet_step (first | (go_at_call 67; with_reducible exact Calls.be_of ((rSameVersion_any _ _ _).mono fun _ _ h => ⟨h.1.trans (congrArg (fun b => Ending.returned (Value.bool b)) HSV.out), h.2⟩))))
                refine wpQuiet_nil ?_
                intro _ hw'
                obtain ⟨pb, hw''⟩ := hw'
                subst hw''
                obtain ⟨W3, hbw⟩ := pb
                dsimp only
                have HB := Lib.hid (below_next HB.out hbw)
                have HBi := Lib.hid (below_next HBi.out hbw)
                have KX := Lib.hid (KX.out.next hbw)
                clear hbw
                clear D1 d1 z1 z10
                rcases sv with _ | _
                · have HG := Lib.hid (show G = false by rw [HG.out, qa_no HX.out ((HPV.out).trans (rfl))]; rfl)
                  go_wp2
                  go_ret
                  exact ⟨by rw [HG.out]; (try rfl), HB.out⟩
                · have HPV := Lib.hid (show rstayP l t x = (decide (0 ≤ (cmpV q.ver y.pkg.ver).1) || exactQ (aboutQ l y.pkg.name)) from HPV.out)
                  clear a0 a1 a8 a10
                  have a0 := KX.out.cell 0
                  have a1 := KX.out.cell 1
                  have a8 := KX.out.cell 8
                  have a10 := KX.out.cell 10
                  simp only [List.getElem?_toArray, List.getElem?_cons_zero, List.getElem?_cons_succ] at a0 a1 a8 a10
                  rw [HES.out] at a8
                  rw [HHH.out] at a10
                  go_wp2_with fail
                  have HQ := Lib.hid (rabout_any l A c y.pkg.name _ (HL.out.kept (Kept.of_below HB.out)))
                  obtain ⟨Q, hQ⟩ : ∃ Q, Q = aboutQ l y.pkg.name := ⟨_, rfl⟩
                  rw [← hQ] at HQ
                  have HQE := Lib.hid hQ
                  obtain ⟨qk, qn, qv⟩ := Q
                  dsimp only at HQ
                  refine HQ.out.mono ?_
                  rintro e w5 ⟨rfl, hb5⟩
                  have HB := Lib.hid (below_alloc (below_next HB.out hb5) (.cells #[.int .i64 qk, .string (bs qn), .string (bs qv)] 68))
                  have HBi := Lib.hid (below_alloc (below_next HBi.out hb5) (.cells #[.int .i64 qk, .string (bs qn), .string (bs qv)] 68))
                  have KX := Lib.hid ((KX.out.next hb5).alloc (.cells #[.int .i64 qk, .string (bs qn), .string (bs qv)] 68))
                  have KQ := Lib.hid (blk_new1 w5 68 #[.int .i64 qk, .string (bs qn), .string (bs qv)])
                  clear hb5 HQ hQ
                  go_wp2_with fail
                  clear a0 a1 a8 a10
                  have a0 := KX.out.cell 0
                  have a1 := KX.out.cell 1
                  have a8 := KX.out.cell 8
                  have a10 := KX.out.cell 10
                  simp only [List.getElem?_toArray, List.getElem?_cons_zero, List.getElem?_cons_succ] at a0 a1 a8 a10
                  rw [HES.out] at a8
                  rw [HHH.out] at a10
                  have z1 := fun p : Be _ => Be.cell a1 p
                  have z10 := fun p : Be _ => Be.cell a10 p
                  have c0 := KQ.out.cell 0
                  have c2 := KQ.out.cell 2
                  simp only [List.getElem?_toArray, List.getElem?_cons_zero, List.getElem?_cons_succ] at c0 c2
                  have y0 := fun p : Be _ => Be.cell c0 p
                  have y2 := fun p : Be _ => Be.cell c2 p
                  obtain ⟨q3, b4, o4, rp, hq3, hA4, hrp, d0, d1, d2, d3, d4, d5, d6, d7, d8⟩ := HT.out.at_ hjl (Kept.of_below HB.out)
                  have hq4 : q3 = q := Option.some.inj (hq3.symm.trans HJT.out)
                  rw [hq4] at d1
                  clear hq3 hq4 hrp d0 d2 d3 d4 d5 d6 d7 d8
                  have D1 := fun p : Be _ => Be.cell d1 p
                  cases hA4
                  obtain ⟨cv, hcv⟩ : ∃ cv, (cmpV q.ver y.pkg.ver).1 = cv := ⟨_, rfl⟩
                  have HCV := Lib.hid hcv
                  have HPV := Lib.hid (show rstayP l t x = (decide (0 ≤ cv) || exactQ ⟨qk, qn, qv⟩) by rw [HPV.out, hcv, HQE.out])
                  clear hcv
                  by_cases hc : 0 ≤ cv
                  · have hcb : decide (cv < 0) = false := decide_eq_false (by omega)
                    have HM := Lib.hid (show (decide (0 ≤ cv) || exactQ ⟨qk, qn, qv⟩) = true by rw [decide_eq_true hc]; rfl)
                    clear hc
                    refine region_be (by kernel_rfl) (by kernel_rfl) ?_
                    repeat (quiet_step (first | (go_at_call 77; with_reducible exact Calls.be_of ((rCompare_any _ _ _).mono fun _ _ h => ⟨h.1.trans (congrArg (fun b => Ending.returned (Value.int .i64 b)) HCV.out), h.2⟩))))
                    refine wpQuiet_nil ?_
                    intro _ hw'
                    obtain ⟨pb, hw''⟩ := hw'
                    subst hw''
                    obtain ⟨W3, hbw⟩ := pb
                    dsimp only
                    have HB := Lib.hid (below_next HB.out hbw)
                    have HBi := Lib.hid (below_next HBi.out hbw)
                    have KX := Lib.hid (KX.out.next hbw)
                    clear hbw
                    have HV := Lib.hid (HPV.out.trans (HM.out))
                    go_wp2
                    go_roundw
                    case rel => exact ⟨k + 1, by omega, by simp, qa_step HX.out HN.out HV.out, HBi.out⟩
                    case measure => (try simp only [intOf]); omega
                  · have hcb : decide (cv < 0) = true := decide_eq_true (by omega)
                    have HC := Lib.hid (decide_eq_false hc)
                    clear hc
                    by_cases h1 : qk = 1
                    · have k1 : (qk != 1) = false := by simpa using h1
                      by_cases hv : qv = []
                      · have hvb : qv.isEmpty = true := by simpa using hv
                        have HM := Lib.hid (show (decide (0 ≤ cv) || exactQ ⟨qk, qn, qv⟩) = false by rw [HC.out]; simp [exactQ, hv])
                        clear h1 hv
                        refine region_be (by kernel_rfl) (by kernel_rfl) ?_
                        repeat (quiet_step (first | (go_at_call 77; with_reducible exact Calls.be_of ((rCompare_any _ _ _).mono fun _ _ h => ⟨h.1.trans (congrArg (fun b => Ending.returned (Value.int .i64 b)) HCV.out), h.2⟩))))
                        refine wpQuiet_nil ?_
                        intro _ hw'
                        obtain ⟨pb, hw''⟩ := hw'
                        subst hw''
                        obtain ⟨W3, hbw⟩ := pb
                        dsimp only
                        have HB := Lib.hid (below_next HB.out hbw)
                        have HBi := Lib.hid (below_next HBi.out hbw)
                        have KX := Lib.hid (KX.out.next hbw)
                        clear hbw
                        have HG := Lib.hid (show G = false by rw [HG.out, qa_no HX.out ((HPV.out).trans (HM.out))]; rfl)
                        go_wp2
                        go_ret
                        exact ⟨by rw [HG.out]; (try rfl), HB.out⟩
                      · have hvb : qv.isEmpty = false := by simpa using hv
                        have HM := Lib.hid (show (decide (0 ≤ cv) || exactQ ⟨qk, qn, qv⟩) = true by rw [HC.out]; simp [exactQ, hv, h1])
                        clear h1 hv
                        refine region_be (by kernel_rfl) (by kernel_rfl) ?_
                        repeat (quiet_step (first | (go_at_call 77; with_reducible exact Calls.be_of ((rCompare_any _ _ _).mono fun _ _ h => ⟨h.1.trans (congrArg (fun b => Ending.returned (Value.int .i64 b)) HCV.out), h.2⟩))))
                        refine wpQuiet_nil ?_
                        intro _ hw'
                        obtain ⟨pb, hw''⟩ := hw'
                        subst hw''
                        obtain ⟨W3, hbw⟩ := pb
                        dsimp only
                        have HB := Lib.hid (below_next HB.out hbw)
                        have HBi := Lib.hid (below_next HBi.out hbw)
                        have KX := Lib.hid (KX.out.next hbw)
                        clear hbw
                        have HV := Lib.hid (HPV.out.trans (HM.out))
                        go_wp2
                        go_roundw
                        case rel => exact ⟨k + 1, by omega, by simp, qa_step HX.out HN.out HV.out, HBi.out⟩
                        case measure => (try simp only [intOf]); omega
                    · have k1 : (qk != 1) = true := by simpa using h1
                      have HM := Lib.hid (show (decide (0 ≤ cv) || exactQ ⟨qk, qn, qv⟩) = false by rw [HC.out]; simp [exactQ, h1])
                      clear h1
                      refine region_be (by kernel_rfl) (by kernel_rfl) ?_
                      repeat (quiet_step (first | (go_at_call 77; with_reducible exact Calls.be_of ((rCompare_any _ _ _).mono fun _ _ h => ⟨h.1.trans (congrArg (fun b => Ending.returned (Value.int .i64 b)) HCV.out), h.2⟩))))
                      refine wpQuiet_nil ?_
                      intro _ hw'
                      obtain ⟨pb, hw''⟩ := hw'
                      subst hw''
                      obtain ⟨W3, hbw⟩ := pb
                      dsimp only
                      have HB := Lib.hid (below_next HB.out hbw)
                      have HBi := Lib.hid (below_next HBi.out hbw)
                      have KX := Lib.hid (KX.out.next hbw)
                      clear hbw
                      have HG := Lib.hid (show G = false by rw [HG.out, qa_no HX.out ((HPV.out).trans (HM.out))]; rfl)
                      go_wp2
                      go_ret
                      exact ⟨by rw [HG.out]; (try rfl), HB.out⟩
          · have hn := HN.out
            rw [take_end hk hlt] at hn
            have HG := Lib.hid (show G = if l.any (fun a => a.kind == 3) then t.all (addQ l s) && s.all (goneQ l t) else true by rw [HG.out, hn]; rfl)
            clear hn HN
            have hlh : ¬ (k : Int) < ((rheldL l s).length : Int) := by rw [HHL.out]; omega
            have hld : decide ((k : Int) < ((rheldL l s).length : Int)) = false := decide_eq_false hlh
            go_wp2_with fail
            have HQ := Lib.hid (rhas_any l A c 3 wr (HL.out.kept (Kept.of_below HB.out)))
            refine HQ.out.mono ?_
            rintro e w5 ⟨rfl, hb5⟩
            have HB0 := Lib.hid (below_next HB.out hb5)
            clear hb5 HQ HB HBi
            rcases ha : l.any (fun a => a.kind == 3)
            · have HG := Lib.hid (show G = true by rw [HG.out, ha]; rfl)
              clear ha
              go_wp2
              go_ret
              exact ⟨by rw [HG.out]; (try rfl), HB0.out⟩
            · have HG := Lib.hid (show G = (t.all (addQ l s) && s.all (goneQ l t)) by rw [HG.out, ha]; rfl)
              clear ha hk hlt
              go_wp2
              go_loopw [137] (fun i wr => ∃ k : Nat, k ≤ t.length ∧ i = .int .i64 k ∧ (t.take k).all (addQ l s) = true ∧ Below w.heap.size w wr) (fun i _ => t.length - (intOf i).toNat)
              case atStart => exact ⟨0, Nat.zero_le _, rfl, rfl, HB0.out⟩
              case round =>
                clear HB0
                obtain ⟨k, hk, rfl, hn, hb⟩ := hrel
                have HN := Lib.hid hn
                have HB := Lib.hid hb
                clear hn hb
                by_cases hlt : k < t.length
                · obtain ⟨q, b, o, r, hq, hA, hr, e0, e1, e2, e3, e4, e5, e6, e7, e8⟩ := HT.out.at_ hlt (Kept.of_below HB.out)
                  subst hA
                  have HX := Lib.hid hq
                  clear hq hr
                  go_wp2_with fail
                  clear e0 e1 e2 e3 e4 e5 e6 e7 e8
                  have KX := Lib.hid (blk_new1 wr 43 #[.string (bs (q).name), .string (bs (q).ver), .slice (r).a1 (q).pre.length (r).c1, .slice (r).a2 (q).dep.length (r).c2, .slice (r).a3 (q).rcm.length (r).c3, .slice (r).a4 (q).con.length (r).c4, .slice (r).a5 (q).brk.length (r).c5, .slice (r).a6 (q).prv.length (r).c6, .bool (q).ess])
                  have HBA := Lib.hid (below_alloc HB.out (.cells #[.string (bs (q).name), .string (bs (q).ver), .slice (r).a1 (q).pre.length (r).c1, .slice (r).a2 (q).dep.length (r).c2, .slice (r).a3 (q).rcm.length (r).c3, .slice (r).a4 (q).con.length (r).c4, .slice (r).a5 (q).brk.length (r).c5, .slice (r).a6 (q).prv.length (r).c6, .bool (q).ess] 43))
                  have HQ := Lib.hid (rfind_any A3 c3 s q.name (wr.alloc (.cells #[.string (bs (q).name), .string (bs (q).ver), .slice (r).a1 (q).pre.length (r).c1, .slice (r).a2 (q).dep.length (r).c2, .slice (r).a3 (q).rcm.length (r).c3, .slice (r).a4 (q).con.length (r).c4, .slice (r).a5 (q).brk.length (r).c5, .slice (r).a6 (q).prv.length (r).c6, .bool (q).ess] 43)) (HS.out.kept (Kept.of_below HBA.out)))
                  rcases idx_fnd (nameE q.name) s with ⟨hi, hf⟩ | ⟨j, y, hi, hj, hf⟩
                  · rw [hi] at HQ
                    refine HQ.out.mono ?_
                    rintro e w1 ⟨rfl, hb1⟩
                    have HB := Lib.hid (below_next HBA.out hb1)
                    have a0 := (KX.out.next hb1).cell 0
                    simp only [List.getElem?_toArray, List.getElem?_cons_zero, List.getElem?_cons_succ] at a0
                    have HPV := Lib.hid (show addQ l s q = ((aboutQ l q.name).kind == 1) by unfold addQ; rw [← find_some_any, hf]; rfl)
                    clear hb1 HQ hi hf HBA
                    go_wp2_with fail
                    have HQ := Lib.hid (rabout_any l A c q.name _ (HL.out.kept (Kept.of_below HB.out)))
                    obtain ⟨Q, hQ⟩ : ∃ Q, Q = aboutQ l q.name := ⟨_, rfl⟩
                    rw [← hQ] at HQ
                    have HQE := Lib.hid hQ
                    obtain ⟨qk, qn, qv⟩ := Q
                    dsimp only at HQ
                    refine HQ.out.mono ?_
                    rintro e w5 ⟨rfl, hb5⟩
                    have HB := Lib.hid (below_next HB.out hb5)
                    clear hb5 HQ hQ
                    have hfl := fld3_0
                    clear a0
                    rw [← HQE.out] at HPV
                    by_cases h1 : qk = 1
                    · have k1 : (qk != 1) = false := by simpa using h1
                      have HM := Lib.hid (show (qk == 1) = true by simpa using h1)
                      clear h1
                      have HV := Lib.hid (HPV.out.trans HM.out)
                      go_wp2
                      go_roundw
                      case rel => exact ⟨k + 1, by omega, by simp, qa_step HX.out HN.out HV.out, HB.out⟩
                      case measure => (try simp only [intOf]); omega
                    · have k1 : (qk != 1) = true := by simpa using h1
                      have HM := Lib.hid (show (qk == 1) = false by simpa using h1)
                      clear h1
                      have HG := Lib.hid (show G = false by rw [HG.out, qa_no HX.out (HPV.out.trans HM.out)]; (try rfl))
                      go_wp2
                      go_ret
                      exact ⟨by rw [HG.out]; (try rfl), HB.out⟩
                  · rw [hi] at HQ
                    refine HQ.out.mono ?_
                    rintro e w1 ⟨rfl, hb1⟩
                    have HB := Lib.hid (below_next HBA.out hb1)
                    have hjd : decide ((j : Int) < 0) = false := decide_eq_false (by omega)
                    have HPV := Lib.hid (show addQ l s q = true by unfold addQ; rw [← find_some_any, hf]; rfl)
                    clear hb1 HQ hi hf hj HBA
                    have HV := Lib.hid (HPV.out)
                    go_wp2
                    go_roundw
                    case rel => exact ⟨k + 1, by omega, by simp, qa_step HX.out HN.out HV.out, HB.out⟩
                    case measure => (try simp only [intOf]); omega
                · have hn := HN.out
                  rw [take_end hk hlt] at hn
                  have HG := Lib.hid (show G = s.all (goneQ l t) by rw [HG.out, hn]; rfl)
                  have HB0 := Lib.hid HB.out
                  clear hn HN
                  go_wp2
                  clear hk hlt HB
                  go_loopw [157] (fun i wr => ∃ k : Nat, k ≤ s.length ∧ i = .int .i64 k ∧ (s.take k).all (goneQ l t) = true ∧ Below w.heap.size w wr) (fun i _ => s.length - (intOf i).toNat)
                  case atStart => exact ⟨0, Nat.zero_le _, rfl, rfl, HB0.out⟩
                  case round =>
                    clear HB0
                    obtain ⟨k, hk, rfl, hn, hb⟩ := hrel
                    have HN := Lib.hid hn
                    have HB := Lib.hid hb
                    clear hn hb
                    by_cases hlt : k < s.length
                    · obtain ⟨x, b, o, r, hx, hA, hr, e0, e1, e2, e3, e4, e5, e6, e7, e8, e9, e10⟩ := HS.out.at_ hlt (Kept.of_below HB.out)
                      subst hA
                      have HX := Lib.hid hx
                      clear hx hr
                      go_wp2_with fail
                      clear e0 e1 e2 e3 e4 e5 e6 e7 e8 e9 e10
                      have KX := Lib.hid (blk_new1 wr 45 #[.string (bs (x).pkg.name), .string (bs (x).pkg.ver), .slice (r).a1 (x).pkg.pre.length (r).c1, .slice (r).a2 (x).pkg.dep.length (r).c2, .slice (r).a3 (x).pkg.rcm.length (r).c3, .slice (r).a4 (x).pkg.con.length (r).c4, .slice (r).a5 (x).pkg.brk.length (r).c5, .slice (r).a6 (x).pkg.prv.length (r).c6, .bool (x).pkg.ess, .bool (x).conf, .bool (x).hold])
                      have HBA := Lib.hid (below_alloc HB.out (.cells #[.string (bs (x).pkg.name), .string (bs (x).pkg.ver), .slice (r).a1 (x).pkg.pre.length (r).c1, .slice (r).a2 (x).pkg.dep.length (r).c2, .slice (r).a3 (x).pkg.rcm.length (r).c3, .slice (r).a4 (x).pkg.con.length (r).c4, .slice (r).a5 (x).pkg.brk.length (r).c5, .slice (r).a6 (x).pkg.prv.length (r).c6, .bool (x).pkg.ess, .bool (x).conf, .bool (x).hold] 45))
                      have HQ := Lib.hid (rfindPk_any A2 c2 t x.pkg.name (wr.alloc (.cells #[.string (bs (x).pkg.name), .string (bs (x).pkg.ver), .slice (r).a1 (x).pkg.pre.length (r).c1, .slice (r).a2 (x).pkg.dep.length (r).c2, .slice (r).a3 (x).pkg.rcm.length (r).c3, .slice (r).a4 (x).pkg.con.length (r).c4, .slice (r).a5 (x).pkg.brk.length (r).c5, .slice (r).a6 (x).pkg.prv.length (r).c6, .bool (x).pkg.ess, .bool (x).conf, .bool (x).hold] 45)) (HT.out.kept (Kept.of_below HBA.out)))
                      rcases idx_fnd (pnB x.pkg.name) t with ⟨hi, hf⟩ | ⟨j, y, hi, hj, hf⟩
                      · rw [hi] at HQ
                        refine HQ.out.mono ?_
                        rintro e w1 ⟨rfl, hb1⟩
                        have HB := Lib.hid (below_next HBA.out hb1)
                        have a0 := (KX.out.next hb1).cell 0
                        simp only [List.getElem?_toArray, List.getElem?_cons_zero, List.getElem?_cons_succ] at a0
                        have HPV := Lib.hid (show goneQ l t x = ((aboutQ l x.pkg.name).kind == 2) by unfold goneQ; rw [hf]; rfl)
                        clear hb1 HQ hi hf HBA
                        go_wp2_with fail
                        have HQ := Lib.hid (rabout_any l A c x.pkg.name _ (HL.out.kept (Kept.of_below HB.out)))
                        obtain ⟨Q, hQ⟩ : ∃ Q, Q = aboutQ l x.pkg.name := ⟨_, rfl⟩
                        rw [← hQ] at HQ
                        have HQE := Lib.hid hQ
                        obtain ⟨qk, qn, qv⟩ := Q
                        dsimp only at HQ
                        refine HQ.out.mono ?_
                        rintro e w5 ⟨rfl, hb5⟩
                        have HB := Lib.hid (below_next HB.out hb5)
                        clear hb5 HQ hQ
                        have hfl := fld3_0
                        clear a0
                        rw [← HQE.out] at HPV
                        by_cases h1 : qk = 2
                        · have k1 : (qk != 2) = false := by simpa using h1
                          have HM := Lib.hid (show (qk == 2) = true by simpa using h1)
                          clear h1
                          have HV := Lib.hid (HPV.out.trans HM.out)
                          go_wp2
                          go_roundw
                          case rel => exact ⟨k + 1, by omega, by simp, qa_step HX.out HN.out HV.out, HB.out⟩
                          case measure => (try simp only [intOf]); omega
                        · have k1 : (qk != 2) = true := by simpa using h1
                          have HM := Lib.hid (show (qk == 2) = false by simpa using h1)
                          clear h1
                          have HG := Lib.hid (show G = false by rw [HG.out, qa_no HX.out (HPV.out.trans HM.out)]; (try rfl))
                          go_wp2
                          go_ret
                          exact ⟨by rw [HG.out]; (try rfl), HB.out⟩
                      · rw [hi] at HQ
                        refine HQ.out.mono ?_
                        rintro e w1 ⟨rfl, hb1⟩
                        have HB := Lib.hid (below_next HBA.out hb1)
                        have hjd : decide ((j : Int) < 0) = false := decide_eq_false (by omega)
                        have HPV := Lib.hid (show goneQ l t x = true by unfold goneQ; rw [hf]; (try rfl))
                        clear hb1 HQ hi hf hj HBA
                        have HV := Lib.hid (HPV.out)
                        go_wp2
                        go_roundw
                        case rel => exact ⟨k + 1, by omega, by simp, qa_step HX.out HN.out HV.out, HB.out⟩
                        case measure => (try simp only [intOf]); omega
                    · have hn := HN.out
                      rw [take_end hk hlt] at hn
                      have HG := Lib.hid (show G = true by rw [HG.out, hn])
                      clear hn
                      go_wp2
                      go_ret
                      exact ⟨by rw [HG.out]; (try rfl), HB.out⟩
  · have HG := Lib.hid (show G = false by rw [hG, if_pos h0])
    have hMb : (M != 0) = true := by rw [bne_iff_ne]; exact h0
    clear h0 hG
    go_enter Tryz.func44, Tryz.ntmps44
    go_wp2_with fail
    refine HMQ.out.mono ?_
    rintro e w1 ⟨rfl, hb1⟩
    have HB := Lib.hid hb1
    clear hb1 HMQ
    go_wp2
    go_ret
    exact ⟨by rw [HG.out]; (try rfl), HB.out⟩
end Go.Proofs.YtaicidbopgnmfaaGreatDoor
