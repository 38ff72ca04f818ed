/- The contracts of Unmet, of both texts. -/
import Derived.Test.YtcbomomlojhghaaDoorStR
namespace Go.Proofs.YtcbomomlojhghaaDoor
set_option linter.unusedSimpArgs false
set_option linter.unusedVariables false
open Go.RowKit

set_option maxRecDepth 100000 in
theorem umc_any (p : Pkg) (r : Raw) (a : Atm) (g : Nat) (w : World) (hB : Blk w g 28 #[.string (bs (p).name), .string (bs (p).ver), .slice (r).a1 (p).pre.length (r).c1, .slice (r).a2 (p).dep.length (r).c2, .slice (r).a3 (p).rcm.length (r).c3, .slice (r).a4 (p).con.length (r).c4, .slice (r).a5 (p).brk.length (r).c5, .slice (r).a6 (p).prv.length (r).c6, .bool (p).ess]) (hp : RP w r p) (ha : a.ok) :
    Calls Tryd.prog 59 #[(.agg #[.string (bs (a).name), .int .i64 (a).rel, .string (bs (a).ver)]), .pointer (some ⟨g, 0, none⟩)] w fun e w' => e = .returned (.bool (satS p a)) ∧ Below w.heap.size w w' := by
  obtain ⟨c0, c1, c2, c3, c4, c5, c6, c7, c8⟩ := blk9 hB
  have hg : g < w.heap.size := hB.lt
  have HP := Lib.hid hp
  clear hp hB
  go_enter Tryd.func59, Tryd.ntmps59
  go_wp2_with (go_at_call 60; refine (sat_any p r a _ (HP.out.kept (by (repeat (first | assumption | exact Kept.refl _ | exact Kept.of_below (by assumption) | refine Kept.trans ?_ (Kept.alloc _ _) | refine Kept.trans ?_ (Kept.drewN _ _) | refine Kept.trans ?_ (Kept.of_below (by assumption)))))) ha).mono ?_; rintro e w1 ⟨rfl, hb⟩)
  go_ret
  exact ⟨rfl, by (repeat (first | assumption | exact Below.refl _ _ | refine below_next ?_ (by assumption) | refine below_drewN ?_ _ | refine below_alloc ?_ _))⟩
set_option maxRecDepth 100000 in
theorem idxU_any (p : Pkg) (r : Raw) (A : Option Addr) (c : Nat) (l : List Atm) (g : Nat) (w : World) (hl : Atms w A c l) (hB : Blk w g 28 #[.string (bs (p).name), .string (bs (p).ver), .slice (r).a1 (p).pre.length (r).c1, .slice (r).a2 (p).dep.length (r).c2, .slice (r).a3 (p).rcm.length (r).c3, .slice (r).a4 (p).con.length (r).c4, .slice (r).a5 (p).brk.length (r).c5, .slice (r).a6 (p).prv.length (r).c6, .bool (p).ess]) (hp : RP w r p) :
    Calls Tryd.prog 80 #[.slice A l.length c, .func (.func 59) #[] #[.pointer (some ⟨g, 0, none⟩)]] w fun e w' => e = .returned (.int .i64 (idxS (satS p) l)) ∧ Below w.heap.size w w' := by
  have hbd := hl.bd
  have HL := Lib.hid hl
  have HG := Lib.hid hB
  have HP := Lib.hid hp
  clear hl hB hp
  go_enter Tryd.func80, Tryd.ntmps80
  go_wp2
  go_loopw [8] (fun i wr => ∃ k : Nat, k ≤ l.length ∧ i = .int .i64 k ∧ Below w.heap.size w wr ∧ (l.take k).any (satS p) = false) (fun i _ => l.length - (intOf i).toNat)
  case atStart => exact ⟨0, Nat.zero_le _, rfl, Below.refl _ _, rfl⟩
  case round =>
    obtain ⟨k, hk, rfl, hb, hn⟩ := hrel
    have HB := Lib.hid hb
    have HN := Lib.hid hn
    clear hb hn
    by_cases hlt : k < l.length
    · obtain ⟨q, b, o, hq, rfl, hok, e0, e1, e2⟩ := HL.out.at_ hlt (Kept.of_below HB.out)
      have HPk := Lib.hid (HP.out.kept (Kept.of_below HB.out))
      have HBk := Lib.hid (HG.out.next HB.out)
      have HQ := Lib.hid hq
      clear hq
      go_wp2_with (go_at_call 59; refine (umc_any p r _ _ _ HBk.out HPk.out hok).mono ?_; rintro e w1 ⟨rfl, hb⟩)
      · go_ret
        exact ⟨by rw [idx_at HQ.out (by assumption) HN.out]; rfl, by have hb0 := HB.out; (repeat (first | assumption | exact Below.refl _ _ | refine below_next ?_ (by assumption) | refine below_drewN ?_ _ | refine below_alloc ?_ _))⟩
      · go_roundw
        case rel => exact ⟨k + 1, by omega, by simp, by have hb0 := HB.out; (repeat (first | assumption | exact Below.refl _ _ | refine below_next ?_ (by assumption) | refine below_drewN ?_ _ | refine below_alloc ?_ _)), any_step HQ.out (by assumption) HN.out⟩
        case measure => (try simp only [intOf]); omega
    · go_wp2
      go_ret
      exact ⟨by rw [idx_no (any_end hk hlt HN.out)]; rfl, HB.out⟩
set_option maxRecDepth 100000 in
theorem conU_any (p : Pkg) (r : Raw) (A : Option Addr) (c : Nat) (l : List Atm) (g : Nat) (w : World) (hl : Atms w A c l) (hB : Blk w g 28 #[.string (bs (p).name), .string (bs (p).ver), .slice (r).a1 (p).pre.length (r).c1, .slice (r).a2 (p).dep.length (r).c2, .slice (r).a3 (p).rcm.length (r).c3, .slice (r).a4 (p).con.length (r).c4, .slice (r).a5 (p).brk.length (r).c5, .slice (r).a6 (p).prv.length (r).c6, .bool (p).ess]) (hp : RP w r p) :
    Calls Tryd.prog 58 #[.slice A l.length c, .func (.func 59) #[] #[.pointer (some ⟨g, 0, none⟩)]] w fun e w' => e = .returned (.bool (l.any (satS p))) ∧ Below w.heap.size w w' := by
  have HI := Lib.hid (idx_any (p := satS p) (l := l))
  go_enter Tryd.func58, Tryd.ntmps58
  go_wp2_with (go_at_call 80; refine (idxU_any p r _ _ _ _ _ hl hB hp).mono ?_; rintro e w1 ⟨rfl, hb⟩)
  go_ret
  exact ⟨by rw [← HI.out]; rfl, by (repeat (first | assumption | exact Below.refl _ _ | refine below_next ?_ (by assumption) | refine below_drewN ?_ _ | refine below_alloc ?_ _))⟩
set_option maxRecDepth 100000 in
theorem umq_any (q : Pkg) (r : Raw) (g : Nat) (A : Option Addr) (c : Nat) (cl : List Atm) (w : World) (hg : w.cell? ⟨g, 0, none⟩ = some (.slice A cl.length c)) (hc : Atms w A c cl) (hp : RP w r q) :
    Calls Tryd.prog 57 #[(.agg #[.string (bs (q).name), .string (bs (q).ver), .slice (r).a1 (q).pre.length (r).c1, .slice (r).a2 (q).dep.length (r).c2, .slice (r).a3 (q).rcm.length (r).c3, .slice (r).a4 (q).con.length (r).c4, .slice (r).a5 (q).brk.length (r).c5, .slice (r).a6 (q).prv.length (r).c6, .bool (q).ess]), .pointer (some ⟨g, 0, none⟩)] w fun e w' => e = .returned (.bool (cl.any (satS q))) ∧ Below w.heap.size w w' := by
  have hmf : ∀ (fn : Fn) (first cap : Array Value) (w : World), (Instr.makeFunc fn first cap).run Tryd.prog w = .ok (.func fn first cap) w := fun _ _ _ _ => rfl
  have hgl : g < w.heap.size := block_lt_of_cell hg
  have HC := Lib.hid hc
  have HP := Lib.hid hp
  clear hc hp
  go_enter Tryd.func57, Tryd.ntmps57
  go_wp2_with (go_at_call 58; refine (conU_any q r _ _ cl _ _ (HC.out.kept (Kept.alloc _ _)) (blk_new1 _ _ _) (HP.out.kept (Kept.alloc _ _))).mono ?_; rintro e w1 ⟨rfl, hb⟩)
  go_ret
  exact ⟨rfl, by (repeat (first | assumption | exact Below.refl _ _ | refine below_next ?_ (by assumption) | refine below_drewN ?_ _ | refine below_alloc ?_ _))⟩
set_option maxRecDepth 100000 in
theorem idxQ_any (g : Nat) (A A' : Option Addr) (c c' : Nat) (cl : List Atm) (l : List Pkg) (w : World) (hg : w.cell? ⟨g, 0, none⟩ = some (.slice A' cl.length c')) (hc : Atms w A' c' cl) (hl : Pkgs w A c l) :
    Calls Tryd.prog 79 #[.slice A l.length c, .func (.func 57) #[] #[.pointer (some ⟨g, 0, none⟩)]] w fun e w' => e = .returned (.int .i64 (idxS (fun q => cl.any (satS q)) l)) ∧ Below w.heap.size w w' := by
  have hbd := hl.bd
  have HL := Lib.hid hl
  have HG := Lib.hid hg
  have HC := Lib.hid hc
  clear hl hg hc
  go_enter Tryd.func79, Tryd.ntmps79
  go_wp2
  go_loopw [8] (fun i wr => ∃ k : Nat, k ≤ l.length ∧ i = .int .i64 k ∧ Below w.heap.size w wr ∧ (l.take k).any (fun q => cl.any (satS q)) = false) (fun i _ => l.length - (intOf i).toNat)
  case atStart => exact ⟨0, Nat.zero_le _, rfl, Below.refl _ _, rfl⟩
  case round =>
    obtain ⟨k, hk, rfl, hb, hn⟩ := hrel
    have HB := Lib.hid hb
    have HN := Lib.hid hn
    clear hb hn
    by_cases hlt : k < l.length
    · obtain ⟨q, b, o, r, hq, rfl, hr, e0, e1, e2, e3, e4, e5, e6, e7, e8⟩ := HL.out.at_ hlt (Kept.of_below HB.out)
      have HGk := Lib.hid (Kept.of_below HB.out _ _ HG.out)
      have HCk := Lib.hid (HC.out.kept (Kept.of_below HB.out))
      have HRk := Lib.hid (hr.kept (Kept.of_below HB.out))
      clear hr
      have HQ := Lib.hid hq
      clear hq
      go_wp2_with (go_at_call 57; refine (umq_any q r _ _ _ cl _ HGk.out HCk.out HRk.out).mono ?_; rintro e w1 ⟨rfl, hb⟩)
      · go_ret
        exact ⟨by rw [idx_at HQ.out (by assumption) HN.out]; rfl, by have hb0 := HB.out; (repeat (first | assumption | exact Below.refl _ _ | refine below_next ?_ (by assumption) | refine below_drewN ?_ _ | refine below_alloc ?_ _))⟩
      · go_roundw
        case rel => exact ⟨k + 1, by omega, by simp, by have hb0 := HB.out; (repeat (first | assumption | exact Below.refl _ _ | refine below_next ?_ (by assumption) | refine below_drewN ?_ _ | refine below_alloc ?_ _)), any_step HQ.out (by assumption) HN.out⟩
        case measure => (try simp only [intOf]); omega
    · go_wp2
      go_ret
      exact ⟨by rw [idx_no (any_end hk hlt HN.out)]; rfl, HB.out⟩
set_option maxRecDepth 100000 in
theorem conQ_any (g : Nat) (A A' : Option Addr) (c c' : Nat) (cl : List Atm) (l : List Pkg) (w : World) (hg : w.cell? ⟨g, 0, none⟩ = some (.slice A' cl.length c')) (hc : Atms w A' c' cl) (hl : Pkgs w A c l) :
    Calls Tryd.prog 56 #[.slice A l.length c, .func (.func 57) #[] #[.pointer (some ⟨g, 0, none⟩)]] w fun e w' => e = .returned (.bool (metS cl l)) ∧ Below w.heap.size w w' := by
  have HI := Lib.hid (show decide (0 ≤ idxS (fun q => cl.any (satS q)) l) = metS cl l from idx_any (p := fun q => cl.any (satS q)) (l := l))
  go_enter Tryd.func56, Tryd.ntmps56
  go_wp2_with (go_at_call 79; refine (idxQ_any _ _ _ _ _ cl l _ hg hc hl).mono ?_; rintro e w1 ⟨rfl, hb⟩)
  go_ret
  exact ⟨by rw [← HI.out]; rfl, by (repeat (first | assumption | exact Below.refl _ _ | refine below_next ?_ (by assumption) | refine below_drewN ?_ _ | refine below_alloc ?_ _))⟩
/-- how many clauses of Recommends are met by none -/
def unmet1 (t : List Pkg) (p : Pkg) : Nat := p.rcm.countP fun c => !metS c t
def unmetS (t : List Pkg) : Nat := (t.map (unmet1 t)).sum
def unmetT (t : List Pkg) (k : Nat) : Nat := ((t.take k).map (unmet1 t)).sum
def fewP (t : List Pkg) : Prop := t.length ≤ 1000000 ∧ ∀ p ∈ t, p.rcm.length ≤ 1000000
theorem unmetT_step {t : List Pkg} {k : Nat} {q : Pkg} (hq : t[k]? = some q) : unmetT t (k + 1) = unmetT t k + unmet1 t q := by
  unfold unmetT
  rw [take_step hq, List.map_append, List.sum_append]
  simp
theorem unmetT_len {t : List Pkg} (h : fewP t) (k : Nat) (hk : k ≤ t.length) : unmetT t k ≤ k * 1000000 := by
  induction k with
  | zero => simp [unmetT]
  | succ k ih =>
    have h1 := ih (by omega)
    have hq : t[k]? = some (t[k]'(by omega)) := List.getElem?_eq_getElem (by omega)
    have h2 := h.2 _ (List.mem_of_getElem? hq)
    have h3 : unmet1 t (t[k]'(by omega)) ≤ (t[k]'(by omega)).rcm.length := List.countP_le_length
    rw [unmetT_step hq]
    omega
theorem unmetT_end {t : List Pkg} {k : Nat} (h : t.length ≤ k) : unmetT t k = unmetS t := by
  unfold unmetT unmetS
  rw [List.take_of_length_le h]
set_option maxRecDepth 100000 in
set_option maxHeartbeats 400000 in
theorem unmet_any (A : Option Addr) (c : Nat) (t : List Pkg) (w : World) (hl : Pkgs w A c t) (hf : fewP t) :
    Calls Tryd.prog 36 #[.slice A t.length c] w fun e w' => e = .returned (.int .i64 (unmetS t)) ∧ Below w.heap.size w w' := by
  have hmf : ∀ (fn : Fn) (first cap : Array Value) (w : World), (Instr.makeFunc fn first cap).run Tryd.prog w = .ok (.func fn first cap) w := fun _ _ _ _ => rfl
  have hbd := hl.bd
  have hfl := hf.1
  have HF := Lib.hid hf
  have HL := Lib.hid hl
  clear hl hf
  go_enter Tryd.func36, Tryd.ntmps36
  go_wp2
  go_loopw [3, 11] (fun n i wr => ∃ k : Nat, k ≤ t.length ∧ i = .int .i64 k ∧ n = .int .i64 (unmetT t k : Nat) ∧ Below w.heap.size w wr) (fun _ i _ => t.length - (intOf i).toNat)
  case atStart => exact ⟨0, Nat.zero_le _, rfl, rfl, Below.refl _ _⟩
  case round =>
    obtain ⟨k, hk, rfl, rfl, hb⟩ := hrel
    obtain ⟨wo, rfl⟩ : ∃ wo : World, wo = wr := ⟨_, rfl⟩
    have hul := unmetT_len HF.out k hk
    have HB := Lib.hid hb
    clear hb
    by_cases hlt : k < t.length
    · obtain ⟨q, b, o, r, hq, hA0, hr, e0, e1, e2, e3, e4, e5, e6, e7, e8⟩ := HL.out.at_ hlt (Kept.of_below HB.out)
      have hst := unmetT_step hq
      generalize hU : unmetT t k = U at hst hul ⊢
      have HST := Lib.hid hst
      have hrl := HF.out.2 q (List.mem_of_getElem? hq)
      rcases r with ⟨a1, a2, a3, a4, a5, a6, c1, c2, c3, c4, c5, c6⟩
      dsimp only at e2 e3 e4 e5 e6 e7
      have HR := Lib.hid (show Clss w a3 c3 q.rcm from hr.rcm)
      have hb3 := HR.out.bd
      subst hA0
      clear hq hr hst hU
      go_wp2
      clear e0 e1 e2 e3 e4 e5 e6 e7 e8
      go_loopw [3, 18] (fun n i wr => ∃ j : Nat, j ≤ q.rcm.length ∧ i = .int .i64 j ∧ n = .int .i64 ((U + (q.rcm.take j).countP fun c => !metS c t : Nat) : Int) ∧ Below wo.heap.size wo wr) (fun _ i _ => q.rcm.length - (intOf i).toNat)
      case atStart => exact ⟨0, Nat.zero_le _, rfl, by simp, (Below.refl _ _).alloc (Nat.le_refl _) _⟩
      case round =>
        obtain ⟨j, hj, rfl, rfl, hb⟩ := hrel
        have hcl := count_le (fun c => !metS c t) q.rcm j
        generalize hN : ((q.rcm.take j).countP fun c => !metS c t) = N at hcl ⊢
        have HN := Lib.hid hN
        have HB2 := Lib.hid hb
        clear hb hN
        by_cases hltj : j < q.rcm.length
        · obtain ⟨x, b', o', A', c', hx, rfl, hA, d0⟩ := HR.out.at_ hltj ((Kept.of_below HB.out).trans (Kept.of_below HB2.out))
          have HX := Lib.hid hx
          have HAk := Lib.hid (hA.kept ((Kept.of_below HB.out).trans (Kept.of_below HB2.out)))
          have HTk := Lib.hid (HL.out.kept ((Kept.of_below HB.out).trans (Kept.of_below HB2.out)))
          clear hx hA
          go_wp2_with (go_at_call 56; refine (conQ_any _ _ _ _ _ x t _ ((blk_new1 _ _ _).cell 0) (HAk.out.kept (Kept.alloc _ _)) (HTk.out.kept (Kept.alloc _ _))).mono ?_; rintro e w1 ⟨rfl, hb⟩)
          all_goals
            go_roundw
            case rel =>
              refine ⟨j + 1, by omega, by simp, ?_, by have hb0 := HB2.out; (repeat (first | assumption | exact Below.refl _ _ | refine below_next ?_ (by assumption) | refine below_drewN ?_ _ | refine below_alloc ?_ _))⟩
              rw [count_step HX.out, HN.out]
              first
                | (have hm : (!metS x t) = true := by assumption
                   rw [if_pos hm]
                   simp
                   omega)
                | (rw [if_neg (show ¬ (!metS x t) = true from by rw [(by assumption : (!metS x t) = false)]; simp)]; congr 1)
            case measure => (try simp only [intOf]); omega
        · rw [take_end hj hltj] at HN
          go_wp2
          go_roundw
          case rel => exact ⟨k + 1, by omega, by simp, by rw [HST.out, ← HN.out]; rfl, below_next HB.out HB2.out⟩
          case measure => (try simp only [intOf]); omega
    · have HE := Lib.hid (unmetT_end (t := t) (k := k) (by omega))
      go_wp2
      go_ret
      exact ⟨by rw [← HE.out]; rfl, HB.out⟩
end Go.Proofs.YtcbomomlojhghaaDoor
