/- Whether packages may be, plainly; the contracts of singles and provided, of both texts; the cuts. -/
import Derived.Test.YtcbomomlojhghaaDoorOw
import Derived.Test.YtcbomomlojhghaaDoorPs
import Derived.Test.YtcbomomlojhghaaDoorVerA
namespace Go.Proofs.YtcbomomlojhghaaDoor
set_option linter.unusedSimpArgs false
set_option linter.unusedVariables false
open Go.RowKit

def badC (c : List Atm) : Bool := decide (c.length = 0) || c.any (fun a => !mayA a)
def longC (c : List Atm) : Bool := decide (6 < c.length)
/-- may clauses be? -/
def clsE (l : List (List Atm)) : Int := if decide (12 < l.length) || l.any longC then 12 else if l.any badC then 3 else 0
def singS (l : List Atm) : List (List Atm) := l.map fun a => [a]
def prvA (v : Prv) : Atm := ⟨v.name, if v.ver = [] then 0 else 3, v.ver⟩
def prvS (l : List Prv) : List Atm := l.map prvA
def lstE : List (List (List Atm)) → Int
  | [] => 0
  | x :: r => if clsE x = 0 then lstE r else clsE x
/-- may a package be? -/
def mayE (p : Pkg) : Int := if nameS p.name && isV p.ver then lstE [p.pre, p.dep, p.rcm, singS p.con, singS p.brk, singS (prvS p.prv)] else 3
theorem lstE_at : ∀ {L : List (List (List Atm))} {k : Nat} {x : List (List Atm)}, (∀ y ∈ L.take k, clsE y = 0) → L[k]? = some x → clsE x ≠ 0 → lstE L = clsE x
  | [], k, x, _, hx, _ => by simp at hx
  | y :: L, 0, x, _, hx, hc => by
    simp at hx
    subst hx
    simp [lstE, hc]
  | y :: L, k + 1, x, h, hx, hc => by
    have h0 : clsE y = 0 := h y (by simp)
    simp only [lstE, h0, if_true]
    exact lstE_at (k := k) (fun z hz => h z (by rw [List.take_succ_cons]; exact List.mem_cons_of_mem _ hz)) (by simpa using hx) hc
theorem lstE_end : ∀ {L : List (List (List Atm))}, (∀ y ∈ L, clsE y = 0) → lstE L = 0
  | [], _ => rfl
  | y :: L, h => by
    simp only [lstE, h y (by simp), if_true]
    exact lstE_end fun z hz => h z (by simp [hz])
theorem lst_step {L : List (List (List Atm))} {k : Nat} {x : List (List Atm)} (h : ∀ y ∈ L.take k, clsE y = 0) (hx : L[k]? = some x) (hc : clsE x = 0) : ∀ y ∈ L.take (k + 1), clsE y = 0 := fun y hy => by
  rw [take_step hx, List.mem_append, List.mem_singleton] at hy
  rcases hy with hy | rfl
  · exact h y hy
  · exact hc
theorem clsE_long {l : List (List Atm)} (h : 12 < l.length) : clsE l = 12 := by simp [clsE, h]
theorem sing_any {l : List Atm} : (singS l).any longC = false := by
  rw [Bool.eq_false_iff]
  intro h
  obtain ⟨x, hx, hl⟩ := List.any_eq_true.1 h
  obtain ⟨a, _, rfl⟩ := List.mem_map.1 hx
  simp [longC] at hl
theorem sing_len (l : List Atm) : (singS l).length = l.length := List.length_map ..
theorem prv_len (l : List Prv) : (prvS l).length = l.length := List.length_map ..
theorem clsE_cut {l : List Atm} {n : Nat} (h : n = l.length ∨ 12 < n ∧ n ≤ l.length) : clsE (singS (l.take n)) = clsE (singS l) := by
  rcases h with rfl | ⟨h, h2⟩
  · rw [List.take_length]
  · rw [clsE_long (by rw [sing_len, List.length_take]; omega), clsE_long (by rw [sing_len]; omega)]
theorem prv_take (l : List Prv) (n : Nat) : prvS (l.take n) = (prvS l).take n := by unfold prvS; rw [List.map_take]
theorem prvA_ok {v : Prv} (h : v.ok) : (prvA v).ok := h
/-- a slice over a block that is known whole -/
theorem slcB {α : Type} {w : World} {g t k z n : Nat} {cs : Array Value} {R : List Value → α → Prop} {l : List α} (css : List (List Value)) (hB : Blk w g t cs) (hl : css.length = l.length) (hn : n = l.length)
    (hR : ∀ (i : Nat) (cs : List Value) (x : α), css[i]? = some cs → l[i]? = some x → R cs x ∧ cs.length = k) (hcs : cs.toList = css.flatten) (hz : l.length * z ≤ 140737488351232) (hm : l.length ≤ 1000) (hk : k ≤ 1000) : Slc w k z R (some ⟨g, 0, none⟩) n l := by
  have hlen : css.flatten.length = l.length * k := by
    have h1 := own_lens hl hR
    rw [List.length_flatten, ← hl]
    clear hl hn hR hcs hz hm hB
    induction css with
    | nil => simp
    | cons c css ih =>
      have h2 := h1 c (List.mem_cons_self ..)
      have h3 := ih (fun x hx => h1 x (List.mem_cons_of_mem _ hx))
      simp only [List.map_cons, List.sum_cons, List.length_cons, Nat.succ_mul]
      omega
  have hO : Own w 0 t k R (.slice (some ⟨g, 0, none⟩) l.length l.length) l := ⟨css, hl, hR, hlen, .inr ⟨g, l.length, cs, rfl, Nat.zero_le _, hB, Nat.le_refl _, by unfold maxLen; omega, by
    have : cs.size = cs.toList.length := by simp
    rw [this, hcs, hlen], by rw [hcs, ← hlen, List.take_length]⟩⟩
  obtain ⟨A, c, h1, h2⟩ := hO.slc hz
  injection h1 with h1 h3 h4
  subst h1 h4 hn
  exact h2
/-- a clause of one atom, in a block of its own -/
def RSing (w : World) (cs : List Value) (x : List Atm) : Prop := ∃ a g, x = [a] ∧ a.ok ∧ cs = [.slice (some ⟨g, 0, none⟩) 1 1] ∧ Blk w g 99 (encA a).toArray
theorem RSing.keep {w w' : World} {cs : List Value} {x : List Atm} (h : RSing w cs x) (hk : KeepB (fun t => t = 99) w w') : RSing w' cs x := by
  obtain ⟨a, g, h1, h2, h3, h4⟩ := h
  exact ⟨a, g, h1, h2, h3, hk.blk h4 rfl⟩
theorem RSing.cls {w : World} {cs : List Value} {x : List Atm} (h : RSing w cs x) : RCls w cs x := by
  obtain ⟨a, g, rfl, h2, rfl, h4⟩ := h
  exact ⟨_, 1, rfl, slcB [encA a] h4 rfl rfl (fun i cs y h1 h3 => by
    rcases i with _ | i
    · simp at h1 h3
      subst h1 h3
      exact ⟨⟨rfl, h2⟩, rfl⟩
    · simp at h1) (by simp) (by show 1 * 40 ≤ _; decide) (by simp) (by decide)⟩
/-- a slice of clauses is returned -/
def RetClss (w : World) (l : List (List Atm)) (e : Ending) (w' : World) : Prop := ∃ A c, e = .returned (.slice A l.length c) ∧ Clss w' A c l ∧ Below w.heap.size w w'
/-- a slice of atoms is returned -/
def RetAtms (w : World) (l : List Atm) (e : Ending) (w' : World) : Prop := ∃ A c, e = .returned (.slice A l.length c) ∧ Atms w' A c l ∧ Below w.heap.size w w'
theorem ret_clss {w w' : World} {B : TypeId} {v : Value} {l : List (List Atm)} (h : Own w' w.heap.size B 1 (RSing w') v l) (hb : Below w.heap.size w w') (hl : l.length * 24 ≤ 140737488351232) : RetClss w l (.returned v) w' := by
  obtain ⟨A, c, rfl, hs⟩ := h.slc hl
  exact ⟨A, c, rfl, Slc.mono hs (Kept.refl _) (fun _ _ h => h.cls), hb⟩
theorem ret_atms {w w' : World} {B : TypeId} {v : Value} {l : List Atm} (h : Own w' w.heap.size B 3 RAtm v l) (hb : Below w.heap.size w w') (hl : l.length * 40 ≤ 140737488351232) : RetAtms w l (.returned v) w' := by
  obtain ⟨A, c, rfl, hs⟩ := h.slc hl
  exact ⟨A, c, rfl, hs, hb⟩

theorem infCls : (Tryd.prog.info? 56).map (fun i => (i.zero, i.size, i.bytes)) = some (some (.slice none 0 0), 1, 24) := by kernel_rfl
theorem infAtm : (Tryd.prog.info? 99).map (fun i => (i.zero, i.size, i.bytes)) = some (some (.agg #[.string (bs []), .int .i64 0, .string (bs [])]), 3, 40) := by kernel_rfl
theorem singl_step {l : List Atm} {k : Nat} {q : Atm} (h : l[k]? = some q) : singS (l.take (k + 1)) = singS (l.take k) ++ [[q]] := by
  unfold singS
  rw [take_step h, List.map_append]
  rfl
set_option maxRecDepth 100000 in
theorem rsingles_any (A : Option Addr) (c k0 : Nat) (l : List Atm) (hk0 : l.length = k0) (w : World) (hl : Atms w A c l) (hbig : l.length ≤ 1000000) :
    Calls Tryd.prog 28 #[.slice A k0 c] w (RetClss w (singS l)) := by
  subst hk0
  have hbd := hl.bd
  have HL := Lib.hid hl
  clear hl
  go_enter Tryd.func28, Tryd.ntmps28
  go_wp2
  go_loopw [3, 8] (fun v i wr => ∃ k : Nat, k ≤ l.length ∧ i = .int .i64 k ∧ Below w.heap.size w wr ∧ Own wr w.heap.size 56 1 (RSing wr) v (singS (l.take k))) (fun _ i _ => l.length - (intOf i).toNat)
  case atStart => exact ⟨0, Nat.zero_le _, rfl, Below.refl _ _, Own.nil_ _ _ _ _ _⟩
  case round =>
    obtain ⟨k, hk, rfl, hb, ho⟩ := hrel
    have HB := Lib.hid hb
    have HO := Lib.hid ho
    clear hb ho
    by_cases hlt : k < l.length
    · obtain ⟨q, b, o, hq, rfl, hok, e0, e1, e2⟩ := HL.out.at_ hlt (Kept.of_below HB.out)
      have HQ := Lib.hid hq
      have hs : (singS (l.take k)).length = k := by rw [sing_len]; simp; omega
      have HS := Lib.hid hs
      clear hq hs
      go_wp2_with (at_builtin; refine wpList_append_el (by rfl) _ _ 24 (by rfl) w.heap.size 56 _ 1 24 Tryd.underlying24 infCls rfl (by omega) (RSing (((wr.alloc (.cells (encA q).toArray 99)).alloc (.cells (encA q).toArray 99)).alloc (.cells #[.slice (some ⟨wr.heap.size + 1, 0, none⟩) 1 1] 56))) _ _ (by rfl) ((((HO.out.alloc _).alloc _).alloc _).mono (fun cs x h => RSing.keep h (((KeepB.alloc _).trans (KeepB.alloc _)).trans (KeepB.alloc _)))) [q] [.slice (some ⟨wr.heap.size + 1, 0, none⟩) 1 1] (wr.heap.size + 2) 1 (by rfl) (blk_new3 _ _ _ _ _) ⟨q, wr.heap.size + 1, rfl, hok, rfl, (blk_new2 _ _ _ _).alloc _⟩ rfl (by simp [Value.oneCell']) (by rw [HS.out]; omega) (by omega) (by simp; have := HB.out.size; omega) ?_; intro g cap w1 ho1 hg1)
      have HB1 : Below w.heap.size w w1 := (((HO.out.alloc _).alloc _).alloc _).below (by have hb0 := HB.out; (repeat (first | assumption | exact Below.refl _ _ | refine below_next ?_ (by assumption) | refine below_drewN ?_ _ | refine below_alloc ?_ _))) (by simp; have := HB.out.size; omega) hg1
      have hkb : KeepB (fun t => t = 99) _ w1 := (((HO.out.alloc _).alloc _).alloc _).keep hg1 (by decide)
      go_roundw
      case rel => exact ⟨k + 1, by omega, by simp, HB1, by rw [singl_step HQ.out]; try (rw [HS.out]); rw [HS.out] at ho1; exact ho1.mono fun cs x h => RSing.keep h hkb⟩
      case measure => (try simp only [intOf]); omega
    · go_wp2
      go_ret
      have ho := HO.out
      rw [take_end hk hlt] at ho
      exact ret_clss ho HB.out (by rw [sing_len]; omega)

theorem prv_step {l : List Prv} {k : Nat} {q : Prv} (h : l[k]? = some q) : prvS (l.take (k + 1)) = prvS (l.take k) ++ [prvA q] := by
  unfold prvS
  rw [take_step h, List.map_append]
  rfl
theorem sing_step {l : List Prv} {k : Nat} {q : Prv} (h : l[k]? = some q) : singS (prvS (l.take (k + 1))) = singS (prvS (l.take k)) ++ [[prvA q]] := by
  rw [prv_step h]
  unfold singS
  rw [List.map_append]
  rfl
theorem RSing.next {w w' : World} {cs : List Value} {x : List Atm} (h : RSing w cs x) (hb : Below w.heap.size w w') : RSing w' cs x := by
  obtain ⟨a, g, h1, h2, h3, h4⟩ := h
  exact ⟨a, g, h1, h2, h3, h4.next hb⟩
theorem own_next {wr W : World} {B : Nat} {v : Value} {l : List (List Atm)} (h : Own wr B 56 1 (RSing wr) v l) (hb : Below wr.heap.size wr W) : Own W B 56 1 (RSing W) v l := (h.next hb).mono fun _ _ h => h.next hb
theorem blk_new4' (w : World) (o o' o2 : Obj) (t : TypeId) (cs : Array Value) : Blk ((((w.alloc o).alloc o').alloc o2).alloc (.cells cs t)) (w.heap.size + 3) t cs := by
  have := Blk.new (((w.alloc o).alloc o').alloc o2) t cs
  simpa using this
set_option maxRecDepth 100000 in
set_option maxHeartbeats 400000 in
theorem rprovided_any (A : Option Addr) (c k0 : Nat) (l : List Prv) (hk0 : l.length = k0) (w : World) (hl : Prvs w A c l) (hbig : l.length ≤ 1000000) :
    Calls Tryd.prog 30 #[.slice A k0 c] w (RetAtms w (prvS l)) := by
  subst hk0
  have hbd := hl.bd
  have HL := Lib.hid hl
  clear hl
  go_enter Tryd.func30, Tryd.ntmps30
  go_wp2
  go_loopw [3, 9] (fun v i wr => ∃ k : Nat, k ≤ l.length ∧ i = .int .i64 k ∧ Below w.heap.size w wr ∧ Own wr w.heap.size 99 3 RAtm v (prvS (l.take k))) (fun _ i _ => l.length - (intOf i).toNat)
  case atStart => exact ⟨0, Nat.zero_le _, rfl, Below.refl _ _, Own.nil_ _ _ _ _ _⟩
  case round =>
    obtain ⟨k, hk, rfl, hb, ho⟩ := hrel
    have HB := Lib.hid hb
    have HO := Lib.hid ho
    clear hb ho
    by_cases hlt : k < l.length
    · obtain ⟨q, b, o, hq, rfl, hok, e0, e1⟩ := HL.out.at_ hlt (Kept.of_below HB.out)
      have HQ := Lib.hid hq
      have hs : (prvS (l.take k)).length = k := by rw [prv_len]; simp; omega
      have HS := Lib.hid hs
      clear hq hs
      by_cases hv : q.ver = []
      · rw [hv] at e1
        have HA := Lib.hid (show prvA q = ⟨q.name, 0, []⟩ by simp [prvA, hv])
        go_wp2_with (at_builtin; refine wpList_append_el (by rfl) _ _ 25 (by rfl) w.heap.size 99 _ 3 40 Tryd.underlying25 infAtm rfl (by omega) RAtm _ _ (by rfl) (HO.out.next (by (repeat (first | with_reducible exact HB.out | with_reducible exact Below.refl _ _ | with_reducible refine below_alloc ?_ _ | with_reducible refine Below.setCell ?_ (show _ ≤ _ from by have := HB.out.size; dsimp only; omega) _)))) (prvA q) (encA ⟨q.name, 0, []⟩) (wr.heap.size + 2) 1 (by rfl) (blk_new3 _ _ _ _ _) ⟨by rw [HA.out], hok⟩ rfl (encA_one _) (by rw [HS.out]; omega) (by omega) (by simp; have := HB.out.size; omega) ?_; intro g cap w1 ho1 hg1)
        have hbW : Below w.heap.size w w1 := by
          refine (HO.out.next ?_).below ?_ ?_ hg1
          · (repeat (first | with_reducible exact HB.out | with_reducible exact Below.refl _ _ | with_reducible refine below_alloc ?_ _ | with_reducible refine Below.setCell ?_ (show _ ≤ _ from by have := HB.out.size; dsimp only; omega) _))
          · (repeat (first | with_reducible exact HB.out | with_reducible exact Below.refl _ _ | with_reducible refine below_alloc ?_ _ | with_reducible refine Below.setCell ?_ (show _ ≤ _ from by have := HB.out.size; dsimp only; omega) _))
          · simp; have := HB.out.size; omega
        go_roundw
        case rel => exact ⟨k + 1, by omega, by simp, hbW, by rw [prv_step HQ.out]; try (rw [HS.out]); rw [HS.out] at ho1; exact ho1⟩
        case measure => (try simp only [intOf]); omega
      · have HA := Lib.hid (show prvA q = ⟨q.name, 3, q.ver⟩ by simp [prvA, hv])
        have hne : q.ver.isEmpty = false := by simpa using hv
        go_wp2_with (at_builtin; refine wpList_append_el (by rfl) _ _ 25 (by rfl) w.heap.size 99 _ 3 40 Tryd.underlying25 infAtm rfl (by omega) RAtm _ _ (by rfl) (HO.out.next (by (repeat (first | with_reducible exact HB.out | with_reducible exact Below.refl _ _ | with_reducible refine below_alloc ?_ _ | with_reducible refine Below.setCell ?_ (show _ ≤ _ from by have := HB.out.size; dsimp only; omega) _)))) (prvA q) (encA ⟨q.name, 3, q.ver⟩) (wr.heap.size + 2) 1 (by rfl) (blk_new3 _ _ _ _ _) ⟨by rw [HA.out], hok⟩ rfl (encA_one _) (by rw [HS.out]; omega) (by omega) (by simp; have := HB.out.size; omega) ?_; intro g cap w1 ho1 hg1)
        have hbW : Below w.heap.size w w1 := by
          refine (HO.out.next ?_).below ?_ ?_ hg1
          · (repeat (first | with_reducible exact HB.out | with_reducible exact Below.refl _ _ | with_reducible refine below_alloc ?_ _ | with_reducible refine Below.setCell ?_ (show _ ≤ _ from by have := HB.out.size; dsimp only; omega) _))
          · (repeat (first | with_reducible exact HB.out | with_reducible exact Below.refl _ _ | with_reducible refine below_alloc ?_ _ | with_reducible refine Below.setCell ?_ (show _ ≤ _ from by have := HB.out.size; dsimp only; omega) _))
          · simp; have := HB.out.size; omega
        go_roundw
        case rel => exact ⟨k + 1, by omega, by simp, hbW, by rw [prv_step HQ.out]; try (rw [HS.out]); rw [HS.out] at ho1; exact ho1⟩
        case measure => (try simp only [intOf]); omega
    · go_wp2
      go_ret
      have ho := HO.out
      rw [take_end hk hlt] at ho
      exact ret_atms ho HB.out (by rw [prv_len]; omega)
def cutN (n : Nat) : Nat := min n 13
theorem cut_any' (A : Option Addr) (c : Nat) (l : List Atm) (w : World) (hl : Atms w A c l) :
    Calls Tryd.prog 29 #[.slice A l.length c] w fun e w' => e = .returned (.slice A (cutN l.length) c) ∧ w = w' := by
  have hbd := hl.bd
  clear hl
  by_cases h : l.length ≤ 13
  · have hn : cutN l.length = l.length := by unfold cutN; omega
    have HN := Lib.hid hn
    clear hn
    go_enter Tryd.func29, Tryd.ntmps29
    go_wp2
    all_goals go_ret
    all_goals (rw [HN.out]; simp; try omega)
  · have hn : cutN l.length = 13 := by unfold cutN; omega
    have HN := Lib.hid hn
    clear hn
    go_enter Tryd.func29, Tryd.ntmps29
    go_wp2
    all_goals go_ret
    all_goals (rw [HN.out]; simp; try omega)
theorem cutp_any (A : Option Addr) (c : Nat) (l : List Prv) (w : World) (hl : Prvs w A c l) :
    Calls Tryd.prog 31 #[.slice A l.length c] w fun e w' => e = .returned (.slice A (cutN l.length) c) ∧ w = w' := by
  have hbd := hl.bd
  clear hl
  by_cases h : l.length ≤ 13
  · have hn : cutN l.length = l.length := by unfold cutN; omega
    have HN := Lib.hid hn
    clear hn
    go_enter Tryd.func31, Tryd.ntmps31
    go_wp2
    all_goals go_ret
    all_goals (rw [HN.out]; simp; try omega)
  · have hn : cutN l.length = 13 := by unfold cutN; omega
    have HN := Lib.hid hn
    clear hn
    go_enter Tryd.func31, Tryd.ntmps31
    go_wp2
    all_goals go_ret
    all_goals (rw [HN.out]; simp; try omega)
end Go.Proofs.YtcbomomlojhghaaDoor
