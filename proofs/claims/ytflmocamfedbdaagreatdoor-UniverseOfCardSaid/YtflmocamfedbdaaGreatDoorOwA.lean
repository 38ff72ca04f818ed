/- index.own's clauses: clauses in memory of their own: its contract. -/
import Derived.Test.YtflmocamfedbdaaGreatDoorMk
import Derived.Test.YtflmocamfedbdaaGreatDoorCl
namespace Go.Proofs.YtflmocamfedbdaaGreatDoor
set_option linter.unusedSimpArgs false
set_option linter.unusedVariables false
open Go.RowKit
/-- the element types of what a package holds -/
def TA (t : Nat) : Bool := t == 34
def TB (t : Nat) : Bool := t == 77 || t == 34 || t == 38
theorem flt_sub {T T' : Nat → Bool} (h : ∀ t, T t = true → T' t = true) (w : World) : Kept (flt T w) (flt T' w) := fun p v hv => by
  obtain ⟨cs, t, h1, h2, h3, h4⟩ := flt_inv hv
  unfold World.cell?
  rw [flt_blk h1 (h _ h2)]
  simp [h3, h4]
theorem TA_TB : ∀ t, TA t = true → TB t = true := fun t h => by simp [TA, TB] at h ⊢; simp [h]
/-- a slice of clauses in new memory is returned -/
def RetClsF (w : World) (l : List (List Atm)) (e : Ending) (w' : World) : Prop := ∃ A c, e = .returned (.slice A l.length c) ∧ Clss (flt TB w') A c l ∧ Below w.heap.size w w'
def RetAtmF (w : World) (l : List Atm) (e : Ending) (w' : World) : Prop := ∃ A c, e = .returned (.slice A l.length c) ∧ Atms (flt TB w') A c l ∧ Below w.heap.size w w'
def RetPrvF (w : World) (l : List Prv) (e : Ending) (w' : World) : Prop := ∃ A c, e = .returned (.slice A l.length c) ∧ Prvs (flt TB w') A c l ∧ Below w.heap.size w w'
theorem retAtmF {w w' : World} {l : List Atm} {e : Ending} {t : TypeId} (hl : l.length * 40 ≤ 140737488351232) (ht : t = 34) (h : RetOwn w t 3 RAtm l e w') : RetAtmF w l e w' := by
  obtain ⟨v, rfl, ho, hb⟩ := h
  obtain ⟨A, c, rfl, hs⟩ := (flt_own (T := TB) ho (by subst ht; decide)).slc (z := 40) hl
  exact ⟨A, c, rfl, hs, hb⟩
theorem retPrvF {w w' : World} {l : List Prv} {e : Ending} {t : TypeId} (hl : l.length * 32 ≤ 140737488351232) (ht : t = 38) (h : RetOwn w t 2 RPrv l e w') : RetPrvF w l e w' := by
  obtain ⟨v, rfl, ho, hb⟩ := h
  obtain ⟨A, c, rfl, hs⟩ := (flt_own (T := TB) ho (by subst ht; decide)).slc (z := 32) hl
  exact ⟨A, c, rfl, hs, hb⟩
theorem RCls.fkeep {w w' : World} {cs : List Value} {x : List Atm} (h : RCls (flt TA w) cs x) (hk : KeepB (fun t => TA t = true) w w') : RCls (flt TA w') cs x := h.kept (flt_mono hk)
theorem clsA_bd {w : World} {A : Option Addr} {c : Nat} {l : List (List Atm)} (h : Clss w A c l) : ∀ x ∈ l, x.length * 40 ≤ 140737488351232 := fun x hx => by
  obtain ⟨i, hi, rfl⟩ := List.mem_iff_getElem.1 hx
  obtain ⟨y, b, o, cs, hy, _, ⟨A', c', _, ha⟩, _⟩ := Slc.at_ h hi
  rw [List.getElem?_eq_getElem hi] at hy
  injection hy with hy
  rw [hy]
  exact ha.bd.2.2
set_option maxRecDepth 100000 in
set_option maxHeartbeats 400000 in
theorem clo_any (A : Option Addr) (c : Nat) (l : List (List Atm)) (w : World) (hl : Clss w A c l) (hbig : l.length ≤ 1000000) (hsm : ∀ x ∈ l, x.length ≤ 1000000) :
    Calls Tryz.prog 102 #[.slice A l.length c] w (RetClsF w l) := by
  have hbd := hl.bd
  have HL := Lib.hid hl
  have HSM := Lib.hid hsm
  clear hl hsm
  go_enter Tryz.func102, Tryz.ntmps102
  go_wp2
  go_loopw [3, 8] (fun v i wr => ∃ k : Nat, k ≤ l.length ∧ i = .int .i64 k ∧ Below w.heap.size w wr ∧ Own wr w.heap.size 77 1 (RCls (flt TA wr)) v (l.take k)) (fun _ i _ => l.length - (intOf i).toNat)
  case atStart => exact ⟨0, Nat.zero_le _, rfl, Below.refl _ _, Own.nil_ _ _ _ _ _⟩
  case round =>
    obtain ⟨k, hk, rfl, hb, ho⟩ := hrel
    have HB := Lib.hid hb
    have HO := Lib.hid ho
    clear hb ho
    by_cases hlt : k < l.length
    · obtain ⟨q, b, o, A', c', hq, rfl, hA, e0⟩ := HL.out.at_ hlt (Kept.of_below HB.out)
      have HQ := Lib.hid hq
      have HA := Lib.hid hA
      have HS := Lib.hid (show (l.take k).length = k by simp; omega)
      clear hq hA
      go_wp2_with fail
      refine (cloneC_any A' c' q _ (HA.out.kept (Kept.of_below HB.out)) (HSM.out q (List.mem_of_getElem? HQ.out))).mono ?_
      rintro e w1 ⟨v1, rfl, ho1, hb1⟩
      have hqb := HA.out.bd.2.2
      obtain ⟨A1, c1, rfl, hs1⟩ := (flt_own (T := TA) ho1 (by decide)).slc (z := 40) hqb
      have HS1 := Lib.hid (show Atms (flt TA (w1.alloc (.cells #[.slice A1 q.length c1] 77))) A1 c1 q from Slc.mono hs1 (flt_mono (KeepB.alloc _)) fun _ _ h => h)
      have HOn := Lib.hid (show Own (w1.alloc (.cells #[.slice A1 q.length c1] 77)) w.heap.size 77 1 (RCls (flt TA (w1.alloc (.cells #[.slice A1 q.length c1] 77)))) _ (l.take k) from ((HO.out.next hb1).alloc _).mono fun _ _ h => RCls.fkeep h ((KeepB.of_below hb1).trans (KeepB.alloc _)))
      have HB1 := Lib.hid (below_alloc (below_next HB.out hb1) (.cells #[.slice A1 q.length c1] 77))
      clear hs1 ho1 hb1
      go_wp2_with (at_builtin; refine wpList_append_el (by rfl) _ _ 22 (by rfl) w.heap.size 77 _ 1 24 Tryz.underlying22 infCls rfl (by omega) (RCls (flt TA (w1.alloc (.cells #[.slice A1 q.length c1] 77)))) _ _ (by rfl) HOn.out q [.slice A1 q.length c1] w1.heap.size 1 (by rfl) (blk_new1 _ _ _) ⟨A1, c1, rfl, HS1.out⟩ rfl (by simp [Value.oneCell']) (by rw [HS.out]; omega) (by omega) HB1.out.size ?_; intro g cap w2 ho2 hg2)
      have hb2 := HOn.out.below HB1.out HB1.out.size hg2
      have hk2 : KeepB (fun t => TA t = true) _ w2 := HOn.out.keep hg2 (by decide)
      go_roundw
      case rel => exact ⟨k + 1, by omega, by simp, hb2, by rw [take_step HQ.out]; (try rw [HS.out] at ho2); exact ho2.mono fun _ _ h => RCls.fkeep h hk2⟩
      case measure => (try simp only [intOf]); omega
    · go_wp2
      go_ret
      have ho := HO.out
      rw [take_end hk hlt] at ho
      obtain ⟨A1, c1, rfl, hs⟩ := (flt_own (T := TB) (ho.mono fun _ _ h => RCls.kept h (flt_sub TA_TB wr)) (by decide)).slc (z := 24) hbd.2.2
      exact ⟨A1, c1, rfl, hs, HB.out⟩
end Go.Proofs.YtflmocamfedbdaaGreatDoor
