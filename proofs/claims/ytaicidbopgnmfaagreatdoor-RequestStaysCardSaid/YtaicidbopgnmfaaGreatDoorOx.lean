/- The contracts of slices.Clone at clauses, atoms, provides: a copy in memory of its own. index.own's clauses: clauses in memory of their own: its contract. Words for index.own: stores into one block leave the blocks of other types. Stores into an entry's box. A region that draws its order, walked once an operation: a relation of what is listed, the frame and the world that each operation that may come up keeps. -/
import Derived.Test.YtaicidbopgnmfaaGreatDoorMaA
import Derived.Test.YtaicidbopgnmfaaGreatDoorMk
import Derived.Lib.SliceRun
import Derived.RegionTactic
import Derived.Deep.RegionHeld3
namespace Go.Proofs.YtaicidbopgnmfaaGreatDoor
set_option linter.unusedSimpArgs false
set_option linter.unusedVariables false
open Go.RowKit

theorem infPrv : (Tryz.prog.info? 118).map (fun i => (i.zero, i.size, i.bytes)) = some (some (.agg #[.string (bs []), .string (bs [])]), 2, 32) := by kernel_rfl
theorem atm_one : ∀ cs y, RAtm cs y → ∀ u ∈ cs, u.oneCell' = true := fun cs y ⟨h, _⟩ u hu => by
  subst h
  exact encA_one y u hu
theorem prv_one : ∀ cs y, RPrv cs y → ∀ u ∈ cs, u.oneCell' = true := fun cs y ⟨h, _⟩ u hu => by
  subst h
  exact encP_one y u hu
theorem own_made {α : Type} {R : List Value → α → Prop} (W : World) (e : TypeId) (k : Nat) : Own (W.alloc (.cells #[] e)) W.heap.size e k R (.slice (some ⟨W.heap.size, 0, none⟩) 0 0) [] :=
  ⟨[], rfl, fun i cs x h => by simp at h, World.ownsRow_made W #[] 0 (Nat.le_refl _) (Nat.zero_le _) (by simp)⟩
/-- a copy of a row is returned -/
def RetOwn {α : Type} (w : World) (e : TypeId) (k : Nat) (R : List Value → α → Prop) (l : List α) (x : Ending) (w' : World) : Prop := ∃ v, x = .returned v ∧ Own w' w.heap.size e k R v l ∧ Below w.heap.size w w'
set_option maxRecDepth 100000 in
set_option maxHeartbeats 400000 in
theorem cloneC_any (A : Option Addr) (c : Nat) (l : List Atm) (w : World) (hl : Slc w 3 40 RAtm A c l) (hbig : l.length ≤ 1000000) :
    Calls Tryz.prog 153 #[.slice A l.length c] w (RetOwn w 72 3 RAtm l) := by
  have hbd := hl.bd
  have HL := Lib.hid hl
  have heq : ∀ (A : Option Addr) (n c : Nat) (W : World), (binOp .eql 79 (.slice A n c) (.slice none 0 0)).run Tryz.prog W = .ok (.bool A.isNone) W := fun A n c W => Lib.run_eql_slice_nil W 79 72 A n c 0 0 Tryz.underlying79
  rcases A with _ | ⟨b, o, sp⟩
  · have hn : l = [] := by
      rcases l with _ | ⟨x, l⟩
      · rfl
      · obtain ⟨b, o, h, _⟩ := hl.2.2.2 (by simp)
        cases h
    clear hl
    subst hn
    go_enter Tryz.func153, Tryz.ntmps153
    go_wp2
    all_goals go_ret
    all_goals exact ⟨_, rfl, Own.nil_ _ _ _ _ _, Below.refl _ _⟩
  · clear hl
    go_enter Tryz.func153, Tryz.ntmps153
    go_wp2_with (at_builtin; refine wpList_append_all (by rfl) _ _ 79 (by rfl) w.heap.size 72 _ 3 40 40 Tryz.underlying79 infAtm rfl (by omega) RAtm _ [] (by rfl) (own_made w 72 3) (some ⟨b, o, sp⟩) c l (by rfl) (Slc.mono HL.out (Kept.alloc _ _) fun _ _ h => h) atm_one (by simp; omega) (by omega) (by simp) ?_; intro v1 w1 ho1 hg1)
    have hb1 := (own_made (R := RAtm) w 72 3).below (below_alloc (Below.refl _ _) _) (by simp) hg1
    rw [List.nil_append] at ho1
    go_ret
    exact ⟨_, rfl, ho1, hb1⟩
set_option maxRecDepth 100000 in
set_option maxHeartbeats 400000 in
theorem cloneA_any (A : Option Addr) (c : Nat) (l : List Atm) (w : World) (hl : Slc w 3 40 RAtm A c l) (hbig : l.length ≤ 1000000) :
    Calls Tryz.prog 154 #[.slice A l.length c] w (RetOwn w 72 3 RAtm l) := by
  have hbd := hl.bd
  have HL := Lib.hid hl
  have heq : ∀ (A : Option Addr) (n c : Nat) (W : World), (binOp .eql 40 (.slice A n c) (.slice none 0 0)).run Tryz.prog W = .ok (.bool A.isNone) W := fun A n c W => Lib.run_eql_slice_nil W 40 72 A n c 0 0 Tryz.underlying40
  rcases A with _ | ⟨b, o, sp⟩
  · have hn : l = [] := by
      rcases l with _ | ⟨x, l⟩
      · rfl
      · obtain ⟨b, o, h, _⟩ := hl.2.2.2 (by simp)
        cases h
    clear hl
    subst hn
    go_enter Tryz.func154, Tryz.ntmps154
    go_wp2
    all_goals go_ret
    all_goals exact ⟨_, rfl, Own.nil_ _ _ _ _ _, Below.refl _ _⟩
  · clear hl
    go_enter Tryz.func154, Tryz.ntmps154
    go_wp2_with (at_builtin; refine wpList_append_all (by rfl) _ _ 40 (by rfl) w.heap.size 72 _ 3 40 40 Tryz.underlying40 infAtm rfl (by omega) RAtm _ [] (by rfl) (own_made w 72 3) (some ⟨b, o, sp⟩) c l (by rfl) (Slc.mono HL.out (Kept.alloc _ _) fun _ _ h => h) atm_one (by simp; omega) (by omega) (by simp) ?_; intro v1 w1 ho1 hg1)
    have hb1 := (own_made (R := RAtm) w 72 3).below (below_alloc (Below.refl _ _) _) (by simp) hg1
    rw [List.nil_append] at ho1
    go_ret
    exact ⟨_, rfl, ho1, hb1⟩
set_option maxRecDepth 100000 in
set_option maxHeartbeats 400000 in
theorem cloneP_any (A : Option Addr) (c : Nat) (l : List Prv) (w : World) (hl : Slc w 2 32 RPrv A c l) (hbig : l.length ≤ 1000000) :
    Calls Tryz.prog 155 #[.slice A l.length c] w (RetOwn w 118 2 RPrv l) := by
  have hbd := hl.bd
  have HL := Lib.hid hl
  have heq : ∀ (A : Option Addr) (n c : Nat) (W : World), (binOp .eql 41 (.slice A n c) (.slice none 0 0)).run Tryz.prog W = .ok (.bool A.isNone) W := fun A n c W => Lib.run_eql_slice_nil W 41 118 A n c 0 0 Tryz.underlying41
  rcases A with _ | ⟨b, o, sp⟩
  · have hn : l = [] := by
      rcases l with _ | ⟨x, l⟩
      · rfl
      · obtain ⟨b, o, h, _⟩ := hl.2.2.2 (by simp)
        cases h
    clear hl
    subst hn
    go_enter Tryz.func155, Tryz.ntmps155
    go_wp2
    all_goals go_ret
    all_goals exact ⟨_, rfl, Own.nil_ _ _ _ _ _, Below.refl _ _⟩
  · clear hl
    go_enter Tryz.func155, Tryz.ntmps155
    go_wp2_with (at_builtin; refine wpList_append_all (by rfl) _ _ 41 (by rfl) w.heap.size 118 _ 2 32 32 Tryz.underlying41 infPrv rfl (by omega) RPrv _ [] (by rfl) (own_made w 118 2) (some ⟨b, o, sp⟩) c l (by rfl) (Slc.mono HL.out (Kept.alloc _ _) fun _ _ h => h) prv_one (by simp; omega) (by omega) (by simp) ?_; intro v1 w1 ho1 hg1)
    have hb1 := (own_made (R := RPrv) w 118 2).below (below_alloc (Below.refl _ _) _) (by simp) hg1
    rw [List.nil_append] at ho1
    go_ret
    exact ⟨_, rfl, ho1, hb1⟩
end Go.Proofs.YtaicidbopgnmfaaGreatDoor
namespace Go.Proofs.YtaicidbopgnmfaaGreatDoor
set_option linter.unusedSimpArgs false
set_option linter.unusedVariables false
open Go.RowKit
/-- the element types of what a package holds -/
def TA (t : Nat) : Bool := t == 72
def TB (t : Nat) : Bool := t == 79 || t == 72 || t == 118
theorem flt_sub {T T' : Nat → Bool} (h : ∀ t, T t = true → T' t = true) (w : World) : Kept (flt T w) (flt T' w) := fun p v hv => by
  obtain ⟨cs, t, h1, h2, h3, h4⟩ := flt_inv hv
  unfold World.cell?
  rw [flt_blk h1 (h _ h2)]
  simp [h3, h4]
theorem TA_TB : ∀ t, TA t = true → TB t = true := fun t h => by simp [TA, TB] at h ⊢; simp [h]
/-- a slice of clauses in new memory is returned -/
def RetClsF (w : World) (l : List (List Atm)) (e : Ending) (w' : World) : Prop := ∃ A c, e = .returned (.slice A l.length c) ∧ Clss (flt TB w') A c l ∧ Below w.heap.size w w'
def RetAtmF (w : World) (l : List Atm) (e : Ending) (w' : World) : Prop := ∃ A c, e = .returned (.slice A l.length c) ∧ Atms (flt TB w') A c l ∧ Below w.heap.size w w'
def RetPrvF (w : World) (l : List Prv) (e : Ending) (w' : World) : Prop := ∃ A c, e = .returned (.slice A l.length c) ∧ Prvs (flt TB w') A c l ∧ Below w.heap.size w w'
theorem retAtmF {w w' : World} {l : List Atm} {e : Ending} {t : TypeId} (hl : l.length * 40 ≤ 140737488351232) (ht : t = 72) (h : RetOwn w t 3 RAtm l e w') : RetAtmF w l e w' := by
  obtain ⟨v, rfl, ho, hb⟩ := h
  obtain ⟨A, c, rfl, hs⟩ := (flt_own (T := TB) ho (by subst ht; decide)).slc (z := 40) hl
  exact ⟨A, c, rfl, hs, hb⟩
theorem retPrvF {w w' : World} {l : List Prv} {e : Ending} {t : TypeId} (hl : l.length * 32 ≤ 140737488351232) (ht : t = 118) (h : RetOwn w t 2 RPrv l e w') : RetPrvF w l e w' := by
  obtain ⟨v, rfl, ho, hb⟩ := h
  obtain ⟨A, c, rfl, hs⟩ := (flt_own (T := TB) ho (by subst ht; decide)).slc (z := 32) hl
  exact ⟨A, c, rfl, hs, hb⟩
theorem RCls.fkeep {w w' : World} {cs : List Value} {x : List Atm} (h : RCls (flt TA w) cs x) (hk : KeepB (fun t => TA t = true) w w') : RCls (flt TA w') cs x := h.kept (flt_mono hk)
theorem clsA_bd {w : World} {A : Option Addr} {c : Nat} {l : List (List Atm)} (h : Clss w A c l) : ∀ x ∈ l, x.length * 40 ≤ 140737488351232 := fun x hx => by
  obtain ⟨i, hi, rfl⟩ := List.mem_iff_getElem.1 hx
  obtain ⟨y, b, o, cs, hy, _, ⟨A', c', _, ha⟩, _⟩ := Slc.at_ h hi
  rw [List.getElem?_eq_getElem hi] at hy
  injection hy with hy
  rw [hy]
  exact ha.bd.2.2
set_option maxRecDepth 100000 in
set_option maxHeartbeats 400000 in
theorem cloE_any (A : Option Addr) (c : Nat) (l : List (List Atm)) (w : World) (hl : Clss w A c l) (hbig : l.length ≤ 1000000) (hsm : ∀ x ∈ l, x.length ≤ 1000000) :
    Calls Tryz.prog 152 #[.slice A l.length c] w (RetClsF w l) := by
  have hbd := hl.bd
  have HL := Lib.hid hl
  have HSM := Lib.hid hsm
  clear hl hsm
  go_enter Tryz.func152, Tryz.ntmps152
  go_wp2
  go_loopw [3, 8] (fun v i wr => ∃ k : Nat, k ≤ l.length ∧ i = .int .i64 k ∧ Below w.heap.size w wr ∧ Own wr w.heap.size 79 1 (RCls (flt TA wr)) v (l.take k)) (fun _ i _ => l.length - (intOf i).toNat)
  case atStart => exact ⟨0, Nat.zero_le _, rfl, Below.refl _ _, Own.nil_ _ _ _ _ _⟩
  case round =>
    obtain ⟨k, hk, rfl, hb, ho⟩ := hrel
    have HB := Lib.hid hb
    have HO := Lib.hid ho
    clear hb ho
    by_cases hlt : k < l.length
    · obtain ⟨q, b, o, A', c', hq, rfl, hA, e0⟩ := HL.out.at_ hlt (Kept.of_below HB.out)
      have HQ := Lib.hid hq
      have HA := Lib.hid hA
      have HS := Lib.hid (show (l.take k).length = k by simp; omega)
      clear hq hA
      go_wp2_with fail
      refine (cloneC_any A' c' q _ (HA.out.kept (Kept.of_below HB.out)) (HSM.out q (List.mem_of_getElem? HQ.out))).mono ?_
      rintro e w1 ⟨v1, rfl, ho1, hb1⟩
      have hqb := HA.out.bd.2.2
      obtain ⟨A1, c1, rfl, hs1⟩ := (flt_own (T := TA) ho1 (by decide)).slc (z := 40) hqb
      have HS1 := Lib.hid (show Atms (flt TA (w1.alloc (.cells #[.slice A1 q.length c1] 79))) A1 c1 q from Slc.mono hs1 (flt_mono (KeepB.alloc _)) fun _ _ h => h)
      have HOn := Lib.hid (show Own (w1.alloc (.cells #[.slice A1 q.length c1] 79)) w.heap.size 79 1 (RCls (flt TA (w1.alloc (.cells #[.slice A1 q.length c1] 79)))) _ (l.take k) from ((HO.out.next hb1).alloc _).mono fun _ _ h => RCls.fkeep h ((KeepB.of_below hb1).trans (KeepB.alloc _)))
      have HB1 := Lib.hid (below_alloc (below_next HB.out hb1) (.cells #[.slice A1 q.length c1] 79))
      clear hs1 ho1 hb1
      go_wp2_with (at_builtin; refine wpList_append_el (by rfl) _ _ 39 (by rfl) w.heap.size 79 _ 1 24 Tryz.underlying39 infCls rfl (by omega) (RCls (flt TA (w1.alloc (.cells #[.slice A1 q.length c1] 79)))) _ _ (by rfl) HOn.out q [.slice A1 q.length c1] w1.heap.size 1 (by rfl) (blk_new1 _ _ _) ⟨A1, c1, rfl, HS1.out⟩ rfl (by simp [Value.oneCell']) (by rw [HS.out]; omega) (by omega) HB1.out.size ?_; intro g cap w2 ho2 hg2)
      have hb2 := HOn.out.below HB1.out HB1.out.size hg2
      have hk2 : KeepB (fun t => TA t = true) _ w2 := HOn.out.keep hg2 (by decide)
      go_roundw
      case rel => exact ⟨k + 1, by omega, by simp, hb2, by rw [take_step HQ.out]; (try rw [HS.out] at ho2); exact ho2.mono fun _ _ h => RCls.fkeep h hk2⟩
      case measure => (try simp only [intOf]); omega
    · go_wp2
      go_ret
      have ho := HO.out
      rw [take_end hk hlt] at ho
      obtain ⟨A1, c1, rfl, hs⟩ := (flt_own (T := TB) (ho.mono fun _ _ h => RCls.kept h (flt_sub TA_TB wr)) (by decide)).slc (z := 24) hbd.2.2
      exact ⟨A1, c1, rfl, hs, HB.out⟩
end Go.Proofs.YtaicidbopgnmfaaGreatDoor
namespace Go.Proofs.YtaicidbopgnmfaaGreatDoor
set_option linter.unusedSimpArgs false
set_option linter.unusedVariables false
open Go.RowKit
theorem RP.fkeep {w w' : World} {r : Raw} {p : Pkg} (h : RP (flt TB w) r p) (hk : KeepB (fun t => TB t = true) w w') : RP (flt TB w') r p := h.kept (flt_mono hk)
theorem Clss.fkeep {w w' : World} {A : Option Addr} {c : Nat} {l : List (List Atm)} (h : Clss (flt TB w) A c l) (hk : KeepB (fun t => TB t = true) w w') : Clss (flt TB w') A c l := h.kept (flt_mono hk)
theorem Atms.fkeep {w w' : World} {A : Option Addr} {c : Nat} {l : List Atm} (h : Atms (flt TB w) A c l) (hk : KeepB (fun t => TB t = true) w w') : Atms (flt TB w') A c l := h.kept (flt_mono hk)
theorem Prvs.fkeep {w w' : World} {A : Option Addr} {c : Nat} {l : List Prv} (h : Prvs (flt TB w) A c l) (hk : KeepB (fun t => TB t = true) w w') : Prvs (flt TB w') A c l := h.kept (flt_mono hk)
/-- three fields stored -/
theorem own_keep1 {w : World} {g i : Nat} {cs : Array Value} (h : Blk w g 43 cs) (u : Value) : KeepB (fun t => TB t = true) w (w.setCell ⟨g, i, none⟩ u) :=
  KeepB.setCell (p := ⟨g, i, none⟩) h (show ¬ TB 43 = true by decide) u
theorem own_below1 {w w0 : World} {g i : Nat} (hB : Below w0.heap.size w0 w) (hg : w0.heap.size ≤ g) (u : Value) : Below w0.heap.size w0 (w.setCell ⟨g, i, none⟩ u) := hB.setCell (p := ⟨g, i, none⟩) hg u
theorem own_far1 {w : World} {g i t : Nat} {cs : Array Value} (h : Blk w (g + 1) t cs) (u : Value) : Blk (w.setCell ⟨g, i, none⟩ u) (g + 1) t cs := h.far (p := ⟨g, i, none⟩) (by show g + 1 ≠ g; omega) u
theorem own_set3a {w : World} {g : Nat} {v0 v1 v2 v3 v4 v5 v6 v7 v8 a b c : Value} (hK : Blk w g 43 #[v0, v1, v2, v3, v4, v5, v6, v7, v8]) (zer : Array Value) (hZ : Blk w (g + 1) 43 zer) {w0 : World} (hB : Below w0.heap.size w0 w) (hg : w0.heap.size ≤ g) :
    Blk (((w.setCell ⟨g, 2, none⟩ a).setCell ⟨g, 3, none⟩ b).setCell ⟨g, 4, none⟩ c) g 43 #[v0, v1, a, b, c, v5, v6, v7, v8] ∧ Blk (((w.setCell ⟨g, 2, none⟩ a).setCell ⟨g, 3, none⟩ b).setCell ⟨g, 4, none⟩ c) (g + 1) 43 zer ∧
      Below w0.heap.size w0 (((w.setCell ⟨g, 2, none⟩ a).setCell ⟨g, 3, none⟩ b).setCell ⟨g, 4, none⟩ c) ∧ KeepB (fun t => TB t = true) w (((w.setCell ⟨g, 2, none⟩ a).setCell ⟨g, 3, none⟩ b).setCell ⟨g, 4, none⟩ c) := by
  have h1 := hK.set_ 2 a
  have h2 := h1.set_ 3 b
  have h3 := h2.set_ 4 c
  exact ⟨h3, own_far1 (own_far1 (own_far1 hZ a) b) c, own_below1 (own_below1 (own_below1 hB hg a) hg b) hg c, (own_keep1 hK a).trans ((own_keep1 h1 b).trans (own_keep1 h2 c))⟩
theorem own_set3b {w : World} {g : Nat} {v0 v1 v2 v3 v4 v5 v6 v7 v8 a b c : Value} (hK : Blk w g 43 #[v0, v1, v2, v3, v4, v5, v6, v7, v8]) (zer : Array Value) (hZ : Blk w (g + 1) 43 zer) {w0 : World} (hB : Below w0.heap.size w0 w) (hg : w0.heap.size ≤ g) :
    Blk (((w.setCell ⟨g, 5, none⟩ a).setCell ⟨g, 6, none⟩ b).setCell ⟨g, 7, none⟩ c) g 43 #[v0, v1, v2, v3, v4, a, b, c, v8] ∧ Blk (((w.setCell ⟨g, 5, none⟩ a).setCell ⟨g, 6, none⟩ b).setCell ⟨g, 7, none⟩ c) (g + 1) 43 zer ∧
      Below w0.heap.size w0 (((w.setCell ⟨g, 5, none⟩ a).setCell ⟨g, 6, none⟩ b).setCell ⟨g, 7, none⟩ c) ∧ KeepB (fun t => TB t = true) w (((w.setCell ⟨g, 5, none⟩ a).setCell ⟨g, 6, none⟩ b).setCell ⟨g, 7, none⟩ c) := by
  have h1 := hK.set_ 5 a
  have h2 := h1.set_ 6 b
  have h3 := h2.set_ 7 c
  exact ⟨h3, own_far1 (own_far1 (own_far1 hZ a) b) c, own_below1 (own_below1 (own_below1 hB hg a) hg b) hg c, (own_keep1 hK a).trans ((own_keep1 h1 b).trans (own_keep1 h2 c))⟩
theorem blk_set9 {w : World} {g t : Nat} {a0 a1 a2 a3 a4 a5 a6 a7 a8 b0 b1 b2 b3 b4 b5 b6 b7 b8 : Value} (h : Blk w g t #[a0, a1, a2, a3, a4, a5, a6, a7, a8]) :
    Blk (((((((((w.setCell ⟨g, 0, none⟩ b0).setCell ⟨g, 1, none⟩ b1).setCell ⟨g, 2, none⟩ b2).setCell ⟨g, 3, none⟩ b3).setCell ⟨g, 4, none⟩ b4).setCell ⟨g, 5, none⟩ b5).setCell ⟨g, 6, none⟩ b6).setCell ⟨g, 7, none⟩ b7).setCell ⟨g, 8, none⟩ b8) g t #[b0, b1, b2, b3, b4, b5, b6, b7, b8] := by
  have h0 : Blk _ g t #[b0, a1, a2, a3, a4, a5, a6, a7, a8] := h.set_ 0 b0
  have h1 : Blk _ g t #[b0, b1, a2, a3, a4, a5, a6, a7, a8] := h0.set_ 1 b1
  have h2 : Blk _ g t #[b0, b1, b2, a3, a4, a5, a6, a7, a8] := h1.set_ 2 b2
  have h3 : Blk _ g t #[b0, b1, b2, b3, a4, a5, a6, a7, a8] := h2.set_ 3 b3
  have h4 : Blk _ g t #[b0, b1, b2, b3, b4, a5, a6, a7, a8] := h3.set_ 4 b4
  have h5 : Blk _ g t #[b0, b1, b2, b3, b4, b5, a6, a7, a8] := h4.set_ 5 b5
  have h6 : Blk _ g t #[b0, b1, b2, b3, b4, b5, b6, a7, a8] := h5.set_ 6 b6
  have h7 : Blk _ g t #[b0, b1, b2, b3, b4, b5, b6, b7, a8] := h6.set_ 7 b7
  have h8 : Blk _ g t #[b0, b1, b2, b3, b4, b5, b6, b7, b8] := h7.set_ 8 b8
  exact h8
theorem own_set9 {w w0 : World} {g : Nat} {a0 a1 a2 a3 a4 a5 a6 a7 a8 b0 b1 b2 b3 b4 b5 b6 b7 b8 : Value} (h : Blk w g 43 #[a0, a1, a2, a3, a4, a5, a6, a7, a8]) (hB : Below w0.heap.size w0 w) (hg : w0.heap.size ≤ g) :
    Blk (((((((((w.setCell ⟨g, 0, none⟩ b0).setCell ⟨g, 1, none⟩ b1).setCell ⟨g, 2, none⟩ b2).setCell ⟨g, 3, none⟩ b3).setCell ⟨g, 4, none⟩ b4).setCell ⟨g, 5, none⟩ b5).setCell ⟨g, 6, none⟩ b6).setCell ⟨g, 7, none⟩ b7).setCell ⟨g, 8, none⟩ b8) g 43 #[b0, b1, b2, b3, b4, b5, b6, b7, b8] ∧ Below w0.heap.size w0 (((((((((w.setCell ⟨g, 0, none⟩ b0).setCell ⟨g, 1, none⟩ b1).setCell ⟨g, 2, none⟩ b2).setCell ⟨g, 3, none⟩ b3).setCell ⟨g, 4, none⟩ b4).setCell ⟨g, 5, none⟩ b5).setCell ⟨g, 6, none⟩ b6).setCell ⟨g, 7, none⟩ b7).setCell ⟨g, 8, none⟩ b8) ∧ KeepB (fun t => TB t = true) w (((((((((w.setCell ⟨g, 0, none⟩ b0).setCell ⟨g, 1, none⟩ b1).setCell ⟨g, 2, none⟩ b2).setCell ⟨g, 3, none⟩ b3).setCell ⟨g, 4, none⟩ b4).setCell ⟨g, 5, none⟩ b5).setCell ⟨g, 6, none⟩ b6).setCell ⟨g, 7, none⟩ b7).setCell ⟨g, 8, none⟩ b8) := by
  have h0 : Blk _ g 43 #[b0, a1, a2, a3, a4, a5, a6, a7, a8] := h.set_ 0 b0
  have k0 := own_keep1 (i := 0) h b0
  have B0 := own_below1 (g := g) (i := 0) hB hg b0
  have h1 : Blk _ g 43 #[b0, b1, a2, a3, a4, a5, a6, a7, a8] := h0.set_ 1 b1
  have k1 := own_keep1 (i := 1) h0 b1
  have B1 := own_below1 (g := g) (i := 1) B0 hg b1
  have h2 : Blk _ g 43 #[b0, b1, b2, a3, a4, a5, a6, a7, a8] := h1.set_ 2 b2
  have k2 := own_keep1 (i := 2) h1 b2
  have B2 := own_below1 (g := g) (i := 2) B1 hg b2
  have h3 : Blk _ g 43 #[b0, b1, b2, b3, a4, a5, a6, a7, a8] := h2.set_ 3 b3
  have k3 := own_keep1 (i := 3) h2 b3
  have B3 := own_below1 (g := g) (i := 3) B2 hg b3
  have h4 : Blk _ g 43 #[b0, b1, b2, b3, b4, a5, a6, a7, a8] := h3.set_ 4 b4
  have k4 := own_keep1 (i := 4) h3 b4
  have B4 := own_below1 (g := g) (i := 4) B3 hg b4
  have h5 : Blk _ g 43 #[b0, b1, b2, b3, b4, b5, a6, a7, a8] := h4.set_ 5 b5
  have k5 := own_keep1 (i := 5) h4 b5
  have B5 := own_below1 (g := g) (i := 5) B4 hg b5
  have h6 : Blk _ g 43 #[b0, b1, b2, b3, b4, b5, b6, a7, a8] := h5.set_ 6 b6
  have k6 := own_keep1 (i := 6) h5 b6
  have B6 := own_below1 (g := g) (i := 6) B5 hg b6
  have h7 : Blk _ g 43 #[b0, b1, b2, b3, b4, b5, b6, b7, a8] := h6.set_ 7 b7
  have k7 := own_keep1 (i := 7) h6 b7
  have B7 := own_below1 (g := g) (i := 7) B6 hg b7
  have h8 : Blk _ g 43 #[b0, b1, b2, b3, b4, b5, b6, b7, b8] := h7.set_ 8 b8
  have k8 := own_keep1 (i := 8) h7 b8
  have B8 := own_below1 (g := g) (i := 8) B7 hg b8
  exact ⟨h8, B8, k0.trans (k1.trans (k2.trans (k3.trans (k4.trans (k5.trans (k6.trans (k7.trans k8)))))))⟩
end Go.Proofs.YtaicidbopgnmfaaGreatDoor
namespace Go.Proofs.YtaicidbopgnmfaaGreatDoor
set_option linter.unusedSimpArgs false
set_option linter.unusedVariables false
open Go.RowKit
theorem ownE_keep1 {w : World} {g i : Nat} {cs : Array Value} (h : Blk w g 45 cs) (u : Value) : KeepB (fun t => TB t = true) w (w.setCell ⟨g, i, none⟩ u) :=
  KeepB.setCell (p := ⟨g, i, none⟩) h (show ¬ TB 45 = true by decide) u
theorem ownE_below1 {w w0 : World} {g i : Nat} (hB : Below w0.heap.size w0 w) (hg : w0.heap.size ≤ g) (u : Value) : Below w0.heap.size w0 (w.setCell ⟨g, i, none⟩ u) := hB.setCell (p := ⟨g, i, none⟩) hg u
theorem ownE_far1 {w : World} {g i t : Nat} {cs : Array Value} (h : Blk w (g + 1) t cs) (u : Value) : Blk (w.setCell ⟨g, i, none⟩ u) (g + 1) t cs := h.far (p := ⟨g, i, none⟩) (by show g + 1 ≠ g; omega) u
theorem ownE_set3a {w : World} {g : Nat} {v0 v1 v2 v3 v4 v5 v6 v7 v8 v9 v10 a b c : Value} (hK : Blk w g 45 #[v0, v1, v2, v3, v4, v5, v6, v7, v8, v9, v10]) (zer : Array Value) (hZ : Blk w (g + 1) 45 zer) {w0 : World} (hB : Below w0.heap.size w0 w) (hg : w0.heap.size ≤ g) :
    Blk (((w.setCell ⟨g, 2, none⟩ a).setCell ⟨g, 3, none⟩ b).setCell ⟨g, 4, none⟩ c) g 45 #[v0, v1, a, b, c, v5, v6, v7, v8, v9, v10] ∧ Blk (((w.setCell ⟨g, 2, none⟩ a).setCell ⟨g, 3, none⟩ b).setCell ⟨g, 4, none⟩ c) (g + 1) 45 zer ∧
      Below w0.heap.size w0 (((w.setCell ⟨g, 2, none⟩ a).setCell ⟨g, 3, none⟩ b).setCell ⟨g, 4, none⟩ c) ∧ KeepB (fun t => TB t = true) w (((w.setCell ⟨g, 2, none⟩ a).setCell ⟨g, 3, none⟩ b).setCell ⟨g, 4, none⟩ c) := by
  have h1 := hK.set_ 2 a
  have h2 := h1.set_ 3 b
  have h3 := h2.set_ 4 c
  exact ⟨h3, ownE_far1 (ownE_far1 (ownE_far1 hZ a) b) c, ownE_below1 (ownE_below1 (ownE_below1 hB hg a) hg b) hg c, (ownE_keep1 hK a).trans ((ownE_keep1 h1 b).trans (ownE_keep1 h2 c))⟩
theorem ownE_set3b {w : World} {g : Nat} {v0 v1 v2 v3 v4 v5 v6 v7 v8 v9 v10 a b c : Value} (hK : Blk w g 45 #[v0, v1, v2, v3, v4, v5, v6, v7, v8, v9, v10]) (zer : Array Value) (hZ : Blk w (g + 1) 45 zer) {w0 : World} (hB : Below w0.heap.size w0 w) (hg : w0.heap.size ≤ g) :
    Blk (((w.setCell ⟨g, 5, none⟩ a).setCell ⟨g, 6, none⟩ b).setCell ⟨g, 7, none⟩ c) g 45 #[v0, v1, v2, v3, v4, a, b, c, v8, v9, v10] ∧ Blk (((w.setCell ⟨g, 5, none⟩ a).setCell ⟨g, 6, none⟩ b).setCell ⟨g, 7, none⟩ c) (g + 1) 45 zer ∧
      Below w0.heap.size w0 (((w.setCell ⟨g, 5, none⟩ a).setCell ⟨g, 6, none⟩ b).setCell ⟨g, 7, none⟩ c) ∧ KeepB (fun t => TB t = true) w (((w.setCell ⟨g, 5, none⟩ a).setCell ⟨g, 6, none⟩ b).setCell ⟨g, 7, none⟩ c) := by
  have h1 := hK.set_ 5 a
  have h2 := h1.set_ 6 b
  have h3 := h2.set_ 7 c
  exact ⟨h3, ownE_far1 (ownE_far1 (ownE_far1 hZ a) b) c, ownE_below1 (ownE_below1 (ownE_below1 hB hg a) hg b) hg c, (ownE_keep1 hK a).trans ((ownE_keep1 h1 b).trans (ownE_keep1 h2 c))⟩
theorem own_set11 {w w0 : World} {g : Nat} {a0 a1 a2 a3 a4 a5 a6 a7 a8 a9 a10 b0 b1 b2 b3 b4 b5 b6 b7 b8 b9 b10 : Value} (h : Blk w g 45 #[a0, a1, a2, a3, a4, a5, a6, a7, a8, a9, a10]) (hB : Below w0.heap.size w0 w) (hg : w0.heap.size ≤ g) :
    Blk (((((((((((w.setCell ⟨g, 0, none⟩ b0).setCell ⟨g, 1, none⟩ b1).setCell ⟨g, 2, none⟩ b2).setCell ⟨g, 3, none⟩ b3).setCell ⟨g, 4, none⟩ b4).setCell ⟨g, 5, none⟩ b5).setCell ⟨g, 6, none⟩ b6).setCell ⟨g, 7, none⟩ b7).setCell ⟨g, 8, none⟩ b8).setCell ⟨g, 9, none⟩ b9).setCell ⟨g, 10, none⟩ b10) g 45 #[b0, b1, b2, b3, b4, b5, b6, b7, b8, b9, b10] ∧ Below w0.heap.size w0 (((((((((((w.setCell ⟨g, 0, none⟩ b0).setCell ⟨g, 1, none⟩ b1).setCell ⟨g, 2, none⟩ b2).setCell ⟨g, 3, none⟩ b3).setCell ⟨g, 4, none⟩ b4).setCell ⟨g, 5, none⟩ b5).setCell ⟨g, 6, none⟩ b6).setCell ⟨g, 7, none⟩ b7).setCell ⟨g, 8, none⟩ b8).setCell ⟨g, 9, none⟩ b9).setCell ⟨g, 10, none⟩ b10) ∧ KeepB (fun t => TB t = true) w (((((((((((w.setCell ⟨g, 0, none⟩ b0).setCell ⟨g, 1, none⟩ b1).setCell ⟨g, 2, none⟩ b2).setCell ⟨g, 3, none⟩ b3).setCell ⟨g, 4, none⟩ b4).setCell ⟨g, 5, none⟩ b5).setCell ⟨g, 6, none⟩ b6).setCell ⟨g, 7, none⟩ b7).setCell ⟨g, 8, none⟩ b8).setCell ⟨g, 9, none⟩ b9).setCell ⟨g, 10, none⟩ b10) := by
  have h0 : Blk _ g 45 #[b0, a1, a2, a3, a4, a5, a6, a7, a8, a9, a10] := h.set_ 0 b0
  have k0 := ownE_keep1 (i := 0) h b0
  have B0 := ownE_below1 (g := g) (i := 0) hB hg b0
  have h1 : Blk _ g 45 #[b0, b1, a2, a3, a4, a5, a6, a7, a8, a9, a10] := h0.set_ 1 b1
  have k1 := ownE_keep1 (i := 1) h0 b1
  have B1 := ownE_below1 (g := g) (i := 1) B0 hg b1
  have h2 : Blk _ g 45 #[b0, b1, b2, a3, a4, a5, a6, a7, a8, a9, a10] := h1.set_ 2 b2
  have k2 := ownE_keep1 (i := 2) h1 b2
  have B2 := ownE_below1 (g := g) (i := 2) B1 hg b2
  have h3 : Blk _ g 45 #[b0, b1, b2, b3, a4, a5, a6, a7, a8, a9, a10] := h2.set_ 3 b3
  have k3 := ownE_keep1 (i := 3) h2 b3
  have B3 := ownE_below1 (g := g) (i := 3) B2 hg b3
  have h4 : Blk _ g 45 #[b0, b1, b2, b3, b4, a5, a6, a7, a8, a9, a10] := h3.set_ 4 b4
  have k4 := ownE_keep1 (i := 4) h3 b4
  have B4 := ownE_below1 (g := g) (i := 4) B3 hg b4
  have h5 : Blk _ g 45 #[b0, b1, b2, b3, b4, b5, a6, a7, a8, a9, a10] := h4.set_ 5 b5
  have k5 := ownE_keep1 (i := 5) h4 b5
  have B5 := ownE_below1 (g := g) (i := 5) B4 hg b5
  have h6 : Blk _ g 45 #[b0, b1, b2, b3, b4, b5, b6, a7, a8, a9, a10] := h5.set_ 6 b6
  have k6 := ownE_keep1 (i := 6) h5 b6
  have B6 := ownE_below1 (g := g) (i := 6) B5 hg b6
  have h7 : Blk _ g 45 #[b0, b1, b2, b3, b4, b5, b6, b7, a8, a9, a10] := h6.set_ 7 b7
  have k7 := ownE_keep1 (i := 7) h6 b7
  have B7 := ownE_below1 (g := g) (i := 7) B6 hg b7
  have h8 : Blk _ g 45 #[b0, b1, b2, b3, b4, b5, b6, b7, b8, a9, a10] := h7.set_ 8 b8
  have k8 := ownE_keep1 (i := 8) h7 b8
  have B8 := ownE_below1 (g := g) (i := 8) B7 hg b8
  have h9 : Blk _ g 45 #[b0, b1, b2, b3, b4, b5, b6, b7, b8, b9, a10] := h8.set_ 9 b9
  have k9 := ownE_keep1 (i := 9) h8 b9
  have B9 := ownE_below1 (g := g) (i := 9) B8 hg b9
  have h10 : Blk _ g 45 #[b0, b1, b2, b3, b4, b5, b6, b7, b8, b9, b10] := h9.set_ 10 b10
  have k10 := ownE_keep1 (i := 10) h9 b10
  have B10 := ownE_below1 (g := g) (i := 10) B9 hg b10
  exact ⟨h10, B10, k0.trans (k1.trans (k2.trans (k3.trans (k4.trans (k5.trans (k6.trans (k7.trans (k8.trans (k9.trans k10)))))))))⟩
end Go.Proofs.YtaicidbopgnmfaaGreatDoor
namespace Go.Proofs.YtaicidbopgnmfaaGreatDoor
set_option linter.unusedSimpArgs false
set_option linter.unusedVariables false

def mis (listed : Array Bool) : Nat := listed.toList.countP fun b => !b
theorem mis_set {listed : Array Bool} {i : Nat} (h : listed.getD i true = false) : mis listed = mis (listed.setIfInBounds i true) + 1 := by
  obtain ⟨l⟩ := listed
  have hi : i < l.length := by
    rcases Nat.lt_or_ge i l.length with h1 | h1
    · exact h1
    · simp [h1] at h
  have hl : l[i] = false := by simpa [hi] using h
  unfold mis
  simp only [List.setIfInBounds_toArray]
  clear h
  induction l generalizing i with
  | nil => simp at hi
  | cons b l ih =>
    cases i with
    | zero =>
      have : b = false := hl
      subst this
      simp
    | succ i =>
      have := ih (i := i) (by simpa using hi) (by simpa using hl)
      simp only [List.set_cons_succ, List.countP_cons]
      omega
section
variable {P : Program} {ops : Array Oper} {Q : Exit → Act → World → Prop} {md : Region.Mode} {J : Array Bool → Act → World → Prop}
theorem wpAny_inv (hs : ∀ listed a w, J listed a w → (∀ f, wpAny P md ops Q (f + mis listed) listed a w) ∨ (Region.ready md ops listed ≠ [] ∧ ∀ i ∈ Region.ready md ops listed, wpOp P ops Q i (J (listed.setIfInBounds i true)) a w)) :
    ∀ listed a w, J listed a w → ∀ f, wpAny P md ops Q (f + mis listed) listed a w := by
  have key : ∀ m listed a w, mis listed ≤ m → J listed a w → ∀ f, wpAny P md ops Q (f + mis listed) listed a w := by
    intro m
    induction m with
    | zero =>
      intro listed a w hm hJ f
      rcases hs listed a w hJ with h | ⟨h1, _⟩
      · exact h f
      · obtain ⟨i, hi⟩ := List.exists_mem_of_ne_nil _ h1
        have := mis_set (mem_ready.1 hi).1
        omega
    | succ m ih =>
      intro listed a w hm hJ f
      rcases hs listed a w hJ with h | ⟨h1, h2⟩
      · exact h f
      · obtain ⟨i0, hi0⟩ := List.exists_mem_of_ne_nil _ h1
        have h0 := mis_set (mem_ready.1 hi0).1
        rw [h0]
        refine ⟨fun h => absurd h h1, fun i hi => ?_⟩
        have h3 := mis_set (mem_ready.1 hi).1
        refine wpOp_mono (fun a' w' hJ' => ?_) (h2 i hi)
        have h4 := ih (listed.setIfInBounds i true) a' w' (by omega) hJ' f
        rw [show mis (listed.setIfInBounds i0 true) = mis (listed.setIfInBounds i true) from by omega]
        exact h4
  exact fun listed a w hJ f => key _ listed a w (Nat.le_refl _) hJ f
/-- where nothing may come up, all is listed: each operation waits for earlier ones alone -/
theorem ready_all (hb : (List.range ops.size).all (fun j => match ops[j]? with | some o => o.after.all (fun e => !Region.binds md e || decide (e.on < j)) | none => true) = true) {listed : Array Bool} (hr : Region.ready md ops listed = []) : ∀ i, i < ops.size → listed.getD i true = true := by
  intro i
  induction i using Nat.strongRecOn with
  | _ i ih =>
    intro hi
    rcases h : listed.getD i true
    · exfalso
      have ho : ops[i]? = some ops[i] := Array.getElem?_eq_getElem hi
      have h1 := List.all_eq_true.1 hb i (List.mem_range.2 hi)
      simp only [ho] at h1
      have hm : i ∈ Region.ready md ops listed := mem_ready.2 ⟨h, _, ho, fun e he hbe => by
        have h2 := Array.all_eq_true_iff_forall_mem.1 h1 e he
        have h3 : e.on < i := by simpa [hbe] using h2
        have h4 := ih e.on h3 (by omega)
        have hlt : e.on < listed.size := by
          have hil : i < listed.size := by
            rcases Nat.lt_or_ge i listed.size with h5 | h5
            · exact h5
            · simp [h5] at h
          omega
        simpa [hlt] using h4⟩
      rw [hr] at hm
      cases hm
    · rfl
/-- an operation that yields its value in whatever world, taken first: the operations written out -/
theorem take_l {l : List Oper} {i : Nat} {oi : Oper} {v : Value} {fuel : Nat} {listed : Array Bool} {a : Act} {w : World} (hi : l[i]? = some oi)
    (hs : Region.noSelect l.toArray = true) (hf : Region.free md l.toArray listed i = true) (hr : (Region.ready md l.toArray listed).contains i = true)
    (hQ : ∀ c a w, Q (.panic c) (a.put oi.dst v) w → Q (.panic c) a w) (hy : Yields P l.toArray oi v a)
    (h : wpAny P md l.toArray Q fuel (listed.setIfInBounds i true) (a.put oi.dst v) w) : wpAny P md l.toArray Q (fuel + 1) listed a w :=
  wpAny_take (by simpa using hi) hs hf hr hQ hy h
/-- one operation that may come up -/
theorem step_l {l : List Oper} {i : Nat} {o : Oper} {K : Act → World → Prop} {a : Act} {w : World} (ho : l[i]? = some o)
    (h : ∀ K' : Act → World → Prop, (∀ a w, K a w → K' a w) → if Region.wanted o (yielded l.toArray a.tmps) = true then Oper.wp P o a w K' Q else K' (a.put o.dst undef) w) : wpOp P l.toArray Q i K a w :=
  wpOp_step (by simpa using ho) h
theorem region_l {l : List Oper} {id n : Nat} {listed : Array Bool} {a : Act} {w : World} (hm : P.follows .mixedOrders = true) (hn : l.length = n) (hl : Array.replicate n false = listed)
    (h : wpAny P .any l.toArray Q n listed a w.drew) : (Code.region id l.toArray true).wp P Q a w := by
  subst hl hn
  exact wp_region_any hm (by simpa using h)
/-- what an operation that may come up has waited for -/
theorem dep_l {l : List Oper} {i k : Nat} {o : Oper} {listed : Array Bool} (hi : i ∈ Region.ready md l.toArray listed) (ho : l[i]? = some o) (hk : (o.after.any fun e => Region.binds md e && e.on == k) = true) : listed.getD k false = true := by
  obtain ⟨_, o', ho', hd⟩ := mem_ready.1 hi
  obtain rfl : o = o' := by rw [List.getElem?_toArray, ho] at ho'; exact Option.some.inj ho'
  obtain ⟨e, he, hb⟩ := Array.any_eq_true'.1 hk
  simp only [Bool.and_eq_true, beq_iff_eq] at hb
  have := hd e he hb.1
  rwa [hb.2] at this
theorem lt_l {l : List Oper} {i n : Nat} {listed : Array Bool} (hn : l.length = n) (hi : i ∈ Region.ready md l.toArray listed) : i < n := by
  obtain ⟨_, o', ho', _⟩ := mem_ready.1 hi
  have := (Array.getElem?_eq_some_iff.1 ho').1
  simpa [hn] using this
theorem own_l {i : Nat} {listed : Array Bool} (hi : i ∈ Region.ready md ops listed) : listed.getD i true = false := (mem_ready.1 hi).1
theorem inv_l {n : Nat} {listed : Array Bool} {a : Act} {w : World} (hJ : J listed a w) (hn : mis listed = n)
    (hs : ∀ listed a w, J listed a w → (∀ f, wpAny P md ops Q (f + mis listed) listed a w) ∨ (Region.ready md ops listed ≠ [] ∧ ∀ i ∈ Region.ready md ops listed, wpOp P ops Q i (J (listed.setIfInBounds i true)) a w)) : wpAny P md ops Q n listed a w := by
  have := wpAny_inv hs listed a w hJ 0
  rwa [hn, Nat.zero_add] at this
end
end Go.Proofs.YtaicidbopgnmfaaGreatDoor
