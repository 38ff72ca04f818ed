/- The finder's from: its contract. -/
import Derived.Test.YtodhianmaogfpaaScC
import Derived.Test.YtodhianmaogfpaaTjF
namespace Go.Proofs.Ytodhianmaogfpaa
set_option linter.unusedSimpArgs false
set_option linter.unusedVariables false
open Go.RowKit
attribute [local go_sem ↓] Go.wp_at_zero Go.wp_at_succ
def RFrm (cs : List Value) (f : Nat × Nat) : Prop := cs = [.int .i64 f.1, .int .i64 f.2]
abbrev Frs (w : World) (B : Nat) (v : Value) (t : List (Nat × Nat)) : Prop := Own w B 54 2 RFrm v t
theorem infFrm : (Try.prog.info? 54).map (fun i => (i.zero, i.size, i.bytes)) = some (some (.agg #[.int .i64 0, .int .i64 0]), 2, 16) := by kernel_rfl
section
variable {w0 w w' : World} {B fb n : Nat} {gv : Value} {b0 b1 b2 b3 : Nat} {s s' : TS} {sv sv' tv : Value} {t : List (Nat × Nat)} {g m cap : Nat}
theorem Frs.cells (h : Frs w B (.slice (some ⟨g, 0, none⟩) m cap) t) {i v e : Nat} (hx : t[i]? = some (v, e)) : w.cell? ⟨g, i * 2, none⟩ = some (.int .i64 v) ∧ w.cell? ⟨g, i * 2 + 1, none⟩ = some (.int .i64 e) := by
  obtain ⟨A, c, hv, hs⟩ := h.slc (z := 0) (by simp)
  injection hv with hv
  subst hv
  obtain ⟨y, b, o, cs, hy, hA, rfl, _, hr⟩ := hs.at_ (List.getElem?_eq_some_iff.1 hx).1
  injection hA with hA
  injection hA with h1 h2
  subst h1 h2
  obtain rfl : y = (v, e) := Option.some.inj (hy.symm.trans hx)
  have := range2 hr
  simpa using this
theorem Frs.far (h : Frs w B tv t) {B' : Nat} {l : List Nat} (hr : Row w B' (.slice (some ⟨g, 0, none⟩) m cap) l) (i : Nat) (u : Value) : Frs (w.setCell ⟨g, i, none⟩ u) B tv t :=
  Own.setCell h (p := ⟨g, i, none⟩) (fun cur hc => by
    obtain ⟨_, cur', h2⟩ := Own.base hr (g := g) rfl
    rw [show (⟨g, i, none⟩ : Addr).block = g from rfl, h2] at hc
    injection hc with hc
    injection hc with _ hc
    exact absurd hc (by decide)) u
theorem Frs.next' (h : Frs w B tv t) (hk : KeepB TF w w') : Frs w' B tv t := hk.own h (by unfold TF; decide)
theorem Fin.trans (h1 : Fin w0 w B fb n gv b0 b1 b2 b3 s sv) (h2 : Fin w w' B fb n gv b0 b1 b2 b3 s' sv') : Fin w0 w' B fb n gv b0 b1 b2 b3 s' sv' := ⟨h2.box, h2.fam, h2.base, h1.below.trans h2.below, h1.keep.trans h2.keep, h2.size⟩
theorem Fin.grownF (h : Fin w0 w w0.heap.size fb n gv b0 b1 b2 b3 s sv) (ho : Frs w w0.heap.size tv t) (hg : w.grownBy w' tv.ownBlock) : Fin w0 w' w0.heap.size fb n gv b0 b1 b2 b3 s sv :=
  ⟨Own.blk ho h.box (by decide) hg, h.fam.keep (T := fun t => t = 3) (Own.keep ho hg (by decide)) rfl, h.base, Own.below ho h.below h.size hg, KeepB.of_below (Own.below ho h.below h.size hg), Nat.le_trans h.size hg.size⟩
theorem Fin.setF (h : Fin w0 w w0.heap.size fb n gv b0 b1 b2 b3 s sv) (ho : Frs w w0.heap.size (.slice (some ⟨g, 0, none⟩) m cap) t) (i : Nat) (u : Value) : Fin w0 (w.setCell ⟨g, i, none⟩ u) w0.heap.size fb n gv b0 b1 b2 b3 s sv := by
  obtain ⟨hb, cur, hc⟩ := Own.base ho (g := g) rfl
  have hbl : Below w0.heap.size w0 (w.setCell ⟨g, i, none⟩ u) := h.below.setCell hb u
  refine ⟨h.box.far (p := ⟨g, i, none⟩) ?_ u, h.fam.other (fun cur' h2 => ?_) u, h.base, hbl, KeepB.of_below hbl, by have := h.size; simpa [World.setCell] using this⟩
  · intro e
    have hbx := h.box
    unfold Blk at hbx
    rw [show fb = g from e, hc] at hbx
    injection hbx with hbx
    injection hbx with _ hbx
    exact absurd hbx (by decide)
  · rw [show (⟨g, i, none⟩ : Addr).block = g from rfl, hc] at h2
    injection h2 with h2
    injection h2 with _ h2
    exact absurd h2 (by decide)
theorem Frs.setEdge {v e : Nat} (ho : Frs w B (.slice (some ⟨g, 0, none⟩) m cap) (t ++ [(v, e)])) (e' : Nat) : Frs (w.setCell ⟨g, t.length * 2 + 1, none⟩ (.int .i64 e')) B (.slice (some ⟨g, 0, none⟩) m cap) (t ++ [(v, e')]) := by
  have := Own.set (i := t.length) (j := 1) (x := (v, e)) (y := (v, e')) (u := .int .i64 e') ho (by simp) (by omega) (fun cs hcs => by rw [hcs]; rfl)
  simpa using this
theorem Fin.ne (h : Fin w0 w B fb n gv b0 b1 b2 b3 s sv) {B' : Nat} (ho : Frs w B' (.slice (some ⟨g, 0, none⟩) m cap) t) : g ≠ fb ∧ g ≠ b0 ∧ g ≠ b1 ∧ g ≠ b2 := by
  obtain ⟨_, cur, hc⟩ := Own.base ho (g := g) rfl
  have key : ∀ k b, k < 4 → finV n b0 b1 b2 b3 sv k = .slice (some ⟨b, 0, none⟩) n n → g ≠ b := by
    intro k b hk hv e
    subst e
    have hr := h.row (k := k) (by omega)
    rw [hv] at hr
    obtain ⟨_, cur', h2⟩ := Own.base hr (g := g) rfl
    rw [hc] at h2
    injection h2 with h2
    injection h2 with _ h2
    exact absurd h2 (by decide)
  refine ⟨fun e => ?_, key 0 b0 (by omega) rfl, key 1 b1 (by omega) rfl, key 2 b2 (by omega) rfl⟩
  have hbx := h.box
  unfold Blk at hbx
  rw [← e, hc] at hbx
  injection hbx with hbx
  injection hbx with _ hbx
  exact absurd hbx (by decide)
end
variable {w0 : World} {fb n gb : Nat} {b0 b1 b2 b3 : Nat} {adj : Nat → List Nat}
/-- what holds while a node is gone over from -/
def FrRel (w0 : World) (fb n gb b0 b1 b2 b3 : Nat) (adj : Nat → List Nat) (s0 : TS) (root : Nat) (k : Nat) (tv : Value) (wr : World) : Prop :=
  ∃ (s : TS) (sv : Value), k = s.mu n adj ∧ TI n adj s ∧ Bd n s ∧ Fin w0 wr w0.heap.size fb n (.slice (some ⟨gb, 0, none⟩) n n) b0 b1 b2 b3 s sv ∧ Frs wr w0.heap.size tv s.todo ∧ 0 < s.seen root ∧ (∀ x, 0 < s0.seen x → 0 < s.seen x) ∧ s.mu n adj ≤ s0.mu n adj
theorem upd_pos {f : Nat → Nat} {w t x : Nat} (ht : 0 < t) (h : 0 < f x) : 0 < upd f w t x := by
  unfold upd
  split
  · exact ht
  · exact h
theorem Own.capB {α : Type} {w : World} {B : Nat} {e : TypeId} {k : Nat} {R : List Value → α → Prop} {g n cap : Nat} {l : List α} (h : Own w B e k R (.slice (some ⟨g, 0, none⟩) n cap) l) : l.length ≤ cap := by
  obtain ⟨css, _, _, _, ho⟩ := h
  rcases ho with ⟨hv, _⟩ | ⟨_, _, _, hv, _, _, h1, h2, _⟩
  · cases hv
  · injection hv with e1 e2 e3
    subst e3
    exact h1
theorem own_formF {w : World} {B : Nat} {v : Value} (h : Frs w B v []) : (v = .slice none 0 0 ∧ True) ∨ ∃ g cap, v = .slice (some ⟨g, 0, none⟩) 0 cap := by
  obtain ⟨css, hl, hR, hlen, ho⟩ := h
  rcases ho with ⟨rfl, _⟩ | ⟨g, cap, cur, rfl, _⟩
  · exact .inl ⟨rfl, trivial⟩
  · exact .inr ⟨g, cap, rfl⟩
set_option maxRecDepth 100000 in
set_option maxHeartbeats 8000000 in
theorem from_any (w : World) (s0 : TS) (sv0 : Value) (root : Nat) (hG : Gph w0 gb n adj) (h : Fin w0 w w0.heap.size fb n (.slice (some ⟨gb, 0, none⟩) n n) b0 b1 b2 b3 s0 sv0) (hI : TI n adj s0) (hB : Bd n s0) (ht0 : s0.todo = []) (hr : root < n) (hr0 : s0.seen root = 0) (hn : n ≤ 2000) (hmu : s0.mu n adj ≤ 1000000) :
    Calls Try.prog 20 #[.pointer (some ⟨fb, 0, none⟩), .int .i64 root] w fun e w' => e = .returned (.tuple #[]) ∧ ∃ (s : TS) (sv : Value), Fin w0 w' w0.heap.size fb n (.slice (some ⟨gb, 0, none⟩) n n) b0 b1 b2 b3 s sv ∧ TI n adj s ∧ Bd n s ∧ s.todo = [] ∧ 0 < s.seen root ∧ (∀ x, 0 < s0.seen x → 0 < s.seen x) ∧ s.mu n adj ≤ s0.mu n adj := by
  obtain ⟨GA, GC, hGB, hGR⟩ := hG
  have HGB := Lib.hid hGB
  have HGR := Lib.hid hGR
  have H := Lib.hid h
  have hst0 : s0.stack.length ≤ 2000 := by have := hB.1; have := hB.2; omega
  have htm0 : s0.time ≤ 2000 := by have := hB.2; omega
  have HS1 := Lib.hid (hI.meet hr hr0 (by rw [ht0]; simp))
  have HB1 := Lib.hid (show Bd n (s0.meet root) from by
    have h1 := uns_upd (n := n) (seen := s0.seen) (t := s0.time + 1) hr hr0 (by omega)
    refine ⟨?_, ?_⟩
    · have := hB.1; simp only [TS.meet, List.length_append, List.length_cons, List.length_nil]; omega
    · have := hB.2; simp only [TS.meet]; omega)
  have HM1 := Lib.hid (show (s0.meet root).mu n adj ≤ s0.mu n adj from by
    unfold TS.mu
    simp only [TS.meet, ht0, List.nil_append, muT_cons, muT_nil]
    have := muN_upd (n := n) (adj := adj) (seen := s0.seen) (t := s0.time + 1) hr hr0 (by omega)
    omega)
  have HTD := Lib.hid (show (s0.meet root).todo = [(root, 0)] by simp [TS.meet, ht0])
  have HSN := Lib.hid (show 0 < (s0.meet root).seen root by simp [TS.meet, upd_at])
  have HMO := Lib.hid (show ∀ x, 0 < s0.seen x → 0 < (s0.meet root).seen x from fun x hx => upd_pos (by omega) hx)
  clear hGB hGR h hI hB hr0 ht0
  go_enter Try.func20, Try.ntmps20
  go_wp2_with fail
  refine (meet_any (w0 := w) w s0 sv0 root H.out.rebase hr (by omega) (by omega) (by omega)).mono ?_
  rintro e w1 ⟨rfl, sv1, hF1⟩
  have HF1 := Lib.hid (H.out.trans hF1)
  clear hF1 H hst0 htm0
  go_wp2
  go_loopg [4] ((s0.meet root).mu n adj) (fun k tv wr => FrRel w0 fb n gb b0 b1 b2 b3 adj s0 root k tv wr)
  case atStart =>
    refine ⟨s0.meet root, sv1, rfl, HS1.out, HB1.out, HF1.out.alloc _, ?_, HSN.out, HMO.out, HM1.out⟩
    rw [HTD.out]
    refine ⟨[[.int .i64 root, .int .i64 0]], rfl, fun i cs x h1 h2 => ?_, by simp, .inr ⟨w1.heap.size, 1, #[.int .i64 root, .int .i64 0], rfl, HF1.out.size, heap_alloc_new w1 _, by simp, by unfold maxLen; omega, by simp, by simp⟩⟩
    rcases i with _ | i
    · simp at h1 h2; subst h1 h2; exact ⟨rfl, rfl⟩
    · simp at h1
  case round =>
    clear HS1 HB1 HM1 HTD HSN HMO HF1
    obtain ⟨s, sv, hk, hI, hbd, hF, hT, hsr, hmo, hml⟩ := hrel
    have HI := Lib.hid hI
    have HBD := Lib.hid hbd
    have HRT := Lib.hid hsr
    have HMO := Lib.hid hmo
    have HMU := Lib.hid hml
    have HK := Lib.hid hk
    have hstl : s.stack.length ≤ 2000 := by have := hbd.1; have := hbd.2; omega
    have hstm : s.time ≤ 2000 := by have := hbd.2; omega
    have hcnt : s.cnt ≤ 2000 := by have := hbd.1; have := hbd.2; omega
    have htl : s.todo.length ≤ 1000000 := by have := todo_mu adj s.todo; unfold TS.mu at hml hmu; omega
    clear hsr hmo hml hk hI hbd
    rcases List.eq_nil_or_concat s.todo with htd | ⟨t, f, htd⟩
    · rw [htd] at hT
      rcases own_formF hT with ⟨rfl, _⟩ | ⟨g, cap, rfl⟩
      all_goals
        have HF := Lib.hid hF
        have HTD := Lib.hid htd
        clear hF hT htd
        go_wp2
        go_end0
        exact ⟨rfl, s, sv, HF.out, HI.out, HBD.out, HTD.out, HRT.out, HMO.out, HMU.out⟩
    · obtain ⟨v, e⟩ := f
      obtain ⟨g, cap, rfl, _⟩ := Own.form hT (by rw [htd]; simp)
      rw [List.concat_eq_append] at htd
      have hl1 : s.todo.length = t.length + 1 := by rw [htd]; simp
      rw [hl1] at hT ⊢
      rw [htd] at hT
      obtain ⟨⟨hvs, hvn⟩, hel, _⟩ := HI.out.last htd
      obtain ⟨k0, k1⟩ := Frs.cells hT (i := t.length) (v := v) (e := e) (by simp)
      obtain ⟨hne1, hne2, hne3, hne4⟩ := hF.ne hT
      have HTD := Lib.hid htd
      have H := Lib.hid hF
      have HT := Lib.hid hT
      have hgc := Kept.of_below hF.below _ _ ((HGB.out.cell v).trans (arr_get hvn))
      clear hF hT htd
      have ht0 : (0 : Int) ≤ (t.length : Int) := Int.natCast_nonneg _
      have ht1 : (t.length : Int) < (t.length : Int) + 1 := by omega
      have ht2 : decide ((0 : Int) < (t.length : Int) + 1) = true := decide_eq_true (by omega)
      have htt : ((t.length : Int)).toNat = t.length := Int.toNat_natCast _
      have hv0 : (0 : Int) ≤ (v : Int) := Int.natCast_nonneg _
      have hv1 : (v : Int) < (n : Int) := by omega
      have hvt : ((v : Int)).toNat = v := Int.toNat_natCast _
      go_upto_region 5 with (fail)
      clear k0
      by_cases he : e < (adj v).length
      · have hd5 : decide ((e : Int) < ((adj v).length : Int)) = true := decide_eq_true (by omega)
        have HC := Lib.hid (show (fun w' : World => w'.cell? ⟨g, t.length * 2 + 1, none⟩ = some (.int .i64 (e : Nat)) ∧ w'.cell? ⟨fb, 0, none⟩ = some (.slice (some ⟨gb, 0, none⟩) n n) ∧ w'.cell? ⟨gb, v, none⟩ = some (.slice (GA v) (adj v).length (GC v))) wr.drew from ⟨k1, H.out.cells.1, hgc⟩)
        have H := Lib.hid H.out.drew
        have HT := Lib.hid (Own.drew HT.out)
        clear k1 hgc
        refine regionC_l (fun w' : World => w'.cell? ⟨g, t.length * 2 + 1, none⟩ = some (.int .i64 (e : Nat)) ∧ w'.cell? ⟨fb, 0, none⟩ = some (.slice (some ⟨gb, 0, none⟩) n n) ∧ w'.cell? ⟨gb, v, none⟩ = some (.slice (GA v) (adj v).length (GC v))) (fun j => true) (n := 13) (listed := #[false, false, false, false, false, false, false, false, false, false, false, false, false]) (by kernel_rfl) rfl rfl ?_
        generalize wr.drew = W2 at H HT HC ⊢
        (refine pure_l (i := 0) (v := _) rfl (by decide +kernel) (by decide +kernel) (by decide +kernel) (by decide +kernel) (fun _ _ _ h => h) (by kernel_rfl) (by (intro w; go_simp; first | done | with_reducible rfl)) HC.out ?_; try simp only [Act.put, List.setIfInBounds_toArray, List.set_cons_zero, List.set_cons_succ])
        (refine pure_l (i := 1) (v := _) rfl (by decide +kernel) (by decide +kernel) (by decide +kernel) (by decide +kernel) (fun _ _ _ h => h) (by kernel_rfl) (by (intro w; go_simp; first | done | with_reducible rfl)) HC.out ?_; try simp only [Act.put, List.setIfInBounds_toArray, List.set_cons_zero, List.set_cons_succ])
        (refine pure_l (i := 2) (v := _) rfl (by decide +kernel) (by decide +kernel) (by decide +kernel) (by decide +kernel) (fun _ _ _ h => h) (by kernel_rfl) (by (intro w; go_simp; first | done | with_reducible rfl)) HC.out ?_; try simp only [Act.put, List.setIfInBounds_toArray, List.set_cons_zero, List.set_cons_succ])
        (refine pure_l (i := 4) (v := _) rfl (by decide +kernel) (by decide +kernel) (by decide +kernel) (by decide +kernel) (fun _ _ _ h => h) (by kernel_rfl) (by (intro w; go_simp; first | done | with_reducible rfl)) HC.out ?_; try simp only [Act.put, List.setIfInBounds_toArray, List.set_cons_zero, List.set_cons_succ])
        (refine pure_l (i := 5) (v := _) rfl (by decide +kernel) (by decide +kernel) (by decide +kernel) (by decide +kernel) (fun _ _ _ h => h) (by kernel_rfl) (by (intro w; go_simp; first | done | with_reducible rfl)) HC.out ?_; try simp only [Act.put, List.setIfInBounds_toArray, List.set_cons_zero, List.set_cons_succ])
        (refine pure_l (i := 6) (v := _) rfl (by decide +kernel) (by decide +kernel) (by decide +kernel) (by decide +kernel) (fun _ _ _ h => h) (by kernel_rfl) (by (intro w; go_simp; first | done | with_reducible rfl)) HC.out ?_; try simp only [Act.put, List.setIfInBounds_toArray, List.set_cons_zero, List.set_cons_succ])
        (refine pure_l (i := 8) (v := _) rfl (by decide +kernel) (by decide +kernel) (by decide +kernel) (by decide +kernel) (fun _ _ _ h => h) (by kernel_rfl) (by (intro w; go_simp; first | done | with_reducible rfl)) HC.out ?_; try simp only [Act.put, List.setIfInBounds_toArray, List.set_cons_zero, List.set_cons_succ])
        (refine load_l (i := 3) (v := _) rfl (by decide +kernel) (by decide +kernel) (by decide +kernel) (by decide +kernel) (fun _ _ _ h => h) ⟨by kernel_rfl, by (rintro w ⟨c0, c1, c2⟩; go_simp; first | done | with_reducible rfl)⟩ HC.out ?_; try simp only [Act.put, List.setIfInBounds_toArray, List.set_cons_zero, List.set_cons_succ])
        (refine load_l (i := 7) (v := _) rfl (by decide +kernel) (by decide +kernel) (by decide +kernel) (by decide +kernel) (fun _ _ _ h => h) ⟨by kernel_rfl, by (rintro w ⟨c0, c1, c2⟩; go_simp; first | done | with_reducible rfl)⟩ HC.out ?_; try simp only [Act.put, List.setIfInBounds_toArray, List.set_cons_zero, List.set_cons_succ])
        (refine pure_l (i := 9) (v := _) rfl (by decide +kernel) (by decide +kernel) (by decide +kernel) (by decide +kernel) (fun _ _ _ h => h) (by kernel_rfl) (by (intro w; go_simp; first | done | with_reducible rfl)) HC.out ?_; try simp only [Act.put, List.setIfInBounds_toArray, List.set_cons_zero, List.set_cons_succ])
        (refine load_l (i := 10) (v := _) rfl (by decide +kernel) (by decide +kernel) (by decide +kernel) (by decide +kernel) (fun _ _ _ h => h) ⟨by kernel_rfl, by (rintro w ⟨c0, c1, c2⟩; go_simp; first | done | with_reducible rfl)⟩ HC.out ?_; try simp only [Act.put, List.setIfInBounds_toArray, List.set_cons_zero, List.set_cons_succ])
        (refine pure_l (i := 11) (v := _) rfl (by decide +kernel) (by decide +kernel) (by decide +kernel) (by decide +kernel) (fun _ _ _ h => h) (by kernel_rfl) (by (intro w; go_simp; first | done | with_reducible rfl)) HC.out ?_; try simp only [Act.put, List.setIfInBounds_toArray, List.set_cons_zero, List.set_cons_succ])
        (refine pure_l (i := 12) (v := _) rfl (by decide +kernel) (by decide +kernel) (by decide +kernel) (by decide +kernel) (fun _ _ _ h => h) (by kernel_rfl) (by (intro w; go_simp; first | done | with_reducible rfl)) HC.out ?_; try simp only [Act.put, List.setIfInBounds_toArray, List.set_cons_zero, List.set_cons_succ])
        refine done_l (by decide +kernel) ?_ _
        obtain ⟨w, bA, oA, hw, hGA, hwc0⟩ := Ints.at_ (HGR.out v hvn) he (Kept.of_below (show Below w0.heap.size w0 W2 from H.out.below))
        rw [hGA] at HC ⊢
        have hwn : w < n := HI.out.adj_lt v w (List.mem_of_getElem? hw)
        have HW := Lib.hid hw
        clear hw
        have he0 : (0 : Int) ≤ (e : Int) := Int.natCast_nonneg _
        have he1 : (e : Int) < ((adj v).length : Int) := by omega
        have het : ((e : Int)).toNat = e := Int.toNat_natCast _
        have hw0 : (0 : Int) ≤ (w : Int) := Int.natCast_nonneg _
        have hw1 : (w : Int) < (n : Int) := by omega
        have hwt : ((w : Int)).toNat = w := Int.toNat_natCast _
        go_upto_region 6 with (fail)
        have HC6 := HC
        clear HC
        have HC := Lib.hid (show (fun w' : World => w'.cell? ⟨g, t.length * 2 + 1, none⟩ = some (.int .i64 (e : Nat)) ∧ w'.cell? ⟨fb, 0, none⟩ = some (.slice (some ⟨gb, 0, none⟩) n n) ∧ w'.cell? ⟨gb, v, none⟩ = some (.slice (some ⟨bA, oA, none⟩) (adj v).length (GC v)) ∧ w'.cell? ⟨bA, oA + e, none⟩ = some (.int .i64 (w : Nat))) W2.drew from ⟨HC6.out.1, HC6.out.2.1, HC6.out.2.2, hwc0⟩)
        clear hwc0 HC6
        have H := Lib.hid H.out.drew
        have HT := Lib.hid (Own.drew HT.out)
        refine regionC_l (fun w' : World => w'.cell? ⟨g, t.length * 2 + 1, none⟩ = some (.int .i64 (e : Nat)) ∧ w'.cell? ⟨fb, 0, none⟩ = some (.slice (some ⟨gb, 0, none⟩) n n) ∧ w'.cell? ⟨gb, v, none⟩ = some (.slice (some ⟨bA, oA, none⟩) (adj v).length (GC v)) ∧ w'.cell? ⟨bA, oA + e, none⟩ = some (.int .i64 (w : Nat))) (fun j => true) (n := 14) (listed := #[false, false, false, false, false, false, false, false, false, false, false, false, false, false]) (by kernel_rfl) rfl rfl ?_
        generalize W2.drew = W3 at H HT HC ⊢
        (refine pure_l (i := 0) (v := _) rfl (by decide +kernel) (by decide +kernel) (by decide +kernel) (by decide +kernel) (fun _ _ _ h => h) (by kernel_rfl) (by (intro w; go_simp; first | done | with_reducible rfl)) HC.out ?_; try simp only [Act.put, List.setIfInBounds_toArray, List.set_cons_zero, List.set_cons_succ])
        (refine pure_l (i := 1) (v := _) rfl (by decide +kernel) (by decide +kernel) (by decide +kernel) (by decide +kernel) (fun _ _ _ h => h) (by kernel_rfl) (by (intro w; go_simp; first | done | with_reducible rfl)) HC.out ?_; try simp only [Act.put, List.setIfInBounds_toArray, List.set_cons_zero, List.set_cons_succ])
        (refine pure_l (i := 2) (v := _) rfl (by decide +kernel) (by decide +kernel) (by decide +kernel) (by decide +kernel) (fun _ _ _ h => h) (by kernel_rfl) (by (intro w; go_simp; first | done | with_reducible rfl)) HC.out ?_; try simp only [Act.put, List.setIfInBounds_toArray, List.set_cons_zero, List.set_cons_succ])
        (refine pure_l (i := 4) (v := _) rfl (by decide +kernel) (by decide +kernel) (by decide +kernel) (by decide +kernel) (fun _ _ _ h => h) (by kernel_rfl) (by (intro w; go_simp; first | done | with_reducible rfl)) HC.out ?_; try simp only [Act.put, List.setIfInBounds_toArray, List.set_cons_zero, List.set_cons_succ])
        (refine pure_l (i := 7) (v := _) rfl (by decide +kernel) (by decide +kernel) (by decide +kernel) (by decide +kernel) (fun _ _ _ h => h) (by kernel_rfl) (by (intro w; go_simp; first | done | with_reducible rfl)) HC.out ?_; try simp only [Act.put, List.setIfInBounds_toArray, List.set_cons_zero, List.set_cons_succ])
        (refine pure_l (i := 8) (v := _) rfl (by decide +kernel) (by decide +kernel) (by decide +kernel) (by decide +kernel) (fun _ _ _ h => h) (by kernel_rfl) (by (intro w; go_simp; first | done | with_reducible rfl)) HC.out ?_; try simp only [Act.put, List.setIfInBounds_toArray, List.set_cons_zero, List.set_cons_succ])
        (refine pure_l (i := 9) (v := _) rfl (by decide +kernel) (by decide +kernel) (by decide +kernel) (by decide +kernel) (fun _ _ _ h => h) (by kernel_rfl) (by (intro w; go_simp; first | done | with_reducible rfl)) HC.out ?_; try simp only [Act.put, List.setIfInBounds_toArray, List.set_cons_zero, List.set_cons_succ])
        (refine load_l (i := 3) (v := _) rfl (by decide +kernel) (by decide +kernel) (by decide +kernel) (by decide +kernel) (fun _ _ _ h => h) ⟨by kernel_rfl, by (rintro w ⟨c0, c1, c2, c3⟩; go_simp; first | done | with_reducible rfl)⟩ HC.out ?_; try simp only [Act.put, List.setIfInBounds_toArray, List.set_cons_zero, List.set_cons_succ])
        (refine load_l (i := 10) (v := _) rfl (by decide +kernel) (by decide +kernel) (by decide +kernel) (by decide +kernel) (fun _ _ _ h => h) ⟨by kernel_rfl, by (rintro w ⟨c0, c1, c2, c3⟩; go_simp; first | done | with_reducible rfl)⟩ HC.out ?_; try simp only [Act.put, List.setIfInBounds_toArray, List.set_cons_zero, List.set_cons_succ])
        (refine pure_l (i := 5) (v := _) rfl (by decide +kernel) (by decide +kernel) (by decide +kernel) (by decide +kernel) (fun _ _ _ h => h) (by kernel_rfl) (by (intro w; go_simp; first | done | with_reducible rfl)) HC.out ?_; try simp only [Act.put, List.setIfInBounds_toArray, List.set_cons_zero, List.set_cons_succ])
        (refine load_l (i := 6) (v := _) rfl (by decide +kernel) (by decide +kernel) (by decide +kernel) (by decide +kernel) (fun _ _ _ h => h) ⟨by kernel_rfl, by (rintro w ⟨c0, c1, c2, c3⟩; go_simp; first | done | with_reducible rfl)⟩ HC.out ?_; try simp only [Act.put, List.setIfInBounds_toArray, List.set_cons_zero, List.set_cons_succ])
        (refine pure_l (i := 11) (v := _) rfl (by decide +kernel) (by decide +kernel) (by decide +kernel) (by decide +kernel) (fun _ _ _ h => h) (by kernel_rfl) (by (intro w; go_simp; first | done | with_reducible rfl)) HC.out ?_; try simp only [Act.put, List.setIfInBounds_toArray, List.set_cons_zero, List.set_cons_succ])
        (refine load_l (i := 12) (v := _) rfl (by decide +kernel) (by decide +kernel) (by decide +kernel) (by decide +kernel) (fun _ _ _ h => h) ⟨by kernel_rfl, by (rintro w ⟨c0, c1, c2, c3⟩; go_simp; first | done | with_reducible rfl)⟩ HC.out ?_; try simp only [Act.put, List.setIfInBounds_toArray, List.set_cons_zero, List.set_cons_succ])
        (refine pure_l (i := 13) (v := _) rfl (by decide +kernel) (by decide +kernel) (by decide +kernel) (by decide +kernel) (fun _ _ _ h => h) (by kernel_rfl) (by (intro w; go_simp; first | done | with_reducible rfl)) HC.out ?_; try simp only [Act.put, List.setIfInBounds_toArray, List.set_cons_zero, List.set_cons_succ])
        refine done_l (by decide +kernel) ?_ _
        have k1 := HC.out.1
        have kf := Own.frz HT.out (t.length * 2 + 1)
        have kl := Own.sizeLt HT.out
        clear HC
        obtain ⟨c0, c1, c2, c3, c4, c5, c6, c7⟩ := H.out.cells
        have cs := H.out.seenAt hwn
        have cn := H.out.onAt hwn
        have hle2 : (e : Int) + 1 ≤ 9223372036854775807 := by have h1 := HGR.out v hvn; have h2 := h1.bd; omega
        have HT4 : Frs (World.setCell W3 ⟨g, t.length * 2 + 1, none⟩ (.int .i64 ((e : Int) + 1))) w0.heap.size _ (t ++ [(v, e + 1)]) := Frs.setEdge HT.out (e + 1)
        have H4 := H.out.setF HT.out (t.length * 2 + 1) (.int .i64 ((e : Int) + 1))
        by_cases hs0 : s.seen w = 0
        · have hsb : ((s.seen w : Int) == 0) = true := by rw [hs0]; rfl
          go_wp2_with fail
          generalize World.setCell W3 _ _ = W4 at H4 HT4 ⊢
          clear c0 c1 c2 c3 c4 c5 c6 c7 cs cn k1 kf kl H HT
          refine (meet_any (w0 := W4) W4 s sv w H4.rebase hwn (by omega) (by omega) (by omega)).mono ?_
          rintro e5 w5 ⟨rfl, sv5, hF5⟩
          have HT5 := Lib.hid (Frs.next' HT4 hF5.keep)
          have H5 := Lib.hid (H4.trans hF5)
          clear hF5 H4 HT4
          go_wp2_with (at_builtin; refine wpList_el2 (by rfl) _ _ 55 (by rfl) w0.heap.size 54 _ 2 16 Try.underlying55 infFrm rfl (by omega) RFrm _ (t ++ [(v, e + 1)]) (by rfl) (HT5.out.alloc _) (w, 0) [.int .i64 w, .int .i64 0] w5.heap.size 1 (by rfl) (blk_new1 _ _ _) rfl rfl (by simp [Value.oneCell']) (by simp; omega) (by omega) (by have := H5.out.size; simp; omega) ?_; intro g2 cap2 w6 ho6 hg6 hat6; have H6 := Lib.hid ((H5.out.alloc (.cells #[.int .i64 w, .int .i64 0] 54)).grownF (HT5.out.alloc _) hg6); have HT6 := Lib.hid ho6; clear ho6 hg6 hat6)
          obtain ⟨q1, q2, q3⟩ := HI.out.stepPush HTD.out HW.out hs0
          go_roundg (TS.mu n adj { s.meet w with todo := t ++ [(v, e + 1)] ++ [(w, 0)] })
          case measure => have := HK.out; omega
          case rel => exact ⟨_, _, rfl, q1, q3 HBD.out, H6.out.todo rfl rfl rfl rfl rfl rfl rfl, (by have h := HT6.out; rw [show (t ++ [(v, e + 1)]).length = t.length + 1 by simp] at h; exact h), upd_pos (by omega) HRT.out, fun x hx => upd_pos (by omega) (HMO.out x hx), by have := HMU.out; omega⟩
        · have hsb : ((s.seen w : Int) == 0) = false := by rw [beq_eq_false_iff_ne]; omega
          have hsp : 0 < s.seen w := by omega
          by_cases hon : w ∈ s.stack
          · have hob : ((s.on w : Int) == 1) = true := by rw [HI.out.on_iff w hwn, if_pos hon]; rfl
            go_upto_region 12 with (fail)
            generalize World.setCell W3 _ _ = W4 at H4 HT4 ⊢
            clear c0 c1 c2 c3 c4 c5 c6 c7 cs cn k1 kf kl H HT
            have H := Lib.hid H4.drew
            have HT := Lib.hid (Own.drew HT4)
            clear H4 HT4
            have HC := Lib.hid (show (fun w' : World => w'.cell? ⟨fb, 1, none⟩ = some (.slice (some ⟨b0, 0, none⟩) n n) ∧ w'.cell? ⟨fb, 2, none⟩ = some (.slice (some ⟨b1, 0, none⟩) n n) ∧ w'.cell? ⟨b1, v, none⟩ = some (.int .i64 (s.low v : Nat)) ∧ w'.cell? ⟨b0, w, none⟩ = some (.int .i64 (s.seen w : Nat))) W4.drew from ⟨H.out.cells.2.1, H.out.cells.2.2.1, H.out.lowAt hvn, H.out.seenAt hwn⟩)
            refine regionC_l (fun w' : World => w'.cell? ⟨fb, 1, none⟩ = some (.slice (some ⟨b0, 0, none⟩) n n) ∧ w'.cell? ⟨fb, 2, none⟩ = some (.slice (some ⟨b1, 0, none⟩) n n) ∧ w'.cell? ⟨b1, v, none⟩ = some (.int .i64 (s.low v : Nat)) ∧ w'.cell? ⟨b0, w, none⟩ = some (.int .i64 (s.seen w : Nat))) (fun j => j != 21) (n := 22) (listed := #[false, false, false, false, false, false, false, false, false, false, false, false, false, false, false, false, false, false, false, false, false, false]) (by kernel_rfl) rfl rfl ?_
            generalize W4.drew = W5 at H HT HC ⊢
            (refine pure_l (i := 0) (v := _) rfl (by decide +kernel) (by decide +kernel) (by decide +kernel) (by decide +kernel) (fun _ _ _ h => h) (by kernel_rfl) (by (intro w; go_simp; first | done | with_reducible rfl)) HC.out ?_; try simp only [Act.put, List.setIfInBounds_toArray, List.set_cons_zero, List.set_cons_succ])
            (refine pure_l (i := 1) (v := _) rfl (by decide +kernel) (by decide +kernel) (by decide +kernel) (by decide +kernel) (fun _ _ _ h => h) (by kernel_rfl) (by (intro w; go_simp; first | done | with_reducible rfl)) HC.out ?_; try simp only [Act.put, List.setIfInBounds_toArray, List.set_cons_zero, List.set_cons_succ])
            (refine pure_l (i := 2) (v := _) rfl (by decide +kernel) (by decide +kernel) (by decide +kernel) (by decide +kernel) (fun _ _ _ h => h) (by kernel_rfl) (by (intro w; go_simp; first | done | with_reducible rfl)) HC.out ?_; try simp only [Act.put, List.setIfInBounds_toArray, List.set_cons_zero, List.set_cons_succ])
            (refine pure_l (i := 4) (v := _) rfl (by decide +kernel) (by decide +kernel) (by decide +kernel) (by decide +kernel) (fun _ _ _ h => h) (by kernel_rfl) (by (intro w; go_simp; first | done | with_reducible rfl)) HC.out ?_; try simp only [Act.put, List.setIfInBounds_toArray, List.set_cons_zero, List.set_cons_succ])
            (refine pure_l (i := 5) (v := _) rfl (by decide +kernel) (by decide +kernel) (by decide +kernel) (by decide +kernel) (fun _ _ _ h => h) (by kernel_rfl) (by (intro w; go_simp; first | done | with_reducible rfl)) HC.out ?_; try simp only [Act.put, List.setIfInBounds_toArray, List.set_cons_zero, List.set_cons_succ])
            (refine pure_l (i := 6) (v := _) rfl (by decide +kernel) (by decide +kernel) (by decide +kernel) (by decide +kernel) (fun _ _ _ h => h) (by kernel_rfl) (by (intro w; go_simp; first | done | with_reducible rfl)) HC.out ?_; try simp only [Act.put, List.setIfInBounds_toArray, List.set_cons_zero, List.set_cons_succ])
            (refine pure_l (i := 7) (v := _) rfl (by decide +kernel) (by decide +kernel) (by decide +kernel) (by decide +kernel) (fun _ _ _ h => h) (by kernel_rfl) (by (intro w; go_simp; first | done | with_reducible rfl)) HC.out ?_; try simp only [Act.put, List.setIfInBounds_toArray, List.set_cons_zero, List.set_cons_succ])
            (refine pure_l (i := 9) (v := _) rfl (by decide +kernel) (by decide +kernel) (by decide +kernel) (by decide +kernel) (fun _ _ _ h => h) (by kernel_rfl) (by (intro w; go_simp; first | done | with_reducible rfl)) HC.out ?_; try simp only [Act.put, List.setIfInBounds_toArray, List.set_cons_zero, List.set_cons_succ])
            (refine pure_l (i := 12) (v := _) rfl (by decide +kernel) (by decide +kernel) (by decide +kernel) (by decide +kernel) (fun _ _ _ h => h) (by kernel_rfl) (by (intro w; go_simp; first | done | with_reducible rfl)) HC.out ?_; try simp only [Act.put, List.setIfInBounds_toArray, List.set_cons_zero, List.set_cons_succ])
            (refine pure_l (i := 13) (v := _) rfl (by decide +kernel) (by decide +kernel) (by decide +kernel) (by decide +kernel) (fun _ _ _ h => h) (by kernel_rfl) (by (intro w; go_simp; first | done | with_reducible rfl)) HC.out ?_; try simp only [Act.put, List.setIfInBounds_toArray, List.set_cons_zero, List.set_cons_succ])
            (refine pure_l (i := 14) (v := _) rfl (by decide +kernel) (by decide +kernel) (by decide +kernel) (by decide +kernel) (fun _ _ _ h => h) (by kernel_rfl) (by (intro w; go_simp; first | done | with_reducible rfl)) HC.out ?_; try simp only [Act.put, List.setIfInBounds_toArray, List.set_cons_zero, List.set_cons_succ])
            (refine pure_l (i := 16) (v := _) rfl (by decide +kernel) (by decide +kernel) (by decide +kernel) (by decide +kernel) (fun _ _ _ h => h) (by kernel_rfl) (by (intro w; go_simp; first | done | with_reducible rfl)) HC.out ?_; try simp only [Act.put, List.setIfInBounds_toArray, List.set_cons_zero, List.set_cons_succ])
            (refine load_l (i := 3) (v := _) rfl (by decide +kernel) (by decide +kernel) (by decide +kernel) (by decide +kernel) (fun _ _ _ h => h) ⟨by kernel_rfl, by (rintro w ⟨c0, c1, c2, c3⟩; go_simp; first | done | with_reducible rfl)⟩ HC.out ?_; try simp only [Act.put, List.setIfInBounds_toArray, List.set_cons_zero, List.set_cons_succ])
            (refine load_l (i := 8) (v := _) rfl (by decide +kernel) (by decide +kernel) (by decide +kernel) (by decide +kernel) (fun _ _ _ h => h) ⟨by kernel_rfl, by (rintro w ⟨c0, c1, c2, c3⟩; go_simp; first | done | with_reducible rfl)⟩ HC.out ?_; try simp only [Act.put, List.setIfInBounds_toArray, List.set_cons_zero, List.set_cons_succ])
            (refine load_l (i := 15) (v := _) rfl (by decide +kernel) (by decide +kernel) (by decide +kernel) (by decide +kernel) (fun _ _ _ h => h) ⟨by kernel_rfl, by (rintro w ⟨c0, c1, c2, c3⟩; go_simp; first | done | with_reducible rfl)⟩ HC.out ?_; try simp only [Act.put, List.setIfInBounds_toArray, List.set_cons_zero, List.set_cons_succ])
            (refine pure_l (i := 10) (v := _) rfl (by decide +kernel) (by decide +kernel) (by decide +kernel) (by decide +kernel) (fun _ _ _ h => h) (by kernel_rfl) (by (intro w; go_simp; first | done | with_reducible rfl)) HC.out ?_; try simp only [Act.put, List.setIfInBounds_toArray, List.set_cons_zero, List.set_cons_succ])
            (refine pure_l (i := 17) (v := _) rfl (by decide +kernel) (by decide +kernel) (by decide +kernel) (by decide +kernel) (fun _ _ _ h => h) (by kernel_rfl) (by (intro w; go_simp; first | done | with_reducible rfl)) HC.out ?_; try simp only [Act.put, List.setIfInBounds_toArray, List.set_cons_zero, List.set_cons_succ])
            (refine load_l (i := 11) (v := _) rfl (by decide +kernel) (by decide +kernel) (by decide +kernel) (by decide +kernel) (fun _ _ _ h => h) ⟨by kernel_rfl, by (rintro w ⟨c0, c1, c2, c3⟩; go_simp; first | done | with_reducible rfl)⟩ HC.out ?_; try simp only [Act.put, List.setIfInBounds_toArray, List.set_cons_zero, List.set_cons_succ])
            (refine load_l (i := 18) (v := _) rfl (by decide +kernel) (by decide +kernel) (by decide +kernel) (by decide +kernel) (fun _ _ _ h => h) ⟨by kernel_rfl, by (rintro w ⟨c0, c1, c2, c3⟩; go_simp; first | done | with_reducible rfl)⟩ HC.out ?_; try simp only [Act.put, List.setIfInBounds_toArray, List.set_cons_zero, List.set_cons_succ])
            (refine pure_l (i := 19) (v := _) rfl (by decide +kernel) (by decide +kernel) (by decide +kernel) (by decide +kernel) (fun _ _ _ h => h) (by kernel_rfl) (by (intro w; go_simp; first | done | with_reducible rfl)) HC.out ?_; try simp only [Act.put, List.setIfInBounds_toArray, List.set_cons_zero, List.set_cons_succ])
            (refine pure_l (i := 20) (v := _) rfl (by decide +kernel) (by decide +kernel) (by decide +kernel) (by decide +kernel) (fun _ _ _ h => h) (by kernel_rfl) (by (intro w; go_simp; first | done | with_reducible rfl)) HC.out ?_; try simp only [Act.put, List.setIfInBounds_toArray, List.set_cons_zero, List.set_cons_succ])
            have hcl := H.out.lowAt hvn
            have hfr := Row.frz (H.out.row (k := 1) (by omega)) v
            have hlt := Row.lt (H.out.row (k := 1) (by omega))
            (refine one_l (i := 21) (by decide +kernel) rfl (fun K hK => ?_))
            go_simp
            refine hK _ _ (fun h => absurd h (by decide)) ?_
            clear hK K
            (try simp only [Act.put, List.setIfInBounds_toArray, List.set_cons_zero, List.set_cons_succ])
            have F1 := H.out.setLow hvn (min (s.low v) (s.seen w))
            have T1 := Frs.far HT.out (H.out.row (k := 1) (by omega)) v (.int .i64 (min (s.low v) (s.seen w) : Nat))
            rw [show ((min (s.low v) (s.seen w) : Nat) : Int) = min (s.low v : Int) (s.seen w : Int) from by omega] at F1 T1
            generalize World.setCell W5 _ _ = W6 at F1 T1 ⊢
            clear hcl hfr hlt H HT HC
            refine done_l (by decide +kernel) ?_ _
            go_wp2_with fail
            have q1 := HI.out.stepBack HTD.out HW.out hon
            have q2 := mu_adv (n := n) (s' := { s with low := upd s.low v (min (s.low v) (s.seen w)), todo := t ++ [(v, e + 1)] }) HTD.out he rfl rfl
            go_roundg (TS.mu n adj { s with low := upd s.low v (min (s.low v) (s.seen w)), todo := t ++ [(v, e + 1)] })
            case measure => have := HK.out; omega
            case rel => exact ⟨_, _, rfl, q1, HBD.out, F1.todo rfl rfl rfl rfl rfl rfl rfl, T1, HRT.out, HMO.out, by have := HMU.out; omega⟩
          · have hob : ((s.on w : Int) == 1) = false := by rw [HI.out.on_iff w hwn, if_neg hon]; rfl
            go_wp2_with fail
            have q1 := HI.out.stepCross HTD.out HW.out hsp hon
            have q2 := mu_adv (n := n) (s' := { s with todo := t ++ [(v, e + 1)] }) HTD.out he rfl rfl
            go_roundg (TS.mu n adj { s with todo := t ++ [(v, e + 1)] })
            case measure => have := HK.out; omega
            case rel => exact ⟨_, _, rfl, q1, HBD.out, H4.todo rfl rfl rfl rfl rfl rfl rfl, HT4, HRT.out, HMO.out, by have := HMU.out; omega⟩
      · obtain rfl : e = (adj v).length := by omega
        have hd5 : decide ((((adj v).length : Nat) : Int) < ((adj v).length : Int)) = false := decide_eq_false (by omega)
        have HC := Lib.hid (show (fun w' : World => w'.cell? ⟨g, t.length * 2 + 1, none⟩ = some (.int .i64 ((adj v).length : Nat)) ∧ w'.cell? ⟨fb, 0, none⟩ = some (.slice (some ⟨gb, 0, none⟩) n n) ∧ w'.cell? ⟨gb, v, none⟩ = some (.slice (GA v) (adj v).length (GC v))) wr.drew from ⟨k1, H.out.cells.1, hgc⟩)
        have H := Lib.hid H.out.drew
        have HT := Lib.hid (Own.drew HT.out)
        clear k1 hgc
        refine regionC_l (fun w' : World => w'.cell? ⟨g, t.length * 2 + 1, none⟩ = some (.int .i64 ((adj v).length : Nat)) ∧ w'.cell? ⟨fb, 0, none⟩ = some (.slice (some ⟨gb, 0, none⟩) n n) ∧ w'.cell? ⟨gb, v, none⟩ = some (.slice (GA v) (adj v).length (GC v))) (fun j => true) (n := 13) (listed := #[false, false, false, false, false, false, false, false, false, false, false, false, false]) (by kernel_rfl) rfl rfl ?_
        generalize wr.drew = W2 at H HT HC ⊢
        (refine pure_l (i := 0) (v := _) rfl (by decide +kernel) (by decide +kernel) (by decide +kernel) (by decide +kernel) (fun _ _ _ h => h) (by kernel_rfl) (by (intro w; go_simp; first | done | with_reducible rfl)) HC.out ?_; try simp only [Act.put, List.setIfInBounds_toArray, List.set_cons_zero, List.set_cons_succ])
        (refine pure_l (i := 1) (v := _) rfl (by decide +kernel) (by decide +kernel) (by decide +kernel) (by decide +kernel) (fun _ _ _ h => h) (by kernel_rfl) (by (intro w; go_simp; first | done | with_reducible rfl)) HC.out ?_; try simp only [Act.put, List.setIfInBounds_toArray, List.set_cons_zero, List.set_cons_succ])
        (refine pure_l (i := 2) (v := _) rfl (by decide +kernel) (by decide +kernel) (by decide +kernel) (by decide +kernel) (fun _ _ _ h => h) (by kernel_rfl) (by (intro w; go_simp; first | done | with_reducible rfl)) HC.out ?_; try simp only [Act.put, List.setIfInBounds_toArray, List.set_cons_zero, List.set_cons_succ])
        (refine pure_l (i := 4) (v := _) rfl (by decide +kernel) (by decide +kernel) (by decide +kernel) (by decide +kernel) (fun _ _ _ h => h) (by kernel_rfl) (by (intro w; go_simp; first | done | with_reducible rfl)) HC.out ?_; try simp only [Act.put, List.setIfInBounds_toArray, List.set_cons_zero, List.set_cons_succ])
        (refine pure_l (i := 5) (v := _) rfl (by decide +kernel) (by decide +kernel) (by decide +kernel) (by decide +kernel) (fun _ _ _ h => h) (by kernel_rfl) (by (intro w; go_simp; first | done | with_reducible rfl)) HC.out ?_; try simp only [Act.put, List.setIfInBounds_toArray, List.set_cons_zero, List.set_cons_succ])
        (refine pure_l (i := 6) (v := _) rfl (by decide +kernel) (by decide +kernel) (by decide +kernel) (by decide +kernel) (fun _ _ _ h => h) (by kernel_rfl) (by (intro w; go_simp; first | done | with_reducible rfl)) HC.out ?_; try simp only [Act.put, List.setIfInBounds_toArray, List.set_cons_zero, List.set_cons_succ])
        (refine pure_l (i := 8) (v := _) rfl (by decide +kernel) (by decide +kernel) (by decide +kernel) (by decide +kernel) (fun _ _ _ h => h) (by kernel_rfl) (by (intro w; go_simp; first | done | with_reducible rfl)) HC.out ?_; try simp only [Act.put, List.setIfInBounds_toArray, List.set_cons_zero, List.set_cons_succ])
        (refine load_l (i := 3) (v := _) rfl (by decide +kernel) (by decide +kernel) (by decide +kernel) (by decide +kernel) (fun _ _ _ h => h) ⟨by kernel_rfl, by (rintro w ⟨c0, c1, c2⟩; go_simp; first | done | with_reducible rfl)⟩ HC.out ?_; try simp only [Act.put, List.setIfInBounds_toArray, List.set_cons_zero, List.set_cons_succ])
        (refine load_l (i := 7) (v := _) rfl (by decide +kernel) (by decide +kernel) (by decide +kernel) (by decide +kernel) (fun _ _ _ h => h) ⟨by kernel_rfl, by (rintro w ⟨c0, c1, c2⟩; go_simp; first | done | with_reducible rfl)⟩ HC.out ?_; try simp only [Act.put, List.setIfInBounds_toArray, List.set_cons_zero, List.set_cons_succ])
        (refine pure_l (i := 9) (v := _) rfl (by decide +kernel) (by decide +kernel) (by decide +kernel) (by decide +kernel) (fun _ _ _ h => h) (by kernel_rfl) (by (intro w; go_simp; first | done | with_reducible rfl)) HC.out ?_; try simp only [Act.put, List.setIfInBounds_toArray, List.set_cons_zero, List.set_cons_succ])
        (refine load_l (i := 10) (v := _) rfl (by decide +kernel) (by decide +kernel) (by decide +kernel) (by decide +kernel) (fun _ _ _ h => h) ⟨by kernel_rfl, by (rintro w ⟨c0, c1, c2⟩; go_simp; first | done | with_reducible rfl)⟩ HC.out ?_; try simp only [Act.put, List.setIfInBounds_toArray, List.set_cons_zero, List.set_cons_succ])
        (refine pure_l (i := 11) (v := _) rfl (by decide +kernel) (by decide +kernel) (by decide +kernel) (by decide +kernel) (fun _ _ _ h => h) (by kernel_rfl) (by (intro w; go_simp; first | done | with_reducible rfl)) HC.out ?_; try simp only [Act.put, List.setIfInBounds_toArray, List.set_cons_zero, List.set_cons_succ])
        (refine pure_l (i := 12) (v := _) rfl (by decide +kernel) (by decide +kernel) (by decide +kernel) (by decide +kernel) (fun _ _ _ h => h) (by kernel_rfl) (by (intro w; go_simp; first | done | with_reducible rfl)) HC.out ?_; try simp only [Act.put, List.setIfInBounds_toArray, List.set_cons_zero, List.set_cons_succ])
        refine done_l (by decide +kernel) ?_ _
        have hcap := Own.capB HT.out
        have hcapi : (t.length : Int) ≤ (cap : Int) := by simp at hcap; omega
        have HT := Lib.hid (show Frs W2 w0.heap.size (.slice (some ⟨g, 0, none⟩) t.length cap) t from by have h := Own.cut HT.out (m := t.length) (by simp); simpa using h)
        clear HC hcap
        rcases List.eq_nil_or_concat t with ht | ⟨t', f, ht⟩
        · subst ht
          have hlow := HI.out.root (v := v) (by simpa using HTD.out)
          have hlb : ((s.low v : Int) == (s.seen v : Int)) = true := by rw [hlow]; exact beq_self_eq_true _
          clear ht0 ht1 ht2 htt
          go_upto_region 17 with (fail)
          generalize W2 = W5 at H HT ⊢
          have HC := Lib.hid (show (fun w' : World => w'.cell? ⟨fb, 1, none⟩ = some (.slice (some ⟨b0, 0, none⟩) n n) ∧ w'.cell? ⟨fb, 2, none⟩ = some (.slice (some ⟨b1, 0, none⟩) n n) ∧ w'.cell? ⟨b1, v, none⟩ = some (.int .i64 (s.low v : Nat)) ∧ w'.cell? ⟨b0, v, none⟩ = some (.int .i64 (s.seen v : Nat))) W5.drew from ⟨H.out.cells.2.1, H.out.cells.2.2.1, H.out.lowAt hvn, H.out.seenAt hvn⟩)
          have H := Lib.hid H.out.drew
          have HT := Lib.hid (Own.drew HT.out)
          refine regionC_l (fun w' : World => w'.cell? ⟨fb, 1, none⟩ = some (.slice (some ⟨b0, 0, none⟩) n n) ∧ w'.cell? ⟨fb, 2, none⟩ = some (.slice (some ⟨b1, 0, none⟩) n n) ∧ w'.cell? ⟨b1, v, none⟩ = some (.int .i64 (s.low v : Nat)) ∧ w'.cell? ⟨b0, v, none⟩ = some (.int .i64 (s.seen v : Nat))) (fun j => true) (n := 15) (listed := #[false, false, false, false, false, false, false, false, false, false, false, false, false, false, false]) (by kernel_rfl) rfl rfl ?_
          generalize W5.drew = W6 at H HT HC ⊢
          (refine pure_l (i := 0) (v := _) rfl (by decide +kernel) (by decide +kernel) (by decide +kernel) (by decide +kernel) (fun _ _ _ h => h) (by kernel_rfl) (by (intro w; go_simp; first | done | with_reducible rfl)) HC.out ?_; try simp only [Act.put, List.setIfInBounds_toArray, List.set_cons_zero, List.set_cons_succ])
          (refine pure_l (i := 1) (v := _) rfl (by decide +kernel) (by decide +kernel) (by decide +kernel) (by decide +kernel) (fun _ _ _ h => h) (by kernel_rfl) (by (intro w; go_simp; first | done | with_reducible rfl)) HC.out ?_; try simp only [Act.put, List.setIfInBounds_toArray, List.set_cons_zero, List.set_cons_succ])
          (refine pure_l (i := 2) (v := _) rfl (by decide +kernel) (by decide +kernel) (by decide +kernel) (by decide +kernel) (fun _ _ _ h => h) (by kernel_rfl) (by (intro w; go_simp; first | done | with_reducible rfl)) HC.out ?_; try simp only [Act.put, List.setIfInBounds_toArray, List.set_cons_zero, List.set_cons_succ])
          (refine pure_l (i := 4) (v := _) rfl (by decide +kernel) (by decide +kernel) (by decide +kernel) (by decide +kernel) (fun _ _ _ h => h) (by kernel_rfl) (by (intro w; go_simp; first | done | with_reducible rfl)) HC.out ?_; try simp only [Act.put, List.setIfInBounds_toArray, List.set_cons_zero, List.set_cons_succ])
          (refine pure_l (i := 7) (v := _) rfl (by decide +kernel) (by decide +kernel) (by decide +kernel) (by decide +kernel) (fun _ _ _ h => h) (by kernel_rfl) (by (intro w; go_simp; first | done | with_reducible rfl)) HC.out ?_; try simp only [Act.put, List.setIfInBounds_toArray, List.set_cons_zero, List.set_cons_succ])
          (refine pure_l (i := 8) (v := _) rfl (by decide +kernel) (by decide +kernel) (by decide +kernel) (by decide +kernel) (fun _ _ _ h => h) (by kernel_rfl) (by (intro w; go_simp; first | done | with_reducible rfl)) HC.out ?_; try simp only [Act.put, List.setIfInBounds_toArray, List.set_cons_zero, List.set_cons_succ])
          (refine pure_l (i := 9) (v := _) rfl (by decide +kernel) (by decide +kernel) (by decide +kernel) (by decide +kernel) (fun _ _ _ h => h) (by kernel_rfl) (by (intro w; go_simp; first | done | with_reducible rfl)) HC.out ?_; try simp only [Act.put, List.setIfInBounds_toArray, List.set_cons_zero, List.set_cons_succ])
          (refine pure_l (i := 11) (v := _) rfl (by decide +kernel) (by decide +kernel) (by decide +kernel) (by decide +kernel) (fun _ _ _ h => h) (by kernel_rfl) (by (intro w; go_simp; first | done | with_reducible rfl)) HC.out ?_; try simp only [Act.put, List.setIfInBounds_toArray, List.set_cons_zero, List.set_cons_succ])
          (refine load_l (i := 3) (v := _) rfl (by decide +kernel) (by decide +kernel) (by decide +kernel) (by decide +kernel) (fun _ _ _ h => h) ⟨by kernel_rfl, by (rintro w ⟨c0, c1, c2, c3⟩; go_simp; first | done | with_reducible rfl)⟩ HC.out ?_; try simp only [Act.put, List.setIfInBounds_toArray, List.set_cons_zero, List.set_cons_succ])
          (refine load_l (i := 10) (v := _) rfl (by decide +kernel) (by decide +kernel) (by decide +kernel) (by decide +kernel) (fun _ _ _ h => h) ⟨by kernel_rfl, by (rintro w ⟨c0, c1, c2, c3⟩; go_simp; first | done | with_reducible rfl)⟩ HC.out ?_; try simp only [Act.put, List.setIfInBounds_toArray, List.set_cons_zero, List.set_cons_succ])
          (refine pure_l (i := 5) (v := _) rfl (by decide +kernel) (by decide +kernel) (by decide +kernel) (by decide +kernel) (fun _ _ _ h => h) (by kernel_rfl) (by (intro w; go_simp; first | done | with_reducible rfl)) HC.out ?_; try simp only [Act.put, List.setIfInBounds_toArray, List.set_cons_zero, List.set_cons_succ])
          (refine pure_l (i := 12) (v := _) rfl (by decide +kernel) (by decide +kernel) (by decide +kernel) (by decide +kernel) (fun _ _ _ h => h) (by kernel_rfl) (by (intro w; go_simp; first | done | with_reducible rfl)) HC.out ?_; try simp only [Act.put, List.setIfInBounds_toArray, List.set_cons_zero, List.set_cons_succ])
          (refine load_l (i := 6) (v := _) rfl (by decide +kernel) (by decide +kernel) (by decide +kernel) (by decide +kernel) (fun _ _ _ h => h) ⟨by kernel_rfl, by (rintro w ⟨c0, c1, c2, c3⟩; go_simp; first | done | with_reducible rfl)⟩ HC.out ?_; try simp only [Act.put, List.setIfInBounds_toArray, List.set_cons_zero, List.set_cons_succ])
          (refine load_l (i := 13) (v := _) rfl (by decide +kernel) (by decide +kernel) (by decide +kernel) (by decide +kernel) (fun _ _ _ h => h) ⟨by kernel_rfl, by (rintro w ⟨c0, c1, c2, c3⟩; go_simp; first | done | with_reducible rfl)⟩ HC.out ?_; try simp only [Act.put, List.setIfInBounds_toArray, List.set_cons_zero, List.set_cons_succ])
          (refine pure_l (i := 14) (v := _) rfl (by decide +kernel) (by decide +kernel) (by decide +kernel) (by decide +kernel) (fun _ _ _ h => h) (by kernel_rfl) (by (intro w; go_simp; first | done | with_reducible rfl)) HC.out ?_; try simp only [Act.put, List.setIfInBounds_toArray, List.set_cons_zero, List.set_cons_succ])
          refine done_l (by decide +kernel) ?_ _
          clear HC
          obtain ⟨s1, s2, hsp, hvn2⟩ := HI.out.split hvs
          go_wp2_with fail
          refine (close_any (w0 := W6) W6 s sv v s1 s2 H.out.rebase hsp HI.out.stackLt hvn2 (by show s.stack.length ≤ 100000; omega) (by show s.cnt ≤ 100000; omega) (by omega)).mono ?_
          rintro e7 w7 ⟨rfl, sv7, hF7⟩
          have HT7 := Lib.hid (Frs.next' HT.out hF7.keep)
          have H7 := Lib.hid (H.out.trans hF7)
          clear hF7 H HT
          have q1 := HI.out.stepShut HTD.out hlow hsp
          have q2 := mu_pop (n := n) (s' := s.shut s1 s2 v []) HTD.out rfl rfl
          go_wp2_with fail
          go_roundg (TS.mu n adj (s.shut s1 s2 v []))
          case measure => have := HK.out; omega
          case rel => exact ⟨_, _, rfl, q1, bd_shut hsp HBD.out, H7.out.todo rfl rfl rfl rfl rfl rfl rfl, HT7.out, HRT.out, HMO.out, by have := HMU.out; omega⟩
        · obtain ⟨up, e'⟩ := f
          rw [List.concat_eq_append] at ht
          subst ht
          have hl2 : (t' ++ [(up, e')]).length = t'.length + 1 := by simp
          rw [hl2] at HT hcapi ⊢
          have hu := HI.out.todo_m (up, e') (by rw [HTD.out]; simp)
          have hun : up < n := HI.out.stackLt _ hu.1
          obtain ⟨k2, -⟩ := Frs.cells HT.out (i := t'.length) (v := up) (e := e') (by simp)
          have hne : v ≠ up := fun e => by
            have h1 := HI.out.todo_s
            rw [HTD.out] at h1
            have h2 := pw_last (f := fun a : Nat × Nat => s.seen a.1) h1 (y := (up, e')) (by simp)
            simp only [e] at h2; omega
          clear ht0 ht1 ht2 htt
          have ht0 : (0 : Int) ≤ (t'.length : Int) := Int.natCast_nonneg _
          have ht1 : (t'.length : Int) < (t'.length : Int) + 1 := by omega
          have ht2 : decide ((0 : Int) < (t'.length : Int) + 1) = true := decide_eq_true (by omega)
          have htt : ((t'.length : Int)).toNat = t'.length := Int.toNat_natCast _
          have hc2 : (t'.length : Int) + 1 ≤ (cap : Int) := by simpa using hcapi
          have ht3 : (0 : Int) ≤ (t'.length : Int) + 1 := by omega
          have htt3 : ((t'.length : Int) + 1).toNat = t'.length + 1 := by omega
          have hu0 : (0 : Int) ≤ (up : Int) := Int.natCast_nonneg _
          have hu1 : (up : Int) < (n : Int) := by omega
          have hut : ((up : Int)).toNat = up := Int.toNat_natCast _
          go_upto_region 16 with (fail)
          clear k2
          have HC := Lib.hid (show (fun w' : World => w'.cell? ⟨fb, 2, none⟩ = some (.slice (some ⟨b1, 0, none⟩) n n) ∧ w'.cell? ⟨b1, up, none⟩ = some (.int .i64 (s.low up : Nat)) ∧ w'.cell? ⟨b1, v, none⟩ = some (.int .i64 (s.low v : Nat))) W2.drew from ⟨H.out.cells.2.2.1, H.out.lowAt hun, H.out.lowAt hvn⟩)
          have H := Lib.hid H.out.drew
          have HT := Lib.hid (Own.drew HT.out)
          refine regionC_l (fun w' : World => w'.cell? ⟨fb, 2, none⟩ = some (.slice (some ⟨b1, 0, none⟩) n n) ∧ w'.cell? ⟨b1, up, none⟩ = some (.int .i64 (s.low up : Nat)) ∧ w'.cell? ⟨b1, v, none⟩ = some (.int .i64 (s.low v : Nat))) (fun j => j != 21) (n := 22) (listed := #[false, false, false, false, false, false, false, false, false, false, false, false, false, false, false, false, false, false, false, false, false, false]) (by kernel_rfl) rfl rfl ?_
          generalize W2.drew = W4 at H HT HC ⊢
          (refine pure_l (i := 0) (v := _) rfl (by decide +kernel) (by decide +kernel) (by decide +kernel) (by decide +kernel) (fun _ _ _ h => h) (by kernel_rfl) (by (intro w; go_simp; first | done | with_reducible rfl)) HC.out ?_; try simp only [Act.put, List.setIfInBounds_toArray, List.set_cons_zero, List.set_cons_succ])
          (refine pure_l (i := 1) (v := _) rfl (by decide +kernel) (by decide +kernel) (by decide +kernel) (by decide +kernel) (fun _ _ _ h => h) (by kernel_rfl) (by (intro w; go_simp; first | done | with_reducible rfl)) HC.out ?_; try simp only [Act.put, List.setIfInBounds_toArray, List.set_cons_zero, List.set_cons_succ])
          (refine pure_l (i := 2) (v := _) rfl (by decide +kernel) (by decide +kernel) (by decide +kernel) (by decide +kernel) (fun _ _ _ h => h) (by kernel_rfl) (by (intro w; go_simp; first | done | with_reducible rfl)) HC.out ?_; try simp only [Act.put, List.setIfInBounds_toArray, List.set_cons_zero, List.set_cons_succ])
          (refine pure_l (i := 4) (v := _) rfl (by decide +kernel) (by decide +kernel) (by decide +kernel) (by decide +kernel) (fun _ _ _ h => h) (by kernel_rfl) (by (intro w; go_simp; first | done | with_reducible rfl)) HC.out ?_; try simp only [Act.put, List.setIfInBounds_toArray, List.set_cons_zero, List.set_cons_succ])
          (refine pure_l (i := 5) (v := _) rfl (by decide +kernel) (by decide +kernel) (by decide +kernel) (by decide +kernel) (fun _ _ _ h => h) (by kernel_rfl) (by (intro w; go_simp; first | done | with_reducible rfl)) HC.out ?_; try simp only [Act.put, List.setIfInBounds_toArray, List.set_cons_zero, List.set_cons_succ])
          (refine pure_l (i := 6) (v := _) rfl (by decide +kernel) (by decide +kernel) (by decide +kernel) (by decide +kernel) (fun _ _ _ h => h) (by kernel_rfl) (by (intro w; go_simp; first | done | with_reducible rfl)) HC.out ?_; try simp only [Act.put, List.setIfInBounds_toArray, List.set_cons_zero, List.set_cons_succ])
          (refine pure_l (i := 7) (v := _) rfl (by decide +kernel) (by decide +kernel) (by decide +kernel) (by decide +kernel) (fun _ _ _ h => h) (by kernel_rfl) (by (intro w; go_simp; first | done | with_reducible rfl)) HC.out ?_; try simp only [Act.put, List.setIfInBounds_toArray, List.set_cons_zero, List.set_cons_succ])
          (refine pure_l (i := 9) (v := _) rfl (by decide +kernel) (by decide +kernel) (by decide +kernel) (by decide +kernel) (fun _ _ _ h => h) (by kernel_rfl) (by (intro w; go_simp; first | done | with_reducible rfl)) HC.out ?_; try simp only [Act.put, List.setIfInBounds_toArray, List.set_cons_zero, List.set_cons_succ])
          (refine pure_l (i := 12) (v := _) rfl (by decide +kernel) (by decide +kernel) (by decide +kernel) (by decide +kernel) (fun _ _ _ h => h) (by kernel_rfl) (by (intro w; go_simp; first | done | with_reducible rfl)) HC.out ?_; try simp only [Act.put, List.setIfInBounds_toArray, List.set_cons_zero, List.set_cons_succ])
          (refine pure_l (i := 13) (v := _) rfl (by decide +kernel) (by decide +kernel) (by decide +kernel) (by decide +kernel) (fun _ _ _ h => h) (by kernel_rfl) (by (intro w; go_simp; first | done | with_reducible rfl)) HC.out ?_; try simp only [Act.put, List.setIfInBounds_toArray, List.set_cons_zero, List.set_cons_succ])
          (refine pure_l (i := 14) (v := _) rfl (by decide +kernel) (by decide +kernel) (by decide +kernel) (by decide +kernel) (fun _ _ _ h => h) (by kernel_rfl) (by (intro w; go_simp; first | done | with_reducible rfl)) HC.out ?_; try simp only [Act.put, List.setIfInBounds_toArray, List.set_cons_zero, List.set_cons_succ])
          (refine pure_l (i := 16) (v := _) rfl (by decide +kernel) (by decide +kernel) (by decide +kernel) (by decide +kernel) (fun _ _ _ h => h) (by kernel_rfl) (by (intro w; go_simp; first | done | with_reducible rfl)) HC.out ?_; try simp only [Act.put, List.setIfInBounds_toArray, List.set_cons_zero, List.set_cons_succ])
          (refine load_l (i := 3) (v := _) rfl (by decide +kernel) (by decide +kernel) (by decide +kernel) (by decide +kernel) (fun _ _ _ h => h) ⟨by kernel_rfl, by (rintro w ⟨c0, c1, c2⟩; go_simp; first | done | with_reducible rfl)⟩ HC.out ?_; try simp only [Act.put, List.setIfInBounds_toArray, List.set_cons_zero, List.set_cons_succ])
          (refine load_l (i := 8) (v := _) rfl (by decide +kernel) (by decide +kernel) (by decide +kernel) (by decide +kernel) (fun _ _ _ h => h) ⟨by kernel_rfl, by (rintro w ⟨c0, c1, c2⟩; go_simp; first | done | with_reducible rfl)⟩ HC.out ?_; try simp only [Act.put, List.setIfInBounds_toArray, List.set_cons_zero, List.set_cons_succ])
          (refine load_l (i := 15) (v := _) rfl (by decide +kernel) (by decide +kernel) (by decide +kernel) (by decide +kernel) (fun _ _ _ h => h) ⟨by kernel_rfl, by (rintro w ⟨c0, c1, c2⟩; go_simp; first | done | with_reducible rfl)⟩ HC.out ?_; try simp only [Act.put, List.setIfInBounds_toArray, List.set_cons_zero, List.set_cons_succ])
          (refine pure_l (i := 10) (v := _) rfl (by decide +kernel) (by decide +kernel) (by decide +kernel) (by decide +kernel) (fun _ _ _ h => h) (by kernel_rfl) (by (intro w; go_simp; first | done | with_reducible rfl)) HC.out ?_; try simp only [Act.put, List.setIfInBounds_toArray, List.set_cons_zero, List.set_cons_succ])
          (refine pure_l (i := 17) (v := _) rfl (by decide +kernel) (by decide +kernel) (by decide +kernel) (by decide +kernel) (fun _ _ _ h => h) (by kernel_rfl) (by (intro w; go_simp; first | done | with_reducible rfl)) HC.out ?_; try simp only [Act.put, List.setIfInBounds_toArray, List.set_cons_zero, List.set_cons_succ])
          (refine load_l (i := 11) (v := _) rfl (by decide +kernel) (by decide +kernel) (by decide +kernel) (by decide +kernel) (fun _ _ _ h => h) ⟨by kernel_rfl, by (rintro w ⟨c0, c1, c2⟩; go_simp; first | done | with_reducible rfl)⟩ HC.out ?_; try simp only [Act.put, List.setIfInBounds_toArray, List.set_cons_zero, List.set_cons_succ])
          (refine load_l (i := 18) (v := _) rfl (by decide +kernel) (by decide +kernel) (by decide +kernel) (by decide +kernel) (fun _ _ _ h => h) ⟨by kernel_rfl, by (rintro w ⟨c0, c1, c2⟩; go_simp; first | done | with_reducible rfl)⟩ HC.out ?_; try simp only [Act.put, List.setIfInBounds_toArray, List.set_cons_zero, List.set_cons_succ])
          (refine pure_l (i := 19) (v := _) rfl (by decide +kernel) (by decide +kernel) (by decide +kernel) (by decide +kernel) (fun _ _ _ h => h) (by kernel_rfl) (by (intro w; go_simp; first | done | with_reducible rfl)) HC.out ?_; try simp only [Act.put, List.setIfInBounds_toArray, List.set_cons_zero, List.set_cons_succ])
          (refine pure_l (i := 20) (v := _) rfl (by decide +kernel) (by decide +kernel) (by decide +kernel) (by decide +kernel) (fun _ _ _ h => h) (by kernel_rfl) (by (intro w; go_simp; first | done | with_reducible rfl)) HC.out ?_; try simp only [Act.put, List.setIfInBounds_toArray, List.set_cons_zero, List.set_cons_succ])
          have hcl := H.out.lowAt hun
          have hfr := Row.frz (H.out.row (k := 1) (by omega)) up
          have hlt := Row.lt (H.out.row (k := 1) (by omega))
          (refine one_l (i := 21) (by decide +kernel) rfl (fun K hK => ?_))
          go_simp
          refine hK _ _ (fun h => absurd h (by decide)) ?_
          clear hK K
          (try simp only [Act.put, List.setIfInBounds_toArray, List.set_cons_zero, List.set_cons_succ])
          have F1 := H.out.setLow hun (min (s.low up) (s.low v))
          have T1 := Frs.far HT.out (H.out.row (k := 1) (by omega)) up (.int .i64 (min (s.low up) (s.low v) : Nat))
          rw [show ((min (s.low up) (s.low v) : Nat) : Int) = min (s.low up : Int) (s.low v : Int) from by omega] at F1 T1
          generalize World.setCell W4 _ _ = W5 at F1 T1 ⊢
          clear hcl hfr hlt H HT HC
          refine done_l (by decide +kernel) ?_ _
          have H := Lib.hid F1
          have HT := Lib.hid T1
          clear F1 T1
          have hlv : W5.cell? ⟨b1, v, none⟩ = some (.int .i64 (s.low v : Nat)) := by have h := H.out.lowAt hvn; simpa only [upd_ne hne] using h
          by_cases hlow : s.low v = s.seen v
          · have hlb : ((s.low v : Int) == (s.seen v : Int)) = true := by rw [hlow]; exact beq_self_eq_true _
            go_upto_region 17 with (fail)
            have HC := Lib.hid (show (fun w' : World => w'.cell? ⟨fb, 1, none⟩ = some (.slice (some ⟨b0, 0, none⟩) n n) ∧ w'.cell? ⟨fb, 2, none⟩ = some (.slice (some ⟨b1, 0, none⟩) n n) ∧ w'.cell? ⟨b1, v, none⟩ = some (.int .i64 (s.low v : Nat)) ∧ w'.cell? ⟨b0, v, none⟩ = some (.int .i64 (s.seen v : Nat))) W5.drew from ⟨H.out.cells.2.1, H.out.cells.2.2.1, hlv, H.out.seenAt hvn⟩)
            have H := Lib.hid H.out.drew
            have HT := Lib.hid (Own.drew HT.out)
            refine regionC_l (fun w' : World => w'.cell? ⟨fb, 1, none⟩ = some (.slice (some ⟨b0, 0, none⟩) n n) ∧ w'.cell? ⟨fb, 2, none⟩ = some (.slice (some ⟨b1, 0, none⟩) n n) ∧ w'.cell? ⟨b1, v, none⟩ = some (.int .i64 (s.low v : Nat)) ∧ w'.cell? ⟨b0, v, none⟩ = some (.int .i64 (s.seen v : Nat))) (fun j => true) (n := 15) (listed := #[false, false, false, false, false, false, false, false, false, false, false, false, false, false, false]) (by kernel_rfl) rfl rfl ?_
            generalize W5.drew = W6 at H HT HC ⊢
            (refine pure_l (i := 0) (v := _) rfl (by decide +kernel) (by decide +kernel) (by decide +kernel) (by decide +kernel) (fun _ _ _ h => h) (by kernel_rfl) (by (intro w; go_simp; first | done | with_reducible rfl)) HC.out ?_; try simp only [Act.put, List.setIfInBounds_toArray, List.set_cons_zero, List.set_cons_succ])
            (refine pure_l (i := 1) (v := _) rfl (by decide +kernel) (by decide +kernel) (by decide +kernel) (by decide +kernel) (fun _ _ _ h => h) (by kernel_rfl) (by (intro w; go_simp; first | done | with_reducible rfl)) HC.out ?_; try simp only [Act.put, List.setIfInBounds_toArray, List.set_cons_zero, List.set_cons_succ])
            (refine pure_l (i := 2) (v := _) rfl (by decide +kernel) (by decide +kernel) (by decide +kernel) (by decide +kernel) (fun _ _ _ h => h) (by kernel_rfl) (by (intro w; go_simp; first | done | with_reducible rfl)) HC.out ?_; try simp only [Act.put, List.setIfInBounds_toArray, List.set_cons_zero, List.set_cons_succ])
            (refine pure_l (i := 4) (v := _) rfl (by decide +kernel) (by decide +kernel) (by decide +kernel) (by decide +kernel) (fun _ _ _ h => h) (by kernel_rfl) (by (intro w; go_simp; first | done | with_reducible rfl)) HC.out ?_; try simp only [Act.put, List.setIfInBounds_toArray, List.set_cons_zero, List.set_cons_succ])
            (refine pure_l (i := 7) (v := _) rfl (by decide +kernel) (by decide +kernel) (by decide +kernel) (by decide +kernel) (fun _ _ _ h => h) (by kernel_rfl) (by (intro w; go_simp; first | done | with_reducible rfl)) HC.out ?_; try simp only [Act.put, List.setIfInBounds_toArray, List.set_cons_zero, List.set_cons_succ])
            (refine pure_l (i := 8) (v := _) rfl (by decide +kernel) (by decide +kernel) (by decide +kernel) (by decide +kernel) (fun _ _ _ h => h) (by kernel_rfl) (by (intro w; go_simp; first | done | with_reducible rfl)) HC.out ?_; try simp only [Act.put, List.setIfInBounds_toArray, List.set_cons_zero, List.set_cons_succ])
            (refine pure_l (i := 9) (v := _) rfl (by decide +kernel) (by decide +kernel) (by decide +kernel) (by decide +kernel) (fun _ _ _ h => h) (by kernel_rfl) (by (intro w; go_simp; first | done | with_reducible rfl)) HC.out ?_; try simp only [Act.put, List.setIfInBounds_toArray, List.set_cons_zero, List.set_cons_succ])
            (refine pure_l (i := 11) (v := _) rfl (by decide +kernel) (by decide +kernel) (by decide +kernel) (by decide +kernel) (fun _ _ _ h => h) (by kernel_rfl) (by (intro w; go_simp; first | done | with_reducible rfl)) HC.out ?_; try simp only [Act.put, List.setIfInBounds_toArray, List.set_cons_zero, List.set_cons_succ])
            (refine load_l (i := 3) (v := _) rfl (by decide +kernel) (by decide +kernel) (by decide +kernel) (by decide +kernel) (fun _ _ _ h => h) ⟨by kernel_rfl, by (rintro w ⟨c0, c1, c2, c3⟩; go_simp; first | done | with_reducible rfl)⟩ HC.out ?_; try simp only [Act.put, List.setIfInBounds_toArray, List.set_cons_zero, List.set_cons_succ])
            (refine load_l (i := 10) (v := _) rfl (by decide +kernel) (by decide +kernel) (by decide +kernel) (by decide +kernel) (fun _ _ _ h => h) ⟨by kernel_rfl, by (rintro w ⟨c0, c1, c2, c3⟩; go_simp; first | done | with_reducible rfl)⟩ HC.out ?_; try simp only [Act.put, List.setIfInBounds_toArray, List.set_cons_zero, List.set_cons_succ])
            (refine pure_l (i := 5) (v := _) rfl (by decide +kernel) (by decide +kernel) (by decide +kernel) (by decide +kernel) (fun _ _ _ h => h) (by kernel_rfl) (by (intro w; go_simp; first | done | with_reducible rfl)) HC.out ?_; try simp only [Act.put, List.setIfInBounds_toArray, List.set_cons_zero, List.set_cons_succ])
            (refine pure_l (i := 12) (v := _) rfl (by decide +kernel) (by decide +kernel) (by decide +kernel) (by decide +kernel) (fun _ _ _ h => h) (by kernel_rfl) (by (intro w; go_simp; first | done | with_reducible rfl)) HC.out ?_; try simp only [Act.put, List.setIfInBounds_toArray, List.set_cons_zero, List.set_cons_succ])
            (refine load_l (i := 6) (v := _) rfl (by decide +kernel) (by decide +kernel) (by decide +kernel) (by decide +kernel) (fun _ _ _ h => h) ⟨by kernel_rfl, by (rintro w ⟨c0, c1, c2, c3⟩; go_simp; first | done | with_reducible rfl)⟩ HC.out ?_; try simp only [Act.put, List.setIfInBounds_toArray, List.set_cons_zero, List.set_cons_succ])
            (refine load_l (i := 13) (v := _) rfl (by decide +kernel) (by decide +kernel) (by decide +kernel) (by decide +kernel) (fun _ _ _ h => h) ⟨by kernel_rfl, by (rintro w ⟨c0, c1, c2, c3⟩; go_simp; first | done | with_reducible rfl)⟩ HC.out ?_; try simp only [Act.put, List.setIfInBounds_toArray, List.set_cons_zero, List.set_cons_succ])
            (refine pure_l (i := 14) (v := _) rfl (by decide +kernel) (by decide +kernel) (by decide +kernel) (by decide +kernel) (fun _ _ _ h => h) (by kernel_rfl) (by (intro w; go_simp; first | done | with_reducible rfl)) HC.out ?_; try simp only [Act.put, List.setIfInBounds_toArray, List.set_cons_zero, List.set_cons_succ])
            refine done_l (by decide +kernel) ?_ _
            clear HC
            clear hlv
            obtain ⟨s1, s2, hsp, hvn2⟩ := HI.out.split hvs
            go_wp2_with fail
            refine (close_any (w0 := W6) W6 { s with low := upd s.low up (min (s.low up) (s.low v)) } sv v s1 s2 H.out.rebase hsp HI.out.stackLt hvn2 (by show s.stack.length ≤ 100000; omega) (by show s.cnt ≤ 100000; omega) (by omega)).mono ?_
            rintro e7 w7 ⟨rfl, sv7, hF7⟩
            have HT7 := Lib.hid (Frs.next' HT.out hF7.keep)
            have H7 := Lib.hid (H.out.trans hF7)
            clear hF7 H HT
            have q1 := HI.out.stepShut HTD.out hlow hsp
            have q2 := mu_pop (n := n) (s' := s.shut s1 s2 v (t' ++ [(up, e')])) HTD.out rfl rfl
            go_wp2_with fail
            go_roundg (TS.mu n adj (s.shut s1 s2 v (t' ++ [(up, e')])))
            case measure => have := HK.out; omega
            case rel => exact ⟨_, _, rfl, q1, bd_shut hsp HBD.out, H7.out.todo rfl (by show s.low = upd s.low up (min (s.low up) (s.low v)); rw [HI.out.up_low (t := t') (by simpa using HTD.out) hlow, upd_self]) rfl rfl rfl rfl rfl, HT7.out, HRT.out, HMO.out, by have := HMU.out; omega⟩
          · have hlb : ((s.low v : Int) == (s.seen v : Int)) = false := by rw [beq_eq_false_iff_ne]; omega
            go_upto_region 17 with (fail)
            have HC := Lib.hid (show (fun w' : World => w'.cell? ⟨fb, 1, none⟩ = some (.slice (some ⟨b0, 0, none⟩) n n) ∧ w'.cell? ⟨fb, 2, none⟩ = some (.slice (some ⟨b1, 0, none⟩) n n) ∧ w'.cell? ⟨b1, v, none⟩ = some (.int .i64 (s.low v : Nat)) ∧ w'.cell? ⟨b0, v, none⟩ = some (.int .i64 (s.seen v : Nat))) W5.drew from ⟨H.out.cells.2.1, H.out.cells.2.2.1, hlv, H.out.seenAt hvn⟩)
            have H := Lib.hid H.out.drew
            have HT := Lib.hid (Own.drew HT.out)
            refine regionC_l (fun w' : World => w'.cell? ⟨fb, 1, none⟩ = some (.slice (some ⟨b0, 0, none⟩) n n) ∧ w'.cell? ⟨fb, 2, none⟩ = some (.slice (some ⟨b1, 0, none⟩) n n) ∧ w'.cell? ⟨b1, v, none⟩ = some (.int .i64 (s.low v : Nat)) ∧ w'.cell? ⟨b0, v, none⟩ = some (.int .i64 (s.seen v : Nat))) (fun j => true) (n := 15) (listed := #[false, false, false, false, false, false, false, false, false, false, false, false, false, false, false]) (by kernel_rfl) rfl rfl ?_
            generalize W5.drew = W6 at H HT HC ⊢
            (refine pure_l (i := 0) (v := _) rfl (by decide +kernel) (by decide +kernel) (by decide +kernel) (by decide +kernel) (fun _ _ _ h => h) (by kernel_rfl) (by (intro w; go_simp; first | done | with_reducible rfl)) HC.out ?_; try simp only [Act.put, List.setIfInBounds_toArray, List.set_cons_zero, List.set_cons_succ])
            (refine pure_l (i := 1) (v := _) rfl (by decide +kernel) (by decide +kernel) (by decide +kernel) (by decide +kernel) (fun _ _ _ h => h) (by kernel_rfl) (by (intro w; go_simp; first | done | with_reducible rfl)) HC.out ?_; try simp only [Act.put, List.setIfInBounds_toArray, List.set_cons_zero, List.set_cons_succ])
            (refine pure_l (i := 2) (v := _) rfl (by decide +kernel) (by decide +kernel) (by decide +kernel) (by decide +kernel) (fun _ _ _ h => h) (by kernel_rfl) (by (intro w; go_simp; first | done | with_reducible rfl)) HC.out ?_; try simp only [Act.put, List.setIfInBounds_toArray, List.set_cons_zero, List.set_cons_succ])
            (refine pure_l (i := 4) (v := _) rfl (by decide +kernel) (by decide +kernel) (by decide +kernel) (by decide +kernel) (fun _ _ _ h => h) (by kernel_rfl) (by (intro w; go_simp; first | done | with_reducible rfl)) HC.out ?_; try simp only [Act.put, List.setIfInBounds_toArray, List.set_cons_zero, List.set_cons_succ])
            (refine pure_l (i := 7) (v := _) rfl (by decide +kernel) (by decide +kernel) (by decide +kernel) (by decide +kernel) (fun _ _ _ h => h) (by kernel_rfl) (by (intro w; go_simp; first | done | with_reducible rfl)) HC.out ?_; try simp only [Act.put, List.setIfInBounds_toArray, List.set_cons_zero, List.set_cons_succ])
            (refine pure_l (i := 8) (v := _) rfl (by decide +kernel) (by decide +kernel) (by decide +kernel) (by decide +kernel) (fun _ _ _ h => h) (by kernel_rfl) (by (intro w; go_simp; first | done | with_reducible rfl)) HC.out ?_; try simp only [Act.put, List.setIfInBounds_toArray, List.set_cons_zero, List.set_cons_succ])
            (refine pure_l (i := 9) (v := _) rfl (by decide +kernel) (by decide +kernel) (by decide +kernel) (by decide +kernel) (fun _ _ _ h => h) (by kernel_rfl) (by (intro w; go_simp; first | done | with_reducible rfl)) HC.out ?_; try simp only [Act.put, List.setIfInBounds_toArray, List.set_cons_zero, List.set_cons_succ])
            (refine pure_l (i := 11) (v := _) rfl (by decide +kernel) (by decide +kernel) (by decide +kernel) (by decide +kernel) (fun _ _ _ h => h) (by kernel_rfl) (by (intro w; go_simp; first | done | with_reducible rfl)) HC.out ?_; try simp only [Act.put, List.setIfInBounds_toArray, List.set_cons_zero, List.set_cons_succ])
            (refine load_l (i := 3) (v := _) rfl (by decide +kernel) (by decide +kernel) (by decide +kernel) (by decide +kernel) (fun _ _ _ h => h) ⟨by kernel_rfl, by (rintro w ⟨c0, c1, c2, c3⟩; go_simp; first | done | with_reducible rfl)⟩ HC.out ?_; try simp only [Act.put, List.setIfInBounds_toArray, List.set_cons_zero, List.set_cons_succ])
            (refine load_l (i := 10) (v := _) rfl (by decide +kernel) (by decide +kernel) (by decide +kernel) (by decide +kernel) (fun _ _ _ h => h) ⟨by kernel_rfl, by (rintro w ⟨c0, c1, c2, c3⟩; go_simp; first | done | with_reducible rfl)⟩ HC.out ?_; try simp only [Act.put, List.setIfInBounds_toArray, List.set_cons_zero, List.set_cons_succ])
            (refine pure_l (i := 5) (v := _) rfl (by decide +kernel) (by decide +kernel) (by decide +kernel) (by decide +kernel) (fun _ _ _ h => h) (by kernel_rfl) (by (intro w; go_simp; first | done | with_reducible rfl)) HC.out ?_; try simp only [Act.put, List.setIfInBounds_toArray, List.set_cons_zero, List.set_cons_succ])
            (refine pure_l (i := 12) (v := _) rfl (by decide +kernel) (by decide +kernel) (by decide +kernel) (by decide +kernel) (fun _ _ _ h => h) (by kernel_rfl) (by (intro w; go_simp; first | done | with_reducible rfl)) HC.out ?_; try simp only [Act.put, List.setIfInBounds_toArray, List.set_cons_zero, List.set_cons_succ])
            (refine load_l (i := 6) (v := _) rfl (by decide +kernel) (by decide +kernel) (by decide +kernel) (by decide +kernel) (fun _ _ _ h => h) ⟨by kernel_rfl, by (rintro w ⟨c0, c1, c2, c3⟩; go_simp; first | done | with_reducible rfl)⟩ HC.out ?_; try simp only [Act.put, List.setIfInBounds_toArray, List.set_cons_zero, List.set_cons_succ])
            (refine load_l (i := 13) (v := _) rfl (by decide +kernel) (by decide +kernel) (by decide +kernel) (by decide +kernel) (fun _ _ _ h => h) ⟨by kernel_rfl, by (rintro w ⟨c0, c1, c2, c3⟩; go_simp; first | done | with_reducible rfl)⟩ HC.out ?_; try simp only [Act.put, List.setIfInBounds_toArray, List.set_cons_zero, List.set_cons_succ])
            (refine pure_l (i := 14) (v := _) rfl (by decide +kernel) (by decide +kernel) (by decide +kernel) (by decide +kernel) (fun _ _ _ h => h) (by kernel_rfl) (by (intro w; go_simp; first | done | with_reducible rfl)) HC.out ?_; try simp only [Act.put, List.setIfInBounds_toArray, List.set_cons_zero, List.set_cons_succ])
            refine done_l (by decide +kernel) ?_ _
            clear HC
            clear hlv
            go_wp2_with fail
            have q1 := HI.out.stepPop HTD.out hlow
            have q2 := mu_pop (n := n) (s' := { s with low := upd s.low up (min (s.low up) (s.low v)), todo := t' ++ [(up, e')] }) HTD.out rfl rfl
            go_roundg (TS.mu n adj { s with low := upd s.low up (min (s.low up) (s.low v)), todo := t' ++ [(up, e')] })
            case measure => have := HK.out; omega
            case rel => exact ⟨_, _, rfl, q1, HBD.out, H.out.todo rfl rfl rfl rfl rfl rfl rfl, HT.out, HRT.out, HMO.out, by have := HMU.out; omega⟩
end Go.Proofs.Ytodhianmaogfpaa
