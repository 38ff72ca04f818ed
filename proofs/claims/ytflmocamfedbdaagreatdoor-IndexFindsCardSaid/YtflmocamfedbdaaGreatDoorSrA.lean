/- The contract of the reference's Sorted. -/
import Derived.Test.YtflmocamfedbdaaGreatDoorTuP
import Derived.Test.YtflmocamfedbdaaGreatDoorNwA
import Derived.Test.YtflmocamfedbdaaGreatDoorMk
import Derived.Test.YtflmocamfedbdaaGreatDoorQk
import Derived.Deep.RegionLaw
import Derived.Deep.DrawnRows
import Derived.Deep.RegionHeld3
namespace Go.Proofs.YtflmocamfedbdaaGreatDoor
set_option linter.unusedSimpArgs false
set_option linter.unusedVariables false
open Go.RowKit
attribute [local go_sem ↓] Go.wp_at_zero Go.wp_at_succ
seal wpQuiet

theorem insR_at {α : Type} {lt : α → α → Bool} {l : List α} {y : α} {j : Nat} (h1 : ∀ x ∈ l.take j, lt y x = false) (h2 : l.length ≤ j ∨ ∃ x, l[j]? = some x ∧ lt y x = true) : insR lt l y = l.take j ++ y :: l.drop j := by
  conv => lhs; rw [← List.take_append_drop j l]
  rw [insR_left h1]
  congr 1
  rcases h2 with h2 | ⟨x, hx, hlt⟩
  · rw [List.drop_of_length_le h2]; rfl
  · have hj := (List.getElem?_eq_some_iff.1 hx).1
    obtain ⟨_, hxe⟩ := List.getElem?_eq_some_iff.1 hx
    rw [List.drop_eq_getElem_cons hj, hxe, insR_yes hlt]
theorem Own.down {α : Type} {w : World} {B B' : Nat} {e : TypeId} {k : Nat} {R : List Value → α → Prop} {v : Value} {l : List α} (h : Own w B e k R v l) (hb : B' ≤ B) : Own w B' e k R v l := by
  obtain ⟨css, h1, h2, h3, h4⟩ := h
  refine ⟨css, h1, h2, h3, ?_⟩
  rcases h4 with h4 | ⟨g, cap, cur, h5, h6, h7⟩
  · exact .inl h4
  · exact .inr ⟨g, cap, cur, h5, Nat.le_trans hb h6, h7⟩
theorem Slc.take {α : Type} {w : World} {k z : Nat} {R : List Value → α → Prop} {A : Option Addr} {c : Nat} {l : List α} (h : Slc w k z R A c l) (n : Nat) : Slc w k z R A c (l.take n) := by
  obtain ⟨h1, h2, h3, h4⟩ := h
  have hle : (l.take n).length ≤ l.length := by simp; omega
  refine ⟨by omega, h2, Nat.le_trans (Nat.mul_le_mul_right _ hle) h3, fun h0 => ?_⟩
  obtain ⟨b, o, hA, hx⟩ := h4 (by omega)
  refine ⟨b, o, hA, fun i x hi => hx i x ?_⟩
  rw [List.getElem?_take] at hi
  split at hi
  · exact hi
  · cases hi
theorem Slc.drop {α : Type} {w : World} {k z : Nat} {R : List Value → α → Prop} {b o c : Nat} {l : List α} (h : Slc w k z R (some ⟨b, o, none⟩) c l) (n : Nat) (hn : n ≤ l.length) : Slc w k z R (some ⟨b, o + n * k, none⟩) (c - n) (l.drop n) := by
  have hl : (l.drop n).length = l.length - n := List.length_drop ..
  refine ⟨by have := h.1; omega, by have := h.2.1; omega, Nat.le_trans (Nat.mul_le_mul_right _ (by omega)) h.2.2.1, fun h0 => ⟨b, o + n * k, rfl, fun i x hi => ?_⟩⟩
  rw [List.getElem?_drop] at hi
  obtain ⟨x', b', o', cs, hx, hA, hcs, hlen, hr⟩ := h.at_ (i := n + i) (List.getElem?_eq_some_iff.1 hi).1
  injection hA with hA
  injection hA with hA1 hA2
  subst hA1 hA2
  obtain rfl : x' = x := Option.some.inj (hx.symm.trans hi)
  refine ⟨cs, hcs, hlen, ?_⟩
  rw [Nat.add_mul, ← Nat.add_assoc] at hr
  exact hr
theorem Slc.dropEnd {α : Type} {w : World} {k z : Nat} {R : List Value → α → Prop} {A : Option Addr} {c : Nat} {l : List α} {n : Nat} (hn : l.length ≤ n) (hc : c ≤ 9223372036854775807) : Slc w k z R A c (l.drop n) := by
  rw [List.drop_of_length_le hn]
  exact Slc.nil_ hc
theorem Slc.drop0 {α : Type} {w : World} {k z : Nat} {R : List Value → α → Prop} {b c : Nat} {l : List α} (h : Slc w k z R (some ⟨b, 0, none⟩) c l) (n : Nat) (hn : n ≤ l.length) : Slc w k z R (some ⟨b, n * k, none⟩) (c - n) (l.drop n) := by
  have := Slc.drop h n hn
  rwa [Nat.zero_add] at this
theorem blk_grown0 {w y : World} {g t : Nat} {cs : Array Value} (hB : Blk w g t cs) (hg : w.drew.grownBy y (Value.slice none 0 0).ownBlock) : Blk y g t cs :=
  Blk.grown (w := w.drew) hB hg (by simp [Value.ownBlock])
theorem pkg_one {w : World} : ∀ cs y, RPkg w cs y → ∀ u ∈ cs, u.oneCell' = true := fun cs y ⟨r, h, _⟩ u hu => by
  subst h
  exact encK_one r y u hu
theorem pLt_bl {p x : Pkg} (h : Op.bytesLess x.name p.name = true) : pLt p x = false := by
  have h1 : cmpB x.name p.name = -1 := by simp [cmpB, h]
  have h2 := cmpB_swap x.name p.name
  rw [h1] at h2
  simp [pLt, pCmp, orS, h2]
theorem pLt_ne {p x : Pkg} (h : Op.bytesLess x.name p.name = false) (hne : x.name ≠ p.name) : pLt p x = true := by
  have h1 : cmpB x.name p.name = 1 := by simp [cmpB, h, hne]
  have h2 := cmpB_swap x.name p.name
  rw [h1] at h2
  simp [pLt, pCmp, orS, h2]
theorem pLt_eq {p x : Pkg} (h : x.name = p.name) (hp : isV p.ver = true) (hx : isV x.ver = true) : pLt p x = decide ((cmpV x.ver p.ver).1 < 0) := by
  have h1 : cmpB p.name x.name = 0 := cmpB_zero.2 h.symm
  simp only [pLt, pCmp, orS, h1, cmpX_of hx hp, if_true]
  congr 1
  by_cases h0 : (cmpV x.ver p.ver).1 = 0
  · simp [h0]
  · simp [h0]
theorem Pkgs.of_own {w W : World} {B : Nat} {v : Value} {l : List Pkg} (h : Own W B 26 9 (RPkg w) v l) (hb : Below w.heap.size w W) (hz : l.length * 184 ≤ 140737488351232) : ∃ A c, v = .slice A l.length c ∧ Pkgs W A c l ∧ ((A = none ∧ c = 0 ∧ l = []) ∨ ∃ g, A = some ⟨g, 0, none⟩) := by
  have hf := own_form h
  obtain ⟨A, c, h1, h2⟩ := h.slc (z := 184) hz
  refine ⟨A, c, h1, Slc.mono h2 (Kept.refl _) fun cs x ⟨r, e1, e2⟩ => ⟨r, e1, e2.kept (Kept.of_below hb)⟩, ?_⟩
  rcases hf with ⟨hf, hl⟩ | ⟨g, cap, hf⟩
  · rw [hf] at h1
    injection h1 with h1 h3 h4
    exact .inl ⟨h1.symm, h4.symm, hl⟩
  · rw [hf] at h1
    injection h1 with h1 h3 h4
    exact .inr ⟨g, h1.symm⟩
theorem Own.slcOf {α : Type} {w : World} {B : Nat} {e : TypeId} {k z : Nat} {R : List Value → α → Prop} {A : Option Addr} {n c : Nat} {l : List α} (h : Own w B e k R (.slice A n c) l) (hz : l.length * z ≤ 140737488351232) : Slc w k z R A c l := by
  obtain ⟨A', c', h1, h2⟩ := h.slc hz
  injection h1 with h1 h3 h4
  subst h1 h4
  exact h2
theorem Slc.none_ {α : Type} {w : World} {k z : Nat} {R : List Value → α → Prop} {A : Option Addr} {c : Nat} (hc : c ≤ 9223372036854775807) : Slc w k z R A c [] :=
  ⟨Nat.zero_le _, hc, by simp, fun h => by simp at h⟩
set_option maxRecDepth 100000 in
set_option maxHeartbeats 4000000 in
theorem rSorted_any (A : Option Addr) (c : Nat) (l : List Pkg) (w : World) (hl : Pkgs w A c l) (hv : ∀ p ∈ l, isV p.ver = true) (hn : l.length ≤ 1000) :
    Calls Tryz.prog 22 #[.slice A l.length c] w fun e w' => ∃ B d, e = .returned (.slice B (srt pLt l).length d) ∧ Pkgs w' B d (srt pLt l) ∧ Below w.heap.size w w' := by
  have hbd := hl.bd
  have HL := Lib.hid hl
  have HV := Lib.hid hv
  clear hl hv
  go_enter Tryz.func22, Tryz.ntmps22
  go_wp2
  go_loopw [3, 9] (fun v i wr => ∃ (k : Nat) (s : List Pkg), k ≤ l.length ∧ i = .int .i64 k ∧ s = srt pLt (l.take k) ∧ Below w.heap.size w wr ∧ Own wr w.heap.size 26 9 (RPkg w) v s) (fun _ i _ => l.length - (intOf i).toNat)
  case atStart => exact ⟨0, [], Nat.zero_le _, rfl, rfl, Below.refl _ _, Own.nil_ _ _ _ _ _⟩
  case round =>
    obtain ⟨k, s, hk, rfl, hs, hb, ho⟩ := hrel
    obtain ⟨wo, rfl⟩ : ∃ wo : World, wo = wr := ⟨_, rfl⟩
    have hsl : s.length ≤ 1000 := by rw [hs, srt_len, List.length_take]; omega
    have hsk : s.length = k := by rw [hs, srt_len, List.length_take]; omega
    have HSV := Lib.hid (show ∀ x ∈ s, isV x.ver = true from fun x hx => HV.out x (List.mem_of_mem_take (mem_srt.1 (hs ▸ hx))))
    have HS := Lib.hid hs
    have HSk := Lib.hid hsk
    have HB := Lib.hid hb
    have HO := Lib.hid ho
    clear hs hsk hb ho
    by_cases hlt : k < l.length
    · obtain ⟨p, b, o, r, hp, rfl, hr, e0, e1, e2, e3, e4, e5, e6, e7, e8⟩ := HL.out.at_ hlt (Kept.of_below HB.out)
      have HP := Lib.hid hp
      have HR := Lib.hid hr
      have HPV := Lib.hid (HV.out p (List.mem_of_getElem? hp))
      clear hp hr
      go_wp2
      have K1 := Lib.hid (blk_new1 wo 26 #[.string (bs (p).name), .string (bs (p).ver), .slice (r).a1 (p).pre.length (r).c1, .slice (r).a2 (p).dep.length (r).c2, .slice (r).a3 (p).rcm.length (r).c3, .slice (r).a4 (p).con.length (r).c4, .slice (r).a5 (p).brk.length (r).c5, .slice (r).a6 (p).prv.length (r).c6, .bool (p).ess])
      have HB1 := Lib.hid (below_alloc HB.out (.cells #[.string (bs (p).name), .string (bs (p).ver), .slice (r).a1 (p).pre.length (r).c1, .slice (r).a2 (p).dep.length (r).c2, .slice (r).a3 (p).rcm.length (r).c3, .slice (r).a4 (p).con.length (r).c4, .slice (r).a5 (p).brk.length (r).c5, .slice (r).a6 (p).prv.length (r).c6, .bool (p).ess] 26))
      have HO1 := Lib.hid (HO.out.alloc (.cells #[.string (bs (p).name), .string (bs (p).ver), .slice (r).a1 (p).pre.length (r).c1, .slice (r).a2 (p).dep.length (r).c2, .slice (r).a3 (p).rcm.length (r).c3, .slice (r).a4 (p).con.length (r).c4, .slice (r).a5 (p).brk.length (r).c5, .slice (r).a6 (p).prv.length (r).c6, .bool (p).ess] 26))
      clear e0 e1 e2 e3 e4 e5 e6 e7 e8 HB HO
      generalize World.alloc _ _ = W at K1 HB1 HO1 ⊢
      generalize wo.heap.size = g at K1 ⊢
      obtain ⟨A2, c2, rfl, hps, hA2⟩ := Pkgs.of_own HO1.out HB1.out (by omega)
      have HA2 := Lib.hid hA2
      clear hA2
      have hbd2 := hps.bd
      have HPS := Lib.hid hps
      clear hps
      go_loopw [6] (fun i wr => ∃ j : Nat, j ≤ s.length ∧ i = .int .i64 j ∧ (∀ x ∈ s.take j, pLt p x = false) ∧ Below W.heap.size W wr) (fun i _ => s.length - (intOf i).toNat)
      case atStart => exact ⟨0, Nat.zero_le _, rfl, fun x hx => by simp at hx, Below.refl _ _⟩
      case round =>
        obtain ⟨j, hj, rfl, hjl, hb⟩ := hrel
        obtain ⟨wi, rfl⟩ : ∃ wi : World, wi = wr := ⟨_, rfl⟩
        have HBi := Lib.hid hb
        have HJ := Lib.hid hjl
        obtain ⟨c0, c1, c2', c3, c4, c5, c6, c7, c8⟩ := blk9 (K1.out.next hb)
        clear hb hjl c2' c3 c4 c5 c6 c7 c8
        have q0 := fun p : Be wi => Be.cell c0 p
        have q1 := fun p : Be wi => Be.cell c1 p
        clear c0 c1
        by_cases hjk : j < s.length
        · obtain ⟨x, b', o', t, hx, rfl, ht, f0, f1, f2, f3, f4, f5, f6, f7, f8⟩ := HPS.out.at_ hjk (Kept.of_below HBi.out)
          have HX := Lib.hid hx
          have HXV := Lib.hid (HSV.out x (List.mem_of_getElem? hx))
          clear hx ht f2 f3 f4 f5 f6 f7 f8
          have u0 := fun p : Be wi => Be.cell f0 p
          have u1 := fun p : Be wi => Be.cell f1 p
          clear f0 f1
          have hj0 : (0 : Int) ≤ (j : Int) := Int.natCast_nonneg _
          have hj1 : (j : Int) < (s.length : Int) := by omega
          have hjd : decide ((j : Int) < (s.length : Int)) = true := decide_eq_true hj1
          rcases hbl : Op.bytesLess x.name p.name
          · by_cases hne : x.name = p.name
            · have hnb : (x.name == p.name) = true := by simpa using hne
              have hlt0 := pLt_eq hne HPV.out HXV.out
              generalize hcv : (cmpV x.ver p.ver).1 = cv at hlt0
              have HCV := Lib.hid hcv
              have HLT := Lib.hid hlt0
              clear hne hlt0 hcv
              by_cases hc0 : cv < 0
              · have hge : decide (0 ≤ cv) = false := decide_eq_false (by omega)
                have HEX := Lib.hid (show s.length ≤ j ∨ ∃ x, s[j]? = some x ∧ pLt p x = true from .inr ⟨x, HX.out, by rw [HLT.out]; exact decide_eq_true hc0⟩)
                clear hc0
                go_wp2_with fail
                refine region_be (by kernel_rfl) (by kernel_rfl) ?_
                repeat (quiet_step (first | (go_at_call 68; with_reducible exact Calls.be_of ((rCompare_any _ _ _).mono fun _ _ h => ⟨h.1.trans (congrArg (fun b => Ending.returned (Value.int .i64 b)) HCV.out), h.2⟩))))
                refine wpQuiet_nil ?_
                intro _ hw'
                obtain ⟨pb, hw''⟩ := hw'
                subst hw''
                obtain ⟨W2, hbw⟩ := pb
                dsimp only
                have hj7 : (j : Int) ≤ (c2 : Int) := by omega
                have hj8 : ¬ c2 = j := by omega
                have HIN := Lib.hid (insR_at HJ.out HEX.out)
                have HB2 := Lib.hid (below_next HB1.out (below_next HBi.out hbw))
                have HO2 := Lib.hid (HO1.out.next (below_next HBi.out hbw))
                have K2 := Lib.hid (K1.out.next (below_next HBi.out hbw))
                clear hbw
                have htk : (s.take j).length = j := by rw [List.length_take]; omega
                have HTK := Lib.hid htk
                have HTD := Lib.hid (show (s.drop j).length = (s.length - j) by have h := List.length_drop (i := j) (l := s); omega)
                have HBy1 := Lib.hid (show (([] : List Pkg).length + (s.take j).length) * 184 ≤ 140737488355328 by simp; omega)
                have HBy2 := Lib.hid (show ((s.take j).length + 1) * 184 ≤ 140737488355328 by omega)
                have HBy3 := Lib.hid (show ((s.take j ++ [p]).length + (s.drop j).length) * 184 ≤ 140737488355328 by rw [List.length_append, List.length_drop, htk]; simp; omega)
                clear htk
                have HSW := Lib.hid (Own.slcOf (z := 184) HO2.out (by omega))
                have HS1 := Lib.hid (show Slc W2 9 184 (RPkg w) (some ⟨b', o', none⟩) c2 (s.take j) from (Slc.take HSW.out j))
                have HS2 := Lib.hid (show Slc W2 9 184 (RPkg w) (some ⟨b', o' + j * 9, none⟩) (c2 - j) (s.drop j) from (Slc.drop HSW.out j (by omega)))
                have hjt : ((j : Int)).toNat = j := Int.toNat_natCast _
                have hj5 : (0 : Int) ≤ (j : Int) := Int.natCast_nonneg _
                have hj6 : (j : Int) ≤ (s.length : Int) := by omega
                go_wp2_with fail
                have a0 := fun (w2 : World) (h : Hid (Below W2.heap.size W2 w2)) => (blk9 (K2.out.next h.out)).1
                have a1 := fun (w2 : World) (h : Hid (Below W2.heap.size W2 w2)) => (blk9 (K2.out.next h.out)).2.1
                have a2 := fun (w2 : World) (h : Hid (Below W2.heap.size W2 w2)) => (blk9 (K2.out.next h.out)).2.2.1
                have a3 := fun (w2 : World) (h : Hid (Below W2.heap.size W2 w2)) => (blk9 (K2.out.next h.out)).2.2.2.1
                have a4 := fun (w2 : World) (h : Hid (Below W2.heap.size W2 w2)) => (blk9 (K2.out.next h.out)).2.2.2.2.1
                have a5 := fun (w2 : World) (h : Hid (Below W2.heap.size W2 w2)) => (blk9 (K2.out.next h.out)).2.2.2.2.2.1
                have a6 := fun (w2 : World) (h : Hid (Below W2.heap.size W2 w2)) => (blk9 (K2.out.next h.out)).2.2.2.2.2.2.1
                have a7 := fun (w2 : World) (h : Hid (Below W2.heap.size W2 w2)) => (blk9 (K2.out.next h.out)).2.2.2.2.2.2.2.1
                have a8 := fun (w2 : World) (h : Hid (Below W2.heap.size W2 w2)) => (blk9 (K2.out.next h.out)).2.2.2.2.2.2.2.2
                go_region_held3 (fun w' => Hid (Below W2.heap.size W2 w')) (first | with_reducible assumption | exact hbC | exact hbB | exact hbA | exact Lib.hid (below_drewN (Below.refl _ _) 1) | (have hh := (by assumption : Hid (Below W2.heap.size W2 _)); exact Lib.hid (below_alloc hh.out _)))
                  (first | (have hh := (by assumption : Hid (Below W2.heap.size W2 _)); refine step_append_all (by rfl) _ _ 43 (by rfl) W2.heap.size 26 _ 9 184 184 Tryz.underlying43 infPkg' rfl (by omega) (RPkg w) _ [] (by rfl) (Own.nil_ _ _ _ _ _) (some ⟨b', o', none⟩) c2 (s.take j) (by rw [HTK.out]; rfl) (Slc.mono HS1.out (Kept.of_below hh.out) fun _ _ h => h) pkg_one HBy1.out (by omega) hh.out.size ?_; intro v1 y1 ho1 hg1; have hbA := Lib.hid ((Own.nil_ _ W2.heap.size 26 9 (RPkg w)).below hh.out hh.out.size hg1); rw [List.nil_append] at ho1) | (have hh := (by assumption : Hid (Below W2.heap.size W2 _)); refine step_append_el (by rfl) _ _ 43 (by rfl) W2.heap.size 26 _ 9 184 Tryz.underlying43 infPkg' rfl (by omega) (RPkg w) v1 (s.take j) (by rfl) (by first | exact ho1 | exact ho1.alloc _ | exact ho1.drew | exact (ho1.alloc _).drew | exact (ho1.drew).alloc _) p (encK r p) _ 1 (by rfl) (by first | exact Blk.new _ _ _ | exact blk_grown0 (blk_new1 W2 26 #[.string (bs (p).name), .string (bs (p).ver), .slice (r).a1 (p).pre.length (r).c1, .slice (r).a2 (p).dep.length (r).c2, .slice (r).a3 (p).rcm.length (r).c3, .slice (r).a4 (p).con.length (r).c4, .slice (r).a5 (p).brk.length (r).c5, .slice (r).a6 (p).prv.length (r).c6, .bool (p).ess]) hg1) ⟨r, rfl, HR.out⟩ rfl (encK_one _ _) HBy2.out (by omega) hh.out.size ?_; intro g2 cap2 y2 ho2 hg2; have hbB := Lib.hid (show Below W2.heap.size W2 y2 from by first | exact (ho1.alloc _).below hh.out hh.out.size hg2 | exact ho1.below hh.out hh.out.size hg2)) | (have hh := (by assumption : Hid (Below W2.heap.size W2 _)); refine step_append_all (by rfl) _ _ 43 (by rfl) W2.heap.size 26 _ 9 184 184 Tryz.underlying43 infPkg' rfl (by omega) (RPkg w) _ (s.take j ++ [p]) (by rfl) ho2 (some ⟨b', o' + j * 9, none⟩) (c2 - j) (s.drop j) (by first | (rw [HTD.out]; rfl) | (rw [show (s.drop j).length = s.length - j from List.length_drop ..]; rfl)) (Slc.mono HS2.out (Kept.of_below hh.out) fun _ _ h => h) pkg_one HBy3.out (by omega) hh.out.size ?_; intro v3 y3 ho3 hg3; have hbC := Lib.hid (ho2.below hh.out hh.out.size hg3)))
                clear a0 a1 a2 a3 a4 a5 a6 a7 a8
                all_goals go_wp2_with fail
                all_goals go_roundw
                all_goals first
                  | (case rel => exact ⟨k + 1, s.take j ++ p :: s.drop j, by omega, by simp, by rw [take_step HP.out, srt_snoc, ← HS.out, HIN.out], below_next HB2.out hbC.out, (by have h := ho3.down HB2.out.size; rw [List.append_assoc] at h; exact h)⟩)
                  | (case measure => (try simp only [intOf]); omega)
              · have hge : decide (0 ≤ cv) = true := decide_eq_true (by omega)
                have HLT := Lib.hid (HLT.out.trans (decide_eq_false hc0))
                clear hc0
                go_wp2_with fail
                refine region_be (by kernel_rfl) (by kernel_rfl) ?_
                repeat (quiet_step (first | (go_at_call 68; with_reducible exact Calls.be_of ((rCompare_any _ _ _).mono fun _ _ h => ⟨h.1.trans (congrArg (fun b => Ending.returned (Value.int .i64 b)) HCV.out), h.2⟩))))
                refine wpQuiet_nil ?_
                intro _ hw'
                obtain ⟨pb, hw''⟩ := hw'
                subst hw''
                obtain ⟨W2, hbw⟩ := pb
                dsimp only
                have HB2 := Lib.hid (below_next HBi.out hbw)
                clear hbw
                go_wp2
                go_roundw
                case rel => exact ⟨j + 1, by omega, by simp, fun z hz => (by
                  rw [take_step HX.out, List.mem_append, List.mem_singleton] at hz
                  rcases hz with hz | rfl
                  · exact HJ.out z hz
                  · exact HLT.out), HB2.out⟩
                case measure => (try simp only [intOf]); omega
            · have hnb : (x.name == p.name) = false := by simpa using hne
              have HEX := Lib.hid (show s.length ≤ j ∨ ∃ x, s[j]? = some x ∧ pLt p x = true from .inr ⟨x, HX.out, pLt_ne hbl hne⟩)
              clear hne
              go_wp2_with fail
              refine region_be (by kernel_rfl) (by kernel_rfl) ?_
              repeat (quiet_step (first | (go_at_call 68; with_reducible exact Calls.be_of ((rCompare_any _ _ _).mono fun _ _ h => ⟨h.1.trans (congrArg (fun b => Ending.returned (Value.int .i64 b)) HCV.out), h.2⟩))))
              refine wpQuiet_nil ?_
              intro _ hw'
              obtain ⟨pb, hw''⟩ := hw'
              subst hw''
              obtain ⟨W2, hbw⟩ := pb
              dsimp only
              have hj7 : (j : Int) ≤ (c2 : Int) := by omega
              have hj8 : ¬ c2 = j := by omega
              have HIN := Lib.hid (insR_at HJ.out HEX.out)
              have HB2 := Lib.hid (below_next HB1.out (below_next HBi.out hbw))
              have HO2 := Lib.hid (HO1.out.next (below_next HBi.out hbw))
              have K2 := Lib.hid (K1.out.next (below_next HBi.out hbw))
              clear hbw
              have htk : (s.take j).length = j := by rw [List.length_take]; omega
              have HTK := Lib.hid htk
              have HTD := Lib.hid (show (s.drop j).length = (s.length - j) by have h := List.length_drop (i := j) (l := s); omega)
              have HBy1 := Lib.hid (show (([] : List Pkg).length + (s.take j).length) * 184 ≤ 140737488355328 by simp; omega)
              have HBy2 := Lib.hid (show ((s.take j).length + 1) * 184 ≤ 140737488355328 by omega)
              have HBy3 := Lib.hid (show ((s.take j ++ [p]).length + (s.drop j).length) * 184 ≤ 140737488355328 by rw [List.length_append, List.length_drop, htk]; simp; omega)
              clear htk
              have HSW := Lib.hid (Own.slcOf (z := 184) HO2.out (by omega))
              have HS1 := Lib.hid (show Slc W2 9 184 (RPkg w) (some ⟨b', o', none⟩) c2 (s.take j) from (Slc.take HSW.out j))
              have HS2 := Lib.hid (show Slc W2 9 184 (RPkg w) (some ⟨b', o' + j * 9, none⟩) (c2 - j) (s.drop j) from (Slc.drop HSW.out j (by omega)))
              have hjt : ((j : Int)).toNat = j := Int.toNat_natCast _
              have hj5 : (0 : Int) ≤ (j : Int) := Int.natCast_nonneg _
              have hj6 : (j : Int) ≤ (s.length : Int) := by omega
              go_wp2_with fail
              have a0 := fun (w2 : World) (h : Hid (Below W2.heap.size W2 w2)) => (blk9 (K2.out.next h.out)).1
              have a1 := fun (w2 : World) (h : Hid (Below W2.heap.size W2 w2)) => (blk9 (K2.out.next h.out)).2.1
              have a2 := fun (w2 : World) (h : Hid (Below W2.heap.size W2 w2)) => (blk9 (K2.out.next h.out)).2.2.1
              have a3 := fun (w2 : World) (h : Hid (Below W2.heap.size W2 w2)) => (blk9 (K2.out.next h.out)).2.2.2.1
              have a4 := fun (w2 : World) (h : Hid (Below W2.heap.size W2 w2)) => (blk9 (K2.out.next h.out)).2.2.2.2.1
              have a5 := fun (w2 : World) (h : Hid (Below W2.heap.size W2 w2)) => (blk9 (K2.out.next h.out)).2.2.2.2.2.1
              have a6 := fun (w2 : World) (h : Hid (Below W2.heap.size W2 w2)) => (blk9 (K2.out.next h.out)).2.2.2.2.2.2.1
              have a7 := fun (w2 : World) (h : Hid (Below W2.heap.size W2 w2)) => (blk9 (K2.out.next h.out)).2.2.2.2.2.2.2.1
              have a8 := fun (w2 : World) (h : Hid (Below W2.heap.size W2 w2)) => (blk9 (K2.out.next h.out)).2.2.2.2.2.2.2.2
              go_region_held3 (fun w' => Hid (Below W2.heap.size W2 w')) (first | with_reducible assumption | exact hbC | exact hbB | exact hbA | exact Lib.hid (below_drewN (Below.refl _ _) 1) | (have hh := (by assumption : Hid (Below W2.heap.size W2 _)); exact Lib.hid (below_alloc hh.out _)))
                (first | (have hh := (by assumption : Hid (Below W2.heap.size W2 _)); refine step_append_all (by rfl) _ _ 43 (by rfl) W2.heap.size 26 _ 9 184 184 Tryz.underlying43 infPkg' rfl (by omega) (RPkg w) _ [] (by rfl) (Own.nil_ _ _ _ _ _) (some ⟨b', o', none⟩) c2 (s.take j) (by rw [HTK.out]; rfl) (Slc.mono HS1.out (Kept.of_below hh.out) fun _ _ h => h) pkg_one HBy1.out (by omega) hh.out.size ?_; intro v1 y1 ho1 hg1; have hbA := Lib.hid ((Own.nil_ _ W2.heap.size 26 9 (RPkg w)).below hh.out hh.out.size hg1); rw [List.nil_append] at ho1) | (have hh := (by assumption : Hid (Below W2.heap.size W2 _)); refine step_append_el (by rfl) _ _ 43 (by rfl) W2.heap.size 26 _ 9 184 Tryz.underlying43 infPkg' rfl (by omega) (RPkg w) v1 (s.take j) (by rfl) (by first | exact ho1 | exact ho1.alloc _ | exact ho1.drew | exact (ho1.alloc _).drew | exact (ho1.drew).alloc _) p (encK r p) _ 1 (by rfl) (by first | exact Blk.new _ _ _ | exact blk_grown0 (blk_new1 W2 26 #[.string (bs (p).name), .string (bs (p).ver), .slice (r).a1 (p).pre.length (r).c1, .slice (r).a2 (p).dep.length (r).c2, .slice (r).a3 (p).rcm.length (r).c3, .slice (r).a4 (p).con.length (r).c4, .slice (r).a5 (p).brk.length (r).c5, .slice (r).a6 (p).prv.length (r).c6, .bool (p).ess]) hg1) ⟨r, rfl, HR.out⟩ rfl (encK_one _ _) HBy2.out (by omega) hh.out.size ?_; intro g2 cap2 y2 ho2 hg2; have hbB := Lib.hid (show Below W2.heap.size W2 y2 from by first | exact (ho1.alloc _).below hh.out hh.out.size hg2 | exact ho1.below hh.out hh.out.size hg2)) | (have hh := (by assumption : Hid (Below W2.heap.size W2 _)); refine step_append_all (by rfl) _ _ 43 (by rfl) W2.heap.size 26 _ 9 184 184 Tryz.underlying43 infPkg' rfl (by omega) (RPkg w) _ (s.take j ++ [p]) (by rfl) ho2 (some ⟨b', o' + j * 9, none⟩) (c2 - j) (s.drop j) (by first | (rw [HTD.out]; rfl) | (rw [show (s.drop j).length = s.length - j from List.length_drop ..]; rfl)) (Slc.mono HS2.out (Kept.of_below hh.out) fun _ _ h => h) pkg_one HBy3.out (by omega) hh.out.size ?_; intro v3 y3 ho3 hg3; have hbC := Lib.hid (ho2.below hh.out hh.out.size hg3)))
              clear a0 a1 a2 a3 a4 a5 a6 a7 a8
              all_goals go_wp2_with fail
              all_goals go_roundw
              all_goals first
                | (case rel => exact ⟨k + 1, s.take j ++ p :: s.drop j, by omega, by simp, by rw [take_step HP.out, srt_snoc, ← HS.out, HIN.out], below_next HB2.out hbC.out, (by have h := ho3.down HB2.out.size; rw [List.append_assoc] at h; exact h)⟩)
                | (case measure => (try simp only [intOf]); omega)
          · have HLT := Lib.hid (pLt_bl hbl)
            go_wp2_with fail
            refine region_be (by kernel_rfl) (by kernel_rfl) ?_
            repeat (quiet_step (first | (go_at_call 68; with_reducible exact Calls.be_of ((rCompare_any _ _ _).mono fun _ _ h => ⟨h.1.trans (congrArg (fun b => Ending.returned (Value.int .i64 b)) HCV.out), h.2⟩))))
            refine wpQuiet_nil ?_
            intro _ hw'
            obtain ⟨pb, hw''⟩ := hw'
            subst hw''
            obtain ⟨W2, hbw⟩ := pb
            dsimp only
            have HB2 := Lib.hid (below_next HBi.out hbw)
            clear hbw
            go_wp2
            go_roundw
            case rel => exact ⟨j + 1, by omega, by simp, fun z hz => (by
              rw [take_step HX.out, List.mem_append, List.mem_singleton] at hz
              rcases hz with hz | rfl
              · exact HJ.out z hz
              · exact HLT.out), HB2.out⟩
            case measure => (try simp only [intOf]); omega
        · have hjd : decide ((j : Int) < (s.length : Int)) = false := decide_eq_false (by omega)
          have HEX := Lib.hid (show s.length ≤ j ∨ ∃ x, s[j]? = some x ∧ pLt p x = true from .inl (by omega))
          go_wp2_with fail
          refine region_be (by kernel_rfl) (by kernel_rfl) ?_
          repeat (quiet_step (first | (go_at_call 68; with_reducible exact Calls.be_of ((rCompare_any _ _ _).mono fun _ _ h => ⟨h.1.trans (congrArg (fun b => Ending.returned (Value.int .i64 b)) HCV.out), h.2⟩))))
          refine wpQuiet_nil ?_
          intro _ hw'
          obtain ⟨pb, hw''⟩ := hw'
          subst hw''
          obtain ⟨W2, hbw⟩ := pb
          dsimp only
          by_cases hcj : c2 = j
          · cases hcj
            obtain ⟨j, rfl⟩ : ∃ j' : Nat, j' = c2 := ⟨_, rfl⟩
            have hj7 : (j : Int) ≤ (j : Int) := by omega
            rcases A2 with _ | ad
            · have HIN := Lib.hid (insR_at HJ.out HEX.out)
              have HB2 := Lib.hid (below_next HB1.out (below_next HBi.out hbw))
              have HO2 := Lib.hid (HO1.out.next (below_next HBi.out hbw))
              have K2 := Lib.hid (K1.out.next (below_next HBi.out hbw))
              clear hbw
              have htk : (s.take j).length = j := by rw [List.length_take]; omega
              have HTK := Lib.hid htk
              have HTD := Lib.hid (show (s.drop j).length = 0 by have h := List.length_drop (i := j) (l := s); omega)
              have HBy1 := Lib.hid (show (([] : List Pkg).length + (s.take j).length) * 184 ≤ 140737488355328 by simp; omega)
              have HBy2 := Lib.hid (show ((s.take j).length + 1) * 184 ≤ 140737488355328 by omega)
              have HBy3 := Lib.hid (show ((s.take j ++ [p]).length + (s.drop j).length) * 184 ≤ 140737488355328 by rw [List.length_append, List.length_drop, htk]; simp; omega)
              clear htk
              have HSW := Lib.hid (Own.slcOf (z := 184) HO2.out (by omega))
              have HS1 := Lib.hid (show Slc W2 9 184 (RPkg w) none j (s.take j) from (Slc.take HSW.out j))
              have HS2 := Lib.hid (show Slc W2 9 184 (RPkg w) none 0 (s.drop j) from (Slc.dropEnd (by omega) (by omega)))
              have hjt : ((j : Int)).toNat = j := Int.toNat_natCast _
              have hj5 : (0 : Int) ≤ (j : Int) := Int.natCast_nonneg _
              have hj6 : (j : Int) ≤ (s.length : Int) := by omega
              go_wp2_with fail
              have a0 := fun (w2 : World) (h : Hid (Below W2.heap.size W2 w2)) => (blk9 (K2.out.next h.out)).1
              have a1 := fun (w2 : World) (h : Hid (Below W2.heap.size W2 w2)) => (blk9 (K2.out.next h.out)).2.1
              have a2 := fun (w2 : World) (h : Hid (Below W2.heap.size W2 w2)) => (blk9 (K2.out.next h.out)).2.2.1
              have a3 := fun (w2 : World) (h : Hid (Below W2.heap.size W2 w2)) => (blk9 (K2.out.next h.out)).2.2.2.1
              have a4 := fun (w2 : World) (h : Hid (Below W2.heap.size W2 w2)) => (blk9 (K2.out.next h.out)).2.2.2.2.1
              have a5 := fun (w2 : World) (h : Hid (Below W2.heap.size W2 w2)) => (blk9 (K2.out.next h.out)).2.2.2.2.2.1
              have a6 := fun (w2 : World) (h : Hid (Below W2.heap.size W2 w2)) => (blk9 (K2.out.next h.out)).2.2.2.2.2.2.1
              have a7 := fun (w2 : World) (h : Hid (Below W2.heap.size W2 w2)) => (blk9 (K2.out.next h.out)).2.2.2.2.2.2.2.1
              have a8 := fun (w2 : World) (h : Hid (Below W2.heap.size W2 w2)) => (blk9 (K2.out.next h.out)).2.2.2.2.2.2.2.2
              go_region_held3 (fun w' => Hid (Below W2.heap.size W2 w')) (first | with_reducible assumption | exact hbC | exact hbB | exact hbA | exact Lib.hid (below_drewN (Below.refl _ _) 1) | (have hh := (by assumption : Hid (Below W2.heap.size W2 _)); exact Lib.hid (below_alloc hh.out _)))
                (first | (have hh := (by assumption : Hid (Below W2.heap.size W2 _)); refine step_append_all (by rfl) _ _ 43 (by rfl) W2.heap.size 26 _ 9 184 184 Tryz.underlying43 infPkg' rfl (by omega) (RPkg w) _ [] (by rfl) (Own.nil_ _ _ _ _ _) none j (s.take j) (by rw [HTK.out]; rfl) (Slc.mono HS1.out (Kept.of_below hh.out) fun _ _ h => h) pkg_one HBy1.out (by omega) hh.out.size ?_; intro v1 y1 ho1 hg1; have hbA := Lib.hid ((Own.nil_ _ W2.heap.size 26 9 (RPkg w)).below hh.out hh.out.size hg1); rw [List.nil_append] at ho1) | (have hh := (by assumption : Hid (Below W2.heap.size W2 _)); refine step_append_el (by rfl) _ _ 43 (by rfl) W2.heap.size 26 _ 9 184 Tryz.underlying43 infPkg' rfl (by omega) (RPkg w) v1 (s.take j) (by rfl) (by first | exact ho1 | exact ho1.alloc _ | exact ho1.drew | exact (ho1.alloc _).drew | exact (ho1.drew).alloc _) p (encK r p) _ 1 (by rfl) (by first | exact Blk.new _ _ _ | exact blk_grown0 (blk_new1 W2 26 #[.string (bs (p).name), .string (bs (p).ver), .slice (r).a1 (p).pre.length (r).c1, .slice (r).a2 (p).dep.length (r).c2, .slice (r).a3 (p).rcm.length (r).c3, .slice (r).a4 (p).con.length (r).c4, .slice (r).a5 (p).brk.length (r).c5, .slice (r).a6 (p).prv.length (r).c6, .bool (p).ess]) hg1) ⟨r, rfl, HR.out⟩ rfl (encK_one _ _) HBy2.out (by omega) hh.out.size ?_; intro g2 cap2 y2 ho2 hg2; have hbB := Lib.hid (show Below W2.heap.size W2 y2 from by first | exact (ho1.alloc _).below hh.out hh.out.size hg2 | exact ho1.below hh.out hh.out.size hg2)) | (have hh := (by assumption : Hid (Below W2.heap.size W2 _)); refine step_append_all (by rfl) _ _ 43 (by rfl) W2.heap.size 26 _ 9 184 184 Tryz.underlying43 infPkg' rfl (by omega) (RPkg w) _ (s.take j ++ [p]) (by rfl) ho2 none 0 (s.drop j) (by first | (rw [HTD.out]; rfl) | (rw [show (s.drop j).length = s.length - j from List.length_drop ..]; rfl)) (Slc.mono HS2.out (Kept.of_below hh.out) fun _ _ h => h) pkg_one HBy3.out (by omega) hh.out.size ?_; intro v3 y3 ho3 hg3; have hbC := Lib.hid (ho2.below hh.out hh.out.size hg3)))
              clear a0 a1 a2 a3 a4 a5 a6 a7 a8
              all_goals go_wp2_with fail
              all_goals go_roundw
              all_goals first
                | (case rel => exact ⟨k + 1, s.take j ++ p :: s.drop j, by omega, by simp, by rw [take_step HP.out, srt_snoc, ← HS.out, HIN.out], below_next HB2.out hbC.out, (by have h := ho3.down HB2.out.size; rw [List.append_assoc] at h; exact h)⟩)
                | (case measure => (try simp only [intOf]); omega)
            · have HIN := Lib.hid (insR_at HJ.out HEX.out)
              have HB2 := Lib.hid (below_next HB1.out (below_next HBi.out hbw))
              have HO2 := Lib.hid (HO1.out.next (below_next HBi.out hbw))
              have K2 := Lib.hid (K1.out.next (below_next HBi.out hbw))
              clear hbw
              have htk : (s.take j).length = j := by rw [List.length_take]; omega
              have HTK := Lib.hid htk
              have HTD := Lib.hid (show (s.drop j).length = 0 by have h := List.length_drop (i := j) (l := s); omega)
              have HBy1 := Lib.hid (show (([] : List Pkg).length + (s.take j).length) * 184 ≤ 140737488355328 by simp; omega)
              have HBy2 := Lib.hid (show ((s.take j).length + 1) * 184 ≤ 140737488355328 by omega)
              have HBy3 := Lib.hid (show ((s.take j ++ [p]).length + (s.drop j).length) * 184 ≤ 140737488355328 by rw [List.length_append, List.length_drop, htk]; simp; omega)
              clear htk
              have HSW := Lib.hid (Own.slcOf (z := 184) HO2.out (by omega))
              have HS1 := Lib.hid (show Slc W2 9 184 (RPkg w) (some ad) j (s.take j) from (Slc.take HSW.out j))
              have HS2 := Lib.hid (show Slc W2 9 184 (RPkg w) (some ad) 0 (s.drop j) from (Slc.dropEnd (by omega) (by omega)))
              have hjt : ((j : Int)).toNat = j := Int.toNat_natCast _
              have hj5 : (0 : Int) ≤ (j : Int) := Int.natCast_nonneg _
              have hj6 : (j : Int) ≤ (s.length : Int) := by omega
              go_wp2_with fail
              have a0 := fun (w2 : World) (h : Hid (Below W2.heap.size W2 w2)) => (blk9 (K2.out.next h.out)).1
              have a1 := fun (w2 : World) (h : Hid (Below W2.heap.size W2 w2)) => (blk9 (K2.out.next h.out)).2.1
              have a2 := fun (w2 : World) (h : Hid (Below W2.heap.size W2 w2)) => (blk9 (K2.out.next h.out)).2.2.1
              have a3 := fun (w2 : World) (h : Hid (Below W2.heap.size W2 w2)) => (blk9 (K2.out.next h.out)).2.2.2.1
              have a4 := fun (w2 : World) (h : Hid (Below W2.heap.size W2 w2)) => (blk9 (K2.out.next h.out)).2.2.2.2.1
              have a5 := fun (w2 : World) (h : Hid (Below W2.heap.size W2 w2)) => (blk9 (K2.out.next h.out)).2.2.2.2.2.1
              have a6 := fun (w2 : World) (h : Hid (Below W2.heap.size W2 w2)) => (blk9 (K2.out.next h.out)).2.2.2.2.2.2.1
              have a7 := fun (w2 : World) (h : Hid (Below W2.heap.size W2 w2)) => (blk9 (K2.out.next h.out)).2.2.2.2.2.2.2.1
              have a8 := fun (w2 : World) (h : Hid (Below W2.heap.size W2 w2)) => (blk9 (K2.out.next h.out)).2.2.2.2.2.2.2.2
              go_region_held3 (fun w' => Hid (Below W2.heap.size W2 w')) (first | with_reducible assumption | exact hbC | exact hbB | exact hbA | exact Lib.hid (below_drewN (Below.refl _ _) 1) | (have hh := (by assumption : Hid (Below W2.heap.size W2 _)); exact Lib.hid (below_alloc hh.out _)))
                (first | (have hh := (by assumption : Hid (Below W2.heap.size W2 _)); refine step_append_all (by rfl) _ _ 43 (by rfl) W2.heap.size 26 _ 9 184 184 Tryz.underlying43 infPkg' rfl (by omega) (RPkg w) _ [] (by rfl) (Own.nil_ _ _ _ _ _) (some ad) j (s.take j) (by rw [HTK.out]; rfl) (Slc.mono HS1.out (Kept.of_below hh.out) fun _ _ h => h) pkg_one HBy1.out (by omega) hh.out.size ?_; intro v1 y1 ho1 hg1; have hbA := Lib.hid ((Own.nil_ _ W2.heap.size 26 9 (RPkg w)).below hh.out hh.out.size hg1); rw [List.nil_append] at ho1) | (have hh := (by assumption : Hid (Below W2.heap.size W2 _)); refine step_append_el (by rfl) _ _ 43 (by rfl) W2.heap.size 26 _ 9 184 Tryz.underlying43 infPkg' rfl (by omega) (RPkg w) v1 (s.take j) (by rfl) (by first | exact ho1 | exact ho1.alloc _ | exact ho1.drew | exact (ho1.alloc _).drew | exact (ho1.drew).alloc _) p (encK r p) _ 1 (by rfl) (by first | exact Blk.new _ _ _ | exact blk_grown0 (blk_new1 W2 26 #[.string (bs (p).name), .string (bs (p).ver), .slice (r).a1 (p).pre.length (r).c1, .slice (r).a2 (p).dep.length (r).c2, .slice (r).a3 (p).rcm.length (r).c3, .slice (r).a4 (p).con.length (r).c4, .slice (r).a5 (p).brk.length (r).c5, .slice (r).a6 (p).prv.length (r).c6, .bool (p).ess]) hg1) ⟨r, rfl, HR.out⟩ rfl (encK_one _ _) HBy2.out (by omega) hh.out.size ?_; intro g2 cap2 y2 ho2 hg2; have hbB := Lib.hid (show Below W2.heap.size W2 y2 from by first | exact (ho1.alloc _).below hh.out hh.out.size hg2 | exact ho1.below hh.out hh.out.size hg2)) | (have hh := (by assumption : Hid (Below W2.heap.size W2 _)); refine step_append_all (by rfl) _ _ 43 (by rfl) W2.heap.size 26 _ 9 184 184 Tryz.underlying43 infPkg' rfl (by omega) (RPkg w) _ (s.take j ++ [p]) (by rfl) ho2 (some ad) 0 (s.drop j) (by first | (rw [HTD.out]; rfl) | (rw [show (s.drop j).length = s.length - j from List.length_drop ..]; rfl)) (Slc.mono HS2.out (Kept.of_below hh.out) fun _ _ h => h) pkg_one HBy3.out (by omega) hh.out.size ?_; intro v3 y3 ho3 hg3; have hbC := Lib.hid (ho2.below hh.out hh.out.size hg3)))
              clear a0 a1 a2 a3 a4 a5 a6 a7 a8
              all_goals go_wp2_with fail
              all_goals go_roundw
              all_goals first
                | (case rel => exact ⟨k + 1, s.take j ++ p :: s.drop j, by omega, by simp, by rw [take_step HP.out, srt_snoc, ← HS.out, HIN.out], below_next HB2.out hbC.out, (by have h := ho3.down HB2.out.size; rw [List.append_assoc] at h; exact h)⟩)
                | (case measure => (try simp only [intOf]); omega)
          · rcases HA2.out with ⟨hA0, hA1, hA3⟩ | ⟨g3, hA0⟩
            · exact absurd (show c2 = j by subst hA3; simp at hj; omega) hcj
            · subst hA0
              have hj7 : (j : Int) ≤ (c2 : Int) := by omega
              have hj8 : ¬ c2 = j := hcj
              clear hcj
              have HIN := Lib.hid (insR_at HJ.out HEX.out)
              have HB2 := Lib.hid (below_next HB1.out (below_next HBi.out hbw))
              have HO2 := Lib.hid (HO1.out.next (below_next HBi.out hbw))
              have K2 := Lib.hid (K1.out.next (below_next HBi.out hbw))
              clear hbw
              have htk : (s.take j).length = j := by rw [List.length_take]; omega
              have HTK := Lib.hid htk
              have HTD := Lib.hid (show (s.drop j).length = 0 by have h := List.length_drop (i := j) (l := s); omega)
              have HBy1 := Lib.hid (show (([] : List Pkg).length + (s.take j).length) * 184 ≤ 140737488355328 by simp; omega)
              have HBy2 := Lib.hid (show ((s.take j).length + 1) * 184 ≤ 140737488355328 by omega)
              have HBy3 := Lib.hid (show ((s.take j ++ [p]).length + (s.drop j).length) * 184 ≤ 140737488355328 by rw [List.length_append, List.length_drop, htk]; simp; omega)
              clear htk
              have HSW := Lib.hid (Own.slcOf (z := 184) HO2.out (by omega))
              have HS1 := Lib.hid (show Slc W2 9 184 (RPkg w) (some ⟨g3, 0, none⟩) c2 (s.take j) from (Slc.take HSW.out j))
              have HS2 := Lib.hid (show Slc W2 9 184 (RPkg w) (some ⟨g3, j * 9, none⟩) (c2 - j) (s.drop j) from (Slc.drop0 HSW.out j (by omega)))
              have hjt : ((j : Int)).toNat = j := Int.toNat_natCast _
              have hj5 : (0 : Int) ≤ (j : Int) := Int.natCast_nonneg _
              have hj6 : (j : Int) ≤ (s.length : Int) := by omega
              go_wp2_with fail
              have a0 := fun (w2 : World) (h : Hid (Below W2.heap.size W2 w2)) => (blk9 (K2.out.next h.out)).1
              have a1 := fun (w2 : World) (h : Hid (Below W2.heap.size W2 w2)) => (blk9 (K2.out.next h.out)).2.1
              have a2 := fun (w2 : World) (h : Hid (Below W2.heap.size W2 w2)) => (blk9 (K2.out.next h.out)).2.2.1
              have a3 := fun (w2 : World) (h : Hid (Below W2.heap.size W2 w2)) => (blk9 (K2.out.next h.out)).2.2.2.1
              have a4 := fun (w2 : World) (h : Hid (Below W2.heap.size W2 w2)) => (blk9 (K2.out.next h.out)).2.2.2.2.1
              have a5 := fun (w2 : World) (h : Hid (Below W2.heap.size W2 w2)) => (blk9 (K2.out.next h.out)).2.2.2.2.2.1
              have a6 := fun (w2 : World) (h : Hid (Below W2.heap.size W2 w2)) => (blk9 (K2.out.next h.out)).2.2.2.2.2.2.1
              have a7 := fun (w2 : World) (h : Hid (Below W2.heap.size W2 w2)) => (blk9 (K2.out.next h.out)).2.2.2.2.2.2.2.1
              have a8 := fun (w2 : World) (h : Hid (Below W2.heap.size W2 w2)) => (blk9 (K2.out.next h.out)).2.2.2.2.2.2.2.2
              go_region_held3 (fun w' => Hid (Below W2.heap.size W2 w')) (first | with_reducible assumption | exact hbC | exact hbB | exact hbA | exact Lib.hid (below_drewN (Below.refl _ _) 1) | (have hh := (by assumption : Hid (Below W2.heap.size W2 _)); exact Lib.hid (below_alloc hh.out _)))
                (first | (have hh := (by assumption : Hid (Below W2.heap.size W2 _)); refine step_append_all (by rfl) _ _ 43 (by rfl) W2.heap.size 26 _ 9 184 184 Tryz.underlying43 infPkg' rfl (by omega) (RPkg w) _ [] (by rfl) (Own.nil_ _ _ _ _ _) (some ⟨g3, 0, none⟩) c2 (s.take j) (by rw [HTK.out]; rfl) (Slc.mono HS1.out (Kept.of_below hh.out) fun _ _ h => h) pkg_one HBy1.out (by omega) hh.out.size ?_; intro v1 y1 ho1 hg1; have hbA := Lib.hid ((Own.nil_ _ W2.heap.size 26 9 (RPkg w)).below hh.out hh.out.size hg1); rw [List.nil_append] at ho1) | (have hh := (by assumption : Hid (Below W2.heap.size W2 _)); refine step_append_el (by rfl) _ _ 43 (by rfl) W2.heap.size 26 _ 9 184 Tryz.underlying43 infPkg' rfl (by omega) (RPkg w) v1 (s.take j) (by rfl) (by first | exact ho1 | exact ho1.alloc _ | exact ho1.drew | exact (ho1.alloc _).drew | exact (ho1.drew).alloc _) p (encK r p) _ 1 (by rfl) (by first | exact Blk.new _ _ _ | exact blk_grown0 (blk_new1 W2 26 #[.string (bs (p).name), .string (bs (p).ver), .slice (r).a1 (p).pre.length (r).c1, .slice (r).a2 (p).dep.length (r).c2, .slice (r).a3 (p).rcm.length (r).c3, .slice (r).a4 (p).con.length (r).c4, .slice (r).a5 (p).brk.length (r).c5, .slice (r).a6 (p).prv.length (r).c6, .bool (p).ess]) hg1) ⟨r, rfl, HR.out⟩ rfl (encK_one _ _) HBy2.out (by omega) hh.out.size ?_; intro g2 cap2 y2 ho2 hg2; have hbB := Lib.hid (show Below W2.heap.size W2 y2 from by first | exact (ho1.alloc _).below hh.out hh.out.size hg2 | exact ho1.below hh.out hh.out.size hg2)) | (have hh := (by assumption : Hid (Below W2.heap.size W2 _)); refine step_append_all (by rfl) _ _ 43 (by rfl) W2.heap.size 26 _ 9 184 184 Tryz.underlying43 infPkg' rfl (by omega) (RPkg w) _ (s.take j ++ [p]) (by rfl) ho2 (some ⟨g3, j * 9, none⟩) (c2 - j) (s.drop j) (by first | (rw [HTD.out]; rfl) | (rw [show (s.drop j).length = s.length - j from List.length_drop ..]; rfl)) (Slc.mono HS2.out (Kept.of_below hh.out) fun _ _ h => h) pkg_one HBy3.out (by omega) hh.out.size ?_; intro v3 y3 ho3 hg3; have hbC := Lib.hid (ho2.below hh.out hh.out.size hg3)))
              clear a0 a1 a2 a3 a4 a5 a6 a7 a8
              all_goals go_wp2_with fail
              all_goals go_roundw
              all_goals first
                | (case rel => exact ⟨k + 1, s.take j ++ p :: s.drop j, by omega, by simp, by rw [take_step HP.out, srt_snoc, ← HS.out, HIN.out], below_next HB2.out hbC.out, (by have h := ho3.down HB2.out.size; rw [List.append_assoc] at h; exact h)⟩)
                | (case measure => (try simp only [intOf]); omega)
    · have ho := HO.out
      have hs2 := HS.out
      rw [take_end hk hlt] at hs2
      obtain ⟨A2, c2, rfl, hps, _⟩ := Pkgs.of_own ho HB.out (by omega)
      subst hs2
      have HPS := Lib.hid hps
      clear ho hps HO HS
      go_wp2
      go_ret
      exact ⟨A2, c2, rfl, HPS.out, HB.out⟩
end Go.Proofs.YtflmocamfedbdaaGreatDoor
