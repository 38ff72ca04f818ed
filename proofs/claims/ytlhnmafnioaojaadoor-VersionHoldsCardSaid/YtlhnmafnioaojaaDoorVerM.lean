/- For all texts: the walk of VersionHolds ends in true. -/
import Derived.Test.YtlhnmafnioaojaaDoorVerK
import Derived.Test.YtlhnmafnioaojaaDoorVerL
import Derived.Test.YtlhnmafnioaojaaDoorMem
namespace Go.Proofs.YtlhnmafnioaojaaDoor
set_option linter.unusedSimpArgs false
set_option linter.unusedVariables false
open Go.RowKit

theorem Blk.nextTo {w w' : World} {g : Nat} {t : TypeId} {cs : Array Value} (hb : Below w.heap.size w w') (h : Blk w g t cs) : Blk w' g t cs := h.next hb
theorem closure_any (rel : Int) (a b : List UInt8) (w : World) (g k : Nat) (ha : w.cell? ⟨g, 0, none⟩ = some (.string (bs a))) (hb : w.cell? ⟨k, 0, none⟩ = some (.string (bs b))) :
    Calls Tryd.prog 25 #[.int .i64 rel, .pointer (some ⟨g, 0, none⟩), .pointer (some ⟨k, 0, none⟩)] w fun e w' => e = .returned (.bool (holdsS rel a b)) ∧ Below w.heap.size w w' := by
  go_enter Tryd.func25, Tryd.ntmps25
  go_wp2_with (go_at_call 26; refine (Holds_any _ _ _ _).mono ?_; rintro e w1 ⟨rfl, hb⟩)
  go_ret
  exact ⟨rfl, by (repeat (first | assumption | exact Below.refl _ _ | refine below_next ?_ (by assumption) | refine below_drewN ?_ _))⟩
theorem holds_none {a b : List UInt8} (h : isV a = false ∨ isV b = false) (r : Int) (hr : r ≠ 0) : holdsS r a b = false := by
  have : (cmpV a b).2 = false := by
    unfold isV at h
    rcases ha' : verS a with _ | ⟨e, u, r⟩
    · simp [cmpV, ha']
    · rcases hb' : verS b with _ | ⟨f, v, s⟩
      · simp [cmpV, ha', hb']
      · rw [ha', hb'] at h; simp at h
  simp [holdsS, hr, this]
set_option maxRecDepth 100000 in
set_option maxHeartbeats 800000 in
theorem holds_not (a b : List UInt8) (w : World) (h : isV a = false ∨ isV b = false) : Calls Tryd.prog 11 #[.string (bs a), .string (bs b)] w fun e w' => e = .returned (.bool true) ∧ Below w.heap.size w w' := by
  have H1 := Lib.hid (holds_none h 1 (by decide))
  have H2 := Lib.hid (holds_none h 2 (by decide))
  have H3 := Lib.hid (holds_none h 3 (by decide))
  have H4 := Lib.hid (holds_none h 4 (by decide))
  have H5 := Lib.hid (holds_none h 5 (by decide))
  rcases ha : verS a with _ | ⟨ea, ua, ra⟩
  · have HA := Lib.hid (verV_none ha)
    clear ha h
    rcases hb : verS b with _ | ⟨eb, ub, rb⟩
    · have HB := Lib.hid (verV_none hb)
      clear hb
      have hmf : ∀ (fn : Fn) (first cap : Array Value) (w : World), (Instr.makeFunc fn first cap).run Tryd.prog w = .ok (.func fn first cap) w := fun _ _ _ _ => rfl
      go_enter Tryd.func11, Tryd.ntmps11
      go_wp2_with fail
      refine (parse_any a _).mono ?_
      rintro e w1 ⟨rfl, hb1⟩
      rw [HA.out]
      have kA : Blk w1 w.heap.size 9 #[.string (bs a)] := Blk.nextTo hb1 ((Blk.new w 9 _).alloc _)
      have kB : Blk w1 (w.heap.size + 1) 9 #[.string (bs b)] := Blk.nextTo hb1 (by have := Blk.new (w.alloc (.cells #[.string (bs a)] 9)) 9 #[.string (bs b)]; simpa using this)
      have HB1 : Below w.heap.size w w1 := below_next (((Below.refl _ _).alloc (Nat.le_refl _) _).alloc (by simp) _) hb1
      have cA := kA.cell 0
      have cB := kB.cell 0
      simp only [List.getElem?_toArray, List.getElem?_cons_zero] at cA cB
      go_wp2_with fail
      refine (parse_any b _).mono ?_
      rintro e w2 ⟨rfl, hb2⟩
      rw [HB.out]
      have kA := Blk.nextTo hb2 kA
      have kB := Blk.nextTo hb2 kB
      have cA := kA.cell 0
      have cB := kB.cell 0
      simp only [List.getElem?_toArray, List.getElem?_cons_zero] at cA cB
      go_wp2_with (first | (go_at_call 25; refine (closure_any _ a b _ _ _ (by assumption) (by assumption)).mono ?_; rintro e w1 ⟨rfl, hb⟩; (first | rw [H1.out] | rw [H2.out] | rw [H3.out] | rw [H4.out] | rw [H5.out]); have kA := Blk.nextTo hb kA; have kB := Blk.nextTo hb kB; have cA := kA.cell 0; have cB := kB.cell 0; simp only [List.getElem?_toArray, List.getElem?_cons_zero] at cA cB) | (go_at_call 24; refine (b2i_any _ _).mono ?_; rintro e w1 ⟨rfl, rfl⟩; simp only [b2iS]) | (go_at_call 26; refine (Holds_any _ _ _ _).mono ?_; rintro e w1 ⟨rfl, hb⟩; rw [HG.out]) | (go_at_call 15; refine (awake_any _).mono ?_; rintro e w1 ⟨rfl, hb⟩))
      go_ret
      exact ⟨rfl, by (repeat (first | assumption | exact Below.refl _ _ | refine below_next ?_ (by assumption) | refine below_drewN ?_ _))⟩
    · have HB := Lib.hid (verV_some hb)
      clear hb
      have hmf : ∀ (fn : Fn) (first cap : Array Value) (w : World), (Instr.makeFunc fn first cap).run Tryd.prog w = .ok (.func fn first cap) w := fun _ _ _ _ => rfl
      go_enter Tryd.func11, Tryd.ntmps11
      go_wp2_with fail
      refine (parse_any a _).mono ?_
      rintro e w1 ⟨rfl, hb1⟩
      rw [HA.out]
      have kA : Blk w1 w.heap.size 9 #[.string (bs a)] := Blk.nextTo hb1 ((Blk.new w 9 _).alloc _)
      have kB : Blk w1 (w.heap.size + 1) 9 #[.string (bs b)] := Blk.nextTo hb1 (by have := Blk.new (w.alloc (.cells #[.string (bs a)] 9)) 9 #[.string (bs b)]; simpa using this)
      have HB1 : Below w.heap.size w w1 := below_next (((Below.refl _ _).alloc (Nat.le_refl _) _).alloc (by simp) _) hb1
      have cA := kA.cell 0
      have cB := kB.cell 0
      simp only [List.getElem?_toArray, List.getElem?_cons_zero] at cA cB
      go_wp2_with fail
      refine (parse_any b _).mono ?_
      rintro e w2 ⟨rfl, hb2⟩
      rw [HB.out]
      have kA := Blk.nextTo hb2 kA
      have kB := Blk.nextTo hb2 kB
      have cA := kA.cell 0
      have cB := kB.cell 0
      simp only [List.getElem?_toArray, List.getElem?_cons_zero] at cA cB
      go_wp2_with (first | (go_at_call 25; refine (closure_any _ a b _ _ _ (by assumption) (by assumption)).mono ?_; rintro e w1 ⟨rfl, hb⟩; (first | rw [H1.out] | rw [H2.out] | rw [H3.out] | rw [H4.out] | rw [H5.out]); have kA := Blk.nextTo hb kA; have kB := Blk.nextTo hb kB; have cA := kA.cell 0; have cB := kB.cell 0; simp only [List.getElem?_toArray, List.getElem?_cons_zero] at cA cB) | (go_at_call 24; refine (b2i_any _ _).mono ?_; rintro e w1 ⟨rfl, rfl⟩; simp only [b2iS]) | (go_at_call 26; refine (Holds_any _ _ _ _).mono ?_; rintro e w1 ⟨rfl, hb⟩; rw [HG.out]) | (go_at_call 15; refine (awake_any _).mono ?_; rintro e w1 ⟨rfl, hb⟩))
      go_ret
      exact ⟨rfl, by (repeat (first | assumption | exact Below.refl _ _ | refine below_next ?_ (by assumption) | refine below_drewN ?_ _))⟩
  · have hq := isV_some ha
    have HA := Lib.hid (verV_some ha)
    clear ha
    rcases hb : verS b with _ | ⟨eb, ub, rb⟩
    · have HB := Lib.hid (verV_none hb)
      clear hb h hq
      have hmf : ∀ (fn : Fn) (first cap : Array Value) (w : World), (Instr.makeFunc fn first cap).run Tryd.prog w = .ok (.func fn first cap) w := fun _ _ _ _ => rfl
      go_enter Tryd.func11, Tryd.ntmps11
      go_wp2_with fail
      refine (parse_any a _).mono ?_
      rintro e w1 ⟨rfl, hb1⟩
      rw [HA.out]
      have kA : Blk w1 w.heap.size 9 #[.string (bs a)] := Blk.nextTo hb1 ((Blk.new w 9 _).alloc _)
      have kB : Blk w1 (w.heap.size + 1) 9 #[.string (bs b)] := Blk.nextTo hb1 (by have := Blk.new (w.alloc (.cells #[.string (bs a)] 9)) 9 #[.string (bs b)]; simpa using this)
      have HB1 : Below w.heap.size w w1 := below_next (((Below.refl _ _).alloc (Nat.le_refl _) _).alloc (by simp) _) hb1
      have cA := kA.cell 0
      have cB := kB.cell 0
      simp only [List.getElem?_toArray, List.getElem?_cons_zero] at cA cB
      go_wp2_with fail
      refine (parse_any b _).mono ?_
      rintro e w2 ⟨rfl, hb2⟩
      rw [HB.out]
      have kA := Blk.nextTo hb2 kA
      have kB := Blk.nextTo hb2 kB
      have cA := kA.cell 0
      have cB := kB.cell 0
      simp only [List.getElem?_toArray, List.getElem?_cons_zero] at cA cB
      go_wp2_with (first | (go_at_call 25; refine (closure_any _ a b _ _ _ (by assumption) (by assumption)).mono ?_; rintro e w1 ⟨rfl, hb⟩; (first | rw [H1.out] | rw [H2.out] | rw [H3.out] | rw [H4.out] | rw [H5.out]); have kA := Blk.nextTo hb kA; have kB := Blk.nextTo hb kB; have cA := kA.cell 0; have cB := kB.cell 0; simp only [List.getElem?_toArray, List.getElem?_cons_zero] at cA cB) | (go_at_call 24; refine (b2i_any _ _).mono ?_; rintro e w1 ⟨rfl, rfl⟩; simp only [b2iS]) | (go_at_call 26; refine (Holds_any _ _ _ _).mono ?_; rintro e w1 ⟨rfl, hb⟩; rw [HG.out]) | (go_at_call 15; refine (awake_any _).mono ?_; rintro e w1 ⟨rfl, hb⟩))
      go_ret
      exact ⟨rfl, by (repeat (first | assumption | exact Below.refl _ _ | refine below_next ?_ (by assumption) | refine below_drewN ?_ _))⟩
    · have hq2 := isV_some hb
      rw [hq, hq2] at h
      simp at h
set_option maxRecDepth 100000 in
set_option maxHeartbeats 1600000 in
theorem holds_both {a b ea ua ra eb ub rb : List UInt8} (w : World) (ha : verS a = some (ea, ua, ra)) (hb : verS b = some (eb, ub, rb)) : Calls Tryd.prog 11 #[.string (bs a), .string (bs b)] w fun e w' => e = .returned (.bool true) ∧ Below w.heap.size w w' := by
  have h2 : (cmpV a b).2 = true := by rw [cmpV_some ha hb]
  have h3 : (cmpV b a).2 = true := by rw [cmpV_some hb ha]
  rcases cmpV_val a b with h | h | h
  · have H0 := Lib.hid (show holdsS 0 a b = true by simp [holdsS, isV_some ha])
    have H1 := Lib.hid (show holdsS 1 a b = true by simp [holdsS, h2, h])
    have H2 := Lib.hid (show holdsS 2 a b = true by simp [holdsS, h2, h])
    have H3 := Lib.hid (show holdsS 3 a b = false by simp [holdsS, h2, h])
    have H4 := Lib.hid (show holdsS 4 a b = false by simp [holdsS, h2, h])
    have H5 := Lib.hid (show holdsS 5 a b = false by simp [holdsS, h2, h])
    have HG := Lib.hid (show holdsS 1 b a = false by simp [holdsS, h3, cmpV_swap a b, h])
    have HA := Lib.hid (verV_some ha)
    have HB := Lib.hid (verV_some hb)
    clear ha hb h2 h3 h
    have hmf : ∀ (fn : Fn) (first cap : Array Value) (w : World), (Instr.makeFunc fn first cap).run Tryd.prog w = .ok (.func fn first cap) w := fun _ _ _ _ => rfl
    go_enter Tryd.func11, Tryd.ntmps11
    go_wp2_with fail
    refine (parse_any a _).mono ?_
    rintro e w1 ⟨rfl, hb1⟩
    rw [HA.out]
    have kA : Blk w1 w.heap.size 9 #[.string (bs a)] := Blk.nextTo hb1 ((Blk.new w 9 _).alloc _)
    have kB : Blk w1 (w.heap.size + 1) 9 #[.string (bs b)] := Blk.nextTo hb1 (by have := Blk.new (w.alloc (.cells #[.string (bs a)] 9)) 9 #[.string (bs b)]; simpa using this)
    have HB1 : Below w.heap.size w w1 := below_next (((Below.refl _ _).alloc (Nat.le_refl _) _).alloc (by simp) _) hb1
    have cA := kA.cell 0
    have cB := kB.cell 0
    simp only [List.getElem?_toArray, List.getElem?_cons_zero] at cA cB
    go_wp2_with fail
    refine (parse_any b _).mono ?_
    rintro e w2 ⟨rfl, hb2⟩
    rw [HB.out]
    have kA := Blk.nextTo hb2 kA
    have kB := Blk.nextTo hb2 kB
    have cA := kA.cell 0
    have cB := kB.cell 0
    simp only [List.getElem?_toArray, List.getElem?_cons_zero] at cA cB
    go_wp2_with (first | (go_at_call 25; refine (closure_any _ a b _ _ _ (by assumption) (by assumption)).mono ?_; rintro e w1 ⟨rfl, hb⟩; (first | rw [H0.out] | rw [H1.out] | rw [H2.out] | rw [H3.out] | rw [H4.out] | rw [H5.out]); have kA := Blk.nextTo hb kA; have kB := Blk.nextTo hb kB; have cA := kA.cell 0; have cB := kB.cell 0; simp only [List.getElem?_toArray, List.getElem?_cons_zero] at cA cB) | (go_at_call 24; refine (b2i_any _ _).mono ?_; rintro e w1 ⟨rfl, rfl⟩; simp only [b2iS]) | (go_at_call 26; refine (Holds_any _ _ _ _).mono ?_; rintro e w1 ⟨rfl, hb⟩; rw [HG.out]) | (go_at_call 15; refine (awake_any _).mono ?_; rintro e w1 ⟨rfl, hb⟩))
    go_ret
    exact ⟨rfl, by (repeat (first | assumption | exact Below.refl _ _ | refine below_next ?_ (by assumption) | refine below_drewN ?_ _))⟩
  · have H0 := Lib.hid (show holdsS 0 a b = true by simp [holdsS, isV_some ha])
    have H1 := Lib.hid (show holdsS 1 a b = false by simp [holdsS, h2, h])
    have H2 := Lib.hid (show holdsS 2 a b = true by simp [holdsS, h2, h])
    have H3 := Lib.hid (show holdsS 3 a b = true by simp [holdsS, h2, h])
    have H4 := Lib.hid (show holdsS 4 a b = true by simp [holdsS, h2, h])
    have H5 := Lib.hid (show holdsS 5 a b = false by simp [holdsS, h2, h])
    have HG := Lib.hid (show holdsS 1 b a = false by simp [holdsS, h3, cmpV_swap a b, h])
    have HA := Lib.hid (verV_some ha)
    have HB := Lib.hid (verV_some hb)
    clear ha hb h2 h3 h
    have hmf : ∀ (fn : Fn) (first cap : Array Value) (w : World), (Instr.makeFunc fn first cap).run Tryd.prog w = .ok (.func fn first cap) w := fun _ _ _ _ => rfl
    go_enter Tryd.func11, Tryd.ntmps11
    go_wp2_with fail
    refine (parse_any a _).mono ?_
    rintro e w1 ⟨rfl, hb1⟩
    rw [HA.out]
    have kA : Blk w1 w.heap.size 9 #[.string (bs a)] := Blk.nextTo hb1 ((Blk.new w 9 _).alloc _)
    have kB : Blk w1 (w.heap.size + 1) 9 #[.string (bs b)] := Blk.nextTo hb1 (by have := Blk.new (w.alloc (.cells #[.string (bs a)] 9)) 9 #[.string (bs b)]; simpa using this)
    have HB1 : Below w.heap.size w w1 := below_next (((Below.refl _ _).alloc (Nat.le_refl _) _).alloc (by simp) _) hb1
    have cA := kA.cell 0
    have cB := kB.cell 0
    simp only [List.getElem?_toArray, List.getElem?_cons_zero] at cA cB
    go_wp2_with fail
    refine (parse_any b _).mono ?_
    rintro e w2 ⟨rfl, hb2⟩
    rw [HB.out]
    have kA := Blk.nextTo hb2 kA
    have kB := Blk.nextTo hb2 kB
    have cA := kA.cell 0
    have cB := kB.cell 0
    simp only [List.getElem?_toArray, List.getElem?_cons_zero] at cA cB
    go_wp2_with (first | (go_at_call 25; refine (closure_any _ a b _ _ _ (by assumption) (by assumption)).mono ?_; rintro e w1 ⟨rfl, hb⟩; (first | rw [H0.out] | rw [H1.out] | rw [H2.out] | rw [H3.out] | rw [H4.out] | rw [H5.out]); have kA := Blk.nextTo hb kA; have kB := Blk.nextTo hb kB; have cA := kA.cell 0; have cB := kB.cell 0; simp only [List.getElem?_toArray, List.getElem?_cons_zero] at cA cB) | (go_at_call 24; refine (b2i_any _ _).mono ?_; rintro e w1 ⟨rfl, rfl⟩; simp only [b2iS]) | (go_at_call 26; refine (Holds_any _ _ _ _).mono ?_; rintro e w1 ⟨rfl, hb⟩; rw [HG.out]) | (go_at_call 15; refine (awake_any _).mono ?_; rintro e w1 ⟨rfl, hb⟩))
    go_ret
    exact ⟨rfl, by (repeat (first | assumption | exact Below.refl _ _ | refine below_next ?_ (by assumption) | refine below_drewN ?_ _))⟩
  · have H0 := Lib.hid (show holdsS 0 a b = true by simp [holdsS, isV_some ha])
    have H1 := Lib.hid (show holdsS 1 a b = false by simp [holdsS, h2, h])
    have H2 := Lib.hid (show holdsS 2 a b = false by simp [holdsS, h2, h])
    have H3 := Lib.hid (show holdsS 3 a b = false by simp [holdsS, h2, h])
    have H4 := Lib.hid (show holdsS 4 a b = true by simp [holdsS, h2, h])
    have H5 := Lib.hid (show holdsS 5 a b = true by simp [holdsS, h2, h])
    have HG := Lib.hid (show holdsS 1 b a = true by simp [holdsS, h3, cmpV_swap a b, h])
    have HA := Lib.hid (verV_some ha)
    have HB := Lib.hid (verV_some hb)
    clear ha hb h2 h3 h
    have hmf : ∀ (fn : Fn) (first cap : Array Value) (w : World), (Instr.makeFunc fn first cap).run Tryd.prog w = .ok (.func fn first cap) w := fun _ _ _ _ => rfl
    go_enter Tryd.func11, Tryd.ntmps11
    go_wp2_with fail
    refine (parse_any a _).mono ?_
    rintro e w1 ⟨rfl, hb1⟩
    rw [HA.out]
    have kA : Blk w1 w.heap.size 9 #[.string (bs a)] := Blk.nextTo hb1 ((Blk.new w 9 _).alloc _)
    have kB : Blk w1 (w.heap.size + 1) 9 #[.string (bs b)] := Blk.nextTo hb1 (by have := Blk.new (w.alloc (.cells #[.string (bs a)] 9)) 9 #[.string (bs b)]; simpa using this)
    have HB1 : Below w.heap.size w w1 := below_next (((Below.refl _ _).alloc (Nat.le_refl _) _).alloc (by simp) _) hb1
    have cA := kA.cell 0
    have cB := kB.cell 0
    simp only [List.getElem?_toArray, List.getElem?_cons_zero] at cA cB
    go_wp2_with fail
    refine (parse_any b _).mono ?_
    rintro e w2 ⟨rfl, hb2⟩
    rw [HB.out]
    have kA := Blk.nextTo hb2 kA
    have kB := Blk.nextTo hb2 kB
    have cA := kA.cell 0
    have cB := kB.cell 0
    simp only [List.getElem?_toArray, List.getElem?_cons_zero] at cA cB
    go_wp2_with (first | (go_at_call 25; refine (closure_any _ a b _ _ _ (by assumption) (by assumption)).mono ?_; rintro e w1 ⟨rfl, hb⟩; (first | rw [H0.out] | rw [H1.out] | rw [H2.out] | rw [H3.out] | rw [H4.out] | rw [H5.out]); have kA := Blk.nextTo hb kA; have kB := Blk.nextTo hb kB; have cA := kA.cell 0; have cB := kB.cell 0; simp only [List.getElem?_toArray, List.getElem?_cons_zero] at cA cB) | (go_at_call 24; refine (b2i_any _ _).mono ?_; rintro e w1 ⟨rfl, rfl⟩; simp only [b2iS]) | (go_at_call 26; refine (Holds_any _ _ _ _).mono ?_; rintro e w1 ⟨rfl, hb⟩; rw [HG.out]) | (go_at_call 15; refine (awake_any _).mono ?_; rintro e w1 ⟨rfl, hb⟩))
    go_ret
    exact ⟨rfl, by (repeat (first | assumption | exact Below.refl _ _ | refine below_next ?_ (by assumption) | refine below_drewN ?_ _))⟩
theorem law_holds (a b : List UInt8) (w : World) : Calls Tryd.prog 11 #[.string (bs a), .string (bs b)] w fun e w' => e = .returned (.bool true) ∧ Below w.heap.size w w' := by
  rcases ha : verS a with _ | ⟨ea, ua, ra⟩
  · exact holds_not a b w (.inl (by simp [isV, ha]))
  · rcases hb : verS b with _ | ⟨eb, ub, rb⟩
    · exact holds_not a b w (.inr (by simp [isV, hb]))
    · exact holds_both w ha hb
end Go.Proofs.YtlhnmafnioaojaaDoor
