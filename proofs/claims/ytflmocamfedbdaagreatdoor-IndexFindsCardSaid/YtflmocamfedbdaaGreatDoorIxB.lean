/- The methods of an index that ask: Of, Find, Meets, At, Names: their contracts. -/
import Derived.Test.YtflmocamfedbdaaGreatDoorIxA
import Derived.BigQuiet
namespace Go.Proofs.YtflmocamfedbdaaGreatDoor
set_option linter.unusedSimpArgs false
set_option linter.unusedVariables false
open Go.RowKit

theorem Kept.reix {w : World} {x : Value} {s : List Pkg} (h : Ix w x s) (o : Obj) : Ix (w.alloc o) x s := h.next (below_alloc (Below.refl _ _) o)
theorem RetNats.of_alloc {w W : World} {l : List Nat} {e : Ending} {w' : World} (h : RetNats W l e w') (hb : Below w.heap.size w W) : RetNats w l e w' := by
  obtain ⟨A, c, h1, h2, h3⟩ := h
  exact ⟨A, c, h1, h2, below_next hb h3⟩
def nmP (n : List UInt8) (p : Pkg) : Bool := decide (p.name = n)
def fndP (n v : List UInt8) (p : Pkg) : Bool := decide (p.name = n) && sameV p.ver v
def satP (a : Atm) (p : Pkg) : Bool := satS p a
set_option maxRecDepth 100000 in
theorem ofc_any (p : Pkg) (r : Raw) (n : List UInt8) (g : Nat) (w : World) (hB : Blk w g 9 #[.string (bs n)]) :
    Calls Tryz.prog 75 #[(.agg #[.string (bs (p).name), .string (bs (p).ver), .slice (r).a1 (p).pre.length (r).c1, .slice (r).a2 (p).dep.length (r).c2, .slice (r).a3 (p).rcm.length (r).c3, .slice (r).a4 (p).con.length (r).c4, .slice (r).a5 (p).brk.length (r).c5, .slice (r).a6 (p).prv.length (r).c6, .bool (p).ess]), .pointer (some ⟨g, 0, none⟩)] w fun e w' => e = .returned (.bool (nmP n p)) ∧ Below w.heap.size w w' := by
  have c0 := hB.cell 0
  have hg := hB.lt
  clear hB
  by_cases hn : p.name = n
  · have HD := Lib.hid (show nmP n p = true by simp [nmP, hn])
    subst hn
    go_enter Tryz.func75, Tryz.ntmps75
    go_wp2
    go_ret
    exact ⟨by rw [HD.out]; rfl, by (repeat (first | assumption | exact Below.refl _ _ | refine below_next ?_ (by assumption) | refine below_drewN ?_ _ | refine below_alloc ?_ _))⟩
  · have HD := Lib.hid (show nmP n p = false by simp [nmP, hn])
    have hne : (p.name == n) = false := by simpa using hn
    clear hn
    go_enter Tryz.func75, Tryz.ntmps75
    go_wp2
    go_ret
    exact ⟨by rw [HD.out]; rfl, by (repeat (first | assumption | exact Below.refl _ _ | refine below_next ?_ (by assumption) | refine below_drewN ?_ _ | refine below_alloc ?_ _))⟩
set_option maxRecDepth 100000 in
theorem ofIx_own (x : Value) (s : List Pkg) (n : List UInt8) (w : World) (h : Ix w x s) (hs : s.length ≤ 1000000) :
    Calls Tryz.prog 32 #[x, .string (bs n)] w (RetNatsO w (plcS (nmP n) s)) := by
  have hmf : ∀ (fn : Fn) (first cap : Array Value) (w : World), (Instr.makeFunc fn first cap).run Tryz.prog w = .ok (.func fn first cap) w := fun _ _ _ _ => rfl
  have HX := Lib.hid h
  clear h
  go_enter Tryz.func32, Tryz.ntmps32
  go_wp2_with fail
  refine (placesO_any (nmP n) w.heap.size x s _ (Kept.reix HX.out _) hs fun p r W hb hr => ofc_any p r n _ W ((blk_new1 w 9 #[.string (bs n)]).next hb)).mono ?_
  rintro e w1 ⟨A, c, rfl, hv, hb, hl⟩
  go_wp2
  go_ret
  exact ⟨A, c, rfl, hv.dn (by simp), below_next (below_alloc (Below.refl _ _) _) hb, hl⟩
theorem ofIx_any (x : Value) (s : List Pkg) (n : List UInt8) (w : World) (h : Ix w x s) (hs : s.length ≤ 1000000) :
    Calls Tryz.prog 32 #[x, .string (bs n)] w (RetNats w (plcS (nmP n) s)) :=
  (ofIx_own x s n w h hs).mono fun _ _ h => h.weak
theorem ofIx_nil (n : List UInt8) (w : World) : Calls Tryz.prog 32 #[.pointer none, .string (bs n)] w (RetNats w []) := by
  have hmf : ∀ (fn : Fn) (first cap : Array Value) (w : World), (Instr.makeFunc fn first cap).run Tryz.prog w = .ok (.func fn first cap) w := fun _ _ _ _ => rfl
  go_enter Tryz.func32, Tryz.ntmps32
  go_wp2_with (go_at_call 72; refine (places_nil _ _).mono ?_; rintro e w1 ⟨rfl, rfl⟩)
  go_ret
  exact ⟨none, 0, rfl, Slc.nil_ (Nat.zero_le _), below_alloc (Below.refl _ _) _⟩
set_option maxRecDepth 100000 in
theorem fndc_any (p : Pkg) (r : Raw) (n v : List UInt8) (g0 g1 : Nat) (w : World) (hB0 : Blk w g0 9 #[.string (bs n)]) (hB1 : Blk w g1 9 #[.string (bs v)]) :
    Calls Tryz.prog 73 #[(.agg #[.string (bs (p).name), .string (bs (p).ver), .slice (r).a1 (p).pre.length (r).c1, .slice (r).a2 (p).dep.length (r).c2, .slice (r).a3 (p).rcm.length (r).c3, .slice (r).a4 (p).con.length (r).c4, .slice (r).a5 (p).brk.length (r).c5, .slice (r).a6 (p).prv.length (r).c6, .bool (p).ess]), .pointer (some ⟨g0, 0, none⟩), .pointer (some ⟨g1, 0, none⟩)] w fun e w' => e = .returned (.bool (fndP n v p)) ∧ Below w.heap.size w w' := by
  have c0 := hB0.cell 0
  have hg := hB0.lt
  have c1 := hB1.cell 0
  have hg1 := hB1.lt
  clear hB0 hB1
  by_cases hn : p.name = n
  · have HD := Lib.hid (show fndP n v p = sameV p.ver v by simp [fndP, hn])
    subst hn
    go_enter Tryz.func73, Tryz.ntmps73
    go_wp2_with (go_at_call 74; refine (Same_any p.ver v _).mono ?_; rintro e w1 ⟨rfl, hb⟩)
    go_ret
    exact ⟨by rw [HD.out]; rfl, by (repeat (first | assumption | exact Below.refl _ _ | refine below_next ?_ (by assumption) | refine below_drewN ?_ _ | refine below_alloc ?_ _))⟩
  · have HD := Lib.hid (show fndP n v p = false by simp [fndP, hn])
    have hne : (p.name == n) = false := by simpa using hn
    clear hn
    go_enter Tryz.func73, Tryz.ntmps73
    go_wp2
    go_ret
    exact ⟨by rw [HD.out]; rfl, by (repeat (first | assumption | exact Below.refl _ _ | refine below_next ?_ (by assumption) | refine below_drewN ?_ _ | refine below_alloc ?_ _))⟩
def fndR : List Nat → Nat × Bool
  | [] => (0, false)
  | i :: _ => (i, true)
set_option maxRecDepth 100000 in
theorem findIx_any (x : Value) (s : List Pkg) (n v : List UInt8) (w : World) (h : Ix w x s) (hs : s.length ≤ 1000000) :
    Calls Tryz.prog 29 #[x, .string (bs n), .string (bs v)] w fun e w' => e = .returned (.tuple #[.int .i64 (fndR (plcS (fndP n v) s)).1, .bool (fndR (plcS (fndP n v) s)).2]) ∧ Below w.heap.size w w' := by
  have hmf : ∀ (fn : Fn) (first cap : Array Value) (w : World), (Instr.makeFunc fn first cap).run Tryz.prog w = .ok (.func fn first cap) w := fun _ _ _ _ => rfl
  have HX := Lib.hid h
  clear h
  go_enter Tryz.func29, Tryz.ntmps29
  go_wp2_with fail
  refine (placesF_any (fndP n v) w.heap.size (w.heap.size + 1) x s _ (Kept.reix (Kept.reix HX.out _) _) hs fun p r W hb hr => fndc_any p r n v _ _ W ((Blk.alloc (blk_new1 w 9 #[.string (bs n)]) _).next hb) ((blk_new2 w _ 9 #[.string (bs v)]).next hb)).mono ?_
  rintro e w1 ⟨A, c, rfl, hv, hb, hl8⟩
  have hv := own_nats hv hl8
  clear hl8
  have HB := Lib.hid (below_next (below_alloc (below_alloc (Below.refl w.heap.size w) (.cells #[.string (bs n)] 9)) (.cells #[.string (bs v)] 9)) hb)
  clear hb
  rcases hl : plcS (fndP n v) s with _ | ⟨i, t⟩
  · have HL := Lib.hid hl
    rw [hl] at hv
    clear hl
    go_wp2
    go_ret2
    exact ⟨by rw [HL.out]; rfl, HB.out⟩
  · have HL := Lib.hid hl
    rw [hl] at hv
    have hbd := hv.bd
    obtain ⟨y, b, o, hy, rfl, e0⟩ := hv.at_ (i := 0) (by simp) (Kept.refl _)
    obtain rfl : i = y := by simpa using hy
    simp only [Nat.add_zero] at e0
    clear hl hv hy
    have hne0 : ((t.length : Int) + 1 == 0) = false := by rw [beq_eq_false_iff_ne]; omega
    go_wp2
    go_ret2
    exact ⟨by rw [HL.out]; rfl, HB.out⟩
theorem findIx_nil (n v : List UInt8) (w : World) : Calls Tryz.prog 29 #[.pointer none, .string (bs n), .string (bs v)] w fun e w' => e = .returned (.tuple #[.int .i64 0, .bool false]) ∧ Below w.heap.size w w' := by
  have hmf : ∀ (fn : Fn) (first cap : Array Value) (w : World), (Instr.makeFunc fn first cap).run Tryz.prog w = .ok (.func fn first cap) w := fun _ _ _ _ => rfl
  go_enter Tryz.func29, Tryz.ntmps29
  go_wp2_with (go_at_call 72; refine (places_nil _ _).mono ?_; rintro e w1 ⟨rfl, rfl⟩)
  go_ret2
  exact ⟨rfl, by (repeat (first | assumption | exact Below.refl _ _ | refine below_next ?_ (by assumption) | refine below_drewN ?_ _ | refine below_alloc ?_ _))⟩
set_option maxRecDepth 100000 in
theorem mtc_any (p : Pkg) (r : Raw) (a : Atm) (g : Nat) (w : World) (hB : Blk w g 34 #[.string (bs (a).name), .int .i64 (a).rel, .string (bs (a).ver)]) (hp : RP w r p) (ha : a.ok) :
    Calls Tryz.prog 76 #[(.agg #[.string (bs (p).name), .string (bs (p).ver), .slice (r).a1 (p).pre.length (r).c1, .slice (r).a2 (p).dep.length (r).c2, .slice (r).a3 (p).rcm.length (r).c3, .slice (r).a4 (p).con.length (r).c4, .slice (r).a5 (p).brk.length (r).c5, .slice (r).a6 (p).prv.length (r).c6, .bool (p).ess]), .pointer (some ⟨g, 0, none⟩)] w fun e w' => e = .returned (.bool (satP a p)) ∧ Below w.heap.size w w' := by
  obtain ⟨c0, c1, c2⟩ := blk3 hB
  have hg := hB.lt
  have HP := Lib.hid hp
  clear hB hp
  go_enter Tryz.func76, Tryz.ntmps76
  go_wp2_with (go_at_call 16; refine (sat_any p r a _ (HP.out.kept (Kept.alloc _ _)) ha).mono ?_; rintro e w1 ⟨rfl, hb⟩)
  go_ret
  exact ⟨rfl, by (repeat (first | assumption | exact Below.refl _ _ | refine below_next ?_ (by assumption) | refine below_drewN ?_ _ | refine below_alloc ?_ _))⟩
set_option maxRecDepth 100000 in
theorem meetsIx_own (x : Value) (s : List Pkg) (a : Atm) (w : World) (h : Ix w x s) (hs : s.length ≤ 1000000) (ha : a.ok) :
    Calls Tryz.prog 33 #[x, (.agg #[.string (bs (a).name), .int .i64 (a).rel, .string (bs (a).ver)])] w (RetNatsO w (plcS (satP a) s)) := by
  have hmf : ∀ (fn : Fn) (first cap : Array Value) (w : World), (Instr.makeFunc fn first cap).run Tryz.prog w = .ok (.func fn first cap) w := fun _ _ _ _ => rfl
  have HX := Lib.hid h
  clear h
  go_enter Tryz.func33, Tryz.ntmps33
  go_wp2_with fail
  refine (placesM_any (satP a) w.heap.size x s _ (Kept.reix HX.out _) hs fun p r W hb hr => mtc_any p r a _ W ((blk_new1 w 34 #[.string (bs (a).name), .int .i64 (a).rel, .string (bs (a).ver)]).next hb) hr ha).mono ?_
  rintro e w1 ⟨A, c, rfl, hv, hb, hl⟩
  go_wp2
  go_ret
  exact ⟨A, c, rfl, hv.dn (by simp), below_next (below_alloc (Below.refl _ _) _) hb, hl⟩
theorem meetsIx_any (x : Value) (s : List Pkg) (a : Atm) (w : World) (h : Ix w x s) (hs : s.length ≤ 1000000) (ha : a.ok) :
    Calls Tryz.prog 33 #[x, (.agg #[.string (bs (a).name), .int .i64 (a).rel, .string (bs (a).ver)])] w (RetNats w (plcS (satP a) s)) :=
  (meetsIx_own x s a w h hs ha).mono fun _ _ h => h.weak
theorem meetsIx_nil (a : Atm) (w : World) : Calls Tryz.prog 33 #[.pointer none, (.agg #[.string (bs (a).name), .int .i64 (a).rel, .string (bs (a).ver)])] w (RetNats w []) := by
  have hmf : ∀ (fn : Fn) (first cap : Array Value) (w : World), (Instr.makeFunc fn first cap).run Tryz.prog w = .ok (.func fn first cap) w := fun _ _ _ _ => rfl
  go_enter Tryz.func33, Tryz.ntmps33
  go_wp2_with (go_at_call 72; refine (places_nil _ _).mono ?_; rintro e w1 ⟨rfl, rfl⟩)
  go_ret
  exact ⟨none, 0, rfl, Slc.nil_ (Nat.zero_le _), below_alloc (Below.refl _ _) _⟩
/-- a package in new memory, and true -/
def RetAt (w : World) (p : Pkg) (e : Ending) (w' : World) : Prop := ∃ r, e = .returned (.tuple #[(.agg #[.string (bs (p).name), .string (bs (p).ver), .slice (r).a1 (p).pre.length (r).c1, .slice (r).a2 (p).dep.length (r).c2, .slice (r).a3 (p).rcm.length (r).c3, .slice (r).a4 (p).con.length (r).c4, .slice (r).a5 (p).brk.length (r).c5, .slice (r).a6 (p).prv.length (r).c6, .bool (p).ess]), .bool true]) ∧ RP (flt TB w') r p ∧ Below w.heap.size w w'
set_option maxRecDepth 100000 in
set_option maxHeartbeats 400000 in
theorem at_yes (x : Value) (s : List Pkg) (k : Nat) (q : Pkg) (w : World) (h : Ix w x s) (hs : s.length ≤ 1000000) (hq : s[k]? = some q) (hf : fewO q) :
    Calls Tryz.prog 27 #[x, .int .i64 k] w (RetAt w q) := by
  have HX := Lib.hid h
  obtain ⟨g, A, c, rfl, hB, hp⟩ := h
  have hk : k < s.length := (List.getElem?_eq_some_iff.1 hq).1
  obtain ⟨q', b, o, r, hq', rfl, hr, e0, e1, e2, e3, e4, e5, e6, e7, e8⟩ := hp.at_ hk (Kept.refl w)
  obtain rfl : q = q' := by rw [hq] at hq'; exact Option.some.inj hq'
  have HR := Lib.hid hr
  have HF := Lib.hid hf
  have c0 := hB.cell 0
  have hg := hB.lt
  have hbd := hp.bd
  have hi0 : (0 : Int) ≤ (k : Int) := Int.natCast_nonneg _
  have hi1 : (k : Int) < (s.length : Int) := by omega
  have hd0 : decide ((k : Int) < 0) = false := decide_eq_false (by omega)
  have hd1 : decide (s.length ≤ k) = false := decide_eq_false (by omega)
  have hbw : b < w.heap.size := block_lt_of_cell e0
  clear hB hp hq hq' hr hf
  go_enter Tryz.func27, Tryz.ntmps27
  go_wp2_with (go_at_call 23; refine (len_any _ s _ (Kept.reix HX.out _)).mono ?_; rintro e w1 ⟨rfl, rfl⟩)
  refine (own_any q r _ (HR.out.kept (Kept.alloc _ _)) HF.out).mono ?_
  rintro e w2 ⟨r2, rfl, hr2, hb2⟩
  have hK := (blk_new1 w 26 #[.string (bs []), .string (bs []), .slice none 0 0, .slice none 0 0, .slice none 0 0, .slice none 0 0, .slice none 0 0, .slice none 0 0, .bool false]).next hb2
  obtain ⟨kz, kb, kk⟩ := own_set9 (b0 := .string (bs q.name)) (b1 := .string (bs q.ver)) (b2 := .slice r2.a1 q.pre.length r2.c1) (b3 := .slice r2.a2 q.dep.length r2.c2) (b4 := .slice r2.a3 q.rcm.length r2.c3) (b5 := .slice r2.a4 q.con.length r2.c4) (b6 := .slice r2.a5 q.brk.length r2.c5) (b7 := .slice r2.a6 q.prv.length r2.c6) (b8 := .bool q.ess) hK (below_next (below_alloc (Below.refl _ _) _) hb2) (Nat.le_refl _)
  have KZ := Lib.hid kz
  have KB := Lib.hid kb
  have HRP := Lib.hid (hr2.fkeep kk)
  obtain ⟨z0, z1, z2, z3, z4, z5, z6, z7, z8⟩ := blk9 hK
  have zf := fun j => hK.frozen j
  clear hr2 hK kz kb kk hb2 e0 e1 e2 e3 e4 e5 e6 e7 e8
  go_wp2_with fail
  generalize World.setCell _ _ _ = Wf at KZ KB HRP ⊢
  have hsz := KZ.out.lt
  obtain ⟨y0, y1, y2, y3, y4, y5, y6, y7, y8⟩ := blk9 KZ.out
  exact bodyPost_ret (v := .tuple #[(.agg #[.string (bs (q).name), .string (bs (q).ver), .slice (r2).a1 (q).pre.length (r2).c1, .slice (r2).a2 (q).dep.length (r2).c2, .slice (r2).a3 (q).rcm.length (r2).c3, .slice (r2).a4 (q).con.length (r2).c4, .slice (r2).a5 (q).brk.length (r2).c5, .slice (r2).a6 (q).prv.length (r2).c6, .bool (q).ess]), .bool true]) (by simp [results, Tryz.results27, go_sem, y0, y1, y2, y3, y4, y5, y6, y7, y8, hsz]) rfl ⟨r2, rfl, HRP.out, KB.out⟩
set_option maxRecDepth 100000 in
theorem at_no (x : Value) (s : List Pkg) (i : Int) (w : World) (h : Ix w x s) (hi : i < 0 ∨ (s.length : Int) ≤ i) :
    Calls Tryz.prog 27 #[x, .int .i64 i] w fun e w' => e = .returned (.tuple #[.agg #[.string (bs []), .string (bs []), .slice none 0 0, .slice none 0 0, .slice none 0 0, .slice none 0 0, .slice none 0 0, .slice none 0 0, .bool false], .bool false]) ∧ Below w.heap.size w w' := by
  have HX := Lib.hid h
  clear h
  by_cases h0 : i < 0
  · have hd0 : decide (i < 0) = true := decide_eq_true h0
    clear hi h0
    go_enter Tryz.func27, Tryz.ntmps27
    go_wp2
    exact bodyPost_ret (v := .tuple #[.agg #[.string (bs []), .string (bs []), .slice none 0 0, .slice none 0 0, .slice none 0 0, .slice none 0 0, .slice none 0 0, .slice none 0 0, .bool false], .bool false]) (by simp [results, Tryz.results27, go_sem]; try rfl) rfl ⟨rfl, below_alloc (Below.refl _ _) _⟩
  · have hd0 : decide (i < 0) = false := decide_eq_false h0
    have hd1 : decide ((s.length : Int) ≤ i) = true := decide_eq_true (by omega)
    clear hi
    go_enter Tryz.func27, Tryz.ntmps27
    go_wp2_with (go_at_call 23; refine (len_any _ s _ (Kept.reix HX.out _)).mono ?_; rintro e w1 ⟨rfl, rfl⟩)
    exact bodyPost_ret (v := .tuple #[.agg #[.string (bs []), .string (bs []), .slice none 0 0, .slice none 0 0, .slice none 0 0, .slice none 0 0, .slice none 0 0, .slice none 0 0, .bool false], .bool false]) (by simp [results, Tryz.results27, go_sem]; try rfl) rfl ⟨rfl, below_alloc (Below.refl _ _) _⟩
theorem at_nil (i : Int) (w : World) :
    Calls Tryz.prog 27 #[.pointer none, .int .i64 i] w fun e w' => e = .returned (.tuple #[.agg #[.string (bs []), .string (bs []), .slice none 0 0, .slice none 0 0, .slice none 0 0, .slice none 0 0, .slice none 0 0, .slice none 0 0, .bool false], .bool false]) ∧ Below w.heap.size w w' := by
  by_cases h0 : i < 0
  · have hd0 : decide (i < 0) = true := decide_eq_true h0
    clear h0
    go_enter Tryz.func27, Tryz.ntmps27
    go_wp2
    exact bodyPost_ret (v := .tuple #[.agg #[.string (bs []), .string (bs []), .slice none 0 0, .slice none 0 0, .slice none 0 0, .slice none 0 0, .slice none 0 0, .slice none 0 0, .bool false], .bool false]) (by simp [results, Tryz.results27, go_sem]; try rfl) rfl ⟨rfl, below_alloc (Below.refl _ _) _⟩
  · have hd0 : decide (i < 0) = false := decide_eq_false h0
    have hd1 : decide ((0 : Int) ≤ i) = true := decide_eq_true (by omega)
    go_enter Tryz.func27, Tryz.ntmps27
    go_wp2_with (go_at_call 23; refine (len_nil _).mono ?_; rintro e w1 ⟨rfl, rfl⟩)
    exact bodyPost_ret (v := .tuple #[.agg #[.string (bs []), .string (bs []), .slice none 0 0, .slice none 0 0, .slice none 0 0, .slice none 0 0, .slice none 0 0, .slice none 0 0, .bool false], .bool false]) (by simp [results, Tryz.results27, go_sem]; try rfl) rfl ⟨rfl, below_alloc (Below.refl _ _) _⟩
def RetStrs (w : World) (l : List (List UInt8)) (e : Ending) (w' : World) : Prop := ∃ A c, e = .returned (.slice A l.length c) ∧ Strs w' A c l ∧ Below w.heap.size w w'
theorem names_nil (w : World) : Calls Tryz.prog 25 #[.pointer none] w (RetStrs w []) := by
  go_enter Tryz.func25, Tryz.ntmps25
  go_wp2_with (go_at_call 23; refine (len_nil _).mono ?_; rintro e w1 ⟨rfl, rfl⟩)
  refine wp_loop_rounds 1 ?_
  rw [rounds_succ]
  go_wp2
  go_ret
  exact ⟨none, 0, rfl, Slc.nil_ (Nat.zero_le _), Below.refl _ _⟩
set_option maxRecDepth 100000 in
set_option maxHeartbeats 400000 in
theorem names_any (x : Value) (s : List Pkg) (w : World) (hx : Ix w x s) (hs : s.length ≤ 1000000) :
    Calls Tryz.prog 25 #[x] w (RetStrs w (runS s s.length)) := by
  have HX := Lib.hid hx
  obtain ⟨g, A, c, rfl, hB, hp⟩ := hx
  have HL := Lib.hid hp
  have HG := Lib.hid hB
  have hg := hB.lt
  have hbd := hp.bd
  clear hp hB
  go_enter Tryz.func25, Tryz.ntmps25
  go_wp2_with (go_at_call 23; refine (len_any _ s _ HX.out).mono ?_; rintro e w1 ⟨rfl, rfl⟩)
  go_loopw [3, 7] (fun v i wr => ∃ (k : Nat) (t : List (List UInt8)), k ≤ s.length ∧ t.length ≤ k ∧ i = .int .i64 k ∧ t = runS s k ∧ Below w.heap.size w wr ∧ Own wr w.heap.size 9 1 RStr v t) (fun _ i _ => s.length - (intOf i).toNat)
  case atStart => exact ⟨0, [], Nat.zero_le _, Nat.zero_le _, rfl, rfl, Below.refl _ _, Own.nil_ _ _ _ _ _⟩
  case round =>
    obtain ⟨k, t, hk, htk, rfl, ht, hb, ho⟩ := hrel
    obtain ⟨wo, rfl⟩ : ∃ wo : World, wo = wr := ⟨_, rfl⟩
    have HB := Lib.hid hb
    have HO := Lib.hid ho
    have HT := Lib.hid ht
    have c0 := (HG.out.next hb).cell 0
    clear ho ht hb
    by_cases hlt : k < s.length
    · rcases k with _ | j
      · obtain ⟨q, b, o, r, hq, rfl, hr, e0, e1, e2, e3, e4, e5, e6, e7, e8⟩ := HL.out.at_ hlt (Kept.of_below HB.out)
        have HQ := Lib.hid hq
        simp only [Nat.zero_mul, Nat.add_zero] at e0
        clear hq hr e1 e2 e3 e4 e5 e6 e7 e8
        go_wp2
        go_quiet (fail)
        go_wp2_with (at_builtin; refine wpList_append_el (by rfl) _ _ 51 (by rfl) w.heap.size 9 _ 1 16 Tryz.underlying51 infStr' rfl (by omega) RStr _ t (by rfl) ((HO.out.drewN _).alloc _) q.name [.string (bs q.name)] wo.heap.size 1 (by rfl) (blk_new1 _ _ _) rfl rfl (by simp [Value.oneCell']) (by omega) (by omega) (by simp; have := HB.out.size; omega) ?_; intro g' cap w3 ho3 hg3)
        have hb3 := ((HO.out.drewN _).alloc _).below (below_alloc (below_drewN HB.out _) _) (by simp; have := HB.out.size; omega) hg3
        go_roundw
        case rel => exact ⟨1, t ++ [q.name], by omega, by rw [List.length_append, List.length_singleton]; omega, by simp, by rw [HT.out, runS_zero HQ.out]; rfl, hb3, ho3⟩
        case measure => (try simp only [intOf]); omega
      · obtain ⟨q, b, o, r, hq, rfl, hr, e0, e1, e2, e3, e4, e5, e6, e7, e8⟩ := HL.out.at_ hlt (Kept.of_below HB.out)
        have HQ := Lib.hid hq
        clear hq hr e1 e2 e3 e4 e5 e6 e7 e8
        obtain ⟨p, b', o', r', hp, hA, hr', f0, f1, f2, f3, f4, f5, f6, f7, f8⟩ := HL.out.at_ (i := j) (by omega) (Kept.of_below HB.out)
        injection hA with hA
        injection hA with hA1 hA2
        subst hA1 hA2
        have HP := Lib.hid hp
        clear hp hr' f1 f2 f3 f4 f5 f6 f7 f8
        have hw1 : IntKind.i64.wrap ((j : Int) + 1 - 1) = (j : Int) := by rw [IntKind.wrap_i64]; omega
        have hw2 : IntKind.i64.wrap (j : Int) = (j : Int) := by rw [IntKind.wrap_i64]; omega
        have hj0 : (0 : Int) ≤ (j : Int) + 1 := by omega
        have hjt : ((j : Int) + 1).toNat = j + 1 := by omega
        have hj1 : (j : Int) + 1 < (s.length : Int) := by omega
        have hj2 : (j : Int) < (s.length : Int) := by omega
        have hj3 : (0 : Int) ≤ (j : Int) := by omega
        have hz0 : ((j : Int) + 1 == 0) = false := by rw [beq_eq_false_iff_ne]; omega
        by_cases hnm : p.name = q.name
        · have HN := Lib.hid (runS_same HQ.out HP.out hnm)
          have hne : (p.name == q.name) = true := by simpa using hnm
          go_wp2
          go_quiet (fail)
          clear hw1 hw2
          go_wp2
          go_roundw
          case rel => exact ⟨j + 2, t, by omega, by omega, by simp; omega, by rw [HT.out, HN.out], below_drewN HB.out _, HO.out.drewN _⟩
          case measure => (try simp only [intOf]); omega
        · have HN := Lib.hid (runS_new HQ.out HP.out hnm)
          have hne : (p.name == q.name) = false := by simpa using hnm
          clear hnm
          go_wp2
          go_quiet (fail)
          clear hw1 hw2
          go_wp2_with (at_builtin; refine wpList_append_el (by rfl) _ _ 51 (by rfl) w.heap.size 9 _ 1 16 Tryz.underlying51 infStr' rfl (by omega) RStr _ t (by rfl) ((HO.out.drewN _).alloc _) q.name [.string (bs q.name)] wo.heap.size 1 (by rfl) (blk_new1 _ _ _) rfl rfl (by simp [Value.oneCell']) (by omega) (by omega) (by simp; have := HB.out.size; omega) ?_; intro g' cap w3 ho3 hg3)
          have hb3 := ((HO.out.drewN _).alloc _).below (below_alloc (below_drewN HB.out _) _) (by simp; have := HB.out.size; omega) hg3
          go_roundw
          case rel => exact ⟨j + 2, t ++ [q.name], by omega, by rw [List.length_append, List.length_singleton]; omega, by simp; omega, by rw [HT.out, HN.out], hb3, ho3⟩
          case measure => (try simp only [intOf]); omega
    · go_wp2
      go_ret
      have ho := HO.out
      rw [HT.out, show k = s.length by omega] at ho
      obtain ⟨A', c', h1, h2⟩ := ho.slc (z := 16) (by have := runS_len s s.length; omega)
      exact ⟨A', c', by rw [h1]; rfl, h2, HB.out⟩
end Go.Proofs.YtflmocamfedbdaaGreatDoor
