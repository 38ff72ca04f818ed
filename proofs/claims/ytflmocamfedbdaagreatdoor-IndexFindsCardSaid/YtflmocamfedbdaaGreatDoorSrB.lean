/- The contract of the reference's Names. -/
import Derived.Test.YtflmocamfedbdaaGreatDoorSrA
import Derived.Test.YtflmocamfedbdaaGreatDoorNl
namespace Go.Proofs.YtflmocamfedbdaaGreatDoor
set_option linter.unusedSimpArgs false
set_option linter.unusedVariables false
open Go.RowKit
attribute [local go_sem ↓] Go.wp_at_zero Go.wp_at_succ
seal wpQuiet

theorem insN_at {n : List UInt8} : ∀ {l : List (List UInt8)} {j : Nat}, (∀ x ∈ l.take j, Op.bytesLess x n = true) → (l.length ≤ j ∨ ∃ x, l[j]? = some x ∧ Op.bytesLess x n = false ∧ x ≠ n) → insN l n = l.take j ++ n :: l.drop j
  | [], j, _, _ => by simp [insN]
  | x :: l, 0, _, h => by
    rcases h with h | ⟨y, hy, h1, h2⟩
    · simp at h
    · simp at hy; subst hy; simp [insN, h1, h2]
  | x :: l, j + 1, h0, h => by
    have hx : Op.bytesLess x n = true := h0 x (by simp)
    have := insN_at (l := l) (j := j) (fun y hy => h0 y (by simp [hy])) (by
      rcases h with h | ⟨y, hy, h1, h2⟩
      · exact .inl (by simpa using h)
      · exact .inr ⟨y, by simpa using hy, h1, h2⟩)
    simp [insN, hx, this]
theorem bl_self (n : List UInt8) : Op.bytesLess n n = false := by
  rcases h : Op.bytesLess n n
  · rfl
  · have h1 : cmpB n n = -1 := by simp [cmpB, h]
    rw [cmpB_zero.2 rfl] at h1
    cases h1
theorem insN_in {n : List UInt8} : ∀ {l : List (List UInt8)} {j : Nat}, (∀ x ∈ l.take j, Op.bytesLess x n = true) → l[j]? = some n → insN l n = l
  | [], j, _, h => by simp at h
  | x :: l, 0, _, h => by
    simp at h; subst h; simp [insN, bl_self]
  | x :: l, j + 1, h0, h => by
    have hx : Op.bytesLess x n = true := h0 x (by simp)
    have := insN_in (l := l) (j := j) (fun y hy => h0 y (by simp [hy])) (by simpa using h)
    simp [insN, hx, this]
theorem nmR_snoc (l : List Pkg) (p : Pkg) : nmR (l ++ [p]) = insN (nmR l) p.name := by simp [nmR]
theorem insN_len (n : List UInt8) : ∀ l : List (List UInt8), (insN l n).length ≤ l.length + 1
  | [] => by simp [insN]
  | x :: l => by
    have := insN_len n l
    unfold insN
    split
    · simp; omega
    · split <;> simp
theorem nmR_len (l : List Pkg) : (nmR l).length ≤ l.length := by
  have : ∀ (l : List Pkg) (ns : List (List UInt8)), (l.foldl (fun ns p => insN ns p.name) ns).length ≤ ns.length + l.length := by
    intro l
    induction l with
    | nil => intro ns; simp
    | cons p l ih =>
      intro ns
      have h1 := ih (insN ns p.name)
      have h2 := insN_len p.name ns
      simp only [List.foldl_cons, List.length_cons]
      omega
  simpa [nmR] using this l []
theorem str_one : ∀ cs y, RStr cs y → ∀ u ∈ cs, u.oneCell' = true := fun cs y h u hu => by
  subst h
  simp at hu
  subst hu
  rfl
theorem Strs.of_own {W : World} {B : Nat} {v : Value} {l : List (List UInt8)} (h : Own W B 9 1 RStr v l) (hz : l.length * 16 ≤ 140737488351232) : ∃ A c, v = .slice A l.length c ∧ Strs W A c l ∧ ((A = none ∧ c = 0 ∧ l = []) ∨ ∃ g, A = some ⟨g, 0, none⟩) := by
  have hf := own_form h
  obtain ⟨A, c, h1, h2⟩ := h.slc (z := 16) hz
  refine ⟨A, c, h1, h2, ?_⟩
  rcases hf with ⟨hf, hl⟩ | ⟨g, cap, hf⟩
  · rw [hf] at h1
    injection h1 with h1 h3 h4
    exact .inl ⟨h1.symm, h4.symm, hl⟩
  · rw [hf] at h1
    injection h1 with h1 h3 h4
    exact .inr ⟨g, h1.symm⟩
theorem Slc.dropS {α : Type} {w : World} {z : Nat} {R : List Value → α → Prop} {b o c : Nat} {l : List α} (h : Slc w 1 z R (some ⟨b, o, none⟩) c l) (n : Nat) (hn : n ≤ l.length) : Slc w 1 z R (some ⟨b, o + n, none⟩) (c - n) (l.drop n) := by
  have := Slc.drop h n hn
  rwa [Nat.mul_one] at this
theorem Slc.dropS0 {α : Type} {w : World} {z : Nat} {R : List Value → α → Prop} {b c : Nat} {l : List α} (h : Slc w 1 z R (some ⟨b, 0, none⟩) c l) (n : Nat) (hn : n ≤ l.length) : Slc w 1 z R (some ⟨b, n, none⟩) (c - n) (l.drop n) := by
  have := Slc.drop0 h n hn
  rwa [Nat.mul_one] at this
set_option maxRecDepth 100000 in
set_option maxHeartbeats 4000000 in
theorem rNames_any (A : Option Addr) (c : Nat) (l : List Pkg) (w : World) (hl : Pkgs w A c l) (hn : l.length ≤ 1000) :
    Calls Tryz.prog 26 #[.slice A l.length c] w fun e w' => ∃ B d, e = .returned (.slice B (nmR l).length d) ∧ Strs w' B d (nmR l) ∧ Below w.heap.size w w' := by
  have hbd := hl.bd
  have HL := Lib.hid hl
  clear hl
  go_enter Tryz.func26, Tryz.ntmps26
  go_wp2
  go_loopw [3, 9] (fun v i wr => ∃ (k : Nat) (s : List (List UInt8)), k ≤ l.length ∧ i = .int .i64 k ∧ s = nmR (l.take k) ∧ Below w.heap.size w wr ∧ Own wr w.heap.size 9 1 RStr v s) (fun _ i _ => l.length - (intOf i).toNat)
  case atStart => exact ⟨0, [], Nat.zero_le _, rfl, rfl, Below.refl _ _, Own.nil_ _ _ _ _ _⟩
  case round =>
    obtain ⟨k, s, hk, rfl, hs, hb, ho⟩ := hrel
    obtain ⟨wo, rfl⟩ : ∃ wo : World, wo = wr := ⟨_, rfl⟩
    have hsk : s.length ≤ k := by
      have := nmR_len (l.take k)
      rw [hs]
      rw [List.length_take] at this
      omega
    have hsl : s.length ≤ 1000 := by omega
    have HS := Lib.hid hs
    have HSk := Lib.hid hsk
    have HB := Lib.hid hb
    have HO := Lib.hid ho
    clear hs hsk hb ho
    by_cases hlt : k < l.length
    · obtain ⟨p, b, o, r, hp, rfl, hr, e0, e1, e2, e3, e4, e5, e6, e7, e8⟩ := HL.out.at_ hlt (Kept.of_below HB.out)
      have HP := Lib.hid hp
      clear hp hr
      go_wp2
      have K1 := Lib.hid (blk_new1 wo 26 #[.string (bs (p).name), .string (bs (p).ver), .slice (r).a1 (p).pre.length (r).c1, .slice (r).a2 (p).dep.length (r).c2, .slice (r).a3 (p).rcm.length (r).c3, .slice (r).a4 (p).con.length (r).c4, .slice (r).a5 (p).brk.length (r).c5, .slice (r).a6 (p).prv.length (r).c6, .bool (p).ess])
      have HB1 := Lib.hid (below_alloc HB.out (.cells #[.string (bs (p).name), .string (bs (p).ver), .slice (r).a1 (p).pre.length (r).c1, .slice (r).a2 (p).dep.length (r).c2, .slice (r).a3 (p).rcm.length (r).c3, .slice (r).a4 (p).con.length (r).c4, .slice (r).a5 (p).brk.length (r).c5, .slice (r).a6 (p).prv.length (r).c6, .bool (p).ess] 26))
      have HO1 := Lib.hid (HO.out.alloc (.cells #[.string (bs (p).name), .string (bs (p).ver), .slice (r).a1 (p).pre.length (r).c1, .slice (r).a2 (p).dep.length (r).c2, .slice (r).a3 (p).rcm.length (r).c3, .slice (r).a4 (p).con.length (r).c4, .slice (r).a5 (p).brk.length (r).c5, .slice (r).a6 (p).prv.length (r).c6, .bool (p).ess] 26))
      clear e0 e1 e2 e3 e4 e5 e6 e7 e8 HB HO
      generalize World.alloc _ _ = W at K1 HB1 HO1 ⊢
      generalize wo.heap.size = g at K1 ⊢
      obtain ⟨A2, c2, rfl, hps, hA2⟩ := Strs.of_own HO1.out (by omega)
      have HA2 := Lib.hid hA2
      clear hA2
      have hbd2 := hps.bd
      have HPS := Lib.hid hps
      clear hps
      go_loopw [6] (fun i wr => ∃ j : Nat, j ≤ s.length ∧ i = .int .i64 j ∧ (∀ x ∈ s.take j, Op.bytesLess x p.name = true) ∧ Below W.heap.size W wr) (fun i _ => s.length - (intOf i).toNat)
      case atStart => exact ⟨0, Nat.zero_le _, rfl, fun x hx => by simp at hx, Below.refl _ _⟩
      case round =>
        obtain ⟨j, hj, rfl, hjl, hb⟩ := hrel
        obtain ⟨wi, rfl⟩ : ∃ wi : World, wi = wr := ⟨_, rfl⟩
        have HBi := Lib.hid hb
        have HJ := Lib.hid hjl
        obtain ⟨c0, c1, c2', c3, c4, c5, c6, c7, c8⟩ := blk9 (K1.out.next hb)
        clear hb hjl c1 c2' c3 c4 c5 c6 c7 c8
        have q0 := fun p : Be wi => Be.cell c0 p
        clear c0
        by_cases hjk : j < s.length
        · obtain ⟨x, b', o', hx, rfl, f0⟩ := HPS.out.at_ hjk (Kept.of_below HBi.out)
          have HX := Lib.hid hx
          clear hx
          have u0 := fun p : Be wi => Be.cell f0 p
          have F0 := Lib.hid f0
          clear f0
          have hj0 : (0 : Int) ≤ (j : Int) := Int.natCast_nonneg _
          have hj1 : (j : Int) < (s.length : Int) := by omega
          have hjd : decide ((j : Int) < (s.length : Int)) = true := decide_eq_true hj1
          have hje : decide ((j : Int) = (s.length : Int)) = false := decide_eq_false (by omega)
          have hje2 : ((j : Int) == (s.length : Int)) = false := by simp; omega
          rcases hbl : Op.bytesLess x p.name
          · by_cases hne : x = p.name
            · subst hne
              have HEX := Lib.hid (insN_in HJ.out HX.out)
              have hnb : (p.name == p.name) = true := by simp
              go_wp2_with fail
              refine region_be (by kernel_rfl) (by kernel_rfl) ?_
              repeat (quiet_step (fail))
              refine wpQuiet_nil ?_
              intro _ hw'
              obtain ⟨pb, hw''⟩ := hw'
              subst hw''
              obtain ⟨W1, hbw⟩ := pb
              dsimp only
              have f0 := Kept.of_below hbw _ _ F0.out
              clear u0
              have HBi := Lib.hid (below_next HBi.out hbw)
              clear hbw q0
              obtain ⟨c0, c1, c2', c3, c4, c5, c6, c7, c8⟩ := blk9 (K1.out.next HBi.out)
              clear c1 c2' c3 c4 c5 c6 c7 c8
              have q0 := fun p : Be W1 => Be.cell c0 p
              clear c0
              have u0 := fun p : Be W1 => Be.cell f0 p
              clear f0
              go_wp2_with fail
              refine region_be (by kernel_rfl) (by kernel_rfl) ?_
              repeat (quiet_step (fail))
              refine wpQuiet_nil ?_
              intro _ hw'
              obtain ⟨pb, hw''⟩ := hw'
              subst hw''
              obtain ⟨W2, hbw⟩ := pb
              dsimp only
              have HB2 := Lib.hid (below_next HB1.out (below_next HBi.out hbw))
              have HO2 := Lib.hid (HO1.out.next (below_next HBi.out hbw))
              clear hbw
              go_wp2
              go_roundw
              case rel => exact ⟨k + 1, s, by omega, by simp, by rw [take_step HP.out, nmR_snoc, ← HS.out, HEX.out], HB2.out, HO2.out⟩
              case measure => (try simp only [intOf]); omega
            · have hnb : (x == p.name) = false := by simpa using hne
              have HEX := Lib.hid (show s.length ≤ j ∨ ∃ x, s[j]? = some x ∧ Op.bytesLess x p.name = false ∧ x ≠ p.name from .inr ⟨x, HX.out, hbl, hne⟩)
              clear hne
              go_wp2_with fail
              refine region_be (by kernel_rfl) (by kernel_rfl) ?_
              repeat (quiet_step (fail))
              refine wpQuiet_nil ?_
              intro _ hw'
              obtain ⟨pb, hw''⟩ := hw'
              subst hw''
              obtain ⟨W1, hbw⟩ := pb
              dsimp only
              have f0 := Kept.of_below hbw _ _ F0.out
              clear u0
              have HBi := Lib.hid (below_next HBi.out hbw)
              clear hbw q0
              obtain ⟨c0, c1, c2', c3, c4, c5, c6, c7, c8⟩ := blk9 (K1.out.next HBi.out)
              clear c1 c2' c3 c4 c5 c6 c7 c8
              have q0 := fun p : Be W1 => Be.cell c0 p
              clear c0
              have u0 := fun p : Be W1 => Be.cell f0 p
              clear f0
              go_wp2_with fail
              refine region_be (by kernel_rfl) (by kernel_rfl) ?_
              repeat (quiet_step (fail))
              refine wpQuiet_nil ?_
              intro _ hw'
              obtain ⟨pb, hw''⟩ := hw'
              subst hw''
              obtain ⟨W2, hbw⟩ := pb
              dsimp only
              have hj7 : (j : Int) ≤ (c2 : Int) := by omega
              have hj8 : ¬ c2 = j := by omega
              have HIN := Lib.hid (insN_at HJ.out HEX.out)
              have HB2 := Lib.hid (below_next HB1.out (below_next HBi.out hbw))
              have HO2 := Lib.hid (HO1.out.next (below_next HBi.out hbw))
              have K2 := Lib.hid (K1.out.next (below_next HBi.out hbw))
              clear hbw
              have htk : (s.take j).length = j := by rw [List.length_take]; omega
              have HTK := Lib.hid htk
              have HTD := Lib.hid (show (s.drop j).length = (s.length - j) by have h := List.length_drop (i := j) (l := s); omega)
              have HBy1 := Lib.hid (show (([] : List (List UInt8)).length + (s.take j).length) * 16 ≤ 140737488355328 by simp; omega)
              have HBy2 := Lib.hid (show ((s.take j).length + 1) * 16 ≤ 140737488355328 by omega)
              have HBy3 := Lib.hid (show ((s.take j ++ [p.name]).length + (s.drop j).length) * 16 ≤ 140737488355328 by rw [List.length_append, List.length_drop, htk]; simp; omega)
              clear htk
              have HSW := Lib.hid (Own.slcOf (z := 16) HO2.out (by omega))
              have HS1 := Lib.hid (show Slc W2 1 16 RStr (some ⟨b', o', none⟩) c2 (s.take j) from (Slc.take HSW.out j))
              have HS2 := Lib.hid (show Slc W2 1 16 RStr (some ⟨b', o' + j, none⟩) (c2 - j) (s.drop j) from (Slc.dropS HSW.out j (by omega)))
              have hjt : ((j : Int)).toNat = j := Int.toNat_natCast _
              have hj5 : (0 : Int) ≤ (j : Int) := Int.natCast_nonneg _
              have hj6 : (j : Int) ≤ (s.length : Int) := by omega
              go_wp2_with fail
              have a0 := fun (w2 : World) (h : Hid (Below W2.heap.size W2 w2)) => (blk9 (K2.out.next h.out)).1
              go_region_held3 (fun w' => Hid (Below W2.heap.size W2 w')) (first | with_reducible assumption | exact hbC | exact hbB | exact hbA | exact Lib.hid (below_drewN (Below.refl _ _) 1) | (have hh := (by assumption : Hid (Below W2.heap.size W2 _)); exact Lib.hid (below_alloc hh.out _)))
                (first | (have hh := (by assumption : Hid (Below W2.heap.size W2 _)); refine step_append_all (by rfl) _ _ 51 (by rfl) W2.heap.size 9 _ 1 16 16 Tryz.underlying51 infStr' rfl (by omega) RStr _ [] (by rfl) (Own.nil_ _ _ _ _ _) (some ⟨b', o', none⟩) c2 (s.take j) (by rw [HTK.out]; rfl) (Slc.mono HS1.out (Kept.of_below hh.out) fun _ _ h => h) str_one HBy1.out (by omega) hh.out.size ?_; intro v1 y1 ho1 hg1; have hbA := Lib.hid ((Own.nil_ _ W2.heap.size 9 1 RStr).below hh.out hh.out.size hg1); rw [List.nil_append] at ho1) | (have hh := (by assumption : Hid (Below W2.heap.size W2 _)); refine step_append_el (by rfl) _ _ 51 (by rfl) W2.heap.size 9 _ 1 16 Tryz.underlying51 infStr' rfl (by omega) RStr v1 (s.take j) (by rfl) (by first | exact ho1 | exact ho1.alloc _ | exact ho1.drew | exact (ho1.alloc _).drew | exact (ho1.drew).alloc _) p.name [.string (bs p.name)] _ 1 (by rfl) (by first | exact Blk.new _ _ _ | exact blk_grown0 (blk_new1 W2 9 #[.string (bs p.name)]) hg1) rfl rfl (by simp [Value.oneCell']) HBy2.out (by omega) hh.out.size ?_; intro g2 cap2 y2 ho2 hg2; have hbB := Lib.hid (show Below W2.heap.size W2 y2 from by first | exact (ho1.alloc _).below hh.out hh.out.size hg2 | exact ho1.below hh.out hh.out.size hg2)) | (have hh := (by assumption : Hid (Below W2.heap.size W2 _)); refine step_append_all (by rfl) _ _ 51 (by rfl) W2.heap.size 9 _ 1 16 16 Tryz.underlying51 infStr' rfl (by omega) RStr _ (s.take j ++ [p.name]) (by rfl) ho2 (some ⟨b', o' + j, none⟩) (c2 - j) (s.drop j) (by first | (rw [HTD.out]; rfl) | (rw [show (s.drop j).length = s.length - j from List.length_drop ..]; rfl)) (Slc.mono HS2.out (Kept.of_below hh.out) fun _ _ h => h) str_one HBy3.out (by omega) hh.out.size ?_; intro v3 y3 ho3 hg3; have hbC := Lib.hid (ho2.below hh.out hh.out.size hg3)))
              clear a0
              all_goals go_wp2_with fail
              all_goals go_roundw
              all_goals first
                | (case rel => exact ⟨k + 1, s.take j ++ p.name :: s.drop j, by omega, by simp, by rw [take_step HP.out, nmR_snoc, ← HS.out, HIN.out], below_next HB2.out hbC.out, (by have h := ho3.down HB2.out.size; rw [List.append_assoc] at h; exact h)⟩)
                | (case measure => (try simp only [intOf]); omega)
          · have HLT := Lib.hid hbl
            go_wp2_with fail
            refine region_be (by kernel_rfl) (by kernel_rfl) ?_
            repeat (quiet_step (fail))
            refine wpQuiet_nil ?_
            intro _ hw'
            obtain ⟨pb, hw''⟩ := hw'
            subst hw''
            obtain ⟨W2, hbw⟩ := pb
            dsimp only
            have HB2 := Lib.hid (below_next HBi.out hbw)
            clear hbw
            go_wp2
            go_roundw
            case rel => exact ⟨j + 1, by omega, by simp, fun z hz => (by
              rw [take_step HX.out, List.mem_append, List.mem_singleton] at hz
              rcases hz with hz | rfl
              · exact HJ.out z hz
              · exact HLT.out), HB2.out⟩
            case measure => (try simp only [intOf]); omega
        · have hjd : decide ((j : Int) < (s.length : Int)) = false := decide_eq_false (by omega)
          have hje : decide ((j : Int) = (s.length : Int)) = true := decide_eq_true (by omega)
          have hje2 : ((j : Int) == (s.length : Int)) = true := by simp; omega
          have HEX := Lib.hid (show s.length ≤ j ∨ ∃ x, s[j]? = some x ∧ Op.bytesLess x p.name = false ∧ x ≠ p.name from .inl (by omega))
          go_wp2_with fail
          refine region_be (by kernel_rfl) (by kernel_rfl) ?_
          repeat (quiet_step (fail))
          refine wpQuiet_nil ?_
          intro _ hw'
          obtain ⟨pb, hw''⟩ := hw'
          subst hw''
          obtain ⟨W1, hbw⟩ := pb
          dsimp only
          have HBi := Lib.hid (below_next HBi.out hbw)
          clear hbw q0
          obtain ⟨c0, c1, c2', c3, c4, c5, c6, c7, c8⟩ := blk9 (K1.out.next HBi.out)
          clear c1 c2' c3 c4 c5 c6 c7 c8
          have q0 := fun p : Be W1 => Be.cell c0 p
          clear c0
          go_wp2_with fail
          refine region_be (by kernel_rfl) (by kernel_rfl) ?_
          repeat (quiet_step (fail))
          refine wpQuiet_nil ?_
          intro _ hw'
          obtain ⟨pb, hw''⟩ := hw'
          subst hw''
          obtain ⟨W2, hbw⟩ := pb
          dsimp only
          by_cases hcj : c2 = j
          · cases hcj
            obtain ⟨j, rfl⟩ : ∃ j' : Nat, j' = c2 := ⟨_, rfl⟩
            have hj7 : (j : Int) ≤ (j : Int) := by omega
            rcases A2 with _ | ad
            · have HIN := Lib.hid (insN_at HJ.out HEX.out)
              have HB2 := Lib.hid (below_next HB1.out (below_next HBi.out hbw))
              have HO2 := Lib.hid (HO1.out.next (below_next HBi.out hbw))
              have K2 := Lib.hid (K1.out.next (below_next HBi.out hbw))
              clear hbw
              have htk : (s.take j).length = j := by rw [List.length_take]; omega
              have HTK := Lib.hid htk
              have HTD := Lib.hid (show (s.drop j).length = 0 by have h := List.length_drop (i := j) (l := s); omega)
              have HBy1 := Lib.hid (show (([] : List (List UInt8)).length + (s.take j).length) * 16 ≤ 140737488355328 by simp; omega)
              have HBy2 := Lib.hid (show ((s.take j).length + 1) * 16 ≤ 140737488355328 by omega)
              have HBy3 := Lib.hid (show ((s.take j ++ [p.name]).length + (s.drop j).length) * 16 ≤ 140737488355328 by rw [List.length_append, List.length_drop, htk]; simp; omega)
              clear htk
              have HSW := Lib.hid (Own.slcOf (z := 16) HO2.out (by omega))
              have HS1 := Lib.hid (show Slc W2 1 16 RStr none j (s.take j) from (Slc.take HSW.out j))
              have HS2 := Lib.hid (show Slc W2 1 16 RStr none 0 (s.drop j) from (Slc.dropEnd (by omega) (by omega)))
              have hjt : ((j : Int)).toNat = j := Int.toNat_natCast _
              have hj5 : (0 : Int) ≤ (j : Int) := Int.natCast_nonneg _
              have hj6 : (j : Int) ≤ (s.length : Int) := by omega
              go_wp2_with fail
              have a0 := fun (w2 : World) (h : Hid (Below W2.heap.size W2 w2)) => (blk9 (K2.out.next h.out)).1
              go_region_held3 (fun w' => Hid (Below W2.heap.size W2 w')) (first | with_reducible assumption | exact hbC | exact hbB | exact hbA | exact Lib.hid (below_drewN (Below.refl _ _) 1) | (have hh := (by assumption : Hid (Below W2.heap.size W2 _)); exact Lib.hid (below_alloc hh.out _)))
                (first | (have hh := (by assumption : Hid (Below W2.heap.size W2 _)); refine step_append_all (by rfl) _ _ 51 (by rfl) W2.heap.size 9 _ 1 16 16 Tryz.underlying51 infStr' rfl (by omega) RStr _ [] (by rfl) (Own.nil_ _ _ _ _ _) none j (s.take j) (by rw [HTK.out]; rfl) (Slc.mono HS1.out (Kept.of_below hh.out) fun _ _ h => h) str_one HBy1.out (by omega) hh.out.size ?_; intro v1 y1 ho1 hg1; have hbA := Lib.hid ((Own.nil_ _ W2.heap.size 9 1 RStr).below hh.out hh.out.size hg1); rw [List.nil_append] at ho1) | (have hh := (by assumption : Hid (Below W2.heap.size W2 _)); refine step_append_el (by rfl) _ _ 51 (by rfl) W2.heap.size 9 _ 1 16 Tryz.underlying51 infStr' rfl (by omega) RStr v1 (s.take j) (by rfl) (by first | exact ho1 | exact ho1.alloc _ | exact ho1.drew | exact (ho1.alloc _).drew | exact (ho1.drew).alloc _) p.name [.string (bs p.name)] _ 1 (by rfl) (by first | exact Blk.new _ _ _ | exact blk_grown0 (blk_new1 W2 9 #[.string (bs p.name)]) hg1) rfl rfl (by simp [Value.oneCell']) HBy2.out (by omega) hh.out.size ?_; intro g2 cap2 y2 ho2 hg2; have hbB := Lib.hid (show Below W2.heap.size W2 y2 from by first | exact (ho1.alloc _).below hh.out hh.out.size hg2 | exact ho1.below hh.out hh.out.size hg2)) | (have hh := (by assumption : Hid (Below W2.heap.size W2 _)); refine step_append_all (by rfl) _ _ 51 (by rfl) W2.heap.size 9 _ 1 16 16 Tryz.underlying51 infStr' rfl (by omega) RStr _ (s.take j ++ [p.name]) (by rfl) ho2 none 0 (s.drop j) (by first | (rw [HTD.out]; rfl) | (rw [show (s.drop j).length = s.length - j from List.length_drop ..]; rfl)) (Slc.mono HS2.out (Kept.of_below hh.out) fun _ _ h => h) str_one HBy3.out (by omega) hh.out.size ?_; intro v3 y3 ho3 hg3; have hbC := Lib.hid (ho2.below hh.out hh.out.size hg3)))
              clear a0
              all_goals go_wp2_with fail
              all_goals go_roundw
              all_goals first
                | (case rel => exact ⟨k + 1, s.take j ++ p.name :: s.drop j, by omega, by simp, by rw [take_step HP.out, nmR_snoc, ← HS.out, HIN.out], below_next HB2.out hbC.out, (by have h := ho3.down HB2.out.size; rw [List.append_assoc] at h; exact h)⟩)
                | (case measure => (try simp only [intOf]); omega)
            · have HIN := Lib.hid (insN_at HJ.out HEX.out)
              have HB2 := Lib.hid (below_next HB1.out (below_next HBi.out hbw))
              have HO2 := Lib.hid (HO1.out.next (below_next HBi.out hbw))
              have K2 := Lib.hid (K1.out.next (below_next HBi.out hbw))
              clear hbw
              have htk : (s.take j).length = j := by rw [List.length_take]; omega
              have HTK := Lib.hid htk
              have HTD := Lib.hid (show (s.drop j).length = 0 by have h := List.length_drop (i := j) (l := s); omega)
              have HBy1 := Lib.hid (show (([] : List (List UInt8)).length + (s.take j).length) * 16 ≤ 140737488355328 by simp; omega)
              have HBy2 := Lib.hid (show ((s.take j).length + 1) * 16 ≤ 140737488355328 by omega)
              have HBy3 := Lib.hid (show ((s.take j ++ [p.name]).length + (s.drop j).length) * 16 ≤ 140737488355328 by rw [List.length_append, List.length_drop, htk]; simp; omega)
              clear htk
              have HSW := Lib.hid (Own.slcOf (z := 16) HO2.out (by omega))
              have HS1 := Lib.hid (show Slc W2 1 16 RStr (some ad) j (s.take j) from (Slc.take HSW.out j))
              have HS2 := Lib.hid (show Slc W2 1 16 RStr (some ad) 0 (s.drop j) from (Slc.dropEnd (by omega) (by omega)))
              have hjt : ((j : Int)).toNat = j := Int.toNat_natCast _
              have hj5 : (0 : Int) ≤ (j : Int) := Int.natCast_nonneg _
              have hj6 : (j : Int) ≤ (s.length : Int) := by omega
              go_wp2_with fail
              have a0 := fun (w2 : World) (h : Hid (Below W2.heap.size W2 w2)) => (blk9 (K2.out.next h.out)).1
              go_region_held3 (fun w' => Hid (Below W2.heap.size W2 w')) (first | with_reducible assumption | exact hbC | exact hbB | exact hbA | exact Lib.hid (below_drewN (Below.refl _ _) 1) | (have hh := (by assumption : Hid (Below W2.heap.size W2 _)); exact Lib.hid (below_alloc hh.out _)))
                (first | (have hh := (by assumption : Hid (Below W2.heap.size W2 _)); refine step_append_all (by rfl) _ _ 51 (by rfl) W2.heap.size 9 _ 1 16 16 Tryz.underlying51 infStr' rfl (by omega) RStr _ [] (by rfl) (Own.nil_ _ _ _ _ _) (some ad) j (s.take j) (by rw [HTK.out]; rfl) (Slc.mono HS1.out (Kept.of_below hh.out) fun _ _ h => h) str_one HBy1.out (by omega) hh.out.size ?_; intro v1 y1 ho1 hg1; have hbA := Lib.hid ((Own.nil_ _ W2.heap.size 9 1 RStr).below hh.out hh.out.size hg1); rw [List.nil_append] at ho1) | (have hh := (by assumption : Hid (Below W2.heap.size W2 _)); refine step_append_el (by rfl) _ _ 51 (by rfl) W2.heap.size 9 _ 1 16 Tryz.underlying51 infStr' rfl (by omega) RStr v1 (s.take j) (by rfl) (by first | exact ho1 | exact ho1.alloc _ | exact ho1.drew | exact (ho1.alloc _).drew | exact (ho1.drew).alloc _) p.name [.string (bs p.name)] _ 1 (by rfl) (by first | exact Blk.new _ _ _ | exact blk_grown0 (blk_new1 W2 9 #[.string (bs p.name)]) hg1) rfl rfl (by simp [Value.oneCell']) HBy2.out (by omega) hh.out.size ?_; intro g2 cap2 y2 ho2 hg2; have hbB := Lib.hid (show Below W2.heap.size W2 y2 from by first | exact (ho1.alloc _).below hh.out hh.out.size hg2 | exact ho1.below hh.out hh.out.size hg2)) | (have hh := (by assumption : Hid (Below W2.heap.size W2 _)); refine step_append_all (by rfl) _ _ 51 (by rfl) W2.heap.size 9 _ 1 16 16 Tryz.underlying51 infStr' rfl (by omega) RStr _ (s.take j ++ [p.name]) (by rfl) ho2 (some ad) 0 (s.drop j) (by first | (rw [HTD.out]; rfl) | (rw [show (s.drop j).length = s.length - j from List.length_drop ..]; rfl)) (Slc.mono HS2.out (Kept.of_below hh.out) fun _ _ h => h) str_one HBy3.out (by omega) hh.out.size ?_; intro v3 y3 ho3 hg3; have hbC := Lib.hid (ho2.below hh.out hh.out.size hg3)))
              clear a0
              all_goals go_wp2_with fail
              all_goals go_roundw
              all_goals first
                | (case rel => exact ⟨k + 1, s.take j ++ p.name :: s.drop j, by omega, by simp, by rw [take_step HP.out, nmR_snoc, ← HS.out, HIN.out], below_next HB2.out hbC.out, (by have h := ho3.down HB2.out.size; rw [List.append_assoc] at h; exact h)⟩)
                | (case measure => (try simp only [intOf]); omega)
          · rcases HA2.out with ⟨hA0, hA1, hA3⟩ | ⟨g3, hA0⟩
            · exact absurd (show c2 = j by subst hA3; simp at hj; omega) hcj
            · subst hA0
              have hj7 : (j : Int) ≤ (c2 : Int) := by omega
              have hj8 : ¬ c2 = j := hcj
              clear hcj
              have HIN := Lib.hid (insN_at HJ.out HEX.out)
              have HB2 := Lib.hid (below_next HB1.out (below_next HBi.out hbw))
              have HO2 := Lib.hid (HO1.out.next (below_next HBi.out hbw))
              have K2 := Lib.hid (K1.out.next (below_next HBi.out hbw))
              clear hbw
              have htk : (s.take j).length = j := by rw [List.length_take]; omega
              have HTK := Lib.hid htk
              have HTD := Lib.hid (show (s.drop j).length = 0 by have h := List.length_drop (i := j) (l := s); omega)
              have HBy1 := Lib.hid (show (([] : List (List UInt8)).length + (s.take j).length) * 16 ≤ 140737488355328 by simp; omega)
              have HBy2 := Lib.hid (show ((s.take j).length + 1) * 16 ≤ 140737488355328 by omega)
              have HBy3 := Lib.hid (show ((s.take j ++ [p.name]).length + (s.drop j).length) * 16 ≤ 140737488355328 by rw [List.length_append, List.length_drop, htk]; simp; omega)
              clear htk
              have HSW := Lib.hid (Own.slcOf (z := 16) HO2.out (by omega))
              have HS1 := Lib.hid (show Slc W2 1 16 RStr (some ⟨g3, 0, none⟩) c2 (s.take j) from (Slc.take HSW.out j))
              have HS2 := Lib.hid (show Slc W2 1 16 RStr (some ⟨g3, j, none⟩) (c2 - j) (s.drop j) from (Slc.dropS0 HSW.out j (by omega)))
              have hjt : ((j : Int)).toNat = j := Int.toNat_natCast _
              have hj5 : (0 : Int) ≤ (j : Int) := Int.natCast_nonneg _
              have hj6 : (j : Int) ≤ (s.length : Int) := by omega
              go_wp2_with fail
              have a0 := fun (w2 : World) (h : Hid (Below W2.heap.size W2 w2)) => (blk9 (K2.out.next h.out)).1
              go_region_held3 (fun w' => Hid (Below W2.heap.size W2 w')) (first | with_reducible assumption | exact hbC | exact hbB | exact hbA | exact Lib.hid (below_drewN (Below.refl _ _) 1) | (have hh := (by assumption : Hid (Below W2.heap.size W2 _)); exact Lib.hid (below_alloc hh.out _)))
                (first | (have hh := (by assumption : Hid (Below W2.heap.size W2 _)); refine step_append_all (by rfl) _ _ 51 (by rfl) W2.heap.size 9 _ 1 16 16 Tryz.underlying51 infStr' rfl (by omega) RStr _ [] (by rfl) (Own.nil_ _ _ _ _ _) (some ⟨g3, 0, none⟩) c2 (s.take j) (by rw [HTK.out]; rfl) (Slc.mono HS1.out (Kept.of_below hh.out) fun _ _ h => h) str_one HBy1.out (by omega) hh.out.size ?_; intro v1 y1 ho1 hg1; have hbA := Lib.hid ((Own.nil_ _ W2.heap.size 9 1 RStr).below hh.out hh.out.size hg1); rw [List.nil_append] at ho1) | (have hh := (by assumption : Hid (Below W2.heap.size W2 _)); refine step_append_el (by rfl) _ _ 51 (by rfl) W2.heap.size 9 _ 1 16 Tryz.underlying51 infStr' rfl (by omega) RStr v1 (s.take j) (by rfl) (by first | exact ho1 | exact ho1.alloc _ | exact ho1.drew | exact (ho1.alloc _).drew | exact (ho1.drew).alloc _) p.name [.string (bs p.name)] _ 1 (by rfl) (by first | exact Blk.new _ _ _ | exact blk_grown0 (blk_new1 W2 9 #[.string (bs p.name)]) hg1) rfl rfl (by simp [Value.oneCell']) HBy2.out (by omega) hh.out.size ?_; intro g2 cap2 y2 ho2 hg2; have hbB := Lib.hid (show Below W2.heap.size W2 y2 from by first | exact (ho1.alloc _).below hh.out hh.out.size hg2 | exact ho1.below hh.out hh.out.size hg2)) | (have hh := (by assumption : Hid (Below W2.heap.size W2 _)); refine step_append_all (by rfl) _ _ 51 (by rfl) W2.heap.size 9 _ 1 16 16 Tryz.underlying51 infStr' rfl (by omega) RStr _ (s.take j ++ [p.name]) (by rfl) ho2 (some ⟨g3, j, none⟩) (c2 - j) (s.drop j) (by first | (rw [HTD.out]; rfl) | (rw [show (s.drop j).length = s.length - j from List.length_drop ..]; rfl)) (Slc.mono HS2.out (Kept.of_below hh.out) fun _ _ h => h) str_one HBy3.out (by omega) hh.out.size ?_; intro v3 y3 ho3 hg3; have hbC := Lib.hid (ho2.below hh.out hh.out.size hg3)))
              clear a0
              all_goals go_wp2_with fail
              all_goals go_roundw
              all_goals first
                | (case rel => exact ⟨k + 1, s.take j ++ p.name :: s.drop j, by omega, by simp, by rw [take_step HP.out, nmR_snoc, ← HS.out, HIN.out], below_next HB2.out hbC.out, (by have h := ho3.down HB2.out.size; rw [List.append_assoc] at h; exact h)⟩)
                | (case measure => (try simp only [intOf]); omega)
    · have ho := HO.out
      have hs2 := HS.out
      rw [take_end hk hlt] at hs2
      obtain ⟨A2, c2, rfl, hps, _⟩ := Strs.of_own ho (by omega)
      subst hs2
      have HPS := Lib.hid hps
      clear ho hps HO HS
      go_wp2
      go_ret
      exact ⟨A2, c2, rfl, HPS.out, HB.out⟩
end Go.Proofs.YtflmocamfedbdaaGreatDoor
