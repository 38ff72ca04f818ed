/- Costs held against each other; the contract of law 16's awake. -/
import Derived.Test.YtcbomomlojhghaaDoorStT
import Derived.Test.YtcbomomlojhghaaDoorAwX
import Derived.Laws.StructEq
namespace Go.Proofs.YtcbomomlojhghaaDoor
set_option linter.unusedSimpArgs false
set_option linter.unusedVariables false
open Go.RowKit
theorem cst_in (x y : Cst) (w : World) : (Op.equalIn 10000 37 (.agg #[.int .i64 (x).a, .int .i64 (x).b, .int .i64 (x).c, .int .i64 (x).d, .int .i64 (x).e]) (.agg #[.int .i64 (y).a, .int .i64 (y).b, .int .i64 (y).c, .int .i64 (y).d, .int .i64 (y).e])).run Tryd.prog w = .ok (decide (x = y)) w := by
  have u3 := Tryd.underlying3
  have a3 := Tryd.isAgg3
  have z3 := Tryd.sizeOf3
  rw [show (10000 : Nat) = 9999 + 1 from rfl, Op.equalIn]
  simp only [Sem.run_bind, run_underlying Tryd.underlying37, Result.andThen_ok]
  simp only [Std.Legacy.Range.forIn_eq_forIn_range', Std.Legacy.Range.size, Nat.sub_zero, Nat.add_sub_cancel, Nat.div_one, List.range'_succ, List.range'_zero, List.forIn_cons, List.forIn_nil]
  go_simp
  obtain ⟨a, b, c, d, e⟩ := x
  obtain ⟨a', b', c', d', e'⟩ := y
  by_cases h1 : a = a' <;> by_cases h2 : b = b' <;> by_cases h3 : c = c' <;> by_cases h4 : d = d' <;> by_cases h5 : e = e' <;> simp [h1, h2, h3, h4, h5]
theorem cst_eql (x y : Cst) (w : World) : (binOp .eql 37 (.agg #[.int .i64 (x).a, .int .i64 (x).b, .int .i64 (x).c, .int .i64 (x).d, .int .i64 (x).e]) (.agg #[.int .i64 (y).a, .int .i64 (y).b, .int .i64 (y).c, .int .i64 (y).d, .int .i64 (y).e])).run Tryd.prog w = .ok (.bool (decide (x = y))) w := by
  rw [run_eql_struct, cst_in]
  rfl
def cwA : Pkg := ⟨[97, 97], [50], [], [], [], [], [], [], false⟩
def cwC : Pkg := ⟨[99, 99], [49], [], [], [], [], [], [], false⟩
def cwX : Ent := ⟨⟨[97, 97], [49], [], [], [], [], [], [], false⟩, false, false⟩
def cwY : Ent := ⟨⟨[98, 98], [49], [], [], [], [], [], [], false⟩, false, false⟩
theorem cw_few : fewP [cwA, cwC] := ⟨by decide, fun x hx => by
  simp only [List.mem_cons, List.not_mem_nil, or_false] at hx
  rcases hx with rfl | rfl <;> decide⟩
theorem cw_cost : costS [cwA, cwC] [cwX, cwY] [cwA, cwC] false = ⟨1, 1, 0, 1, 0⟩ := by decide +kernel
set_option maxRecDepth 100000 in
set_option maxHeartbeats 400000 in
theorem cawake_any (w : World) : Calls Tryd.prog 12 #[] w fun e w' => e = .returned (.bool true) ∧ Below w.heap.size w w' := by
  go_enter Tryd.func12, Tryd.ntmps12
  go_wp2_with fail
  have hB1 := (Blk.new w 28 #[.string (bs [97, 97]), .string (bs [50]), .slice none 0 0, .slice none 0 0, .slice none 0 0, .slice none 0 0, .slice none 0 0, .slice none 0 0, .bool false, .string (bs [99, 99]), .string (bs [49]), .slice none 0 0, .slice none 0 0, .slice none 0 0, .slice none 0 0, .slice none 0 0, .slice none 0 0, .bool false]).alloc (.cells #[.string (bs [97, 97]), .string (bs [49]), .slice none 0 0, .slice none 0 0, .slice none 0 0, .slice none 0 0, .slice none 0 0, .slice none 0 0, .bool false, .bool false, .bool false, .string (bs [98, 98]), .string (bs [49]), .slice none 0 0, .slice none 0 0, .slice none 0 0, .slice none 0 0, .slice none 0 0, .slice none 0 0, .bool false, .bool false, .bool false] 58)
  have hB2 := blk_new2 w (.cells #[.string (bs [97, 97]), .string (bs [50]), .slice none 0 0, .slice none 0 0, .slice none 0 0, .slice none 0 0, .slice none 0 0, .slice none 0 0, .bool false, .string (bs [99, 99]), .string (bs [49]), .slice none 0 0, .slice none 0 0, .slice none 0 0, .slice none 0 0, .slice none 0 0, .slice none 0 0, .bool false] 28) 58 #[.string (bs [97, 97]), .string (bs [49]), .slice none 0 0, .slice none 0 0, .slice none 0 0, .slice none 0 0, .slice none 0 0, .slice none 0 0, .bool false, .bool false, .bool false, .string (bs [98, 98]), .string (bs [49]), .slice none 0 0, .slice none 0 0, .slice none 0 0, .slice none 0 0, .slice none 0 0, .slice none 0 0, .bool false, .bool false, .bool false]
  have HK : Below w.heap.size w ((w.alloc (.cells #[.string (bs [97, 97]), .string (bs [50]), .slice none 0 0, .slice none 0 0, .slice none 0 0, .slice none 0 0, .slice none 0 0, .slice none 0 0, .bool false, .string (bs [99, 99]), .string (bs [49]), .slice none 0 0, .slice none 0 0, .slice none 0 0, .slice none 0 0, .slice none 0 0, .slice none 0 0, .bool false] 28)).alloc (.cells #[.string (bs [97, 97]), .string (bs [49]), .slice none 0 0, .slice none 0 0, .slice none 0 0, .slice none 0 0, .slice none 0 0, .slice none 0 0, .bool false, .bool false, .bool false, .string (bs [98, 98]), .string (bs [49]), .slice none 0 0, .slice none 0 0, .slice none 0 0, .slice none 0 0, .slice none 0 0, .slice none 0 0, .bool false, .bool false, .bool false] 58)) := below_alloc (below_alloc (Below.refl _ _) _) _
  have hP : Pkgs _ (some ⟨w.heap.size, 0, none⟩) 2 [cwA, cwC] := slc_of_blk [encK noRaw cwA, encK noRaw cwC] hB1 rfl rfl (fun i cs x h1 h2 => by
    rcases i with _ | _ | i
    · simp at h1 h2
      subst h1 h2
      exact ⟨⟨_, rfl, short_of (by decide), short_of (by decide), Slc.nil_ (Nat.zero_le _), Slc.nil_ (Nat.zero_le _), Slc.nil_ (Nat.zero_le _), Slc.nil_ (Nat.zero_le _), Slc.nil_ (Nat.zero_le _), Slc.nil_ (Nat.zero_le _)⟩, rfl⟩
    · simp at h1 h2
      subst h1 h2
      exact ⟨⟨_, rfl, short_of (by decide), short_of (by decide), Slc.nil_ (Nat.zero_le _), Slc.nil_ (Nat.zero_le _), Slc.nil_ (Nat.zero_le _), Slc.nil_ (Nat.zero_le _), Slc.nil_ (Nat.zero_le _), Slc.nil_ (Nat.zero_le _)⟩, rfl⟩
    · simp at h1) rfl (by decide) (by decide) (by decide)
  have hE : Ents _ (some ⟨w.heap.size + 1, 0, none⟩) 2 [cwX, cwY] := slc_of_blk [encE noRaw cwX, encE noRaw cwY] hB2 rfl rfl (fun i cs x h1 h2 => by
    rcases i with _ | _ | i
    · simp at h1 h2
      subst h1 h2
      exact ⟨⟨_, rfl, short_of (by decide), short_of (by decide), Slc.nil_ (Nat.zero_le _), Slc.nil_ (Nat.zero_le _), Slc.nil_ (Nat.zero_le _), Slc.nil_ (Nat.zero_le _), Slc.nil_ (Nat.zero_le _), Slc.nil_ (Nat.zero_le _)⟩, rfl⟩
    · simp at h1 h2
      subst h1 h2
      exact ⟨⟨_, rfl, short_of (by decide), short_of (by decide), Slc.nil_ (Nat.zero_le _), Slc.nil_ (Nat.zero_le _), Slc.nil_ (Nat.zero_le _), Slc.nil_ (Nat.zero_le _), Slc.nil_ (Nat.zero_le _), Slc.nil_ (Nat.zero_le _)⟩, rfl⟩
    · simp at h1) rfl (by decide) (by decide) (by decide)
  refine (costOf_any (some ⟨w.heap.size, 0, none⟩) 2 [cwA, cwC] (some ⟨w.heap.size + 1, 0, none⟩) 2 [cwX, cwY] (some ⟨w.heap.size, 0, none⟩) 2 [cwA, cwC] false _ hP hE hP cw_few (by decide)).mono ?_
  rintro e w1 ⟨rfl, hb⟩
  rw [cw_cost]
  have hb2 := below_next HK hb
  have hq : ∀ W, (binOp .eql 37 (.agg #[.int .i64 1, .int .i64 1, .int .i64 0, .int .i64 1, .int .i64 0]) (.agg #[.int .i64 1, .int .i64 1, .int .i64 0, .int .i64 1, .int .i64 0])).run Tryd.prog W = .ok (.bool true) W := fun W => cst_eql ⟨1, 1, 0, 1, 0⟩ ⟨1, 1, 0, 1, 0⟩ W
  clear hB1 hB2 hP hE HK
  go_wp2
  go_ret
  exact ⟨rfl, hb2⟩
end Go.Proofs.YtcbomomlojhghaaDoor
