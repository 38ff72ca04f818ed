/- The law IndexNil. -/
import Derived.Test.YtflmocamfedbdaaDoorAwA
namespace Go.Proofs.YtflmocamfedbdaaDoor
set_option linter.unusedSimpArgs false
set_option linter.unusedVariables false
open Go.RowKit
set_option maxRecDepth 100000 in
set_option maxHeartbeats 1000000 in
theorem law_indexNil (i : Int) (n : List UInt8) (a : Atm) (w : World) (_ : -9223372036854775808 ≤ i ∧ i ≤ 9223372036854775807) (_ : short n) (ha : a.ok) :
    Calls Tryd.prog 5 #[.int .i64 i, .string (bs n), (.agg #[.string (bs (a).name), .int .i64 (a).rel, .string (bs (a).ver)])] w fun e w' => e = .returned (.bool true) ∧ Below w.heap.size w w' := by
  go_enter Tryd.func5, Tryd.ntmps5
  go_wp2_with fail
  refine (at_nil i _).mono ?_
  rintro e w1 ⟨rfl, hb1⟩
  have HB := Lib.hid (below_next (below_alloc (Below.refl w.heap.size w) (.cells #[.string (bs (a).name), .int .i64 (a).rel, .string (bs (a).ver)] 32)) hb1)
  have K := Lib.hid ((blk_new1 w 32 #[.string (bs (a).name), .int .i64 (a).rel, .string (bs (a).ver)]).next hb1)
  clear hb1
  go_wp2_with fail
  refine (findIx_nil n n _).mono ?_
  rintro e w2 ⟨rfl, hb2⟩
  have HB := Lib.hid (below_next (below_alloc HB.out (.cells #[.string (bs []), .string (bs []), .slice none 0 0, .slice none 0 0, .slice none 0 0, .slice none 0 0, .slice none 0 0, .slice none 0 0, .bool false] 26)) hb2)
  have K := Lib.hid ((K.out.alloc (.cells #[.string (bs []), .string (bs []), .slice none 0 0, .slice none 0 0, .slice none 0 0, .slice none 0 0, .slice none 0 0, .slice none 0 0, .bool false] 26)).next hb2)
  clear hb2
  go_wp2_with fail
  refine (len_nil _).mono ?_
  rintro e w3 ⟨rfl, rfl⟩
  go_wp2_with fail
  refine (names_nil _).mono ?_
  rintro e w3 ⟨A3, c3, rfl, hs, hb3⟩
  clear hs
  have HB := Lib.hid (below_next HB.out hb3)
  have K := Lib.hid (K.out.next hb3)
  clear hb3
  go_wp2_with fail
  refine (ofIx_nil n _).mono ?_
  rintro e w4 ⟨A4, c4, rfl, hs, hb4⟩
  clear hs
  have HB := Lib.hid (below_next HB.out hb4)
  have K := Lib.hid (K.out.next hb4)
  clear hb4
  obtain ⟨c0, c1, c2⟩ := blk3 K.out
  go_wp2_with fail
  refine (meetsIx_nil a _).mono ?_
  rintro e w5 ⟨A5, c5, rfl, hs, hb5⟩
  clear hs c0 c1 c2
  have HB := Lib.hid (below_next HB.out hb5)
  clear hb5
  go_wp2_with fail
  refine (awake10_any _).mono ?_
  rintro e w6 ⟨rfl, hb6⟩
  go_wp2
  go_ret
  exact ⟨rfl, below_next HB.out hb6⟩
end Go.Proofs.YtflmocamfedbdaaDoor
