/- The contract of the reference's Ask: the ask of a line, where it may be. -/
import Derived.Test.YtcbomomlojhghaaDoorRq
import Derived.Test.YtcbomomlojhghaaDoorWd
import Derived.Test.YtcbomomlojhghaaDoorReqA
import Derived.Test.YtcbomomlojhghaaDoorVw
import Derived.Test.YtcbomomlojhghaaDoorAwX
import Derived.Deep.RegionWith
namespace Go.Proofs.YtcbomomlojhghaaDoor
set_option linter.unusedSimpArgs false
set_option linter.unusedVariables false
open Go.RowKit
attribute [local go_sem ↓] Go.wp_at_zero Go.wp_at_succ
theorem ix_strA (l : List UInt8) (p : Nat) (hl : p < l.length) (W : World) : (Instr.index 9 (.string (bs l)) (.int .i64 p)).run Tryd.prog W = .ok (.int .u8 l[p].toNat) W := by
  have h9 := Tryd.underlying9
  have hsz : (bs l).size = l.length := rfl
  go_simp
  rfl
theorem kindN_rng (a : List UInt8) : 0 ≤ kindN a ∧ kindN a ≤ 7 := by
  unfold kindN
  repeat' split
  all_goals omega
theorem kindN_is {a : List UInt8} (h : kindN a ≠ 0) : a = wordQ (kindN a) := by
  unfold kindN at h ⊢
  repeat' split
  all_goals first | assumption | (exfalso; simp_all; done)
/-- the kind, by words before the kth -/
def kindU (k : Nat) (a : List UInt8) : Int := if kindN a < k then kindN a else 0
theorem kindU_zero (a : List UInt8) : kindU 0 a = 0 := by
  have := kindN_rng a
  unfold kindU
  rw [if_neg (by omega)]
theorem kindU_end (a : List UInt8) : kindU 8 a = kindN a := by
  have := kindN_rng a
  unfold kindU
  rw [if_pos (by omega)]
theorem kindU_hit {k : Nat} (h0 : 0 < k) (h8 : k < 8) : kindU (k + 1) (wordQ k) = k := by
  unfold kindU
  rw [kindN_at (by omega) (by omega), if_pos (by omega)]
theorem kindU_miss {k : Nat} {a : List UInt8} (h : 0 < k → a ≠ wordQ k) : kindU (k + 1) a = kindU k a := by
  have hr := kindN_rng a
  unfold kindU
  by_cases hk : kindN a = k
  · rcases Nat.eq_zero_or_pos k with h0 | h0
    · subst h0
      rw [hk]
      rfl
    · exact absurd (by rw [← hk]; exact kindN_is (by omega)) (h h0)
  · by_cases hl : kindN a < k
    · rw [if_pos (by omega), if_pos hl]
    · rw [if_neg (by omega), if_neg hl]
theorem kindN_nil : kindN [] = 0 := by decide +kernel
/-- a place of an '=' in the second word, and that there is none before it -/
theorem cut_at {x : List UInt8} {j : Nat} (hj : x[j]? = some 61) (hn : ∀ c ∈ x.take j, c ≠ 61) : cutS x 61 = (x.take j, x.drop (j + 1), true) := by
  have h : Lib.indexByte x 61 = j := indexByte_at hj fun i hi e => hn 61 (List.mem_of_getElem? (show (x.take j)[i]? = some 61 by rw [List.getElem?_take, if_pos hi, e])) rfl
  unfold cutS
  rw [h, if_pos (Int.natCast_nonneg _), Int.toNat_natCast]
theorem cut_no {x : List UInt8} (hn : ∀ c ∈ x, c ≠ 61) : cutS x 61 = (x, [], false) := by
  have h : Lib.indexByte x 61 = -1 := indexByte_no fun j _ e => hn 61 (List.mem_of_getElem? e) rfl
  unfold cutS
  rw [h, if_neg (by omega)]
theorem mayQ_nam {k : Int} {n : List UInt8} (h : k = 1 ∨ k = 2 ∨ k = 5 ∨ k = 6) : mayQ ⟨k, n, []⟩ = nameS n := by
  rcases h with rfl | rfl | rfl | rfl <;> simp [mayQ, wordQ, namQ]
theorem mayQ_ver {n v : List UInt8} (h : v ≠ []) : mayQ ⟨1, n, v⟩ = (nameS n && isV v) := by
  have h0 : v.isEmpty = false := by simpa using h
  simp [mayQ, wordQ, namQ, verQ, h0]
theorem isV_nil' : isV [] = false := by decide +kernel
theorem parse2_oth {k : Int} {n : List UInt8} (h : k = 2 ∨ k = 5 ∨ k = 6) : parse2 k n = (⟨k, n, []⟩, nameS n) := by
  unfold parse2
  rw [show verQ k = false by rcases h with rfl | rfl | rfl <;> rfl, Bool.and_false, mayQ_nam (by omega)]
  rfl
theorem parse2_no {n : List UInt8} (h : ∀ c ∈ n, c ≠ 61) : parse2 1 n = (⟨1, n, []⟩, nameS n) := by
  unfold parse2
  rw [cut_no h, mayQ_nam (by omega)]
  rfl
theorem parse2_at {n : List UInt8} {j : Nat} (hj : n[j]? = some 61) (hn : ∀ c ∈ n.take j, c ≠ 61) : (isV (n.drop (j + 1)) = false → (parse2 1 n).2 = false) ∧ (isV (n.drop (j + 1)) = true → parse2 1 n = (⟨1, n.take j, n.drop (j + 1)⟩, nameS (n.take j))) := by
  unfold parse2
  rw [cut_at hj hn]
  dsimp only
  by_cases h0 : n.drop (j + 1) = []
  · rw [h0, isV_nil']
    exact ⟨fun _ => rfl, fun h => Bool.noConfusion h⟩
  · rw [mayQ_ver h0, if_neg h0]
    refine ⟨fun h => ?_, fun h => ?_⟩
    · rw [h, Bool.and_false]; rfl
    · rw [h, Bool.and_true]; rfl
/-- an ask, and whether it may be, are returned; the ask counts where it may -/
def RetRa (w : World) (r : Stp × Bool) (e : Ending) (w' : World) : Prop := ∃ (k : Int) (n v : List UInt8), e = .returned (.tuple #[.agg #[.int .i64 k, .string (bs n), .string (bs v)], .bool r.2]) ∧ (r.2 = true → r.1 = ⟨k, n, v⟩) ∧ Below w.heap.size w w'
theorem ix8_0 (W : World) (a b c d e f g h : Value) : (Instr.index 94 (.agg #[a, b, c, d, e, f, g, h]) (.int .i64 0)).run Tryd.prog W = .ok a W := by kernel_rfl
theorem ix8_1 (W : World) (a b c d e f g h : Value) : (Instr.index 94 (.agg #[a, b, c, d, e, f, g, h]) (.int .i64 1)).run Tryd.prog W = .ok b W := by kernel_rfl
theorem ix8_2 (W : World) (a b c d e f g h : Value) : (Instr.index 94 (.agg #[a, b, c, d, e, f, g, h]) (.int .i64 2)).run Tryd.prog W = .ok c W := by kernel_rfl
theorem ix8_3 (W : World) (a b c d e f g h : Value) : (Instr.index 94 (.agg #[a, b, c, d, e, f, g, h]) (.int .i64 3)).run Tryd.prog W = .ok d W := by kernel_rfl
theorem ix8_4 (W : World) (a b c d e f g h : Value) : (Instr.index 94 (.agg #[a, b, c, d, e, f, g, h]) (.int .i64 4)).run Tryd.prog W = .ok e W := by kernel_rfl
theorem ix8_5 (W : World) (a b c d e f g h : Value) : (Instr.index 94 (.agg #[a, b, c, d, e, f, g, h]) (.int .i64 5)).run Tryd.prog W = .ok f W := by kernel_rfl
theorem ix8_6 (W : World) (a b c d e f g h : Value) : (Instr.index 94 (.agg #[a, b, c, d, e, f, g, h]) (.int .i64 6)).run Tryd.prog W = .ok g W := by kernel_rfl
theorem ix8_7 (W : World) (a b c d e f g h : Value) : (Instr.index 94 (.agg #[a, b, c, d, e, f, g, h]) (.int .i64 7)).run Tryd.prog W = .ok h W := by kernel_rfl
set_option maxRecDepth 100000 in
set_option maxHeartbeats 2000000 in
theorem rask_any (l : List UInt8) (hl : l.length ≤ 4294967296) (w : World) : Calls Tryd.prog 44 #[.string (bs l)] w (RetRa w (parseQ (wordsS l))) := by
  obtain ⟨G, hG⟩ : ∃ G, G = parseQ (wordsS l) := ⟨_, rfl⟩
  rw [← hG]
  have HSH := Lib.hid (fun x (hx : x ∈ wordsS l) => show x.length ≤ 4294967296 by
    have := words_short l [] x hx
    simp at this
    omega)
  have K0 := Lib.hid (blk_new1 w 78 #[.int .i64 0, .string (bs []), .string (bs [])])
  have HB0 := Lib.hid (below_alloc (Below.refl w.heap.size w) (.cells #[.int .i64 0, .string (bs []), .string (bs [])] 78))
  have HQ := Lib.hid (rwords_any l hl (w.alloc (.cells #[.int .i64 0, .string (bs []), .string (bs [])] 78)))
  obtain ⟨ws, hws⟩ : ∃ ws, ws = wordsS l := ⟨_, rfl⟩
  rw [← hws] at HQ HSH hG
  have HG := Lib.hid hG
  clear hG hws
  go_enter Tryd.func44, Tryd.ntmps44
  go_wp2_with fail
  refine HQ.out.mono ?_
  rintro e w1 ⟨A, c, rfl, hs, hb⟩
  have K0 := Lib.hid (K0.out.next hb)
  have HB := Lib.hid (below_next HB0.out hb)
  have HLT := Lib.hid (K0.out.lt)
  have HS := Lib.hid hs
  clear hs hb HQ HB0
  rcases ws with _ | ⟨a, rest⟩
  · have HGV := Lib.hid (show G.2 = true → G.1 = ⟨0, [], []⟩ by rw [HG.out]; intro h; cases h)
    have HG := Lib.hid (show G.2 = false by rw [HG.out]; rfl)
    have c0 := K0.out.cell 0
    have c1 := K0.out.cell 1
    have c2 := K0.out.cell 2
    simp only [List.getElem?_toArray, List.getElem?_cons_zero, List.getElem?_cons_succ] at c0 c1 c2
    have f0 := K0.out.frozen 0
    have f1 := K0.out.frozen 1
    have f2 := K0.out.frozen 2
    have hsz := K0.out.lt
    go_wp2
    refine bodyPost_ret (v := .tuple #[.agg #[.int .i64 (0), .string (bs ([])), .string (bs ([]))], .bool (false)]) (by simp [results, Tryd.results44, go_sem, c0, c1, c2, hsz]; try rfl) rfl ?_
    have hb0 := HB.out
    exact ⟨_, _, _, by rw [HG.out], HGV.out, ((hb0.setCell (Nat.le_refl _) _).setCell (Nat.le_refl _) _).setCell (Nat.le_refl _) _⟩
  · obtain ⟨_, g, o, h0, rfl, _⟩ := HS.out.at_ (i := 0) (by simp) (Kept.refl _)
    obtain rfl := Option.some.inj h0
    obtain ⟨n, hn⟩ : ∃ n, n = (a :: rest).length := ⟨_, rfl⟩
    have hn0 : 0 < n := by rw [hn]; simp
    have HNL := Lib.hid hn
    rw [← hn]
    have hne : ((n : Int) == 0) = false := by rw [beq_eq_false_iff_ne]; omega
    clear h0 hn
    go_wp2_with fail
    go_loopw [18] (fun i wr => ∃ k : Nat, k ≤ 8 ∧ i = .int .i64 k ∧ Below w1.heap.size w1 wr ∧ Blk wr w1.heap.size 78 #[.int .i64 (kindU k a), .string (bs []), .string (bs [])]) (fun i _ => 8 - (intOf i).toNat)
    case atStart => exact ⟨0, by omega, rfl, below_alloc (Below.refl _ _) _, by rw [kindU_zero]; exact blk_new1 _ _ _⟩
    case round =>
      obtain ⟨k, hk, rfl, hb, hB⟩ := hrel
      have HBw := Lib.hid hb
      have K5 := Lib.hid hB
      obtain ⟨_, g2, o2, h0, hA, e0⟩ := HS.out.at_ (i := 0) (by simp) (Kept.of_below HBw.out)
      obtain rfl := Option.some.inj h0
      obtain ⟨rfl, rfl⟩ : g = g2 ∧ o = o2 := by injection hA with hA; injection hA with h1 h2; exact ⟨h1, h2⟩
      rw [Nat.add_zero] at e0
      clear hb hB h0 hA
      have p0 := K5.out.cell 0
      have p1 := K5.out.cell 1
      have p2 := K5.out.cell 2
      simp only [List.getElem?_toArray, List.getElem?_cons_zero, List.getElem?_cons_succ] at p0 p1 p2
      have q0 := K5.out.frozen 0
      have q1 := K5.out.frozen 1
      have q2 := K5.out.frozen 2
      obtain rfl | rfl | rfl | rfl | rfl | rfl | rfl | rfl | rfl : k = 0 ∨ k = 1 ∨ k = 2 ∨ k = 3 ∨ k = 4 ∨ k = 5 ∨ k = 6 ∨ k = 7 ∨ k = 8 := by omega
      · have hix := ix8_0
        go_wp2_with fail
        go_roundw
        case rel => exact ⟨1, by omega, rfl, HBw.out, by rw [kindU_miss (k := 0) fun h => absurd h (by omega)]; exact K5.out⟩
        case measure => (try simp only [intOf]); omega
      · by_cases he : a = wordQ 1
        · have HE := Lib.hid (show kindU (1 + 1) a = 1 from he ▸ kindU_hit (k := 1) (by omega) (by omega))
          have heb : (a == wordQ 1) = true := by simpa using he
          have hix := ix8_1
          clear he
          unfold wordQ at heb
          simp only [Int.reduceEq, if_false, if_true] at heb
          go_wp2_with fail
          go_roundw
          case rel => exact ⟨1 + 1, by omega, rfl, HBw.out.setCell (Nat.le_refl _) _, by rw [HE.out]; exact K5.out.set_ 0 _⟩
          case measure => (try simp only [intOf]); omega
        · have HE := Lib.hid (show kindU (1 + 1) a = kindU 1 a from kindU_miss (k := 1) fun _ => he)
          have heb : (a == wordQ 1) = false := by simpa using he
          have hix := ix8_1
          clear he
          unfold wordQ at heb
          simp only [Int.reduceEq, if_false, if_true] at heb
          go_wp2_with fail
          go_roundw
          case rel => exact ⟨1 + 1, by omega, rfl, HBw.out, by rw [HE.out]; exact K5.out⟩
          case measure => (try simp only [intOf]); omega
      · by_cases he : a = wordQ 2
        · have HE := Lib.hid (show kindU (2 + 1) a = 2 from he ▸ kindU_hit (k := 2) (by omega) (by omega))
          have heb : (a == wordQ 2) = true := by simpa using he
          have hix := ix8_2
          clear he
          unfold wordQ at heb
          simp only [Int.reduceEq, if_false, if_true] at heb
          go_wp2_with fail
          go_roundw
          case rel => exact ⟨2 + 1, by omega, rfl, HBw.out.setCell (Nat.le_refl _) _, by rw [HE.out]; exact K5.out.set_ 0 _⟩
          case measure => (try simp only [intOf]); omega
        · have HE := Lib.hid (show kindU (2 + 1) a = kindU 2 a from kindU_miss (k := 2) fun _ => he)
          have heb : (a == wordQ 2) = false := by simpa using he
          have hix := ix8_2
          clear he
          unfold wordQ at heb
          simp only [Int.reduceEq, if_false, if_true] at heb
          go_wp2_with fail
          go_roundw
          case rel => exact ⟨2 + 1, by omega, rfl, HBw.out, by rw [HE.out]; exact K5.out⟩
          case measure => (try simp only [intOf]); omega
      · by_cases he : a = wordQ 3
        · have HE := Lib.hid (show kindU (3 + 1) a = 3 from he ▸ kindU_hit (k := 3) (by omega) (by omega))
          have heb : (a == wordQ 3) = true := by simpa using he
          have hix := ix8_3
          clear he
          unfold wordQ at heb
          simp only [Int.reduceEq, if_false, if_true] at heb
          go_wp2_with fail
          go_roundw
          case rel => exact ⟨3 + 1, by omega, rfl, HBw.out.setCell (Nat.le_refl _) _, by rw [HE.out]; exact K5.out.set_ 0 _⟩
          case measure => (try simp only [intOf]); omega
        · have HE := Lib.hid (show kindU (3 + 1) a = kindU 3 a from kindU_miss (k := 3) fun _ => he)
          have heb : (a == wordQ 3) = false := by simpa using he
          have hix := ix8_3
          clear he
          unfold wordQ at heb
          simp only [Int.reduceEq, if_false, if_true] at heb
          go_wp2_with fail
          go_roundw
          case rel => exact ⟨3 + 1, by omega, rfl, HBw.out, by rw [HE.out]; exact K5.out⟩
          case measure => (try simp only [intOf]); omega
      · by_cases he : a = wordQ 4
        · have HE := Lib.hid (show kindU (4 + 1) a = 4 from he ▸ kindU_hit (k := 4) (by omega) (by omega))
          have heb : (a == wordQ 4) = true := by simpa using he
          have hix := ix8_4
          clear he
          unfold wordQ at heb
          simp only [Int.reduceEq, if_false, if_true] at heb
          go_wp2_with fail
          go_roundw
          case rel => exact ⟨4 + 1, by omega, rfl, HBw.out.setCell (Nat.le_refl _) _, by rw [HE.out]; exact K5.out.set_ 0 _⟩
          case measure => (try simp only [intOf]); omega
        · have HE := Lib.hid (show kindU (4 + 1) a = kindU 4 a from kindU_miss (k := 4) fun _ => he)
          have heb : (a == wordQ 4) = false := by simpa using he
          have hix := ix8_4
          clear he
          unfold wordQ at heb
          simp only [Int.reduceEq, if_false, if_true] at heb
          go_wp2_with fail
          go_roundw
          case rel => exact ⟨4 + 1, by omega, rfl, HBw.out, by rw [HE.out]; exact K5.out⟩
          case measure => (try simp only [intOf]); omega
      · by_cases he : a = wordQ 5
        · have HE := Lib.hid (show kindU (5 + 1) a = 5 from he ▸ kindU_hit (k := 5) (by omega) (by omega))
          have heb : (a == wordQ 5) = true := by simpa using he
          have hix := ix8_5
          clear he
          unfold wordQ at heb
          simp only [Int.reduceEq, if_false, if_true] at heb
          go_wp2_with fail
          go_roundw
          case rel => exact ⟨5 + 1, by omega, rfl, HBw.out.setCell (Nat.le_refl _) _, by rw [HE.out]; exact K5.out.set_ 0 _⟩
          case measure => (try simp only [intOf]); omega
        · have HE := Lib.hid (show kindU (5 + 1) a = kindU 5 a from kindU_miss (k := 5) fun _ => he)
          have heb : (a == wordQ 5) = false := by simpa using he
          have hix := ix8_5
          clear he
          unfold wordQ at heb
          simp only [Int.reduceEq, if_false, if_true] at heb
          go_wp2_with fail
          go_roundw
          case rel => exact ⟨5 + 1, by omega, rfl, HBw.out, by rw [HE.out]; exact K5.out⟩
          case measure => (try simp only [intOf]); omega
      · by_cases he : a = wordQ 6
        · have HE := Lib.hid (show kindU (6 + 1) a = 6 from he ▸ kindU_hit (k := 6) (by omega) (by omega))
          have heb : (a == wordQ 6) = true := by simpa using he
          have hix := ix8_6
          clear he
          unfold wordQ at heb
          simp only [Int.reduceEq, if_false, if_true] at heb
          go_wp2_with fail
          go_roundw
          case rel => exact ⟨6 + 1, by omega, rfl, HBw.out.setCell (Nat.le_refl _) _, by rw [HE.out]; exact K5.out.set_ 0 _⟩
          case measure => (try simp only [intOf]); omega
        · have HE := Lib.hid (show kindU (6 + 1) a = kindU 6 a from kindU_miss (k := 6) fun _ => he)
          have heb : (a == wordQ 6) = false := by simpa using he
          have hix := ix8_6
          clear he
          unfold wordQ at heb
          simp only [Int.reduceEq, if_false, if_true] at heb
          go_wp2_with fail
          go_roundw
          case rel => exact ⟨6 + 1, by omega, rfl, HBw.out, by rw [HE.out]; exact K5.out⟩
          case measure => (try simp only [intOf]); omega
      · by_cases he : a = wordQ 7
        · have HE := Lib.hid (show kindU (7 + 1) a = 7 from he ▸ kindU_hit (k := 7) (by omega) (by omega))
          have heb : (a == wordQ 7) = true := by simpa using he
          have hix := ix8_7
          clear he
          unfold wordQ at heb
          simp only [Int.reduceEq, if_false, if_true] at heb
          go_wp2_with fail
          go_roundw
          case rel => exact ⟨7 + 1, by omega, rfl, HBw.out.setCell (Nat.le_refl _) _, by rw [HE.out]; exact K5.out.set_ 0 _⟩
          case measure => (try simp only [intOf]); omega
        · have HE := Lib.hid (show kindU (7 + 1) a = kindU 7 a from kindU_miss (k := 7) fun _ => he)
          have heb : (a == wordQ 7) = false := by simpa using he
          have hix := ix8_7
          clear he
          unfold wordQ at heb
          simp only [Int.reduceEq, if_false, if_true] at heb
          go_wp2_with fail
          go_roundw
          case rel => exact ⟨7 + 1, by omega, rfl, HBw.out, by rw [HE.out]; exact K5.out⟩
          case measure => (try simp only [intOf]); omega
      · have K5 := Lib.hid (show Blk wr w1.heap.size 78 #[.int .i64 (kindN a), .string (bs []), .string (bs [])] by rw [← kindU_end]; exact K5.out)
        have K0 := Lib.hid (K0.out.next HBw.out)
        have HB := Lib.hid (below_next HB.out HBw.out)
        have hg5 : w.heap.size ≠ w1.heap.size := by have := HLT.out; omega
        have hsz := K0.out.lt
        clear p0 p1 p2 q0 q1 q2 e0
        obtain hK | hK | hK | hK | hK | hK | hK | hK : kindN a = 0 ∨ kindN a = 1 ∨ kindN a = 2 ∨ kindN a = 3 ∨ kindN a = 4 ∨ kindN a = 5 ∨ kindN a = 6 ∨ kindN a = 7 := by have := kindN_rng a; omega
        · have K5 := Lib.hid (show Blk wr w1.heap.size 78 #[.int .i64 (0), .string (bs []), .string (bs [])] from hK ▸ K5.out)
          have HGE := Lib.hid (HG.out.trans (show parseQ (a :: rest) = (⟨0, [], []⟩, false) by unfold parseQ; dsimp only [List.headD_cons]; rw [if_pos hK]))
          have HGV := Lib.hid (show G.2 = true → G.1 = ⟨0, [], []⟩ by rw [HGE.out]; intro; rfl)
          have HG := Lib.hid (show G.2 = false by rw [HGE.out])
          clear hK
          have p0 := K5.out.cell 0
          have p1 := K5.out.cell 1
          have p2 := K5.out.cell 2
          simp only [List.getElem?_toArray, List.getElem?_cons_zero, List.getElem?_cons_succ] at p0 p1 p2
          have q0 := K5.out.frozen 0
          have q1 := K5.out.frozen 1
          have q2 := K5.out.frozen 2
          have c0 := K0.out.cell 0
          have c1 := K0.out.cell 1
          have c2 := K0.out.cell 2
          simp only [List.getElem?_toArray, List.getElem?_cons_zero, List.getElem?_cons_succ] at c0 c1 c2
          have f0 := K0.out.frozen 0
          have f1 := K0.out.frozen 1
          have f2 := K0.out.frozen 2
          go_wp2
          refine bodyPost_ret (v := .tuple #[.agg #[.int .i64 (0), .string (bs ([])), .string (bs ([]))], .bool (false)]) (by simp [results, Tryd.results44, go_sem, c0, c1, c2, hsz]; try rfl) rfl ?_
          have hb0 := HB.out
          exact ⟨_, _, _, by rw [HG.out], HGV.out, ((hb0.setCell (Nat.le_refl _) _).setCell (Nat.le_refl _) _).setCell (Nat.le_refl _) _⟩
        · have K5 := Lib.hid (show Blk wr w1.heap.size 78 #[.int .i64 (1), .string (bs []), .string (bs [])] from hK ▸ K5.out)
          by_cases hn2 : n = 2
          · have hnb : ((n : Int) != 2) = false := by rw [hn2]; rfl
            have hn3 : 1 < n := by omega
            have hn4 : (1 : Int) < (n : Int) := by omega
            rcases rest with _ | ⟨x, _ | ⟨y, t⟩⟩
            · have := HNL.out; simp at this; omega
            rotate_left
            · have := HNL.out; simp at this; omega
            have HXL := Lib.hid (HSH.out x (by simp))
            obtain ⟨_, g3, o3, h0, hA, e1⟩ := HS.out.at_ (i := 1) (by simp) (Kept.of_below HBw.out)
            obtain rfl := Option.some.inj h0
            obtain ⟨rfl, rfl⟩ : g = g3 ∧ o = o3 := by injection hA with hA; injection hA with h1 h2; exact ⟨h1, h2⟩
            clear h0 hA
            have HGE := Lib.hid (HG.out.trans (show parseQ [a, x] = parse2 1 x by rw [show a = wordQ 1 from hK ▸ kindN_is (by omega), pq_two (by omega) (by omega) rfl]))
            clear hK hn2
            have p0 := K5.out.cell 0
            have p1 := K5.out.cell 1
            have p2 := K5.out.cell 2
            simp only [List.getElem?_toArray, List.getElem?_cons_zero, List.getElem?_cons_succ] at p0 p1 p2
            have q0 := K5.out.frozen 0
            have q1 := K5.out.frozen 1
            have q2 := K5.out.frozen 2
            have c0 := K0.out.cell 0
            have c1 := K0.out.cell 1
            have c2 := K0.out.cell 2
            simp only [List.getElem?_toArray, List.getElem?_cons_zero, List.getElem?_cons_succ] at c0 c1 c2
            have f0 := K0.out.frozen 0
            have f1 := K0.out.frozen 1
            have f2 := K0.out.frozen 2
            have HS2 := Lib.hid (fun (W : World) (h : Below w1.heap.size w1 W) => (show W.cell? ⟨g, o + 1, none⟩ = some (.string (bs x)) by
              obtain ⟨_, g5, o5, h5, hA5, e5⟩ := HS.out.at_ (i := 1) (by simp) (Kept.of_below h)
              obtain rfl := Option.some.inj h5
              obtain ⟨rfl, rfl⟩ : g = g5 ∧ o = o5 := by injection hA5 with hA; injection hA with h1 h2; exact ⟨h1, h2⟩
              exact e5))
            have e3 := HS2.out _ (HBw.out.setCell (p := ⟨w1.heap.size, 1, none⟩) (Nat.le_refl _) (.string (bs x)))
            have hszx : (bs x).size = x.length := rfl
            have g0 := (K5.out.set_ 1 (.string (bs x))).cell 0
            simp only [List.setIfInBounds_toArray, List.set_cons_zero, List.set_cons_succ, List.getElem?_toArray, List.getElem?_cons_zero] at g0
            go_wp2_with fail
            obtain ⟨W, hW⟩ : ∃ W : World, W = wr.setCell ⟨w1.heap.size, 1, none⟩ (.string (bs x)) := ⟨_, rfl⟩
            have K5 := Lib.hid (show Blk W w1.heap.size 78 #[.int .i64 (1), .string (bs x), .string (bs [])] by rw [hW]; exact K5.out.set_ 1 _)
            have K0 := Lib.hid (show Blk W w.heap.size 78 #[.int .i64 0, .string (bs []), .string (bs [])] by rw [hW]; exact K0.out.far hg5 _)
            have HB := Lib.hid (show Below w.heap.size w W by rw [hW]; exact HB.out.setCell (Nat.le_of_lt HLT.out) _)
            have HBw := Lib.hid (show Below w1.heap.size w1 W by rw [hW]; exact HBw.out.setCell (Nat.le_refl _) _)
            rw [← hW]
            clear hW p0 p1 p2 q0 q1 q2 c0 c1 c2 f0 f1 f2 e1 e3 hsz g0
            go_loopw [87] (fun i wz => ∃ j : Nat, j ≤ x.length ∧ i = .int .i64 j ∧ wz = W ∧ ∀ c ∈ x.take j, c ≠ 61) (fun i _ => x.length - (intOf i).toNat)
            case atStart => exact ⟨0, Nat.zero_le _, rfl, rfl, fun c hc => by simp at hc⟩
            case round =>
              obtain ⟨j, hj, rfl, rfl, hn⟩ := hrel
              have HN := Lib.hid hn
              clear hn
              have e4 := HS2.out _ HBw.out
              have hxl := HXL.out
              by_cases hjl : j < x.length
              · have hjd : decide ((j : Int) < (x.length : Int)) = true := decide_eq_true (by omega)
                have hje := List.getElem?_eq_getElem hjl
                have ix := fun W => ix_strA x j hjl W
                by_cases hc : x[j] = 61
                · have hc2 : ((x[j].toNat : Int) == 61) = true := by rw [hc]; rfl
                  rw [hc] at hje
                  have hpa := parse2_at hje HN.out
                  generalize x[j] = ch at hc2 ix
                  have HPA := Lib.hid hpa
                  clear hpa hje hc
                  go_wp2_with fail
                  have hj1 : (j : Int) + 1 ≤ (x.length : Int) := by omega
                  have hj2 : j + 1 ≤ x.length := hjl
                  have hj3 : (j : Int) ≤ (x.length : Int) := by omega
                  have hwj : IntKind.i64.wrap ((j : Int) + 1) = (j : Int) + 1 := by rw [IntKind.wrap_i64]; omega
                  have K5d := Lib.hid (show Blk wr.drew _ _ _ from K5.out.drewN 1)
                  have HBwd := Lib.hid (show Below w1.heap.size w1 wr.drew from below_drewN HBw.out 1)
                  have e5 := HS2.out _ HBwd.out
                  have e6 := fun v => HS2.out _ (HBwd.out.setCell (p := ⟨w1.heap.size, 1, none⟩) (Nat.le_refl _) v)
                  have e7 := fun v => HS2.out _ (HBwd.out.setCell (p := ⟨w1.heap.size, 2, none⟩) (Nat.le_refl _) v)
                  have p0 := K5d.out.cell 0
                  have p1 := K5d.out.cell 1
                  have p2 := K5d.out.cell 2
                  simp only [List.getElem?_toArray, List.getElem?_cons_zero, List.getElem?_cons_succ] at p0 p1 p2
                  have q0 := K5d.out.frozen 0
                  have q1 := K5d.out.frozen 1
                  have q2 := K5d.out.frozen 2
                  have s2 := fun v => (show Blk (wr.setCell ⟨w1.heap.size, 1, none⟩ v).drew w1.heap.size 78 _ from (K5.out.set_ 1 v).drewN 1).cell 2
                  have s1 := fun v => (show Blk (wr.setCell ⟨w1.heap.size, 2, none⟩ v).drew w1.heap.size 78 _ from (K5.out.set_ 2 v).drewN 1).cell 1
                  have t2 := fun v => (show Blk (wr.setCell ⟨w1.heap.size, 1, none⟩ v).drew w1.heap.size 78 _ from (K5.out.set_ 1 v).drewN 1).frozen 2
                  have t1 := fun v => (show Blk (wr.setCell ⟨w1.heap.size, 2, none⟩ v).drew w1.heap.size 78 _ from (K5.out.set_ 2 v).drewN 1).frozen 1
                  simp only [List.setIfInBounds_toArray, List.set_cons_zero, List.set_cons_succ, List.getElem?_toArray, List.getElem?_cons_zero, List.getElem?_cons_succ] at s1 s2
                  have hj0 : (0 : Int) ≤ (j : Int) + 1 := by omega
                  have e8 := fun v => HS2.out _ (HBw.out.setCell (p := ⟨w1.heap.size, 1, none⟩) (Nat.le_refl _) v)
                  have e9 := fun v => HS2.out _ (HBw.out.setCell (p := ⟨w1.heap.size, 2, none⟩) (Nat.le_refl _) v)
                  clear e4
                  go_region
                  obtain ⟨W, hW⟩ : ∃ W : World, W = ((wr.setCell ⟨w1.heap.size, 1, none⟩ (.string (bs (x.take j)))).setCell ⟨w1.heap.size, 2, none⟩ (.string (bs (x.drop (j + 1))))).drew := ⟨_, rfl⟩
                  have K5 := Lib.hid (show Blk W w1.heap.size 78 #[.int .i64 (1), .string (bs (x.take j)), .string (bs (x.drop (j + 1)))] by rw [hW]; exact ((K5.out.set_ 1 _).set_ 2 _).drewN 1)
                  have K0 := Lib.hid (show Blk W w.heap.size 78 #[.int .i64 0, .string (bs []), .string (bs [])] by rw [hW]; exact ((K0.out.far hg5 _).far hg5 _).drewN 1)
                  have HB := Lib.hid (show Below w.heap.size w W by rw [hW]; exact below_drewN ((HB.out.setCell (Nat.le_of_lt HLT.out) _).setCell (Nat.le_of_lt HLT.out) _) 1)
                  rw [← hW]
                  clear hW HBw HBwd K5d p0 p1 p2 q0 q1 q2 s1 s2 t1 t2 e5 e6 e7 e8 e9 ix hc2 hj1 hj2 hj3 hj0 hwj hjd hjl
                  have HNB := Lib.hid (show (x.take j).length ≤ 140737488351232 by rw [List.length_take]; omega)
                  have p2 := K5.out.cell 2
                  simp only [List.getElem?_toArray, List.getElem?_cons_zero, List.getElem?_cons_succ] at p2
                  generalize x.take j = xn at HPA K5 HNB
                  generalize x.drop (j + 1) = xv at HPA K5 p2
                  go_wp2_with fail
                  refine (rIs_any xv _).mono ?_
                  rintro e w3 ⟨rfl, hb3⟩
                  have K5 := Lib.hid (K5.out.next hb3)
                  have K0 := Lib.hid (K0.out.next hb3)
                  have HB := Lib.hid (below_next HB.out hb3)
                  clear hb3 p2
                  rcases hI : isV xv
                  · have HG2 := Lib.hid (show G.2 = false by rw [HGE.out]; exact HPA.out.1 hI)
                    have HGV := Lib.hid (show G.2 = true → G.1 = ⟨1, xn, xv⟩ by rw [HG2.out]; intro h; cases h)
                    have HG := HG2
                    clear hI
                    have p0 := K5.out.cell 0
                    have p1 := K5.out.cell 1
                    have p2 := K5.out.cell 2
                    simp only [List.getElem?_toArray, List.getElem?_cons_zero, List.getElem?_cons_succ] at p0 p1 p2
                    have q0 := K5.out.frozen 0
                    have q1 := K5.out.frozen 1
                    have q2 := K5.out.frozen 2
                    have c0 := K0.out.cell 0
                    have c1 := K0.out.cell 1
                    have c2 := K0.out.cell 2
                    simp only [List.getElem?_toArray, List.getElem?_cons_zero, List.getElem?_cons_succ] at c0 c1 c2
                    have f0 := K0.out.frozen 0
                    have f1 := K0.out.frozen 1
                    have f2 := K0.out.frozen 2
                    have hsz := K0.out.lt
                    go_wp2
                    refine bodyPost_ret (v := .tuple #[.agg #[.int .i64 (1), .string (bs (xn)), .string (bs (xv))], .bool (false)]) (by simp [results, Tryd.results44, go_sem, c0, c1, c2, hsz]; try rfl) rfl ?_
                    have hb0 := HB.out
                    exact ⟨_, _, _, by rw [HG.out], HGV.out, ((hb0.setCell (Nat.le_refl _) _).setCell (Nat.le_refl _) _).setCell (Nat.le_refl _) _⟩
                  · have HGE2 := Lib.hid (HGE.out.trans (HPA.out.2 hI))
                    have HGV := Lib.hid (show G.2 = true → G.1 = ⟨1, xn, xv⟩ by rw [HGE2.out]; intro; rfl)
                    have HG := Lib.hid (show G.2 = nameS xn by rw [HGE2.out])
                    clear hI
                    go_wp2_with fail
                    have K5d := Lib.hid (show Blk (w3).drew _ _ _ from K5.out.drewN 1)
                    have K0d := Lib.hid (show Blk (w3).drew _ _ _ from K0.out.drewN 1)
                    have HBd := Lib.hid (show Below w.heap.size w (w3).drew from below_drewN HB.out 1)
                    have p0 := K5d.out.cell 0
                    have p1 := K5d.out.cell 1
                    have p2 := K5d.out.cell 2
                    simp only [List.getElem?_toArray, List.getElem?_cons_zero, List.getElem?_cons_succ] at p0 p1 p2
                    go_region_with (go_at_call 26; refine (rname_any (xn) HNB.out _).mono ?_; rintro e w6 ⟨rfl, hw6⟩; have K56 := (show Blk w6 _ _ _ from hw6 ▸ K5d.out); have K06 := (show Blk w6 _ _ _ from hw6 ▸ K0d.out); have HB6 := Lib.hid (show Below w.heap.size w w6 from hw6 ▸ HBd.out); clear hw6; have b0 := K56.cell 0; have b1 := K56.cell 1; have b2 := K56.cell 2; have c0 := K06.cell 0; have c1 := K06.cell 1; have c2 := K06.cell 2; have f0 := K06.frozen 0; have f1 := K06.frozen 1; have f2 := K06.frozen 2; (simp only [List.getElem?_toArray, List.getElem?_cons_zero, List.getElem?_cons_succ] at b0 b1 b2 c0 c1 c2); have hsz := K06.lt)
                    all_goals go_wp2
                    all_goals
                      refine bodyPost_ret (v := .tuple #[.agg #[.int .i64 (1), .string (bs (xn)), .string (bs (xv))], .bool (nameS (xn))]) (by simp [results, Tryd.results44, go_sem, c0, c1, c2, hsz]; try rfl) rfl ?_
                      have hb0 := HB6.out
                      exact ⟨_, _, _, by rw [HG.out], HGV.out, ((hb0.setCell (Nat.le_refl _) _).setCell (Nat.le_refl _) _).setCell (Nat.le_refl _) _⟩
                · have hc2 : ((x[j].toNat : Int) == 61) = false := by
                    rw [beq_eq_false_iff_ne]
                    intro e
                    exact hc (UInt8.toNat_inj.1 (by show x[j].toNat = 61; omega))
                  have HN2 := Lib.hid (show ∀ c ∈ x.take (j + 1), c ≠ 61 from fun c hm => by
                    rw [take_step hje, List.mem_append, List.mem_singleton] at hm
                    rcases hm with hm | rfl
                    · exact HN.out c hm
                    · exact hc)
                  generalize x[j] = ch at hc2 ix
                  clear hc hje
                  go_wp2_with fail
                  go_roundw
                  case rel => exact ⟨j + 1, by omega, by simp, by first | rfl | trivial, HN2.out⟩
                  case measure => (try simp only [intOf]); omega
              · have hjd : decide ((j : Int) < (x.length : Int)) = false := decide_eq_false (by omega)
                have hnn : ∀ c ∈ x, c ≠ 61 := by
                  have h := HN.out
                  rw [List.take_of_length_le (by omega)] at h
                  exact h
                have HGE2 := Lib.hid (HGE.out.trans (parse2_no hnn))
                have HGV := Lib.hid (show G.2 = true → G.1 = ⟨1, x, []⟩ by rw [HGE2.out]; intro; rfl)
                have HG := Lib.hid (show G.2 = nameS x by rw [HGE2.out])
                have HNB := Lib.hid (show x.length ≤ 140737488351232 by have := HXL.out; omega)
                clear hnn
                go_wp2_with fail
                clear HBw e4
                have K5d := Lib.hid (show Blk (wr).drew _ _ _ from K5.out.drewN 1)
                have K0d := Lib.hid (show Blk (wr).drew _ _ _ from K0.out.drewN 1)
                have HBd := Lib.hid (show Below w.heap.size w (wr).drew from below_drewN HB.out 1)
                have p0 := K5d.out.cell 0
                have p1 := K5d.out.cell 1
                have p2 := K5d.out.cell 2
                simp only [List.getElem?_toArray, List.getElem?_cons_zero, List.getElem?_cons_succ] at p0 p1 p2
                go_region_with (go_at_call 26; refine (rname_any (x) HNB.out _).mono ?_; rintro e w6 ⟨rfl, hw6⟩; have K56 := (show Blk w6 _ _ _ from hw6 ▸ K5d.out); have K06 := (show Blk w6 _ _ _ from hw6 ▸ K0d.out); have HB6 := Lib.hid (show Below w.heap.size w w6 from hw6 ▸ HBd.out); clear hw6; have b0 := K56.cell 0; have b1 := K56.cell 1; have b2 := K56.cell 2; have c0 := K06.cell 0; have c1 := K06.cell 1; have c2 := K06.cell 2; have f0 := K06.frozen 0; have f1 := K06.frozen 1; have f2 := K06.frozen 2; (simp only [List.getElem?_toArray, List.getElem?_cons_zero, List.getElem?_cons_succ] at b0 b1 b2 c0 c1 c2); have hsz := K06.lt)
                all_goals go_wp2
                all_goals
                  refine bodyPost_ret (v := .tuple #[.agg #[.int .i64 (1), .string (bs (x)), .string (bs ([]))], .bool (nameS (x))]) (by simp [results, Tryd.results44, go_sem, c0, c1, c2, hsz]; try rfl) rfl ?_
                  have hb0 := HB6.out
                  exact ⟨_, _, _, by rw [HG.out], HGV.out, ((hb0.setCell (Nat.le_refl _) _).setCell (Nat.le_refl _) _).setCell (Nat.le_refl _) _⟩
          · have hnb : ((n : Int) != 2) = true := by rw [bne_iff_ne]; omega
            have HGE := Lib.hid (HG.out.trans (show parseQ (a :: rest) = (⟨0, [], []⟩, false) by rw [show a = wordQ 1 from hK ▸ kindN_is (by omega)]; exact pq_bad (by omega) (by omega) rfl (by rw [← show a = wordQ 1 from hK ▸ kindN_is (by omega), ← HNL.out]; exact hn2)))
            have HGV := Lib.hid (show G.2 = true → G.1 = ⟨1, [], []⟩ by rw [HGE.out]; intro h; cases h)
            have HG := Lib.hid (show G.2 = false by rw [HGE.out])
            clear hK hn2
            have p0 := K5.out.cell 0
            have p1 := K5.out.cell 1
            have p2 := K5.out.cell 2
            simp only [List.getElem?_toArray, List.getElem?_cons_zero, List.getElem?_cons_succ] at p0 p1 p2
            have q0 := K5.out.frozen 0
            have q1 := K5.out.frozen 1
            have q2 := K5.out.frozen 2
            have c0 := K0.out.cell 0
            have c1 := K0.out.cell 1
            have c2 := K0.out.cell 2
            simp only [List.getElem?_toArray, List.getElem?_cons_zero, List.getElem?_cons_succ] at c0 c1 c2
            have f0 := K0.out.frozen 0
            have f1 := K0.out.frozen 1
            have f2 := K0.out.frozen 2
            go_wp2
            refine bodyPost_ret (v := .tuple #[.agg #[.int .i64 (1), .string (bs ([])), .string (bs ([]))], .bool (false)]) (by simp [results, Tryd.results44, go_sem, c0, c1, c2, hsz]; try rfl) rfl ?_
            have hb0 := HB.out
            exact ⟨_, _, _, by rw [HG.out], HGV.out, ((hb0.setCell (Nat.le_refl _) _).setCell (Nat.le_refl _) _).setCell (Nat.le_refl _) _⟩
        · have K5 := Lib.hid (show Blk wr w1.heap.size 78 #[.int .i64 (2), .string (bs []), .string (bs [])] from hK ▸ K5.out)
          by_cases hn2 : n = 2
          · have hnb : ((n : Int) != 2) = false := by rw [hn2]; rfl
            have hn3 : 1 < n := by omega
            have hn4 : (1 : Int) < (n : Int) := by omega
            rcases rest with _ | ⟨x, _ | ⟨y, t⟩⟩
            · have := HNL.out; simp at this; omega
            rotate_left
            · have := HNL.out; simp at this; omega
            have HXL := Lib.hid (HSH.out x (by simp))
            obtain ⟨_, g3, o3, h0, hA, e1⟩ := HS.out.at_ (i := 1) (by simp) (Kept.of_below HBw.out)
            obtain rfl := Option.some.inj h0
            obtain ⟨rfl, rfl⟩ : g = g3 ∧ o = o3 := by injection hA with hA; injection hA with h1 h2; exact ⟨h1, h2⟩
            clear h0 hA
            have HGE := Lib.hid (HG.out.trans (show parseQ [a, x] = (⟨2, x, []⟩, nameS x) by rw [show a = wordQ 2 from hK ▸ kindN_is (by omega), pq_two (by omega) (by omega) rfl]; exact parse2_oth (by omega)))
            have HGV := Lib.hid (show G.2 = true → G.1 = ⟨2, x, []⟩ by rw [HGE.out]; intro; rfl)
            have HG := Lib.hid (show G.2 = nameS x by rw [HGE.out])
            have HNB := Lib.hid (show x.length ≤ 140737488351232 by have := HXL.out; omega)
            clear hK hn2
            have p0 := K5.out.cell 0
            have p1 := K5.out.cell 1
            have p2 := K5.out.cell 2
            simp only [List.getElem?_toArray, List.getElem?_cons_zero, List.getElem?_cons_succ] at p0 p1 p2
            have q0 := K5.out.frozen 0
            have q1 := K5.out.frozen 1
            have q2 := K5.out.frozen 2
            have c0 := K0.out.cell 0
            have c1 := K0.out.cell 1
            have c2 := K0.out.cell 2
            simp only [List.getElem?_toArray, List.getElem?_cons_zero, List.getElem?_cons_succ] at c0 c1 c2
            have f0 := K0.out.frozen 0
            have f1 := K0.out.frozen 1
            have f2 := K0.out.frozen 2
            go_wp2_with fail
            obtain ⟨W, hW⟩ : ∃ W : World, W = wr.setCell ⟨w1.heap.size, 1, none⟩ (.string (bs x)) := ⟨_, rfl⟩
            have K5 := Lib.hid (show Blk W w1.heap.size 78 #[.int .i64 (2), .string (bs x), .string (bs [])] by rw [hW]; exact K5.out.set_ 1 _)
            have K0 := Lib.hid (show Blk W w.heap.size 78 #[.int .i64 0, .string (bs []), .string (bs [])] by rw [hW]; exact K0.out.far hg5 _)
            have HB := Lib.hid (show Below w.heap.size w W by rw [hW]; exact HB.out.setCell (Nat.le_of_lt HLT.out) _)
            rw [← hW]
            clear hW HBw p0 p1 p2 q0 q1 q2 c0 c1 c2 f0 f1 f2 e1 hsz
            have K5d := Lib.hid (show Blk (W).drew _ _ _ from K5.out.drewN 1)
            have K0d := Lib.hid (show Blk (W).drew _ _ _ from K0.out.drewN 1)
            have HBd := Lib.hid (show Below w.heap.size w (W).drew from below_drewN HB.out 1)
            have p0 := K5d.out.cell 0
            have p1 := K5d.out.cell 1
            have p2 := K5d.out.cell 2
            simp only [List.getElem?_toArray, List.getElem?_cons_zero, List.getElem?_cons_succ] at p0 p1 p2
            go_region_with (go_at_call 26; refine (rname_any (x) HNB.out _).mono ?_; rintro e w6 ⟨rfl, hw6⟩; have K56 := (show Blk w6 _ _ _ from hw6 ▸ K5d.out); have K06 := (show Blk w6 _ _ _ from hw6 ▸ K0d.out); have HB6 := Lib.hid (show Below w.heap.size w w6 from hw6 ▸ HBd.out); clear hw6; have b0 := K56.cell 0; have b1 := K56.cell 1; have b2 := K56.cell 2; have c0 := K06.cell 0; have c1 := K06.cell 1; have c2 := K06.cell 2; have f0 := K06.frozen 0; have f1 := K06.frozen 1; have f2 := K06.frozen 2; (simp only [List.getElem?_toArray, List.getElem?_cons_zero, List.getElem?_cons_succ] at b0 b1 b2 c0 c1 c2); have hsz := K06.lt)
            all_goals go_wp2
            all_goals
              refine bodyPost_ret (v := .tuple #[.agg #[.int .i64 (2), .string (bs (x)), .string (bs ([]))], .bool (nameS (x))]) (by simp [results, Tryd.results44, go_sem, c0, c1, c2, hsz]; try rfl) rfl ?_
              have hb0 := HB6.out
              exact ⟨_, _, _, by rw [HG.out], HGV.out, ((hb0.setCell (Nat.le_refl _) _).setCell (Nat.le_refl _) _).setCell (Nat.le_refl _) _⟩
          · have hnb : ((n : Int) != 2) = true := by rw [bne_iff_ne]; omega
            have HGE := Lib.hid (HG.out.trans (show parseQ (a :: rest) = (⟨0, [], []⟩, false) by rw [show a = wordQ 2 from hK ▸ kindN_is (by omega)]; exact pq_bad (by omega) (by omega) rfl (by rw [← show a = wordQ 2 from hK ▸ kindN_is (by omega), ← HNL.out]; exact hn2)))
            have HGV := Lib.hid (show G.2 = true → G.1 = ⟨2, [], []⟩ by rw [HGE.out]; intro h; cases h)
            have HG := Lib.hid (show G.2 = false by rw [HGE.out])
            clear hK hn2
            have p0 := K5.out.cell 0
            have p1 := K5.out.cell 1
            have p2 := K5.out.cell 2
            simp only [List.getElem?_toArray, List.getElem?_cons_zero, List.getElem?_cons_succ] at p0 p1 p2
            have q0 := K5.out.frozen 0
            have q1 := K5.out.frozen 1
            have q2 := K5.out.frozen 2
            have c0 := K0.out.cell 0
            have c1 := K0.out.cell 1
            have c2 := K0.out.cell 2
            simp only [List.getElem?_toArray, List.getElem?_cons_zero, List.getElem?_cons_succ] at c0 c1 c2
            have f0 := K0.out.frozen 0
            have f1 := K0.out.frozen 1
            have f2 := K0.out.frozen 2
            go_wp2
            refine bodyPost_ret (v := .tuple #[.agg #[.int .i64 (2), .string (bs ([])), .string (bs ([]))], .bool (false)]) (by simp [results, Tryd.results44, go_sem, c0, c1, c2, hsz]; try rfl) rfl ?_
            have hb0 := HB.out
            exact ⟨_, _, _, by rw [HG.out], HGV.out, ((hb0.setCell (Nat.le_refl _) _).setCell (Nat.le_refl _) _).setCell (Nat.le_refl _) _⟩
        · have K5 := Lib.hid (show Blk wr w1.heap.size 78 #[.int .i64 (3), .string (bs []), .string (bs [])] from hK ▸ K5.out)
          have HGE := Lib.hid (HG.out.trans (show parseQ (a :: rest) = (⟨3, [], []⟩, (a :: rest).length == 1) by rw [show a = wordQ 3 from hK ▸ kindN_is (by omega)]; exact pq_all (by omega) (by omega) rfl))
          clear hK
          have p0 := K5.out.cell 0
          have p1 := K5.out.cell 1
          have p2 := K5.out.cell 2
          simp only [List.getElem?_toArray, List.getElem?_cons_zero, List.getElem?_cons_succ] at p0 p1 p2
          have q0 := K5.out.frozen 0
          have q1 := K5.out.frozen 1
          have q2 := K5.out.frozen 2
          have c0 := K0.out.cell 0
          have c1 := K0.out.cell 1
          have c2 := K0.out.cell 2
          simp only [List.getElem?_toArray, List.getElem?_cons_zero, List.getElem?_cons_succ] at c0 c1 c2
          have f0 := K0.out.frozen 0
          have f1 := K0.out.frozen 1
          have f2 := K0.out.frozen 2
          by_cases hn1 : n = 1
          · have hnb : ((n : Int) != 1) = false := by rw [hn1]; rfl
            have HGV := Lib.hid (show G.2 = true → G.1 = ⟨3, [], []⟩ by rw [HGE.out]; intro; rfl)
            have HG := Lib.hid (show G.2 = true by rw [HGE.out, ← HNL.out, hn1]; rfl)
            clear hn1
            go_wp2
            refine bodyPost_ret (v := .tuple #[.agg #[.int .i64 (3), .string (bs ([])), .string (bs ([]))], .bool (true)]) (by simp [results, Tryd.results44, go_sem, c0, c1, c2, hsz]; try rfl) rfl ?_
            have hb0 := HB.out
            exact ⟨_, _, _, by rw [HG.out], HGV.out, ((hb0.setCell (Nat.le_refl _) _).setCell (Nat.le_refl _) _).setCell (Nat.le_refl _) _⟩
          · have hnb : ((n : Int) != 1) = true := by rw [bne_iff_ne]; omega
            have HGV := Lib.hid (show G.2 = true → G.1 = ⟨3, [], []⟩ by rw [HGE.out]; intro; rfl)
            have HG := Lib.hid (show G.2 = false by rw [HGE.out, ← HNL.out]; simpa using hn1)
            clear hn1
            go_wp2
            refine bodyPost_ret (v := .tuple #[.agg #[.int .i64 (3), .string (bs ([])), .string (bs ([]))], .bool (false)]) (by simp [results, Tryd.results44, go_sem, c0, c1, c2, hsz]; try rfl) rfl ?_
            have hb0 := HB.out
            exact ⟨_, _, _, by rw [HG.out], HGV.out, ((hb0.setCell (Nat.le_refl _) _).setCell (Nat.le_refl _) _).setCell (Nat.le_refl _) _⟩
        · have K5 := Lib.hid (show Blk wr w1.heap.size 78 #[.int .i64 (4), .string (bs []), .string (bs [])] from hK ▸ K5.out)
          have HGE := Lib.hid (HG.out.trans (show parseQ (a :: rest) = (⟨4, [], []⟩, (a :: rest).length == 1) by rw [show a = wordQ 4 from hK ▸ kindN_is (by omega)]; exact pq_all (by omega) (by omega) rfl))
          clear hK
          have p0 := K5.out.cell 0
          have p1 := K5.out.cell 1
          have p2 := K5.out.cell 2
          simp only [List.getElem?_toArray, List.getElem?_cons_zero, List.getElem?_cons_succ] at p0 p1 p2
          have q0 := K5.out.frozen 0
          have q1 := K5.out.frozen 1
          have q2 := K5.out.frozen 2
          have c0 := K0.out.cell 0
          have c1 := K0.out.cell 1
          have c2 := K0.out.cell 2
          simp only [List.getElem?_toArray, List.getElem?_cons_zero, List.getElem?_cons_succ] at c0 c1 c2
          have f0 := K0.out.frozen 0
          have f1 := K0.out.frozen 1
          have f2 := K0.out.frozen 2
          by_cases hn1 : n = 1
          · have hnb : ((n : Int) != 1) = false := by rw [hn1]; rfl
            have HGV := Lib.hid (show G.2 = true → G.1 = ⟨4, [], []⟩ by rw [HGE.out]; intro; rfl)
            have HG := Lib.hid (show G.2 = true by rw [HGE.out, ← HNL.out, hn1]; rfl)
            clear hn1
            go_wp2
            refine bodyPost_ret (v := .tuple #[.agg #[.int .i64 (4), .string (bs ([])), .string (bs ([]))], .bool (true)]) (by simp [results, Tryd.results44, go_sem, c0, c1, c2, hsz]; try rfl) rfl ?_
            have hb0 := HB.out
            exact ⟨_, _, _, by rw [HG.out], HGV.out, ((hb0.setCell (Nat.le_refl _) _).setCell (Nat.le_refl _) _).setCell (Nat.le_refl _) _⟩
          · have hnb : ((n : Int) != 1) = true := by rw [bne_iff_ne]; omega
            have HGV := Lib.hid (show G.2 = true → G.1 = ⟨4, [], []⟩ by rw [HGE.out]; intro; rfl)
            have HG := Lib.hid (show G.2 = false by rw [HGE.out, ← HNL.out]; simpa using hn1)
            clear hn1
            go_wp2
            refine bodyPost_ret (v := .tuple #[.agg #[.int .i64 (4), .string (bs ([])), .string (bs ([]))], .bool (false)]) (by simp [results, Tryd.results44, go_sem, c0, c1, c2, hsz]; try rfl) rfl ?_
            have hb0 := HB.out
            exact ⟨_, _, _, by rw [HG.out], HGV.out, ((hb0.setCell (Nat.le_refl _) _).setCell (Nat.le_refl _) _).setCell (Nat.le_refl _) _⟩
        · have K5 := Lib.hid (show Blk wr w1.heap.size 78 #[.int .i64 (5), .string (bs []), .string (bs [])] from hK ▸ K5.out)
          by_cases hn2 : n = 2
          · have hnb : ((n : Int) != 2) = false := by rw [hn2]; rfl
            have hn3 : 1 < n := by omega
            have hn4 : (1 : Int) < (n : Int) := by omega
            rcases rest with _ | ⟨x, _ | ⟨y, t⟩⟩
            · have := HNL.out; simp at this; omega
            rotate_left
            · have := HNL.out; simp at this; omega
            have HXL := Lib.hid (HSH.out x (by simp))
            obtain ⟨_, g3, o3, h0, hA, e1⟩ := HS.out.at_ (i := 1) (by simp) (Kept.of_below HBw.out)
            obtain rfl := Option.some.inj h0
            obtain ⟨rfl, rfl⟩ : g = g3 ∧ o = o3 := by injection hA with hA; injection hA with h1 h2; exact ⟨h1, h2⟩
            clear h0 hA
            have HGE := Lib.hid (HG.out.trans (show parseQ [a, x] = (⟨5, x, []⟩, nameS x) by rw [show a = wordQ 5 from hK ▸ kindN_is (by omega), pq_two (by omega) (by omega) rfl]; exact parse2_oth (by omega)))
            have HGV := Lib.hid (show G.2 = true → G.1 = ⟨5, x, []⟩ by rw [HGE.out]; intro; rfl)
            have HG := Lib.hid (show G.2 = nameS x by rw [HGE.out])
            have HNB := Lib.hid (show x.length ≤ 140737488351232 by have := HXL.out; omega)
            clear hK hn2
            have p0 := K5.out.cell 0
            have p1 := K5.out.cell 1
            have p2 := K5.out.cell 2
            simp only [List.getElem?_toArray, List.getElem?_cons_zero, List.getElem?_cons_succ] at p0 p1 p2
            have q0 := K5.out.frozen 0
            have q1 := K5.out.frozen 1
            have q2 := K5.out.frozen 2
            have c0 := K0.out.cell 0
            have c1 := K0.out.cell 1
            have c2 := K0.out.cell 2
            simp only [List.getElem?_toArray, List.getElem?_cons_zero, List.getElem?_cons_succ] at c0 c1 c2
            have f0 := K0.out.frozen 0
            have f1 := K0.out.frozen 1
            have f2 := K0.out.frozen 2
            go_wp2_with fail
            obtain ⟨W, hW⟩ : ∃ W : World, W = wr.setCell ⟨w1.heap.size, 1, none⟩ (.string (bs x)) := ⟨_, rfl⟩
            have K5 := Lib.hid (show Blk W w1.heap.size 78 #[.int .i64 (5), .string (bs x), .string (bs [])] by rw [hW]; exact K5.out.set_ 1 _)
            have K0 := Lib.hid (show Blk W w.heap.size 78 #[.int .i64 0, .string (bs []), .string (bs [])] by rw [hW]; exact K0.out.far hg5 _)
            have HB := Lib.hid (show Below w.heap.size w W by rw [hW]; exact HB.out.setCell (Nat.le_of_lt HLT.out) _)
            rw [← hW]
            clear hW HBw p0 p1 p2 q0 q1 q2 c0 c1 c2 f0 f1 f2 e1 hsz
            have K5d := Lib.hid (show Blk (W).drew _ _ _ from K5.out.drewN 1)
            have K0d := Lib.hid (show Blk (W).drew _ _ _ from K0.out.drewN 1)
            have HBd := Lib.hid (show Below w.heap.size w (W).drew from below_drewN HB.out 1)
            have p0 := K5d.out.cell 0
            have p1 := K5d.out.cell 1
            have p2 := K5d.out.cell 2
            simp only [List.getElem?_toArray, List.getElem?_cons_zero, List.getElem?_cons_succ] at p0 p1 p2
            go_region_with (go_at_call 26; refine (rname_any (x) HNB.out _).mono ?_; rintro e w6 ⟨rfl, hw6⟩; have K56 := (show Blk w6 _ _ _ from hw6 ▸ K5d.out); have K06 := (show Blk w6 _ _ _ from hw6 ▸ K0d.out); have HB6 := Lib.hid (show Below w.heap.size w w6 from hw6 ▸ HBd.out); clear hw6; have b0 := K56.cell 0; have b1 := K56.cell 1; have b2 := K56.cell 2; have c0 := K06.cell 0; have c1 := K06.cell 1; have c2 := K06.cell 2; have f0 := K06.frozen 0; have f1 := K06.frozen 1; have f2 := K06.frozen 2; (simp only [List.getElem?_toArray, List.getElem?_cons_zero, List.getElem?_cons_succ] at b0 b1 b2 c0 c1 c2); have hsz := K06.lt)
            all_goals go_wp2
            all_goals
              refine bodyPost_ret (v := .tuple #[.agg #[.int .i64 (5), .string (bs (x)), .string (bs ([]))], .bool (nameS (x))]) (by simp [results, Tryd.results44, go_sem, c0, c1, c2, hsz]; try rfl) rfl ?_
              have hb0 := HB6.out
              exact ⟨_, _, _, by rw [HG.out], HGV.out, ((hb0.setCell (Nat.le_refl _) _).setCell (Nat.le_refl _) _).setCell (Nat.le_refl _) _⟩
          · have hnb : ((n : Int) != 2) = true := by rw [bne_iff_ne]; omega
            have HGE := Lib.hid (HG.out.trans (show parseQ (a :: rest) = (⟨0, [], []⟩, false) by rw [show a = wordQ 5 from hK ▸ kindN_is (by omega)]; exact pq_bad (by omega) (by omega) rfl (by rw [← show a = wordQ 5 from hK ▸ kindN_is (by omega), ← HNL.out]; exact hn2)))
            have HGV := Lib.hid (show G.2 = true → G.1 = ⟨5, [], []⟩ by rw [HGE.out]; intro h; cases h)
            have HG := Lib.hid (show G.2 = false by rw [HGE.out])
            clear hK hn2
            have p0 := K5.out.cell 0
            have p1 := K5.out.cell 1
            have p2 := K5.out.cell 2
            simp only [List.getElem?_toArray, List.getElem?_cons_zero, List.getElem?_cons_succ] at p0 p1 p2
            have q0 := K5.out.frozen 0
            have q1 := K5.out.frozen 1
            have q2 := K5.out.frozen 2
            have c0 := K0.out.cell 0
            have c1 := K0.out.cell 1
            have c2 := K0.out.cell 2
            simp only [List.getElem?_toArray, List.getElem?_cons_zero, List.getElem?_cons_succ] at c0 c1 c2
            have f0 := K0.out.frozen 0
            have f1 := K0.out.frozen 1
            have f2 := K0.out.frozen 2
            go_wp2
            refine bodyPost_ret (v := .tuple #[.agg #[.int .i64 (5), .string (bs ([])), .string (bs ([]))], .bool (false)]) (by simp [results, Tryd.results44, go_sem, c0, c1, c2, hsz]; try rfl) rfl ?_
            have hb0 := HB.out
            exact ⟨_, _, _, by rw [HG.out], HGV.out, ((hb0.setCell (Nat.le_refl _) _).setCell (Nat.le_refl _) _).setCell (Nat.le_refl _) _⟩
        · have K5 := Lib.hid (show Blk wr w1.heap.size 78 #[.int .i64 (6), .string (bs []), .string (bs [])] from hK ▸ K5.out)
          by_cases hn2 : n = 2
          · have hnb : ((n : Int) != 2) = false := by rw [hn2]; rfl
            have hn3 : 1 < n := by omega
            have hn4 : (1 : Int) < (n : Int) := by omega
            rcases rest with _ | ⟨x, _ | ⟨y, t⟩⟩
            · have := HNL.out; simp at this; omega
            rotate_left
            · have := HNL.out; simp at this; omega
            have HXL := Lib.hid (HSH.out x (by simp))
            obtain ⟨_, g3, o3, h0, hA, e1⟩ := HS.out.at_ (i := 1) (by simp) (Kept.of_below HBw.out)
            obtain rfl := Option.some.inj h0
            obtain ⟨rfl, rfl⟩ : g = g3 ∧ o = o3 := by injection hA with hA; injection hA with h1 h2; exact ⟨h1, h2⟩
            clear h0 hA
            have HGE := Lib.hid (HG.out.trans (show parseQ [a, x] = (⟨6, x, []⟩, nameS x) by rw [show a = wordQ 6 from hK ▸ kindN_is (by omega), pq_two (by omega) (by omega) rfl]; exact parse2_oth (by omega)))
            have HGV := Lib.hid (show G.2 = true → G.1 = ⟨6, x, []⟩ by rw [HGE.out]; intro; rfl)
            have HG := Lib.hid (show G.2 = nameS x by rw [HGE.out])
            have HNB := Lib.hid (show x.length ≤ 140737488351232 by have := HXL.out; omega)
            clear hK hn2
            have p0 := K5.out.cell 0
            have p1 := K5.out.cell 1
            have p2 := K5.out.cell 2
            simp only [List.getElem?_toArray, List.getElem?_cons_zero, List.getElem?_cons_succ] at p0 p1 p2
            have q0 := K5.out.frozen 0
            have q1 := K5.out.frozen 1
            have q2 := K5.out.frozen 2
            have c0 := K0.out.cell 0
            have c1 := K0.out.cell 1
            have c2 := K0.out.cell 2
            simp only [List.getElem?_toArray, List.getElem?_cons_zero, List.getElem?_cons_succ] at c0 c1 c2
            have f0 := K0.out.frozen 0
            have f1 := K0.out.frozen 1
            have f2 := K0.out.frozen 2
            go_wp2_with fail
            obtain ⟨W, hW⟩ : ∃ W : World, W = wr.setCell ⟨w1.heap.size, 1, none⟩ (.string (bs x)) := ⟨_, rfl⟩
            have K5 := Lib.hid (show Blk W w1.heap.size 78 #[.int .i64 (6), .string (bs x), .string (bs [])] by rw [hW]; exact K5.out.set_ 1 _)
            have K0 := Lib.hid (show Blk W w.heap.size 78 #[.int .i64 0, .string (bs []), .string (bs [])] by rw [hW]; exact K0.out.far hg5 _)
            have HB := Lib.hid (show Below w.heap.size w W by rw [hW]; exact HB.out.setCell (Nat.le_of_lt HLT.out) _)
            rw [← hW]
            clear hW HBw p0 p1 p2 q0 q1 q2 c0 c1 c2 f0 f1 f2 e1 hsz
            have K5d := Lib.hid (show Blk (W).drew _ _ _ from K5.out.drewN 1)
            have K0d := Lib.hid (show Blk (W).drew _ _ _ from K0.out.drewN 1)
            have HBd := Lib.hid (show Below w.heap.size w (W).drew from below_drewN HB.out 1)
            have p0 := K5d.out.cell 0
            have p1 := K5d.out.cell 1
            have p2 := K5d.out.cell 2
            simp only [List.getElem?_toArray, List.getElem?_cons_zero, List.getElem?_cons_succ] at p0 p1 p2
            go_region_with (go_at_call 26; refine (rname_any (x) HNB.out _).mono ?_; rintro e w6 ⟨rfl, hw6⟩; have K56 := (show Blk w6 _ _ _ from hw6 ▸ K5d.out); have K06 := (show Blk w6 _ _ _ from hw6 ▸ K0d.out); have HB6 := Lib.hid (show Below w.heap.size w w6 from hw6 ▸ HBd.out); clear hw6; have b0 := K56.cell 0; have b1 := K56.cell 1; have b2 := K56.cell 2; have c0 := K06.cell 0; have c1 := K06.cell 1; have c2 := K06.cell 2; have f0 := K06.frozen 0; have f1 := K06.frozen 1; have f2 := K06.frozen 2; (simp only [List.getElem?_toArray, List.getElem?_cons_zero, List.getElem?_cons_succ] at b0 b1 b2 c0 c1 c2); have hsz := K06.lt)
            all_goals go_wp2
            all_goals
              refine bodyPost_ret (v := .tuple #[.agg #[.int .i64 (6), .string (bs (x)), .string (bs ([]))], .bool (nameS (x))]) (by simp [results, Tryd.results44, go_sem, c0, c1, c2, hsz]; try rfl) rfl ?_
              have hb0 := HB6.out
              exact ⟨_, _, _, by rw [HG.out], HGV.out, ((hb0.setCell (Nat.le_refl _) _).setCell (Nat.le_refl _) _).setCell (Nat.le_refl _) _⟩
          · have hnb : ((n : Int) != 2) = true := by rw [bne_iff_ne]; omega
            have HGE := Lib.hid (HG.out.trans (show parseQ (a :: rest) = (⟨0, [], []⟩, false) by rw [show a = wordQ 6 from hK ▸ kindN_is (by omega)]; exact pq_bad (by omega) (by omega) rfl (by rw [← show a = wordQ 6 from hK ▸ kindN_is (by omega), ← HNL.out]; exact hn2)))
            have HGV := Lib.hid (show G.2 = true → G.1 = ⟨6, [], []⟩ by rw [HGE.out]; intro h; cases h)
            have HG := Lib.hid (show G.2 = false by rw [HGE.out])
            clear hK hn2
            have p0 := K5.out.cell 0
            have p1 := K5.out.cell 1
            have p2 := K5.out.cell 2
            simp only [List.getElem?_toArray, List.getElem?_cons_zero, List.getElem?_cons_succ] at p0 p1 p2
            have q0 := K5.out.frozen 0
            have q1 := K5.out.frozen 1
            have q2 := K5.out.frozen 2
            have c0 := K0.out.cell 0
            have c1 := K0.out.cell 1
            have c2 := K0.out.cell 2
            simp only [List.getElem?_toArray, List.getElem?_cons_zero, List.getElem?_cons_succ] at c0 c1 c2
            have f0 := K0.out.frozen 0
            have f1 := K0.out.frozen 1
            have f2 := K0.out.frozen 2
            go_wp2
            refine bodyPost_ret (v := .tuple #[.agg #[.int .i64 (6), .string (bs ([])), .string (bs ([]))], .bool (false)]) (by simp [results, Tryd.results44, go_sem, c0, c1, c2, hsz]; try rfl) rfl ?_
            have hb0 := HB.out
            exact ⟨_, _, _, by rw [HG.out], HGV.out, ((hb0.setCell (Nat.le_refl _) _).setCell (Nat.le_refl _) _).setCell (Nat.le_refl _) _⟩
        · have K5 := Lib.hid (show Blk wr w1.heap.size 78 #[.int .i64 (7), .string (bs []), .string (bs [])] from hK ▸ K5.out)
          have HGE := Lib.hid (HG.out.trans (show parseQ (a :: rest) = (⟨7, [], []⟩, (a :: rest).length == 1) by rw [show a = wordQ 7 from hK ▸ kindN_is (by omega)]; exact pq_all (by omega) (by omega) rfl))
          clear hK
          have p0 := K5.out.cell 0
          have p1 := K5.out.cell 1
          have p2 := K5.out.cell 2
          simp only [List.getElem?_toArray, List.getElem?_cons_zero, List.getElem?_cons_succ] at p0 p1 p2
          have q0 := K5.out.frozen 0
          have q1 := K5.out.frozen 1
          have q2 := K5.out.frozen 2
          have c0 := K0.out.cell 0
          have c1 := K0.out.cell 1
          have c2 := K0.out.cell 2
          simp only [List.getElem?_toArray, List.getElem?_cons_zero, List.getElem?_cons_succ] at c0 c1 c2
          have f0 := K0.out.frozen 0
          have f1 := K0.out.frozen 1
          have f2 := K0.out.frozen 2
          by_cases hn1 : n = 1
          · have hnb : ((n : Int) != 1) = false := by rw [hn1]; rfl
            have HGV := Lib.hid (show G.2 = true → G.1 = ⟨7, [], []⟩ by rw [HGE.out]; intro; rfl)
            have HG := Lib.hid (show G.2 = true by rw [HGE.out, ← HNL.out, hn1]; rfl)
            clear hn1
            go_wp2
            refine bodyPost_ret (v := .tuple #[.agg #[.int .i64 (7), .string (bs ([])), .string (bs ([]))], .bool (true)]) (by simp [results, Tryd.results44, go_sem, c0, c1, c2, hsz]; try rfl) rfl ?_
            have hb0 := HB.out
            exact ⟨_, _, _, by rw [HG.out], HGV.out, ((hb0.setCell (Nat.le_refl _) _).setCell (Nat.le_refl _) _).setCell (Nat.le_refl _) _⟩
          · have hnb : ((n : Int) != 1) = true := by rw [bne_iff_ne]; omega
            have HGV := Lib.hid (show G.2 = true → G.1 = ⟨7, [], []⟩ by rw [HGE.out]; intro; rfl)
            have HG := Lib.hid (show G.2 = false by rw [HGE.out, ← HNL.out]; simpa using hn1)
            clear hn1
            go_wp2
            refine bodyPost_ret (v := .tuple #[.agg #[.int .i64 (7), .string (bs ([])), .string (bs ([]))], .bool (false)]) (by simp [results, Tryd.results44, go_sem, c0, c1, c2, hsz]; try rfl) rfl ?_
            have hb0 := HB.out
            exact ⟨_, _, _, by rw [HG.out], HGV.out, ((hb0.setCell (Nat.le_refl _) _).setCell (Nat.le_refl _) _).setCell (Nat.le_refl _) _⟩
end Go.Proofs.YtcbomomlojhghaaDoor
