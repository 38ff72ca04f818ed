/- A text parted at line ends, plainly. The contract of strings.Split at a line end, for any text. The contract of text.Lines, for any bytes. The lines of a text, plainly, piece by piece. -/
import Derived.Test.YtcbomomlojhghaaDoorVb
import Derived.Test.YtcbomomlojhghaaDoorNl
import Derived.Test.YtcbomomlojhghaaDoorOs
import Derived.Test.YtcbomomlojhghaaDoorSpA
import Derived.Test.YtcbomomlojhghaaDoorRwA
import Derived.Test.YtcbomomlojhghaaDoorGoB
import Derived.Test.YtcbomomlojhghaaDoorSrX
import Derived.Laws.BytesArg
namespace Go.Proofs.YtcbomomlojhghaaDoor
set_option linter.unusedSimpArgs false
set_option linter.unusedVariables false
/-- the pieces between line ends -/
def splB : List UInt8 → List (List UInt8)
  | [] => [[]]
  | x :: l => if x = 10 then [] :: splB l else (x :: (splB l).headD []) :: (splB l).tail
theorem splB_ne : ∀ l, splB l ≠ []
  | [] => by simp [splB]
  | x :: l => by
    unfold splB
    split <;> simp
theorem splB_len : ∀ l, (splB l).length = Lib.countByte l 10 + 1
  | [] => rfl
  | x :: l => by
    have ih := splB_len l
    unfold Lib.countByte at ih ⊢
    unfold splB
    by_cases h : x = 10
    · rw [if_pos h, h, List.count_cons_self, List.length_cons, ih]
    · rw [if_neg h, List.count_cons_of_ne (fun e => h e), List.length_cons, List.length_tail, ih]
      omega
theorem splB_short : ∀ l, ∀ x ∈ splB l, x.length ≤ l.length
  | [], x, hx => by simp [splB] at hx; simp [hx]
  | y :: l, x, hx => by
    have ih := splB_short l
    unfold splB at hx
    split at hx
    · rcases List.mem_cons.1 hx with rfl | hx
      · simp
      · have := ih x hx; simp; omega
    · rcases hs : splB l with _ | ⟨a, r⟩
      · exact absurd hs (splB_ne l)
      · rw [hs] at hx ih
        rcases List.mem_cons.1 hx with rfl | hx
        · have := ih a (by simp); simp; omega
        · have := ih x (by simp at hx; simp [hx]); simp; omega
theorem splB_one : ∀ l, Lib.indexByte l 10 < 0 → splB l = [l]
  | [], _ => rfl
  | x :: l, h => by
    have hg := (indexByte_lt l 10).1
    have h2 : Lib.indexByte (x :: l) 10 = if x == 10 then 0 else if Lib.indexByte l 10 == -1 then -1 else Lib.indexByte l 10 + 1 := rfl
    rw [h2] at h
    by_cases hx : x = 10
    · rw [if_pos (by simpa using hx)] at h; omega
    · rw [if_neg (by simpa using hx)] at h
      by_cases hm : Lib.indexByte l 10 = -1
      · unfold splB
        rw [if_neg hx, splB_one l (by omega)]
        rfl
      · rw [if_neg (by simpa using hm)] at h; omega
theorem splB_cut : ∀ l, 0 ≤ Lib.indexByte l 10 → splB l = l.take (Lib.indexByte l 10).toNat :: splB (l.drop ((Lib.indexByte l 10).toNat + 1))
  | [], h => by simp [Lib.indexByte] at h
  | x :: l, h => by
    have hg := (indexByte_lt l 10).1
    have h2 : Lib.indexByte (x :: l) 10 = if x == 10 then 0 else if Lib.indexByte l 10 == -1 then -1 else Lib.indexByte l 10 + 1 := rfl
    rw [h2] at h ⊢
    by_cases hx : x = 10
    · rw [if_pos (by simpa using hx)]
      conv => lhs; unfold splB
      rw [if_pos hx]
      rfl
    · rw [if_neg (by simpa using hx)] at h ⊢
      by_cases hm : Lib.indexByte l 10 = -1
      · rw [if_pos (by simpa using hm)] at h; omega
      · rw [if_neg (by simpa using hm)] at h ⊢
        have h0 : 0 ≤ Lib.indexByte l 10 := by omega
        have ih := splB_cut l h0
        rw [show (Lib.indexByte l 10 + 1).toNat = (Lib.indexByte l 10).toNat + 1 by omega, List.take_succ_cons, List.drop_succ_cons]
        conv => lhs; unfold splB
        rw [if_neg hx, ih]
        rfl
end Go.Proofs.YtcbomomlojhghaaDoor
namespace Go.Proofs.YtcbomomlojhghaaDoor
set_option linter.unusedSimpArgs false
set_option linter.unusedVariables false
open Go.RowKit
attribute [local go_sem ↓] Go.wp_at_zero Go.wp_at_succ
theorem infStrS : (Tryd.prog.info? 9).map (fun i => (i.zero, i.size, i.bytes)) = some (some (.string (bs [])), 1, 16) := by kernel_rfl
theorem make_strs (n : Nat) (hn : n ≤ 1000000) (W : World) : (Instr.makeSlice 73 (.int .i64 (n : Int)) (.int .i64 (n : Int))).run Tryd.prog W = .ok (.slice (some ⟨W.heap.size, 0, none⟩) n n) (W.alloc (.cells (madeCells #[.string (bs [])] n) 9)) := by
  obtain ⟨i0, hi0, hz0, hz1, hz2⟩ := info_parts infStrS
  have h := run_make (P := Tryd.prog) W 73 9 i0 _ Tryd.underlying73 hi0 hz0 .i64 .i64 (n : Int) (n : Int) (by omega) (Int.le_refl _) (by rw [hz2]; omega) (by omega)
  rw [hz1] at h
  simpa [Value.cells] using h
theorem own_strs0 (W : World) (n : Nat) (hn : n ≤ 1000000) : Own (W.alloc (.cells (madeCells #[.string (bs [])] n) 9)) W.heap.size 9 1 RStr (.slice (some ⟨W.heap.size, 0, none⟩) n n) (List.replicate n []) := by
  refine ⟨List.replicate n [.string (bs [])], by simp, fun i cs x h1 h2 => ?_, ?_⟩
  · rw [List.getElem?_replicate] at h1 h2
    split at h1
    · rename_i hi
      rw [if_pos hi] at h2
      injection h1 with h1
      injection h2 with h2
      subst h1 h2
      exact ⟨rfl, rfl⟩
    · cases h1
  · exact ⟨by simp, .inr ⟨W.heap.size, n, _, by rw [List.length_replicate], Nat.le_refl _, heap_alloc_new W _, by simp, by unfold maxLen; omega, by rw [size_madeCells]; omega, by rw [toList_madeCells_one]; simp⟩⟩
def RetSp (w : World) (l : List UInt8) (e : Ending) (w' : World) : Prop := ∃ g, e = .returned (.slice (some ⟨g, 0, none⟩) (splB l).length (splB l).length) ∧ Own w' w.heap.size 9 1 RStr (.slice (some ⟨g, 0, none⟩) (splB l).length (splB l).length) (splB l) ∧ Below w.heap.size w w'
set_option maxRecDepth 100000 in
set_option maxHeartbeats 2000000 in
theorem split_any (l : List UInt8) (hl : l.length ≤ 900000) (w : World) : Calls Tryd.prog 61 #[.string (bs l), .string ⟨#[10]⟩] w (RetSp w l) := by
  have hlen := splB_len l
  obtain ⟨m, hm⟩ : ∃ m, m = Lib.countByte l 10 := ⟨_, rfl⟩
  have hml : m ≤ l.length := by rw [hm]; unfold Lib.countByte; exact List.count_le_length
  have HC := Lib.hid (Tryd.strings_Count_one (bs l) 10 w)
  rw [show Lib.countByte (bs l).data.toList 10 = m from hm.symm] at HC
  rw [← hm] at hlen
  have HLEN := Lib.hid hlen
  obtain ⟨S, hS⟩ : ∃ S, S = splB l := ⟨_, rfl⟩
  unfold RetSp
  rw [← hS]
  rw [← hS] at HLEN
  rw [HLEN.out]
  have HS := Lib.hid hS
  have hsz : (bs l).size = l.length := rfl
  have HMK := Lib.hid (fun W => make_strs (m + 1) (by omega) W)
  clear hm hlen hS
  go_enter Tryd.func61, Tryd.ntmps61
  go_wp2_with (go_at_call 85; go_in)
  refine HC.out.mono ?_
  rintro e w1 ⟨rfl, rfl⟩
  clear HC
  go_wp2_with fail
  rw [show (min (m : Int) (l.length : Int) + 1) = (((m + 1 : Nat)) : Int) by omega, HMK.out]
  clear HMK
  have ho := own_strs0 w1 (m + 1) (by omega)
  have HO := Lib.hid ho
  have HB := Lib.hid (below_alloc (Below.refl w1.heap.size w1) (.cells (madeCells #[.string (bs [])] (m + 1)) 9))
  clear ho
  generalize hW : w1.alloc (.cells (madeCells #[.string (bs [])] (m + 1)) 9) = W at HO HB ⊢
  clear hW
  go_wp2
  go_loopw [0, 10] (fun v i wr => ∃ (k : Nat) (rest : List UInt8) (done : List (List UInt8)), k ≤ m ∧ i = .int .i64 k ∧ v = .string (bs rest) ∧ S = done ++ splB rest ∧ done.length = k ∧ rest.length ≤ l.length ∧ Own wr w1.heap.size 9 1 RStr (.slice (some ⟨w1.heap.size, 0, none⟩) (m + 1) (m + 1)) (done ++ List.replicate (m + 1 - k) []) ∧ Below w1.heap.size w1 wr) (fun _ i _ => m + 1 - (intOf i).toNat)
  case atStart => exact ⟨0, l, [], Nat.zero_le _, rfl, rfl, HS.out, rfl, Nat.le_refl _, by simpa using HO.out, HB.out⟩
  case round =>
    clear HO HB
    obtain ⟨k, rest, done, hk, rfl, rfl, hS, hd, hrl, ho, hb⟩ := hrel
    have HSS := Lib.hid hS
    have HO := Lib.hid ho
    have HB := Lib.hid hb
    have HD := Lib.hid hd
    have hsl : (splB rest).length = m + 1 - k := by have h := HLEN.out; rw [hS, List.length_append] at h; omega
    have hszr : (bs rest).size = rest.length := rfl
    have hg := indexByte_lt rest 10
    have hsp := HO.out.spare (j := k) (by omega)
    obtain ⟨vk, hvk⟩ := Option.isSome_iff_exists.1 hsp.1
    have hfk := hsp.2
    have hgz := HO.out.sizeLt
    clear hS ho hb hd hsp
    by_cases hlt : k < m
    · have hx : 0 ≤ Lib.indexByte rest 10 := by
        rcases Int.lt_or_le (Lib.indexByte rest 10) 0 with h | h
        · have h1 := splB_one rest h
          rw [h1] at hsl
          simp at hsl
          omega
        · exact h
      have HCUT := Lib.hid (splB_cut rest hx)
      have HI := Lib.hid (Tryd.strings_Index_one (bs rest) 10 wr)
      rw [show Lib.indexByte (bs rest).data.toList 10 = Lib.indexByte rest 10 from rfl] at HI
      obtain ⟨j, hj⟩ := Int.eq_ofNat_of_zero_le hx
      rw [hj] at HI HCUT hg
      rw [Int.toNat_natCast] at HCUT
      have hjl : j < rest.length := by omega
      have hxk : (done ++ List.replicate (m + 1 - k) ([] : List UInt8))[k]? = some [] := by
        rw [List.getElem?_append_right (by have := HD.out; omega), List.getElem?_replicate, if_pos (by have := HD.out; omega)]
      have ho2 := HO.out.set (i := k) (j := 0) (u := .string (bs (rest.take j))) (y := rest.take j) hxk (by omega) (fun cs h => by subst h; rfl)
      have hset : (done ++ List.replicate (m + 1 - k) ([] : List UInt8)).set k (rest.take j) = (done ++ [rest.take j]) ++ List.replicate (m + 1 - (k + 1)) [] := by
        rw [show m + 1 - k = (m + 1 - (k + 1)) + 1 by omega, List.replicate_succ, List.set_append_right _ _ (by have := HD.out; omega)]
        simp [HD.out]
      rw [hset, Nat.mul_one, Nat.add_zero] at ho2
      have HO2 := Lib.hid ho2
      have HB2 := Lib.hid (HO.out.belowSet HB.out ⟨w1.heap.size, k, none⟩ rfl (.string (bs (rest.take j))))
      have hjd : decide ((j : Int) < 0) = false := decide_eq_false (by omega)
      have hj1 : (j : Int) ≤ (rest.length : Int) := by omega
      have hj2 : (0 : Int) ≤ (j : Int) + 1 := by omega
      have hj3 : (j : Int) + 1 ≤ (rest.length : Int) := by omega
      have hjt : ((j : Int)).toNat = j := Int.toNat_natCast _
      have hjt1 : ((j : Int) + 1).toNat = j + 1 := by omega
      clear hx hj hset ho2 hxk hsl
      go_wp2_with (go_at_call 99; refine HI.out.mono ?_; rintro e w2 ⟨rfl, rfl⟩)
      go_roundw
      case rel => exact ⟨k + 1, rest.drop (j + 1), done ++ [rest.take j], by omega, by simp, by first | rfl | trivial | simp, by rw [HSS.out, HCUT.out]; simp, by simp [HD.out], by rw [List.length_drop]; omega, HO2.out, HB2.out⟩
      case measure => (try simp only [intOf]); omega
    · obtain rfl : k = m := by omega
      have hone : splB rest = [rest] := by
        rcases Int.lt_or_le (Lib.indexByte rest 10) 0 with h | h
        · exact splB_one rest h
        · have h1 := congrArg List.length (splB_cut rest h)
          have h2 := List.length_pos_iff.2 (splB_ne (rest.drop ((Lib.indexByte rest 10).toNat + 1)))
          rw [hsl, List.length_cons] at h1
          omega
      have hxk : (done ++ List.replicate (k + 1 - k) ([] : List UInt8))[k]? = some [] := by
        rw [List.getElem?_append_right (by have := HD.out; omega), List.getElem?_replicate, if_pos (by have := HD.out; omega)]
      have ho2 := HO.out.set (i := k) (j := 0) (u := .string (bs rest)) (y := rest) hxk (by omega) (fun cs h => by subst h; rfl)
      have hset : (done ++ List.replicate (k + 1 - k) ([] : List UInt8)).set k rest = S := by
        rw [show k + 1 - k = 0 + 1 by omega, List.replicate_succ, List.set_append_right _ _ (by have := HD.out; omega), HSS.out, hone]
        simp [HD.out]
      rw [hset, Nat.mul_one, Nat.add_zero] at ho2
      have HO2 := Lib.hid ho2
      have HB2 := Lib.hid (HO.out.belowSet HB.out ⟨w1.heap.size, k, none⟩ rfl (.string (bs rest)))
      have hj2 : (0 : Int) ≤ (k : Int) + 1 := by omega
      have hkt1 : ((k : Int) + 1).toNat = k + 1 := by omega
      clear hone hset ho2 hxk hsl hg
      go_wp2_with fail
      go_ret
      exact ⟨w1.heap.size, rfl, HO2.out, HB2.out⟩
end Go.Proofs.YtcbomomlojhghaaDoor
namespace Go.Proofs.YtcbomomlojhghaaDoor
set_option linter.unusedSimpArgs false
set_option linter.unusedVariables false
open Go.RowKit
attribute [local go_sem ↓] Go.wp_at_zero Go.wp_at_succ
def RByt (cs : List Value) (x : UInt8) : Prop := cs = [.int .u8 x.toNat]
/-- a slice of bytes that reads so -/
def Bts (w : World) (A : Option Addr) (c : Nat) (l : List UInt8) : Prop := Slc w 1 1 RByt A c l
theorem Bts.kept {w w' : World} {A : Option Addr} {c : Nat} {l : List UInt8} (h : Bts w A c l) (hk : Kept w w') : Bts w' A c l := Slc.mono h hk fun _ _ h => h
set_option maxRecDepth 100000 in
theorem conv_bts {w : World} {A : Option Addr} {c : Nat} {l : List UInt8} (h : Bts w A c l) : (Go.convert 41 9 (.slice A l.length c)).run Tryd.prog w = .ok (.string (bs l)) w := by
  rcases A with _ | a
  · have h0 : l = [] := by
      rcases l with _ | ⟨x, l⟩
      · rfl
      · obtain ⟨b, o, hA, _⟩ := h.2.2.2 (by simp)
        cases hA
    subst h0
    exact run_convert_bytes_nil (P := Tryd.prog) w 41 5 Tryd.underlying41 (by kernel_rfl) _ _ 9 Tryd.underlying9
  · rcases l with _ | ⟨x, l⟩
    · rw [run_convert_bytes_string w 41 9 5 _ _ _ Tryd.underlying41 (by kernel_rfl) Tryd.underlying9]
      have h1 := run_bytesToString (P := Tryd.prog) w a 0 c [] (by rfl)
      rw [show ([] : List UInt8).length = 0 from rfl, h1]
      rfl
    · obtain ⟨b, o, hA, hc⟩ := h.2.2.2 (by simp)
      injection hA with hA
      subst hA
      have h1 := run_convert_bytes_arg (P := Tryd.prog) w 41 5 Tryd.underlying41 (by kernel_rfl) b o (x :: l).length c ((x :: l).map fun y => (y.toNat : Int)) (by simp) (fun i hi => by
        obtain ⟨cs, hR, _, hr⟩ := hc i _ (List.getElem?_eq_getElem hi)
        have h2 : cs = [.int .u8 ((x :: l)[i]).toNat] := hR
        subst h2
        have h3 := hr 0 _ rfl
        rw [Nat.mul_one, Nat.add_zero] at h3
        rw [h3]
        rw [List.getD_eq_getElem?_getD, List.getElem?_map, List.getElem?_eq_getElem hi]
        rfl) 9 Tryd.underlying9
      rw [h1]
      congr 2
      unfold strOfNums bs
      congr 2
      rw [List.map_map]
      conv => rhs; rw [← List.map_id (x :: l)]
      exact List.map_congr_left fun y _ => by simp
/-- the lines of a text -/
def linS (l : List UInt8) : List (List UInt8) := if (splB l).getLast? = some [] then (splB l).dropLast else splB l
/-- the first line that is none: its error, its place -/
def lineF : Nat → List (List UInt8) → Int × Int
  | _, [] => (0, 0)
  | i, s :: r => if 1000 < s.length then (2, (i : Int) + 1) else if 0 ≤ goodI s then (3, (i : Int) + 1) else lineF (i + 1) r
def linesR (l : List UInt8) : List (List UInt8) × Int × Int := if 65536 < l.length then ([], 2, 0) else if (lineF 0 (linS l)).1 = 0 then (linS l, 0, 0) else ([], (lineF 0 (linS l)).1, (lineF 0 (linS l)).2)
theorem lineF_at {T : List (List UInt8)} {i : Nat} {s : List UInt8} (h : T[i]? = some s) : lineF i (T.drop i) = if 1000 < s.length then (2, (i : Int) + 1) else if 0 ≤ goodI s then (3, (i : Int) + 1) else lineF (i + 1) (T.drop (i + 1)) := by
  obtain ⟨hi, rfl⟩ := List.getElem?_eq_some_iff.1 h
  rw [List.drop_eq_getElem_cons hi, lineF]
theorem blk_neL {w : World} {g t e : Nat} {cs : Array Value} (h : Blk w g t cs) (hne : t ≠ e) (cur : Array Value) : w.heap[g]? ≠ some (.cells cur e (0, 0)) := fun h2 => by
  have h3 : w.heap[g]? = some (.cells cs t (0, 0)) := h
  rw [h3] at h2
  injection h2 with h2
  injection h2 with _ h4
  exact hne h4
/-- lines, an error and its line are returned -/
def RetLn (w : World) (r : List (List UInt8) × Int × Int) (e : Ending) (w' : World) : Prop := ∃ A c, e = .returned (.tuple #[.slice A r.1.length c, .agg #[.int .i64 r.2.1, .int .i64 r.2.2]]) ∧ Strs w' A c r.1 ∧ Below w.heap.size w w'
theorem RetLn.none_ {w w' : World} {r : List (List UInt8) × Int × Int} {e i : Int} (h : r = ([], e, i)) (hb : Below w.heap.size w w') : RetLn w r (.returned (.tuple #[.slice none 0 0, .agg #[.int .i64 e, .int .i64 i]])) w' := by
  rw [h]
  exact ⟨none, 0, rfl, Slc.nil_ (Nat.zero_le _), hb⟩
set_option maxRecDepth 100000 in
set_option maxHeartbeats 4000000 in
theorem lines_any (l : List UInt8) (A : Option Addr) (c : Nat) (w : World) (hs : Bts w A c l) (hT : Lib.Utf8Tabs 0 1 w) :
    Calls Tryd.prog 38 #[.slice A l.length c] w (RetLn w (linesR l)) := by
  have HT := Lib.hid hT
  have K0 := Lib.hid (blk_new1 w 44 #[.int .i64 0, .int .i64 0])
  have HB := Lib.hid (below_alloc (Below.refl w.heap.size w) (.cells #[.int .i64 0, .int .i64 0] 44))
  have HCV := Lib.hid (conv_bts (Bts.kept hs (Kept.alloc w (.cells #[.int .i64 0, .int .i64 0] 44))))
  obtain ⟨G, hG⟩ : ∃ G, G = linesR l := ⟨_, rfl⟩
  rw [← hG]
  unfold linesR at hG
  clear hs hT
  by_cases h64 : 65536 < l.length
  · have d0 : decide ((65536 : Int) < (l.length : Int)) = true := decide_eq_true (by omega)
    rw [if_pos h64] at hG
    have HG := Lib.hid hG
    clear hG h64 HCV
    go_enter Tryd.func38, Tryd.ntmps38
    have f0 := K0.out.frozen 0
    have f1 := K0.out.frozen 1
    have c0 := K0.out.cell 0
    have c1 := K0.out.cell 1
    simp only [List.getElem?_toArray, List.getElem?_cons_zero, List.getElem?_cons_succ] at c0 c1
    have hsz := K0.out.lt
    go_wp2
    refine bodyPost_ret (v := .tuple #[.slice none 0 0, .agg #[.int .i64 2, .int .i64 0]]) (by simp [results, Tryd.results38, go_sem, c0, c1, hsz]; (try rfl)) rfl ?_
    have hb0 := HB.out
    first | exact RetLn.none_ HG.out (below_alloc (Below.refl _ _) _) | exact RetLn.none_ HG.out ((hb0.setCell (Nat.le_refl _) _).setCell (Nat.le_refl _) _)
  · have d0 : decide ((65536 : Int) < (l.length : Int)) = false := decide_eq_false (by omega)
    rw [if_neg h64] at hG
    have HQ := Lib.hid (split_any l (by omega) (w.alloc (.cells #[.int .i64 0, .int .i64 0] 44)))
    have hlen := splB_len l
    have HSB := Lib.hid (splB_short l)
    have hll : l.length ≤ 65536 := by omega
    obtain ⟨m, hm⟩ : ∃ m, m = Lib.countByte l 10 := ⟨_, rfl⟩
    rw [← hm] at hlen
    have hml : m ≤ l.length := by rw [hm]; unfold Lib.countByte; exact List.count_le_length
    clear hm h64
    unfold RetSp at HQ
    unfold linS at hG
    obtain ⟨S, hS⟩ : ∃ S, S = splB l := ⟨_, rfl⟩
    rw [← hS] at HQ hlen HSB hG
    rw [hlen] at HQ
    have HLEN := Lib.hid hlen
    have HG0 := Lib.hid hG
    clear hS hlen hG
    go_enter Tryd.func38, Tryd.ntmps38
    go_wp2_with fail
    rw [HCV.out]
    clear HCV
    go_wp2_with fail
    refine HQ.out.mono ?_
    rintro e w2 ⟨g, rfl, ho, hb⟩
    have HO := Lib.hid (show Own w2 (w.heap.size + 1) 9 1 RStr (.slice (some ⟨g, 0, none⟩) (m + 1) (m + 1)) S by simpa using ho)
    have K0 := Lib.hid (K0.out.next hb)
    have HB := Lib.hid (below_next HB.out hb)
    clear ho hb HQ
    have HSS := Lib.hid (show Strs w2 (some ⟨g, 0, none⟩) (m + 1) S from Own.slcOf (z := 16) HO.out (by have := HLEN.out; omega))
    obtain ⟨x, b2, o2, hx, hA2, e0⟩ := HSS.out.at_ (i := m) (by have := HLEN.out; omega) (Kept.refl _)
    obtain ⟨rfl, rfl⟩ : g = b2 ∧ 0 = o2 := by injection hA2 with hA; injection hA with h1 h2; exact ⟨h1, h2⟩
    rw [Nat.zero_add] at e0
    have hlast : S.getLast? = some x := by
      rw [List.getLast?_eq_getElem?, HLEN.out]
      exact hx
    clear hA2 hx
    have k1 : ((m : Int) + 1 - 1) = (m : Int) := by omega
    have k2 : (m : Int) < (m : Int) + 1 := by omega
    have k3 : ((m : Int)).toNat = m := Int.toNat_natCast _
    have k4 : (0 : Int) ≤ (m : Int) := Int.natCast_nonneg _
    by_cases hx0 : x = []
    · have hxb : x.isEmpty = true := by simpa using hx0
      obtain ⟨T, hTE⟩ : ∃ T, T = S.take m := ⟨_, rfl⟩
      have hTD : S.dropLast = T := by rw [hTE, List.dropLast_eq_take, HLEN.out]; rfl
      have hg := HG0.out
      rw [show (if S.getLast? = some [] then S.dropLast else S) = T from (if_pos (by rw [hlast, hx0])).trans hTD] at hg
      have HGE := Lib.hid hg
      have HTN := Lib.hid (show T.length = m by rw [hTE, List.length_take, HLEN.out]; omega)
      have HTB := Lib.hid (show ∀ s ∈ T, s.length ≤ l.length from fun s hs => HSB.out s (List.mem_of_mem_take (hTE ▸ hs)))
      have HTS := Lib.hid (show ∀ W, Own W (w.heap.size + 1) 9 1 RStr (.slice (some ⟨g, 0, none⟩) (m + 1) (m + 1)) S → Strs W (some ⟨g, 0, none⟩) (m + 1) T from fun W h => by rw [hTE]; exact Slc.take (Own.slcOf (z := 16) h (by have := HLEN.out; omega)) m)
      clear hg hTE hTD hlast hx0
      go_wp2
      clear e0 hxb
      go_loopw [28] (fun i wr => ∃ k : Nat, k ≤ (m) ∧ i = .int .i64 k ∧ lineF 0 T = lineF k (T.drop k) ∧ Own wr (w.heap.size + 1) 9 1 RStr (.slice (some ⟨g, 0, none⟩) (m + 1) (m + 1)) S ∧ Below w.heap.size w wr ∧ Blk wr w.heap.size 44 #[.int .i64 0, .int .i64 0]) (fun i _ => (m) - (intOf i).toNat)
      case atStart => exact ⟨0, Nat.zero_le _, rfl, rfl, HO.out, HB.out, K0.out⟩
      case round =>
        clear HO HB K0
        obtain ⟨k, hk, rfl, hlf, ho, hb, hk0⟩ := hrel
        have HLF := Lib.hid hlf
        have HO := Lib.hid ho
        have HB := Lib.hid hb
        have K0 := Lib.hid hk0
        clear hlf ho hb hk0
        by_cases hlt : k < (m)
        · obtain ⟨s, b2, o2, hsk, hA2, e0⟩ := (HTS.out _ HO.out).at_ (i := k) (by have := HTN.out; omega) (Kept.refl _)
          obtain ⟨rfl, rfl⟩ : g = b2 ∧ 0 = o2 := by injection hA2 with hA; injection hA with h1 h2; exact ⟨h1, h2⟩
          have HLA := Lib.hid (HLF.out.trans (lineF_at hsk))
          have HSL := Lib.hid (HTB.out s (List.mem_of_getElem? hsk))
          have hsz0 : (bs s).size = s.length := rfl
          rw [Nat.zero_add] at e0
          clear hsk hA2
          by_cases h1000 : 1000 < s.length
          · have d1 : decide ((1000 : Int) < (s.length : Int)) = true := decide_eq_true (by omega)
            have HG := Lib.hid (show G = ([], 2, (k : Int) + 1) by rw [HGE.out, HLA.out, if_pos h1000]; rfl)
            clear h1000
            have f0 := K0.out.frozen 0
            have f1 := K0.out.frozen 1
            have c0 := K0.out.cell 0
            have c1 := K0.out.cell 1
            simp only [List.getElem?_toArray, List.getElem?_cons_zero, List.getElem?_cons_succ] at c0 c1
            have hsz := K0.out.lt
            go_wp2
            refine bodyPost_ret (v := .tuple #[.slice none 0 0, .agg #[.int .i64 2, .int .i64 ((k : Int) + 1)]]) (by simp [results, Tryd.results38, go_sem, c0, c1, hsz]; (try rfl)) rfl ?_
            have hb0 := HB.out
            first | exact RetLn.none_ HG.out (below_alloc (Below.refl _ _) _) | exact RetLn.none_ HG.out ((hb0.setCell (Nat.le_refl _) _).setCell (Nat.le_refl _) _)
          · have d1 : decide ((1000 : Int) < (s.length : Int)) = false := decide_eq_false (by omega)
            have HLA := Lib.hid (HLA.out.trans (if_neg h1000))
            clear h1000
            go_wp2_with fail
            have HQ := Lib.hid (goodG_any s (by have := HSL.out; omega) wr (tabs_kept HT.out (Kept.of_below HB.out)))
            obtain ⟨I, hI⟩ : ∃ I, I = goodI s := ⟨_, rfl⟩
            rw [← hI] at HQ HLA
            clear hI
            refine HQ.out.mono ?_
            rintro e w4 ⟨rfl, hb4⟩
            have HO := Lib.hid (HO.out.next hb4)
            have HB := Lib.hid (below_next HB.out hb4)
            have K0 := Lib.hid (K0.out.next hb4)
            clear hb4 HQ e0
            by_cases hI0 : 0 ≤ I
            · have HG := Lib.hid (show G = ([], 3, (k : Int) + 1) by rw [HGE.out, HLA.out, if_pos hI0]; rfl)
              have d2 : decide ((0 : Int) ≤ I) = true := decide_eq_true hI0
              clear hI0
              have f0 := K0.out.frozen 0
              have f1 := K0.out.frozen 1
              have c0 := K0.out.cell 0
              have c1 := K0.out.cell 1
              simp only [List.getElem?_toArray, List.getElem?_cons_zero, List.getElem?_cons_succ] at c0 c1
              have hsz := K0.out.lt
              go_wp2
              refine bodyPost_ret (v := .tuple #[.slice none 0 0, .agg #[.int .i64 3, .int .i64 ((k : Int) + 1)]]) (by simp [results, Tryd.results38, go_sem, c0, c1, hsz]; (try rfl)) rfl ?_
              have hb0 := HB.out
              first | exact RetLn.none_ HG.out (below_alloc (Below.refl _ _) _) | exact RetLn.none_ HG.out ((hb0.setCell (Nat.le_refl _) _).setCell (Nat.le_refl _) _)
            · have HLF := Lib.hid (HLA.out.trans (if_neg hI0))
              have d2 : decide ((0 : Int) ≤ I) = false := decide_eq_false hI0
              clear hI0
              go_wp2
              go_roundw
              case rel => exact ⟨k + 1, by omega, by simp, HLF.out, HO.out, HB.out, K0.out⟩
              case measure => (try simp only [intOf]); omega
        · have HG := Lib.hid (show G = (T, 0, 0) by
            have h := HLF.out
            rw [List.drop_eq_nil_of_le (by have := HTN.out; omega)] at h
            rw [HGE.out, h]
            rfl)
          have f0 := K0.out.frozen 0
          have f1 := K0.out.frozen 1
          have c0 := K0.out.cell 0
          have c1 := K0.out.cell 1
          simp only [List.getElem?_toArray, List.getElem?_cons_zero, List.getElem?_cons_succ] at c0 c1
          have hsz := K0.out.lt
          go_wp2
          refine bodyPost_ret (v := .tuple #[.slice (some ⟨g, 0, none⟩) (m) (m + 1), .agg #[.int .i64 0, .int .i64 0]]) (by simp [results, Tryd.results38, go_sem, c0, c1, hsz]; (try rfl)) rfl ?_
          have hb0 := HB.out
          have ho6 := HO.out.setCell (p := ⟨w.heap.size, 0, none⟩) (blk_neL K0.out (by decide)) (.int .i64 0)
          have ho7 := ho6.setCell (p := ⟨w.heap.size, 1, none⟩) (blk_neL (K0.out.set_ 0 _) (by decide)) (.int .i64 0)
          rw [HG.out]
          exact ⟨_, _, by rw [HTN.out], HTS.out _ ho7, (hb0.setCell (Nat.le_refl _) _).setCell (Nat.le_refl _) _⟩
    · have hxb : x.isEmpty = false := by simpa using hx0
      obtain ⟨T, hTE⟩ : ∃ T, T = S := ⟨_, rfl⟩
      have hg := HG0.out
      rw [show (if S.getLast? = some [] then S.dropLast else S) = T from (if_neg (by rw [hlast]; intro h; injection h with h; exact hx0 h)).trans hTE.symm] at hg
      have HGE := Lib.hid hg
      have HTN := Lib.hid (show T.length = m + 1 by rw [hTE]; exact HLEN.out)
      have HTB := Lib.hid (show ∀ s ∈ T, s.length ≤ l.length from fun s hs => HSB.out s (hTE ▸ hs))
      have HTS := Lib.hid (show ∀ W, Own W (w.heap.size + 1) 9 1 RStr (.slice (some ⟨g, 0, none⟩) (m + 1) (m + 1)) S → Strs W (some ⟨g, 0, none⟩) (m + 1) T from fun W h => by rw [hTE]; exact Own.slcOf (z := 16) h (by have := HLEN.out; omega))
      clear hg hTE hlast hx0
      go_wp2
      clear e0 hxb
      go_loopw [28] (fun i wr => ∃ k : Nat, k ≤ (m + 1) ∧ i = .int .i64 k ∧ lineF 0 T = lineF k (T.drop k) ∧ Own wr (w.heap.size + 1) 9 1 RStr (.slice (some ⟨g, 0, none⟩) (m + 1) (m + 1)) S ∧ Below w.heap.size w wr ∧ Blk wr w.heap.size 44 #[.int .i64 0, .int .i64 0]) (fun i _ => (m + 1) - (intOf i).toNat)
      case atStart => exact ⟨0, Nat.zero_le _, rfl, rfl, HO.out, HB.out, K0.out⟩
      case round =>
        clear HO HB K0
        obtain ⟨k, hk, rfl, hlf, ho, hb, hk0⟩ := hrel
        have HLF := Lib.hid hlf
        have HO := Lib.hid ho
        have HB := Lib.hid hb
        have K0 := Lib.hid hk0
        clear hlf ho hb hk0
        by_cases hlt : k < (m + 1)
        · obtain ⟨s, b2, o2, hsk, hA2, e0⟩ := (HTS.out _ HO.out).at_ (i := k) (by have := HTN.out; omega) (Kept.refl _)
          obtain ⟨rfl, rfl⟩ : g = b2 ∧ 0 = o2 := by injection hA2 with hA; injection hA with h1 h2; exact ⟨h1, h2⟩
          have HLA := Lib.hid (HLF.out.trans (lineF_at hsk))
          have HSL := Lib.hid (HTB.out s (List.mem_of_getElem? hsk))
          have hsz0 : (bs s).size = s.length := rfl
          rw [Nat.zero_add] at e0
          clear hsk hA2
          by_cases h1000 : 1000 < s.length
          · have d1 : decide ((1000 : Int) < (s.length : Int)) = true := decide_eq_true (by omega)
            have HG := Lib.hid (show G = ([], 2, (k : Int) + 1) by rw [HGE.out, HLA.out, if_pos h1000]; rfl)
            clear h1000
            have f0 := K0.out.frozen 0
            have f1 := K0.out.frozen 1
            have c0 := K0.out.cell 0
            have c1 := K0.out.cell 1
            simp only [List.getElem?_toArray, List.getElem?_cons_zero, List.getElem?_cons_succ] at c0 c1
            have hsz := K0.out.lt
            go_wp2
            refine bodyPost_ret (v := .tuple #[.slice none 0 0, .agg #[.int .i64 2, .int .i64 ((k : Int) + 1)]]) (by simp [results, Tryd.results38, go_sem, c0, c1, hsz]; (try rfl)) rfl ?_
            have hb0 := HB.out
            first | exact RetLn.none_ HG.out (below_alloc (Below.refl _ _) _) | exact RetLn.none_ HG.out ((hb0.setCell (Nat.le_refl _) _).setCell (Nat.le_refl _) _)
          · have d1 : decide ((1000 : Int) < (s.length : Int)) = false := decide_eq_false (by omega)
            have HLA := Lib.hid (HLA.out.trans (if_neg h1000))
            clear h1000
            go_wp2_with fail
            have HQ := Lib.hid (goodG_any s (by have := HSL.out; omega) wr (tabs_kept HT.out (Kept.of_below HB.out)))
            obtain ⟨I, hI⟩ : ∃ I, I = goodI s := ⟨_, rfl⟩
            rw [← hI] at HQ HLA
            clear hI
            refine HQ.out.mono ?_
            rintro e w4 ⟨rfl, hb4⟩
            have HO := Lib.hid (HO.out.next hb4)
            have HB := Lib.hid (below_next HB.out hb4)
            have K0 := Lib.hid (K0.out.next hb4)
            clear hb4 HQ e0
            by_cases hI0 : 0 ≤ I
            · have HG := Lib.hid (show G = ([], 3, (k : Int) + 1) by rw [HGE.out, HLA.out, if_pos hI0]; rfl)
              have d2 : decide ((0 : Int) ≤ I) = true := decide_eq_true hI0
              clear hI0
              have f0 := K0.out.frozen 0
              have f1 := K0.out.frozen 1
              have c0 := K0.out.cell 0
              have c1 := K0.out.cell 1
              simp only [List.getElem?_toArray, List.getElem?_cons_zero, List.getElem?_cons_succ] at c0 c1
              have hsz := K0.out.lt
              go_wp2
              refine bodyPost_ret (v := .tuple #[.slice none 0 0, .agg #[.int .i64 3, .int .i64 ((k : Int) + 1)]]) (by simp [results, Tryd.results38, go_sem, c0, c1, hsz]; (try rfl)) rfl ?_
              have hb0 := HB.out
              first | exact RetLn.none_ HG.out (below_alloc (Below.refl _ _) _) | exact RetLn.none_ HG.out ((hb0.setCell (Nat.le_refl _) _).setCell (Nat.le_refl _) _)
            · have HLF := Lib.hid (HLA.out.trans (if_neg hI0))
              have d2 : decide ((0 : Int) ≤ I) = false := decide_eq_false hI0
              clear hI0
              go_wp2
              go_roundw
              case rel => exact ⟨k + 1, by omega, by simp, HLF.out, HO.out, HB.out, K0.out⟩
              case measure => (try simp only [intOf]); omega
        · have HG := Lib.hid (show G = (T, 0, 0) by
            have h := HLF.out
            rw [List.drop_eq_nil_of_le (by have := HTN.out; omega)] at h
            rw [HGE.out, h]
            rfl)
          have f0 := K0.out.frozen 0
          have f1 := K0.out.frozen 1
          have c0 := K0.out.cell 0
          have c1 := K0.out.cell 1
          simp only [List.getElem?_toArray, List.getElem?_cons_zero, List.getElem?_cons_succ] at c0 c1
          have hsz := K0.out.lt
          go_wp2
          refine bodyPost_ret (v := .tuple #[.slice (some ⟨g, 0, none⟩) (m + 1) (m + 1), .agg #[.int .i64 0, .int .i64 0]]) (by simp [results, Tryd.results38, go_sem, c0, c1, hsz]; (try rfl)) rfl ?_
          have hb0 := HB.out
          have ho6 := HO.out.setCell (p := ⟨w.heap.size, 0, none⟩) (blk_neL K0.out (by decide)) (.int .i64 0)
          have ho7 := ho6.setCell (p := ⟨w.heap.size, 1, none⟩) (blk_neL (K0.out.set_ 0 _) (by decide)) (.int .i64 0)
          rw [HG.out]
          exact ⟨_, _, by rw [HTN.out], HTS.out _ ho7, (hb0.setCell (Nat.le_refl _) _).setCell (Nat.le_refl _) _⟩
end Go.Proofs.YtcbomomlojhghaaDoor
namespace Go.Proofs.YtcbomomlojhghaaDoor
set_option linter.unusedSimpArgs false
set_option linter.unusedVariables false
theorem splB_app : ∀ {u v : List UInt8}, (∀ c ∈ u, c ≠ 10) → splB (u ++ 10 :: v) = u :: splB v
  | [], v, _ => by rw [List.nil_append, splB, if_pos rfl]
  | x :: u, v, h => by
    rw [List.cons_append, splB, if_neg (h x (by simp)), splB_app fun c hc => h c (by simp [hc])]
    rfl
theorem splB_no : ∀ {u : List UInt8}, (∀ c ∈ u, c ≠ 10) → splB u = [u]
  | [], _ => rfl
  | x :: u, h => by
    rw [splB, if_neg (h x (by simp)), splB_no fun c hc => h c (by simp [hc])]
    rfl
theorem linS_nil : linS [] = [] := rfl
theorem linS_app {u v : List UInt8} (h : ∀ c ∈ u, c ≠ 10) : linS (u ++ 10 :: v) = u :: linS v := by
  unfold linS
  rw [splB_app h]
  rcases hs : splB v with _ | ⟨a, r⟩
  · exact absurd hs (splB_ne v)
  · rw [List.getLast?_cons_cons]
    split
    · rw [List.dropLast_cons_of_ne_nil (by simp)]
    · rfl
theorem linS_no {u : List UInt8} (h : ∀ c ∈ u, c ≠ 10) (h0 : u ≠ []) : linS u = [u] := by
  unfold linS
  rw [splB_no h, if_neg (by intro e; simp at e; exact h0 e)]
/-- behind a line end -/
theorem linS_step {l : List UInt8} {f k : Nat} (hf : f ≤ k) (hk : l[k]? = some 10) (hn : ∀ c ∈ (l.drop f).take (k - f), c ≠ 10) : linS (l.drop f) = (l.drop f).take (k - f) :: linS (l.drop (k + 1)) := by
  obtain ⟨hi, he⟩ := List.getElem?_eq_some_iff.1 hk
  have h1 : l.drop f = (l.drop f).take (k - f) ++ 10 :: l.drop (k + 1) := by
    have := List.take_append_drop (k - f) (l.drop f)
    rw [List.drop_drop, show f + (k - f) = k by omega, List.drop_eq_getElem_cons hi, he] at this
    exact this.symm
  conv => lhs; rw [h1]
  exact linS_app hn
theorem linS_last {l : List UInt8} {f : Nat} (hf : f < l.length) (hn : ∀ c ∈ (l.drop f).take (l.length - f), c ≠ 10) : linS (l.drop f) = (l.drop f).take (l.length - f) :: linS (l.drop (l.length + 1)) := by
  have h1 : (l.drop f).take (l.length - f) = l.drop f := List.take_of_length_le (by simp)
  rw [h1] at hn ⊢
  rw [List.drop_eq_nil_of_le (Nat.le_succ _), linS_nil]
  exact linS_no hn (by intro e; have := congrArg List.length e; simp at this; omega)
theorem lineF_cons (i : Nat) (s : List UInt8) (r : List (List UInt8)) : lineF i (s :: r) = if 1000 < s.length then (2, (i : Int) + 1) else if 0 ≤ goodI s then (3, (i : Int) + 1) else lineF (i + 1) r := rfl
end Go.Proofs.YtcbomomlojhghaaDoor
