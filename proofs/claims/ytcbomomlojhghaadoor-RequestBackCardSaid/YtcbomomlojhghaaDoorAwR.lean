/- The contracts of request.Parse and of layer 17's awake. -/
import Derived.Test.YtcbomomlojhghaaDoorPqA
import Derived.Test.YtcbomomlojhghaaDoorLnA
import Derived.Test.YtcbomomlojhghaaDoorAwX
namespace Go.Proofs.YtcbomomlojhghaaDoor
set_option linter.unusedSimpArgs false
set_option linter.unusedVariables false
open Go.RowKit
attribute [local go_sem ↓] Go.wp_at_zero Go.wp_at_succ
theorem infAskQ : (Tryd.prog.info? 78).map (fun i => (i.zero, i.size, i.bytes)) = some (some (.agg #[.int .i64 0, .string (bs []), .string (bs [])]), 3, 40) := by kernel_rfl
def kA : Stp := ⟨1, [97, 97], [49]⟩
def kB : Stp := ⟨2, [98, 98], []⟩
theorem words_A : wordsS askA = [[105, 110, 115, 116, 97, 108, 108], [97, 97, 61, 49]] := by decide +kernel
theorem words_B : wordsS askB = [[114, 101, 109, 111, 118, 101], [98, 98]] := by decide +kernel
theorem parse_A : parseQ [[105, 110, 115, 116, 97, 108, 108], [97, 97, 61, 49]] = (kA, true) := by decide +kernel
theorem parse_B : parseQ [[114, 101, 109, 111, 118, 101], [98, 98]] = (kB, true) := by decide +kernel
theorem may_AB : mayQs [kA, kB] = 0 := by decide +kernel
theorem hp_one (l : List UInt8) (c : UInt8) : Lib.hasPrefix l [c] = (l.head? == some c) := by
  cases l with
  | nil => rfl
  | cons x l =>
    show ((c == x) && List.isPrefixOf [] l) = (some x == some c)
    rw [Bool.eq_iff_iff]
    constructor
    · intro h; simp at h; simp [h]
    · intro h; simp at h; simp [h]
theorem pq_short {ws : List (List UInt8)} (h : ∀ x ∈ ws, x.length ≤ 1048576) : short (parseQ ws).1.name := by
  have h0 : short ([] : List UInt8) := by unfold short; simp
  unfold parseQ
  dsimp only
  split
  · exact h0
  · split
    · split
      · rename_i hd n hk hq
        have hn : n.length ≤ 1048576 := h n (by simp)
        have hc := cutS_le (l := n) (c := 61) (a := (cutS n 61).1) (b := (cutS n 61).2.1) (is := (cutS n 61).2.2) rfl
        unfold parse2
        split
        · split
          · exact h0
          · show short (cutS n 61).1
            unfold short
            omega
        · show short n
          unfold short
          omega
      · exact h0
    · exact h0
/-- a request, an error and its line are returned -/
def RetPr (w : World) (r : List Stp × Int × Int) (e : Ending) (w' : World) : Prop := ∃ A c, e = .returned (.tuple #[.slice A r.1.length c, .agg #[.int .i64 r.2.1, .int .i64 r.2.2]]) ∧ Stps w' A c r.1 ∧ Below w.heap.size w w'
theorem RetPr.none_ {w w' : World} {r : List Stp × Int × Int} {e i : Int} (h : r = ([], e, i)) (hb : Below w.heap.size w w') : RetPr w r (.returned (.tuple #[.slice none 0 0, .agg #[.int .i64 e, .int .i64 i]])) w' := by
  rw [h]
  exact ⟨none, 0, rfl, Slc.nil_ (Nat.zero_le _), hb⟩
theorem blk_ne {w : World} {g t e : Nat} {cs : Array Value} (h : Blk w g t cs) (hne : t ≠ e) (cur : Array Value) : w.heap[g]? ≠ some (.cells cur e (0, 0)) := fun h2 => by
  have h3 : w.heap[g]? = some (.cells cs t (0, 0)) := h
  rw [h3] at h2
  injection h2 with h2
  injection h2 with _ h4
  exact hne h4
set_option maxRecDepth 100000 in
set_option maxHeartbeats 2000000 in
theorem qParse_any (L : List (List UInt8)) (x : Value) (w : World) (hll : L.length ≤ 1000000) (hsl : ∀ s ∈ L, s.length ≤ 1048576)
    (hL : Calls Tryd.prog 38 #[x] (w.alloc (.cells #[.int .i64 0, .int .i64 0] 44)) fun e w' => ∃ A c, e = .returned (.tuple #[.slice A L.length c, .agg #[.int .i64 0, .int .i64 0]]) ∧ Strs w' A c L ∧ Below (w.alloc (.cells #[.int .i64 0, .int .i64 0] 44)).heap.size (w.alloc (.cells #[.int .i64 0, .int .i64 0] 44)) w') :
    Calls Tryd.prog 15 #[x] w (RetPr w (parL 0 L [])) := by
  obtain ⟨G, hG⟩ : ∃ G, G = parL 0 L [] := ⟨_, rfl⟩
  rw [← hG]
  have HG := Lib.hid hG
  have HQ := Lib.hid hL
  have HSL := Lib.hid hsl
  have K0 := Lib.hid (blk_new1 w 44 #[.int .i64 0, .int .i64 0])
  have HB0 := Lib.hid (below_alloc (Below.refl w.heap.size w) (.cells #[.int .i64 0, .int .i64 0] 44))
  clear hG hL hsl
  go_enter Tryd.func15, Tryd.ntmps15
  go_wp2_with fail
  refine HQ.out.mono ?_
  rintro e w2 ⟨A, c, rfl, hs, hb⟩
  have HS0 := Lib.hid hs
  have K02 := Lib.hid (K0.out.next hb)
  have HB2 := Lib.hid (below_next HB0.out hb)
  clear hs hb HQ K0 HB0
  obtain ⟨n, hn⟩ : ∃ n, n = L.length := ⟨_, rfl⟩
  have HN := Lib.hid hn
  have hbl := Slc.bd HS0.out
  rw [← hn] at hll hbl ⊢
  clear hn
  dsimp only
  go_wp2
  have HB3 := Lib.hid (below_alloc HB2.out (.cells #[.int .i64 0, .int .i64 0] 44))
  have K03 := Lib.hid (K02.out.alloc (.cells #[.int .i64 0, .int .i64 0] 44))
  have HS3 := Lib.hid (Strs.kept HS0.out (Kept.alloc w2 (.cells #[.int .i64 0, .int .i64 0] 44)))
  generalize w2.alloc (.cells #[.int .i64 0, .int .i64 0] 44) = W at HB3 K03 HS3 ⊢
  clear HS0 K02 HB2
  go_loopw [6, 24] (fun v i wr => ∃ (k : Nat) (acc : List Stp), k ≤ n ∧ i = .int .i64 k ∧ G = parL k (L.drop k) acc ∧ acc.length ≤ k ∧ (∀ a ∈ acc, short a.name) ∧ Own wr W.heap.size 78 3 RStp v acc ∧ Below W.heap.size W wr) (fun _ i _ => n - (intOf i).toNat)
  case atStart => exact ⟨0, [], Nat.zero_le _, rfl, HG.out, by simp, by simp, Own.nil_ _ _ _ _ _, Below.refl _ _⟩
  case round =>
    obtain ⟨k, acc, hk, rfl, hg, hal, hash, ho, hb⟩ := hrel
    have HO := Lib.hid ho
    have HB := Lib.hid hb
    have HG := Lib.hid hg
    have HAS := Lib.hid hash
    have K0 := Lib.hid (K03.out.next hb)
    clear ho hb hg hash
    by_cases hlt : k < n
    · obtain ⟨s, b, o, hs, rfl, e0⟩ := HS3.out.at_ (show k < L.length by have := HN.out; omega) (Kept.of_below HB.out)
      have HSS := Lib.hid (HSL.out s (List.mem_of_getElem? hs))
      have HLK := Lib.hid hs
      clear hs
      go_wp2_with fail
      clear e0
      have HQ := Lib.hid (words_any s (by have := HSS.out; omega) wr)
      have HWS := Lib.hid (show ∀ y ∈ wordsS s, y.length ≤ 1048576 from fun y hy => by have h1 := words_short s [] y hy; have h2 := HSS.out; simp at h1; omega)
      obtain ⟨ws, hws⟩ : ∃ ws, ws = wordsS s := ⟨_, rfl⟩
      rw [← hws] at HQ HWS
      have HWE := Lib.hid hws
      clear hws
      refine HQ.out.mono ?_
      rintro e w4 ⟨A4, c4, rfl, hs4, hb4⟩
      have HS4 := Lib.hid hs4
      have HO4 := Lib.hid (HO.out.next hb4)
      have HB4 := Lib.hid (below_next HB.out hb4)
      have K04 := Lib.hid (K0.out.next hb4)
      clear hs4 hb4 HQ
      by_cases hw0 : ws = []
      · subst hw0
        have HRS := Lib.hid (show restL s = true by unfold restL; rw [← HWE.out]; rfl)
        have HG5 := Lib.hid (HG.out.trans (par_rest HLK.out HRS.out))
        go_wp2
        go_roundw
        case rel => exact ⟨k + 1, acc, by omega, by simp, HG5.out, by omega, HAS.out, HO4.out, HB4.out⟩
        case measure => (try simp only [intOf]); omega
      · have hz : ((ws.length : Int) == 0) = false := by
          rw [beq_eq_false_iff_ne]
          intro h
          exact hw0 (List.length_eq_zero_iff.1 (by omega))
        have HW0 := Lib.hid hw0
        clear hw0
        have HP := Lib.hid (Tryd.strings_HasPrefix (bs s) ⟨#[35]⟩ w4)
        rw [show (ByteArray.mk #[35]).data.toList = [35] from rfl, show (bs s).data.toList = s from rfl, hp_one] at HP
        go_wp2_with fail
        refine HP.out.mono ?_
        rintro e w5 ⟨rfl, rfl⟩
        clear HP
        rcases hh : (s.head? == some 35)
        · have HRS := Lib.hid (show restL s = false by unfold restL; rw [← HWE.out, hh, decide_eq_false HW0.out]; rfl)
          have HQ := Lib.hid (qparse_any ws A4 c4 w5 HS4.out HW0.out HWS.out)
          have HNM := Lib.hid (pq_short HWS.out)
          obtain ⟨⟨⟨kd, nm, vr⟩, ok⟩, hpq⟩ : ∃ r, r = parseQ ws := ⟨_, rfl⟩
          rw [← hpq] at HQ HNM
          have HPQ := Lib.hid (hpq.trans (by rw [HWE.out]))
          clear hh hpq
          unfold RetA at HQ
          dsimp only at HQ HNM
          go_wp2_with fail
          refine HQ.out.mono ?_
          rintro e w6 ⟨rfl, hb6⟩
          have HO6 := Lib.hid (HO4.out.next hb6)
          have HB6 := Lib.hid (below_next HB4.out hb6)
          have K06 := Lib.hid ((K04.out.next hb6).alloc (.cells #[.int .i64 kd, .string (bs nm), .string (bs vr)] 78))
          clear hb6 HQ HS4
          rcases ok
          · have HG6 := Lib.hid (HG.out.trans (par_bad HLK.out HRS.out (by rw [← HPQ.out])))
            have f0 := K06.out.frozen 0
            have f1 := K06.out.frozen 1
            have c0 := K06.out.cell 0
            have c1 := K06.out.cell 1
            simp only [List.getElem?_toArray, List.getElem?_cons_zero, List.getElem?_cons_succ] at c0 c1
            have hsz := K06.out.lt
            go_wp2
            refine bodyPost_ret (v := .tuple #[.slice none 0 0, .agg #[.int .i64 3, .int .i64 ((k : Int) + 1)]]) (by simp [results, Tryd.results15, go_sem, c0, c1, hsz]; (try rfl)) rfl ?_
            have hb0 := below_next HB3.out HB6.out
            exact RetPr.none_ HG6.out (((below_alloc hb0 _).setCell (Nat.le_refl _) _).setCell (Nat.le_refl _) _)
          · have HG6 := Lib.hid (HG.out.trans (par_step HLK.out HRS.out (by rw [← HPQ.out])))
            rw [← HPQ.out] at HG6
            go_wp2_with (at_builtin; refine wpList_append_el (by rfl) _ _ 42 (by rfl) W.heap.size 78 _ 3 40 Tryd.underlying42 infAskQ rfl (by omega) RStp _ acc (by rfl) ((HO6.out.alloc _).alloc _) (⟨kd, nm, vr⟩ : Stp) [.int .i64 kd, .string (bs nm), .string (bs vr)] _ 1 (by rfl) (by first | exact blk_new2 _ _ _ _ | exact blk_new1 _ _ _) rfl rfl (stp_one _ _ _) (by omega) (by omega) (by have := HB6.out.size; simp; omega) ?_; intro g cap w7 ho7 hg7; have HO7 := Lib.hid ho7; have HB7 := Lib.hid (((HO6.out.alloc _).alloc _).below (below_alloc (below_alloc HB6.out _) _) (by have := HB6.out.size; simp; omega) hg7); clear ho7 hg7)
            go_roundw
            case rel => exact ⟨k + 1, acc ++ [⟨kd, nm, vr⟩], by omega, by simp, HG6.out, by simp; omega, fun a ha => (by
              rcases List.mem_append.1 ha with ha | ha
              · exact HAS.out a ha
              · rw [List.mem_singleton.1 ha]; exact HNM.out), HO7.out, HB7.out⟩
            case measure => (try simp only [intOf]); omega
        · have HRS := Lib.hid (show restL s = true by unfold restL; rw [hh]; simp)
          have HG5 := Lib.hid (HG.out.trans (par_rest HLK.out HRS.out))
          clear hh
          go_wp2
          go_roundw
          case rel => exact ⟨k + 1, acc, by omega, by simp, HG5.out, by omega, HAS.out, HO4.out, HB4.out⟩
          case measure => (try simp only [intOf]); omega
    · have HG5 := Lib.hid (HG.out.trans (par_end (L := L) (i := k) (by have := HN.out; omega)))
      have hz9 : acc.length * 40 ≤ 140737488351232 := by omega
      have HZ9 := Lib.hid hz9
      obtain ⟨A9, c9, rfl, hs9⟩ := HO.out.slc (z := 40) hz9
      clear hz9
      have HS9 := Lib.hid hs9
      have HQ := Lib.hid (qmay_any acc A9 c9 wr hs9 HAS.out)
      clear hs9
      obtain ⟨M, hM⟩ : ∃ M, M = mayQs acc := ⟨_, rfl⟩
      rw [← hM] at HQ HG5
      clear hM
      go_wp2_with fail
      refine HQ.out.mono ?_
      rintro e w6 ⟨rfl, hb6⟩
      have HS6 := Lib.hid (Stps.kept HS9.out (Kept.of_below hb6))
      have HB6 := Lib.hid (below_next HB.out hb6)
      have K06 := Lib.hid (K0.out.next hb6)
      have hbq := hb6
      clear hb6 HQ HS9
      have f0 := K06.out.frozen 0
      have f1 := K06.out.frozen 1
      have c0 := K06.out.cell 0
      have c1 := K06.out.cell 1
      simp only [List.getElem?_toArray, List.getElem?_cons_zero, List.getElem?_cons_succ] at c0 c1
      have hsz := K06.out.lt
      by_cases hm0 : M = 0
      · subst hm0
        have HG6 := Lib.hid (show G = (acc, 0, 0) from HG5.out.trans (if_pos rfl))
        go_wp2
        refine bodyPost_ret (v := .tuple #[.slice A9 acc.length c9, .agg #[.int .i64 0, .int .i64 0]]) (by simp [results, Tryd.results15, go_sem, c0, c1, hsz]; (try rfl)) rfl ?_
        have hb0 := below_next HB3.out HB6.out
        have ho6 := (HO.out.next hbq).setCell (p := ⟨w.heap.size, 0, none⟩) (blk_ne K06.out (by decide)) (.int .i64 0)
        have ho7 := ho6.setCell (p := ⟨w.heap.size, 1, none⟩) (blk_ne (K06.out.set_ 0 _) (by decide)) (.int .i64 0)
        rw [HG6.out]
        exact ⟨A9, c9, rfl, Own.slcOf_ (z := 40) ho7 HZ9.out, (hb0.setCell (Nat.le_refl _) _).setCell (Nat.le_refl _) _⟩
      · have hmb : (M != 0) = true := by rw [bne_iff_ne]; exact hm0
        have HG6 := Lib.hid (show G = ([], M, 0) from HG5.out.trans (if_neg hm0))
        clear hm0
        go_wp2
        refine bodyPost_ret (v := .tuple #[.slice none 0 0, .agg #[.int .i64 M, .int .i64 0]]) (by simp [results, Tryd.results15, go_sem, c0, c1, hsz]; (try rfl)) rfl ?_
        have hb0 := below_next HB3.out HB6.out
        exact RetPr.none_ HG6.out ((hb0.setCell (Nat.le_refl _) _).setCell (Nat.le_refl _) _)
theorem askL_pq : parL 0 [askA, askB] [] = ([kA, kB], 0, 0) := by
  rw [parL, show restL askA = false by decide +kernel, words_A, parse_A]
  simp only [Bool.false_eq_true, if_false, if_true]
  rw [parL, show restL askB = false by decide +kernel, words_B, parse_B]
  simp only [Bool.false_eq_true, if_false, if_true]
  rw [parL]
  exact if_pos may_AB
theorem strs_cut {w : World} {g : Nat} (h : Blk w g 9 #[.string (bs askA), .string (bs askB), .string (bs [])]) : Strs w (some ⟨g, 0, none⟩) 3 [askA, askB] :=
  Slc.take_ (l := [askA, askB, []]) (slc_of_blk [[.string (bs askA)], [.string (bs askB)], [.string (bs [])]] h rfl rfl (fun i cs x h1 h2 => by
    rcases i with _ | _ | _ | i
    · simp at h1 h2; subst h1 h2; exact ⟨rfl, rfl⟩
    · simp at h1 h2; subst h1 h2; exact ⟨rfl, rfl⟩
    · simp at h1 h2; subst h1 h2; exact ⟨rfl, rfl⟩
    · simp at h1) rfl (by show 3 * 16 ≤ _; decide) (by show 3 ≤ 1000; decide) (by decide)) 2
set_option maxRecDepth 100000 in
theorem parse_ask (b c : Nat) (w : World) (hc : BytesAt w b) : Calls Tryd.prog 15 #[.slice (some ⟨b, 0, none⟩) 23 c] w (RetPr w ([kA, kB], 0, 0)) := by
  have h := qParse_any [askA, askB] (.slice (some ⟨b, 0, none⟩) 23 c) w (by simp) (by decide) ((lines_ask b c _ fun i hi => Lib.cell?_alloc_marked _ (hc i hi)).mono fun e w' ⟨g, he, hB, hb⟩ => ⟨_, _, he, strs_cut hB, hb⟩)
  rw [askL_pq] at h
  exact h
theorem cell_mark (w : World) (C : Array Value) (e : TypeId) (m : Nat × Nat) (j : Nat) : (w.alloc (.cells C e m)).cell? ⟨w.heap.size, j, none⟩ = C[j]? := by
  have h : (w.alloc (.cells C e m)).heap[w.heap.size]? = some (.cells C e m) := by
    show (w.heap.push _)[w.heap.size]? = _
    simp
  unfold World.cell?
  rw [show (⟨w.heap.size, j, none⟩ : Addr).block = w.heap.size from rfl, h]
  rfl
def askC : Array Value := (askN.map (Value.int .u8)).toArray
set_option maxRecDepth 100000 in
theorem askC_eq : askC = #[Value.int IntKind.u8 105, Value.int IntKind.u8 110, Value.int IntKind.u8 115, Value.int IntKind.u8 116, Value.int IntKind.u8 97, Value.int IntKind.u8 108, Value.int IntKind.u8 108, Value.int IntKind.u8 32, Value.int IntKind.u8 97, Value.int IntKind.u8 97, Value.int IntKind.u8 61, Value.int IntKind.u8 49, Value.int IntKind.u8 10, Value.int IntKind.u8 114, Value.int IntKind.u8 101, Value.int IntKind.u8 109, Value.int IntKind.u8 111, Value.int IntKind.u8 118, Value.int IntKind.u8 101, Value.int IntKind.u8 32, Value.int IntKind.u8 98, Value.int IntKind.u8 98, Value.int IntKind.u8 10] := by rfl
theorem bytes_new (w : World) : BytesAt (w.alloc (.cells #[Value.int IntKind.u8 105, Value.int IntKind.u8 110, Value.int IntKind.u8 115, Value.int IntKind.u8 116, Value.int IntKind.u8 97, Value.int IntKind.u8 108, Value.int IntKind.u8 108, Value.int IntKind.u8 32, Value.int IntKind.u8 97, Value.int IntKind.u8 97, Value.int IntKind.u8 61, Value.int IntKind.u8 49, Value.int IntKind.u8 10, Value.int IntKind.u8 114, Value.int IntKind.u8 101, Value.int IntKind.u8 109, Value.int IntKind.u8 111, Value.int IntKind.u8 118, Value.int IntKind.u8 101, Value.int IntKind.u8 32, Value.int IntKind.u8 98, Value.int IntKind.u8 98, Value.int IntKind.u8 10] 5 (23, 24))) w.heap.size := fun i hi => by
  rw [← askC_eq, Nat.zero_add, cell_mark]
  have hl : i < askN.length := by rw [show askN.length = 23 by decide]; exact hi
  simp [askC, List.getElem?_eq_getElem hl, List.getD_eq_getElem?_getD]
set_option maxRecDepth 100000 in
set_option maxHeartbeats 1000000 in
theorem awake17_any (w : World) : Calls Tryd.prog 18 #[] w fun e w' => e = .returned (.bool true) ∧ Below w.heap.size w w' := by
  have kc := fun (w : World) (C : Array Value) (n c : Nat) => Lib.run_convert_bytes_const (P := Tryd.prog) w 41 5 C n c Tryd.underlying41 (by kernel_rfl)
  go_enter Tryd.func18, Tryd.ntmps18
  go_wp2_with fail
  have HQ := Lib.hid (parse_ask _ 23 _ (bytes_new w))
  have HB := Lib.hid (below_alloc (Below.refl w.heap.size w) (.cells #[Value.int IntKind.u8 105, Value.int IntKind.u8 110, Value.int IntKind.u8 115, Value.int IntKind.u8 116, Value.int IntKind.u8 97, Value.int IntKind.u8 108, Value.int IntKind.u8 108, Value.int IntKind.u8 32, Value.int IntKind.u8 97, Value.int IntKind.u8 97, Value.int IntKind.u8 61, Value.int IntKind.u8 49, Value.int IntKind.u8 10, Value.int IntKind.u8 114, Value.int IntKind.u8 101, Value.int IntKind.u8 109, Value.int IntKind.u8 111, Value.int IntKind.u8 118, Value.int IntKind.u8 101, Value.int IntKind.u8 32, Value.int IntKind.u8 98, Value.int IntKind.u8 98, Value.int IntKind.u8 10] 5 (23, 24)))
  refine HQ.out.mono ?_
  rintro e w1 ⟨A1, c1, rfl, hs, hb⟩
  have HB := Lib.hid (below_next HB.out hb)
  have HS := Lib.hid hs
  clear hb HQ hs kc
  dsimp only
  have HB := Lib.hid (below_alloc HB.out (.cells #[.int .i64 0, .int .i64 0] 44))
  obtain ⟨_, g, o, h0, hA0, a0, a1, a2⟩ := HS.out.at_ (i := 0) (by simp) (Kept.alloc w1 (.cells #[.int .i64 0, .int .i64 0] 44))
  obtain rfl := Option.some.inj h0
  obtain ⟨_, g', o', h1, hA1, b0, b1, b2⟩ := HS.out.at_ (i := 1) (by simp) (Kept.alloc w1 (.cells #[.int .i64 0, .int .i64 0] 44))
  obtain rfl := Option.some.inj h1
  subst hA0
  obtain ⟨rfl, rfl⟩ : g = g' ∧ o = o' := by injection hA1 with hA; injection hA with h1 h2; exact ⟨h1, h2⟩
  have hbl := Slc.bd HS.out
  simp only [kA, kB, Nat.zero_mul, Nat.add_zero, Nat.one_mul] at a0 a1 a2 b0 b1 b2
  clear h0 h1 hA1
  go_wp2
  go_ret
  exact ⟨rfl, HB.out⟩
end Go.Proofs.YtcbomomlojhghaaDoor
