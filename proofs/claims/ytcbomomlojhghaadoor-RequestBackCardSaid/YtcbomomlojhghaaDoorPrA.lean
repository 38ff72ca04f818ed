/- The contract of request.Print. -/
import Derived.Test.YtcbomomlojhghaaDoorPrP
import Derived.Test.YtcbomomlojhghaaDoorBwA
import Derived.Test.YtcbomomlojhghaaDoorRq
import Derived.Test.YtcbomomlojhghaaDoorAwR
import Derived.Test.YtcbomomlojhghaaDoorSb
import Derived.Laws.Concat
import Derived.Laws.IdiomStrings
namespace Go.Proofs.YtcbomomlojhghaaDoor
set_option linter.unusedSimpArgs false
set_option linter.unusedVariables false
open Go.RowKit
attribute [local go_sem ↓] Go.wp_at_zero Go.wp_at_succ
theorem isb_next {T e : TypeId} {B b : Nat} {l : List Value} {w w' : World} (h : Lib.IsBuilder T e B b l w) (hb : Below w.heap.size w w') : Lib.IsBuilder T e B b l w' := by
  have one : ∀ p, Lib.BuilderAt T e B b p l w → Lib.BuilderAt T e B b p l w' := fun p h => by
    obtain ⟨hB, v, hbk, ⟨hl, ho⟩, hne⟩ := h
    refine ⟨hB, v, (hb.block b (heap_lt hbk)).trans hbk, ⟨hl, ?_⟩, hne⟩
    rcases ho with ⟨rfl, h0⟩ | ⟨g, cap, cur, rfl, hb', hg, hrest⟩
    · exact .inl ⟨rfl, h0⟩
    · exact .inr ⟨g, cap, cur, rfl, hb', (hb.block g (heap_lt hg)).trans hg, hrest⟩
  rcases h with h | h
  · exact .inl (one _ h)
  · exact .inr (one _ h)
/-- bytes and an error are returned -/
def RetB (w : World) (r : List UInt8 × Int) (e : Ending) (w' : World) : Prop := ∃ A c, e = .returned (.tuple #[.slice A r.1.length c, .int .i64 r.2]) ∧ Bts w' A c r.1 ∧ Below w.heap.size w w'
theorem conv_to (l : List UInt8) (hl : l.length ≤ 1000000) (w : World) : ∃ c w', (Go.convert 9 41 (.string (bs l))).run Tryd.prog w = .ok (.slice (some ⟨w.heap.size, 0, none⟩) l.length c) w' ∧ Bts w' (some ⟨w.heap.size, 0, none⟩) c l ∧ Below w.heap.size w w' := by
  have h := run_bytes_of_string (P := Tryd.prog) w 9 41 5 (bs l) Tryd.underlying9 Tryd.underlying41 Tryd.underlying5
  have hge := grownCap_ge w (bs l).size 0 5
  have hle := grownCap_le_maxLen w (bs l).size 0 5 (by show l.length ≤ maxLen; unfold maxLen; omega)
  rw [show (bs l).size = l.length from rfl] at h hge hle
  refine ⟨_, _, h, ⟨hge, by unfold maxLen at hle; omega, by rw [Nat.mul_one]; omega, fun h0 => ⟨w.heap.size, 0, rfl, fun i x hi => ⟨[.int .u8 x.toNat], rfl, rfl, fun j v hj => ?_⟩⟩⟩, ?_⟩
  · rcases j with _ | j
    · simp only [List.getElem?_cons_zero, Option.some.injEq] at hj
      subst hj
      have hm := cell_mark w.drew (bytesRow (bs l) (grownCap w l.length 0 5)) 5 ((bytesRow (bs l) (grownCap w l.length 0 5)).size, (bytesRow (bs l) (grownCap w l.length 0 5)).size + 1) i
      rw [show 0 + i * 1 + 0 = i by omega]
      refine hm.trans ?_
      have hil := (List.getElem?_eq_some_iff.1 hi).1
      unfold bytesRow
      rw [Array.getElem?_append_left (by simp [bs]; exact hil)]
      simp [bs, hi]
    · simp at hj
  · exact below_alloc (below_drewN (Below.refl _ _) 1) _
theorem bc_app (P L : List UInt8) (S : ByteArray) (h : S.data.toList = L) : Lib.byteCells (P ++ L) = Lib.byteCells P ++ Lib.strCells S := by
  subst h
  simp [Lib.byteCells, Lib.strCells]
theorem lit_app (a : Array UInt8) (l : List UInt8) : ((⟨a⟩ : ByteArray) ++ bs l).data.toList = a.toList ++ l := by simp [bs]
theorem has_word (W : World) (a b c : Value) : (Instr.field 90 (.agg #[a, b, c]) 0).run Tryd.prog W = .ok a W := by kernel_rfl
set_option maxRecDepth 100000 in
set_option maxHeartbeats 2000000 in
theorem qprint_any (l : List Stp) (A : Option Addr) (c : Nat) (w : World) (hs : Stps w A c l) (hsh : ∀ a ∈ l, short a.name) :
    Calls Tryd.prog 19 #[.slice A l.length c] w (RetB w (if mayQs l = 0 then (printQ l, 0) else ([], mayQs l))) := by
  have HQ := Lib.hid (qmay_any l A c w hs hsh)
  have HS := Lib.hid hs
  obtain ⟨G, hG⟩ : ∃ G, G = if mayQs l = 0 then (printQ l, 0) else ([], mayQs l) := ⟨_, rfl⟩
  rw [← hG]
  have hok := mayQs_ok (l := l)
  generalize mayQs l = M at hG hok HQ
  clear hs hsh
  by_cases hM : M = 0
  · subst hM
    obtain ⟨_, h6, hall, _⟩ := hok rfl
    have HG := Lib.hid (hG.trans (if_pos rfl))
    have HALL := Lib.hid hall
    clear hG hok hall
    go_enter Tryd.func19, Tryd.ntmps19
    go_wp2_with fail
    refine HQ.out.mono ?_
    rintro e w1 ⟨rfl, hb1⟩
    have HB1 := Lib.hid hb1
    have HS := Lib.hid (HS.out.kept (Kept.of_below hb1))
    clear hb1 HQ
    go_wp2
    go_loopw [15] (fun i wr => ∃ k : Nat, k ≤ l.length ∧ i = .int .i64 k ∧ Lib.IsBuilder 84 5 w1.heap.size w1.heap.size (Lib.byteCells (printQ (l.take k))) wr ∧ Below w1.heap.size w1 wr) (fun i _ => l.length - (intOf i).toNat)
    case atStart => exact ⟨0, Nat.zero_le _, rfl, Lib.fresh_isBuilder _ _ w1, below_alloc (Below.refl _ _) _⟩
    case round =>
      obtain ⟨k, hk, rfl, hd, hb⟩ := hrel
      have HD := Lib.hid hd
      have HB := Lib.hid hb
      clear hd hb
      by_cases hlt : k < l.length
      · obtain ⟨⟨kd, nm, vr⟩, b, o, hst, rfl, e0, e1, e2⟩ := HS.out.at_ hlt (Kept.of_below HB.out)
        have hln := mayQ_len (List.all_eq_true.1 HALL.out _ (List.mem_of_getElem? hst))
        have hps := print_step hst
        have hpl : (printQ (l.take k)).length ≤ 1000 := by
          have h := printQ_len (l := l.take k) (List.all_eq_true.2 fun x hx => List.all_eq_true.1 HALL.out x (List.mem_of_mem_take hx))
          rw [List.length_take] at h
          omega
        unfold lineQ at hps
        have hwl := wordQ_len kd
        dsimp only at hln hps e0 e1 e2
        have HQ := Lib.hid (fun W => qof_any kd W)
        generalize printQ (l.take k) = P at hps hpl HD
        obtain ⟨P2, hP2⟩ : ∃ P2, P2 = printQ (l.take (k + 1)) := ⟨_, rfl⟩
        rw [← hP2] at hps
        have HPE := Lib.hid hP2.symm
        clear hP2
        generalize wordQ kd = W0 at hps hwl HQ
        have HPS := Lib.hid hps
        have HBW := Lib.hid (below_alloc HB.out (.cells #[.int .i64 kd, .string (bs nm), .string (bs vr)] 78))
        have KA := Lib.hid (blk_new1 wr 78 #[.int .i64 kd, .string (bs nm), .string (bs vr)])
        have HDW := Lib.hid (isb_next HD.out (below_alloc (Below.refl wr.heap.size wr) (.cells #[.int .i64 kd, .string (bs nm), .string (bs vr)] 78)))
        clear hst hps HD HB
        go_wp2_with fail
        refine (HQ.out _).mono ?_
        rintro e w4 ⟨rfl, hb4⟩
        have KA := Lib.hid (KA.out.next hb4)
        have HB := Lib.hid (below_next HBW.out hb4)
        have HD := Lib.hid (isb_next HDW.out hb4)
        clear hb4 HQ HBW HDW e0 e1 e2
        have hfw := has_word
        go_wp2_with fail
        have h0 : ((bs W0)).size = (W0).length := congrArg List.length (bs_data W0)
        have HWR := Lib.hid (bwrite_any w1.heap.size w1.heap.size (Lib.byteCells P) ((bs W0)) w4 HD.out (by rw [Lib.byteCells_length, h0]; (try simp only [List.length_append, List.length_cons, List.length_nil]); omega) HB.out.size)
        rw [← bc_app P (W0) ((bs W0)) (bs_data W0)] at HWR
        clear h0
        refine HWR.out.mono ?_
        rintro e w5 ⟨rfl, hd, hb, hk⟩
        have HD := Lib.hid (show Lib.IsBuilder 84 5 w1.heap.size w1.heap.size (Lib.byteCells (P ++ W0)) w5 from .inr hd)
        have HB := Lib.hid (HB.out.trans hb)
        have KA := Lib.hid (hk _ _ _ (by decide) (by decide) KA.out)
        clear hd hb hk HWR
        clear hfw
        by_cases hn0 : nm = []
        · have hnb : nm.isEmpty = true := by simpa using hn0
          by_cases hv0 : vr = []
          · have hvb : vr.isEmpty = true := by simpa using hv0
            have a1 := KA.out.cell 1
            have a2 := KA.out.cell 2
            simp only [List.getElem?_toArray, List.getElem?_cons_zero, List.getElem?_cons_succ] at a1 a2
            go_wp2_with fail
            have h0 : ((⟨#[10]⟩ : ByteArray)).size = ([10]).length := congrArg List.length (show (⟨#[10]⟩ : ByteArray).data.toList = [10] from rfl)
            have HWR := Lib.hid (bwrite_any w1.heap.size w1.heap.size (Lib.byteCells (P ++ W0)) ((⟨#[10]⟩ : ByteArray)) w5 HD.out (by rw [Lib.byteCells_length, h0]; (try simp only [List.length_append, List.length_cons, List.length_nil]); omega) HB.out.size)
            rw [← bc_app (P ++ W0) ([10]) ((⟨#[10]⟩ : ByteArray)) (show (⟨#[10]⟩ : ByteArray).data.toList = [10] from rfl)] at HWR
            clear h0
            refine HWR.out.mono ?_
            rintro e w8 ⟨rfl, hd, hb, hk⟩
            have HD := Lib.hid (show Lib.IsBuilder 84 5 w1.heap.size w1.heap.size (Lib.byteCells ((P ++ W0) ++ [10])) w8 from .inr hd)
            have HB := Lib.hid (HB.out.trans hb)
            have KA := Lib.hid (hk _ _ _ (by decide) (by decide) KA.out)
            clear hd hb hk HWR
            have HP2 := Lib.hid (show P2 = (P ++ W0) ++ [10] by rw [HPS.out]; simp [hn0, hv0])
            rw [← HP2.out] at HD
            go_wp2
            go_roundw
            case rel => exact ⟨k + 1, by omega, by simp, by rw [HPE.out]; exact HD.out, HB.out⟩
            case measure => (try simp only [intOf]); omega
          · have hvb : vr.isEmpty = false := by simpa using hv0
            have z2 : (⟨#[61]⟩ : ByteArray).size + (bs vr).size ≤ 9223372036854775807 := by simp [bs, ByteArray.size]; omega
            have a1 := KA.out.cell 1
            have a2 := KA.out.cell 2
            simp only [List.getElem?_toArray, List.getElem?_cons_zero, List.getElem?_cons_succ] at a1 a2
            go_wp2_with fail
            have h0 : ((⟨#[61]⟩ ++ bs vr)).size = ((61 :: vr)).length := congrArg List.length (lit_app #[61] vr)
            have HWR := Lib.hid (bwrite_any w1.heap.size w1.heap.size (Lib.byteCells (P ++ W0)) ((⟨#[61]⟩ ++ bs vr)) w5 HD.out (by rw [Lib.byteCells_length, h0]; (try simp only [List.length_append, List.length_cons, List.length_nil]); omega) HB.out.size)
            rw [← bc_app (P ++ W0) ((61 :: vr)) ((⟨#[61]⟩ ++ bs vr)) (lit_app #[61] vr)] at HWR
            clear h0
            refine HWR.out.mono ?_
            rintro e w7 ⟨rfl, hd, hb, hk⟩
            have HD := Lib.hid (show Lib.IsBuilder 84 5 w1.heap.size w1.heap.size (Lib.byteCells ((P ++ W0) ++ (61 :: vr))) w7 from .inr hd)
            have HB := Lib.hid (HB.out.trans hb)
            have KA := Lib.hid (hk _ _ _ (by decide) (by decide) KA.out)
            clear hd hb hk HWR
            go_wp2_with fail
            have h0 : ((⟨#[10]⟩ : ByteArray)).size = ([10]).length := congrArg List.length (show (⟨#[10]⟩ : ByteArray).data.toList = [10] from rfl)
            have HWR := Lib.hid (bwrite_any w1.heap.size w1.heap.size (Lib.byteCells ((P ++ W0) ++ 61 :: vr)) ((⟨#[10]⟩ : ByteArray)) w7 HD.out (by rw [Lib.byteCells_length, h0]; (try simp only [List.length_append, List.length_cons, List.length_nil]); omega) HB.out.size)
            rw [← bc_app ((P ++ W0) ++ 61 :: vr) ([10]) ((⟨#[10]⟩ : ByteArray)) (show (⟨#[10]⟩ : ByteArray).data.toList = [10] from rfl)] at HWR
            clear h0
            refine HWR.out.mono ?_
            rintro e w8 ⟨rfl, hd, hb, hk⟩
            have HD := Lib.hid (show Lib.IsBuilder 84 5 w1.heap.size w1.heap.size (Lib.byteCells (((P ++ W0) ++ 61 :: vr) ++ [10])) w8 from .inr hd)
            have HB := Lib.hid (HB.out.trans hb)
            have KA := Lib.hid (hk _ _ _ (by decide) (by decide) KA.out)
            clear hd hb hk HWR
            have HP2 := Lib.hid (show P2 = ((P ++ W0) ++ 61 :: vr) ++ [10] by rw [HPS.out]; simp [hn0, hv0])
            rw [← HP2.out] at HD
            go_wp2
            go_roundw
            case rel => exact ⟨k + 1, by omega, by simp, by rw [HPE.out]; exact HD.out, HB.out⟩
            case measure => (try simp only [intOf]); omega
        · have hnb : nm.isEmpty = false := by simpa using hn0
          have z1 : (⟨#[32]⟩ : ByteArray).size + (bs nm).size ≤ 9223372036854775807 := by simp [bs, ByteArray.size]; omega
          have a1 := KA.out.cell 1
          have a2 := KA.out.cell 2
          simp only [List.getElem?_toArray, List.getElem?_cons_zero, List.getElem?_cons_succ] at a1 a2
          go_wp2_with fail
          have h0 : ((⟨#[32]⟩ ++ bs nm)).size = ((32 :: nm)).length := congrArg List.length (lit_app #[32] nm)
          have HWR := Lib.hid (bwrite_any w1.heap.size w1.heap.size (Lib.byteCells (P ++ W0)) ((⟨#[32]⟩ ++ bs nm)) w5 HD.out (by rw [Lib.byteCells_length, h0]; (try simp only [List.length_append, List.length_cons, List.length_nil]); omega) HB.out.size)
          rw [← bc_app (P ++ W0) ((32 :: nm)) ((⟨#[32]⟩ ++ bs nm)) (lit_app #[32] nm)] at HWR
          clear h0
          refine HWR.out.mono ?_
          rintro e w6 ⟨rfl, hd, hb, hk⟩
          have HD := Lib.hid (show Lib.IsBuilder 84 5 w1.heap.size w1.heap.size (Lib.byteCells ((P ++ W0) ++ (32 :: nm))) w6 from .inr hd)
          have HB := Lib.hid (HB.out.trans hb)
          have KA := Lib.hid (hk _ _ _ (by decide) (by decide) KA.out)
          clear hd hb hk HWR
          clear a1 a2
          by_cases hv0 : vr = []
          · have hvb : vr.isEmpty = true := by simpa using hv0
            have a1 := KA.out.cell 1
            have a2 := KA.out.cell 2
            simp only [List.getElem?_toArray, List.getElem?_cons_zero, List.getElem?_cons_succ] at a1 a2
            go_wp2_with fail
            have h0 : ((⟨#[10]⟩ : ByteArray)).size = ([10]).length := congrArg List.length (show (⟨#[10]⟩ : ByteArray).data.toList = [10] from rfl)
            have HWR := Lib.hid (bwrite_any w1.heap.size w1.heap.size (Lib.byteCells (P ++ W0 ++ 32 :: nm)) ((⟨#[10]⟩ : ByteArray)) w6 HD.out (by rw [Lib.byteCells_length, h0]; (try simp only [List.length_append, List.length_cons, List.length_nil]); omega) HB.out.size)
            rw [← bc_app (P ++ W0 ++ 32 :: nm) ([10]) ((⟨#[10]⟩ : ByteArray)) (show (⟨#[10]⟩ : ByteArray).data.toList = [10] from rfl)] at HWR
            clear h0
            refine HWR.out.mono ?_
            rintro e w8 ⟨rfl, hd, hb, hk⟩
            have HD := Lib.hid (show Lib.IsBuilder 84 5 w1.heap.size w1.heap.size (Lib.byteCells ((P ++ W0 ++ 32 :: nm) ++ [10])) w8 from .inr hd)
            have HB := Lib.hid (HB.out.trans hb)
            have KA := Lib.hid (hk _ _ _ (by decide) (by decide) KA.out)
            clear hd hb hk HWR
            have HP2 := Lib.hid (show P2 = (P ++ W0 ++ 32 :: nm) ++ [10] by rw [HPS.out]; simp [hn0, hv0])
            rw [← HP2.out] at HD
            go_wp2
            go_roundw
            case rel => exact ⟨k + 1, by omega, by simp, by rw [HPE.out]; exact HD.out, HB.out⟩
            case measure => (try simp only [intOf]); omega
          · have hvb : vr.isEmpty = false := by simpa using hv0
            have z2 : (⟨#[61]⟩ : ByteArray).size + (bs vr).size ≤ 9223372036854775807 := by simp [bs, ByteArray.size]; omega
            have a1 := KA.out.cell 1
            have a2 := KA.out.cell 2
            simp only [List.getElem?_toArray, List.getElem?_cons_zero, List.getElem?_cons_succ] at a1 a2
            go_wp2_with fail
            have h0 : ((⟨#[61]⟩ ++ bs vr)).size = ((61 :: vr)).length := congrArg List.length (lit_app #[61] vr)
            have HWR := Lib.hid (bwrite_any w1.heap.size w1.heap.size (Lib.byteCells (P ++ W0 ++ 32 :: nm)) ((⟨#[61]⟩ ++ bs vr)) w6 HD.out (by rw [Lib.byteCells_length, h0]; (try simp only [List.length_append, List.length_cons, List.length_nil]); omega) HB.out.size)
            rw [← bc_app (P ++ W0 ++ 32 :: nm) ((61 :: vr)) ((⟨#[61]⟩ ++ bs vr)) (lit_app #[61] vr)] at HWR
            clear h0
            refine HWR.out.mono ?_
            rintro e w7 ⟨rfl, hd, hb, hk⟩
            have HD := Lib.hid (show Lib.IsBuilder 84 5 w1.heap.size w1.heap.size (Lib.byteCells ((P ++ W0 ++ 32 :: nm) ++ (61 :: vr))) w7 from .inr hd)
            have HB := Lib.hid (HB.out.trans hb)
            have KA := Lib.hid (hk _ _ _ (by decide) (by decide) KA.out)
            clear hd hb hk HWR
            go_wp2_with fail
            have h0 : ((⟨#[10]⟩ : ByteArray)).size = ([10]).length := congrArg List.length (show (⟨#[10]⟩ : ByteArray).data.toList = [10] from rfl)
            have HWR := Lib.hid (bwrite_any w1.heap.size w1.heap.size (Lib.byteCells ((P ++ W0 ++ 32 :: nm) ++ 61 :: vr)) ((⟨#[10]⟩ : ByteArray)) w7 HD.out (by rw [Lib.byteCells_length, h0]; (try simp only [List.length_append, List.length_cons, List.length_nil]); omega) HB.out.size)
            rw [← bc_app ((P ++ W0 ++ 32 :: nm) ++ 61 :: vr) ([10]) ((⟨#[10]⟩ : ByteArray)) (show (⟨#[10]⟩ : ByteArray).data.toList = [10] from rfl)] at HWR
            clear h0
            refine HWR.out.mono ?_
            rintro e w8 ⟨rfl, hd, hb, hk⟩
            have HD := Lib.hid (show Lib.IsBuilder 84 5 w1.heap.size w1.heap.size (Lib.byteCells (((P ++ W0 ++ 32 :: nm) ++ 61 :: vr) ++ [10])) w8 from .inr hd)
            have HB := Lib.hid (HB.out.trans hb)
            have KA := Lib.hid (hk _ _ _ (by decide) (by decide) KA.out)
            clear hd hb hk HWR
            have HP2 := Lib.hid (show P2 = ((P ++ W0 ++ 32 :: nm) ++ 61 :: vr) ++ [10] by rw [HPS.out]; simp [hn0, hv0])
            rw [← HP2.out] at HD
            go_wp2
            go_roundw
            case rel => exact ⟨k + 1, by omega, by simp, by rw [HPE.out]; exact HD.out, HB.out⟩
            case measure => (try simp only [intOf]); omega
      · have hlk : l.take k = l := List.take_of_length_le (by omega)
        rw [hlk] at HD
        have hpl : (printQ l).length ≤ 1000 := by have h := printQ_len HALL.out; omega
        clear hlk
        go_wp2_with fail
        refine (Tryd.Builder_String_any w1.heap.size w1.heap.size (printQ l) wr HD.out HB.out.size).mono ?_
        rintro e w9 ⟨rfl, hb9⟩
        have HB := Lib.hid (HB.out.trans hb9)
        clear hb9
        obtain ⟨c9, w10, hcv, hbt, hb10⟩ := conv_to (printQ l) (by omega) w9
        rw [show bs (printQ l) = ⟨(printQ l).toArray⟩ from rfl] at hcv
        have HCV := Lib.hid hcv
        generalize printQ l = P at HG HCV hbt HD hpl
        go_wp2_with fail
        rw [HCV.out]
        go_wp2
        go_ret2
        rw [HG.out]
        exact ⟨_, c9, rfl, hbt, below_next HB1.out (below_next HB.out hb10)⟩
  · have hMb : (M != 0) = true := by rw [bne_iff_ne]; exact hM
    have HG := Lib.hid (hG.trans (if_neg hM))
    clear hG hok hM
    go_enter Tryd.func19, Tryd.ntmps19
    go_wp2_with fail
    refine HQ.out.mono ?_
    rintro e w1 ⟨rfl, hb1⟩
    go_wp2
    go_ret2
    rw [HG.out]
    exact ⟨none, 0, rfl, Slc.nil_ (Nat.zero_le _), hb1⟩
end Go.Proofs.YtcbomomlojhghaaDoor
