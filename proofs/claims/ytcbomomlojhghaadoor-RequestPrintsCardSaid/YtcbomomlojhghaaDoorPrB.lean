/- The contract of the reference's Print. -/
import Derived.Test.YtcbomomlojhghaaDoorPrA
import Derived.Test.YtcbomomlojhghaaDoorRq
import Derived.Test.YtcbomomlojhghaaDoorRgE
import Derived.BigQuiet
namespace Go.Proofs.YtcbomomlojhghaaDoor
set_option linter.unusedSimpArgs false
set_option linter.unusedVariables false
open Go.RowKit
attribute [local go_sem ↓] Go.wp_at_zero Go.wp_at_succ
/-- the word with the gap behind it -/
def entQ (k : Int) : List UInt8 := if namQ k then wordQ k ++ [32] else wordQ k
theorem entQ_nam {q : Stp} (h : mayQ q = true) : entQ q.kind ++ q.name = wordQ q.kind ++ (if q.name = [] then [] else 32 :: q.name) := by
  unfold mayQ at h
  simp only [Bool.and_eq_true] at h
  obtain ⟨⟨_, h1⟩, _⟩ := h
  unfold entQ
  split
  · rename_i hn
    rw [hn, if_pos rfl] at h1
    rw [if_neg (name_black h1).1]
    simp
  · rename_i hn
    rw [if_neg hn] at h1
    have h2 : q.name = [] := by simpa using h1
    rw [if_pos h2, h2]
theorem line_ent {q : Stp} (h : mayQ q = true) : lineQ q = entQ q.kind ++ q.name ++ ((if q.ver = [] then [] else 61 :: q.ver) ++ [10]) := by
  rw [entQ_nam h]
  unfold lineQ
  simp
theorem mayQ_kind {q : Stp} (h : mayQ q = true) : 1 ≤ q.kind ∧ q.kind ≤ 7 := by
  unfold mayQ at h
  simp only [Bool.and_eq_true] at h
  exact Classical.not_not.1 fun hn => by rw [(wordQ_nil _).2 hn] at h; simp at h
theorem bs_cat (a : List UInt8) (b : Array UInt8) (c : List UInt8) : bs a ++ ((⟨b⟩ : ByteArray) ++ bs c) = bs (a ++ (b.toList ++ c)) := by
  apply ByteArray.ext
  simp [bs]
theorem bs_cat1 (a : List UInt8) (b : Array UInt8) : bs a ++ (⟨b⟩ : ByteArray) = bs (a ++ b.toList) := by
  apply ByteArray.ext
  simp [bs]
set_option maxRecDepth 100000 in
set_option maxHeartbeats 2000000 in
theorem rprint_any (l : List Stp) (A : Option Addr) (c : Nat) (w : World) (hs : Stps w A c l) (hsh : ∀ a ∈ l, short a.name) :
    Calls Tryd.prog 21 #[.slice A l.length c] w (RetB w (if mayQs l = 0 then (printQ l, 0) else ([], mayQs l))) := by
  have HQ := Lib.hid (rmayAsks_any l A c w hs hsh)
  have HS := Lib.hid hs
  obtain ⟨G, hG⟩ : ∃ G, G = if mayQs l = 0 then (printQ l, 0) else ([], mayQs l) := ⟨_, rfl⟩
  rw [← hG]
  have hok := mayQs_ok (l := l)
  generalize mayQs l = M at hG hok HQ
  clear hs hsh
  by_cases hM : M = 0
  · subst hM
    obtain ⟨_, h6, hall, _⟩ := hok rfl
    have HG := Lib.hid (hG.trans (if_pos rfl))
    have HALL := Lib.hid hall
    clear hG hok hall
    go_enter Tryd.func21, Tryd.ntmps21
    go_wp2_with fail
    refine HQ.out.mono ?_
    rintro e w1 ⟨rfl, hb1⟩
    have HB1 := Lib.hid hb1
    have HS := Lib.hid (HS.out.kept (Kept.of_below hb1))
    clear hb1 HQ
    go_wp2
    go_loopw [5, 15] (fun v i wr => ∃ k : Nat, k ≤ l.length ∧ i = .int .i64 k ∧ v = .string (bs (printQ (l.take k))) ∧ Below w1.heap.size w1 wr) (fun _ i _ => l.length - (intOf i).toNat)
    case atStart => exact ⟨0, Nat.zero_le _, rfl, rfl, Below.refl _ _⟩
    case round =>
      obtain ⟨k, hk, rfl, rfl, hb⟩ := hrel
      have HB := Lib.hid hb
      clear hb
      by_cases hlt : k < l.length
      · obtain ⟨q, b, o, hst, rfl, e0, e1, e2⟩ := HS.out.at_ hlt (Kept.of_below HB.out)
        have hmq := List.all_eq_true.1 HALL.out _ (List.mem_of_getElem? hst)
        have hln := mayQ_len hmq
        have hkd := mayQ_kind hmq
        have hps := print_step hst
        rw [line_ent hmq] at hps
        have hpl : (printQ (l.take k)).length ≤ 1000 := by
          have h := printQ_len (l := l.take k) (List.all_eq_true.2 fun x hx => List.all_eq_true.1 HALL.out x (List.mem_of_mem_take hx))
          rw [List.length_take] at h
          omega
        obtain ⟨kd, nm, vr⟩ := q
        dsimp only at hln hps e0 e1 e2 hkd
        generalize printQ (l.take k) = P at hps hpl
        obtain ⟨P2, hP2⟩ : ∃ P2, P2 = printQ (l.take (k + 1)) := ⟨_, rfl⟩
        rw [← hP2] at hps
        have HPE := Lib.hid hP2.symm
        have HBW := Lib.hid (below_alloc HB.out (.cells #[.int .i64 kd, .string (bs nm), .string (bs vr)] 78))
        have KA := Lib.hid (blk_new1 wr 78 #[.int .i64 kd, .string (bs nm), .string (bs vr)])
        clear hst hmq hP2 HB
        have a0 := KA.out.cell 0
        have a1 := KA.out.cell 1
        have a2 := KA.out.cell 2
        simp only [List.getElem?_toArray, List.getElem?_cons_zero, List.getElem?_cons_succ] at a0 a1 a2
        obtain rfl | rfl | rfl | rfl | rfl | rfl | rfl : kd = 1 ∨ kd = 2 ∨ kd = 3 ∨ kd = 4 ∨ kd = 5 ∨ kd = 6 ∨ kd = 7 := by omega
        · have hE : entQ 1 = [105, 110, 115, 116, 97, 108, 108, 32] := by decide +kernel
          rw [hE] at hps
          have hix := ix8_1
          have z1 : (⟨#[105, 110, 115, 116, 97, 108, 108, 32]⟩ : ByteArray).size + (bs nm).size ≤ 9223372036854775807 := by simp [bs, ByteArray.size]; omega
          have z2 : (bs P).size + ((⟨#[105, 110, 115, 116, 97, 108, 108, 32]⟩ : ByteArray) ++ bs nm).size ≤ 9223372036854775807 := by simp [bs, ByteArray.size_append, ByteArray.size]; omega
          have HPS := Lib.hid hps
          have hQl : (P ++ ([105, 110, 115, 116, 97, 108, 108, 32] ++ nm)).length ≤ 2000 := by simp; omega
          clear hps hE
          go_wp2_with fail
          go_quiet (fail)
          have hcat : bs P ++ ((⟨#[105, 110, 115, 116, 97, 108, 108, 32]⟩ : ByteArray) ++ bs nm) = bs (P ++ ([105, 110, 115, 116, 97, 108, 108, 32] ++ nm)) := bs_cat P #[105, 110, 115, 116, 97, 108, 108, 32] nm
          rw [hcat]
          clear hcat
          have HPS := Lib.hid (show P2 = (P ++ ([105, 110, 115, 116, 97, 108, 108, 32] ++ nm)) ++ ((if vr = [] then [] else 61 :: vr) ++ [10]) from HPS.out.trans (List.append_assoc _ _ _).symm)
          generalize P ++ ([105, 110, 115, 116, 97, 108, 108, 32] ++ nm) = Q at HPS hQl ⊢
          generalize hWW : World.drewN _ nq = W
          have KA := Lib.hid (show Blk W _ _ _ by rw [← hWW]; exact KA.out.drewN nq)
          have HB := Lib.hid (show Below w1.heap.size w1 W by rw [← hWW]; exact below_drewN HBW.out nq)
          clear hWW HBW a0 a1 a2 z1 z2 hix e0 e1 e2
          have a2 := KA.out.cell 2
          simp only [List.getElem?_toArray, List.getElem?_cons_zero, List.getElem?_cons_succ] at a2
          by_cases hv0 : vr = []
          · have hvb : vr.isEmpty = true := by simpa using hv0
            have z5 : (bs Q).size + (⟨#[10]⟩ : ByteArray).size ≤ 9223372036854775807 := by show Q.length + 1 ≤ _; omega
            have HPS := Lib.hid (show P2 = Q ++ [10] by rw [HPS.out, if_pos hv0]; rfl)
            go_wp2
            go_roundw
            case rel => exact ⟨k + 1, by omega, by simp, by (rw [HPE.out, HPS.out]; first | rfl | (congr 1; done) | (congr 1; apply ByteArray.ext; simp [bs])), HB.out⟩
            case measure => (try simp only [intOf]); omega
          · have hvb : vr.isEmpty = false := by simpa using hv0
            have z3 : (⟨#[61]⟩ : ByteArray).size + (bs vr).size ≤ 9223372036854775807 := by show 1 + vr.length ≤ _; omega
            have z4 : (bs Q).size + ((⟨#[61]⟩ : ByteArray) ++ bs vr).size ≤ 9223372036854775807 := by rw [ByteArray.size_append]; show Q.length + (1 + vr.length) ≤ _; omega
            have z5 : (bs Q ++ ((⟨#[61]⟩ : ByteArray) ++ bs vr)).size + (⟨#[10]⟩ : ByteArray).size ≤ 9223372036854775807 := by rw [ByteArray.size_append, ByteArray.size_append]; show Q.length + (1 + vr.length) + 1 ≤ _; omega
            have HPS := Lib.hid (show P2 = Q ++ (61 :: vr ++ [10]) by rw [HPS.out, if_neg hv0])
            go_wp2
            go_roundw
            case rel => exact ⟨k + 1, by omega, by simp, by (rw [HPE.out, HPS.out]; first | rfl | (congr 1; done) | (congr 1; apply ByteArray.ext; simp [bs])), HB.out⟩
            case measure => (try simp only [intOf]); omega
        · have hE : entQ 2 = [114, 101, 109, 111, 118, 101, 32] := by decide +kernel
          rw [hE] at hps
          have hix := ix8_2
          have z1 : (⟨#[114, 101, 109, 111, 118, 101, 32]⟩ : ByteArray).size + (bs nm).size ≤ 9223372036854775807 := by simp [bs, ByteArray.size]; omega
          have z2 : (bs P).size + ((⟨#[114, 101, 109, 111, 118, 101, 32]⟩ : ByteArray) ++ bs nm).size ≤ 9223372036854775807 := by simp [bs, ByteArray.size_append, ByteArray.size]; omega
          have HPS := Lib.hid hps
          have hQl : (P ++ ([114, 101, 109, 111, 118, 101, 32] ++ nm)).length ≤ 2000 := by simp; omega
          clear hps hE
          go_wp2_with fail
          go_quiet (fail)
          have hcat : bs P ++ ((⟨#[114, 101, 109, 111, 118, 101, 32]⟩ : ByteArray) ++ bs nm) = bs (P ++ ([114, 101, 109, 111, 118, 101, 32] ++ nm)) := bs_cat P #[114, 101, 109, 111, 118, 101, 32] nm
          rw [hcat]
          clear hcat
          have HPS := Lib.hid (show P2 = (P ++ ([114, 101, 109, 111, 118, 101, 32] ++ nm)) ++ ((if vr = [] then [] else 61 :: vr) ++ [10]) from HPS.out.trans (List.append_assoc _ _ _).symm)
          generalize P ++ ([114, 101, 109, 111, 118, 101, 32] ++ nm) = Q at HPS hQl ⊢
          generalize hWW : World.drewN _ nq = W
          have KA := Lib.hid (show Blk W _ _ _ by rw [← hWW]; exact KA.out.drewN nq)
          have HB := Lib.hid (show Below w1.heap.size w1 W by rw [← hWW]; exact below_drewN HBW.out nq)
          clear hWW HBW a0 a1 a2 z1 z2 hix e0 e1 e2
          have a2 := KA.out.cell 2
          simp only [List.getElem?_toArray, List.getElem?_cons_zero, List.getElem?_cons_succ] at a2
          by_cases hv0 : vr = []
          · have hvb : vr.isEmpty = true := by simpa using hv0
            have z5 : (bs Q).size + (⟨#[10]⟩ : ByteArray).size ≤ 9223372036854775807 := by show Q.length + 1 ≤ _; omega
            have HPS := Lib.hid (show P2 = Q ++ [10] by rw [HPS.out, if_pos hv0]; rfl)
            go_wp2
            go_roundw
            case rel => exact ⟨k + 1, by omega, by simp, by (rw [HPE.out, HPS.out]; first | rfl | (congr 1; done) | (congr 1; apply ByteArray.ext; simp [bs])), HB.out⟩
            case measure => (try simp only [intOf]); omega
          · have hvb : vr.isEmpty = false := by simpa using hv0
            have z3 : (⟨#[61]⟩ : ByteArray).size + (bs vr).size ≤ 9223372036854775807 := by show 1 + vr.length ≤ _; omega
            have z4 : (bs Q).size + ((⟨#[61]⟩ : ByteArray) ++ bs vr).size ≤ 9223372036854775807 := by rw [ByteArray.size_append]; show Q.length + (1 + vr.length) ≤ _; omega
            have z5 : (bs Q ++ ((⟨#[61]⟩ : ByteArray) ++ bs vr)).size + (⟨#[10]⟩ : ByteArray).size ≤ 9223372036854775807 := by rw [ByteArray.size_append, ByteArray.size_append]; show Q.length + (1 + vr.length) + 1 ≤ _; omega
            have HPS := Lib.hid (show P2 = Q ++ (61 :: vr ++ [10]) by rw [HPS.out, if_neg hv0])
            go_wp2
            go_roundw
            case rel => exact ⟨k + 1, by omega, by simp, by (rw [HPE.out, HPS.out]; first | rfl | (congr 1; done) | (congr 1; apply ByteArray.ext; simp [bs])), HB.out⟩
            case measure => (try simp only [intOf]); omega
        · have hE : entQ 3 = [117, 112, 103, 114, 97, 100, 101] := by decide +kernel
          rw [hE] at hps
          have hix := ix8_3
          have z1 : (⟨#[117, 112, 103, 114, 97, 100, 101]⟩ : ByteArray).size + (bs nm).size ≤ 9223372036854775807 := by simp [bs, ByteArray.size]; omega
          have z2 : (bs P).size + ((⟨#[117, 112, 103, 114, 97, 100, 101]⟩ : ByteArray) ++ bs nm).size ≤ 9223372036854775807 := by simp [bs, ByteArray.size_append, ByteArray.size]; omega
          have HPS := Lib.hid hps
          have hQl : (P ++ ([117, 112, 103, 114, 97, 100, 101] ++ nm)).length ≤ 2000 := by simp; omega
          clear hps hE
          go_wp2_with fail
          go_quiet (fail)
          have hcat : bs P ++ ((⟨#[117, 112, 103, 114, 97, 100, 101]⟩ : ByteArray) ++ bs nm) = bs (P ++ ([117, 112, 103, 114, 97, 100, 101] ++ nm)) := bs_cat P #[117, 112, 103, 114, 97, 100, 101] nm
          rw [hcat]
          clear hcat
          have HPS := Lib.hid (show P2 = (P ++ ([117, 112, 103, 114, 97, 100, 101] ++ nm)) ++ ((if vr = [] then [] else 61 :: vr) ++ [10]) from HPS.out.trans (List.append_assoc _ _ _).symm)
          generalize P ++ ([117, 112, 103, 114, 97, 100, 101] ++ nm) = Q at HPS hQl ⊢
          generalize hWW : World.drewN _ nq = W
          have KA := Lib.hid (show Blk W _ _ _ by rw [← hWW]; exact KA.out.drewN nq)
          have HB := Lib.hid (show Below w1.heap.size w1 W by rw [← hWW]; exact below_drewN HBW.out nq)
          clear hWW HBW a0 a1 a2 z1 z2 hix e0 e1 e2
          have a2 := KA.out.cell 2
          simp only [List.getElem?_toArray, List.getElem?_cons_zero, List.getElem?_cons_succ] at a2
          by_cases hv0 : vr = []
          · have hvb : vr.isEmpty = true := by simpa using hv0
            have z5 : (bs Q).size + (⟨#[10]⟩ : ByteArray).size ≤ 9223372036854775807 := by show Q.length + 1 ≤ _; omega
            have HPS := Lib.hid (show P2 = Q ++ [10] by rw [HPS.out, if_pos hv0]; rfl)
            go_wp2
            go_roundw
            case rel => exact ⟨k + 1, by omega, by simp, by (rw [HPE.out, HPS.out]; first | rfl | (congr 1; done) | (congr 1; apply ByteArray.ext; simp [bs])), HB.out⟩
            case measure => (try simp only [intOf]); omega
          · have hvb : vr.isEmpty = false := by simpa using hv0
            have z3 : (⟨#[61]⟩ : ByteArray).size + (bs vr).size ≤ 9223372036854775807 := by show 1 + vr.length ≤ _; omega
            have z4 : (bs Q).size + ((⟨#[61]⟩ : ByteArray) ++ bs vr).size ≤ 9223372036854775807 := by rw [ByteArray.size_append]; show Q.length + (1 + vr.length) ≤ _; omega
            have z5 : (bs Q ++ ((⟨#[61]⟩ : ByteArray) ++ bs vr)).size + (⟨#[10]⟩ : ByteArray).size ≤ 9223372036854775807 := by rw [ByteArray.size_append, ByteArray.size_append]; show Q.length + (1 + vr.length) + 1 ≤ _; omega
            have HPS := Lib.hid (show P2 = Q ++ (61 :: vr ++ [10]) by rw [HPS.out, if_neg hv0])
            go_wp2
            go_roundw
            case rel => exact ⟨k + 1, by omega, by simp, by (rw [HPE.out, HPS.out]; first | rfl | (congr 1; done) | (congr 1; apply ByteArray.ext; simp [bs])), HB.out⟩
            case measure => (try simp only [intOf]); omega
        · have hE : entQ 4 = [100, 105, 115, 116, 45, 117, 112, 103, 114, 97, 100, 101] := by decide +kernel
          rw [hE] at hps
          have hix := ix8_4
          have z1 : (⟨#[100, 105, 115, 116, 45, 117, 112, 103, 114, 97, 100, 101]⟩ : ByteArray).size + (bs nm).size ≤ 9223372036854775807 := by simp [bs, ByteArray.size]; omega
          have z2 : (bs P).size + ((⟨#[100, 105, 115, 116, 45, 117, 112, 103, 114, 97, 100, 101]⟩ : ByteArray) ++ bs nm).size ≤ 9223372036854775807 := by simp [bs, ByteArray.size_append, ByteArray.size]; omega
          have HPS := Lib.hid hps
          have hQl : (P ++ ([100, 105, 115, 116, 45, 117, 112, 103, 114, 97, 100, 101] ++ nm)).length ≤ 2000 := by simp; omega
          clear hps hE
          go_wp2_with fail
          go_quiet (fail)
          have hcat : bs P ++ ((⟨#[100, 105, 115, 116, 45, 117, 112, 103, 114, 97, 100, 101]⟩ : ByteArray) ++ bs nm) = bs (P ++ ([100, 105, 115, 116, 45, 117, 112, 103, 114, 97, 100, 101] ++ nm)) := bs_cat P #[100, 105, 115, 116, 45, 117, 112, 103, 114, 97, 100, 101] nm
          rw [hcat]
          clear hcat
          have HPS := Lib.hid (show P2 = (P ++ ([100, 105, 115, 116, 45, 117, 112, 103, 114, 97, 100, 101] ++ nm)) ++ ((if vr = [] then [] else 61 :: vr) ++ [10]) from HPS.out.trans (List.append_assoc _ _ _).symm)
          generalize P ++ ([100, 105, 115, 116, 45, 117, 112, 103, 114, 97, 100, 101] ++ nm) = Q at HPS hQl ⊢
          generalize hWW : World.drewN _ nq = W
          have KA := Lib.hid (show Blk W _ _ _ by rw [← hWW]; exact KA.out.drewN nq)
          have HB := Lib.hid (show Below w1.heap.size w1 W by rw [← hWW]; exact below_drewN HBW.out nq)
          clear hWW HBW a0 a1 a2 z1 z2 hix e0 e1 e2
          have a2 := KA.out.cell 2
          simp only [List.getElem?_toArray, List.getElem?_cons_zero, List.getElem?_cons_succ] at a2
          by_cases hv0 : vr = []
          · have hvb : vr.isEmpty = true := by simpa using hv0
            have z5 : (bs Q).size + (⟨#[10]⟩ : ByteArray).size ≤ 9223372036854775807 := by show Q.length + 1 ≤ _; omega
            have HPS := Lib.hid (show P2 = Q ++ [10] by rw [HPS.out, if_pos hv0]; rfl)
            go_wp2
            go_roundw
            case rel => exact ⟨k + 1, by omega, by simp, by (rw [HPE.out, HPS.out]; first | rfl | (congr 1; done) | (congr 1; apply ByteArray.ext; simp [bs])), HB.out⟩
            case measure => (try simp only [intOf]); omega
          · have hvb : vr.isEmpty = false := by simpa using hv0
            have z3 : (⟨#[61]⟩ : ByteArray).size + (bs vr).size ≤ 9223372036854775807 := by show 1 + vr.length ≤ _; omega
            have z4 : (bs Q).size + ((⟨#[61]⟩ : ByteArray) ++ bs vr).size ≤ 9223372036854775807 := by rw [ByteArray.size_append]; show Q.length + (1 + vr.length) ≤ _; omega
            have z5 : (bs Q ++ ((⟨#[61]⟩ : ByteArray) ++ bs vr)).size + (⟨#[10]⟩ : ByteArray).size ≤ 9223372036854775807 := by rw [ByteArray.size_append, ByteArray.size_append]; show Q.length + (1 + vr.length) + 1 ≤ _; omega
            have HPS := Lib.hid (show P2 = Q ++ (61 :: vr ++ [10]) by rw [HPS.out, if_neg hv0])
            go_wp2
            go_roundw
            case rel => exact ⟨k + 1, by omega, by simp, by (rw [HPE.out, HPS.out]; first | rfl | (congr 1; done) | (congr 1; apply ByteArray.ext; simp [bs])), HB.out⟩
            case measure => (try simp only [intOf]); omega
        · have hE : entQ 5 = [104, 111, 108, 100, 32] := by decide +kernel
          rw [hE] at hps
          have hix := ix8_5
          have z1 : (⟨#[104, 111, 108, 100, 32]⟩ : ByteArray).size + (bs nm).size ≤ 9223372036854775807 := by simp [bs, ByteArray.size]; omega
          have z2 : (bs P).size + ((⟨#[104, 111, 108, 100, 32]⟩ : ByteArray) ++ bs nm).size ≤ 9223372036854775807 := by simp [bs, ByteArray.size_append, ByteArray.size]; omega
          have HPS := Lib.hid hps
          have hQl : (P ++ ([104, 111, 108, 100, 32] ++ nm)).length ≤ 2000 := by simp; omega
          clear hps hE
          go_wp2_with fail
          go_quiet (fail)
          have hcat : bs P ++ ((⟨#[104, 111, 108, 100, 32]⟩ : ByteArray) ++ bs nm) = bs (P ++ ([104, 111, 108, 100, 32] ++ nm)) := bs_cat P #[104, 111, 108, 100, 32] nm
          rw [hcat]
          clear hcat
          have HPS := Lib.hid (show P2 = (P ++ ([104, 111, 108, 100, 32] ++ nm)) ++ ((if vr = [] then [] else 61 :: vr) ++ [10]) from HPS.out.trans (List.append_assoc _ _ _).symm)
          generalize P ++ ([104, 111, 108, 100, 32] ++ nm) = Q at HPS hQl ⊢
          generalize hWW : World.drewN _ nq = W
          have KA := Lib.hid (show Blk W _ _ _ by rw [← hWW]; exact KA.out.drewN nq)
          have HB := Lib.hid (show Below w1.heap.size w1 W by rw [← hWW]; exact below_drewN HBW.out nq)
          clear hWW HBW a0 a1 a2 z1 z2 hix e0 e1 e2
          have a2 := KA.out.cell 2
          simp only [List.getElem?_toArray, List.getElem?_cons_zero, List.getElem?_cons_succ] at a2
          by_cases hv0 : vr = []
          · have hvb : vr.isEmpty = true := by simpa using hv0
            have z5 : (bs Q).size + (⟨#[10]⟩ : ByteArray).size ≤ 9223372036854775807 := by show Q.length + 1 ≤ _; omega
            have HPS := Lib.hid (show P2 = Q ++ [10] by rw [HPS.out, if_pos hv0]; rfl)
            go_wp2
            go_roundw
            case rel => exact ⟨k + 1, by omega, by simp, by (rw [HPE.out, HPS.out]; first | rfl | (congr 1; done) | (congr 1; apply ByteArray.ext; simp [bs])), HB.out⟩
            case measure => (try simp only [intOf]); omega
          · have hvb : vr.isEmpty = false := by simpa using hv0
            have z3 : (⟨#[61]⟩ : ByteArray).size + (bs vr).size ≤ 9223372036854775807 := by show 1 + vr.length ≤ _; omega
            have z4 : (bs Q).size + ((⟨#[61]⟩ : ByteArray) ++ bs vr).size ≤ 9223372036854775807 := by rw [ByteArray.size_append]; show Q.length + (1 + vr.length) ≤ _; omega
            have z5 : (bs Q ++ ((⟨#[61]⟩ : ByteArray) ++ bs vr)).size + (⟨#[10]⟩ : ByteArray).size ≤ 9223372036854775807 := by rw [ByteArray.size_append, ByteArray.size_append]; show Q.length + (1 + vr.length) + 1 ≤ _; omega
            have HPS := Lib.hid (show P2 = Q ++ (61 :: vr ++ [10]) by rw [HPS.out, if_neg hv0])
            go_wp2
            go_roundw
            case rel => exact ⟨k + 1, by omega, by simp, by (rw [HPE.out, HPS.out]; first | rfl | (congr 1; done) | (congr 1; apply ByteArray.ext; simp [bs])), HB.out⟩
            case measure => (try simp only [intOf]); omega
        · have hE : entQ 6 = [117, 110, 104, 111, 108, 100, 32] := by decide +kernel
          rw [hE] at hps
          have hix := ix8_6
          have z1 : (⟨#[117, 110, 104, 111, 108, 100, 32]⟩ : ByteArray).size + (bs nm).size ≤ 9223372036854775807 := by simp [bs, ByteArray.size]; omega
          have z2 : (bs P).size + ((⟨#[117, 110, 104, 111, 108, 100, 32]⟩ : ByteArray) ++ bs nm).size ≤ 9223372036854775807 := by simp [bs, ByteArray.size_append, ByteArray.size]; omega
          have HPS := Lib.hid hps
          have hQl : (P ++ ([117, 110, 104, 111, 108, 100, 32] ++ nm)).length ≤ 2000 := by simp; omega
          clear hps hE
          go_wp2_with fail
          go_quiet (fail)
          have hcat : bs P ++ ((⟨#[117, 110, 104, 111, 108, 100, 32]⟩ : ByteArray) ++ bs nm) = bs (P ++ ([117, 110, 104, 111, 108, 100, 32] ++ nm)) := bs_cat P #[117, 110, 104, 111, 108, 100, 32] nm
          rw [hcat]
          clear hcat
          have HPS := Lib.hid (show P2 = (P ++ ([117, 110, 104, 111, 108, 100, 32] ++ nm)) ++ ((if vr = [] then [] else 61 :: vr) ++ [10]) from HPS.out.trans (List.append_assoc _ _ _).symm)
          generalize P ++ ([117, 110, 104, 111, 108, 100, 32] ++ nm) = Q at HPS hQl ⊢
          generalize hWW : World.drewN _ nq = W
          have KA := Lib.hid (show Blk W _ _ _ by rw [← hWW]; exact KA.out.drewN nq)
          have HB := Lib.hid (show Below w1.heap.size w1 W by rw [← hWW]; exact below_drewN HBW.out nq)
          clear hWW HBW a0 a1 a2 z1 z2 hix e0 e1 e2
          have a2 := KA.out.cell 2
          simp only [List.getElem?_toArray, List.getElem?_cons_zero, List.getElem?_cons_succ] at a2
          by_cases hv0 : vr = []
          · have hvb : vr.isEmpty = true := by simpa using hv0
            have z5 : (bs Q).size + (⟨#[10]⟩ : ByteArray).size ≤ 9223372036854775807 := by show Q.length + 1 ≤ _; omega
            have HPS := Lib.hid (show P2 = Q ++ [10] by rw [HPS.out, if_pos hv0]; rfl)
            go_wp2
            go_roundw
            case rel => exact ⟨k + 1, by omega, by simp, by (rw [HPE.out, HPS.out]; first | rfl | (congr 1; done) | (congr 1; apply ByteArray.ext; simp [bs])), HB.out⟩
            case measure => (try simp only [intOf]); omega
          · have hvb : vr.isEmpty = false := by simpa using hv0
            have z3 : (⟨#[61]⟩ : ByteArray).size + (bs vr).size ≤ 9223372036854775807 := by show 1 + vr.length ≤ _; omega
            have z4 : (bs Q).size + ((⟨#[61]⟩ : ByteArray) ++ bs vr).size ≤ 9223372036854775807 := by rw [ByteArray.size_append]; show Q.length + (1 + vr.length) ≤ _; omega
            have z5 : (bs Q ++ ((⟨#[61]⟩ : ByteArray) ++ bs vr)).size + (⟨#[10]⟩ : ByteArray).size ≤ 9223372036854775807 := by rw [ByteArray.size_append, ByteArray.size_append]; show Q.length + (1 + vr.length) + 1 ≤ _; omega
            have HPS := Lib.hid (show P2 = Q ++ (61 :: vr ++ [10]) by rw [HPS.out, if_neg hv0])
            go_wp2
            go_roundw
            case rel => exact ⟨k + 1, by omega, by simp, by (rw [HPE.out, HPS.out]; first | rfl | (congr 1; done) | (congr 1; apply ByteArray.ext; simp [bs])), HB.out⟩
            case measure => (try simp only [intOf]); omega
        · have hE : entQ 7 = [102, 105, 120, 45, 98, 114, 111, 107, 101, 110] := by decide +kernel
          rw [hE] at hps
          have hix := ix8_7
          have z1 : (⟨#[102, 105, 120, 45, 98, 114, 111, 107, 101, 110]⟩ : ByteArray).size + (bs nm).size ≤ 9223372036854775807 := by simp [bs, ByteArray.size]; omega
          have z2 : (bs P).size + ((⟨#[102, 105, 120, 45, 98, 114, 111, 107, 101, 110]⟩ : ByteArray) ++ bs nm).size ≤ 9223372036854775807 := by simp [bs, ByteArray.size_append, ByteArray.size]; omega
          have HPS := Lib.hid hps
          have hQl : (P ++ ([102, 105, 120, 45, 98, 114, 111, 107, 101, 110] ++ nm)).length ≤ 2000 := by simp; omega
          clear hps hE
          go_wp2_with fail
          go_quiet (fail)
          have hcat : bs P ++ ((⟨#[102, 105, 120, 45, 98, 114, 111, 107, 101, 110]⟩ : ByteArray) ++ bs nm) = bs (P ++ ([102, 105, 120, 45, 98, 114, 111, 107, 101, 110] ++ nm)) := bs_cat P #[102, 105, 120, 45, 98, 114, 111, 107, 101, 110] nm
          rw [hcat]
          clear hcat
          have HPS := Lib.hid (show P2 = (P ++ ([102, 105, 120, 45, 98, 114, 111, 107, 101, 110] ++ nm)) ++ ((if vr = [] then [] else 61 :: vr) ++ [10]) from HPS.out.trans (List.append_assoc _ _ _).symm)
          generalize P ++ ([102, 105, 120, 45, 98, 114, 111, 107, 101, 110] ++ nm) = Q at HPS hQl ⊢
          generalize hWW : World.drewN _ nq = W
          have KA := Lib.hid (show Blk W _ _ _ by rw [← hWW]; exact KA.out.drewN nq)
          have HB := Lib.hid (show Below w1.heap.size w1 W by rw [← hWW]; exact below_drewN HBW.out nq)
          clear hWW HBW a0 a1 a2 z1 z2 hix e0 e1 e2
          have a2 := KA.out.cell 2
          simp only [List.getElem?_toArray, List.getElem?_cons_zero, List.getElem?_cons_succ] at a2
          by_cases hv0 : vr = []
          · have hvb : vr.isEmpty = true := by simpa using hv0
            have z5 : (bs Q).size + (⟨#[10]⟩ : ByteArray).size ≤ 9223372036854775807 := by show Q.length + 1 ≤ _; omega
            have HPS := Lib.hid (show P2 = Q ++ [10] by rw [HPS.out, if_pos hv0]; rfl)
            go_wp2
            go_roundw
            case rel => exact ⟨k + 1, by omega, by simp, by (rw [HPE.out, HPS.out]; first | rfl | (congr 1; done) | (congr 1; apply ByteArray.ext; simp [bs])), HB.out⟩
            case measure => (try simp only [intOf]); omega
          · have hvb : vr.isEmpty = false := by simpa using hv0
            have z3 : (⟨#[61]⟩ : ByteArray).size + (bs vr).size ≤ 9223372036854775807 := by show 1 + vr.length ≤ _; omega
            have z4 : (bs Q).size + ((⟨#[61]⟩ : ByteArray) ++ bs vr).size ≤ 9223372036854775807 := by rw [ByteArray.size_append]; show Q.length + (1 + vr.length) ≤ _; omega
            have z5 : (bs Q ++ ((⟨#[61]⟩ : ByteArray) ++ bs vr)).size + (⟨#[10]⟩ : ByteArray).size ≤ 9223372036854775807 := by rw [ByteArray.size_append, ByteArray.size_append]; show Q.length + (1 + vr.length) + 1 ≤ _; omega
            have HPS := Lib.hid (show P2 = Q ++ (61 :: vr ++ [10]) by rw [HPS.out, if_neg hv0])
            go_wp2
            go_roundw
            case rel => exact ⟨k + 1, by omega, by simp, by (rw [HPE.out, HPS.out]; first | rfl | (congr 1; done) | (congr 1; apply ByteArray.ext; simp [bs])), HB.out⟩
            case measure => (try simp only [intOf]); omega
      · have hlk : l.take k = l := List.take_of_length_le (by omega)
        rw [hlk]
        have hpl : (printQ l).length ≤ 1000 := by have h := printQ_len HALL.out; omega
        clear hlk
        obtain ⟨c9, w10, hcv, hbt, hb10⟩ := conv_to (printQ l) (by omega) wr
        have HCV := Lib.hid hcv
        generalize printQ l = P at HG HCV hbt hpl ⊢
        go_wp2_with fail
        rw [HCV.out]
        go_wp2
        go_ret2
        rw [HG.out]
        exact ⟨_, c9, rfl, hbt, below_next HB1.out (below_next HB.out hb10)⟩
  · have hMb : (M != 0) = true := by rw [bne_iff_ne]; exact hM
    have HG := Lib.hid (hG.trans (if_neg hM))
    clear hG hok hM
    go_enter Tryd.func21, Tryd.ntmps21
    go_wp2_with fail
    refine HQ.out.mono ?_
    rintro e w1 ⟨rfl, hb1⟩
    go_wp2
    go_ret2
    rw [HG.out]
    exact ⟨none, 0, rfl, Slc.nil_ (Nat.zero_le _), hb1⟩
end Go.Proofs.YtcbomomlojhghaaDoor
