/- The contract of the reference's unique. -/
import Derived.Test.YtflmocamfedbdaaGreatDoorUn
namespace Go.Proofs.YtflmocamfedbdaaGreatDoor
set_option linter.unusedSimpArgs false
set_option linter.unusedVariables false
open Go.RowKit
attribute [local go_sem ↓] Go.wp_at_zero Go.wp_at_succ
def uniF (out : List (List UInt8)) (n : List UInt8) : List (List UInt8) := if out.contains n then out else out ++ [n]
def uniS (l : List (List UInt8)) : List (List UInt8) := l.foldl uniF []
theorem uniF_mem {out : List (List UInt8)} {n m : List UInt8} : m ∈ uniF out n ↔ m ∈ out ∨ m = n := by
  unfold uniF
  by_cases h : out.contains n = true
  · rw [if_pos h]
    have h' : n ∈ out := by simpa using h
    constructor
    · exact .inl
    · rintro (h | rfl)
      · exact h
      · exact h'
  · rw [if_neg h]; simp
theorem uni_mem : ∀ (l out : List (List UInt8)) (m : List UInt8), m ∈ l.foldl uniF out ↔ m ∈ out ∨ m ∈ l
  | [], out, m => by simp
  | n :: l, out, m => by
    rw [List.foldl_cons, uni_mem l, uniF_mem, List.mem_cons, or_assoc]
theorem uniS_mem {l : List (List UInt8)} {m : List UInt8} : m ∈ uniS l ↔ m ∈ l := by
  unfold uniS; rw [uni_mem]; simp
theorem uniF_nodup {out : List (List UInt8)} (h : out.Nodup) (n : List UInt8) : (uniF out n).Nodup := by
  unfold uniF
  by_cases hc : out.contains n = true
  · rw [if_pos hc]; exact h
  · rw [if_neg hc, List.nodup_append]
    refine ⟨h, by simp, fun a ha b hb e => ?_⟩
    rw [List.mem_singleton] at hb
    subst hb e
    exact hc (by simpa using ha)
theorem uni_nodup : ∀ (l : List (List UInt8)) {out : List (List UInt8)}, out.Nodup → (l.foldl uniF out).Nodup
  | [], _, h => h
  | n :: l, _, h => uni_nodup l (uniF_nodup h n)
theorem uniF_len (out : List (List UInt8)) (n : List UInt8) : (uniF out n).length ≤ out.length + 1 := by
  unfold uniF; split <;> simp
theorem uni_len : ∀ (l out : List (List UInt8)), (l.foldl uniF out).length ≤ out.length + l.length
  | [], out => by simp
  | n :: l, out => by
    have h1 := uni_len l (uniF out n)
    have h2 := uniF_len out n
    simp only [List.foldl_cons, List.length_cons]
    omega
theorem nodup_sub : ∀ {T L : List (List UInt8)}, T.Nodup → (∀ x ∈ T, x ∈ L) → T.length ≤ L.length
  | [], _, _, _ => by simp
  | x :: T, L, h, hs => by
    have h1 := List.nodup_cons.1 h
    have hx : x ∈ L := hs x (by simp)
    have h2 := nodup_sub (L := L.erase x) h1.2 fun y hy => (List.mem_erase_of_ne (by rintro rfl; exact h1.1 hy)).2 (hs y (by simp [hy]))
    rw [List.length_erase_of_mem hx] at h2
    have : 0 < L.length := List.length_pos_of_mem hx
    simp only [List.length_cons]
    omega
set_option maxRecDepth 100000 in
set_option maxHeartbeats 1000000 in
theorem runique_any (A : Option Addr) (c : Nat) (l : List (List UInt8)) (w : World) (hl : Strs w A c l) :
    Calls Tryz.prog 85 #[.slice A l.length c] w fun e w' => ∃ v, e = .returned v ∧ Own w' w.heap.size 9 1 RStr v (uniS l) ∧ Below w.heap.size w w' := by
  have hbd := hl.bd
  have HL := Lib.hid hl
  clear hl
  go_enter Tryz.func85, Tryz.ntmps85
  go_wp2
  go_loopw [3, 11] (fun v i wr => ∃ (k : Nat) (t : List (List UInt8)), k ≤ l.length ∧ t.length ≤ k ∧ i = .int .i64 k ∧ t = (l.take k).foldl uniF [] ∧ Below w.heap.size w wr ∧ Own wr w.heap.size 9 1 RStr v t) (fun _ i _ => l.length - (intOf i).toNat)
  case atStart => exact ⟨0, [], Nat.zero_le _, Nat.zero_le _, rfl, rfl, Below.refl _ _, Own.nil_ _ _ _ _ _⟩
  case round =>
    obtain ⟨k, t, hk, htk, rfl, ht, hb, ho⟩ := hrel
    obtain ⟨wo, rfl⟩ : ∃ wo : World, wo = wr := ⟨_, rfl⟩
    have HT := Lib.hid ht
    have HB := Lib.hid hb
    have HO := Lib.hid ho
    clear ht hb ho
    by_cases hlt : k < l.length
    · obtain ⟨n, b, o, hn, rfl, e0⟩ := HL.out.at_ hlt (Kept.of_below HB.out)
      have HQ := Lib.hid hn
      clear hn
      obtain ⟨A1, c1, rfl, hs1⟩ := HO.out.slc (z := 16) (by omega)
      have HS1 := Lib.hid (show Strs wo A1 c1 t from hs1)
      have hbd1 := hs1.bd
      clear hs1
      go_wp2
      clear e0
      go_loop [6, 17] (fun b i => ∃ j : Nat, j ≤ t.length ∧ i = .int .i64 j ∧ b = .bool ((t.take j).any fun y => decide (y = n))) (fun _ i => t.length - (intOf i).toNat)
      case atStart => exact ⟨0, Nat.zero_le _, rfl, rfl⟩
      case round =>
        obtain ⟨j, hj, rfl, rfl⟩ := hrel
        by_cases hlj : j < t.length
        · obtain ⟨m, b2, o2, hm, rfl, f0⟩ := HS1.out.at_ hlj (Kept.refl _)
          have HM := Lib.hid hm
          clear hm
          rcases hany : (t.take j).any fun y => decide (y = n)
          · have HANY := Lib.hid hany
            clear hany
            by_cases hmm : m = n
            · have hd : (m == n) = true := by simpa using hmm
              have hv := Lib.hid (show ((t.take (j + 1)).any fun y => decide (y = n)) = true by rw [take_step HM.out, List.any_append]; simp [hmm])
              clear hmm
              go_wp2
              go_round
              case rel => exact ⟨j + 1, by omega, by simp, by rw [hv.out]⟩
              case measure => (try simp only [intOf]); omega
            · have hd : (m == n) = false := by simpa using hmm
              have hv := Lib.hid (any_step (p := fun y => decide (y = n)) HM.out (by simpa using hmm) HANY.out)
              clear hmm
              go_wp2
              go_round
              case rel => exact ⟨j + 1, by omega, by simp, by rw [hv.out]⟩
              case measure => (try simp only [intOf]); omega
          · have hv := Lib.hid (show ((t.take (j + 1)).any fun y => decide (y = n)) = true by rw [take_step HM.out, List.any_append, hany]; rfl)
            clear hany
            go_wp2
            go_round
            case rel => exact ⟨j + 1, by omega, by simp, by rw [hv.out]⟩
            case measure => (try simp only [intOf]); omega
        · rw [List.take_of_length_le (by omega), conN_eq]
          rcases hcon : t.contains n
          · have HF := Lib.hid (show uniF t n = t ++ [n] by unfold uniF; rw [hcon]; rfl)
            clear hcon
            go_wp2_with (at_builtin; refine wpList_append_el (by rfl) _ _ 51 (by rfl) w.heap.size 9 _ 1 16 Tryz.underlying51 infStr' rfl (by omega) RStr _ t (by rfl) (HO.out.alloc _) n [.string (bs n)] wo.heap.size 1 (by rfl) (blk_new1 _ _ _) rfl rfl (by simp [Value.oneCell']) (by omega) (by omega) (by simp; have := HB.out.size; omega) ?_; intro g' cap w3 ho3 hg3; have HB3 := Lib.hid ((HO.out.alloc _).below (below_alloc HB.out _) (by simp; have := HB.out.size; omega) hg3); have HO3 := Lib.hid ho3; clear ho3 hg3)
            go_roundw
            case rel => exact ⟨k + 1, t ++ [n], by omega, by simp; omega, by simp, by rw [take_step HQ.out, List.foldl_append, ← HT.out, ← HF.out]; rfl, HB3.out, HO3.out⟩
            case measure => (try simp only [intOf]); omega
          · have HF := Lib.hid (show uniF t n = t by unfold uniF; rw [hcon]; rfl)
            clear hcon
            go_wp2
            go_roundw
            case rel => exact ⟨k + 1, t, by omega, by omega, by simp, by rw [take_step HQ.out, List.foldl_append, ← HT.out]; exact HF.out.symm, HB.out, HO.out⟩
            case measure => (try simp only [intOf]); omega
    · have hT := HT.out
      rw [take_end hk hlt] at hT
      have HU := Lib.hid (show uniS l = t from hT.symm)
      clear hT
      go_wp2
      go_ret
      exact ⟨_, rfl, by rw [HU.out]; exact HO.out, HB.out⟩
end Go.Proofs.YtflmocamfedbdaaGreatDoor
