/- Strings as lists of bytes: the words in which the walks of this seat speak of strings. -/
import Derived.WalkKit
import Derived.WalkLawsBesides
import Derived.WalkSpells
import Derived.Outline
import Derived.Lib.Strings
import Derived.Lib.Hide
namespace Go.Proofs.YtcbomomlojhghaaDoor
set_option linter.unusedSimpArgs false
set_option linter.unusedVariables false
open Go.RowKit

/-- a string of these bytes -/
def bs (l : List UInt8) : ByteArray := ⟨⟨l⟩⟩
theorem bs_data (l : List UInt8) : (bs l).data.toList = l := rfl
@[go_sem] theorem bs_toList (l : List UInt8) : (bs l).toList = l := by
  rw [ByteArray.toList_eq]; rfl
@[go_sem] theorem bs_size (l : List UInt8) : (bs l).size = l.length := rfl
@[go_sem] theorem bs_getElem (l : List UInt8) (i : Nat) (h : i < (bs l).size) : (bs l)[i] = l[i]'h := rfl
@[go_sem] theorem bs_extract (l : List UInt8) (a b : Nat) : (bs l).extract a b = bs ((l.drop a).take (b - a)) :=
  ByteArray.extract_mk l a b
@[go_sem] theorem take_rest (l : List UInt8) (k : Nat) : (l.drop k).take (l.length - k) = l.drop k := List.take_of_length_le (by simp)
theorem bs_eta (s : ByteArray) : bs s.data.toList = s := rfl
theorem bs_inj {a b : List UInt8} : bs a = bs b ↔ a = b := ⟨fun h => by simpa [bs] using h, fun h => by rw [h]⟩
@[go_sem] theorem bs_append (a b : List UInt8) : bs a ++ bs b = bs (a ++ b) := by
  apply ByteArray.ext
  simp [bs]

theorem wrap64_of {n : Int} (h : -9223372036854775808 ≤ n) (h' : n ≤ 9223372036854775807) : wrap64 n = n := IntWalk.wrap64_in n ⟨h, h'⟩
@[go_sem] theorem wrap64_byte (c : UInt8) : wrap64 (c.toNat : Int) = c.toNat := by
  have := c.toNat_lt
  exact wrap64_of (by omega) (by omega)
@[go_sem] theorem head_byte (c : UInt8) (l : List UInt8) (h : 0 < (c :: l).length) : (c :: l)[0]'h = c := rfl

section
variable {P : Program} (w : World) (l : List UInt8) (k : Nat)
/-- range over a string: a sign of ASCII -/
theorem next_byte (c : UInt8) (h : l[k]? = some c) (ha : c.toNat < 128) (ty : TypeId) :
    (Instr.next (.pointer (some ⟨w.heap.size, 0, none⟩)) true ty).run P (w.iter (bs l) k) = .ok (.tuple #[.bool true, .int .i64 k, .int .i32 c.toNat]) (w.iter (bs l) (k + 1)) := by
  obtain ⟨hk, rfl⟩ := List.getElem?_eq_some_iff.1 h
  exact run_next_ascii w (bs l) k ty hk ha
/-- range over a string: any other one -/
theorem next_high (c : UInt8) (h : l[k]? = some c) (ha : 128 ≤ c.toNat) :
    ∃ r n : Nat, 128 ≤ r ∧ r ≤ 2147483647 ∧ 1 ≤ n ∧ ∀ ty, (Instr.next (.pointer (some ⟨w.heap.size, 0, none⟩)) true ty).run P (w.iter (bs l) k) = .ok (.tuple #[.bool true, .int .i64 k, .int .i32 r]) (w.iter (bs l) (k + n)) := by
  obtain ⟨hk, rfl⟩ := List.getElem?_eq_some_iff.1 h
  have hd := decode_high (bs l) k hk ha
  exact ⟨_, _, hd.1, decode_le _ _, hd.2, fun ty => run_next_any w (bs l) k ty hk⟩
theorem next_end (h : l.length ≤ k) (ty : TypeId) :
    (Instr.next (.pointer (some ⟨w.heap.size, 0, none⟩)) true ty).run P (w.iter (bs l) k) = .ok (.tuple #[.bool false]) (w.iter (bs l) k) :=
  run_next_end w (bs l) k ty (by rw [bs_size]; omega)
end
theorem below_next {w w1 w2 : World} (h : Below w.heap.size w w1) (k : Below w1.heap.size w1 w2) : Below w.heap.size w w2 := h.trans (k.mono h.size)
theorem below_next_drewN {w w1 w2 : World} {n : Nat} (h : Below w.heap.size w w1) (k : Below w1.heap.size (w1.drewN n) w2) : Below w.heap.size w w2 := (below_drewN h n).trans (k.mono h.size)
theorem iter_below (w : World) (s : ByteArray) (k : Nat) : Below w.heap.size w (w.iter s k) := (Below.refl _ _).alloc (Nat.le_refl _) _
end Go.Proofs.YtcbomomlojhghaaDoor
