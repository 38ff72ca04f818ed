/- Strings as lists of bytes: the words in which the walks of this seat speak of strings. Versions as lists of bytes: the plain functions that the walks of version and of its reference come to. Parts of versions held against each other: the plain functions. What a package's name is, plainly. -/
import Derived.WalkKit
import Derived.WalkLawsBesides
import Derived.WalkSpells
import Derived.Outline
import Derived.Lib.Strings
import Derived.Lib.Hide
import Derived.Lib.Bytealg
import Derived.Lib.TrimByte
import Derived.Lib.Small
import Derived.Lib.LastIndexByte
namespace Go.Proofs.YtcbomomlojhghaaDoor
set_option linter.unusedSimpArgs false
set_option linter.unusedVariables false
open Go.RowKit

/-- a string of these bytes -/
def bs (l : List UInt8) : ByteArray := ⟨⟨l⟩⟩
theorem bs_data (l : List UInt8) : (bs l).data.toList = l := rfl
@[go_sem] theorem bs_toList (l : List UInt8) : (bs l).toList = l := by
  rw [ByteArray.toList_eq]; rfl
@[go_sem] theorem bs_size (l : List UInt8) : (bs l).size = l.length := rfl
@[go_sem] theorem bs_getElem (l : List UInt8) (i : Nat) (h : i < (bs l).size) : (bs l)[i] = l[i]'h := rfl
@[go_sem] theorem bs_extract (l : List UInt8) (a b : Nat) : (bs l).extract a b = bs ((l.drop a).take (b - a)) :=
  ByteArray.extract_mk l a b
@[go_sem] theorem take_rest (l : List UInt8) (k : Nat) : (l.drop k).take (l.length - k) = l.drop k := List.take_of_length_le (by simp)
theorem bs_eta (s : ByteArray) : bs s.data.toList = s := rfl
theorem bs_inj {a b : List UInt8} : bs a = bs b ↔ a = b := ⟨fun h => by simpa [bs] using h, fun h => by rw [h]⟩
@[go_sem] theorem bs_append (a b : List UInt8) : bs a ++ bs b = bs (a ++ b) := by
  apply ByteArray.ext
  simp [bs]

theorem wrap64_of {n : Int} (h : -9223372036854775808 ≤ n) (h' : n ≤ 9223372036854775807) : wrap64 n = n := IntWalk.wrap64_in n ⟨h, h'⟩
@[go_sem] theorem wrap64_byte (c : UInt8) : wrap64 (c.toNat : Int) = c.toNat := by
  have := c.toNat_lt
  exact wrap64_of (by omega) (by omega)
@[go_sem] theorem head_byte (c : UInt8) (l : List UInt8) (h : 0 < (c :: l).length) : (c :: l)[0]'h = c := rfl

section
variable {P : Program} (w : World) (l : List UInt8) (k : Nat)
/-- range over a string: a sign of ASCII -/
theorem next_byte (c : UInt8) (h : l[k]? = some c) (ha : c.toNat < 128) (ty : TypeId) :
    (Instr.next (.pointer (some ⟨w.heap.size, 0, none⟩)) true ty).run P (w.iter (bs l) k) = .ok (.tuple #[.bool true, .int .i64 k, .int .i32 c.toNat]) (w.iter (bs l) (k + 1)) := by
  obtain ⟨hk, rfl⟩ := List.getElem?_eq_some_iff.1 h
  exact run_next_ascii w (bs l) k ty hk ha
/-- range over a string: any other one -/
theorem next_high (c : UInt8) (h : l[k]? = some c) (ha : 128 ≤ c.toNat) :
    ∃ r n : Nat, 128 ≤ r ∧ r ≤ 2147483647 ∧ 1 ≤ n ∧ ∀ ty, (Instr.next (.pointer (some ⟨w.heap.size, 0, none⟩)) true ty).run P (w.iter (bs l) k) = .ok (.tuple #[.bool true, .int .i64 k, .int .i32 r]) (w.iter (bs l) (k + n)) := by
  obtain ⟨hk, rfl⟩ := List.getElem?_eq_some_iff.1 h
  have hd := decode_high (bs l) k hk ha
  exact ⟨_, _, hd.1, decode_le _ _, hd.2, fun ty => run_next_any w (bs l) k ty hk⟩
theorem next_end (h : l.length ≤ k) (ty : TypeId) :
    (Instr.next (.pointer (some ⟨w.heap.size, 0, none⟩)) true ty).run P (w.iter (bs l) k) = .ok (.tuple #[.bool false]) (w.iter (bs l) k) :=
  run_next_end w (bs l) k ty (by rw [bs_size]; omega)
end
theorem below_next {w w1 w2 : World} (h : Below w.heap.size w w1) (k : Below w1.heap.size w1 w2) : Below w.heap.size w w2 := h.trans (k.mono h.size)
theorem below_next_drewN {w w1 w2 : World} {n : Nat} (h : Below w.heap.size w w1) (k : Below w1.heap.size (w1.drewN n) w2) : Below w.heap.size w w2 := (below_drewN h n).trans (k.mono h.size)
theorem iter_below (w : World) (s : ByteArray) (k : Nat) : Below w.heap.size w (w.iter s k) := (Below.refl _ _).alloc (Nat.le_refl _) _
end Go.Proofs.YtcbomomlojhghaaDoor
namespace Go.Proofs.YtcbomomlojhghaaDoor
set_option linter.unusedSimpArgs false
set_option linter.unusedVariables false
open Go.RowKit

def digB (c : UInt8) : Bool := decide (48 ≤ c.toNat ∧ c.toNat ≤ 57)
def letB (c : UInt8) : Bool := decide (97 ≤ c.toNat ∧ c.toNat ≤ 122 ∨ 65 ≤ c.toNat ∧ c.toNat ≤ 90)
/-- of: all signs are digits, letters or among these -/
def okS (b l : List UInt8) : Bool := l.all fun c => digB c || letB c || b.contains c
def epochS (l : List UInt8) : Bool := !l.isEmpty && decide (l.length ≤ 9) && l.all digB
def rankS : List UInt8 → Int
  | [] => 0
  | c :: _ => if digB c then 0 else if c.toNat = 126 then -1 else if letB c then c.toNat else c.toNat + 256

theorem okS_take (b l : List UInt8) (k : Nat) (h : k < l.length) : okS b (l.take (k + 1)) = (okS b (l.take k) && (digB l[k] || letB l[k] || b.contains l[k])) := by
  unfold okS
  rw [List.take_succ_eq_append_getElem h, List.all_append]
  simp only [List.all_cons, List.all_nil, Bool.and_true]
theorem okS_bad (b l : List UInt8) (k : Nat) (h : k < l.length) (hb : (digB l[k] || letB l[k] || b.contains l[k]) = false) : okS b l = false := by
  unfold okS
  rw [List.all_eq_false]
  exact ⟨l[k], List.getElem_mem h, by rw [hb]; exact Bool.false_ne_true⟩
theorem okS_step {b l : List UInt8} {k : Nat} {c : UInt8} (hc : l[k]? = some c) (h : okS b (l.take k) = true) (hx : (digB c || letB c || b.contains c) = true) : okS b (l.take (k + 1)) = true := by
  obtain ⟨hk, rfl⟩ := List.getElem?_eq_some_iff.1 hc
  rw [okS_take b l k hk, h, hx]
  rfl
theorem okS_fail {b l : List UInt8} {k : Nat} {c : UInt8} (hc : l[k]? = some c) (hx : (digB c || letB c || b.contains c) = false) : okS b l = false := by
  obtain ⟨hk, rfl⟩ := List.getElem?_eq_some_iff.1 hc
  exact okS_bad b l k hk hx
theorem high_fail {b : List UInt8} {c : UInt8} (hb : b.all (fun c => decide (c.toNat ≤ 126)) = true) (hc : 126 < (c.toNat : Int)) : (digB c || letB c || b.contains c) = false := by
  have h : c ∉ b := fun h => by
    have := List.all_eq_true.1 hb c h
    simp at this
    omega
  simp [digB, letB, h]
  omega
theorem okS_all (b l : List UInt8) (k : Nat) (h : l.length ≤ k) : okS b (l.take k) = okS b l := by
  rw [List.take_of_length_le h]
theorem indexByte_mem (b : List UInt8) (c : UInt8) : -1 ≤ Lib.indexByte b c ∧ (0 ≤ Lib.indexByte b c ↔ c ∈ b) := by
  induction b with
  | nil => simp [Lib.indexByte]
  | cons x b ih => simp only [Lib.indexByte]; grind
theorem indexByte_lt (b : List UInt8) (c : UInt8) : -1 ≤ Lib.indexByte b c ∧ Lib.indexByte b c < b.length := by
  induction b with
  | nil => simp [Lib.indexByte]
  | cons x b ih => simp only [Lib.indexByte, List.length_cons]; grind
theorem contains_one (b : List UInt8) (c : UInt8) : decide (0 ≤ Lib.indexByte b c) = b.contains c := by
  have := (indexByte_mem b c).2
  rw [Bool.eq_iff_iff]
  simp [this]
@[go_sem] theorem encode_one (c : UInt8) (h : c.toNat < 128) : Utf8.encode (c.toNat : Int) = bs [c] := by
  unfold Utf8.encode
  have hv : Utf8.valid (c.toNat : Int) = true := by simp [Utf8.valid]; omega
  simp only [hv, if_true, Int.toNat_natCast, h]
  simp [bs]

/-- the place of the last c, or -1 -/
def lastB : List UInt8 → UInt8 → Int
  | [], _ => -1
  | x :: l, c => if 0 ≤ lastB l c then lastB l c + 1 else if x = c then 0 else -1
theorem lastB_ge (l : List UInt8) (c : UInt8) : -1 ≤ lastB l c ∧ lastB l c < l.length := by
  induction l with
  | nil => simp [lastB]
  | cons x l ih => simp only [lastB, List.length_cons]; grind
theorem lastB_none {l : List UInt8} {c : UInt8} (h : c ∉ l) : lastB l c = -1 := by
  induction l with
  | nil => rfl
  | cons x l ih => simp only [lastB]; grind
theorem lastB_at {l : List UInt8} {c : UInt8} {i : Nat} (h : l[i]? = some c) (hn : ∀ j, i < j → l[j]? ≠ some c) : lastB l c = i := by
  induction l generalizing i with
  | nil => simp at h
  | cons x l ih =>
    simp only [lastB]
    cases i with
    | zero =>
      have : c ∉ l := fun hm => by
        obtain ⟨j, hj⟩ := List.getElem?_of_mem hm
        exact hn (j + 1) (by omega) (by simpa using hj)
      rw [lastB_none this]
      simp at h
      simp [h]
    | succ i =>
      have := ih (i := i) (by simpa using h) (fun j hj => by have := hn (j + 1) (by omega); simpa using this)
      rw [this]
      simp
theorem lastIndex_eq (l : List UInt8) (c : UInt8) : Lib.lastIndexByte (bs l) c.toNat = lastB l c := by
  have hg : ∀ j, j < l.length → ((bs l).data[j]!).toNat = (l[j]?.getD 0).toNat := fun j hj => by
    simp [bs, hj]
  rcases Lib.lastIndexByte_spec (bs l) c.toNat with ⟨h, hn⟩ | ⟨i, hi, h, hc, hn⟩
  · rw [h, lastB_none]
    intro hm
    obtain ⟨j, hj⟩ := List.getElem?_of_mem hm
    have hjl := (List.getElem?_eq_some_iff.1 hj).1
    have := hn j hjl
    rw [hg j hjl, hj] at this
    exact this rfl
  · have hil : i < l.length := hi
    rw [h, lastB_at]
    · rw [hg i hil, List.getElem?_eq_getElem hil] at hc
      rw [List.getElem?_eq_getElem hil]
      congr 1
      exact UInt8.toNat_inj.1 (by simp at hc; omega)
    · intro j hj he
      have hjl := (List.getElem?_eq_some_iff.1 he).1
      have := hn j hj hjl
      rw [hg j hjl, he] at this
      exact this rfl
/-- a version's parts -/
def cutE (l : List UInt8) : List UInt8 × List UInt8 := if 0 ≤ Lib.indexByte l 58 then (l.take (Lib.indexByte l 58).toNat, l.drop ((Lib.indexByte l 58).toNat + 1)) else ([48], l)
def cutR (l : List UInt8) : List UInt8 × List UInt8 := if 0 ≤ lastB l 45 then (l.take (lastB l 45).toNat, l.drop ((lastB l 45).toNat + 1)) else (l, [])
def headDig : List UInt8 → Bool
  | [] => false
  | c :: _ => digB c
def verOk (e u v : List UInt8) : Bool := epochS e && okS [43, 46, 126] v && !u.isEmpty && headDig u && okS [43, 46, 126, 45, 58] u
def verS (l : List UInt8) : Option (List UInt8 × List UInt8 × List UInt8) :=
  if l.length = 0 ∨ 48 < l.length then none
  else if 0 ≤ lastB (cutE l).2 45 ∧ (cutR (cutE l).2).2 = [] then none
  else if verOk (cutE l).1 (cutR (cutE l).2).1 (cutR (cutE l).2).2 then some ((cutE l).1, (cutR (cutE l).2).1, (cutR (cutE l).2).2) else none

def cutS (l : List UInt8) (c : UInt8) : List UInt8 × List UInt8 × Bool :=
  if 0 ≤ Lib.indexByte l c then (l.take (Lib.indexByte l c).toNat, l.drop ((Lib.indexByte l c).toNat + 1), true) else (l, [], false)
theorem cutE_of {l a b : List UInt8} {is : Bool} (h : cutS l 58 = (a, b, is)) : cutE l = if is then (a, b) else ([48], l) := by
  unfold cutS at h
  unfold cutE
  split at h <;> simp only [Prod.mk.injEq] at h <;> obtain ⟨rfl, rfl, rfl⟩ := h <;> simp [*]
theorem cutS_len {l a b : List UInt8} {is : Bool} (h : cutS l 58 = (a, b, is)) : a.length ≤ l.length ∧ b.length ≤ l.length := by
  unfold cutS at h
  split at h <;> simp only [Prod.mk.injEq] at h <;> obtain ⟨rfl, rfl, rfl⟩ := h <;> simp <;> omega
/-- what Parse hands back -/
def verV (l : List UInt8) : Value := match verS l with
  | some (a, b, c) => .tuple #[.string (bs a), .string (bs b), .string (bs c), .int .i64 0]
  | none => .tuple #[.string (bs []), .string (bs []), .string (bs []), .int .i64 3]
theorem verV_none {l : List UInt8} (h : verS l = none) : verV l = .tuple #[.string (bs []), .string (bs []), .string (bs []), .int .i64 3] := by simp [verV, h]
theorem verV_some {l a b c : List UInt8} (h : verS l = some (a, b, c)) : verV l = .tuple #[.string (bs a), .string (bs b), .string (bs c), .int .i64 0] := by simp [verV, h]
theorem verV_of {l e r u v : List UInt8} (h0 : l.isEmpty = false) (h48 : l.length ≤ 48) (hE : cutE l = (e, r)) (hR : cutR r = (u, v)) :
    verV l = if 0 ≤ lastB r 45 ∧ v = [] then .tuple #[.string (bs []), .string (bs []), .string (bs []), .int .i64 3] else
      if verOk e u v then .tuple #[.string (bs e), .string (bs u), .string (bs v), .int .i64 0] else .tuple #[.string (bs []), .string (bs []), .string (bs []), .int .i64 3] := by
  have h1 : ¬ (l.length = 0 ∨ 48 < l.length) := by
    rcases l with _ | ⟨x, l⟩
    · simp at h0
    · simp only [List.length_cons] at h48 ⊢; omega
  have hS : verS l = if 0 ≤ lastB r 45 ∧ v = [] then none else if verOk e u v then some (e, u, v) else none := by
    unfold verS
    rw [if_neg h1, hE]
    simp only [hR]
  split
  · rename_i h; rw [if_pos h] at hS; exact verV_none hS
  · rename_i h
    rw [if_neg h] at hS
    split
    · rename_i h2; rw [if_pos h2] at hS; exact verV_some hS
    · rename_i h2; rw [if_neg h2] at hS; exact verV_none hS
/-- what the reference's Version hands back -/
def verW (l : List UInt8) : Value := match verS l with
  | some (a, b, c) => .tuple #[.string (bs a), .string (bs b), .string (bs c), .bool true]
  | none => .tuple #[.string (bs []), .string (bs []), .string (bs []), .bool false]
theorem verW_short {l : List UInt8} (h : l.length = 0 ∨ 48 < l.length) : verW l = .tuple #[.string (bs []), .string (bs []), .string (bs []), .bool false] := by
  have : verS l = none := by unfold verS; rw [if_pos h]
  simp [verW, this]
theorem verW_bad {l e r u v : List UInt8} (h1 : ¬ (l.length = 0 ∨ 48 < l.length)) (hE : cutE l = (e, r)) (hR : cutR r = (u, v)) (h : (0 ≤ lastB r 45 ∧ v = []) ∨ verOk e u v = false) :
    verW l = .tuple #[.string (bs []), .string (bs []), .string (bs []), .bool false] := by
  have : verS l = none := by
    unfold verS
    rw [if_neg h1, hE]
    simp only [hR]
    split
    · rfl
    · rename_i hn
      rw [if_neg (by simp [h.resolve_left hn])]
  simp [verW, this]
theorem verW_good {l e r u v : List UInt8} (h1 : ¬ (l.length = 0 ∨ 48 < l.length)) (hE : cutE l = (e, r)) (hR : cutR r = (u, v)) (h0 : ¬ (0 ≤ lastB r 45 ∧ v = [])) (h : verOk e u v = true) :
    verW l = .tuple #[.string (bs e), .string (bs u), .string (bs v), .bool true] := by
  have : verS l = some (e, u, v) := by
    unfold verS
    rw [if_neg h1, hE]
    simp only [hR]
    rw [if_neg h0, if_pos h]
  simp [verW, this]
theorem indexByte_no {l : List UInt8} {c : UInt8} (h : ∀ j, j < l.length → l[j]? ≠ some c) : Lib.indexByte l c = -1 := by
  have h1 := indexByte_mem l c
  have : c ∉ l := fun hm => by
    obtain ⟨j, hj⟩ := List.getElem?_of_mem hm
    exact h j (List.getElem?_eq_some_iff.1 hj).1 hj
  have h2 : ¬ 0 ≤ Lib.indexByte l c := fun h => this (h1.2.1 h)
  omega
theorem indexByte_at {l : List UInt8} {c : UInt8} {i : Nat} (h : l[i]? = some c) (hn : ∀ j, j < i → l[j]? ≠ some c) : Lib.indexByte l c = i := by
  induction l generalizing i with
  | nil => simp at h
  | cons x l ih =>
    simp only [Lib.indexByte]
    cases i with
    | zero => simp at h; simp [h]
    | succ i =>
      have hx : x ≠ c := fun e => hn 0 (by omega) (by simp [e])
      have := ih (i := i) (by simpa using h) (fun j hj => by have := hn (j + 1) (by omega); simpa using this)
      rw [this]
      simp [hx]
theorem takeWhile_of {p : UInt8 → Bool} {l : List UInt8} {k : Nat} (h : (l.take k).all p = true) (hn : ∀ c, l[k]? = some c → p c = false) (hk : k ≤ l.length) : l.takeWhile p = l.take k ∧ l.dropWhile p = l.drop k := by
  induction l generalizing k with
  | nil => simp
  | cons x l ih =>
    cases k with
    | zero => have := hn x (by simp); simp [this]
    | succ k =>
      simp only [List.take_succ_cons, List.all_cons, Bool.and_eq_true] at h
      have := ih (k := k) h.2 (fun c hc => hn c (by simpa using hc)) (by simp at hk; omega)
      simp [h.1, this]
theorem all_step {p : UInt8 → Bool} {l : List UInt8} {k : Nat} {c : UInt8} (hc : l[k]? = some c) (h : (l.take k).all p = true) (hx : p c = true) : (l.take (k + 1)).all p = true := by
  obtain ⟨hk, rfl⟩ := List.getElem?_eq_some_iff.1 hc
  rw [List.take_succ_eq_append_getElem hk, List.all_append, h]
  simp [hx]
theorem all_fail {p : UInt8 → Bool} {l : List UInt8} {k : Nat} {c : UInt8} (hc : l[k]? = some c) (hx : p c = false) : l.all p = false := by
  obtain ⟨hk, rfl⟩ := List.getElem?_eq_some_iff.1 hc
  rw [List.all_eq_false]
  exact ⟨l[k], List.getElem_mem hk, by rw [hx]; exact Bool.false_ne_true⟩
/-- digits at the beginning without noughts ahead; what is behind -/
def digitsS (l : List UInt8) : List UInt8 × List UInt8 := ((l.takeWhile digB).dropWhile (· == 48), l.dropWhile digB)
def cmpB (a b : List UInt8) : Int := if Op.bytesLess a b then -1 else if a = b then 0 else 1
end Go.Proofs.YtcbomomlojhghaaDoor
namespace Go.Proofs.YtcbomomlojhghaaDoor
set_option linter.unusedSimpArgs false
set_option linter.unusedVariables false
open Go.RowKit

/-- signs: what is no digit at both beginnings; what is left -/
def signsS : List UInt8 → List UInt8 → Int × List UInt8 × List UInt8
  | [], b => (Lib.compareInt 0 (rankS b), [], b)
  | x :: a, b => if rankS (x :: a) = rankS b then (if rankS (x :: a) = 0 then (0, x :: a, b) else signsS a b.tail) else (Lib.compareInt (rankS (x :: a)) (rankS b), x :: a, b)
def numsS (a b : List UInt8) : Int := if (digitsS a).1.length = (digitsS b).1.length then cmpB (digitsS a).1 (digitsS b).1 else Lib.compareInt (digitsS a).1.length (digitsS b).1.length
def partF : Nat → List UInt8 → List UInt8 → Int
  | 0, _, _ => 0
  | n + 1, a, b =>
    if a = [] ∧ b = [] then 0
    else if (signsS a b).1 ≠ 0 then (signsS a b).1
    else if numsS (signsS a b).2.1 (signsS a b).2.2 ≠ 0 then numsS (signsS a b).2.1 (signsS a b).2.2
    else partF n (digitsS (signsS a b).2.1).2 (digitsS (signsS a b).2.2).2
def partS (a b : List UInt8) : Int := partF (a.length + b.length) a b

theorem compareInt_zero (x y : Int) : Lib.compareInt x y = 0 ↔ x = y := by unfold Lib.compareInt; grind
theorem rank_zero (l : List UInt8) : rankS l = 0 ↔ l = [] ∨ headDig l = true := by
  rcases l with _ | ⟨c, l⟩
  · simp [rankS]
  · simp only [rankS, headDig]
    have := c.toNat_lt
    by_cases h : digB c = true
    · simp [h]
    · simp only [h]
      by_cases h2 : letB c = true
      · have : 65 ≤ c.toNat := by simp [letB] at h2; omega
        simp; grind
      · simp; grind
theorem signs_len (a b : List UInt8) : (signsS a b).2.1.length ≤ a.length ∧ (signsS a b).2.2.length ≤ b.length := by
  induction a generalizing b with
  | nil => simp [signsS]
  | cons x a ih =>
    simp only [signsS]
    split
    · split
      · simp
      · have := ih b.tail
        simp at this ⊢
        omega
    · simp
/-- signs that are alike: both are at a digit or at their end -/
theorem signs_same {a b : List UInt8} (h : (signsS a b).1 = 0) : rankS (signsS a b).2.1 = 0 ∧ rankS (signsS a b).2.2 = 0 := by
  induction a generalizing b with
  | nil =>
    simp only [signsS, compareInt_zero] at h ⊢
    exact ⟨rfl, h.symm⟩
  | cons x a ih =>
    simp only [signsS] at h ⊢
    by_cases h1 : rankS (x :: a) = rankS b
    · rw [if_pos h1] at h ⊢
      by_cases h2 : rankS (x :: a) = 0
      · rw [if_pos h2] at h ⊢
        exact ⟨h2, by rw [← h1]; exact h2⟩
      · rw [if_neg h2] at h ⊢
        exact ih h
    · rw [if_neg h1] at h
      exact absurd ((compareInt_zero _ _).1 h) h1
theorem digits_len (a : List UInt8) : (digitsS a).1.length ≤ a.length ∧ (digitsS a).2.length ≤ a.length := by
  unfold digitsS
  have h1 := List.takeWhile_append_dropWhile (p := digB) (l := a)
  have h2 := congrArg List.length h1
  simp only [List.length_append] at h2
  have h3 := (List.dropWhile_suffix (l := a.takeWhile digB) (· == 48)).length_le
  simp only
  omega
/-- a round takes something away -/
theorem round_len {a b : List UInt8} (hne : ¬ (a = [] ∧ b = [])) (h : (signsS a b).1 = 0) :
    (digitsS (signsS a b).2.1).2.length + (digitsS (signsS a b).2.2).2.length < a.length + b.length := by
  have hs := signs_len a b
  have hz := signs_same h
  have hd1 := digits_len (signsS a b).2.1
  have hd2 := digits_len (signsS a b).2.2
  have key : ∀ l : List UInt8, rankS l = 0 → l ≠ [] → (digitsS l).2.length < l.length := by
    intro l hl hn
    rcases l with _ | ⟨c, l⟩
    · exact absurd rfl hn
    · have hc : digB c = true := by
        rcases (rank_zero _).1 hl with h | h
        · cases h
        · exact h
      have := (List.dropWhile_suffix (l := l) digB).length_le
      simp only [digitsS, List.dropWhile_cons, hc, if_true, List.length_cons]
      omega
  by_cases ha : (signsS a b).2.1.length < a.length
  · omega
  · by_cases hb : (signsS a b).2.2.length < b.length
    · omega
    · by_cases hna : (signsS a b).2.1 = []
      · have hbn : (signsS a b).2.2 ≠ [] := by
          intro e
          rw [hna] at hs ha
          rw [e] at hs hb
          apply hne
          constructor
          · apply List.eq_nil_of_length_eq_zero; simp only [List.length_nil] at ha; omega
          · apply List.eq_nil_of_length_eq_zero; simp only [List.length_nil] at hb; omega
        have := key _ hz.2 hbn
        omega
      · have := key _ hz.1 hna
        omega
theorem partF_more (n : Nat) : ∀ (m : Nat) (a b : List UInt8), a.length + b.length ≤ n → n ≤ m → partF m a b = partF n a b := by
  induction n with
  | zero =>
    intro m a b h _
    have ha : a = [] := List.eq_nil_of_length_eq_zero (by omega)
    have hb : b = [] := List.eq_nil_of_length_eq_zero (by omega)
    subst ha; subst hb
    cases m <;> simp [partF]
  | succ n ih =>
    intro m a b h hm
    obtain ⟨m, rfl⟩ : ∃ k, m = k + 1 := ⟨m - 1, by omega⟩
    simp only [partF]
    by_cases hne : a = [] ∧ b = []
    · rw [if_pos hne, if_pos hne]
    · rw [if_neg hne, if_neg hne]
      by_cases hs : (signsS a b).1 ≠ 0
      · rw [if_pos hs, if_pos hs]
      · rw [if_neg hs, if_neg hs]
        have := round_len hne (by simpa using hs)
        rw [ih m _ _ (by omega) (by omega)]
theorem partS_nil : partS [] [] = 0 := rfl
/-- a round of Part -/
theorem partS_round {a b : List UInt8} (hne : ¬ (a = [] ∧ b = [])) :
    partS a b = if (signsS a b).1 ≠ 0 then (signsS a b).1
      else if numsS (signsS a b).2.1 (signsS a b).2.2 ≠ 0 then numsS (signsS a b).2.1 (signsS a b).2.2
      else partS (digitsS (signsS a b).2.1).2 (digitsS (signsS a b).2.2).2 := by
  have hpos : 0 < a.length + b.length := by
    rcases a with _ | ⟨x, a⟩
    · rcases b with _ | ⟨y, b⟩
      · exact absurd ⟨rfl, rfl⟩ hne
      · simp
    · simp; omega
  unfold partS
  obtain ⟨n, hn⟩ : ∃ n, a.length + b.length = n + 1 := ⟨a.length + b.length - 1, by omega⟩
  rw [hn]
  simp only [partF]
  rw [if_neg hne]
  by_cases hs : (signsS a b).1 ≠ 0
  · rw [if_pos hs, if_pos hs]
  · rw [if_neg hs, if_neg hs]
    have := round_len hne (by simpa using hs)
    rw [partF_more _ n _ _ (Nat.le_refl _) (by omega)]
def orS (x y z : Int) : Int := if x ≠ 0 then x else if y ≠ 0 then y else z
/-- compare: of two versions; and whether both are -/
def cmpV (a b : List UInt8) : Int × Bool := match verS a, verS b with
  | some (e, u, r), some (f, v, s) => (orS (partS e f) (partS u v) (partS r s), true)
  | _, _ => (0, false)
/-- is it a version? -/
def isV (l : List UInt8) : Bool := (verS l).isSome
def holdsS (rel : Int) (a b : List UInt8) : Bool :=
  if rel = 0 then isV a else (cmpV a b).2 &&
    (if rel = 1 then decide ((cmpV a b).1 < 0) else if rel = 2 then decide ((cmpV a b).1 ≤ 0) else if rel = 3 then decide ((cmpV a b).1 = 0) else if rel = 4 then decide (0 ≤ (cmpV a b).1) else if rel = 5 then decide (0 < (cmpV a b).1) else false)
end Go.Proofs.YtcbomomlojhghaaDoor
namespace Go.Proofs.YtcbomomlojhghaaDoor
set_option linter.unusedSimpArgs false
set_option linter.unusedVariables false

def smlB (c : UInt8) : Bool := decide (97 ≤ c.toNat ∧ c.toNat ≤ 122)
def nmB (c : UInt8) : Bool := smlB c || digB c
def nmC (c : UInt8) : Bool := nmB c || decide (c.toNat = 43 ∨ c.toNat = 45 ∨ c.toNat = 46)
def nmOk : List UInt8 → Bool
  | [] => true
  | c :: l => nmB c && l.all nmC
/-- is it a name? -/
def nameS (l : List UInt8) : Bool := decide (2 ≤ l.length ∧ l.length ≤ 24) && nmOk l
theorem nmB_C {c : UInt8} (h : nmB c = true) : nmC c = true := by simp [nmC, h]
theorem nmOk_step {l : List UInt8} {k : Nat} {c : UInt8} (hc : l[k]? = some c) (h : nmOk (l.take k) = true) (hx : nmB c = true ∨ k ≠ 0 ∧ nmC c = true) : nmOk (l.take (k + 1)) = true := by
  rcases l with _ | ⟨d, l⟩
  · simp at hc
  · rcases k with _ | k
    · simp at hc
      subst hc
      rcases hx with hx | hx
      · simp [nmOk, hx]
      · exact absurd rfl hx.1
    · simp only [List.take_succ_cons, nmOk, Bool.and_eq_true] at h ⊢
      refine ⟨h.1, all_step (by simpa using hc) h.2 ?_⟩
      rcases hx with hx | hx
      · exact nmB_C hx
      · exact hx.2
theorem nmOk_fail {l : List UInt8} {k : Nat} {c : UInt8} (hc : l[k]? = some c) (hx : nmB c = false) (hy : k = 0 ∨ nmC c = false) : nmOk l = false := by
  rcases l with _ | ⟨d, l⟩
  · simp at hc
  · rcases k with _ | k
    · simp at hc
      subst hc
      simp [nmOk, hx]
    · rcases hy with hy | hy
      · omega
      · have := all_fail (p := nmC) (l := l) (k := k) (by simpa using hc) hy
        simp [nmOk, this]
end Go.Proofs.YtcbomomlojhghaaDoor
