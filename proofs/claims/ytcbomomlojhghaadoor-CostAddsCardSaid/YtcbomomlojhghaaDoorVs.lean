/- Versions as lists of bytes: the plain functions that the walks of version and of its reference come to. -/
import Derived.Test.YtcbomomlojhghaaDoorBs
import Derived.Lib.Bytealg
import Derived.Lib.TrimByte
import Derived.Lib.Small
import Derived.Lib.LastIndexByte
namespace Go.Proofs.YtcbomomlojhghaaDoor
set_option linter.unusedSimpArgs false
set_option linter.unusedVariables false
open Go.RowKit

def digB (c : UInt8) : Bool := decide (48 ≤ c.toNat ∧ c.toNat ≤ 57)
def letB (c : UInt8) : Bool := decide (97 ≤ c.toNat ∧ c.toNat ≤ 122 ∨ 65 ≤ c.toNat ∧ c.toNat ≤ 90)
/-- of: all signs are digits, letters or among these -/
def okS (b l : List UInt8) : Bool := l.all fun c => digB c || letB c || b.contains c
def epochS (l : List UInt8) : Bool := !l.isEmpty && decide (l.length ≤ 9) && l.all digB
def rankS : List UInt8 → Int
  | [] => 0
  | c :: _ => if digB c then 0 else if c.toNat = 126 then -1 else if letB c then c.toNat else c.toNat + 256

theorem okS_take (b l : List UInt8) (k : Nat) (h : k < l.length) : okS b (l.take (k + 1)) = (okS b (l.take k) && (digB l[k] || letB l[k] || b.contains l[k])) := by
  unfold okS
  rw [List.take_succ_eq_append_getElem h, List.all_append]
  simp only [List.all_cons, List.all_nil, Bool.and_true]
theorem okS_bad (b l : List UInt8) (k : Nat) (h : k < l.length) (hb : (digB l[k] || letB l[k] || b.contains l[k]) = false) : okS b l = false := by
  unfold okS
  rw [List.all_eq_false]
  exact ⟨l[k], List.getElem_mem h, by rw [hb]; exact Bool.false_ne_true⟩
theorem okS_step {b l : List UInt8} {k : Nat} {c : UInt8} (hc : l[k]? = some c) (h : okS b (l.take k) = true) (hx : (digB c || letB c || b.contains c) = true) : okS b (l.take (k + 1)) = true := by
  obtain ⟨hk, rfl⟩ := List.getElem?_eq_some_iff.1 hc
  rw [okS_take b l k hk, h, hx]
  rfl
theorem okS_fail {b l : List UInt8} {k : Nat} {c : UInt8} (hc : l[k]? = some c) (hx : (digB c || letB c || b.contains c) = false) : okS b l = false := by
  obtain ⟨hk, rfl⟩ := List.getElem?_eq_some_iff.1 hc
  exact okS_bad b l k hk hx
theorem high_fail {b : List UInt8} {c : UInt8} (hb : b.all (fun c => decide (c.toNat ≤ 126)) = true) (hc : 126 < (c.toNat : Int)) : (digB c || letB c || b.contains c) = false := by
  have h : c ∉ b := fun h => by
    have := List.all_eq_true.1 hb c h
    simp at this
    omega
  simp [digB, letB, h]
  omega
theorem okS_all (b l : List UInt8) (k : Nat) (h : l.length ≤ k) : okS b (l.take k) = okS b l := by
  rw [List.take_of_length_le h]
theorem indexByte_mem (b : List UInt8) (c : UInt8) : -1 ≤ Lib.indexByte b c ∧ (0 ≤ Lib.indexByte b c ↔ c ∈ b) := by
  induction b with
  | nil => simp [Lib.indexByte]
  | cons x b ih => simp only [Lib.indexByte]; grind
theorem indexByte_lt (b : List UInt8) (c : UInt8) : -1 ≤ Lib.indexByte b c ∧ Lib.indexByte b c < b.length := by
  induction b with
  | nil => simp [Lib.indexByte]
  | cons x b ih => simp only [Lib.indexByte, List.length_cons]; grind
theorem contains_one (b : List UInt8) (c : UInt8) : decide (0 ≤ Lib.indexByte b c) = b.contains c := by
  have := (indexByte_mem b c).2
  rw [Bool.eq_iff_iff]
  simp [this]
@[go_sem] theorem encode_one (c : UInt8) (h : c.toNat < 128) : Utf8.encode (c.toNat : Int) = bs [c] := by
  unfold Utf8.encode
  have hv : Utf8.valid (c.toNat : Int) = true := by simp [Utf8.valid]; omega
  simp only [hv, if_true, Int.toNat_natCast, h]
  simp [bs]

/-- the place of the last c, or -1 -/
def lastB : List UInt8 → UInt8 → Int
  | [], _ => -1
  | x :: l, c => if 0 ≤ lastB l c then lastB l c + 1 else if x = c then 0 else -1
theorem lastB_ge (l : List UInt8) (c : UInt8) : -1 ≤ lastB l c ∧ lastB l c < l.length := by
  induction l with
  | nil => simp [lastB]
  | cons x l ih => simp only [lastB, List.length_cons]; grind
theorem lastB_none {l : List UInt8} {c : UInt8} (h : c ∉ l) : lastB l c = -1 := by
  induction l with
  | nil => rfl
  | cons x l ih => simp only [lastB]; grind
theorem lastB_at {l : List UInt8} {c : UInt8} {i : Nat} (h : l[i]? = some c) (hn : ∀ j, i < j → l[j]? ≠ some c) : lastB l c = i := by
  induction l generalizing i with
  | nil => simp at h
  | cons x l ih =>
    simp only [lastB]
    cases i with
    | zero =>
      have : c ∉ l := fun hm => by
        obtain ⟨j, hj⟩ := List.getElem?_of_mem hm
        exact hn (j + 1) (by omega) (by simpa using hj)
      rw [lastB_none this]
      simp at h
      simp [h]
    | succ i =>
      have := ih (i := i) (by simpa using h) (fun j hj => by have := hn (j + 1) (by omega); simpa using this)
      rw [this]
      simp
theorem lastIndex_eq (l : List UInt8) (c : UInt8) : Lib.lastIndexByte (bs l) c.toNat = lastB l c := by
  have hg : ∀ j, j < l.length → ((bs l).data[j]!).toNat = (l[j]?.getD 0).toNat := fun j hj => by
    simp [bs, hj]
  rcases Lib.lastIndexByte_spec (bs l) c.toNat with ⟨h, hn⟩ | ⟨i, hi, h, hc, hn⟩
  · rw [h, lastB_none]
    intro hm
    obtain ⟨j, hj⟩ := List.getElem?_of_mem hm
    have hjl := (List.getElem?_eq_some_iff.1 hj).1
    have := hn j hjl
    rw [hg j hjl, hj] at this
    exact this rfl
  · have hil : i < l.length := hi
    rw [h, lastB_at]
    · rw [hg i hil, List.getElem?_eq_getElem hil] at hc
      rw [List.getElem?_eq_getElem hil]
      congr 1
      exact UInt8.toNat_inj.1 (by simp at hc; omega)
    · intro j hj he
      have hjl := (List.getElem?_eq_some_iff.1 he).1
      have := hn j hj hjl
      rw [hg j hjl, he] at this
      exact this rfl
/-- a version's parts -/
def cutE (l : List UInt8) : List UInt8 × List UInt8 := if 0 ≤ Lib.indexByte l 58 then (l.take (Lib.indexByte l 58).toNat, l.drop ((Lib.indexByte l 58).toNat + 1)) else ([48], l)
def cutR (l : List UInt8) : List UInt8 × List UInt8 := if 0 ≤ lastB l 45 then (l.take (lastB l 45).toNat, l.drop ((lastB l 45).toNat + 1)) else (l, [])
def headDig : List UInt8 → Bool
  | [] => false
  | c :: _ => digB c
def verOk (e u v : List UInt8) : Bool := epochS e && okS [43, 46, 126] v && !u.isEmpty && headDig u && okS [43, 46, 126, 45, 58] u
def verS (l : List UInt8) : Option (List UInt8 × List UInt8 × List UInt8) :=
  if l.length = 0 ∨ 48 < l.length then none
  else if 0 ≤ lastB (cutE l).2 45 ∧ (cutR (cutE l).2).2 = [] then none
  else if verOk (cutE l).1 (cutR (cutE l).2).1 (cutR (cutE l).2).2 then some ((cutE l).1, (cutR (cutE l).2).1, (cutR (cutE l).2).2) else none

def cutS (l : List UInt8) (c : UInt8) : List UInt8 × List UInt8 × Bool :=
  if 0 ≤ Lib.indexByte l c then (l.take (Lib.indexByte l c).toNat, l.drop ((Lib.indexByte l c).toNat + 1), true) else (l, [], false)
theorem cutE_of {l a b : List UInt8} {is : Bool} (h : cutS l 58 = (a, b, is)) : cutE l = if is then (a, b) else ([48], l) := by
  unfold cutS at h
  unfold cutE
  split at h <;> simp only [Prod.mk.injEq] at h <;> obtain ⟨rfl, rfl, rfl⟩ := h <;> simp [*]
theorem cutS_len {l a b : List UInt8} {is : Bool} (h : cutS l 58 = (a, b, is)) : a.length ≤ l.length ∧ b.length ≤ l.length := by
  unfold cutS at h
  split at h <;> simp only [Prod.mk.injEq] at h <;> obtain ⟨rfl, rfl, rfl⟩ := h <;> simp <;> omega
/-- what Parse hands back -/
def verV (l : List UInt8) : Value := match verS l with
  | some (a, b, c) => .tuple #[.string (bs a), .string (bs b), .string (bs c), .int .i64 0]
  | none => .tuple #[.string (bs []), .string (bs []), .string (bs []), .int .i64 3]
theorem verV_none {l : List UInt8} (h : verS l = none) : verV l = .tuple #[.string (bs []), .string (bs []), .string (bs []), .int .i64 3] := by simp [verV, h]
theorem verV_some {l a b c : List UInt8} (h : verS l = some (a, b, c)) : verV l = .tuple #[.string (bs a), .string (bs b), .string (bs c), .int .i64 0] := by simp [verV, h]
theorem verV_of {l e r u v : List UInt8} (h0 : l.isEmpty = false) (h48 : l.length ≤ 48) (hE : cutE l = (e, r)) (hR : cutR r = (u, v)) :
    verV l = if 0 ≤ lastB r 45 ∧ v = [] then .tuple #[.string (bs []), .string (bs []), .string (bs []), .int .i64 3] else
      if verOk e u v then .tuple #[.string (bs e), .string (bs u), .string (bs v), .int .i64 0] else .tuple #[.string (bs []), .string (bs []), .string (bs []), .int .i64 3] := by
  have h1 : ¬ (l.length = 0 ∨ 48 < l.length) := by
    rcases l with _ | ⟨x, l⟩
    · simp at h0
    · simp only [List.length_cons] at h48 ⊢; omega
  have hS : verS l = if 0 ≤ lastB r 45 ∧ v = [] then none else if verOk e u v then some (e, u, v) else none := by
    unfold verS
    rw [if_neg h1, hE]
    simp only [hR]
  split
  · rename_i h; rw [if_pos h] at hS; exact verV_none hS
  · rename_i h
    rw [if_neg h] at hS
    split
    · rename_i h2; rw [if_pos h2] at hS; exact verV_some hS
    · rename_i h2; rw [if_neg h2] at hS; exact verV_none hS
/-- what the reference's Version hands back -/
def verW (l : List UInt8) : Value := match verS l with
  | some (a, b, c) => .tuple #[.string (bs a), .string (bs b), .string (bs c), .bool true]
  | none => .tuple #[.string (bs []), .string (bs []), .string (bs []), .bool false]
theorem verW_short {l : List UInt8} (h : l.length = 0 ∨ 48 < l.length) : verW l = .tuple #[.string (bs []), .string (bs []), .string (bs []), .bool false] := by
  have : verS l = none := by unfold verS; rw [if_pos h]
  simp [verW, this]
theorem verW_bad {l e r u v : List UInt8} (h1 : ¬ (l.length = 0 ∨ 48 < l.length)) (hE : cutE l = (e, r)) (hR : cutR r = (u, v)) (h : (0 ≤ lastB r 45 ∧ v = []) ∨ verOk e u v = false) :
    verW l = .tuple #[.string (bs []), .string (bs []), .string (bs []), .bool false] := by
  have : verS l = none := by
    unfold verS
    rw [if_neg h1, hE]
    simp only [hR]
    split
    · rfl
    · rename_i hn
      rw [if_neg (by simp [h.resolve_left hn])]
  simp [verW, this]
theorem verW_good {l e r u v : List UInt8} (h1 : ¬ (l.length = 0 ∨ 48 < l.length)) (hE : cutE l = (e, r)) (hR : cutR r = (u, v)) (h0 : ¬ (0 ≤ lastB r 45 ∧ v = [])) (h : verOk e u v = true) :
    verW l = .tuple #[.string (bs e), .string (bs u), .string (bs v), .bool true] := by
  have : verS l = some (e, u, v) := by
    unfold verS
    rw [if_neg h1, hE]
    simp only [hR]
    rw [if_neg h0, if_pos h]
  simp [verW, this]
theorem indexByte_no {l : List UInt8} {c : UInt8} (h : ∀ j, j < l.length → l[j]? ≠ some c) : Lib.indexByte l c = -1 := by
  have h1 := indexByte_mem l c
  have : c ∉ l := fun hm => by
    obtain ⟨j, hj⟩ := List.getElem?_of_mem hm
    exact h j (List.getElem?_eq_some_iff.1 hj).1 hj
  have h2 : ¬ 0 ≤ Lib.indexByte l c := fun h => this (h1.2.1 h)
  omega
theorem indexByte_at {l : List UInt8} {c : UInt8} {i : Nat} (h : l[i]? = some c) (hn : ∀ j, j < i → l[j]? ≠ some c) : Lib.indexByte l c = i := by
  induction l generalizing i with
  | nil => simp at h
  | cons x l ih =>
    simp only [Lib.indexByte]
    cases i with
    | zero => simp at h; simp [h]
    | succ i =>
      have hx : x ≠ c := fun e => hn 0 (by omega) (by simp [e])
      have := ih (i := i) (by simpa using h) (fun j hj => by have := hn (j + 1) (by omega); simpa using this)
      rw [this]
      simp [hx]
theorem takeWhile_of {p : UInt8 → Bool} {l : List UInt8} {k : Nat} (h : (l.take k).all p = true) (hn : ∀ c, l[k]? = some c → p c = false) (hk : k ≤ l.length) : l.takeWhile p = l.take k ∧ l.dropWhile p = l.drop k := by
  induction l generalizing k with
  | nil => simp
  | cons x l ih =>
    cases k with
    | zero => have := hn x (by simp); simp [this]
    | succ k =>
      simp only [List.take_succ_cons, List.all_cons, Bool.and_eq_true] at h
      have := ih (k := k) h.2 (fun c hc => hn c (by simpa using hc)) (by simp at hk; omega)
      simp [h.1, this]
theorem all_step {p : UInt8 → Bool} {l : List UInt8} {k : Nat} {c : UInt8} (hc : l[k]? = some c) (h : (l.take k).all p = true) (hx : p c = true) : (l.take (k + 1)).all p = true := by
  obtain ⟨hk, rfl⟩ := List.getElem?_eq_some_iff.1 hc
  rw [List.take_succ_eq_append_getElem hk, List.all_append, h]
  simp [hx]
theorem all_fail {p : UInt8 → Bool} {l : List UInt8} {k : Nat} {c : UInt8} (hc : l[k]? = some c) (hx : p c = false) : l.all p = false := by
  obtain ⟨hk, rfl⟩ := List.getElem?_eq_some_iff.1 hc
  rw [List.all_eq_false]
  exact ⟨l[k], List.getElem_mem hk, by rw [hx]; exact Bool.false_ne_true⟩
/-- digits at the beginning without noughts ahead; what is behind -/
def digitsS (l : List UInt8) : List UInt8 × List UInt8 := ((l.takeWhile digB).dropWhile (· == 48), l.dropWhile digB)
def cmpB (a b : List UInt8) : Int := if Op.bytesLess a b then -1 else if a = b then 0 else 1
end Go.Proofs.YtcbomomlojhghaaDoor
