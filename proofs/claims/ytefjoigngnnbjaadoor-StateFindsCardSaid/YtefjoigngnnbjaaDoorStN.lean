/- The contract of law 11's awake. -/
import Derived.Test.YtefjoigngnnbjaaDoorStM
namespace Go.Proofs.YtefjoigngnnbjaaDoor
set_option linter.unusedSimpArgs false
set_option linter.unusedVariables false
open Go.RowKit

theorem blk_new4 (w : World) (o o' o2 : Obj) (t : TypeId) (cs : Array Value) : Blk ((((w.alloc o).alloc o').alloc o2).alloc (.cells cs t)) (w.heap.size + 3) t cs := by
  have := Blk.new (((w.alloc o).alloc o').alloc o2) t cs
  simpa using this
/-- a slice over a block that is known whole -/
theorem slc_of_blk {α : Type} {w : World} {g t k z n : Nat} {cs : Array Value} {R : List Value → α → Prop} {l : List α} (css : List (List Value)) (hB : Blk w g t cs) (hl : css.length = l.length) (hn : n = l.length)
    (hR : ∀ (i : Nat) (cs : List Value) (x : α), css[i]? = some cs → l[i]? = some x → R cs x ∧ cs.length = k) (hcs : cs.toList = css.flatten) (hz : l.length * z ≤ 140737488351232) (hm : l.length ≤ 1000) (hk : k ≤ 1000) : Slc w k z R (some ⟨g, 0, none⟩) n l := by
  have hlen : css.flatten.length = l.length * k := by
    have h1 := own_lens hl hR
    rw [List.length_flatten, ← hl]
    clear hl hn hR hcs hz hm hB
    induction css with
    | nil => simp
    | cons c css ih =>
      have h2 := h1 c (List.mem_cons_self ..)
      have h3 := ih (fun x hx => h1 x (List.mem_cons_of_mem _ hx))
      simp only [List.map_cons, List.sum_cons, List.length_cons, Nat.succ_mul]
      omega
  have hO : Own w 0 t k R (.slice (some ⟨g, 0, none⟩) l.length l.length) l := ⟨css, hl, hR, hlen, .inr ⟨g, l.length, cs, rfl, Nat.zero_le _, hB, Nat.le_refl _, by unfold maxLen; omega, by
    have : cs.size = cs.toList.length := by simp
    rw [this, hcs, hlen], by rw [hcs, ← hlen, List.take_length]⟩⟩
  obtain ⟨A, c, h1, h2⟩ := hO.slc hz
  injection h1 with h1 h3 h4
  subst h1 h4 hn
  exact h2
def awA : Ent := ⟨⟨[97, 97], [49], [], [[⟨[98, 98], 0, []⟩]], [], [], [], [], false⟩, true, false⟩
def awB : Ent := ⟨⟨[98, 98], [49], [], [], [], [], [], [], false⟩, false, false⟩
theorem aw_few : fewE [awA, awB] := ⟨by decide, fun x hx => by
  simp only [List.mem_cons, List.not_mem_nil, or_false] at hx
  rcases hx with rfl | rfl <;> decide⟩
theorem aw_wrong : wrongS [awA, awB] = [⟨1, [97, 97], false, 0, []⟩] := by decide +kernel
def noRaw : Raw := ⟨none, none, none, none, none, none, 0, 0, 0, 0, 0, 0⟩
theorem short_of {l : List UInt8} (h : l.length ≤ 1000) : short l := by unfold short; omega
theorem aw_ents (w : World) : Ents ((((w.alloc (.cells #[.string (bs [98, 98]), .int .i64 0, .string (bs [])] 64)).alloc (.cells #[.slice (some ⟨w.heap.size, 0, none⟩) 1 1] 48)).alloc
    (.cells #[.string (bs [97, 97]), .string (bs [49]), .slice none 0 0, .slice (some ⟨w.heap.size + 1, 0, none⟩) 1 1, .slice none 0 0, .slice none 0 0, .slice none 0 0, .slice none 0 0, .bool false] 28)).alloc
    (.cells #[.string (bs [97, 97]), .string (bs [49]), .slice none 0 0, .slice (some ⟨w.heap.size + 1, 0, none⟩) 1 1, .slice none 0 0, .slice none 0 0, .slice none 0 0, .slice none 0 0, .bool false, .bool true, .bool false,
      .string (bs [98, 98]), .string (bs [49]), .slice none 0 0, .slice none 0 0, .slice none 0 0, .slice none 0 0, .slice none 0 0, .slice none 0 0, .bool false, .bool false, .bool false] 50)) (some ⟨w.heap.size + 3, 0, none⟩) 2 [awA, awB] := by
  have hB1 := (((Blk.new w 64 #[.string (bs [98, 98]), .int .i64 0, .string (bs [])]).alloc (.cells #[.slice (some ⟨w.heap.size, 0, none⟩) 1 1] 48)).alloc (.cells #[.string (bs [97, 97]), .string (bs [49]), .slice none 0 0, .slice (some ⟨w.heap.size + 1, 0, none⟩) 1 1, .slice none 0 0, .slice none 0 0, .slice none 0 0, .slice none 0 0, .bool false] 28)).alloc
    (.cells #[.string (bs [97, 97]), .string (bs [49]), .slice none 0 0, .slice (some ⟨w.heap.size + 1, 0, none⟩) 1 1, .slice none 0 0, .slice none 0 0, .slice none 0 0, .slice none 0 0, .bool false, .bool true, .bool false,
      .string (bs [98, 98]), .string (bs [49]), .slice none 0 0, .slice none 0 0, .slice none 0 0, .slice none 0 0, .slice none 0 0, .slice none 0 0, .bool false, .bool false, .bool false] 50)
  have hB2 := ((blk_new2 w (.cells #[.string (bs [98, 98]), .int .i64 0, .string (bs [])] 64) 48 #[.slice (some ⟨w.heap.size, 0, none⟩) 1 1]).alloc (.cells #[.string (bs [97, 97]), .string (bs [49]), .slice none 0 0, .slice (some ⟨w.heap.size + 1, 0, none⟩) 1 1, .slice none 0 0, .slice none 0 0, .slice none 0 0, .slice none 0 0, .bool false] 28)).alloc
    (.cells #[.string (bs [97, 97]), .string (bs [49]), .slice none 0 0, .slice (some ⟨w.heap.size + 1, 0, none⟩) 1 1, .slice none 0 0, .slice none 0 0, .slice none 0 0, .slice none 0 0, .bool false, .bool true, .bool false,
      .string (bs [98, 98]), .string (bs [49]), .slice none 0 0, .slice none 0 0, .slice none 0 0, .slice none 0 0, .slice none 0 0, .slice none 0 0, .bool false, .bool false, .bool false] 50)
  have hB3 := blk_new4 w (.cells #[.string (bs [98, 98]), .int .i64 0, .string (bs [])] 64) (.cells #[.slice (some ⟨w.heap.size, 0, none⟩) 1 1] 48) (.cells #[.string (bs [97, 97]), .string (bs [49]), .slice none 0 0, .slice (some ⟨w.heap.size + 1, 0, none⟩) 1 1, .slice none 0 0, .slice none 0 0, .slice none 0 0, .slice none 0 0, .bool false] 28) 50
    #[.string (bs [97, 97]), .string (bs [49]), .slice none 0 0, .slice (some ⟨w.heap.size + 1, 0, none⟩) 1 1, .slice none 0 0, .slice none 0 0, .slice none 0 0, .slice none 0 0, .bool false, .bool true, .bool false,
      .string (bs [98, 98]), .string (bs [49]), .slice none 0 0, .slice none 0 0, .slice none 0 0, .slice none 0 0, .slice none 0 0, .slice none 0 0, .bool false, .bool false, .bool false]
  generalize ((((w.alloc _).alloc _).alloc _).alloc _) = W at hB1 hB2 hB3 ⊢
  have hA : Atms W (some ⟨w.heap.size, 0, none⟩) 1 [⟨[98, 98], 0, []⟩] := slc_of_blk [[.string (bs [98, 98]), .int .i64 0, .string (bs [])]] hB1 rfl rfl (fun i cs x h1 h2 => by
    rcases i with _ | i
    · simp at h1 h2
      subst h1 h2
      exact ⟨⟨rfl, short_of (by decide), short_of (by decide)⟩, rfl⟩
    · simp at h1) rfl (by decide) (by decide) (by decide)
  have hC : Clss W (some ⟨w.heap.size + 1, 0, none⟩) 1 [[⟨[98, 98], 0, []⟩]] := slc_of_blk [[.slice (some ⟨w.heap.size, 0, none⟩) 1 1]] hB2 rfl rfl (fun i cs x h1 h2 => by
    rcases i with _ | i
    · simp at h1 h2
      subst h1 h2
      exact ⟨⟨_, _, rfl, hA⟩, rfl⟩
    · simp at h1) rfl (by decide) (by decide) (by decide)
  exact slc_of_blk [encE ⟨none, some ⟨w.heap.size + 1, 0, none⟩, none, none, none, none, 0, 1, 0, 0, 0, 0⟩ awA, encE noRaw awB] hB3 rfl rfl (fun i cs x h1 h2 => by
    rcases i with _ | _ | i
    · simp at h1 h2
      subst h1 h2
      exact ⟨⟨_, rfl, short_of (by decide), short_of (by decide), Slc.nil_ (Nat.zero_le _), hC, Slc.nil_ (Nat.zero_le _), Slc.nil_ (Nat.zero_le _), Slc.nil_ (Nat.zero_le _), Slc.nil_ (Nat.zero_le _)⟩, rfl⟩
    · simp at h1 h2
      subst h1 h2
      exact ⟨⟨_, rfl, short_of (by decide), short_of (by decide), Slc.nil_ (Nat.zero_le _), Slc.nil_ (Nat.zero_le _), Slc.nil_ (Nat.zero_le _), Slc.nil_ (Nat.zero_le _), Slc.nil_ (Nat.zero_le _), Slc.nil_ (Nat.zero_le _)⟩, rfl⟩
    · simp at h1) rfl (by decide) (by decide) (by decide)
set_option maxRecDepth 100000 in
theorem awake_any (w : World) : Calls Tryd.prog 15 #[] w fun e w' => e = .returned (.bool true) ∧ Below w.heap.size w w' := by
  go_enter Tryd.func15, Tryd.ntmps15
  go_wp2_with fail
  refine (wrong_any _ 2 [awA, awB] _ (aw_ents w) aw_few).mono ?_
  rintro e w1 ⟨A, c, rfl, hv, hb⟩
  rw [aw_wrong] at hv ⊢
  obtain ⟨x, b, o, hx, rfl, e0, e1, e2, e3, e4⟩ := hv.at_ (i := 0) (by simp) (Kept.refl _)
  obtain rfl : ⟨1, [97, 97], false, 0, []⟩ = x := by simpa using hx
  simp only [Nat.zero_mul, Nat.add_zero] at e0 e1 e2 e3 e4
  have hq : ∀ W, (binOp .eql 68 (.agg #[.int .i64 1, .string (bs [97, 97]), .bool false, .int .i64 0, .string (bs [])]) (.agg #[.int .i64 1, .string { data := #[97, 97] }, .bool false, .int .i64 0, .string { data := #[] }])).run Tryd.prog W = .ok (.bool true) W :=
    fun W => vio_eql ⟨1, [97, 97], false, 0, []⟩ ⟨1, [97, 97], false, 0, []⟩ W
  clear hx hv
  go_wp2
  go_ret
  exact ⟨rfl, by (repeat (first | assumption | exact Below.refl _ _ | refine below_next ?_ (by assumption) | refine below_drewN ?_ _ | refine below_alloc ?_ _))⟩
end Go.Proofs.YtefjoigngnnbjaaDoor
