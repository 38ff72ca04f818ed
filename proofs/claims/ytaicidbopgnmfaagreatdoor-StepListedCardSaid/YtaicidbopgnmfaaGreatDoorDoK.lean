/- Law 22's awake; the law StepDoes. -/
import Derived.Test.YtaicidbopgnmfaaGreatDoorDg
import Derived.Test.YtaicidbopgnmfaaGreatDoorSth
import Derived.Test.YtaicidbopgnmfaaGreatDoorLg
import Derived.Test.YtaicidbopgnmfaaGreatDoorEz
namespace Go.Proofs.YtaicidbopgnmfaaGreatDoor
set_option linter.unusedSimpArgs false
set_option linter.unusedVariables false
open Go.RowKit
/-- a slice over a block that is known whole -/
theorem slc_blk {α : Type} {w : World} {g t k z n : Nat} {cs : Array Value} {R : List Value → α → Prop} {l : List α} (css : List (List Value)) (hB : Blk w g t cs) (hl : css.length = l.length) (hn : n = l.length)
    (hR : ∀ (i : Nat) (cs : List Value) (x : α), css[i]? = some cs → l[i]? = some x → R cs x ∧ cs.length = k) (hcs : cs.toList = css.flatten) (hz : l.length * z ≤ 140737488351232) (hm : l.length ≤ 1000) (hk : k ≤ 1000) : Slc w k z R (some ⟨g, 0, none⟩) n l := by
  have hlen : css.flatten.length = l.length * k := by
    have h1 := own_lens hl hR
    rw [List.length_flatten, ← hl]
    clear hl hn hR hcs hz hm hB
    induction css with
    | nil => simp
    | cons c css ih =>
      have h2 := h1 c (List.mem_cons_self ..)
      have h3 := ih (fun x hx => h1 x (List.mem_cons_of_mem _ hx))
      simp only [List.map_cons, List.sum_cons, List.length_cons, Nat.succ_mul]
      omega
  have hO : Own w 0 t k R (.slice (some ⟨g, 0, none⟩) l.length l.length) l := ⟨css, hl, hR, hlen, .inr ⟨g, l.length, cs, rfl, Nat.zero_le _, hB, Nat.le_refl _, by unfold maxLen; omega, by
    have : cs.size = cs.toList.length := by simp
    rw [this, hcs, hlen], by rw [hcs, ← hlen, List.take_length]⟩⟩
  obtain ⟨A, c, h1, h2⟩ := hO.slc hz
  injection h1 with h1 h3 h4
  subst h1 h4 hn
  exact h2
theorem blk_new3b (w : World) (o o' : Obj) (t : TypeId) (cs : Array Value) : Blk (((w.alloc o).alloc o').alloc (.cells cs t)) (w.heap.size + 1 + 1) t cs := by
  have := Blk.new ((w.alloc o).alloc o') t cs
  simpa using this
def wkA : Ent := ⟨⟨[97, 97], [49], [], [[⟨[98, 98], 0, []⟩]], [], [], [], [], false⟩, true, false⟩
def wkB : Ent := ⟨⟨[98, 98], [49], [], [], [], [], [], [], false⟩, true, false⟩
theorem short_le {l : List UInt8} (h : l.length ≤ 1000) : short l := by unfold short; omega
theorem wk_ents {W : World} {g g2 g3 : Nat} (hB1 : Blk W g 72 #[.string (bs [98, 98]), .int .i64 0, .string (bs [])]) (hB2 : Blk W g2 79 #[.slice (some ⟨g, 0, none⟩) 1 1])
    (hB3 : Blk W g3 45 #[.string (bs [97, 97]), .string (bs [49]), .slice none 0 0, .slice (some ⟨g2, 0, none⟩) 1 1, .slice none 0 0, .slice none 0 0, .slice none 0 0, .slice none 0 0, .bool false, .bool true, .bool false,
      .string (bs [98, 98]), .string (bs [49]), .slice none 0 0, .slice none 0 0, .slice none 0 0, .slice none 0 0, .slice none 0 0, .slice none 0 0, .bool false, .bool true, .bool false]) : Ents W (some ⟨g3, 0, none⟩) 2 [wkA, wkB] := by
  have hA : Atms W (some ⟨g, 0, none⟩) 1 [⟨[98, 98], 0, []⟩] := slc_blk [[.string (bs [98, 98]), .int .i64 0, .string (bs [])]] hB1 rfl rfl (fun i cs x h1 h2 => by
    rcases i with _ | i
    · simp at h1 h2
      subst h1 h2
      exact ⟨⟨rfl, short_le (by decide), short_le (by decide)⟩, rfl⟩
    · simp at h1) rfl (by decide) (by decide) (by decide)
  have hC : Clss W (some ⟨g2, 0, none⟩) 1 [[⟨[98, 98], 0, []⟩]] := slc_blk [[.slice (some ⟨g, 0, none⟩) 1 1]] hB2 rfl rfl (fun i cs x h1 h2 => by
    rcases i with _ | i
    · simp at h1 h2
      subst h1 h2
      exact ⟨⟨_, _, rfl, hA⟩, rfl⟩
    · simp at h1) rfl (by decide) (by decide) (by decide)
  exact slc_blk [encE ⟨none, some ⟨g2, 0, none⟩, none, none, none, none, 0, 1, 0, 0, 0, 0⟩ wkA, encE ⟨none, none, none, none, none, none, 0, 0, 0, 0, 0, 0⟩ wkB] hB3 rfl rfl (fun i cs x h1 h2 => by
    rcases i with _ | _ | i
    · simp at h1 h2
      subst h1 h2
      exact ⟨⟨_, rfl, short_le (by decide), short_le (by decide), Slc.nil_ (Nat.zero_le _), hC, Slc.nil_ (Nat.zero_le _), Slc.nil_ (Nat.zero_le _), Slc.nil_ (Nat.zero_le _), Slc.nil_ (Nat.zero_le _)⟩, rfl⟩
    · simp at h1 h2
      subst h1 h2
      exact ⟨⟨_, rfl, short_le (by decide), short_le (by decide), Slc.nil_ (Nat.zero_le _), Slc.nil_ (Nat.zero_le _), Slc.nil_ (Nat.zero_le _), Slc.nil_ (Nat.zero_le _), Slc.nil_ (Nat.zero_le _), Slc.nil_ (Nat.zero_le _)⟩, rfl⟩
    · simp at h1) rfl (by decide) (by decide) (by decide)
theorem wk_few : ∀ x ∈ [wkA, wkB], fewD x.pkg := fun x hx => by
  simp only [List.mem_cons, List.not_mem_nil, or_false] at hx
  rcases hx with rfl | rfl <;> (unfold fewD fewOE; decide)
theorem wk_rm : doS [wkA, wkB] ⟨2, [98, 98], []⟩ [] = ([], 9) := by decide +kernel
theorem wk_off : doS [wkA, wkB] ⟨1, [97, 97], []⟩ [] = ([{ wkA with conf := false }, wkB], 0) := by decide +kernel
set_option maxRecDepth 100000 in
set_option maxHeartbeats 1000000 in
theorem awake22_any (w : World) : Calls Tryz.prog 17 #[] w fun e w' => e = .returned (.bool true) ∧ Below w.heap.size w w' := by
  go_enter Tryz.func17, Tryz.ntmps17
  go_wp2_with fail
  generalize hW : World.alloc (World.alloc (World.alloc w _) _) _ = W
  have HE := Lib.hid (show Ents W (some ⟨w.heap.size + 1 + 1, 0, none⟩) 2 [wkA, wkB] from hW ▸ wk_ents (((blk_new1 w 72 _).alloc _).alloc _) ((blk_new2 w _ 79 _).alloc _) (blk_new3b w _ _ 45 _))
  have HB := Lib.hid (show Below w.heap.size w W from hW ▸ below_alloc (below_alloc (below_alloc (Below.refl _ _) _) _) _)
  clear hW
  have HQ := Lib.hid (do_any [wkA, wkB] _ 2 2 [98, 98] [] [] none 0 W HE.out (Slc.nil_ (Nat.zero_le _)) wk_few (fun p hp => by cases hp))
  refine HQ.out.mono ?_
  rintro e w1 ⟨B1, d1, rfl, he1, hb1⟩
  rw [wk_rm]
  have HE1 := Lib.hid (HE.out.kept (Kept.of_below hb1))
  have HB1 := Lib.hid (below_next HB.out hb1)
  clear he1 hb1 HQ
  go_wp2_with fail
  have HQ := Lib.hid (do_any [wkA, wkB] _ 2 1 [97, 97] [] [] none 0 w1 HE1.out (Slc.nil_ (Nat.zero_le _)) wk_few (fun p hp => by cases hp))
  refine HQ.out.mono ?_
  rintro e w2 ⟨B2, d2, rfl, he2, hb2⟩
  rw [wk_off] at he2 ⊢
  obtain ⟨x, b, o, r, hx, hA, hr, e0, e1, e2, e3, e4, e5, e6, e7, e8, e9, e10⟩ := he2.at_ (i := 0) (by simp) (Kept.refl _)
  obtain rfl : { wkA with conf := false } = x := by simpa using hx
  subst hA
  have HB2 := Lib.hid (below_next HB1.out hb2)
  simp only [Nat.zero_mul, Nat.add_zero] at e9
  have e9' : w2.cell? ⟨b, o + 9, none⟩ = some (.bool false) := e9
  clear hx he2 hb2 HQ hr e0 e1 e2 e3 e4 e5 e6 e7 e8 e9 e10
  go_wp2_with fail
  go_ret
  exact ⟨rfl, HB2.out⟩
end Go.Proofs.YtaicidbopgnmfaaGreatDoor
