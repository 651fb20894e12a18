/-
  The head of chapter 16's laws.
-/
import Derived.Test.YtmnnfhplgepiaaaPolW
import Derived.Test.YtmnnfhplgepiaaaPolP
import Derived.Test.YtmnnfhplgepiaaaSame16
namespace Go.Sg
open Go Go.RowKit
theorem slK_lit (w : World) (l : List It) (e : TypeId) (h : l.length ≤ maxLen) : SlK itV (w.alloc (.cells (flatV itV l).toArray e)) (.slice (some ⟨w.heap.size, 0, none⟩) l.length l.length) l :=
  ⟨_, _, rfl, Nat.le_refl _, h, fun _ => ⟨w.heap.size, 0, rfl, (Blk.new w _ e).lt, (Blk.new w _ e).range⟩⟩
theorem below_alloc {w w1 : World} {o : Obj} (h : Below (w.alloc o).heap.size (w.alloc o) w1) : Below w.heap.size w w1 := by
  have h1 : Below w.heap.size w (w.alloc o) := (Below.refl _ _).alloc (Nat.le_refl _) _
  exact h1.trans (h.mono h1.size)
theorem sl1_lit (w : World) (zs : List Int) (e : TypeId) (h : zs.length ≤ maxLen) : Sl1 (w.alloc (.cells (zs.map (Value.int .i64)).toArray e)) (.slice (some ⟨w.heap.size, 0, none⟩) zs.length zs.length) (zs.map (Value.int .i64)) := by
  have := Sl1.of_owns (owns_lit (w := w) (base := 0) (e := e) (zs.map (Value.int .i64)).toArray (by omega) (by simpa using h))
  simpa using this
end Go.Sg
namespace Go.Proofs.Ytmnnfhplgepiaaa
open Go Go.RowKit Go.Sg
theorem shown16_a : victI [(0, 5, false), (1, 3, false), (2, 9, true)] 2 2 = [2] := by
  have hg : goI [(0, 5, false), (1, 3, false), (2, 9, true)] 2 2 = 1 := by decide +kernel
  unfold victI
  rw [hg, ← vict_of (S := [(2, 9, true), (1, 3, false), (0, 5, false)]) (by simp [leI, ltI, keyI]) (by decide) 1]
  rfl
theorem shown16_b : victI [(0, 5, false), (1, 3, false), (2, 9, false), (3, 4, false)] 2 2 = [1, 3] := by
  have hg : goI [(0, 5, false), (1, 3, false), (2, 9, false), (3, 4, false)] 2 2 = 2 := by decide +kernel
  unfold victI
  rw [hg, ← vict_of (S := [(1, 3, false), (3, 4, false), (0, 5, false), (2, 9, false)]) (by simp [leI, ltI, keyI]) (by decide) 2]
  rfl
set_option maxRecDepth 100000 in
theorem shown16 (w : World) : Calls Try.prog 9 #[] w fun e w' => e = .returned (.bool true) ∧ Below w.heap.size w w' := by
  go_enter Try.func9, Try.ntmps9
  go_wp2_with fail
  refine (victims_all [(0, 5, false), (1, 3, false), (2, 9, true)] (by decide) (by intro x hx; simp at hx; rcases hx with rfl | rfl | rfl <;> exact ⟨by decide, by decide⟩) _ 2 2 _ (slK_lit w [(0, 5, false), (1, 3, false), (2, 9, true)] 28 (by decide))).mono ?_
  rw [shown16_a]
  rintro e w1 ⟨va, rfl, hva, hb1⟩
  have HB1 : Hid (Below w.heap.size w w1) := Lib.hid (below_alloc hb1)
  have HVA := Lib.hid hva
  clear hb1 hva
  go_wp2_with fail
  refine (victims_all [(0, 5, false), (1, 3, false), (2, 9, false), (3, 4, false)] (by decide) (by intro x hx; simp at hx; rcases hx with rfl | rfl | rfl | rfl <;> exact ⟨by decide, by decide⟩) _ 2 2 _ (slK_lit w1 [(0, 5, false), (1, 3, false), (2, 9, false), (3, 4, false)] 28 (by decide))).mono ?_
  rw [shown16_b]
  rintro e w2 ⟨vb, rfl, hvb, hb2⟩
  have HB2 : Hid (Below w1.heap.size w1 w2) := Lib.hid (below_alloc hb2)
  have HVB := Lib.hid hvb
  clear hb2 hvb
  have HVA2 := Lib.hid (HVA.out.below (HB2.out))
  clear HVA
  have H0 := Lib.hid (HB1.out.trans (HB2.out.mono HB1.out.size))
  clear HB1 HB2
  go_wp2_with fail
  refine (same16_any va _ [2] [2] _ (HVA2.out.below ((Below.refl _ _).alloc (Nat.le_refl _) _)) (sl1_lit w2 [2] 3 (by decide))).mono ?_
  rintro e w3 ⟨rfl, hb3⟩
  have HB3 : Hid (Below w2.heap.size w2 w3) := Lib.hid (below_alloc hb3)
  have HVB3 := Lib.hid (HVB.out.below HB3.out)
  clear hb3 HVB HVA2
  have d1 : decide (([2] : List Int) = [2]) = true := by decide
  rw [d1]
  go_wp2_with fail
  refine (same16_any vb _ [1, 3] [1, 3] _ (HVB3.out.below ((Below.refl _ _).alloc (Nat.le_refl _) _)) (sl1_lit w3 [1, 3] 3 (by decide))).mono ?_
  rintro e w4 ⟨rfl, hb4⟩
  have HB4 : Hid (Below w3.heap.size w3 w4) := Lib.hid (below_alloc hb4)
  clear hb4 HVB3
  have d2 : decide (([1, 3] : List Int) = [1, 3]) = true := by decide
  rw [d2]
  go_wp2
  go_ret
  exact ⟨rfl, H0.out.trans ((HB3.out.trans (HB4.out.mono HB3.out.size)).mono H0.out.size)⟩
end Go.Proofs.Ytmnnfhplgepiaaa
