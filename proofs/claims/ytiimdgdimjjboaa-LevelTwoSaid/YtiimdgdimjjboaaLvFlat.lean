/-
  A row of data: its cells, one of them, or one of the data, written.
-/
import Derived.Test.YtiimdgdimjjboaaLvFill
import Derived.Test.YtiimdgdimjjboaaHau
set_option linter.unusedVariables false
set_option linter.unusedSimpArgs false
set_option linter.unusedSectionVars false
set_option linter.unnecessarySimpa false
namespace Go.Sg
open Go Go.RowKit Go.Proofs.Ytiimdgdimjjboaa
theorem flat8_cons (x : List Int) (u : List (List Int)) : flatV wv (x :: u) = wv x ++ flatV wv u := rfl
theorem flat8_len : ∀ (u : List (List Int)), (∀ x ∈ u, x.length = 8) → (flatV wv u).length = u.length * 8
  | [], _ => rfl
  | x :: u, h => by
    rw [flat8_cons, List.length_append, flat8_len u (fun y hy => h y (List.mem_cons_of_mem _ hy)), wv_len, h x List.mem_cons_self, List.length_cons]
    omega
theorem flat8_at : ∀ (u : List (List Int)) (i j : Nat), (∀ x ∈ u, x.length = 8) → i < u.length → j < 8 → (flatV wv u)[i * 8 + j]? = some (.int .u64 ((u.getD i zero8).getD j 0))
  | [], i, j, _, hi, _ => by simp at hi
  | x :: u, 0, j, h, _, hj => by
    have hx := h x List.mem_cons_self
    rw [flat8_cons, List.getElem?_append_left (by rw [wv_len]; omega)]
    unfold wv
    rw [Nat.zero_mul, Nat.zero_add, List.getElem?_map, List.getElem?_eq_getElem (by omega)]
    simp [List.getD_eq_getElem?_getD, List.getElem?_eq_getElem (show j < x.length by omega)]
  | x :: u, i + 1, j, h, hi, hj => by
    have hx := h x List.mem_cons_self
    rw [flat8_cons, List.getElem?_append_right (by rw [wv_len]; omega), wv_len, hx, show (i + 1) * 8 + j - 8 = i * 8 + j by omega]
    exact flat8_at u i j (fun y hy => h y (List.mem_cons_of_mem _ hy)) (by simpa using hi) hj
theorem flat8_set (v : Int) : ∀ (u : List (List Int)) (i j : Nat), (∀ x ∈ u, x.length = 8) → i < u.length → j < 8 → (flatV wv u).set (i * 8 + j) (.int .u64 v) = flatV wv (u.set i ((u.getD i zero8).set j v))
  | [], i, j, _, hi, _ => by simp at hi
  | x :: u, 0, j, h, _, hj => by
    have hx := h x List.mem_cons_self
    rw [flat8_cons, Nat.zero_mul, Nat.zero_add, List.set_append_left _ _ (by rw [wv_len]; omega), wvL_set]
    rfl
  | x :: u, i + 1, j, h, hi, hj => by
    have hx := h x List.mem_cons_self
    rw [flat8_cons, List.set_append_right _ _ (by rw [wv_len]; omega), wv_len, hx, show (i + 1) * 8 + j - 8 = i * 8 + j by omega, flat8_set v u i j (fun y hy => h y (List.mem_cons_of_mem _ hy)) (by simpa using hi) hj]
    rfl
theorem flat8_row (y : List Int) (hy : y.length = 8) : ∀ (u : List (List Int)) (i : Nat), (∀ x ∈ u, x.length = 8) → i < u.length → splice (flatV wv u) (i * 8) (wv y) = flatV wv (u.set i y)
  | [], i, _, hi => by simp at hi
  | x :: u, 0, h, _ => by
    have hx := h x List.mem_cons_self
    have hl : (wv x).length = 8 := by rw [wv_len, hx]
    unfold splice
    rw [flat8_cons, Nat.zero_mul, List.take_zero, List.nil_append, Nat.zero_add, wv_len, hy, ← hl, List.drop_left]
    rfl
  | x :: u, i + 1, h, hi => by
    have hx := h x List.mem_cons_self
    have hl : (wv x).length = 8 := by rw [wv_len, hx]
    have ih := flat8_row y hy u i (fun y hy => h y (List.mem_cons_of_mem _ hy)) (by simpa using hi)
    unfold splice at ih ⊢
    rw [flat8_cons, List.set_cons_succ, flat8_cons, ← ih, show (i + 1) * 8 = (wv x).length + i * 8 by rw [hl]; omega, List.take_length_add_append, Nat.add_assoc, List.drop_length_add_append]
    simp
theorem made_u : madeCells zd8 (8 * 8) = (flatV wv (List.replicate 8 zero8)).toArray := by kernel_rfl
theorem blk_there {w : World} {b : Nat} {cs : Array Value} {t : TypeId} (h : Blk w b cs t) (o n : Nat) (hn : o + n ≤ cs.size) : w.there b o n := by
  intro j hj
  rw [h.cell, h.free]
  exact ⟨by simp; omega, rfl⟩
def bools (l : List Bool) : List Value := l.map Value.bool
theorem bools_at {l : List Bool} {i : Nat} (hi : i < l.length) : (bools l).toArray[i]? = some (.bool (l.getD i false)) := by
  unfold bools
  rw [List.getElem?_toArray, List.getElem?_map, List.getD_eq_getElem?_getD, List.getElem?_eq_getElem hi]
  rfl
theorem bools_set (l : List Bool) (i : Nat) (x : Bool) : (bools l).set i (.bool x) = bools (l.set i x) := by
  unfold bools
  rw [List.map_set]
theorem made_bools (w : World) (n : Nat) : madeCells #[.bool false] n = (bools (List.replicate n false)).toArray := by
  rw [made_eq w]
  unfold bools
  rw [List.map_replicate]
/-- the rows of LevelKeeps -/
def KpD (G1 G2 G3 : Nat) : Nat → Prop := fun k => (k = G1 ∨ k = G2) ∨ k = G3
def KpX (t1 t2 t3 : TypeId) (G1 G2 G3 : Nat) (a : List Int) (b : List Bool) (u : List (List Int)) : World → Prop := fun w => (Blk w G1 (ints a).toArray t1 ∧ Blk w G2 (bools b).toArray t2) ∧ Blk w G3 (flatV wv u).toArray t3
theorem keeps_kp (t1 t2 t3 : TypeId) (G1 G2 G3 : Nat) (a : List Int) (b : List Bool) (u : List (List Int)) : Keeps (KpD G1 G2 G3) (KpX t1 t2 t3 G1 G2 G3 a b u) :=
  keeps_and (keeps_and (keeps_blk G1 _ _) (keeps_blk G2 _ _)) (keeps_blk G3 _ _)
section
variable {t1 t2 t3 : TypeId} {G1 G2 G3 : Nat} {a : List Int} {b : List Bool} {u : List (List Int)} {w : World}
theorem kp_set1 (h : KpX t1 t2 t3 G1 G2 G3 a b u w) (h2 : G1 ≠ G2) (h3 : G1 ≠ G3) (i : Nat) (x : Int) : KpX t1 t2 t3 G1 G2 G3 (a.set i x) b u (w.setCell ⟨G1, i, none⟩ (.int .i64 x)) := by
  refine ⟨⟨?_, h.1.2.other _ _ (fun e => h2 e.symm)⟩, h.2.other _ _ (fun e => h3 e.symm)⟩
  have := h.1.1.set i (.int .i64 x)
  rwa [List.setIfInBounds_toArray, intsL_set] at this
theorem kp_set2 (h : KpX t1 t2 t3 G1 G2 G3 a b u w) (h2 : G1 ≠ G2) (h3 : G2 ≠ G3) (i : Nat) (x : Bool) : KpX t1 t2 t3 G1 G2 G3 a (b.set i x) u (w.setCell ⟨G2, i, none⟩ (.bool x)) := by
  refine ⟨⟨h.1.1.other _ _ h2, ?_⟩, h.2.other _ _ (fun e => h3 e.symm)⟩
  have := h.1.2.set i (.bool x)
  rwa [List.setIfInBounds_toArray, bools_set] at this
theorem kp_set3 (h : KpX t1 t2 t3 G1 G2 G3 a b u w) (h2 : G1 ≠ G3) (h3 : G2 ≠ G3) (hu : ∀ x ∈ u, x.length = 8) {i j : Nat} (hi : i < u.length) (hj : j < 8) (x : Int) : KpX t1 t2 t3 G1 G2 G3 a b (u.set i ((u.getD i zero8).set j x)) (w.setCell ⟨G3, i * 8 + j, none⟩ (.int .u64 x)) := by
  refine ⟨⟨h.1.1.other _ _ h2, h.1.2.other _ _ h3⟩, ?_⟩
  have := h.2.set (i * 8 + j) (.int .u64 x)
  rwa [List.setIfInBounds_toArray, flat8_set x u i j hu hi hj] at this
theorem kp_row3 (h : KpX t1 t2 t3 G1 G2 G3 a b u w) (h2 : G1 ≠ G3) (h3 : G2 ≠ G3) (hu : ∀ x ∈ u, x.length = 8) {i : Nat} (hi : i < u.length) {y : List Int} (hy : y.length = 8) : KpX t1 t2 t3 G1 G2 G3 a b (u.set i y) (w.setCells G3 (i * 8) (wv y)) := by
  have hn : ∀ k, k ≠ G3 → (w.setCells G3 (i * 8) (wv y)).heap[k]? = w.heap[k]? := fun k hk => heap_setCells_neL _ _ w k hk
  refine ⟨⟨Blk_keep h.1.1 (hn G1 h2), Blk_keep h.1.2 (hn G2 h3)⟩, ?_⟩
  have := Blk.splice (wv y) (i * 8) (flatV wv u) h.2 (by rw [flat8_len u hu, wv_len, hy]; omega)
  rwa [flat8_row y hy u i hu hi] at this
theorem setL_len {u : List (List Int)} (h : ∀ x ∈ u, x.length = 8) {i : Nat} {y : List Int} (hy : y.length = 8) : ∀ x ∈ u.set i y, x.length = 8 := fun x hx => by
  rcases List.mem_or_eq_of_mem_set hx with h1 | h1
  · exact h x h1
  · rw [h1]; exact hy
end
end Go.Sg
