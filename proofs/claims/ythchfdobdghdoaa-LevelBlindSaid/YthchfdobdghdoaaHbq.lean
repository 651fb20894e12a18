/-
  Joined texts: LvFlat, LvTwo, LvTwoW, LevEv, LevEvW, LvBlind.
-/
import Derived.Test.YthchfdobdghdoaaHbp
import Derived.Test.YthchfdobdghdoaaHaw
import Derived.Test.YthchfdobdghdoaaHbc
import Derived.Test.YthchfdobdghdoaaHbk
import Derived.Test.YthchfdobdghdoaaHbd
import Derived.Deep.DeepCutAuto
import Derived.Deep.RegionHeld3
import Derived.Test.YthchfdobdghdoaaHat
set_option linter.unusedVariables false
set_option linter.unusedSimpArgs false
set_option linter.unusedSectionVars false
set_option linter.unnecessarySimpa false
section

/-
  A row of data: its cells, one of them, or one of the data, written.
-/
namespace Go.Sg
open Go Go.RowKit Go.Proofs.Ythchfdobdghdoaa
theorem flat8_cons (x : List Int) (u : List (List Int)) : flatV wv (x :: u) = wv x ++ flatV wv u := rfl
theorem flat8_len : ∀ (u : List (List Int)), (∀ x ∈ u, x.length = 8) → (flatV wv u).length = u.length * 8
  | [], _ => rfl
  | x :: u, h => by
    rw [flat8_cons, List.length_append, flat8_len u (fun y hy => h y (List.mem_cons_of_mem _ hy)), wv_len, h x List.mem_cons_self, List.length_cons]
    omega
theorem flat8_at : ∀ (u : List (List Int)) (i j : Nat), (∀ x ∈ u, x.length = 8) → i < u.length → j < 8 → (flatV wv u)[i * 8 + j]? = some (.int .u64 ((u.getD i zero8).getD j 0))
  | [], i, j, _, hi, _ => by simp at hi
  | x :: u, 0, j, h, _, hj => by
    have hx := h x List.mem_cons_self
    rw [flat8_cons, List.getElem?_append_left (by rw [wv_len]; omega)]
    unfold wv
    rw [Nat.zero_mul, Nat.zero_add, List.getElem?_map, List.getElem?_eq_getElem (by omega)]
    simp [List.getD_eq_getElem?_getD, List.getElem?_eq_getElem (show j < x.length by omega)]
  | x :: u, i + 1, j, h, hi, hj => by
    have hx := h x List.mem_cons_self
    rw [flat8_cons, List.getElem?_append_right (by rw [wv_len]; omega), wv_len, hx, show (i + 1) * 8 + j - 8 = i * 8 + j by omega]
    exact flat8_at u i j (fun y hy => h y (List.mem_cons_of_mem _ hy)) (by simpa using hi) hj
theorem flat8_set (v : Int) : ∀ (u : List (List Int)) (i j : Nat), (∀ x ∈ u, x.length = 8) → i < u.length → j < 8 → (flatV wv u).set (i * 8 + j) (.int .u64 v) = flatV wv (u.set i ((u.getD i zero8).set j v))
  | [], i, j, _, hi, _ => by simp at hi
  | x :: u, 0, j, h, _, hj => by
    have hx := h x List.mem_cons_self
    rw [flat8_cons, Nat.zero_mul, Nat.zero_add, List.set_append_left _ _ (by rw [wv_len]; omega), wvL_set]
    rfl
  | x :: u, i + 1, j, h, hi, hj => by
    have hx := h x List.mem_cons_self
    rw [flat8_cons, List.set_append_right _ _ (by rw [wv_len]; omega), wv_len, hx, show (i + 1) * 8 + j - 8 = i * 8 + j by omega, flat8_set v u i j (fun y hy => h y (List.mem_cons_of_mem _ hy)) (by simpa using hi) hj]
    rfl
theorem flat8_row (y : List Int) (hy : y.length = 8) : ∀ (u : List (List Int)) (i : Nat), (∀ x ∈ u, x.length = 8) → i < u.length → splice (flatV wv u) (i * 8) (wv y) = flatV wv (u.set i y)
  | [], i, _, hi => by simp at hi
  | x :: u, 0, h, _ => by
    have hx := h x List.mem_cons_self
    have hl : (wv x).length = 8 := by rw [wv_len, hx]
    unfold splice
    rw [flat8_cons, Nat.zero_mul, List.take_zero, List.nil_append, Nat.zero_add, wv_len, hy, ← hl, List.drop_left]
    rfl
  | x :: u, i + 1, h, hi => by
    have hx := h x List.mem_cons_self
    have hl : (wv x).length = 8 := by rw [wv_len, hx]
    have ih := flat8_row y hy u i (fun y hy => h y (List.mem_cons_of_mem _ hy)) (by simpa using hi)
    unfold splice at ih ⊢
    rw [flat8_cons, List.set_cons_succ, flat8_cons, ← ih, show (i + 1) * 8 = (wv x).length + i * 8 by rw [hl]; omega, List.take_length_add_append, Nat.add_assoc, List.drop_length_add_append]
    simp
theorem made_u : madeCells zd8 (8 * 8) = (flatV wv (List.replicate 8 zero8)).toArray := by kernel_rfl
theorem blk_there {w : World} {b : Nat} {cs : Array Value} {t : TypeId} (h : Blk w b cs t) (o n : Nat) (hn : o + n ≤ cs.size) : w.there b o n := by
  intro j hj
  rw [h.cell, h.free]
  exact ⟨by simp; omega, rfl⟩
def bools (l : List Bool) : List Value := l.map Value.bool
theorem bools_at {l : List Bool} {i : Nat} (hi : i < l.length) : (bools l).toArray[i]? = some (.bool (l.getD i false)) := by
  unfold bools
  rw [List.getElem?_toArray, List.getElem?_map, List.getD_eq_getElem?_getD, List.getElem?_eq_getElem hi]
  rfl
theorem bools_set (l : List Bool) (i : Nat) (x : Bool) : (bools l).set i (.bool x) = bools (l.set i x) := by
  unfold bools
  rw [List.map_set]
theorem made_bools (w : World) (n : Nat) : madeCells #[.bool false] n = (bools (List.replicate n false)).toArray := by
  rw [made_eq w]
  unfold bools
  rw [List.map_replicate]
/-- the rows of LevelKeeps -/
def KpD (G1 G2 G3 : Nat) : Nat → Prop := fun k => (k = G1 ∨ k = G2) ∨ k = G3
def KpX (t1 t2 t3 : TypeId) (G1 G2 G3 : Nat) (a : List Int) (b : List Bool) (u : List (List Int)) : World → Prop := fun w => (Blk w G1 (ints a).toArray t1 ∧ Blk w G2 (bools b).toArray t2) ∧ Blk w G3 (flatV wv u).toArray t3
theorem keeps_kp (t1 t2 t3 : TypeId) (G1 G2 G3 : Nat) (a : List Int) (b : List Bool) (u : List (List Int)) : Keeps (KpD G1 G2 G3) (KpX t1 t2 t3 G1 G2 G3 a b u) :=
  keeps_and (keeps_and (keeps_blk G1 _ _) (keeps_blk G2 _ _)) (keeps_blk G3 _ _)
section
variable {t1 t2 t3 : TypeId} {G1 G2 G3 : Nat} {a : List Int} {b : List Bool} {u : List (List Int)} {w : World}
theorem kp_set1 (h : KpX t1 t2 t3 G1 G2 G3 a b u w) (h2 : G1 ≠ G2) (h3 : G1 ≠ G3) (i : Nat) (x : Int) : KpX t1 t2 t3 G1 G2 G3 (a.set i x) b u (w.setCell ⟨G1, i, none⟩ (.int .i64 x)) := by
  refine ⟨⟨?_, h.1.2.other _ _ (fun e => h2 e.symm)⟩, h.2.other _ _ (fun e => h3 e.symm)⟩
  have := h.1.1.set i (.int .i64 x)
  rwa [List.setIfInBounds_toArray, intsL_set] at this
theorem kp_set2 (h : KpX t1 t2 t3 G1 G2 G3 a b u w) (h2 : G1 ≠ G2) (h3 : G2 ≠ G3) (i : Nat) (x : Bool) : KpX t1 t2 t3 G1 G2 G3 a (b.set i x) u (w.setCell ⟨G2, i, none⟩ (.bool x)) := by
  refine ⟨⟨h.1.1.other _ _ h2, ?_⟩, h.2.other _ _ (fun e => h3 e.symm)⟩
  have := h.1.2.set i (.bool x)
  rwa [List.setIfInBounds_toArray, bools_set] at this
theorem kp_set3 (h : KpX t1 t2 t3 G1 G2 G3 a b u w) (h2 : G1 ≠ G3) (h3 : G2 ≠ G3) (hu : ∀ x ∈ u, x.length = 8) {i j : Nat} (hi : i < u.length) (hj : j < 8) (x : Int) : KpX t1 t2 t3 G1 G2 G3 a b (u.set i ((u.getD i zero8).set j x)) (w.setCell ⟨G3, i * 8 + j, none⟩ (.int .u64 x)) := by
  refine ⟨⟨h.1.1.other _ _ h2, h.1.2.other _ _ h3⟩, ?_⟩
  have := h.2.set (i * 8 + j) (.int .u64 x)
  rwa [List.setIfInBounds_toArray, flat8_set x u i j hu hi hj] at this
theorem kp_row3 (h : KpX t1 t2 t3 G1 G2 G3 a b u w) (h2 : G1 ≠ G3) (h3 : G2 ≠ G3) (hu : ∀ x ∈ u, x.length = 8) {i : Nat} (hi : i < u.length) {y : List Int} (hy : y.length = 8) : KpX t1 t2 t3 G1 G2 G3 a b (u.set i y) (w.setCells G3 (i * 8) (wv y)) := by
  have hn : ∀ k, k ≠ G3 → (w.setCells G3 (i * 8) (wv y)).heap[k]? = w.heap[k]? := fun k hk => heap_setCells_neL _ _ w k hk
  refine ⟨⟨Blk_keep h.1.1 (hn G1 h2), Blk_keep h.1.2 (hn G2 h3)⟩, ?_⟩
  have := Blk.splice (wv y) (i * 8) (flatV wv u) h.2 (by rw [flat8_len u hu, wv_len, hy]; omega)
  rwa [flat8_row y hy u i hu hi] at this
theorem setL_len {u : List (List Int)} (h : ∀ x ∈ u, x.length = 8) {i : Nat} {y : List Int} (hy : y.length = 8) : ∀ x ∈ u.set i y, x.length = 8 := fun x hx => by
  rcases List.mem_or_eq_of_mem_set hx with h1 | h1
  · exact h x h1
  · rw [h1]; exact hy
end
end Go.Sg
end
section

/-
  LevelTwo, in plain Lean: two levels of one memory, and one alone.
-/
namespace Go.Sg
open Go Go.RowKit Go.Proofs.Ythchfdobdghdoaa
def shS (t : Int) (s : Sp) : Sp := (s.1 + t, s.2)
theorem shS_inj {t : Int} {a b : Sp} (h : shS t a = shS t b) : a = b := by
  unfold shS at h
  simp only [Prod.mk.injEq] at h
  exact Prod.ext (by omega) h.2
theorem spL_sh (first t : Int) (c : Lc) (lf : Int) : spL (first + t) c lf = (spL first c lf).map (shS t) := by
  have e : first + t + 1 = first + 1 + t := by omega
  unfold spL spTree spSt spRow
  rw [List.map_append, List.map_flatMap, List.map_map, e]
  congr 1
  refine congrArg (fun f => List.flatMap f (pathL c.1 lf)) (funext fun nd => ?_)
  rw [List.map_map]
  rfl
theorem putsM_fault : ∀ (l : List (Sp × List Int)) (M : Mm), (putsM M l).fault = M.fault := by
  intro l
  induction l with
  | nil => intro M; rfl
  | cons y l ih => intro M; exact (ih _).trans rfl
theorem accM_fault (M : Mm) (first : Int) (c : Lc) (fr : Int) (T : Nat → List Int) : (accM M first c fr T).fault = M.fault := by
  unfold accM bakM
  show (putsM _ _).fault = M.fault
  rw [putsM_fault]
  rfl
/-- two levels that look alike, the one t regions behind the other -/
def SimM (t first : Int) (c : Lc) (M M' : Mm) : Prop := ∀ lf, hasB c.1 lf = true → ∀ s ∈ spL first c lf, M'.read (s.1 + t) s.2 = M.read s.1 s.2
theorem sim_cells {t first : Int} {c : Lc} {M M' : Mm} (h : SimM t first c M M') {fr : Int} (hfr : hasB c.1 fr = true) : accC M' (first + t) c fr = accC M first c fr := by
  unfold accC
  rw [spL_sh, List.map_map]
  exact List.map_congr_left fun s hs => h fr hfr s hs
structure SimL (t first : Int) (c : Lc) (S S' : Ls) : Prop where
  m : SimM t first c S.M S'.M
  over : S'.over = S.over
  ids : S'.ids = S.ids
theorem sim_tell {t first : Int} {c : Lc} {S S' : Ls} (hr : lcRight c = true) (h : SimL t first c S S') (op id at' fr lf : Int) : S'.tell (first + t) c op id at' fr lf = S.tell first c op id at' fr lf := by
  unfold Ls.tell
  by_cases hb : badA c op id at' fr lf = true
  · rw [if_pos hb, if_pos hb]
  · rw [if_neg hb, if_neg hb]
    obtain ⟨q1, q2, q3, q4, q5⟩ := badA_no hr (by simpa using hb)
    unfold accO
    rw [sim_cells h.m q3]
theorem sim_step {t first : Int} {c : Lc} {S S' : Ls} {op id at' fr lf : Int} {d : List Int} (hr : lcRight c = true) (h : SimL t first c S S') (hf : 0 ≤ first) (hf' : 0 ≤ first + t) (hok : LvOk c first S.M) (hok' : LvOk c (first + t) S'.M) : SimL t first c (S.acc first c op id at' d fr lf) (S'.acc (first + t) c op id at' d fr lf) := by
  unfold Ls.acc
  by_cases hb : badA c op id at' fr lf = true
  · rw [if_pos hb, if_pos hb]; exact h
  · rw [if_neg hb, if_neg hb]
    obtain ⟨q1, q2, q3, q4, q5⟩ := badA_no hr (by simpa using hb)
    have hT : accT S'.M (first + t) c fr lf id op at' d = accT S.M first c fr lf id op at' d := by
      unfold accT accO
      rw [sim_cells h.m q3]
    rw [hT]
    generalize accT S.M first c fr lf id op at' d = T
    refine ⟨fun lf' hlf s hs => ?_, by simp only [h.over], by simp only [h.ids]⟩
    have hsp := fun s hs => (hok.sp fr q3 s hs).1
    have hsp' := fun s hs => (hok'.sp fr q3 s hs).1
    by_cases hin : s ∈ spL first c fr
    · obtain ⟨i, hi, rfl⟩ := List.getElem_of_mem hin
      have hi' : i < (spL (first + t) c fr).length := by rw [spL_sh, List.length_map]; exact hi
      have e1 := accM_at (T := T) hr q3 hf hok.tab hsp hi
      have e2 := accM_at (T := T) hr q3 hf' hok'.tab hsp' hi'
      have e3 : (spL (first + t) c fr)[i] = shS t (spL first c fr)[i] := by simp [spL_sh]
      rw [e3] at e2
      exact e2.trans e1.symm
    · have hreg := spL_reg s hs
      have hin' : shS t s ∉ spL (first + t) c fr := by
        rw [spL_sh]
        intro hm
        obtain ⟨s2, h2, h3⟩ := List.mem_map.1 hm
        rw [shS_inj h3] at h2
        exact hin h2
      have e1 := accM_off (T := T) hf hok.tab hsp hin (by omega)
      have e2 := accM_off (T := T) hf' hok'.tab hsp' hin' (by unfold shS; simp only; omega)
      exact e2.trans ((h.m lf' hlf s hs).trans e1.symm)
/-- a level elsewhere -/
theorem far_read {c d : Lc} {f g fr : Int} {M : Mm} {T : Nat → List Int} (hne : f + 2 < g ∨ g + 2 < f) (hg : 0 ≤ g) (hok : LvOk d g M) (hfr : hasB d.1 fr = true) {lf : Int} {s : Sp} (hs : s ∈ spL f c lf) : (accM M g d fr T).read s.1 s.2 = M.read s.1 s.2 := by
  have h1 := spL_reg s hs
  refine accM_off hg hok.tab (fun s hs => (hok.sp fr hfr s hs).1) (fun h => ?_) (by omega)
  have h2 := spL_reg s h
  omega
theorem far_ok {c d : Lc} {f g : Int} {S : Ls} {op id at' fr lf : Int} {x : List Int} (hr : lcRight d = true) (hne : f + 2 < g ∨ g + 2 < f) (hg : 0 ≤ g) (hok : LvOk d g S.M) (h : LvOk c f S.M) : LvOk c f (S.acc g d op id at' x fr lf).M := by
  unfold Ls.acc
  by_cases hb : badA d op id at' fr lf = true
  · rw [if_pos hb]; exact h
  · rw [if_neg hb]
    obtain ⟨q1, q2, q3, q4, q5⟩ := badA_no hr (by simpa using hb)
    exact ⟨fun lf' hlf s hs => ⟨by rw [accM_has hok.tab]; exact (h.sp lf' hlf s hs).1, by rw [far_read hne hg hok q3 hs]; exact (h.sp lf' hlf s hs).2⟩, by rw [accM_size hok.tab]; exact h.tab⟩
theorem far_sim {c d : Lc} {t f g : Int} {S : Ls} {M' : Mm} {op id at' fr lf : Int} {x : List Int} (hr : lcRight d = true) (hne : f + 2 < g ∨ g + 2 < f) (hg : 0 ≤ g) (hok : LvOk d g S.M) (h : SimM t f c S.M M') : SimM t f c (S.acc g d op id at' x fr lf).M M' := by
  unfold Ls.acc
  by_cases hb : badA d op id at' fr lf = true
  · rw [if_pos hb]; exact h
  · rw [if_neg hb]
    obtain ⟨q1, q2, q3, q4, q5⟩ := badA_no hr (by simpa using hb)
    exact fun lf' hlf s hs => (h lf' hlf s hs).trans (far_read hne hg hok q3 hs).symm
theorem acc_fault (S : Ls) (first : Int) (c : Lc) (op id at' fr lf : Int) (d : List Int) : (S.acc first c op id at' d fr lf).M.fault = S.M.fault := by
  unfold Ls.acc
  split
  · rfl
  · exact accM_fault _ _ _ _ _
structure TwoI (c d : Lc) (M : Mm) (ox : Bool) (ix : List Int) (oy : Bool) (iy : List Int) (Z : Ls) (k : Nat) : Prop where
  x : LsFit c 0 ⟨M, ox, ix⟩ (2 * k)
  y : LsFit d 3 ⟨M, oy, iy⟩ (2 * k)
  z : LsFit c 1 Z (2 * k)
  sim : SimL 1 0 c ⟨M, ox, ix⟩ Z
  fault : M.fault = false
theorem fit_more {c : Lc} {f : Int} {S : Ls} {k m : Nat} (h : LsFit c f S k) (hm : k ≤ m) : LsFit c f S m := ⟨h.ok, Nat.le_trans h.ids hm, Nat.le_trans h.evs (Nat.mul_le_mul_right _ hm)⟩
theorem two_step {c d : Lc} (hC : CfgOk c) (hD : CfgOk d) {M : Mm} {ox : Bool} {ix : List Int} {oy : Bool} {iy : List Int} {Z : Ls} {k : Nat} (h : TwoI c d M ox ix oy iy Z k) {op id at' fr lf : Int} {e e2 : List Int} (hid : 0 ≤ id) (he : e.length = 8 ∧ ∀ x ∈ e, Word x) (he2 : e2.length = 8 ∧ ∀ x ∈ e2, Word x)
    {X2 Y2 Z2 : Ls} (hX : X2 = Ls.acc ⟨M, ox, ix⟩ 0 c op id at' e fr lf) (hZ : Z2 = Z.acc 1 c op id at' e fr lf) (hY : Y2 = Ls.acc ⟨X2.M, oy, iy⟩ 3 d op id at' e2 lf fr) :
    Z.tell 1 c op id at' fr lf = Ls.tell ⟨M, ox, ix⟩ 0 c op id at' fr lf ∧ Z2.over = X2.over ∧ Z2.ids = X2.ids ∧ LsFit d 3 ⟨X2.M, oy, iy⟩ (2 * k + 1) ∧ TwoI c d Y2.M X2.over X2.ids Y2.over Y2.ids Z2 (k + 1) := by
  have t1 := sim_tell hC.right h.sim op id at' fr lf
  have s1 := sim_step (op := op) (id := id) (at' := at') (fr := fr) (lf := lf) (d := e) hC.right h.sim (by decide) (by decide) h.x.ok h.z.ok
  have fx := fit_step (op := op) (at' := at') (fr := fr) (lf := lf) hC.right (by decide) h.x hid he
  have fz := fit_step (op := op) (at' := at') (fr := fr) (lf := lf) hC.right (by decide) h.z hid he
  have y1 := far_ok (c := d) (d := c) (f := 3) (g := 0) (S := ⟨M, ox, ix⟩) (op := op) (id := id) (at' := at') (fr := fr) (lf := lf) (x := e) hC.right (.inr (by decide)) (by decide) h.x.ok h.y.ok
  have ft := acc_fault ⟨M, ox, ix⟩ 0 c op id at' fr lf e
  rw [← hX] at s1 fx y1 ft
  rw [show (0 : Int) + 1 = 1 by decide, ← hZ] at s1
  rw [← hZ] at fz
  have fy : LsFit d 3 ⟨X2.M, oy, iy⟩ (2 * k + 1) := ⟨y1, Nat.le_trans h.y.ids (Nat.le_succ _), fx.evs⟩
  have fy2 := fit_step (op := op) (id := id) (at' := at') (fr := lf) (lf := fr) hD.right (by decide) fy hid he2
  have x1 := far_ok (c := c) (d := d) (f := 0) (g := 3) (S := ⟨X2.M, oy, iy⟩) (op := op) (id := id) (at' := at') (fr := lf) (lf := fr) (x := e2) hD.right (.inl (by decide)) (by decide) y1 fx.ok
  have m1 := far_sim (c := c) (d := d) (f := 0) (g := 3) (S := ⟨X2.M, oy, iy⟩) (op := op) (id := id) (at' := at') (fr := lf) (lf := fr) (x := e2) hD.right (.inl (by decide)) (by decide) y1 s1.m
  have ft2 := acc_fault ⟨X2.M, oy, iy⟩ 3 d op id at' lf fr e2
  rw [← hY] at fy2 x1 m1 ft2
  refine ⟨t1, s1.over, s1.ids, fy, ⟨⟨x1, Nat.le_trans fx.ids (by omega), fy2.evs⟩, fy2, fit_more fz (by omega), ⟨m1, s1.over, s1.ids⟩, ?_⟩⟩
  rw [ft2]
  exact ft.trans h.fault
/-- the regions of two levels -/
def zs2 (c d : Lc) : List Int := [(szL c).1, (szL c).2.1, (szL c).2.2, (szL d).1, (szL d).2.1, (szL d).2.2]
theorem zs2_ok {c d : Lc} (hC : CfgOk c) (hD : CfgOk d) : Mm.newOk (zs2 c d) = true := by
  have h1 := hC.new
  have h2 := hD.new
  unfold zsL Mm.newOk at h1 h2
  unfold zs2 Mm.newOk
  simp only [List.any_cons, List.any_nil, Bool.or_false, Bool.and_eq_true, Bool.not_eq_true', Bool.or_eq_false_iff] at h1 h2 ⊢
  obtain ⟨_, _, a1, a2, a3⟩ := h1
  obtain ⟨_, _, c1, c2, c3⟩ := h2
  exact ⟨⟨rfl, rfl⟩, a1, a2, a3, c1, c2, c3⟩
theorem fresh_lv {c : Lc} (hr : lcRight c = true) {zs : List Int} {f : Nat} (h0 : zs[f]? = some (szL c).1) (h1 : zs[f + 1]? = some (szL c).2.1) (h2 : zs[f + 2]? = some (szL c).2.2) : LvOk c (f : Int) (Mm.fresh zs) ∧ newOk (Mm.fresh zs) (f : Int) c = true := by
  have hb := lcRight_bd hr
  have hz : szL c = (c.2.1 * nodesI c.1, c.2.2, lcTab c) := by unfold szL; rw [if_pos hr]
  rw [hz] at h0 h1 h2
  obtain ⟨q0, p0⟩ := List.getElem?_eq_some_iff.1 h0
  obtain ⟨q1, p1⟩ := List.getElem?_eq_some_iff.1 h1
  obtain ⟨q2, p2⟩ := List.getElem?_eq_some_iff.1 h2
  have s1 : (Mm.fresh zs).size (f : Int) = (c.2.1 * nodesI c.1).toNat := by rw [fresh_size zs f q0, p0]
  have s2 : (Mm.fresh zs).size ((f : Int) + 1) = c.2.2.toNat := by
    have := fresh_size zs (f + 1) q1
    rw [p1] at this
    exact this
  have s3 : (Mm.fresh zs).size ((f : Int) + 2) = (lcTab c).toNat := by
    have := fresh_size zs (f + 2) q2
    rw [p2] at this
    exact this
  have hn0 : 0 ≤ c.2.1 * nodesI c.1 := by
    refine Int.mul_nonneg (by omega) ?_
    have hR := (lcRight_iff hr).1
    obtain ⟨D, hD, e⟩ := rightB_of hR
    have h3 := pow_mono' 0 D (by omega)
    have h4 : (2 : Int) ^ 0 = 1 := by decide
    unfold nodesI
    rw [if_pos hR]
    omega
  have ht := (lcTab_bd c).1
  refine ⟨⟨fun lf hlf s hs => ⟨?_, by rw [fresh_read]; exact zeros_ok _⟩, by rw [s3]; exact Nat.le_refl _⟩, ?_⟩
  · have h3 := spL_sub hr hlf s hs
    unfold allS at h3
    rcases List.mem_append.1 h3 with h4 | h4
    · obtain ⟨a, ha, rfl⟩ := List.mem_map.1 h4
      refine Mm.has_lt ?_
      rw [s1]
      exact List.mem_range.1 ha
    · obtain ⟨a, ha, rfl⟩ := spSt_mem.1 h4
      refine Mm.has_lt ?_
      rw [s2]
      exact ha
  · unfold newOk
    rw [hr, hz, s1, s2, s3]
    simp only [Bool.true_and]
    rw [decide_eq_true (by omega), decide_eq_true (by omega), decide_eq_true (by omega)]
    rfl
theorem two_start {c d : Lc} (hC : CfgOk c) (hD : CfgOk d) : TwoI c d (Mm.fresh (zs2 c d)) false [] false [] (mkL c) 0 ∧ newOk (Mm.fresh (zs2 c d)) 0 c = true ∧ newOk (Mm.fresh (zs2 c d)) 3 d = true := by
  have h1 := fresh_lv (zs := zs2 c d) (f := 0) hC.right rfl rfl rfl
  have h2 := fresh_lv (zs := zs2 c d) (f := 3) hD.right rfl rfl rfl
  exact ⟨⟨⟨h1.1, Nat.le_refl _, Nat.le_refl _⟩, ⟨h2.1, Nat.le_refl _, Nat.le_refl _⟩, fit_start hC.right, ⟨fun lf _ s _ => by
    show (Mm.fresh _).read _ _ = (Mm.fresh _).read _ _
    rw [fresh_read, fresh_read], rfl, rfl⟩, rfl⟩, h1.2, h2.2⟩
end Go.Sg
end
section

/-
  Two levels of one memory and one of another, and what lies beside them.
-/
namespace Go.Proofs.Ythchfdobdghdoaa
open Go Go.RowKit Go.Sg
variable {w0 w w' : World} {p p2 q ib : Nat} {c d : Lc} {first : Int} {M N : Mm} {D : Nat → Prop} {X : World → Prop}
theorem PairX.lt2 {T T' : Nat} (h : PairX T T' w0 w p p2 M N D X) : ∀ k, D k → k < w.heap.size := by
  obtain ⟨G, h1, _, _⟩ := h
  exact fun k hk => h1.ltD k (.inl hk)
/-- a call of a level's method, beside another memory -/
theorem PairX.lv {T : Nat} {P : Program} {f : FuncId} {args : Array Value} {R : Ending → Prop} {o : Bool} {i : List Int} {S' : Ls} (hK : Keeps D X)
    (h : PairX 67 T w0 w p p2 M N (fun k => D k ∨ (k = q ∨ k = ib)) (fun w => X w ∧ LvX p q ib c first o i w)) (hoff : ∀ k, D k → k ≠ q ∧ k ≠ ib) (hne : q ≠ ib) (hge : w0.heap.size ≤ q ∧ w0.heap.size ≤ ib)
    (hc : ∀ (D' : Nat → Prop) (X' : World → Prop), Keeps D' X' → LvR w0 w p q ib c first ⟨M, o, i⟩ D' X' → Calls P f args w fun e w' => R e ∧ LvR w0 w' p q ib c first S' D' X') :
    Calls P f args w fun e w' => R e ∧ PairX 67 T w0 w' p p2 S'.M N (fun k => D k ∨ (k = q ∨ k = ib)) (fun w => X w ∧ LvX p q ib c first S'.over S'.ids w) := by
  obtain ⟨G, h1, hG, hDG⟩ := h
  have lv : LvR w0 w p q ib c first ⟨M, o, i⟩ (fun k => D k ∨ G k) (fun w => X w ∧ MemX T p2 N G w) := by
    refine ⟨h1.less (fun k hk => ?_) (fun hx => ⟨⟨hx.1.1, hx.2⟩, hx.1.2⟩), fun k hk => ?_, hne, hge⟩
    · rcases hk with (hk | hk) | hk
      · exact .inl (.inl hk)
      · exact .inr hk
      · exact .inl (.inr hk)
    · rcases hk with hk | hk
      · exact hoff k hk
      · exact ⟨fun e => hDG q (.inr (.inl rfl)) (e ▸ hk), fun e => hDG ib (.inr (.inr rfl)) (e ▸ hk)⟩
  refine (hc _ _ (keeps_and hK (keeps_mem _ _ _ _)) lv).mono fun e w' ⟨he, h2⟩ => ⟨he, G, h2.one.less (fun k hk => ?_) (fun hx => ⟨⟨hx.1.1, hx.2⟩, hx.1.2⟩), hG, hDG⟩
  rcases hk with (hk | hk) | hk
  · exact .inl (.inl hk)
  · exact .inr hk
  · exact .inl (.inr hk)
/-- two memories, the one made ahead of the other -/
theorem PairX.join {T T' : Nat} {D2 : Nat → Prop} {X2 : World → Prop} (hK : Keeps D X) (h : OneX T w0 w p M D X) (h2 : OneX T' w w' p2 N D2 X2) (hD2 : ∀ k, D2 k → w.heap.size ≤ k) : PairX T T' w0 w' p p2 M N (fun k => D k ∨ D2 k) (fun w => X w ∧ X2 w) := by
  have hlt := h.ltD
  obtain ⟨G, m, g1, g2, g3, g4, g5⟩ := h2
  have h3 := h.ret hK (E := fun k => D2 k ∨ G k) (Y := fun w => X2 w ∧ MemX T' p2 N G w) g2 (fun k hk => ?_) ⟨g5, m⟩
  · refine ⟨G, h3.less (fun k hk => ?_) (fun hx => ⟨⟨hx.1, hx.2.1⟩, hx.2.2⟩), fun k hk => Nat.le_trans h.old.size (g1 k hk), fun k hk hg => ?_⟩
    · rcases hk with (hk | hk) | hk
      · exact .inl hk
      · exact .inr (.inl hk)
      · exact .inr (.inr hk)
    · rcases hk with hk | hk
      · have := hlt k hk
        have := g1 k hg
        omega
      · exact g3 k hk hg
  · rcases hk with hk | hk
    · exact ⟨hD2 k hk, g4 k hk⟩
    · exact ⟨g1 k hk, m.lt k hk⟩
/-- where the levels lie -/
structure TwP where
  p : Nat
  p2 : Nat
  qx : Nat
  ix : Nat
  qy : Nat
  iy : Nat
  qz : Nat
  iz : Nat
def TwD (P : TwP) : Nat → Prop := fun k => ((k = P.qx ∨ k = P.ix) ∨ (k = P.qy ∨ k = P.iy)) ∨ (k = P.qz ∨ k = P.iz)
structure TwN (P : TwP) (B : Nat) : Prop where
  x : P.qx ≠ P.ix
  y : P.qy ≠ P.iy
  z : P.qz ≠ P.iz
  xy : P.qx ≠ P.qy ∧ P.qx ≠ P.iy ∧ P.ix ≠ P.qy ∧ P.ix ≠ P.iy
  xz : P.qx ≠ P.qz ∧ P.qx ≠ P.iz ∧ P.ix ≠ P.qz ∧ P.ix ≠ P.iz
  yz : P.qy ≠ P.qz ∧ P.qy ≠ P.iz ∧ P.iy ≠ P.qz ∧ P.iy ≠ P.iz
  ge : B ≤ P.qx ∧ B ≤ P.ix ∧ B ≤ P.qy ∧ B ≤ P.iy ∧ B ≤ P.qz ∧ B ≤ P.iz
/-- what they hold -/
structure TwS where
  M : Mm
  ox : Bool
  jx : List Int
  oy : Bool
  jy : List Int
  Z : Ls
def TwX (P : TwP) (c d : Lc) (S : TwS) : World → Prop := fun w => (LvX P.p P.qx P.ix c 0 S.ox S.jx w ∧ LvX P.p P.qy P.iy d 3 S.oy S.jy w) ∧ LvX P.p2 P.qz P.iz c 1 S.Z.over S.Z.ids w
structure TwR (w0 w : World) (P : TwP) (c d : Lc) (S : TwS) (D : Nat → Prop) (X : World → Prop) : Prop where
  pair : PairX 67 67 w0 w P.p P.p2 S.M S.Z.M (fun k => D k ∨ TwD P k) (fun w => X w ∧ TwX P c d S w)
  off : ∀ k, D k → ¬ TwD P k
  n : TwN P w0.heap.size
theorem keeps_tw (P : TwP) (c d : Lc) (S : TwS) : Keeps (TwD P) (TwX P c d S) := keeps_and (keeps_and (keeps_lv _ _ _ _ _ _ _) (keeps_lv _ _ _ _ _ _ _)) (keeps_lv _ _ _ _ _ _ _)
variable {P : TwP} {S : TwS}
theorem TwR.x (h : TwR w0 w P c d S D X) : X w := h.pair.x.1
theorem TwR.old (h : TwR w0 w P c d S D X) : Below w0.heap.size w0 w := h.pair.old
theorem TwR.below (hK : Keeps D X) (h : TwR w0 w P c d S D X) (hb : Below w.heap.size w w') : TwR w0 w' P c d S D X := ⟨h.pair.below (keeps_and hK (keeps_tw _ _ _ _)) hb, h.off, h.n⟩
theorem TwR.less {E : Nat → Prop} {Y : World → Prop} (h : TwR w0 w P c d S D X) (hE : ∀ k, E k → D k) (hy : ∀ w, X w → Y w) : TwR w0 w P c d S E Y :=
  ⟨h.pair.less (fun k hk => hk.imp (hE k) id) (fun hx => ⟨hy _ hx.1, hx.2⟩), fun k hk => h.off k (hE k hk), h.n⟩
theorem TwR.lt (h : TwR w0 w P c d S D X) : ∀ k, D k ∨ TwD P k → k < w.heap.size := h.pair.lt2
theorem TwR.box (hK : Keeps D X) (h : TwR w0 w P c d S D X) (cs : Array Value) (t : TypeId) : TwR w0 (w.alloc (.cells cs t)) P c d S (fun k => D k ∨ k = w.heap.size) (fun w' => X w' ∧ Blk w' w.heap.size cs t) := by
  have hl := h.lt
  have hb := h.pair.box (keeps_and hK (keeps_tw _ _ _ _)) cs t
  refine ⟨hb.less (fun k hk => ?_) (fun hx => ⟨⟨hx.1.1, hx.2⟩, hx.1.2⟩), fun k hk ht => ?_, h.n⟩
  · rcases hk with (hk | hk) | hk
    · exact .inl (.inl hk)
    · exact .inr hk
    · exact .inl (.inr hk)
  · rcases hk with hk | hk
    · exact h.off k hk ht
    · have := hl k (.inr ht)
      omega
/-- a new box of data -/
structure TwB (w0 w : World) (P : TwP) (c d : Lc) (S : TwS) (D : Nat → Prop) (X : World → Prop) (b : Nat) : Prop where
  one : TwR w0 w P c d S (fun k => D k ∨ k = b) (fun w' => X w' ∧ Blk w' b zd8 41)
  keeps : Keeps D X
  ne : ∀ k, D k → k ≠ b
  ge : w0.heap.size ≤ b
theorem TwB.new (hK : Keeps D X) (h : TwR w0 w P c d S D X) : TwB w0 (w.alloc (.cells zd8 41)) P c d S D X w.heap.size :=
  ⟨h.box hK zd8 _, hK, fun k hk => Nat.ne_of_lt (h.lt k (.inl hk)), h.old.size⟩
theorem TwB.below {b : Nat} (h : TwB w0 w P c d S D X b) (hb : Below w.heap.size w w') : TwB w0 w' P c d S D X b :=
  ⟨h.one.below (keeps_and h.keeps (keeps_blk _ _ _)) hb, h.keeps, h.ne, h.ge⟩
theorem TwB.there {b : Nat} (h : TwB w0 w P c d S D X b) (vs : List Value) (hl : vs.length = 8) : w.there b 0 vs.length := by
  rw [hl]; exact h.one.x.2.there 8 (by decide)
theorem TwB.x {b : Nat} (h : TwB w0 w P c d S D X b) : X w := h.one.x.1
theorem TwB.old {b : Nat} (h : TwB w0 w P c d S D X b) : Below w0.heap.size w0 w := h.one.old
theorem TwB.call {b : Nat} {Q : Program} {f : FuncId} {args : Array Value} {R : Ending → Prop} {S' : TwS} (h : TwB w0 w P c d S D X b)
    (hc : ∀ (D' : Nat → Prop) (X' : World → Prop), Keeps D' X' → TwR w0 w P c d S D' X' → Calls Q f args w fun e w' => R e ∧ TwR w0 w' P c d S' D' X') :
    Calls Q f args w fun e w' => R e ∧ TwB w0 w' P c d S' D X b :=
  (hc _ _ (keeps_and h.keeps (keeps_blk _ _ _)) h.one).mono fun e w' ⟨he, hx⟩ => ⟨he, hx, h.keeps, h.ne, h.ge⟩
theorem TwB.fill {b : Nat} (h : TwB w0 w P c d S D X b) (vs : List Value) (hl : vs.length = 8) :
    TwR w0 (w.setCells b 0 vs) P c d S (fun k => D k ∨ k = b) (fun w' => X w' ∧ Blk w' b vs.toArray 41) := by
  have hoff := h.one.off b (.inr rfl)
  have hx := h.one.pair.x
  have hother : ∀ k, k ≠ b → (w.setCells b 0 vs).heap[k]? = w.heap[k]? := fun k hk => heap_setCells_neL vs 0 w k hk
  have hsz : w.heap.size ≤ (w.setCells b 0 vs).heap.size := by rw [size_setCells]; exact Nat.le_refl _
  refine ⟨h.one.pair.turn (fun k hk => hk) ((MFrame.refl _ _).setCells vs 0 (.inl ⟨.inl (.inr rfl), h.ge⟩)) ⟨⟨?_, ?_⟩, ?_⟩, h.one.off, h.one.n⟩
  · exact h.keeps w _ hsz (fun k hk => hother k (h.ne k hk)) hx.1.1
  · exact blk_all vs hx.1.2 (by rw [hl]; rfl)
  · exact keeps_tw P c d S w _ hsz (fun k hk => hother k (fun e => hoff (e ▸ hk))) hx.2
/-- the first level's accesses -/
theorem tw_x {Q : Program} {f : FuncId} {args : Array Value} {R : Ending → Prop} {S' : Ls} (hK : Keeps D X) (h : TwR w0 w P c d S D X)
    (hc : ∀ (D' : Nat → Prop) (X' : World → Prop), Keeps D' X' → LvR w0 w P.p P.qx P.ix c 0 ⟨S.M, S.ox, S.jx⟩ D' X' → Calls Q f args w fun e w' => R e ∧ LvR w0 w' P.p P.qx P.ix c 0 S' D' X') :
    Calls Q f args w fun e w' => R e ∧ TwR w0 w' P c d ⟨S'.M, S'.over, S'.ids, S.oy, S.jy, S.Z⟩ D X := by
  obtain ⟨hp, ho, hn⟩ := h
  have h1 := (hp.less (E := fun k => (D k ∨ ((k = P.qy ∨ k = P.iy) ∨ (k = P.qz ∨ k = P.iz))) ∨ (k = P.qx ∨ k = P.ix)) (Y := fun w => (X w ∧ (LvX P.p P.qy P.iy d 3 S.oy S.jy w ∧ LvX P.p2 P.qz P.iz c 1 S.Z.over S.Z.ids w)) ∧ LvX P.p P.qx P.ix c 0 S.ox S.jx w) (fun k hk => by
    rcases hk with (hk | hk | hk) | hk
    · exact .inl hk
    · exact .inr (.inl (.inr hk))
    · exact .inr (.inr hk)
    · exact .inr (.inl (.inl hk))) (fun hx => ⟨⟨hx.1, hx.2.1.2, hx.2.2⟩, hx.2.1.1⟩))
  refine (PairX.lv (keeps_and hK (keeps_and (keeps_lv _ _ _ _ _ _ _) (keeps_lv _ _ _ _ _ _ _))) h1 (fun k hk => ?_) hn.x ⟨hn.ge.1, hn.ge.2.1⟩ hc).mono fun e w' ⟨he, h2⟩ => ⟨he, ?_, ho, hn⟩
  · rcases hk with hk | (rfl | rfl) | (rfl | rfl)
    · exact ⟨fun e => ho k hk (by rw [e]; exact .inl (.inl (.inl rfl))), fun e => ho k hk (by rw [e]; exact .inl (.inl (.inr rfl)))⟩
    · exact ⟨hn.xy.1.symm, hn.xy.2.2.1.symm⟩
    · exact ⟨hn.xy.2.1.symm, hn.xy.2.2.2.symm⟩
    · exact ⟨hn.xz.1.symm, hn.xz.2.2.1.symm⟩
    · exact ⟨hn.xz.2.1.symm, hn.xz.2.2.2.symm⟩
  · refine h2.less (fun k hk => ?_) (fun hx => ⟨hx.1.1, ⟨hx.2, hx.1.2.1⟩, hx.1.2.2⟩)
    rcases hk with hk | (hk | hk) | hk
    · exact .inl (.inl hk)
    · exact .inr hk
    · exact .inl (.inr (.inl hk))
    · exact .inl (.inr (.inr hk))
/-- the second one's -/
theorem tw_y {Q : Program} {f : FuncId} {args : Array Value} {R : Ending → Prop} {S' : Ls} (hK : Keeps D X) (h : TwR w0 w P c d S D X)
    (hc : ∀ (D' : Nat → Prop) (X' : World → Prop), Keeps D' X' → LvR w0 w P.p P.qy P.iy d 3 ⟨S.M, S.oy, S.jy⟩ D' X' → Calls Q f args w fun e w' => R e ∧ LvR w0 w' P.p P.qy P.iy d 3 S' D' X') :
    Calls Q f args w fun e w' => R e ∧ TwR w0 w' P c d ⟨S'.M, S.ox, S.jx, S'.over, S'.ids, S.Z⟩ D X := by
  obtain ⟨hp, ho, hn⟩ := h
  have h1 := (hp.less (E := fun k => (D k ∨ ((k = P.qx ∨ k = P.ix) ∨ (k = P.qz ∨ k = P.iz))) ∨ (k = P.qy ∨ k = P.iy)) (Y := fun w => (X w ∧ (LvX P.p P.qx P.ix c 0 S.ox S.jx w ∧ LvX P.p2 P.qz P.iz c 1 S.Z.over S.Z.ids w)) ∧ LvX P.p P.qy P.iy d 3 S.oy S.jy w) (fun k hk => by
    rcases hk with (hk | hk | hk) | hk
    · exact .inl hk
    · exact .inr (.inl (.inl hk))
    · exact .inr (.inr hk)
    · exact .inr (.inl (.inr hk))) (fun hx => ⟨⟨hx.1, hx.2.1.1, hx.2.2⟩, hx.2.1.2⟩))
  refine (PairX.lv (keeps_and hK (keeps_and (keeps_lv _ _ _ _ _ _ _) (keeps_lv _ _ _ _ _ _ _))) h1 (fun k hk => ?_) hn.y ⟨hn.ge.2.2.1, hn.ge.2.2.2.1⟩ hc).mono fun e w' ⟨he, h2⟩ => ⟨he, ?_, ho, hn⟩
  · rcases hk with hk | (rfl | rfl) | (rfl | rfl)
    · exact ⟨fun e => ho k hk (by rw [e]; exact .inl (.inr (.inl rfl))), fun e => ho k hk (by rw [e]; exact .inl (.inr (.inr rfl)))⟩
    · exact ⟨hn.xy.1, hn.xy.2.1⟩
    · exact ⟨hn.xy.2.2.1, hn.xy.2.2.2⟩
    · exact ⟨hn.yz.1.symm, hn.yz.2.2.1.symm⟩
    · exact ⟨hn.yz.2.1.symm, hn.yz.2.2.2.symm⟩
  · refine h2.less (fun k hk => ?_) (fun hx => ⟨hx.1.1, ⟨hx.1.2.1, hx.2⟩, hx.1.2.2⟩)
    rcases hk with hk | (hk | hk) | hk
    · exact .inl (.inl hk)
    · exact .inl (.inr (.inl hk))
    · exact .inr hk
    · exact .inl (.inr (.inr hk))
/-- the third one's, in its own memory -/
theorem tw_z {Q : Program} {f : FuncId} {args : Array Value} {R : Ending → Prop} {S' : Ls} (hK : Keeps D X) (h : TwR w0 w P c d S D X)
    (hc : ∀ (D' : Nat → Prop) (X' : World → Prop), Keeps D' X' → LvR w0 w P.p2 P.qz P.iz c 1 S.Z D' X' → Calls Q f args w fun e w' => R e ∧ LvR w0 w' P.p2 P.qz P.iz c 1 S' D' X') :
    Calls Q f args w fun e w' => R e ∧ TwR w0 w' P c d ⟨S.M, S.ox, S.jx, S.oy, S.jy, S'⟩ D X := by
  obtain ⟨hp, ho, hn⟩ := h
  have h1 := (hp.swap.less (E := fun k => (D k ∨ ((k = P.qx ∨ k = P.ix) ∨ (k = P.qy ∨ k = P.iy))) ∨ (k = P.qz ∨ k = P.iz)) (Y := fun w => (X w ∧ (LvX P.p P.qx P.ix c 0 S.ox S.jx w ∧ LvX P.p P.qy P.iy d 3 S.oy S.jy w)) ∧ LvX P.p2 P.qz P.iz c 1 S.Z.over S.Z.ids w) (fun k hk => by
    rcases hk with (hk | hk) | hk
    · exact .inl hk
    · exact .inr (.inl hk)
    · exact .inr (.inr hk)) (fun hx => ⟨⟨hx.1, hx.2.1⟩, hx.2.2⟩))
  refine (PairX.lv (o := S.Z.over) (i := S.Z.ids) (keeps_and hK (keeps_and (keeps_lv _ _ _ _ _ _ _) (keeps_lv _ _ _ _ _ _ _))) h1 (fun k hk => ?_) hn.z ⟨hn.ge.2.2.2.2.1, hn.ge.2.2.2.2.2⟩ hc).mono fun e w' ⟨he, h2⟩ => ⟨he, ?_, ho, hn⟩
  · rcases hk with hk | (rfl | rfl) | (rfl | rfl)
    · exact ⟨fun e => ho k hk (by rw [e]; exact .inr (.inl rfl)), fun e => ho k hk (by rw [e]; exact .inr (.inr rfl))⟩
    · exact ⟨hn.xz.1, hn.xz.2.1⟩
    · exact ⟨hn.xz.2.2.1, hn.xz.2.2.2⟩
    · exact ⟨hn.yz.1, hn.yz.2.1⟩
    · exact ⟨hn.yz.2.2.1, hn.yz.2.2.2⟩
  · refine h2.swap.less (fun k hk => ?_) (fun hx => ⟨hx.1.1, hx.1.2, hx.2⟩)
    rcases hk with hk | hk | hk
    · exact .inl (.inl hk)
    · exact .inl (.inr hk)
    · exact .inr hk
/-- three levels, as they are made -/
theorem tw_made {w5 w11 w12 : World} {p qx ix qy iy p2 qz iz : Nat} {c g : Lc} {M : Mm} {Z : Ls} (hx : qx ≠ ix) (hxg : w5.heap.size ≤ qx ∧ w5.heap.size ≤ ix)
    (hy : LvR w5 w11 p qy iy g 3 ⟨M, false, []⟩ (fun k => False ∨ (k = qx ∨ k = ix)) (fun w => True ∧ LvX p qx ix c 0 false [] w))
    (hz : LvR w11 w12 p2 qz iz c 1 Z (fun _ => False) (fun _ => True)) : TwR w5 w12 ⟨p, p2, qx, ix, qy, iy, qz, iz⟩ c g ⟨M, false, [], false, [], Z⟩ (fun _ => False) (fun _ => True) := by
  have hK := keeps_and (keeps_and keeps_true (keeps_lv p qx ix c 0 false [])) (keeps_lv p qy iy g 3 false [])
  have hzg := hz.ge
  have hp := PairX.join hK hy.one hz.one (fun k hk => by
    rcases hk with hk | rfl | rfl
    · exact hk.elim
    · exact hzg.1
    · exact hzg.2)
  have hlt := hy.lt
  have l1 := hlt.1 qx (.inr (.inl rfl))
  have l2 := hlt.1 ix (.inr (.inr rfl))
  have o1 := hy.off qx (.inr (.inl rfl))
  have o2 := hy.off ix (.inr (.inr rfl))
  have s1 := hy.one.old.size
  have g1 := hy.ge
  refine ⟨hp.less (fun k hk => ?_) (fun hx => ⟨trivial, ⟨hx.1.1.2, hx.1.2⟩, hx.2.2⟩), fun k hk => hk.elim, ⟨hx, hy.ne, hz.ne, ⟨o1.1, o1.2, o2.1, o2.2⟩, ⟨?_, ?_, ?_, ?_⟩, ⟨?_, ?_, ?_, ?_⟩, ⟨hxg.1, hxg.2, g1.1, g1.2, ?_, ?_⟩⟩⟩
  · rcases hk with hk | (hk | hk) | hk
    · exact hk.elim
    · exact .inl (.inl (.inr hk))
    · exact .inl (.inr hk)
    · exact .inr (.inr hk)
  all_goals
    simp only
    omega
end Go.Proofs.Ythchfdobdghdoaa
end
section

/-
  The walk of a level's Events: its looks; its closure.
-/
namespace Go.Sg
open Go Go.RowKit
/-- an access's looks -/
def evA (first : Int) (c : Lc) (fr : Int) : List Ev := gatE (first + 2) (spL first c fr) (lcTab c).toNat ++ dealEv (first + 2) c ++ bakE (first + 2) (spL first c fr) (spL first c fr).length
theorem accM_evs (M : Mm) (first : Int) (c : Lc) (fr : Int) (T : Nat → List Int) : (accM M first c fr T).evs = M.evs ++ evA first c fr := by
  unfold accM bakM
  rw [Mm.noted_evs, putsM_evs]
  unfold dealM gatM
  rw [Mm.noted_evs, Mm.fill_evs, Mm.noted_evs, Mm.fill_evs]
  simp [evA]
end Go.Sg
namespace Go.Proofs.Ythchfdobdghdoaa
open Go Go.RowKit Go.Sg
/-- a captured slice of looks -/
def EvW (w : World) (b base : Nat) (es : List Ev) : Prop := ∃ v, Blk w b #[v] 48 ∧ w.ownsRow base 69 3 v es.length (evsV es)
theorem EvW.below {w w' : World} {b base : Nat} {es : List Ev} (h : EvW w b base es) (hb : Below w.heap.size w w') : EvW w' b base es := by
  obtain ⟨v, h1, h2⟩ := h
  exact ⟨v, h1.below hb h1.lt, ownsRow_below h2 hb⟩
set_option maxHeartbeats 4000000 in
set_option maxRecDepth 100000 in
theorem levlook_any (r a : Int) (t : Bool) (b base : Nat) (es : List Ev) (hes : es.length ≤ 1000000) (w : World) (hb : b < base) (hbase : base ≤ w.heap.size) (h : EvW w b base es) :
    Calls Try.prog 26 #[.int .i64 r, .int .i64 a, .bool t, .pointer (some ⟨b, 0, none⟩)] w fun e w' => e = .returned (.tuple #[]) ∧ EvW w' b base (es ++ [(r, a, t)]) ∧ MFrame (fun k => k = b ∨ base ≤ k) w w' ∧ ∀ (B : Nat) (cs : Array Value) (T : TypeId), Blk w B cs T → B ≠ b → T ≠ 69 → Blk w' B cs T := by
  obtain ⟨v, hv, ho⟩ := h
  obtain ⟨i0, hi0, hz0, hz1, hz2⟩ := info_parts info_event
  have HI := Lib.hid hi0
  have HZ := Lib.hid hz0
  have HS := Lib.hid hz1
  have HY := Lib.hid hz2
  have HV := Lib.hid hv
  have HO := Lib.hid ho
  have HNR := Lib.hid (not_row ho hv (by decide))
  have c7 : w.cell? ⟨b, 0, none⟩ = some v := hv.cell 0
  have hlt := hv.lt
  clear hi0 hz0 hz1 hz2 hv ho
  go_enter Try.func26, Try.ntmps26
  go_wp2_with (first
    | (at_builtin; go_loud (refine wpList_append_own_at _ rfl (.tmp 7) (.tmp 12) 48 rfl base 69 i0 (.agg #[.int .i64 0, .int .i64 0, .bool false]) 3 24 Try.underlying48 HI.out HZ.out HS.out HY.out rfl (by decide) v es.length (evsV es) rfl (ownsRow_below HO.out ((Below.refl _ _).alloc (Nat.le_refl _) _)) ⟨w.heap.size, 0, none⟩ 1 1 (evsV [(r, a, t)]) rfl rfl (evsN_cells w [(r, a, t)] 69) (evsV_one [(r, a, t)]) (by unfold maxLen; omega) (by omega) (by rw [World.size_alloc]; omega) ?_))
    | fail)
  intro v' w4 hown hgrow _ _
  have hsl : ∃ g cap, v' = .slice (some ⟨g, 0, none⟩) (es.length + 1) cap := by
    rcases hown.2 with ⟨_, h0⟩ | ⟨g, cap, cur, e, _⟩
    · omega
    · exact ⟨g, cap, e⟩
  obtain ⟨g', cap', rfl⟩ := hsl
  obtain ⟨wa, hwa⟩ : ∃ wa, w.alloc (.cells (evsV [(r, a, t)]).toArray 69) = wa := ⟨_, rfl⟩
  have hba : Below w.heap.size w wa := by rw [← hwa]; exact (Below.refl _ _).alloc (Nat.le_refl _) _
  have hgr : wa.grownBy w4 v.ownBlock := by rw [← hwa]; exact hgrow
  have hv4 : Blk w4 b #[v] 48 := (hgr.block b (Nat.lt_of_lt_of_le hlt hba.size) HNR.out).trans (hba.block b hlt |>.trans HV.out)
  have HV4 := Lib.hid hv4
  have c7' : w4.cell? ⟨b, 0, none⟩ = some v := hv4.cell 0
  have f7' : w4.frozen? ⟨b, 0, none⟩ = false := hv4.free 0
  have HOW : Hid (w4.ownsRow base 69 3 (.slice (some ⟨g', 0, none⟩) (es.length + 1) cap') (es.length + 1) (evsV (es ++ [(r, a, t)]))) := Lib.hid (by rw [evsV_append]; exact hown)
  have HMF : Hid (MFrame (fun k => k = b ∨ base ≤ k) w w4) := Lib.hid ⟨hgr.os.trans hba.os, hgr.tape.trans hba.tape, hgr.output.trans hba.output, Nat.le_trans hba.size hgr.size, fun k hk hn => (hgr.block k (Nat.lt_of_lt_of_le hk hba.size) (fun e => hn (.inr (HO.out.lt k e.symm).1))).trans (hba.block k hk)⟩
  have HOT : Hid (∀ (B : Nat) (cs : Array Value) (T : TypeId), Blk w B cs T → T ≠ 69 → Blk w4 B cs T) := Lib.hid fun B cs T hB hT => (hgr.block B (Nat.lt_of_lt_of_le hB.lt hba.size) (not_row HO.out hB hT)).trans ((hba.block B hB.lt).trans hB)
  clear hown hgrow hgr hba hwa hv4 c7
  go_wp2
  have h1 := HV4.out.set 0 (.slice (some ⟨g', 0, none⟩) (es.length + 1) cap')
  first
    | refine bodyPost_end (results_none rfl _ _ _) rfl ⟨rfl, ⟨_, h1, ?_⟩, HMF.out.set (p := ⟨b, 0, none⟩) (.inl (.inl rfl)) _, fun B cs T hB hne hT => (HOT.out B cs T hB hT).other _ _ hne⟩
    | refine bodyPost_ret (results_none rfl _ _ _) rfl ⟨rfl, ⟨_, h1, ?_⟩, HMF.out.set (p := ⟨b, 0, none⟩) (.inl (.inl rfl)) _, fun B cs T hB hne hT => (HOT.out B cs T hB hT).other _ _ hne⟩
  have h2 := own_keepL HOW.out (w' := w4.setCell ⟨b, 0, none⟩ (.slice (some ⟨g', 0, none⟩) (es.length + 1) cap')) (fun k hk => Below.heap_setCell w4 ⟨b, 0, none⟩ _ k (by have := (HOW.out.lt k hk).1; show k ≠ b; omega))
  rw [List.length_append]
  exact h2
end Go.Proofs.Ythchfdobdghdoaa
end
section

/-
  The walk of a level's Events.
-/
namespace Go.Sg
open Go Go.RowKit
theorem mf_trans {F : Nat → Prop} {a b c : World} (h : MFrame F a b) (k : MFrame F b c) : MFrame F a c :=
  ⟨k.os.trans h.os, k.tape.trans h.tape, k.output.trans h.output, Nat.le_trans h.size k.size, fun i hi hn => (k.block i (Nat.lt_of_lt_of_le hi h.size) hn).trans (h.block i hi hn)⟩
theorem evsV_len3 (es : List Ev) : (evsV es).length = es.length * 3 := by
  induction es with
  | nil => rfl
  | cons x es ih => show (evV x ++ evsV es).length = _; rw [List.length_append, ih, List.length_cons]; show 3 + _ = _; omega
theorem gatE_lenL (r : Int) (sp : List Sp) (k : Nat) : (gatE r sp k).length ≤ 2 * k := gatE_len r sp k
end Go.Sg
namespace Go.Proofs.Ythchfdobdghdoaa
open Go Go.RowKit Go.Sg
theorem ev_store {wx w4 : World} {b base g' cap' : Nat} {G es : List Ev} {v : Value} (hv : Blk wx b #[v] 48) (ho : wx.ownsRow base 69 3 v G.length (evsV G)) (hbl : b < base) (hown : w4.ownsRow base 69 3 (.slice (some ⟨g', 0, none⟩) (G.length + es.length) cap') (G.length + es.length) (evsV G ++ evsV es)) (hgr : wx.grownBy w4 v.ownBlock) :
    (w4.cell? ⟨b, 0, none⟩ = some v ∧ w4.frozen? ⟨b, 0, none⟩ = false) ∧ EvW (w4.setCell ⟨b, 0, none⟩ (.slice (some ⟨g', 0, none⟩) (G.length + es.length) cap')) b base (G ++ es) ∧ MFrame (fun k => k = b ∨ base ≤ k) wx (w4.setCell ⟨b, 0, none⟩ (.slice (some ⟨g', 0, none⟩) (G.length + es.length) cap')) := by
  have hv4 : Blk w4 b #[v] 48 := (hgr.block b hv.lt (not_row ho hv (by decide))).trans hv
  have h1 := hv4.set 0 (.slice (some ⟨g', 0, none⟩) (G.length + es.length) cap')
  have h2 := own_keepL hown (w' := w4.setCell ⟨b, 0, none⟩ (.slice (some ⟨g', 0, none⟩) (G.length + es.length) cap')) (fun k hk => Below.heap_setCell w4 ⟨b, 0, none⟩ _ k (by have := (hown.lt k hk).1; show k ≠ b; omega))
  refine ⟨⟨hv4.cell 0, hv4.free 0⟩, ⟨_, h1, ?_⟩, (MFrame.set (F := fun k => k = b ∨ base ≤ k) (a := wx) (w := w4) ⟨hgr.os, hgr.tape, hgr.output, hgr.size, fun k hk hn => hgr.block k hk (fun e => hn (.inr (ho.lt k e.symm).1))⟩ (p := ⟨b, 0, none⟩) (.inl (.inl rfl)) _)⟩
  rw [List.length_append, evsV_append]
  exact h2
theorem evsR_pos (c : Lc) (hr : lcRight c = true) (r : Int) : evsR r (lcTab c) ≠ [] := by
  obtain ⟨t, ht, e, hp⟩ := lcTab_pow c
  have hR := (lcRight_iff hr).2
  have h1 := levelsD_bd hR
  have h2 := lcRight_bd hr
  have hpl : placesD (lcSh c) = levelsD (lcSh c) + c.2.2 + 1 := by unfold placesD; rw [if_pos hR]; rfl
  have h0 : 1 ≤ t := by
    rcases Nat.eq_zero_or_pos t with h | h
    · subst h
      have : (2 : Int) ^ 0 = 1 := by decide
      omega
    · exact h
  have ec : (2 : Int) ^ t = ((2 ^ t : Nat) : Int) := by push_cast; rfl
  intro h
  have hl := congrArg List.length h
  unfold evsR at hl
  rw [evsS_len, e, ec, netI_pow (by omega), netP_cnt t (by omega)] at hl
  have hc : ∀ t : Fin 11, 1 ≤ t.val → 1 ≤ cntI t.val := by decide +kernel
  have h3 : 1 ≤ cntI t := hc ⟨t, by omega⟩ h0
  simp only [List.length_nil] at hl
  omega
set_option maxHeartbeats 8000000 in
set_option maxRecDepth 100000 in
theorem levEvents_any (c : Lc) (hc : LcOk c) (hr : lcRight c = true) (first : Int) (hf : 0 ≤ first ∧ first ≤ 1000) (fr : Int) (hfr : hasB c.1 fr = true) (w : World) :
    Calls Try.prog 16 #[.int .i64 first, .agg #[.int .i64 c.1, .int .i64 c.2.1, .int .i64 c.2.2], .int .i64 fr] w (RetE (evA first c fr) w) := by
  have KR := Lib.hid (fun w' => lright_any c hc w')
  rw [hr] at KR
  have KSp := Lib.hid (fun w' => spots_any c hc hr first fr ⟨hf.1, by omega⟩ hfr w')
  have KT := Lib.hid (fun w' => table_any c hc w')
  have hfb := hasB_lt hfr
  have hbd := lcTab_bd c
  have hln := spL_len (first := first) hr hfr
  have hbk := bakE_len (first + 2) (spL first c fr) (spL first c fr).length
  obtain ⟨n, hn⟩ : ∃ n : Nat, lcTab c = n := ⟨(lcTab c).toNat, by omega⟩
  have KE := Lib.hid (fun w' => sortEvents_any (first + 2) (lcTab c) w')
  have HEL := Lib.hid (evsR_len (first + 2) (lcTab c))
  have HEP := Lib.hid (evsR_pos c hr (first + 2))
  have HEA : Hid (evA first c fr = gatE (first + 2) (spL first c fr) n ++ (writesL (first + 2) n ++ evsR (first + 2) (lcTab c) ++ writesL (first + 2) n ++ evsR (first + 2) (lcTab c)) ++ bakE (first + 2) (spL first c fr) (spL first c fr).length) := Lib.hid (by unfold evA dealEv; rw [hn, Int.toNat_natCast])
  obtain ⟨sp, hsp⟩ : ∃ sp, spL first c fr = sp := ⟨_, rfl⟩
  obtain ⟨es, hes⟩ : ∃ es, evsR (first + 2) (lcTab c) = es := ⟨_, rfl⟩
  rw [hsp] at KSp HEA hln hbk
  rw [hes] at KE HEL HEP HEA
  rw [hn] at KT KE hbd
  have hspn : sp.length < n := by omega
  clear hln
  have hwl : (writesL (first + 2) n).length = 2 * n := by
    have : ∀ m, (writesL (first + 2) m).length = 2 * m := fun m => by
      induction m with
      | zero => rfl
      | succ m ih => rw [writesL_succ, List.length_append, ih]; simp; omega
    exact this n
  have hw2 : IntKind.i64.wrap (first + 2) = first + 2 := by rw [IntKind.wrap_i64]; omega
  have dn1 : decide (fr < 0) = false := decide_eq_false (by omega)
  have dn2 : decide (c.1 ≤ fr) = false := decide_eq_false (by omega)
  obtain ⟨A, hA⟩ : ∃ A, w.heap.size = A := ⟨_, rfl⟩
  obtain ⟨w1, hw1⟩ : ∃ w1, w.alloc (.cells #[.int .i64 c.1, .int .i64 c.2.1, .int .i64 c.2.2] 26) = w1 := ⟨_, rfl⟩
  have hb1 : Below w.heap.size w w1 := by rw [← hw1]; exact (Below.refl _ _).alloc (Nat.le_refl _) _
  have k1 : Blk w1 A #[.int .i64 c.1, .int .i64 c.2.1, .int .i64 c.2.2] 26 := by rw [← hw1, ← hA]; exact Blk.new w _ _
  have HB1 := Lib.hid hb1
  have K1 := Lib.hid k1
  have HW1 := Lib.hid hw1
  have a0 : w1.cell? ⟨A, 0, none⟩ = some (.int .i64 c.1) := k1.cell 0
  have a1 : w1.cell? ⟨A, 1, none⟩ = some (.int .i64 c.2.1) := k1.cell 1
  have a2 : w1.cell? ⟨A, 2, none⟩ = some (.int .i64 c.2.2) := k1.cell 2
  have HIL := Lib.hid (info_lcL c)
  clear hw1 hb1 k1 hsp hes hr hfr hn hc
  go_enter Try.func16, Try.ntmps16
  go_wp2_with fail
  rw [HW1.out]
  refine (KR.out _).mono ?_
  rintro e w2 ⟨rfl, hb2⟩
  have K2 := Lib.hid (K1.out.below hb2 K1.out.lt)
  have HB2 : Hid (Below w.heap.size w w2) := Lib.hid (HB1.out.trans (hb2.mono HB1.out.size))
  clear a0 a1 a2 hb2
  have a0 : w2.cell? ⟨A, 0, none⟩ = some (.int .i64 c.1) := K2.out.cell 0
  go_upto_region 4 with fail
  obtain ⟨b, hb⟩ : ∃ b, w2.heap.size = b := ⟨_, rfl⟩
  have hbk3 : Blk (w2.alloc (.cells #[.slice none 0 0] 48)) b #[.slice none 0 0] 48 := by rw [← hb]; exact Blk.new _ _ _
  have HBK := Lib.hid hbk3
  have K3 := Lib.hid (K2.out.alloc (.cells #[.slice none 0 0] 48))
  have HB3 : Hid (Below w.heap.size w (w2.alloc (.cells #[.slice none 0 0] 48))) := Lib.hid (HB2.out.alloc HB2.out.size _)
  have HBW : Hid (w.heap.size ≤ b) := Lib.hid (by rw [← hb]; exact HB2.out.size)
  rw [hb] at *
  generalize w2.alloc (.cells #[.slice none 0 0] 48) = w3 at *
  clear a0 hbk3 hb HB2 K2
  go_upto_region 5 with fail
  have HS3 : Hid (∀ w', Below w3.heap.size w3 w' → w'.cell? ⟨A, 0, none⟩ = some (.int .i64 c.1) ∧ w'.cell? ⟨A, 1, none⟩ = some (.int .i64 c.2.1) ∧ w'.cell? ⟨A, 2, none⟩ = some (.int .i64 c.2.2)) := Lib.hid fun w' h => ⟨(K3.out.below h K3.out.lt).cell 0, (K3.out.below h K3.out.lt).cell 1, (K3.out.below h K3.out.lt).cell 2⟩
  go_cut [9, 10] (fun sv tv wx => ∃ v, sv = v ∧ tv = .int .i64 n ∧ Hid (wx.ownsRow w3.heap.size 76 2 v sp.length (flatV spV sp)) ∧ Hid (Below w3.heap.size w3 wx))
  case first =>
    have hd : Below w3.heap.size w3 w3.drew := (Below.refl _ _).drew
    go_region_held3 (fun w' => w'.cell? ⟨A, 0, none⟩ = some (.int .i64 c.1) ∧ w'.cell? ⟨A, 1, none⟩ = some (.int .i64 c.2.1) ∧ w'.cell? ⟨A, 2, none⟩ = some (.int .i64 c.2.2)) (first | exact HS3.out _ hd | exact HS3.out _ h1 | exact HS3.out _ h2 | exact HS3.out _ g1 | exact HS3.out _ g2) (first
      | (go_at_call 27; first
        | (with_reducible refine (KSp.out w3.drew).mono ?_; rintro e wx ⟨v, rfl, ho1, hbx⟩; have h1 : Below w3.heap.size w3 wx := hd.trans (hbx.mono hd.size))
        | (with_reducible refine (KSp.out _).mono ?_; rintro e wx ⟨v, rfl, ho2, hbx⟩; have h2 : Below w3.heap.size w3 wx := g1.trans (hbx.mono g1.size)))
      | (go_at_call 28; first
        | (with_reducible refine (KT.out w3.drew).mono ?_; rintro e wy ⟨rfl, hby⟩; have g1 : Below w3.heap.size w3 wy := hd.trans (hby.mono hd.size))
        | (with_reducible refine (KT.out _).mono ?_; rintro e wy ⟨rfl, hby⟩; have g2 : Below w3.heap.size w3 wy := h1.trans (hby.mono h1.size))))
    all_goals
      first
        | (have HX := Lib.hid (And.intro (ownsRow_below ho1 hby) g2)
           clear ho1 hbx hby h1 g2 hd
           go_wp2_with fail
           go_meet
           exact ⟨v, rfl, rfl, Lib.hid HX.out.1, Lib.hid HX.out.2⟩)
        | (have HX := Lib.hid (And.intro (own_baseL ho2 g1.size) h2)
           clear ho2 hbx hby g1 h2 hd
           go_wp2_with fail
           go_meet
           exact ⟨v, rfl, rfl, Lib.hid HX.out.1, Lib.hid HX.out.2⟩)
  case rest =>
  obtain ⟨v, rfl, rfl, HSO, HB5⟩ := hcut
  generalize wc = w5 at *
  obtain ⟨base, hbase⟩ : ∃ base, w5.heap.size = base := ⟨_, rfl⟩
  have HWB : Hid (Below w.heap.size w w5) := Lib.hid (HB3.out.trans (HB5.out.mono HB3.out.size))
  have hbl : b < base := by rw [← hbase]; exact Nat.lt_of_lt_of_le HBK.out.lt HB5.out.size
  have HE0 : Hid (EvW w5 b base []) := Lib.hid ⟨_, HBK.out.below HB5.out HBK.out.lt, World.ownsRow_nil _ _ _ _⟩
  have HSL := Lib.hid (SlK.of_owns HSO.out)
  obtain ⟨va, vcap, rfl, -, -, -⟩ := HSL.out
  have HSC : Hid (∀ i (hi : i < sp.length), ∃ sb so, va = some ⟨sb, so, none⟩ ∧ ∀ w', MFrame (fun k => k = b ∨ base ≤ k) w5 w' → w'.cell? ⟨sb, so + i * 2, none⟩ = some (.int .i64 sp[i].1) ∧ w'.cell? ⟨sb, so + i * 2 + 1, none⟩ = some (.int .i64 sp[i].2)) := Lib.hid fun i hi => by
    obtain ⟨a', cap', e1, -, -, h3⟩ := HSL.out
    simp only [Value.slice.injEq, true_and] at e1
    obtain ⟨rfl, rfl⟩ := e1
    obtain ⟨sb, so, rfl, hlt, hrg⟩ := h3 (fun e => by rw [e] at hi; simp at hi)
    have hrow := range_flat spV_k hrg hi
    have hown : b < sb := by
      have h1 := (HSO.out.lt sb rfl).1
      have h2 := HBK.out.lt
      omega
    refine ⟨sb, so, rfl, fun w' h => ?_⟩
    have hblk := h.block sb hlt (fun e => by rcases e with e | e <;> omega)
    exact ⟨(World.cell?_of_block (w := w5) hblk).trans (hrow 0 _ rfl), (World.cell?_of_block (w := w5) hblk).trans (hrow 1 _ rfl)⟩
  have HMF0 : Hid (MFrame (fun k => k = b ∨ base ≤ k) w5 w5) := Lib.hid (MFrame.refl _ _)
  have KL : Hid (∀ (r a : Int) (t : Bool) (G : List Ev), G.length ≤ 1000000 → ∀ w', MFrame (fun k => k = b ∨ base ≤ k) w5 w' → EvW w' b base G → Calls Try.prog 26 #[.int .i64 r, .int .i64 a, .bool t, .pointer (some ⟨b, 0, none⟩)] w' fun e w2 => e = .returned (.tuple #[]) ∧ EvW w2 b base (G ++ [(r, a, t)]) ∧ MFrame (fun k => k = b ∨ base ≤ k) w5 w2 ∧ ∀ (B : Nat) (cs : Array Value) (T : TypeId), Blk w' B cs T → B ≠ b → T ≠ 69 → Blk w2 B cs T) := Lib.hid fun r a t G hG w' hm hE =>
    (levlook_any r a t b base G hG w' hbl (by have := hm.size; omega) hE).mono fun e w2 ⟨h1, h2, h3, h4⟩ => ⟨h1, h2, mf_trans hm h3, h4⟩
  have HGL := Lib.hid (fun i => gatE_len (first + 2) sp i)
  have hbs : base ≤ w5.heap.size := Nat.le_of_eq hbase.symm
  clear KSp KT KR HB3 HB5 HBK K3 K1 HSO HSL HS3 hbase HW1 HB1
  obtain ⟨r2, hr2⟩ : ∃ r2, first + 2 = r2 := ⟨_, rfl⟩
  rw [hr2] at hw2 HEA KE hbk HGL hwl
  go_wp2_with fail
  go_loopw [11, 36] (fun _ iv wr => ∃ i : Nat, i ≤ n ∧ iv = .int .i64 i ∧ Hid (EvW wr b base (gatE r2 sp i)) ∧ Hid (MFrame (fun k => k = b ∨ base ≤ k) w5 wr)) (fun _ iv _ => n - (intOf iv).toNat)
  case atStart => exact ⟨0, by omega, rfl, HE0, HMF0⟩
  case round =>
    obtain ⟨i, hi, rfl, HE, HM⟩ := hrel
    by_cases hin : i < n
    · have g1 : decide ((i : Int) < (n : Int)) = true := decide_eq_true (by omega)
      have g1' : decide (i < n) = true := decide_eq_true hin
      have i0' : (0 : Int) ≤ (i : Int) := by omega
      have hgl := HGL.out i
      obtain ⟨G1, hG1, hGa, hGb⟩ : ∃ G1, gatE r2 sp (i + 1) = G1 ++ [(r2, (i : Int), true)] ∧ (∀ h : i < sp.length, G1 = gatE r2 sp i ++ [(sp[i].1, sp[i].2, false)]) ∧ (sp.length ≤ i → G1 = gatE r2 sp i) := by
        by_cases h : i < sp.length
        · exact ⟨gatE r2 sp i ++ [(sp[i].1, sp[i].2, false)], by rw [gatE_lt h]; simp, fun _ => rfl, fun h2 => by omega⟩
        · exact ⟨_, gatE_ge (by omega), fun h2 => absurd h2 h, fun _ => rfl⟩
      have HG1 := Lib.hid hG1
      have HG1l : Hid (G1.length ≤ 1000000) := Lib.hid (by
        have h1 := HGL.out (i + 1)
        rw [hG1, List.length_append] at h1
        simp at h1
        omega)
      clear hG1
      go_upto_if 42 with fail
      go_cut [] (fun wx => Hid (EvW wx b base G1) ∧ Hid (MFrame (fun k => k = b ∨ base ≤ k) w5 wx))
      case first =>
        by_cases hsl : i < sp.length
        · have d42 : decide ((i : Int) < (sp.length : Int)) = true := decide_eq_true (by omega)
          have d42' : decide (i < sp.length) = true := decide_eq_true hsl
          have i1' : (i : Int) < (sp.length : Int) := by omega
          have hGe := hGa hsl
          obtain ⟨sb, so, rfl, hcc⟩ := HSC.out i hsl
          have HCC := Lib.hid hcc
          clear hGa hGb hcc
          generalize sp[i] = s at *
          obtain ⟨sx, sy⟩ := s
          simp only at hGe HCC
          have KL1 := Lib.hid (KL.out sx sy false (gatE r2 sp i) (by omega))
          rw [← hGe] at KL1
          have hd : MFrame (fun k => k = b ∨ base ≤ k) w5 wr.drew := mf_trans HM.out (MFrame.of_below (Below.refl _ _).drew)
          obtain ⟨c0, c1⟩ := HCC.out _ HM.out
          clear hGe
          go_wp2_with fail
          go_region_held3 (fun w' => w'.cell? ⟨sb, so + i * 2, none⟩ = some (.int .i64 sx) ∧ w'.cell? ⟨sb, so + i * 2 + 1, none⟩ = some (.int .i64 sy)) (first | exact HCC.out _ hd | exact HCC.out _ hm1) (first
            | (go_at_call 26; with_reducible refine (KL1.out _ hd (HE.out.below (Below.refl _ _).drew)).mono ?_; rintro e wx ⟨rfl, hE1, hm1, -⟩))
          all_goals
            have HX := Lib.hid (And.intro hE1 hm1)
            clear hE1 hm1 hd c0 c1
            go_wp2_with fail
            go_meet
            exact ⟨Lib.hid HX.out.1, Lib.hid HX.out.2⟩
        · have d42 : decide ((i : Int) < (sp.length : Int)) = false := decide_eq_false (by omega)
          have d42' : decide (i < sp.length) = false := decide_eq_false hsl
          have hGe := hGb (by omega)
          have HE2 := HE
          rw [← hGe] at HE2
          clear hGa hGb hGe
          go_wp2_with fail
          go_meet
          exact ⟨HE2, HM⟩
      case rest =>
      obtain ⟨HE1, HM1⟩ := hcut
      generalize wc = wp at *
      clear HE HM hGa hGb
      have KL2 := Lib.hid (KL.out r2 (i : Int) true G1 HG1l.out)
      go_wp2_with fail
      refine (KL2.out _ HM1.out HE1.out).mono ?_
      rintro e wz ⟨rfl, hE2, hm2, -⟩
      have HE2 := Lib.hid hE2
      have HM2 := Lib.hid hm2
      clear hE2 hm2 HE1 HM1 KL2
      go_wp2_with fail
      go_roundw
      case rel => exact ⟨i + 1, by omega, by go_num, by rw [HG1.out]; exact HE2, HM2⟩
      case measure => simp [intOf]; omega
    · obtain rfl : i = n := by omega
      have g1 : decide ((i : Int) < (i : Int)) = false := by simp
      have hgl := HGL.out i
      obtain ⟨GA, hGA⟩ : ∃ GA, gatE r2 sp i = GA := ⟨_, rfl⟩
      rw [hGA] at HE HEA hgl
      have hel := HEL.out
      obtain ⟨DJ, hDJ⟩ : ∃ DJ : Nat → List Ev, DJ = fun j => (List.replicate j (writesL r2 i ++ es)).flatten := ⟨_, rfl⟩
      have HD0 : Hid (DJ 0 = []) := Lib.hid (by rw [hDJ]; rfl)
      have HDS : Hid (∀ j, DJ (j + 1) = DJ j ++ (writesL r2 i ++ es)) := Lib.hid fun j => by
        rw [hDJ]
        show (List.replicate (j + 1) (writesL r2 i ++ es)).flatten = (List.replicate j (writesL r2 i ++ es)).flatten ++ (writesL r2 i ++ es)
        rw [List.replicate_succ', List.flatten_append]
        simp
      have HDL : Hid (∀ j, j ≤ 2 → (DJ j).length ≤ j * 121000) := Lib.hid fun j => by
        induction j with
        | zero => intro _; rw [HD0.out]; exact Nat.le_refl _
        | succ j ih => intro h; rw [HDS.out, List.length_append, List.length_append, hwl]; have := ih (by omega); omega
      have HWL : Hid (∀ m, m ≤ i → (writesL r2 m).length ≤ 1000) := Lib.hid fun m hm => by
        have : ∀ m, (writesL r2 m).length = 2 * m := fun m => by
          induction m with
          | zero => rfl
          | succ m ih => rw [writesL_succ, List.length_append, ih]; simp; omega
        rw [this]; omega
      have HE1 : Hid (EvW wr b base (GA ++ DJ 0)) := Lib.hid (by rw [HD0.out, List.append_nil]; exact HE.out)
      clear hGA hDJ HE
      go_wp2_with fail
      go_loopw [12, 61, 64] (fun _ jv _ wr => ∃ j : Nat, j ≤ 2 ∧ jv = .int .i64 j ∧ Hid (EvW wr b base (GA ++ DJ j)) ∧ Hid (MFrame (fun k => k = b ∨ base ≤ k) w5 wr)) (fun _ jv _ _ => 2 - (intOf jv).toNat)
      case atStart => exact ⟨0, by omega, rfl, HE1, HM⟩
      case round =>
        clear HE1 HM
        obtain ⟨j, hj, rfl, HE, HM⟩ := hrel
        by_cases hj2 : j < 2
        · have g2 : decide ((j : Int) < 2) = true := decide_eq_true (by omega)
          have g2' : decide (j < 2) = true := decide_eq_true hj2
          have hdl := HDL.out j (by omega)
          have HDSj := Lib.hid (HDS.out j)
          obtain ⟨Y, hY⟩ : ∃ Y, GA ++ DJ j = Y := ⟨_, rfl⟩
          have hYl : Y.length ≤ 300000 := by rw [← hY, List.length_append]; omega
          have HY2 : Hid (GA ++ DJ (j + 1) = Y ++ writesL r2 i ++ es) := Lib.hid (by rw [HDSj.out, ← hY]; simp)
          rw [hY] at HE
          have HE1 : Hid (EvW wr b base (Y ++ writesL r2 0)) := Lib.hid (by
            have : Y ++ writesL r2 0 = Y := by simp [writesL]
            rw [this]; exact HE.out)
          clear hY HE
          go_wp2_with fail
          go_loopw [12, 64] (fun _ iv wr => ∃ m : Nat, m ≤ i ∧ iv = .int .i64 m ∧ Hid (EvW wr b base (Y ++ writesL r2 m)) ∧ Hid (MFrame (fun k => k = b ∨ base ≤ k) w5 wr)) (fun _ iv _ => i - (intOf iv).toNat)
          case atStart => exact ⟨0, by omega, rfl, HE1, HM⟩
          case round =>
            clear HE1 HM
            obtain ⟨m, hm, rfl, HE, HM⟩ := hrel
            by_cases hmi : m < i
            · have g3 : decide ((m : Int) < (i : Int)) = true := decide_eq_true (by omega)
              have g3' : decide (m < i) = true := decide_eq_true hmi
              have hwm := HWL.out m (by omega)
              have HWS := Lib.hid (writesL_succ r2 m)
              have KL1 := Lib.hid (KL.out r2 (m : Int) false (Y ++ writesL r2 m) (by rw [List.length_append]; omega))
              have KL2 := Lib.hid (KL.out r2 (m : Int) true (Y ++ writesL r2 m ++ [(r2, (m : Int), false)]) (by rw [List.length_append, List.length_append]; simp; omega))
              go_wp2_with fail
              refine (KL1.out _ HM.out HE.out).mono ?_
              rintro e wz ⟨rfl, hE2, hm2, -⟩
              have HE2 := Lib.hid hE2
              have HM2 := Lib.hid hm2
              clear hE2 hm2 HE HM KL1
              go_wp2_with fail
              refine (KL2.out _ HM2.out HE2.out).mono ?_
              rintro e wz2 ⟨rfl, hE3, hm3, -⟩
              have HE3 := Lib.hid hE3
              have HM3 := Lib.hid hm3
              clear hE3 hm3 HE2 HM2 KL2
              go_wp2_with fail
              go_roundw
              case rel => exact ⟨m + 1, by omega, by go_num, Lib.hid (by rw [HWS.out]; have := HE3.out; rw [List.append_assoc, List.append_assoc] at this; exact this), HM3⟩
              case measure => simp [intOf]; omega
            · obtain rfl : m = i := by omega
              have g3 : decide ((m : Int) < (m : Int)) = false := by simp
              have hwm := HWL.out m (by omega)
              have HYL : Hid ((Y ++ writesL r2 m).length ≤ 400000) := Lib.hid (by rw [List.length_append]; omega)
              obtain ⟨Z, hZ⟩ : ∃ Z, Y ++ writesL r2 m = Z := ⟨_, rfl⟩
              rw [hZ] at HE HYL HY2
              clear hZ
              obtain ⟨ve, hve, hoe⟩ := HE.out
              have HVE := Lib.hid hve
              have HOE := Lib.hid hoe
              have c7 : wr.cell? ⟨b, 0, none⟩ = some ve := hve.cell 0
              have c7d : wr.drew.cell? ⟨b, 0, none⟩ = some ve := hve.cell 0
              clear hve hoe HE
              obtain ⟨i0, hi0, hz0, hz1, hz2⟩ := info_parts info_event
              have HI := Lib.hid hi0
              have HZ := Lib.hid hz0
              have HS := Lib.hid hz1
              have HY := Lib.hid hz2
              clear hi0 hz0 hz1 hz2
              have hzl := HYL.out
              go_upto_region 21 with fail
              refine wp_region_held_drew (S := fun _ => True) (by kernel_rfl) trivial (fun hHeld => ?_)
              refine wpAnyH_take (i := 1) (oi := _) (v := ?_) rfl (by kernel_rfl) (by kernel_rfl) (by kernel_rfl) (fun _ _ _ h => h) (Or.inl ⟨by rfl, ?_⟩) (by assumption) ?_
              rotate_left
              · (intro wS hSw; (try dsimp only at hSw); go_simp; try with_reducible rfl)
              try simp only [Act.put, List.setIfInBounds_toArray, List.set_cons_zero, List.set_cons_succ]
              refine wpAnyH_take (i := 2) (oi := _) (v := ?_) rfl (by kernel_rfl) (by kernel_rfl) (by kernel_rfl) (fun _ _ _ h => h) (Or.inl ⟨by rfl, ?_⟩) (by assumption) ?_
              rotate_left
              · (intro wS hSw; (try dsimp only at hSw); go_simp; try with_reducible rfl)
              try simp only [Act.put, List.setIfInBounds_toArray, List.set_cons_zero, List.set_cons_succ]
              refine wpAnyH_take (i := 3) (oi := _) (v := ?_) rfl (by kernel_rfl) (by kernel_rfl) (by kernel_rfl) (fun _ _ _ h => h) (Or.inl ⟨by rfl, ?_⟩) (by assumption) ?_
              rotate_left
              · (intro wS hSw; (try dsimp only at hSw); go_simp; try with_reducible rfl)
              try simp only [Act.put, List.setIfInBounds_toArray, List.set_cons_zero, List.set_cons_succ]
              refine wpAnyH_ready (rs := [0, 4]) (by kernel_rfl) (by simp) ?_
              refine (AllReadyH.cons (o := _) rfl (fun K hK => ?_) (AllReadyH.cons (o := _) rfl (fun K hK => ?_) AllReadyH.nil))
              focus
                go_simp
                refine hK.out _ _ trivial (fun hHeld => ?_)
                clear hK K
                try simp only [Act.put, List.setIfInBounds_toArray, List.set_cons_zero, List.set_cons_succ]
                refine wpAnyH_ready (rs := [4]) (by kernel_rfl) (by simp) ?_
                refine (AllReadyH.cons (o := _) rfl (fun K hK => ?_) AllReadyH.nil)
                focus
                  go_simp
                  refine (KE.out _).mono ?_
                  rintro e wx ⟨v2, rfl, ⟨a2, cap2, rfl, -, hc2, h3⟩, hb2, -⟩
                  obtain ⟨sb2, so2, rfl, hlt2, hrow2⟩ := h3 HEP.out
                  unfold maxLen at hc2
                  have hbb2 : Below wr.heap.size wr wx := ((Below.refl wr.heap.size wr).drew).trans hb2
                  have hvx := HVE.out.below hbb2 HVE.out.lt
                  have hox := ownsRow_below HOE.out hbb2
                  have hmx := mf_trans HM.out (MFrame.of_below hbb2)
                  have hbx : base ≤ wx.heap.size := by have h1 := hmx.size; omega
                  have c7x : wx.cell? ⟨b, 0, none⟩ = some ve := hvx.cell 0
                  refine hK.out _ _ trivial (fun hHeld => ?_)
                  clear hK K
                  try simp only [Act.put, List.setIfInBounds_toArray, List.set_cons_zero, List.set_cons_succ]
                  refine wpAnyH_ready (rs := [5]) (by kernel_rfl) (by simp) ?_
                  refine (AllReadyH.cons (o := _) rfl (fun K hK => ?_) AllReadyH.nil)
                  focus
                    refine step_append_own_at rfl (.tmp 78) (.tmp 82) 48 rfl base 69 i0 (.agg #[.int .i64 0, .int .i64 0, .bool false]) 3 24 Try.underlying48 HI.out HZ.out HS.out HY.out rfl (by decide) ve Z.length (evsV Z) rfl hox ⟨sb2, so2, none⟩ es.length cap2 (evsV es) rfl (evsV_len3 es) (fun j u hu => by rw [addr_add]; exact hrow2 j u hu) (evsV_one es) (by unfold maxLen; omega) (by omega) hbx ?_
                    intro v' w4 hown hgrow _
                    have hsl : ∃ g cap, v' = .slice (some ⟨g, 0, none⟩) (Z.length + es.length) cap := by
                      rcases hown.2 with ⟨_, h0⟩ | ⟨g, cap, cur, e, _⟩
                      · have := List.length_pos_iff.2 HEP.out
                        omega
                      · exact ⟨g, cap, e⟩
                    obtain ⟨g', cap', rfl⟩ := hsl
                    obtain ⟨⟨c8, f8⟩, hEn, hmn⟩ := ev_store hvx hox hbl hown hgrow
                    have hEn := Lib.hid hEn
                    have hmn := Lib.hid (mf_trans hmx hmn)
                    clear hown hgrow hrow2 hvx hox hmx
                    refine hK.out _ _ trivial (fun hHeld => ?_)
                    clear hK K
                    try simp only [Act.put, List.setIfInBounds_toArray, List.set_cons_zero, List.set_cons_succ]
                    refine wpAnyH_ready (rs := [6]) (by kernel_rfl) (by simp) ?_
                    refine (AllReadyH.cons (o := _) rfl (fun K hK => ?_) AllReadyH.nil)
                    focus
                      go_simp
                      refine hK.out _ _ trivial (fun hHeld => ?_)
                      clear hK K
                      try simp only [Act.put, List.setIfInBounds_toArray, List.set_cons_zero, List.set_cons_succ]
                      refine wpAnyH_done (by kernel_rfl) ?_ _
                      go_wp2_with fail
                      go_roundw
                      case rel => exact ⟨j + 1, by omega, by go_num, by rw [HY2.out]; exact hEn, hmn⟩
                      case measure => simp [intOf]; omega
              focus
                go_simp
                refine (KE.out _).mono ?_
                rintro e wx ⟨v2, rfl, ⟨a2, cap2, rfl, -, hc2, h3⟩, hb2, -⟩
                obtain ⟨sb2, so2, rfl, hlt2, hrow2⟩ := h3 HEP.out
                unfold maxLen at hc2
                have hbb2 : Below wr.heap.size wr wx := ((Below.refl wr.heap.size wr).drew).trans hb2
                have hvx := HVE.out.below hbb2 HVE.out.lt
                have hox := ownsRow_below HOE.out hbb2
                have hmx := mf_trans HM.out (MFrame.of_below hbb2)
                have hbx : base ≤ wx.heap.size := by have h1 := hmx.size; omega
                have c7x : wx.cell? ⟨b, 0, none⟩ = some ve := hvx.cell 0
                refine hK.out _ _ trivial (fun hHeld => ?_)
                clear hK K
                try simp only [Act.put, List.setIfInBounds_toArray, List.set_cons_zero, List.set_cons_succ]
                refine wpAnyH_ready (rs := [0]) (by kernel_rfl) (by simp) ?_
                refine (AllReadyH.cons (o := _) rfl (fun K hK => ?_) AllReadyH.nil)
                focus
                  go_simp
                  refine hK.out _ _ trivial (fun hHeld => ?_)
                  clear hK K
                  try simp only [Act.put, List.setIfInBounds_toArray, List.set_cons_zero, List.set_cons_succ]
                  refine wpAnyH_ready (rs := [5]) (by kernel_rfl) (by simp) ?_
                  refine (AllReadyH.cons (o := _) rfl (fun K hK => ?_) AllReadyH.nil)
                  focus
                    refine step_append_own_at rfl (.tmp 78) (.tmp 82) 48 rfl base 69 i0 (.agg #[.int .i64 0, .int .i64 0, .bool false]) 3 24 Try.underlying48 HI.out HZ.out HS.out HY.out rfl (by decide) ve Z.length (evsV Z) rfl hox ⟨sb2, so2, none⟩ es.length cap2 (evsV es) rfl (evsV_len3 es) (fun j u hu => by rw [addr_add]; exact hrow2 j u hu) (evsV_one es) (by unfold maxLen; omega) (by omega) hbx ?_
                    intro v' w4 hown hgrow _
                    have hsl : ∃ g cap, v' = .slice (some ⟨g, 0, none⟩) (Z.length + es.length) cap := by
                      rcases hown.2 with ⟨_, h0⟩ | ⟨g, cap, cur, e, _⟩
                      · have := List.length_pos_iff.2 HEP.out
                        omega
                      · exact ⟨g, cap, e⟩
                    obtain ⟨g', cap', rfl⟩ := hsl
                    obtain ⟨⟨c8, f8⟩, hEn, hmn⟩ := ev_store hvx hox hbl hown hgrow
                    have hEn := Lib.hid hEn
                    have hmn := Lib.hid (mf_trans hmx hmn)
                    clear hown hgrow hrow2 hvx hox hmx
                    refine hK.out _ _ trivial (fun hHeld => ?_)
                    clear hK K
                    try simp only [Act.put, List.setIfInBounds_toArray, List.set_cons_zero, List.set_cons_succ]
                    refine wpAnyH_ready (rs := [6]) (by kernel_rfl) (by simp) ?_
                    refine (AllReadyH.cons (o := _) rfl (fun K hK => ?_) AllReadyH.nil)
                    focus
                      go_simp
                      refine hK.out _ _ trivial (fun hHeld => ?_)
                      clear hK K
                      try simp only [Act.put, List.setIfInBounds_toArray, List.set_cons_zero, List.set_cons_succ]
                      refine wpAnyH_done (by kernel_rfl) ?_ _
                      go_wp2_with fail
                      go_roundw
                      case rel => exact ⟨j + 1, by omega, by go_num, by rw [HY2.out]; exact hEn, hmn⟩
                      case measure => simp [intOf]; omega
        · have g2 : decide ((j : Int) < 2) = false := decide_eq_false (by omega)
          have g2' : decide (j < 2) = false := decide_eq_false hj2
          have HJ2 : Hid (j = 2) := Lib.hid (by omega)
          have HEB : Hid (EvW wr b base (GA ++ (writesL r2 i ++ es ++ writesL r2 i ++ es) ++ bakE r2 sp 0)) := Lib.hid (by
            have h := HE.out
            rw [HJ2.out, HDS.out 1, HDS.out 0, HD0.out] at h
            have e : bakE r2 sp 0 = [] := rfl
            rw [e, List.append_nil]
            simpa using h)
          obtain ⟨GB, hGB⟩ : ∃ GB, GA ++ (writesL r2 i ++ es ++ writesL r2 i ++ es) = GB := ⟨_, rfl⟩
          have hGBl : GB.length ≤ 300000 := by
            rw [← hGB]
            have := HWL.out i (by omega)
            simp only [List.length_append]
            omega
          rw [hGB] at HEB HEA
          clear hGB HE
          go_wp2_with fail
          go_loopw [13, 14, 87] (fun _ _ iv wr => ∃ m : Nat, m ≤ sp.length ∧ iv = .int .i64 m ∧ Hid (EvW wr b base (GB ++ bakE r2 sp m)) ∧ Hid (MFrame (fun k => k = b ∨ base ≤ k) w5 wr)) (fun _ _ iv _ => sp.length - (intOf iv).toNat)
          case atStart => exact ⟨0, by omega, rfl, HEB, HM⟩
          case round =>
            clear HEB HM
            obtain ⟨m, hm, rfl, HE, HM⟩ := hrel
            by_cases hms : m < sp.length
            · have g4 : decide ((m : Int) < (sp.length : Int)) = true := decide_eq_true (by omega)
              have g4' : decide (m < sp.length) = true := decide_eq_true hms
              have i0' : (0 : Int) ≤ (m : Int) := by omega
              have i1' : (m : Int) < (sp.length : Int) := by omega
              have hbm := bakE_len r2 sp m
              have HBS : Hid (bakE r2 sp (m + 1) = bakE r2 sp m ++ [(r2, (m : Int), false), (sp[m].1, sp[m].2, true)]) := Lib.hid (by
                rw [bakE_succ]
                have : sp.getD m (0, 0) = sp[m] := by rw [List.getD_eq_getElem?_getD, List.getElem?_eq_getElem hms]; rfl
                rw [this])
              obtain ⟨sb, so, rfl, hcc⟩ := HSC.out m hms
              obtain ⟨c0, c1⟩ := hcc _ HM.out
              clear hcc
              generalize sp[m] = s at *
              obtain ⟨sx, sy⟩ := s
              simp only at HBS c0 c1
              have KL1 := Lib.hid (KL.out r2 (m : Int) false (GB ++ bakE r2 sp m) (by rw [List.length_append]; omega))
              have KL2 := Lib.hid (KL.out sx sy true (GB ++ bakE r2 sp m ++ [(r2, (m : Int), false)]) (by rw [List.length_append, List.length_append]; simp; omega))
              obtain ⟨B, hB⟩ : ∃ B, wr.heap.size = B := ⟨_, rfl⟩
              have hbb : b < B := by have h1 := HM.out.size; obtain ⟨ve, hve, -⟩ := HE.out; rw [← hB]; exact hve.lt
              have hba : Below wr.heap.size wr (wr.alloc (.cells #[.int .i64 sx, .int .i64 sy] 76)) := (Below.refl _ _).alloc (Nat.le_refl _) _
              have HEx := Lib.hid (HE.out.below hba)
              have HMx := Lib.hid (mf_trans HM.out (MFrame.of_below hba))
              have HBx : Hid (Blk (wr.alloc (.cells #[.int .i64 sx, .int .i64 sy] 76)) B #[.int .i64 sx, .int .i64 sy] 76) := Lib.hid (by rw [← hB]; exact Blk.new _ _ _)
              have HIS : Hid ((Try.prog.info? 76).map (·.size) = some [Value.int .i64 sx, .int .i64 sy].length) := Lib.hid (by kernel_rfl)
              clear hba HE HM
              go_upto_region 26 with fail
              refine at_world (fun w' => EvW w' b base (GB ++ bakE r2 sp m) ∧ MFrame (fun k => k = b ∨ base ≤ k) w5 w' ∧ Blk w' B #[.int .i64 sx, .int .i64 sy] 76) ⟨HEx.out, HMx.out, HBx.out⟩ ?_
              rintro wb ⟨hEb, hMb, hBb⟩
              have HEb := Lib.hid hEb
              have HMb := Lib.hid hMb
              have HBb := Lib.hid hBb
              clear hEb hMb hBb HEx HMx HBx c0 c1 hB
              go_wp2_with fail
              refine (KL1.out _ HMb.out HEb.out).mono ?_
              rintro e wz ⟨rfl, hE2, hm2, hot⟩
              have HE2 := Lib.hid hE2
              have HM2 := Lib.hid hm2
              have hB2 := hot B _ _ HBb.out (by omega) (by decide)
              have c0 : wz.cell? ⟨B, 0, none⟩ = some (.int .i64 sx) := hB2.cell 0
              have c1 : wz.cell? ⟨B, 1, none⟩ = some (.int .i64 sy) := hB2.cell 1
              clear hE2 hm2 hot hB2 HEb HMb HBb KL1
              go_wp2_with fail
              refine (KL2.out _ HM2.out HE2.out).mono ?_
              rintro e wz2 ⟨rfl, hE3, hm3, -⟩
              have HE3 := Lib.hid hE3
              have HM3 := Lib.hid hm3
              clear hE3 hm3 HE2 HM2 KL2 c0 c1
              go_wp2_with fail
              go_roundw
              case rel => exact ⟨m + 1, by omega, by go_num, Lib.hid (by rw [HBS.out]; have := HE3.out; rw [List.append_assoc, List.append_assoc] at this; exact this), HM3⟩
              case measure => simp [intOf]; omega
            · obtain rfl : m = sp.length := by omega
              have g4 : decide (((sp.length : Nat) : Int) < (sp.length : Int)) = false := by simp
              obtain ⟨ve, hve, hoe⟩ := HE.out
              rw [← HEA.out] at hoe
              have HOE := Lib.hid hoe
              have c7 : wr.cell? ⟨b, 0, none⟩ = some ve := hve.cell 0
              have hbb := HWB.out.size
              have HBE : Hid (Below w.heap.size w wr) := Lib.hid (HWB.out.trans (HM.out.below (fun k hk => by rcases hk with rfl | hk; exact HBW.out; have := HBW.out; omega) hbb))
              clear HE hve hoe HM
              go_wp2_with fail
              go_ret
              exact ⟨ve, rfl, SlE.of_owns HOE.out, HBE.out, fun k hk => by have h1 := (HOE.out.lt k hk).1; have := HBW.out; omega⟩
end Go.Proofs.Ythchfdobdghdoaa
end
section

/-
  LevelBlind: two levels, each in a memory of its own.
-/
namespace Go.Sg
open Go Go.RowKit Go.Proofs.Ythchfdobdghdoaa
/-- an access's looks hang on the leaf alone -/
theorem acc_evs {c : Lc} {first : Int} {S : Ls} {op id at' fr lf : Int} {d : List Int} (hb : badA c op id at' fr lf = false) : (S.acc first c op id at' d fr lf).M.evs = S.M.evs ++ evA first c fr := by
  unfold Ls.acc
  rw [if_neg (by rw [hb]; decide)]
  exact accM_evs _ _ _ _ _
end Go.Sg
namespace Go.Proofs.Ythchfdobdghdoaa
open Go Go.RowKit Go.Sg
variable {w0 w w' : World} {c : Lc} {D : Nat → Prop} {X : World → Prop}
structure BlP where
  p : Nat
  p2 : Nat
  qx : Nat
  ix : Nat
  qz : Nat
  iz : Nat
def BlD (P : BlP) : Nat → Prop := fun k => (k = P.qx ∨ k = P.ix) ∨ (k = P.qz ∨ k = P.iz)
structure BlN (P : BlP) (B : Nat) : Prop where
  x : P.qx ≠ P.ix
  z : P.qz ≠ P.iz
  xz : P.qx ≠ P.qz ∧ P.qx ≠ P.iz ∧ P.ix ≠ P.qz ∧ P.ix ≠ P.iz
  ge : B ≤ P.qx ∧ B ≤ P.ix ∧ B ≤ P.qz ∧ B ≤ P.iz
def BlX (P : BlP) (c : Lc) (S Z : Ls) : World → Prop := fun w => LvX P.p P.qx P.ix c 1 S.over S.ids w ∧ LvX P.p2 P.qz P.iz c 1 Z.over Z.ids w
structure BlR (w0 w : World) (P : BlP) (c : Lc) (S Z : Ls) (D : Nat → Prop) (X : World → Prop) : Prop where
  pair : PairX 67 67 w0 w P.p P.p2 S.M Z.M (fun k => D k ∨ BlD P k) (fun w => X w ∧ BlX P c S Z w)
  off : ∀ k, D k → ¬ BlD P k
  n : BlN P w0.heap.size
variable {P : BlP} {S Z : Ls}
theorem keeps_bl (P : BlP) (c : Lc) (S Z : Ls) : Keeps (BlD P) (BlX P c S Z) := keeps_and (keeps_lv _ _ _ _ _ _ _) (keeps_lv _ _ _ _ _ _ _)
theorem BlR.x (h : BlR w0 w P c S Z D X) : X w := h.pair.x.1
theorem BlR.old (h : BlR w0 w P c S Z D X) : Below w0.heap.size w0 w := h.pair.old
theorem BlR.below (hK : Keeps D X) (h : BlR w0 w P c S Z D X) (hb : Below w.heap.size w w') : BlR w0 w' P c S Z D X := ⟨h.pair.below (keeps_and hK (keeps_bl _ _ _ _)) hb, h.off, h.n⟩
theorem bl_x {Q : Program} {f : FuncId} {args : Array Value} {R : Ending → Prop} {S' : Ls} (hK : Keeps D X) (h : BlR w0 w P c S Z D X)
    (hc : ∀ (D' : Nat → Prop) (X' : World → Prop), Keeps D' X' → LvR w0 w P.p P.qx P.ix c 1 S D' X' → Calls Q f args w fun e w' => R e ∧ LvR w0 w' P.p P.qx P.ix c 1 S' D' X') :
    Calls Q f args w fun e w' => R e ∧ BlR w0 w' P c S' Z D X := by
  obtain ⟨hp, ho, hn⟩ := h
  have h1 := (hp.less (E := fun k => (D k ∨ (k = P.qz ∨ k = P.iz)) ∨ (k = P.qx ∨ k = P.ix)) (Y := fun w => (X w ∧ LvX P.p2 P.qz P.iz c 1 Z.over Z.ids w) ∧ LvX P.p P.qx P.ix c 1 S.over S.ids w) (fun k hk => by
    rcases hk with (hk | hk) | hk
    · exact .inl hk
    · exact .inr (.inr hk)
    · exact .inr (.inl hk)) (fun hx => ⟨⟨hx.1, hx.2.2⟩, hx.2.1⟩))
  refine (PairX.lv (o := S.over) (i := S.ids) (keeps_and hK (keeps_lv _ _ _ _ _ _ _)) h1 (fun k hk => ?_) hn.x ⟨hn.ge.1, hn.ge.2.1⟩ hc).mono fun e w' ⟨he, h2⟩ => ⟨he, ?_, ho, hn⟩
  · rcases hk with hk | rfl | rfl
    · exact ⟨fun e => ho k hk (by rw [e]; exact .inl (.inl rfl)), fun e => ho k hk (by rw [e]; exact .inl (.inr rfl))⟩
    · exact ⟨hn.xz.1.symm, hn.xz.2.2.1.symm⟩
    · exact ⟨hn.xz.2.1.symm, hn.xz.2.2.2.symm⟩
  · refine h2.less (fun k hk => ?_) (fun hx => ⟨hx.1.1, hx.2, hx.1.2⟩)
    rcases hk with hk | hk | hk
    · exact .inl (.inl hk)
    · exact .inr hk
    · exact .inl (.inr hk)
theorem BlR.swap (h : BlR w0 w P c S Z D X) : BlR w0 w ⟨P.p2, P.p, P.qz, P.iz, P.qx, P.ix⟩ c Z S D X := by
  obtain ⟨hp, ho, hn⟩ := h
  refine ⟨hp.swap.less (fun k hk => ?_) (fun hx => ⟨hx.1, hx.2.2, hx.2.1⟩), fun k hk hd => ho k hk (Or.symm hd), ⟨hn.z, hn.x, ⟨hn.xz.1.symm, hn.xz.2.2.1.symm, hn.xz.2.1.symm, hn.xz.2.2.2.symm⟩, ⟨hn.ge.2.2.1, hn.ge.2.2.2, hn.ge.1, hn.ge.2.1⟩⟩⟩
  rcases hk with hk | hk
  · exact .inl hk
  · exact .inr (Or.symm hk)
theorem bl_z {Q : Program} {f : FuncId} {args : Array Value} {R : Ending → Prop} {Z' : Ls} (hK : Keeps D X) (h : BlR w0 w P c S Z D X)
    (hc : ∀ (D' : Nat → Prop) (X' : World → Prop), Keeps D' X' → LvR w0 w P.p2 P.qz P.iz c 1 Z D' X' → Calls Q f args w fun e w' => R e ∧ LvR w0 w' P.p2 P.qz P.iz c 1 Z' D' X') :
    Calls Q f args w fun e w' => R e ∧ BlR w0 w' P c S Z' D X :=
  (bl_x hK h.swap hc).mono fun e w' ⟨he, h2⟩ => ⟨he, h2.swap⟩
theorem bl_many1 (h : BlR w0 w P c S Z D X) : Calls Try.prog 13 #[.pointer (some ⟨P.p, 0, none⟩)] w fun e w' => e = .returned (.int .i64 S.M.evs.length) ∧ w' = w := one_many h.pair.left
theorem bl_many2 (h : BlR w0 w P c S Z D X) : Calls Try.prog 13 #[.pointer (some ⟨P.p2, 0, none⟩)] w fun e w' => e = .returned (.int .i64 Z.M.evs.length) ∧ w' = w := one_many h.swap.pair.left
theorem bl_since1 (hK : Keeps D X) (h : BlR w0 w P c S Z D X) (hN : S.M.evs.length ≤ 1099511627776) (k : Nat) (hk : k ≤ S.M.evs.length) : Calls Try.prog 15 #[.pointer (some ⟨P.p, 0, none⟩), .int .i64 k] w fun e w' => ∃ v, e = .returned v ∧ SlE w' v (S.M.evs.drop k) ∧ Below w.heap.size w w' := by
  refine (one_since (keeps_and hK (keeps_bl P c S Z)) (k : Int) h.pair.left hN k (by omega)).mono fun e w' ⟨v, he, ho, hb, _⟩ => ⟨v, he, ho.x.2, hb⟩
theorem bl_since2 (hK : Keeps D X) (h : BlR w0 w P c S Z D X) (hN : Z.M.evs.length ≤ 1099511627776) (k : Nat) (hk : k ≤ Z.M.evs.length) : Calls Try.prog 15 #[.pointer (some ⟨P.p2, 0, none⟩), .int .i64 k] w fun e w' => ∃ v, e = .returned v ∧ SlE w' v (Z.M.evs.drop k) ∧ Below w.heap.size w w' := bl_since1 hK h.swap hN k hk
/-- two levels, as they are made -/
theorem bl_made {w5 w11 w12 : World} {p qx ix p2 qz iz : Nat} {c : Lc} {S Z : Ls} (hx : LvR w5 w11 p qx ix c 1 S (fun _ => False) (fun _ => True))
    (hz : LvR w11 w12 p2 qz iz c 1 Z (fun _ => False) (fun _ => True)) : BlR w5 w12 ⟨p, p2, qx, ix, qz, iz⟩ c S Z (fun _ => False) (fun _ => True) := by
  have hK := keeps_and keeps_true (keeps_lv p qx ix c 1 S.over S.ids)
  have hzg := hz.ge
  have hp := PairX.join hK hx.one hz.one (fun k hk => by
    rcases hk with hk | rfl | rfl
    · exact hk.elim
    · exact hzg.1
    · exact hzg.2)
  have hlt := hx.lt
  have s1 := hx.one.old.size
  have g1 := hx.ge
  refine ⟨hp.less (fun k hk => ?_) (fun hx => ⟨trivial, hx.1.2, hx.2.2⟩), fun k hk => hk.elim, ⟨hx.ne, hz.ne, ⟨?_, ?_, ?_, ?_⟩, ⟨g1.1, g1.2, ?_, ?_⟩⟩⟩
  · rcases hk with hk | (hk | hk)
    · exact hk.elim
    · exact .inl (.inr hk)
    · exact .inr (.inr hk)
  all_goals
    simp only
    omega
end Go.Proofs.Ythchfdobdghdoaa
end
