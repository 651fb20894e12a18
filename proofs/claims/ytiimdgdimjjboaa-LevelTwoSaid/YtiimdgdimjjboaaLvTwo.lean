/-
  LevelTwo, in plain Lean: two levels of one memory, and one alone.
-/
import Derived.Test.YtiimdgdimjjboaaHbp
set_option linter.unusedVariables false
set_option linter.unusedSimpArgs false
set_option linter.unusedSectionVars false
set_option linter.unnecessarySimpa false
namespace Go.Sg
open Go Go.RowKit Go.Proofs.Ytiimdgdimjjboaa
def shS (t : Int) (s : Sp) : Sp := (s.1 + t, s.2)
theorem shS_inj {t : Int} {a b : Sp} (h : shS t a = shS t b) : a = b := by
  unfold shS at h
  simp only [Prod.mk.injEq] at h
  exact Prod.ext (by omega) h.2
theorem spL_sh (first t : Int) (c : Lc) (lf : Int) : spL (first + t) c lf = (spL first c lf).map (shS t) := by
  have e : first + t + 1 = first + 1 + t := by omega
  unfold spL spTree spSt spRow
  rw [List.map_append, List.map_flatMap, List.map_map, e]
  congr 1
  refine congrArg (fun f => List.flatMap f (pathL c.1 lf)) (funext fun nd => ?_)
  rw [List.map_map]
  rfl
theorem putsM_fault : ∀ (l : List (Sp × List Int)) (M : Mm), (putsM M l).fault = M.fault := by
  intro l
  induction l with
  | nil => intro M; rfl
  | cons y l ih => intro M; exact (ih _).trans rfl
theorem accM_fault (M : Mm) (first : Int) (c : Lc) (fr : Int) (T : Nat → List Int) : (accM M first c fr T).fault = M.fault := by
  unfold accM bakM
  show (putsM _ _).fault = M.fault
  rw [putsM_fault]
  rfl
/-- two levels that look alike, the one t regions behind the other -/
def SimM (t first : Int) (c : Lc) (M M' : Mm) : Prop := ∀ lf, hasB c.1 lf = true → ∀ s ∈ spL first c lf, M'.read (s.1 + t) s.2 = M.read s.1 s.2
theorem sim_cells {t first : Int} {c : Lc} {M M' : Mm} (h : SimM t first c M M') {fr : Int} (hfr : hasB c.1 fr = true) : accC M' (first + t) c fr = accC M first c fr := by
  unfold accC
  rw [spL_sh, List.map_map]
  exact List.map_congr_left fun s hs => h fr hfr s hs
structure SimL (t first : Int) (c : Lc) (S S' : Ls) : Prop where
  m : SimM t first c S.M S'.M
  over : S'.over = S.over
  ids : S'.ids = S.ids
theorem sim_tell {t first : Int} {c : Lc} {S S' : Ls} (hr : lcRight c = true) (h : SimL t first c S S') (op id at' fr lf : Int) : S'.tell (first + t) c op id at' fr lf = S.tell first c op id at' fr lf := by
  unfold Ls.tell
  by_cases hb : badA c op id at' fr lf = true
  · rw [if_pos hb, if_pos hb]
  · rw [if_neg hb, if_neg hb]
    obtain ⟨q1, q2, q3, q4, q5⟩ := badA_no hr (by simpa using hb)
    unfold accO
    rw [sim_cells h.m q3]
theorem sim_step {t first : Int} {c : Lc} {S S' : Ls} {op id at' fr lf : Int} {d : List Int} (hr : lcRight c = true) (h : SimL t first c S S') (hf : 0 ≤ first) (hf' : 0 ≤ first + t) (hok : LvOk c first S.M) (hok' : LvOk c (first + t) S'.M) : SimL t first c (S.acc first c op id at' d fr lf) (S'.acc (first + t) c op id at' d fr lf) := by
  unfold Ls.acc
  by_cases hb : badA c op id at' fr lf = true
  · rw [if_pos hb, if_pos hb]; exact h
  · rw [if_neg hb, if_neg hb]
    obtain ⟨q1, q2, q3, q4, q5⟩ := badA_no hr (by simpa using hb)
    have hT : accT S'.M (first + t) c fr lf id op at' d = accT S.M first c fr lf id op at' d := by
      unfold accT accO
      rw [sim_cells h.m q3]
    rw [hT]
    generalize accT S.M first c fr lf id op at' d = T
    refine ⟨fun lf' hlf s hs => ?_, by simp only [h.over], by simp only [h.ids]⟩
    have hsp := fun s hs => (hok.sp fr q3 s hs).1
    have hsp' := fun s hs => (hok'.sp fr q3 s hs).1
    by_cases hin : s ∈ spL first c fr
    · obtain ⟨i, hi, rfl⟩ := List.getElem_of_mem hin
      have hi' : i < (spL (first + t) c fr).length := by rw [spL_sh, List.length_map]; exact hi
      have e1 := accM_at (T := T) hr q3 hf hok.tab hsp hi
      have e2 := accM_at (T := T) hr q3 hf' hok'.tab hsp' hi'
      have e3 : (spL (first + t) c fr)[i] = shS t (spL first c fr)[i] := by simp [spL_sh]
      rw [e3] at e2
      exact e2.trans e1.symm
    · have hreg := spL_reg s hs
      have hin' : shS t s ∉ spL (first + t) c fr := by
        rw [spL_sh]
        intro hm
        obtain ⟨s2, h2, h3⟩ := List.mem_map.1 hm
        rw [shS_inj h3] at h2
        exact hin h2
      have e1 := accM_off (T := T) hf hok.tab hsp hin (by omega)
      have e2 := accM_off (T := T) hf' hok'.tab hsp' hin' (by unfold shS; simp only; omega)
      exact e2.trans ((h.m lf' hlf s hs).trans e1.symm)
/-- a level elsewhere -/
theorem far_read {c d : Lc} {f g fr : Int} {M : Mm} {T : Nat → List Int} (hne : f + 2 < g ∨ g + 2 < f) (hg : 0 ≤ g) (hok : LvOk d g M) (hfr : hasB d.1 fr = true) {lf : Int} {s : Sp} (hs : s ∈ spL f c lf) : (accM M g d fr T).read s.1 s.2 = M.read s.1 s.2 := by
  have h1 := spL_reg s hs
  refine accM_off hg hok.tab (fun s hs => (hok.sp fr hfr s hs).1) (fun h => ?_) (by omega)
  have h2 := spL_reg s h
  omega
theorem far_ok {c d : Lc} {f g : Int} {S : Ls} {op id at' fr lf : Int} {x : List Int} (hr : lcRight d = true) (hne : f + 2 < g ∨ g + 2 < f) (hg : 0 ≤ g) (hok : LvOk d g S.M) (h : LvOk c f S.M) : LvOk c f (S.acc g d op id at' x fr lf).M := by
  unfold Ls.acc
  by_cases hb : badA d op id at' fr lf = true
  · rw [if_pos hb]; exact h
  · rw [if_neg hb]
    obtain ⟨q1, q2, q3, q4, q5⟩ := badA_no hr (by simpa using hb)
    exact ⟨fun lf' hlf s hs => ⟨by rw [accM_has hok.tab]; exact (h.sp lf' hlf s hs).1, by rw [far_read hne hg hok q3 hs]; exact (h.sp lf' hlf s hs).2⟩, by rw [accM_size hok.tab]; exact h.tab⟩
theorem far_sim {c d : Lc} {t f g : Int} {S : Ls} {M' : Mm} {op id at' fr lf : Int} {x : List Int} (hr : lcRight d = true) (hne : f + 2 < g ∨ g + 2 < f) (hg : 0 ≤ g) (hok : LvOk d g S.M) (h : SimM t f c S.M M') : SimM t f c (S.acc g d op id at' x fr lf).M M' := by
  unfold Ls.acc
  by_cases hb : badA d op id at' fr lf = true
  · rw [if_pos hb]; exact h
  · rw [if_neg hb]
    obtain ⟨q1, q2, q3, q4, q5⟩ := badA_no hr (by simpa using hb)
    exact fun lf' hlf s hs => (h lf' hlf s hs).trans (far_read hne hg hok q3 hs).symm
theorem acc_fault (S : Ls) (first : Int) (c : Lc) (op id at' fr lf : Int) (d : List Int) : (S.acc first c op id at' d fr lf).M.fault = S.M.fault := by
  unfold Ls.acc
  split
  · rfl
  · exact accM_fault _ _ _ _ _
structure TwoI (c d : Lc) (M : Mm) (ox : Bool) (ix : List Int) (oy : Bool) (iy : List Int) (Z : Ls) (k : Nat) : Prop where
  x : LsFit c 0 ⟨M, ox, ix⟩ (2 * k)
  y : LsFit d 3 ⟨M, oy, iy⟩ (2 * k)
  z : LsFit c 1 Z (2 * k)
  sim : SimL 1 0 c ⟨M, ox, ix⟩ Z
  fault : M.fault = false
theorem fit_more {c : Lc} {f : Int} {S : Ls} {k m : Nat} (h : LsFit c f S k) (hm : k ≤ m) : LsFit c f S m := ⟨h.ok, Nat.le_trans h.ids hm, Nat.le_trans h.evs (Nat.mul_le_mul_right _ hm)⟩
theorem two_step {c d : Lc} (hC : CfgOk c) (hD : CfgOk d) {M : Mm} {ox : Bool} {ix : List Int} {oy : Bool} {iy : List Int} {Z : Ls} {k : Nat} (h : TwoI c d M ox ix oy iy Z k) {op id at' fr lf : Int} {e e2 : List Int} (hid : 0 ≤ id) (he : e.length = 8 ∧ ∀ x ∈ e, Word x) (he2 : e2.length = 8 ∧ ∀ x ∈ e2, Word x)
    {X2 Y2 Z2 : Ls} (hX : X2 = Ls.acc ⟨M, ox, ix⟩ 0 c op id at' e fr lf) (hZ : Z2 = Z.acc 1 c op id at' e fr lf) (hY : Y2 = Ls.acc ⟨X2.M, oy, iy⟩ 3 d op id at' e2 lf fr) :
    Z.tell 1 c op id at' fr lf = Ls.tell ⟨M, ox, ix⟩ 0 c op id at' fr lf ∧ Z2.over = X2.over ∧ Z2.ids = X2.ids ∧ LsFit d 3 ⟨X2.M, oy, iy⟩ (2 * k + 1) ∧ TwoI c d Y2.M X2.over X2.ids Y2.over Y2.ids Z2 (k + 1) := by
  have t1 := sim_tell hC.right h.sim op id at' fr lf
  have s1 := sim_step (op := op) (id := id) (at' := at') (fr := fr) (lf := lf) (d := e) hC.right h.sim (by decide) (by decide) h.x.ok h.z.ok
  have fx := fit_step (op := op) (at' := at') (fr := fr) (lf := lf) hC.right (by decide) h.x hid he
  have fz := fit_step (op := op) (at' := at') (fr := fr) (lf := lf) hC.right (by decide) h.z hid he
  have y1 := far_ok (c := d) (d := c) (f := 3) (g := 0) (S := ⟨M, ox, ix⟩) (op := op) (id := id) (at' := at') (fr := fr) (lf := lf) (x := e) hC.right (.inr (by decide)) (by decide) h.x.ok h.y.ok
  have ft := acc_fault ⟨M, ox, ix⟩ 0 c op id at' fr lf e
  rw [← hX] at s1 fx y1 ft
  rw [show (0 : Int) + 1 = 1 by decide, ← hZ] at s1
  rw [← hZ] at fz
  have fy : LsFit d 3 ⟨X2.M, oy, iy⟩ (2 * k + 1) := ⟨y1, Nat.le_trans h.y.ids (Nat.le_succ _), fx.evs⟩
  have fy2 := fit_step (op := op) (id := id) (at' := at') (fr := lf) (lf := fr) hD.right (by decide) fy hid he2
  have x1 := far_ok (c := c) (d := d) (f := 0) (g := 3) (S := ⟨X2.M, oy, iy⟩) (op := op) (id := id) (at' := at') (fr := lf) (lf := fr) (x := e2) hD.right (.inl (by decide)) (by decide) y1 fx.ok
  have m1 := far_sim (c := c) (d := d) (f := 0) (g := 3) (S := ⟨X2.M, oy, iy⟩) (op := op) (id := id) (at' := at') (fr := lf) (lf := fr) (x := e2) hD.right (.inl (by decide)) (by decide) y1 s1.m
  have ft2 := acc_fault ⟨X2.M, oy, iy⟩ 3 d op id at' lf fr e2
  rw [← hY] at fy2 x1 m1 ft2
  refine ⟨t1, s1.over, s1.ids, fy, ⟨⟨x1, Nat.le_trans fx.ids (by omega), fy2.evs⟩, fy2, fit_more fz (by omega), ⟨m1, s1.over, s1.ids⟩, ?_⟩⟩
  rw [ft2]
  exact ft.trans h.fault
/-- the regions of two levels -/
def zs2 (c d : Lc) : List Int := [(szL c).1, (szL c).2.1, (szL c).2.2, (szL d).1, (szL d).2.1, (szL d).2.2]
theorem zs2_ok {c d : Lc} (hC : CfgOk c) (hD : CfgOk d) : Mm.newOk (zs2 c d) = true := by
  have h1 := hC.new
  have h2 := hD.new
  unfold zsL Mm.newOk at h1 h2
  unfold zs2 Mm.newOk
  simp only [List.any_cons, List.any_nil, Bool.or_false, Bool.and_eq_true, Bool.not_eq_true', Bool.or_eq_false_iff] at h1 h2 ⊢
  obtain ⟨_, _, a1, a2, a3⟩ := h1
  obtain ⟨_, _, c1, c2, c3⟩ := h2
  exact ⟨⟨rfl, rfl⟩, a1, a2, a3, c1, c2, c3⟩
theorem fresh_lv {c : Lc} (hr : lcRight c = true) {zs : List Int} {f : Nat} (h0 : zs[f]? = some (szL c).1) (h1 : zs[f + 1]? = some (szL c).2.1) (h2 : zs[f + 2]? = some (szL c).2.2) : LvOk c (f : Int) (Mm.fresh zs) ∧ newOk (Mm.fresh zs) (f : Int) c = true := by
  have hb := lcRight_bd hr
  have hz : szL c = (c.2.1 * nodesI c.1, c.2.2, lcTab c) := by unfold szL; rw [if_pos hr]
  rw [hz] at h0 h1 h2
  obtain ⟨q0, p0⟩ := List.getElem?_eq_some_iff.1 h0
  obtain ⟨q1, p1⟩ := List.getElem?_eq_some_iff.1 h1
  obtain ⟨q2, p2⟩ := List.getElem?_eq_some_iff.1 h2
  have s1 : (Mm.fresh zs).size (f : Int) = (c.2.1 * nodesI c.1).toNat := by rw [fresh_size zs f q0, p0]
  have s2 : (Mm.fresh zs).size ((f : Int) + 1) = c.2.2.toNat := by
    have := fresh_size zs (f + 1) q1
    rw [p1] at this
    exact this
  have s3 : (Mm.fresh zs).size ((f : Int) + 2) = (lcTab c).toNat := by
    have := fresh_size zs (f + 2) q2
    rw [p2] at this
    exact this
  have hn0 : 0 ≤ c.2.1 * nodesI c.1 := by
    refine Int.mul_nonneg (by omega) ?_
    have hR := (lcRight_iff hr).1
    obtain ⟨D, hD, e⟩ := rightB_of hR
    have h3 := pow_mono' 0 D (by omega)
    have h4 : (2 : Int) ^ 0 = 1 := by decide
    unfold nodesI
    rw [if_pos hR]
    omega
  have ht := (lcTab_bd c).1
  refine ⟨⟨fun lf hlf s hs => ⟨?_, by rw [fresh_read]; exact zeros_ok _⟩, by rw [s3]; exact Nat.le_refl _⟩, ?_⟩
  · have h3 := spL_sub hr hlf s hs
    unfold allS at h3
    rcases List.mem_append.1 h3 with h4 | h4
    · obtain ⟨a, ha, rfl⟩ := List.mem_map.1 h4
      refine Mm.has_lt ?_
      rw [s1]
      exact List.mem_range.1 ha
    · obtain ⟨a, ha, rfl⟩ := spSt_mem.1 h4
      refine Mm.has_lt ?_
      rw [s2]
      exact ha
  · unfold newOk
    rw [hr, hz, s1, s2, s3]
    simp only [Bool.true_and]
    rw [decide_eq_true (by omega), decide_eq_true (by omega), decide_eq_true (by omega)]
    rfl
theorem two_start {c d : Lc} (hC : CfgOk c) (hD : CfgOk d) : TwoI c d (Mm.fresh (zs2 c d)) false [] false [] (mkL c) 0 ∧ newOk (Mm.fresh (zs2 c d)) 0 c = true ∧ newOk (Mm.fresh (zs2 c d)) 3 d = true := by
  have h1 := fresh_lv (zs := zs2 c d) (f := 0) hC.right rfl rfl rfl
  have h2 := fresh_lv (zs := zs2 c d) (f := 3) hD.right rfl rfl rfl
  exact ⟨⟨⟨h1.1, Nat.le_refl _, Nat.le_refl _⟩, ⟨h2.1, Nat.le_refl _, Nat.le_refl _⟩, fit_start hC.right, ⟨fun lf _ s _ => by
    show (Mm.fresh _).read _ _ = (Mm.fresh _).read _ _
    rw [fresh_read, fresh_read], rfl, rfl⟩, rfl⟩, h1.2, h2.2⟩
end Go.Sg
