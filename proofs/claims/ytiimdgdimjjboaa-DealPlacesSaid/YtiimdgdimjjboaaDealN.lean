/-
  The walk of the dealer's next.
-/
import Derived.Test.YtiimdgdimjjboaaDealT
import Derived.Test.YtiimdgdimjjboaaMFr
namespace Go.Sg
open Go Go.RowKit
/-- what a dealer has: its level, its place on it, its stash -/
abbrev Ds := Int × Int × Int
def sinkD (x : Ds) (deep : Int) : Ds := if deep < x.1 then (deep, 0, x.2.2) else x
/-- the next place, and what the dealer has then -/
def takeD (s : Sh) (x : Ds) : Int × Ds :=
  if x.1 < 0 then if x.2.2 = s.2.2 then (-1, x) else (levelsD s + x.2.2, (x.1, x.2.1, x.2.2 + 1))
  else (x.1 * s.2.1 + x.2.1, if x.2.1 + 1 = s.2.1 then (x.1 - 1, 0, x.2.2) else (x.1, x.2.1 + 1, x.2.2))
def nextD (s : Sh) (x : Ds) (deep : Int) : Int × Ds := takeD s (sinkD x deep)
def DsOk (s : Sh) (x : Ds) : Prop := -1 ≤ x.1 ∧ x.1 ≤ s.1 ∧ 0 ≤ x.2.1 ∧ x.2.1 < s.2.1 ∧ 0 ≤ x.2.2 ∧ x.2.2 ≤ s.2.2
theorem sinkD_ok {s : Sh} {x : Ds} {deep : Int} (h : DsOk s x) (hs : rightD s = true) (h0 : 0 ≤ deep) : DsOk s (sinkD x deep) := by
  rw [rightD_iff] at hs
  unfold sinkD DsOk at *
  split
  · simp only; omega
  · exact h
theorem takeD_ok {s : Sh} {x : Ds} (h : DsOk s x) (hs : rightD s = true) : DsOk s (takeD s x).2 := by
  rw [rightD_iff] at hs
  unfold takeD DsOk at *
  split
  · split
    · exact h
    · simp only; omega
  · split
    · simp only; omega
    · simp only; omega
def NX (T : TypeId) (w0 : World) (D : Nat) (vals : Array Value) (w : World) : Prop := Blk w D vals T ∧ MFrame (fun i => i = D) w0 w
theorem NX.set {T : TypeId} {w0 w : World} {D : Nat} {vals : Array Value} (h : NX T w0 D vals w) (o : Nat) (v : Value) : NX T w0 D (vals.setIfInBounds o v) (w.setCell ⟨D, o, none⟩ v) :=
  ⟨h.1.set o v, h.2.setCells [v] o (.inl rfl)⟩
theorem NX.below {T : TypeId} {w0 w w' : World} {D : Nat} {vals : Array Value} (h : NX T w0 D vals w) (hb : Below w.heap.size w w') : NX T w0 D vals w' :=
  ⟨h.1.below hb h.1.lt, h.2.trans (MFrame.of_below hb)⟩
end Go.Sg
namespace Go.Proofs.Ytiimdgdimjjboaa
open Go Go.RowKit Go.Sg
theorem info_shD (x y z : Int) : (Try.prog.info? 23).map (·.size) = some [Value.int .i64 x, .int .i64 y, .int .i64 z].length := by kernel_rfl
set_option maxHeartbeats 1500000 in
set_option maxRecDepth 100000 in
theorem next_any (s : Sh) (hs : rightD s = true) (x : Ds) (hx : DsOk s x) (deep : Int) (hd0 : 0 ≤ deep) (D : Nat) (w : World) (hb : Blk w D #[.int .i64 s.1, .int .i64 s.2.1, .int .i64 s.2.2, .int .i64 x.1, .int .i64 x.2.1, .int .i64 x.2.2] 90) :
    Calls Try.prog 46 #[.pointer (some ⟨D, 0, none⟩), .int .i64 deep] w fun e w' => e = .returned (.int .i64 (nextD s x deep).1) ∧ NX 90 w D #[.int .i64 s.1, .int .i64 s.2.1, .int .i64 s.2.2, .int .i64 (nextD s x deep).2.1, .int .i64 (nextD s x deep).2.2.1, .int .i64 (nextD s x deep).2.2.2] w' := by
  obtain ⟨y, hy⟩ : ∃ y, sinkD x deep = y := ⟨_, rfl⟩
  have hyok := sinkD_ok hx hs hd0
  have kl := fun w' => levels_any s hs w'
  have hlb := levelsD_bd hs
  have hn : nextD s x deep = takeD s y := by unfold nextD; rw [hy]
  have htd : takeD s y = if y.1 < 0 then if y.2.2 = s.2.2 then (-1, y) else (levelsD s + y.2.2, (y.1, y.2.1, y.2.2 + 1)) else (y.1 * s.2.1 + y.2.1, if y.2.1 + 1 = s.2.1 then (y.1 - 1, 0, y.2.2) else (y.1, y.2.1 + 1, y.2.2)) := rfl
  rw [hn, htd]
  rw [hy] at hyok
  rw [rightD_iff] at hs
  generalize levelsD s = LV at *
  clear hn htd
  obtain ⟨⟨p, lv3, on3, sh3⟩, hr⟩ : ∃ r : Int × Ds, (if y.1 < 0 then if y.2.2 = s.2.2 then (-1, y) else (LV + y.2.2, (y.1, y.2.1, y.2.2 + 1)) else (y.1 * s.2.1 + y.2.1, if y.2.1 + 1 = s.2.1 then (y.1 - 1, 0, y.2.2) else (y.1, y.2.1 + 1, y.2.2))) = r := ⟨_, rfl⟩
  rw [hr]
  obtain ⟨d, sl, st⟩ := s
  obtain ⟨lv, on, sh⟩ := x
  obtain ⟨lv2, on2, sh2⟩ := y
  unfold DsOk at hx hyok
  simp only at *
  have KL : Hid (∀ (w1 : World) (w' : World), Below w1.heap.size w1 w' → Calls Try.prog 50 #[.agg [.int .i64 d, .int .i64 sl, .int .i64 st].toArray] w' fun e w'' => e = .returned (.int .i64 LV) ∧ Below w1.heap.size w1 w'') := Lib.hid fun w1 w' h => cls_call (P := Try.prog) kl (Nat.le_refl _) h
  clear kl
  obtain ⟨wo, rfl⟩ : ∃ wo : World, wo = w := ⟨_, rfl⟩
  have HN : Hid (NX 90 wo D #[.int .i64 d, .int .i64 sl, .int .i64 st, .int .i64 lv, .int .i64 on, .int .i64 sh] wo) := Lib.hid ⟨hb, MFrame.refl _ _⟩
  clear hb
  go_enter Try.func46, Try.ntmps46
  go_upto_region 1 with fail
  have c3 : wo.cell? ⟨D, 3, none⟩ = some (.int .i64 lv) := HN.out.1.cell 3
  have f3 := HN.out.1.free 3
  have c4 : wo.cell? ⟨D, 4, none⟩ = some (.int .i64 on) := HN.out.1.cell 4
  have f4 := HN.out.1.free 4
  have HY := Lib.hid hy
  clear hy
  by_cases hdl : deep < lv
  focus
    have d1 : decide (deep < lv) = true := decide_eq_true hdl
    have e : (deep, (0 : Int), sh) = (lv2, on2, sh2) := by rw [← HY.out]; unfold sinkD; rw [if_pos hdl]
    simp only [Prod.mk.injEq] at e
    obtain ⟨e1, e2, e3⟩ := e
    have HE := Lib.hid (And.intro e1 (And.intro e2 e3))
    clear e1 e2 e3
    go_upto_region 3 with fail
    refine at_world (fun w' => NX 90 wo D #[.int .i64 d, .int .i64 sl, .int .i64 st, .int .i64 lv2, .int .i64 on2, .int .i64 sh2] w') (by rw [← HE.out.1, ← HE.out.2.1, ← HE.out.2.2]; exact (HN.out.set 3 (.int .i64 deep)).set 4 (.int .i64 0)) ?_
    intro w2 hN2
  rotate_left
  focus
    have d1 : decide (deep < lv) = false := decide_eq_false hdl
    have e : (lv, on, sh) = (lv2, on2, sh2) := by rw [← HY.out]; unfold sinkD; rw [if_neg hdl]
    simp only [Prod.mk.injEq] at e
    obtain ⟨e1, e2, e3⟩ := e
    have HE := Lib.hid (And.intro e1 (And.intro e2 e3))
    clear e1 e2 e3
    go_upto_region 3 with fail
    refine at_world (fun w' => NX 90 wo D #[.int .i64 d, .int .i64 sl, .int .i64 st, .int .i64 lv2, .int .i64 on2, .int .i64 sh2] w') (by rw [← HE.out.1, ← HE.out.2.1, ← HE.out.2.2]; exact HN.out) ?_
    intro w2 hN2
  all_goals
    clear HN c3 f3 c4 f4 hdl d1 HE HY
    have HN := Lib.hid hN2
    clear hN2
    by_cases hneg : lv2 < 0
    · have d2 : decide (lv2 < 0) = true := decide_eq_true hneg
      rw [if_pos hneg] at hr
      by_cases hfull : sh2 = st
      · have q : (sh2 == st) = true := by simp [hfull]
        rw [if_pos hfull] at hr
        simp only [Prod.mk.injEq] at hr
        have HE := Lib.hid hr
        clear hr
        obtain ⟨C, hCi, hCo, hCB⟩ : ∃ C : World → Prop, C w2.drew ∧ (∀ w', C w' → Below w2.heap.size w2 w') ∧ (∀ w', C w' → Blk w' D #[.int .i64 d, .int .i64 sl, .int .i64 st, .int .i64 lv2, .int .i64 on2, .int .i64 sh2] 90) :=
          ⟨fun w' => Below w2.heap.size w2 w', (Below.refl _ _).drew, fun _ h => h, fun w' h => HN.out.1.below h HN.out.1.lt⟩
        have HCO := Lib.hid hCo
        have HCB := Lib.hid hCB
        clear hCo hCB
        go_upto_region 3 with fail
        refine wp_region_cls C (by kernel_rfl) (by kernel_rfl) hCi ?_
        with_reducible refine wpQuiet_step ?_
        intro K hK
        go_simp
        first
          | (with_reducible refine hK _ ?_)
          | (with_reducible refine ⟨_, fun _ _ => rfl, hK _ ?_⟩)
        clear hK K
        try simp only [Act.put, List.setIfInBounds_toArray, List.set_cons_zero, List.set_cons_succ]
        with_reducible refine wpQuiet_step ?_
        intro K hK
        go_simp
        first
          | (with_reducible refine hK _ ?_)
          | (with_reducible refine ⟨_, fun _ _ => rfl, hK _ ?_⟩)
        clear hK K
        try simp only [Act.put, List.setIfInBounds_toArray, List.set_cons_zero, List.set_cons_succ]
        with_reducible refine wpQuiet_step ?_
        intro K hK
        go_simp
        first
          | (with_reducible refine hK _ ?_)
          | (with_reducible refine ⟨_, fun _ _ => rfl, hK _ ?_⟩)
        clear hK K
        try simp only [Act.put, List.setIfInBounds_toArray, List.set_cons_zero, List.set_cons_succ]
        with_reducible refine wpQuiet_step ?_
        intro K hK
        refine qs_load_cell (by rfl) 3 _ rfl ⟨D, 3, none⟩ rfl (.int .i64 lv2) (fun w hw => (HCB.out w hw).cell 3) Try.isAgg3 (hK _ ?_)
        clear hK K
        try simp only [Act.put, List.setIfInBounds_toArray, List.set_cons_zero, List.set_cons_succ]
        with_reducible refine wpQuiet_step ?_
        intro K hK
        go_simp
        first
          | (with_reducible refine hK _ ?_)
          | (with_reducible refine ⟨_, fun _ _ => rfl, hK _ ?_⟩)
        clear hK K
        try simp only [Act.put, List.setIfInBounds_toArray, List.set_cons_zero, List.set_cons_succ]
        with_reducible refine wpQuiet_step ?_
        intro K hK
        go_simp
        first
          | (with_reducible refine hK _ ?_)
          | (with_reducible refine ⟨_, fun _ _ => rfl, hK _ ?_⟩)
        clear hK K
        try simp only [Act.put, List.setIfInBounds_toArray, List.set_cons_zero, List.set_cons_succ]
        with_reducible refine wpQuiet_step ?_
        intro K hK
        go_simp
        first
          | (with_reducible refine hK _ ?_)
          | (with_reducible refine ⟨_, fun _ _ => rfl, hK _ ?_⟩)
        clear hK K
        try simp only [Act.put, List.setIfInBounds_toArray, List.set_cons_zero, List.set_cons_succ]
        with_reducible refine wpQuiet_step ?_
        intro K hK
        go_simp
        first
          | (with_reducible refine hK _ ?_)
          | (with_reducible refine ⟨_, fun _ _ => rfl, hK _ ?_⟩)
        clear hK K
        try simp only [Act.put, List.setIfInBounds_toArray, List.set_cons_zero, List.set_cons_succ]
        with_reducible refine wpQuiet_step ?_
        intro K hK
        go_simp
        first
          | (with_reducible refine hK _ ?_)
          | (with_reducible refine ⟨_, fun _ _ => rfl, hK _ ?_⟩)
        clear hK K
        try simp only [Act.put, List.setIfInBounds_toArray, List.set_cons_zero, List.set_cons_succ]
        with_reducible refine wpQuiet_step ?_
        intro K hK
        refine qs_load_cell (by rfl) 3 _ rfl ⟨D, 5, none⟩ rfl (.int .i64 sh2) (fun w hw => (HCB.out w hw).cell 5) Try.isAgg3 (hK _ ?_)
        clear hK K
        try simp only [Act.put, List.setIfInBounds_toArray, List.set_cons_zero, List.set_cons_succ]
        with_reducible refine wpQuiet_step ?_
        intro K hK
        go_simp
        first
          | (with_reducible refine hK _ ?_)
          | (with_reducible refine ⟨_, fun _ _ => rfl, hK _ ?_⟩)
        clear hK K
        try simp only [Act.put, List.setIfInBounds_toArray, List.set_cons_zero, List.set_cons_succ]
        with_reducible refine wpQuiet_step ?_
        intro K hK
        go_simp
        first
          | (with_reducible refine hK _ ?_)
          | (with_reducible refine ⟨_, fun _ _ => rfl, hK _ ?_⟩)
        clear hK K
        try simp only [Act.put, List.setIfInBounds_toArray, List.set_cons_zero, List.set_cons_succ]
        with_reducible refine wpQuiet_step ?_
        intro K hK
        go_simp
        first
          | (with_reducible refine hK _ ?_)
          | (with_reducible refine ⟨_, fun _ _ => rfl, hK _ ?_⟩)
        clear hK K
        try simp only [Act.put, List.setIfInBounds_toArray, List.set_cons_zero, List.set_cons_succ]
        with_reducible refine wpQuiet_step ?_
        intro K hK
        go_simp
        first
          | (with_reducible refine hK _ ?_)
          | (with_reducible refine ⟨_, fun _ _ => rfl, hK _ ?_⟩)
        clear hK K
        try simp only [Act.put, List.setIfInBounds_toArray, List.set_cons_zero, List.set_cons_succ]
        with_reducible refine wpQuiet_step ?_
        intro K hK
        refine qs_load_cell (by rfl) 3 _ rfl ⟨D, 2, none⟩ rfl (.int .i64 st) (fun w hw => (HCB.out w hw).cell 2) Try.isAgg3 (hK _ ?_)
        clear hK K
        try simp only [Act.put, List.setIfInBounds_toArray, List.set_cons_zero, List.set_cons_succ]
        with_reducible refine wpQuiet_step ?_
        intro K hK
        go_simp
        first
          | (with_reducible refine hK _ ?_)
          | (with_reducible refine ⟨_, fun _ _ => rfl, hK _ ?_⟩)
        clear hK K
        try simp only [Act.put, List.setIfInBounds_toArray, List.set_cons_zero, List.set_cons_succ]
        with_reducible refine wpQuiet_step ?_
        intro K hK
        go_simp
        first
          | (with_reducible refine hK _ ?_)
          | (with_reducible refine ⟨_, fun _ _ => rfl, hK _ ?_⟩)
        clear hK K
        try simp only [Act.put, List.setIfInBounds_toArray, List.set_cons_zero, List.set_cons_succ]
        with_reducible refine wpQuiet_step ?_
        intro K hK
        go_simp
        first
          | (with_reducible refine hK _ ?_)
          | (with_reducible refine ⟨_, fun _ _ => rfl, hK _ ?_⟩)
        clear hK K
        try simp only [Act.put, List.setIfInBounds_toArray, List.set_cons_zero, List.set_cons_succ]
        refine wpQuiet_nil ?_
        intro wn hCn
        have HN := Lib.hid (HN.out.below (HCO.out _ hCn))
        clear hCn hCi HCO HCB
        go_wp2
        go_ret
        exact ⟨by rw [← HE.out.1]; rfl, by rw [← HE.out.2.1, ← HE.out.2.2.1, ← HE.out.2.2.2]; exact HN.out⟩
      · have q : (sh2 == st) = false := by simpa using hfull
        rw [if_neg hfull] at hr
        simp only [Prod.mk.injEq] at hr
        have HE := Lib.hid hr
        clear hr
        obtain ⟨C, hCi, hCo, hCB⟩ : ∃ C : World → Prop, C w2.drew ∧ (∀ w', C w' → Below w2.heap.size w2 w') ∧ (∀ w', C w' → Blk w' D #[.int .i64 d, .int .i64 sl, .int .i64 st, .int .i64 lv2, .int .i64 on2, .int .i64 sh2] 90) :=
          ⟨fun w' => Below w2.heap.size w2 w', (Below.refl _ _).drew, fun _ h => h, fun w' h => HN.out.1.below h HN.out.1.lt⟩
        have HCO := Lib.hid hCo
        have HCB := Lib.hid hCB
        clear hCo hCB
        go_upto_region 3 with fail
        refine wp_region_cls C (by kernel_rfl) (by kernel_rfl) hCi ?_
        with_reducible refine wpQuiet_step ?_
        intro K hK
        go_simp
        first
          | (with_reducible refine hK _ ?_)
          | (with_reducible refine ⟨_, fun _ _ => rfl, hK _ ?_⟩)
        clear hK K
        try simp only [Act.put, List.setIfInBounds_toArray, List.set_cons_zero, List.set_cons_succ]
        with_reducible refine wpQuiet_step ?_
        intro K hK
        go_simp
        first
          | (with_reducible refine hK _ ?_)
          | (with_reducible refine ⟨_, fun _ _ => rfl, hK _ ?_⟩)
        clear hK K
        try simp only [Act.put, List.setIfInBounds_toArray, List.set_cons_zero, List.set_cons_succ]
        with_reducible refine wpQuiet_step ?_
        intro K hK
        go_simp
        first
          | (with_reducible refine hK _ ?_)
          | (with_reducible refine ⟨_, fun _ _ => rfl, hK _ ?_⟩)
        clear hK K
        try simp only [Act.put, List.setIfInBounds_toArray, List.set_cons_zero, List.set_cons_succ]
        with_reducible refine wpQuiet_step ?_
        intro K hK
        refine qs_load_cell (by rfl) 3 _ rfl ⟨D, 3, none⟩ rfl (.int .i64 lv2) (fun w hw => (HCB.out w hw).cell 3) Try.isAgg3 (hK _ ?_)
        clear hK K
        try simp only [Act.put, List.setIfInBounds_toArray, List.set_cons_zero, List.set_cons_succ]
        with_reducible refine wpQuiet_step ?_
        intro K hK
        go_simp
        first
          | (with_reducible refine hK _ ?_)
          | (with_reducible refine ⟨_, fun _ _ => rfl, hK _ ?_⟩)
        clear hK K
        try simp only [Act.put, List.setIfInBounds_toArray, List.set_cons_zero, List.set_cons_succ]
        with_reducible refine wpQuiet_step ?_
        intro K hK
        go_simp
        first
          | (with_reducible refine hK _ ?_)
          | (with_reducible refine ⟨_, fun _ _ => rfl, hK _ ?_⟩)
        clear hK K
        try simp only [Act.put, List.setIfInBounds_toArray, List.set_cons_zero, List.set_cons_succ]
        with_reducible refine wpQuiet_step ?_
        intro K hK
        go_simp
        first
          | (with_reducible refine hK _ ?_)
          | (with_reducible refine ⟨_, fun _ _ => rfl, hK _ ?_⟩)
        clear hK K
        try simp only [Act.put, List.setIfInBounds_toArray, List.set_cons_zero, List.set_cons_succ]
        with_reducible refine wpQuiet_step ?_
        intro K hK
        go_simp
        first
          | (with_reducible refine hK _ ?_)
          | (with_reducible refine ⟨_, fun _ _ => rfl, hK _ ?_⟩)
        clear hK K
        try simp only [Act.put, List.setIfInBounds_toArray, List.set_cons_zero, List.set_cons_succ]
        with_reducible refine wpQuiet_step ?_
        intro K hK
        go_simp
        first
          | (with_reducible refine hK _ ?_)
          | (with_reducible refine ⟨_, fun _ _ => rfl, hK _ ?_⟩)
        clear hK K
        try simp only [Act.put, List.setIfInBounds_toArray, List.set_cons_zero, List.set_cons_succ]
        with_reducible refine wpQuiet_step ?_
        intro K hK
        refine qs_load_cell (by rfl) 3 _ rfl ⟨D, 5, none⟩ rfl (.int .i64 sh2) (fun w hw => (HCB.out w hw).cell 5) Try.isAgg3 (hK _ ?_)
        clear hK K
        try simp only [Act.put, List.setIfInBounds_toArray, List.set_cons_zero, List.set_cons_succ]
        with_reducible refine wpQuiet_step ?_
        intro K hK
        go_simp
        first
          | (with_reducible refine hK _ ?_)
          | (with_reducible refine ⟨_, fun _ _ => rfl, hK _ ?_⟩)
        clear hK K
        try simp only [Act.put, List.setIfInBounds_toArray, List.set_cons_zero, List.set_cons_succ]
        with_reducible refine wpQuiet_step ?_
        intro K hK
        go_simp
        first
          | (with_reducible refine hK _ ?_)
          | (with_reducible refine ⟨_, fun _ _ => rfl, hK _ ?_⟩)
        clear hK K
        try simp only [Act.put, List.setIfInBounds_toArray, List.set_cons_zero, List.set_cons_succ]
        with_reducible refine wpQuiet_step ?_
        intro K hK
        go_simp
        first
          | (with_reducible refine hK _ ?_)
          | (with_reducible refine ⟨_, fun _ _ => rfl, hK _ ?_⟩)
        clear hK K
        try simp only [Act.put, List.setIfInBounds_toArray, List.set_cons_zero, List.set_cons_succ]
        with_reducible refine wpQuiet_step ?_
        intro K hK
        go_simp
        first
          | (with_reducible refine hK _ ?_)
          | (with_reducible refine ⟨_, fun _ _ => rfl, hK _ ?_⟩)
        clear hK K
        try simp only [Act.put, List.setIfInBounds_toArray, List.set_cons_zero, List.set_cons_succ]
        with_reducible refine wpQuiet_step ?_
        intro K hK
        refine qs_load_cell (by rfl) 3 _ rfl ⟨D, 2, none⟩ rfl (.int .i64 st) (fun w hw => (HCB.out w hw).cell 2) Try.isAgg3 (hK _ ?_)
        clear hK K
        try simp only [Act.put, List.setIfInBounds_toArray, List.set_cons_zero, List.set_cons_succ]
        with_reducible refine wpQuiet_step ?_
        intro K hK
        go_simp
        first
          | (with_reducible refine hK _ ?_)
          | (with_reducible refine ⟨_, fun _ _ => rfl, hK _ ?_⟩)
        clear hK K
        try simp only [Act.put, List.setIfInBounds_toArray, List.set_cons_zero, List.set_cons_succ]
        with_reducible refine wpQuiet_step ?_
        intro K hK
        go_simp
        first
          | (with_reducible refine hK _ ?_)
          | (with_reducible refine ⟨_, fun _ _ => rfl, hK _ ?_⟩)
        clear hK K
        try simp only [Act.put, List.setIfInBounds_toArray, List.set_cons_zero, List.set_cons_succ]
        with_reducible refine wpQuiet_step ?_
        intro K hK
        go_simp
        first
          | (with_reducible refine hK _ ?_)
          | (with_reducible refine ⟨_, fun _ _ => rfl, hK _ ?_⟩)
        clear hK K
        try simp only [Act.put, List.setIfInBounds_toArray, List.set_cons_zero, List.set_cons_succ]
        refine wpQuiet_nil ?_
        intro wn hCn
        have HN := Lib.hid (HN.out.below (HCO.out _ hCn))
        clear hCn hCi HCO HCB
        have c3 : wn.cell? ⟨D, 3, none⟩ = some (.int .i64 lv2) := HN.out.1.cell 3
        have f3 := HN.out.1.free 3
        have c5 : wn.cell? ⟨D, 5, none⟩ = some (.int .i64 sh2) := HN.out.1.cell 5
        have f5 := HN.out.1.free 5
        have m1 : IntKind.i64.wrap (sh2 + 1) = sh2 + 1 := by rw [IntKind.wrap_i64]; omega
        have m2 : IntKind.i64.wrap (LV + (sh2 + 1)) = LV + (sh2 + 1) := by rw [IntKind.wrap_i64]; omega
        have m3 : IntKind.i64.wrap (LV + (sh2 + 1) - 1) = LV + (sh2 + 1) - 1 := by rw [IntKind.wrap_i64]; omega
        go_upto_region 7 with fail
        refine at_world (fun w' => NX 90 wo D #[.int .i64 d, .int .i64 sl, .int .i64 st, .int .i64 lv2, .int .i64 on2, .int .i64 (sh2 + 1)] w') (HN.out.set 5 (.int .i64 (sh2 + 1))) ?_
        intro w5 hN2
        clear HN
        have HN := Lib.hid hN2
        clear hN2
        clear c3 c5 f3 f5
        have t1 : ∀ w', Below w5.heap.size w5 w' → Blk w' D #[.int .i64 d, .int .i64 sl, .int .i64 st, .int .i64 lv2, .int .i64 on2, .int .i64 (sh2 + 1)] 90 := fun w' h => HN.out.1.below h HN.out.1.lt
        have t2 : ∀ w', Below w5.heap.size w5 w' → Calls Try.prog 50 #[.agg [.int .i64 d, .int .i64 sl, .int .i64 st].toArray] w' fun e w'' => e = .returned (.int .i64 LV) ∧ Below w5.heap.size w5 w'' := KL.out w5
        obtain ⟨C, hCi, hCo, hCI⟩ : ∃ C : World → Prop, C w5.drew ∧ (∀ w', C w' → Below w5.heap.size w5 w') ∧ (∀ w', Below w5.heap.size w5 w' → C w') := ⟨fun w' => Below w5.heap.size w5 w', (Below.refl _ _).drew, fun _ h => h, fun _ h => h⟩
        have HCO := Lib.hid hCo
        have HCB : Hid (∀ w', C w' → Blk w' D #[.int .i64 d, .int .i64 sl, .int .i64 st, .int .i64 lv2, .int .i64 on2, .int .i64 (sh2 + 1)] 90) := Lib.hid fun w' h => t1 w' (hCo w' h)
        have HCA : Hid (∀ w', C w' → Calls Try.prog 50 #[.agg [.int .i64 d, .int .i64 sl, .int .i64 st].toArray] w' fun e w'' => e = .returned (.int .i64 LV) ∧ C w'') := Lib.hid fun w' h => (t2 w' (hCo w' h)).mono fun e w'' he => ⟨he.1, hCI _ he.2⟩
        clear t1 t2
        have HCX : Hid (∀ w', C w' → w'.rangeAt D 0 [.int .i64 d, .int .i64 sl, .int .i64 st]) := Lib.hid fun w' h j u hu => by
          have h2 := (HCB.out w' h).cell (0 + j)
          rw [h2, Nat.zero_add]
          have hj : j < 3 := (List.getElem?_eq_some_iff.1 hu).1
          match j, hj with
          | 0, _ => exact hu
          | 1, _ => exact hu
          | 2, _ => exact hu
        clear hCo hCI
        refine wp_region_cls C (by kernel_rfl) (by kernel_rfl) hCi ?_
        with_reducible refine wpQuiet_step ?_
        intro K hK
        go_simp
        first
          | (with_reducible refine hK _ ?_)
          | (with_reducible refine ⟨_, fun _ _ => rfl, hK _ ?_⟩)
        clear hK K
        try simp only [Act.put, List.setIfInBounds_toArray, List.set_cons_zero, List.set_cons_succ]
        with_reducible refine wpQuiet_step ?_
        intro K hK
        go_simp
        first
          | (with_reducible refine hK _ ?_)
          | (with_reducible refine ⟨_, fun _ _ => rfl, hK _ ?_⟩)
        clear hK K
        try simp only [Act.put, List.setIfInBounds_toArray, List.set_cons_zero, List.set_cons_succ]
        with_reducible refine wpQuiet_step ?_
        intro K hK
        go_simp
        first
          | (with_reducible refine hK _ ?_)
          | (with_reducible refine ⟨_, fun _ _ => rfl, hK _ ?_⟩)
        clear hK K
        try simp only [Act.put, List.setIfInBounds_toArray, List.set_cons_zero, List.set_cons_succ]
        with_reducible refine wpQuiet_step ?_
        intro K hK
        refine qs_load_midD (by rfl) 23 (.tmp 52) rfl D 0 rfl [.int .i64 d, .int .i64 sl, .int .i64 st] _ (fun w hw => HCX.out w hw) Try.underlying23 rfl (info_shD _ _ _) (hK _ ?_)
        clear hK K
        try simp only [Act.put, List.setIfInBounds_toArray, List.set_cons_zero, List.set_cons_succ]
        with_reducible refine wpQuiet_step ?_
        intro K hK
        go_simp
        with_reducible apply Exists.intro
        with_reducible refine ⟨fun _ hC => ?_, hK _ ?_⟩
        with_reducible exact HCA.out _ hC
        clear hK K
        try simp only [Act.put, List.setIfInBounds_toArray, List.set_cons_zero, List.set_cons_succ]
        with_reducible refine wpQuiet_step ?_
        intro K hK
        go_simp
        first
          | (with_reducible refine hK _ ?_)
          | (with_reducible refine ⟨_, fun _ _ => rfl, hK _ ?_⟩)
        clear hK K
        try simp only [Act.put, List.setIfInBounds_toArray, List.set_cons_zero, List.set_cons_succ]
        with_reducible refine wpQuiet_step ?_
        intro K hK
        go_simp
        first
          | (with_reducible refine hK _ ?_)
          | (with_reducible refine ⟨_, fun _ _ => rfl, hK _ ?_⟩)
        clear hK K
        try simp only [Act.put, List.setIfInBounds_toArray, List.set_cons_zero, List.set_cons_succ]
        with_reducible refine wpQuiet_step ?_
        intro K hK
        go_simp
        first
          | (with_reducible refine hK _ ?_)
          | (with_reducible refine ⟨_, fun _ _ => rfl, hK _ ?_⟩)
        clear hK K
        try simp only [Act.put, List.setIfInBounds_toArray, List.set_cons_zero, List.set_cons_succ]
        with_reducible refine wpQuiet_step ?_
        intro K hK
        refine qs_load_cell (by rfl) 3 _ rfl ⟨D, 5, none⟩ rfl (.int .i64 (sh2 + 1)) (fun w hw => (HCB.out w hw).cell 5) Try.isAgg3 (hK _ ?_)
        clear hK K
        try simp only [Act.put, List.setIfInBounds_toArray, List.set_cons_zero, List.set_cons_succ]
        with_reducible refine wpQuiet_step ?_
        intro K hK
        go_simp
        first
          | (with_reducible refine hK _ ?_)
          | (with_reducible refine ⟨_, fun _ _ => rfl, hK _ ?_⟩)
        clear hK K
        try simp only [Act.put, List.setIfInBounds_toArray, List.set_cons_zero, List.set_cons_succ]
        with_reducible refine wpQuiet_step ?_
        intro K hK
        go_simp
        first
          | (with_reducible refine hK _ ?_)
          | (with_reducible refine ⟨_, fun _ _ => rfl, hK _ ?_⟩)
        clear hK K
        try simp only [Act.put, List.setIfInBounds_toArray, List.set_cons_zero, List.set_cons_succ]
        with_reducible refine wpQuiet_step ?_
        intro K hK
        go_simp
        first
          | (with_reducible refine hK _ ?_)
          | (with_reducible refine ⟨_, fun _ _ => rfl, hK _ ?_⟩)
        clear hK K
        try simp only [Act.put, List.setIfInBounds_toArray, List.set_cons_zero, List.set_cons_succ]
        refine wpQuiet_nil ?_
        intro wn2 hCn
        have HN := Lib.hid (HN.out.below (HCO.out _ hCn))
        clear hCn hCi HCO HCB HCA HCX
        go_wp2
        go_ret
        exact ⟨congrArg (fun n => Ending.returned (Value.int .i64 n)) (by show LV + (sh2 + 1) - 1 = p; have := HE.out.1; omega), by rw [← HE.out.2.1, ← HE.out.2.2.1, ← HE.out.2.2.2]; exact HN.out⟩
    · have d2 : decide (lv2 < 0) = false := decide_eq_false hneg
      rw [if_neg hneg] at hr
      simp only [Prod.mk.injEq] at hr
      have hmul : 0 ≤ lv2 * sl ∧ lv2 * sl ≤ 10 * 8 := ⟨Int.mul_nonneg (by omega) (by omega), Int.mul_le_mul (by omega) (by omega) (by omega) (by omega)⟩
      have m1 : IntKind.i64.wrap (lv2 * sl) = lv2 * sl := by rw [IntKind.wrap_i64]; omega
      have m2 : IntKind.i64.wrap (lv2 * sl + on2) = lv2 * sl + on2 := by rw [IntKind.wrap_i64]; omega
      have m3 : IntKind.i64.wrap (on2 + 1) = on2 + 1 := by rw [IntKind.wrap_i64]; omega
      have m4 : IntKind.i64.wrap (lv2 - 1) = lv2 - 1 := by rw [IntKind.wrap_i64]; omega
      obtain ⟨C, hCi, hCo, hCB⟩ : ∃ C : World → Prop, C w2.drew ∧ (∀ w', C w' → Below w2.heap.size w2 w') ∧ (∀ w', C w' → Blk w' D #[.int .i64 d, .int .i64 sl, .int .i64 st, .int .i64 lv2, .int .i64 on2, .int .i64 sh2] 90) :=
        ⟨fun w' => Below w2.heap.size w2 w', (Below.refl _ _).drew, fun _ h => h, fun w' h => HN.out.1.below h HN.out.1.lt⟩
      have HCO := Lib.hid hCo
      have HCB := Lib.hid hCB
      clear hCo hCB
      go_upto_region 3 with fail
      refine wp_region_cls C (by kernel_rfl) (by kernel_rfl) hCi ?_
      with_reducible refine wpQuiet_step ?_
      intro K hK
      go_simp
      first
        | (with_reducible refine hK _ ?_)
        | (with_reducible refine ⟨_, fun _ _ => rfl, hK _ ?_⟩)
      clear hK K
      try simp only [Act.put, List.setIfInBounds_toArray, List.set_cons_zero, List.set_cons_succ]
      with_reducible refine wpQuiet_step ?_
      intro K hK
      go_simp
      first
        | (with_reducible refine hK _ ?_)
        | (with_reducible refine ⟨_, fun _ _ => rfl, hK _ ?_⟩)
      clear hK K
      try simp only [Act.put, List.setIfInBounds_toArray, List.set_cons_zero, List.set_cons_succ]
      with_reducible refine wpQuiet_step ?_
      intro K hK
      go_simp
      first
        | (with_reducible refine hK _ ?_)
        | (with_reducible refine ⟨_, fun _ _ => rfl, hK _ ?_⟩)
      clear hK K
      try simp only [Act.put, List.setIfInBounds_toArray, List.set_cons_zero, List.set_cons_succ]
      with_reducible refine wpQuiet_step ?_
      intro K hK
      refine qs_load_cell (by rfl) 3 _ rfl ⟨D, 3, none⟩ rfl (.int .i64 lv2) (fun w hw => (HCB.out w hw).cell 3) Try.isAgg3 (hK _ ?_)
      clear hK K
      try simp only [Act.put, List.setIfInBounds_toArray, List.set_cons_zero, List.set_cons_succ]
      with_reducible refine wpQuiet_step ?_
      intro K hK
      go_simp
      first
        | (with_reducible refine hK _ ?_)
        | (with_reducible refine ⟨_, fun _ _ => rfl, hK _ ?_⟩)
      clear hK K
      try simp only [Act.put, List.setIfInBounds_toArray, List.set_cons_zero, List.set_cons_succ]
      with_reducible refine wpQuiet_step ?_
      intro K hK
      go_simp
      first
        | (with_reducible refine hK _ ?_)
        | (with_reducible refine ⟨_, fun _ _ => rfl, hK _ ?_⟩)
      clear hK K
      try simp only [Act.put, List.setIfInBounds_toArray, List.set_cons_zero, List.set_cons_succ]
      with_reducible refine wpQuiet_step ?_
      intro K hK
      refine qs_skipD (by rfl) (hK _ ?_)
      clear hK K
      try simp only [Act.put, List.setIfInBounds_toArray, List.set_cons_zero, List.set_cons_succ]
      with_reducible refine wpQuiet_step ?_
      intro K hK
      refine qs_skipD (by rfl) (hK _ ?_)
      clear hK K
      try simp only [Act.put, List.setIfInBounds_toArray, List.set_cons_zero, List.set_cons_succ]
      with_reducible refine wpQuiet_step ?_
      intro K hK
      refine qs_skipD (by rfl) (hK _ ?_)
      clear hK K
      try simp only [Act.put, List.setIfInBounds_toArray, List.set_cons_zero, List.set_cons_succ]
      with_reducible refine wpQuiet_step ?_
      intro K hK
      refine qs_skipD (by rfl) (hK _ ?_)
      clear hK K
      try simp only [Act.put, List.setIfInBounds_toArray, List.set_cons_zero, List.set_cons_succ]
      with_reducible refine wpQuiet_step ?_
      intro K hK
      refine qs_skipD (by rfl) (hK _ ?_)
      clear hK K
      try simp only [Act.put, List.setIfInBounds_toArray, List.set_cons_zero, List.set_cons_succ]
      with_reducible refine wpQuiet_step ?_
      intro K hK
      refine qs_skipD (by rfl) (hK _ ?_)
      clear hK K
      try simp only [Act.put, List.setIfInBounds_toArray, List.set_cons_zero, List.set_cons_succ]
      with_reducible refine wpQuiet_step ?_
      intro K hK
      refine qs_skipD (by rfl) (hK _ ?_)
      clear hK K
      try simp only [Act.put, List.setIfInBounds_toArray, List.set_cons_zero, List.set_cons_succ]
      with_reducible refine wpQuiet_step ?_
      intro K hK
      refine qs_skipD (by rfl) (hK _ ?_)
      clear hK K
      try simp only [Act.put, List.setIfInBounds_toArray, List.set_cons_zero, List.set_cons_succ]
      with_reducible refine wpQuiet_step ?_
      intro K hK
      refine qs_skipD (by rfl) (hK _ ?_)
      clear hK K
      try simp only [Act.put, List.setIfInBounds_toArray, List.set_cons_zero, List.set_cons_succ]
      with_reducible refine wpQuiet_step ?_
      intro K hK
      refine qs_skipD (by rfl) (hK _ ?_)
      clear hK K
      try simp only [Act.put, List.setIfInBounds_toArray, List.set_cons_zero, List.set_cons_succ]
      with_reducible refine wpQuiet_step ?_
      intro K hK
      go_simp
      first
        | (with_reducible refine hK _ ?_)
        | (with_reducible refine ⟨_, fun _ _ => rfl, hK _ ?_⟩)
      clear hK K
      try simp only [Act.put, List.setIfInBounds_toArray, List.set_cons_zero, List.set_cons_succ]
      with_reducible refine wpQuiet_step ?_
      intro K hK
      go_simp
      first
        | (with_reducible refine hK _ ?_)
        | (with_reducible refine ⟨_, fun _ _ => rfl, hK _ ?_⟩)
      clear hK K
      try simp only [Act.put, List.setIfInBounds_toArray, List.set_cons_zero, List.set_cons_succ]
      refine wpQuiet_nil ?_
      intro wn hCn
      have HN := Lib.hid (HN.out.below (HCO.out _ hCn))
      clear hCn hCi HCO HCB
      have c3 : wn.cell? ⟨D, 3, none⟩ = some (.int .i64 lv2) := HN.out.1.cell 3
      have f3 := HN.out.1.free 3
      go_upto_region 8 with fail
      clear c3 f3
      obtain ⟨C, hCi, hCo, hCB⟩ : ∃ C : World → Prop, C wn.drew ∧ (∀ w', C w' → Below wn.heap.size wn w') ∧ (∀ w', C w' → Blk w' D #[.int .i64 d, .int .i64 sl, .int .i64 st, .int .i64 lv2, .int .i64 on2, .int .i64 sh2] 90) :=
        ⟨fun w' => Below wn.heap.size wn w', (Below.refl _ _).drew, fun _ h => h, fun w' h => HN.out.1.below h HN.out.1.lt⟩
      have HCO := Lib.hid hCo
      have HCB := Lib.hid hCB
      clear hCo hCB
      refine wp_region_cls C (by kernel_rfl) (by kernel_rfl) hCi ?_
      with_reducible refine wpQuiet_step ?_
      intro K hK
      go_simp
      first
        | (with_reducible refine hK _ ?_)
        | (with_reducible refine ⟨_, fun _ _ => rfl, hK _ ?_⟩)
      clear hK K
      try simp only [Act.put, List.setIfInBounds_toArray, List.set_cons_zero, List.set_cons_succ]
      with_reducible refine wpQuiet_step ?_
      intro K hK
      go_simp
      first
        | (with_reducible refine hK _ ?_)
        | (with_reducible refine ⟨_, fun _ _ => rfl, hK _ ?_⟩)
      clear hK K
      try simp only [Act.put, List.setIfInBounds_toArray, List.set_cons_zero, List.set_cons_succ]
      with_reducible refine wpQuiet_step ?_
      intro K hK
      go_simp
      first
        | (with_reducible refine hK _ ?_)
        | (with_reducible refine ⟨_, fun _ _ => rfl, hK _ ?_⟩)
      clear hK K
      try simp only [Act.put, List.setIfInBounds_toArray, List.set_cons_zero, List.set_cons_succ]
      with_reducible refine wpQuiet_step ?_
      intro K hK
      refine qs_load_cell (by rfl) 3 _ rfl ⟨D, 3, none⟩ rfl (.int .i64 lv2) (fun w hw => (HCB.out w hw).cell 3) Try.isAgg3 (hK _ ?_)
      clear hK K
      try simp only [Act.put, List.setIfInBounds_toArray, List.set_cons_zero, List.set_cons_succ]
      with_reducible refine wpQuiet_step ?_
      intro K hK
      go_simp
      first
        | (with_reducible refine hK _ ?_)
        | (with_reducible refine ⟨_, fun _ _ => rfl, hK _ ?_⟩)
      clear hK K
      try simp only [Act.put, List.setIfInBounds_toArray, List.set_cons_zero, List.set_cons_succ]
      with_reducible refine wpQuiet_step ?_
      intro K hK
      go_simp
      first
        | (with_reducible refine hK _ ?_)
        | (with_reducible refine ⟨_, fun _ _ => rfl, hK _ ?_⟩)
      clear hK K
      try simp only [Act.put, List.setIfInBounds_toArray, List.set_cons_zero, List.set_cons_succ]
      with_reducible refine wpQuiet_step ?_
      intro K hK
      go_simp
      first
        | (with_reducible refine hK _ ?_)
        | (with_reducible refine ⟨_, fun _ _ => rfl, hK _ ?_⟩)
      clear hK K
      try simp only [Act.put, List.setIfInBounds_toArray, List.set_cons_zero, List.set_cons_succ]
      with_reducible refine wpQuiet_step ?_
      intro K hK
      go_simp
      first
        | (with_reducible refine hK _ ?_)
        | (with_reducible refine ⟨_, fun _ _ => rfl, hK _ ?_⟩)
      clear hK K
      try simp only [Act.put, List.setIfInBounds_toArray, List.set_cons_zero, List.set_cons_succ]
      with_reducible refine wpQuiet_step ?_
      intro K hK
      refine qs_load_cell (by rfl) 3 _ rfl ⟨D, 1, none⟩ rfl (.int .i64 sl) (fun w hw => (HCB.out w hw).cell 1) Try.isAgg3 (hK _ ?_)
      clear hK K
      try simp only [Act.put, List.setIfInBounds_toArray, List.set_cons_zero, List.set_cons_succ]
      with_reducible refine wpQuiet_step ?_
      intro K hK
      go_simp
      first
        | (with_reducible refine hK _ ?_)
        | (with_reducible refine ⟨_, fun _ _ => rfl, hK _ ?_⟩)
      clear hK K
      try simp only [Act.put, List.setIfInBounds_toArray, List.set_cons_zero, List.set_cons_succ]
      with_reducible refine wpQuiet_step ?_
      intro K hK
      go_simp
      first
        | (with_reducible refine hK _ ?_)
        | (with_reducible refine ⟨_, fun _ _ => rfl, hK _ ?_⟩)
      clear hK K
      try simp only [Act.put, List.setIfInBounds_toArray, List.set_cons_zero, List.set_cons_succ]
      with_reducible refine wpQuiet_step ?_
      intro K hK
      go_simp
      first
        | (with_reducible refine hK _ ?_)
        | (with_reducible refine ⟨_, fun _ _ => rfl, hK _ ?_⟩)
      clear hK K
      try simp only [Act.put, List.setIfInBounds_toArray, List.set_cons_zero, List.set_cons_succ]
      with_reducible refine wpQuiet_step ?_
      intro K hK
      go_simp
      first
        | (with_reducible refine hK _ ?_)
        | (with_reducible refine ⟨_, fun _ _ => rfl, hK _ ?_⟩)
      clear hK K
      try simp only [Act.put, List.setIfInBounds_toArray, List.set_cons_zero, List.set_cons_succ]
      with_reducible refine wpQuiet_step ?_
      intro K hK
      refine qs_load_cell (by rfl) 3 _ rfl ⟨D, 4, none⟩ rfl (.int .i64 on2) (fun w hw => (HCB.out w hw).cell 4) Try.isAgg3 (hK _ ?_)
      clear hK K
      try simp only [Act.put, List.setIfInBounds_toArray, List.set_cons_zero, List.set_cons_succ]
      with_reducible refine wpQuiet_step ?_
      intro K hK
      go_simp
      first
        | (with_reducible refine hK _ ?_)
        | (with_reducible refine ⟨_, fun _ _ => rfl, hK _ ?_⟩)
      clear hK K
      try simp only [Act.put, List.setIfInBounds_toArray, List.set_cons_zero, List.set_cons_succ]
      with_reducible refine wpQuiet_step ?_
      intro K hK
      go_simp
      first
        | (with_reducible refine hK _ ?_)
        | (with_reducible refine ⟨_, fun _ _ => rfl, hK _ ?_⟩)
      clear hK K
      try simp only [Act.put, List.setIfInBounds_toArray, List.set_cons_zero, List.set_cons_succ]
      refine wpQuiet_nil ?_
      intro wm hCn
      have HN := Lib.hid (HN.out.below (HCO.out _ hCn))
      clear hCn hCi HCO HCB
      have c4 : wm.cell? ⟨D, 4, none⟩ = some (.int .i64 on2) := HN.out.1.cell 4
      have f4 := HN.out.1.free 4
      go_upto_region 10 with fail
      refine at_world (fun w' => NX 90 wo D #[.int .i64 d, .int .i64 sl, .int .i64 st, .int .i64 lv2, .int .i64 (on2 + 1), .int .i64 sh2] w') (HN.out.set 4 (.int .i64 (on2 + 1))) ?_
      intro w5 hN2
      clear HN
      have HN := Lib.hid hN2
      clear hN2
      clear c4 f4
      by_cases hlast : on2 + 1 = sl
      · have q : (on2 + 1 == sl) = true := by simp [hlast]
        rw [if_pos hlast] at hr
        obtain ⟨hr1, hr2⟩ := hr
        simp only [Prod.mk.injEq] at hr2
        have HE := Lib.hid (And.intro hr1 hr2)
        clear hr1 hr2
        obtain ⟨C, hCi, hCo, hCB⟩ : ∃ C : World → Prop, C w5.drew ∧ (∀ w', C w' → Below w5.heap.size w5 w') ∧ (∀ w', C w' → Blk w' D #[.int .i64 d, .int .i64 sl, .int .i64 st, .int .i64 lv2, .int .i64 (on2 + 1), .int .i64 sh2] 90) :=
          ⟨fun w' => Below w5.heap.size w5 w', (Below.refl _ _).drew, fun _ h => h, fun w' h => HN.out.1.below h HN.out.1.lt⟩
        have HCO := Lib.hid hCo
        have HCB := Lib.hid hCB
        clear hCo hCB
        refine wp_region_cls C (by kernel_rfl) (by kernel_rfl) hCi ?_
        with_reducible refine wpQuiet_step ?_
        intro K hK
        go_simp
        first
          | (with_reducible refine hK _ ?_)
          | (with_reducible refine ⟨_, fun _ _ => rfl, hK _ ?_⟩)
        clear hK K
        try simp only [Act.put, List.setIfInBounds_toArray, List.set_cons_zero, List.set_cons_succ]
        with_reducible refine wpQuiet_step ?_
        intro K hK
        go_simp
        first
          | (with_reducible refine hK _ ?_)
          | (with_reducible refine ⟨_, fun _ _ => rfl, hK _ ?_⟩)
        clear hK K
        try simp only [Act.put, List.setIfInBounds_toArray, List.set_cons_zero, List.set_cons_succ]
        with_reducible refine wpQuiet_step ?_
        intro K hK
        go_simp
        first
          | (with_reducible refine hK _ ?_)
          | (with_reducible refine ⟨_, fun _ _ => rfl, hK _ ?_⟩)
        clear hK K
        try simp only [Act.put, List.setIfInBounds_toArray, List.set_cons_zero, List.set_cons_succ]
        with_reducible refine wpQuiet_step ?_
        intro K hK
        refine qs_load_cell (by rfl) 3 _ rfl ⟨D, 4, none⟩ rfl (.int .i64 (on2 + 1)) (fun w hw => (HCB.out w hw).cell 4) Try.isAgg3 (hK _ ?_)
        clear hK K
        try simp only [Act.put, List.setIfInBounds_toArray, List.set_cons_zero, List.set_cons_succ]
        with_reducible refine wpQuiet_step ?_
        intro K hK
        go_simp
        first
          | (with_reducible refine hK _ ?_)
          | (with_reducible refine ⟨_, fun _ _ => rfl, hK _ ?_⟩)
        clear hK K
        try simp only [Act.put, List.setIfInBounds_toArray, List.set_cons_zero, List.set_cons_succ]
        with_reducible refine wpQuiet_step ?_
        intro K hK
        go_simp
        first
          | (with_reducible refine hK _ ?_)
          | (with_reducible refine ⟨_, fun _ _ => rfl, hK _ ?_⟩)
        clear hK K
        try simp only [Act.put, List.setIfInBounds_toArray, List.set_cons_zero, List.set_cons_succ]
        with_reducible refine wpQuiet_step ?_
        intro K hK
        go_simp
        first
          | (with_reducible refine hK _ ?_)
          | (with_reducible refine ⟨_, fun _ _ => rfl, hK _ ?_⟩)
        clear hK K
        try simp only [Act.put, List.setIfInBounds_toArray, List.set_cons_zero, List.set_cons_succ]
        with_reducible refine wpQuiet_step ?_
        intro K hK
        go_simp
        first
          | (with_reducible refine hK _ ?_)
          | (with_reducible refine ⟨_, fun _ _ => rfl, hK _ ?_⟩)
        clear hK K
        try simp only [Act.put, List.setIfInBounds_toArray, List.set_cons_zero, List.set_cons_succ]
        with_reducible refine wpQuiet_step ?_
        intro K hK
        refine qs_load_cell (by rfl) 3 _ rfl ⟨D, 1, none⟩ rfl (.int .i64 sl) (fun w hw => (HCB.out w hw).cell 1) Try.isAgg3 (hK _ ?_)
        clear hK K
        try simp only [Act.put, List.setIfInBounds_toArray, List.set_cons_zero, List.set_cons_succ]
        with_reducible refine wpQuiet_step ?_
        intro K hK
        go_simp
        first
          | (with_reducible refine hK _ ?_)
          | (with_reducible refine ⟨_, fun _ _ => rfl, hK _ ?_⟩)
        clear hK K
        try simp only [Act.put, List.setIfInBounds_toArray, List.set_cons_zero, List.set_cons_succ]
        refine wpQuiet_nil ?_
        intro w6 hCn
        have HN := Lib.hid (HN.out.below (HCO.out _ hCn))
        clear hCn hCi HCO HCB
        have c3 : w6.cell? ⟨D, 3, none⟩ = some (.int .i64 lv2) := HN.out.1.cell 3
        have f3 := HN.out.1.free 3
        have c4 : w6.cell? ⟨D, 4, none⟩ = some (.int .i64 (on2 + 1)) := HN.out.1.cell 4
        have f4 := HN.out.1.free 4
        go_wp2
        go_ret
        exact ⟨congrArg (fun n => Ending.returned (Value.int .i64 n)) (show IntKind.i64.wrap p = p by rw [← HE.out.1]; exact m2), by rw [← HE.out.2.1, ← HE.out.2.2.1, ← HE.out.2.2.2]; exact (HN.out.set 3 (.int .i64 (lv2 - 1))).set 4 (.int .i64 0)⟩
      · have q : (on2 + 1 == sl) = false := by simpa using hlast
        rw [if_neg hlast] at hr
        obtain ⟨hr1, hr2⟩ := hr
        simp only [Prod.mk.injEq] at hr2
        have HE := Lib.hid (And.intro hr1 hr2)
        clear hr1 hr2
        obtain ⟨C, hCi, hCo, hCB⟩ : ∃ C : World → Prop, C w5.drew ∧ (∀ w', C w' → Below w5.heap.size w5 w') ∧ (∀ w', C w' → Blk w' D #[.int .i64 d, .int .i64 sl, .int .i64 st, .int .i64 lv2, .int .i64 (on2 + 1), .int .i64 sh2] 90) :=
          ⟨fun w' => Below w5.heap.size w5 w', (Below.refl _ _).drew, fun _ h => h, fun w' h => HN.out.1.below h HN.out.1.lt⟩
        have HCO := Lib.hid hCo
        have HCB := Lib.hid hCB
        clear hCo hCB
        refine wp_region_cls C (by kernel_rfl) (by kernel_rfl) hCi ?_
        with_reducible refine wpQuiet_step ?_
        intro K hK
        go_simp
        first
          | (with_reducible refine hK _ ?_)
          | (with_reducible refine ⟨_, fun _ _ => rfl, hK _ ?_⟩)
        clear hK K
        try simp only [Act.put, List.setIfInBounds_toArray, List.set_cons_zero, List.set_cons_succ]
        with_reducible refine wpQuiet_step ?_
        intro K hK
        go_simp
        first
          | (with_reducible refine hK _ ?_)
          | (with_reducible refine ⟨_, fun _ _ => rfl, hK _ ?_⟩)
        clear hK K
        try simp only [Act.put, List.setIfInBounds_toArray, List.set_cons_zero, List.set_cons_succ]
        with_reducible refine wpQuiet_step ?_
        intro K hK
        go_simp
        first
          | (with_reducible refine hK _ ?_)
          | (with_reducible refine ⟨_, fun _ _ => rfl, hK _ ?_⟩)
        clear hK K
        try simp only [Act.put, List.setIfInBounds_toArray, List.set_cons_zero, List.set_cons_succ]
        with_reducible refine wpQuiet_step ?_
        intro K hK
        refine qs_load_cell (by rfl) 3 _ rfl ⟨D, 4, none⟩ rfl (.int .i64 (on2 + 1)) (fun w hw => (HCB.out w hw).cell 4) Try.isAgg3 (hK _ ?_)
        clear hK K
        try simp only [Act.put, List.setIfInBounds_toArray, List.set_cons_zero, List.set_cons_succ]
        with_reducible refine wpQuiet_step ?_
        intro K hK
        go_simp
        first
          | (with_reducible refine hK _ ?_)
          | (with_reducible refine ⟨_, fun _ _ => rfl, hK _ ?_⟩)
        clear hK K
        try simp only [Act.put, List.setIfInBounds_toArray, List.set_cons_zero, List.set_cons_succ]
        with_reducible refine wpQuiet_step ?_
        intro K hK
        go_simp
        first
          | (with_reducible refine hK _ ?_)
          | (with_reducible refine ⟨_, fun _ _ => rfl, hK _ ?_⟩)
        clear hK K
        try simp only [Act.put, List.setIfInBounds_toArray, List.set_cons_zero, List.set_cons_succ]
        with_reducible refine wpQuiet_step ?_
        intro K hK
        go_simp
        first
          | (with_reducible refine hK _ ?_)
          | (with_reducible refine ⟨_, fun _ _ => rfl, hK _ ?_⟩)
        clear hK K
        try simp only [Act.put, List.setIfInBounds_toArray, List.set_cons_zero, List.set_cons_succ]
        with_reducible refine wpQuiet_step ?_
        intro K hK
        go_simp
        first
          | (with_reducible refine hK _ ?_)
          | (with_reducible refine ⟨_, fun _ _ => rfl, hK _ ?_⟩)
        clear hK K
        try simp only [Act.put, List.setIfInBounds_toArray, List.set_cons_zero, List.set_cons_succ]
        with_reducible refine wpQuiet_step ?_
        intro K hK
        refine qs_load_cell (by rfl) 3 _ rfl ⟨D, 1, none⟩ rfl (.int .i64 sl) (fun w hw => (HCB.out w hw).cell 1) Try.isAgg3 (hK _ ?_)
        clear hK K
        try simp only [Act.put, List.setIfInBounds_toArray, List.set_cons_zero, List.set_cons_succ]
        with_reducible refine wpQuiet_step ?_
        intro K hK
        go_simp
        first
          | (with_reducible refine hK _ ?_)
          | (with_reducible refine ⟨_, fun _ _ => rfl, hK _ ?_⟩)
        clear hK K
        try simp only [Act.put, List.setIfInBounds_toArray, List.set_cons_zero, List.set_cons_succ]
        refine wpQuiet_nil ?_
        intro w6 hCn
        have HN := Lib.hid (HN.out.below (HCO.out _ hCn))
        clear hCn hCi HCO HCB
        go_wp2
        go_ret
        exact ⟨congrArg (fun n => Ending.returned (Value.int .i64 n)) (show IntKind.i64.wrap p = p by rw [← HE.out.1]; exact m2), by rw [← HE.out.2.1, ← HE.out.2.2.1, ← HE.out.2.2.2]; exact HN.out⟩
end Go.Proofs.Ytiimdgdimjjboaa
