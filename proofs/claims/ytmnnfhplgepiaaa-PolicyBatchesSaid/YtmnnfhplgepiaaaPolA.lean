/-
  The walk of shellgameref16.ahead.
-/
import Derived.Test.YtmnnfhplgepiaaaPolB
namespace Go.Sg
open Go Go.RowKit
theorem qs_skipA {P : Program} {ops : Array Oper} {C : World → Prop} {o : Oper} {a : Act} {K : Act → Prop} (hw : Region.wanted o (yielded ops a.tmps) = false) (hK : K (a.put o.dst undef)) :
    if Region.wanted o (yielded ops a.tmps) = true then o.quiet P a C K else K (a.put o.dst undef) := by
  rw [if_neg (by rw [hw]; exact Bool.false_ne_true)]
  exact hK
end Go.Sg
namespace Go.Proofs.Ytmnnfhplgepiaaa
open Go Go.RowKit Go.Sg
set_option maxHeartbeats 1000000 in
set_option maxRecDepth 100000 in
theorem ahead_any (x y : It) (hx : ItW x) (hy : ItW y) (w : World) :
    Calls Try.prog 24 #[.agg #[.int .i64 x.1, .int .u64 x.2.1, .bool x.2.2], .agg #[.int .i64 y.1, .int .u64 y.2.1, .bool y.2.2]] w fun e w' => e = .returned (.bool (ltI x y)) ∧ Below w.heap.size w w' := by
  have hl : ltI x y = (decide (keyI x < keyI y) || (decide (keyI x = keyI y) && decide (x.1 < y.1))) := rfl
  have kx := fun w' => rkey_any x hx w'
  have ky := fun w' => rkey_any y hy w'
  rw [hl]
  obtain ⟨xc, xr, xe⟩ := x
  obtain ⟨yc, yr, ye⟩ := y
  generalize keyI (xc, xr, xe) = p at *
  generalize keyI (yc, yr, ye) = q at *
  obtain ⟨vx, hvx⟩ : ∃ vx : Array Value, #[.int .i64 xc, .int .u64 xr, .bool xe] = vx := ⟨_, rfl⟩
  obtain ⟨vy, hvy⟩ : ∃ vy : Array Value, #[.int .i64 yc, .int .u64 yr, .bool ye] = vy := ⟨_, rfl⟩
  have hx0 : vx[0]? = some (.int .i64 xc) := by rw [← hvx]; rfl
  have hy0 : vy[0]? = some (.int .i64 yc) := by rw [← hvy]; rfl
  have hsx : vx.size = 3 := by rw [← hvx]; rfl
  have hsy : vy.size = 3 := by rw [← hvy]; rfl
  have hi : (Try.prog.info? 41).map (·.size) = some 3 := by kernel_rfl
  have HIX : Hid ((Try.prog.info? 41).map (·.size) = some vx.size) := Lib.hid (by rw [hsx]; exact hi)
  have HIY : Hid ((Try.prog.info? 41).map (·.size) = some vy.size) := Lib.hid (by rw [hsy]; exact hi)
  show Calls Try.prog 24 #[.agg #[.int .i64 xc, .int .u64 xr, .bool xe], .agg #[.int .i64 yc, .int .u64 yr, .bool ye]] w fun e w' => e = .returned (.bool (decide (p < q) || (decide (p = q) && decide (xc < yc)))) ∧ Below w.heap.size w w'
  simp only at kx ky
  rw [hvx] at kx ⊢
  rw [hvy] at ky ⊢
  clear hl hx hy hi hsx hsy hvx hvy
  obtain ⟨w2, hw2⟩ : ∃ w2, (w.alloc (.cells vx 41)).alloc (.cells vy 41) = w2 := ⟨_, rfl⟩
  obtain ⟨A, hA⟩ : ∃ A, w.heap.size = A := ⟨_, rfl⟩
  have HB : Hid (Below w.heap.size w w2) := Lib.hid (by rw [← hw2]; exact ((Below.refl _ _).alloc (Nat.le_refl _) _).alloc (by simp) _)
  have ha : Blk w2 A vx 41 := by rw [← hw2, ← hA]; exact (Blk.new w _ _).alloc _
  have hb : Blk w2 (A + 1) vy 41 := by rw [← hw2, ← hA]; have := Blk.new (w.alloc (.cells vx 41)) vy 41; simpa using this
  obtain ⟨C, hCi, hCo, hCx, hCy, hC0, hC1, hCB⟩ : ∃ C : World → Prop, C w2.drew ∧ (∀ w', C w' → Below w2.heap.size w2 w') ∧ (∀ w', C w' → Calls Try.prog 15 #[.agg vx] w' fun e w'' => e = .returned (.int .u64 p) ∧ C w'') ∧ (∀ w', C w' → Calls Try.prog 15 #[.agg vy] w' fun e w'' => e = .returned (.int .u64 q) ∧ C w'')
      ∧ (∀ w', C w' → w'.cell? ⟨A, 0, none⟩ = some (.int .i64 xc)) ∧ (∀ w', C w' → w'.cell? ⟨A + 1, 0, none⟩ = some (.int .i64 yc)) ∧ (∀ w', C w' → Blk w' A vx 41 ∧ Blk w' (A + 1) vy 41) :=
    ⟨fun w' => Below w2.heap.size w2 w', (Below.refl _ _).drew, fun _ h => h, fun w' h => cls_call (P := Try.prog) kx (Nat.le_refl _) h, fun w' h => cls_call (P := Try.prog) ky (Nat.le_refl _) h,
      fun w' h => (ha.below h ha.lt).cell 0 |>.trans hx0, fun w' h => (hb.below h hb.lt).cell 0 |>.trans hy0, fun w' h => ⟨ha.below h ha.lt, hb.below h hb.lt⟩⟩
  have HCO := Lib.hid hCo
  have HCX := Lib.hid hCx
  have HCY := Lib.hid hCy
  have HC0 := Lib.hid hC0
  have HC1 := Lib.hid hC1
  have HCB := Lib.hid hCB
  clear hCo hCx hCy hC0 hC1 hCB ha hb kx ky hx0 hy0
  obtain ⟨r, hr⟩ : ∃ r, (decide (p < q) || (decide (p = q) && decide (xc < yc))) = r := ⟨_, rfl⟩
  have hd : (decide (p < q) = true ∧ Hid (true = r)) ∨ (decide (p < q) = false ∧ (p == q) = false ∧ Hid (false = r)) ∨ (decide (p < q) = false ∧ (p == q) = true ∧ Hid (decide (xc < yc) = r)) := by
    rw [← hr]
    by_cases h1 : p < q
    · exact .inl ⟨decide_eq_true h1, Lib.hid (by simp [h1])⟩
    · by_cases h2 : p = q
      · exact .inr (.inr ⟨decide_eq_false h1, by simp [h2], Lib.hid (by simp [h1, h2])⟩)
      · exact .inr (.inl ⟨decide_eq_false h1, by simp [h2], Lib.hid (by simp [h1, h2])⟩)
  rw [hr]
  clear hr
  go_enter Try.func24, Try.ntmps24
  go_wp2_with fail
  try rw [hw2, hA]
  clear hw2 hA
  rcases hd with ⟨d1, HR⟩ | ⟨d1, d2, HR⟩ | ⟨d1, d2, HR⟩
  all_goals
    refine wp_region_cls C (by kernel_rfl) (by kernel_rfl) hCi ?_
    repeat (first
      | (with_reducible refine wpQuiet_step ?_
         intro K hK
         refine qs_skipA (by rfl) (hK _ ?_)
         clear hK K
         try simp only [Act.put, List.setIfInBounds_toArray, List.set_cons_zero, List.set_cons_succ])
      | (with_reducible refine wpQuiet_step ?_
         intro K hK
         refine qs_load_row (by rfl) 41 _ rfl A rfl 41 vx _ (fun w hw => (HCB.out w hw).1) Try.underlying41 rfl HIX.out (hK _ ?_)
         clear hK K
         try simp only [Act.put, List.setIfInBounds_toArray, List.set_cons_zero, List.set_cons_succ])
      | (with_reducible refine wpQuiet_step ?_
         intro K hK
         refine qs_load_row (by rfl) 41 _ rfl (A + 1) rfl 41 vy _ (fun w hw => (HCB.out w hw).2) Try.underlying41 rfl HIY.out (hK _ ?_)
         clear hK K
         try simp only [Act.put, List.setIfInBounds_toArray, List.set_cons_zero, List.set_cons_succ])
      | (with_reducible refine wpQuiet_step ?_
         intro K hK
         refine qs_load_cell (by rfl) 3 _ rfl ⟨A, 0, none⟩ rfl (.int .i64 xc) (fun w hw => HC0.out w hw) Try.isAgg3 (hK _ ?_)
         clear hK K
         try simp only [Act.put, List.setIfInBounds_toArray, List.set_cons_zero, List.set_cons_succ])
      | (with_reducible refine wpQuiet_step ?_
         intro K hK
         refine qs_load_cell (by rfl) 3 _ rfl ⟨A + 1, 0, none⟩ rfl (.int .i64 yc) (fun w hw => HC1.out w hw) Try.isAgg3 (hK _ ?_)
         clear hK K
         try simp only [Act.put, List.setIfInBounds_toArray, List.set_cons_zero, List.set_cons_succ])
      | (with_reducible refine wpQuiet_step ?_
         intro K hK
         go_simp
         first
           | (with_reducible refine hK _ ?_; clear hK K)
           | (with_reducible refine ⟨_, fun _ _ => rfl, hK _ ?_⟩; clear hK K)
           | (with_reducible apply Exists.intro
              with_reducible refine ⟨fun _ hC => ?_, hK _ ?_⟩
              (first
                | with_reducible exact HCX.out _ hC
                | with_reducible exact HCY.out _ hC)
              clear hK K
              try simp only [Act.put, List.setIfInBounds_toArray, List.set_cons_zero, List.set_cons_succ])))
    refine wpQuiet_nil ?_
    intro w8 hC8
    have HX := Lib.hid (HCO.out _ hC8)
    clear hC8 hCi HCO HCX HCY HCB HC0 HC1
    go_wp2
    go_ret
    exact ⟨by rw [← HR.out]; rfl, HB.out.trans (HX.out.mono HB.out.size)⟩
end Go.Proofs.Ytmnnfhplgepiaaa
