/-
  The walks of how many places a shape has, and of the document's shapes.
-/
import Derived.Test.YtiimdgdimjjboaaDealS
namespace Go.Proofs.Ytiimdgdimjjboaa
open Go Go.RowKit Go.Sg
set_option maxHeartbeats 1000000 in
set_option maxRecDepth 100000 in
theorem places_any (s : Sh) (w : World) : Calls Try.prog 23 #[.agg #[.int .i64 s.1, .int .i64 s.2.1, .int .i64 s.2.2]] w fun e w' => e = .returned (.int .i64 (placesD s)) ∧ Below w.heap.size w w' := by
  have KR := Lib.hid (fun w' => right_any s w')
  by_cases hr : rightD s = true
  · have kl := fun w' => levels_any s hr w'
    have hb := levelsD_bd hr
    have hpl : placesD s = levelsD s + s.2.2 + 1 := by unfold placesD; rw [if_pos hr]
    have hst := (rightD_iff.1 hr).2.2.2.2
    rw [hr] at KR
    rw [hpl]
    generalize levelsD s = L at *
    obtain ⟨d, sl, st⟩ := s
    simp only at *
    have m1 : IntKind.i64.wrap (L + st) = L + st := by rw [IntKind.wrap_i64]; omega
    have m2 : IntKind.i64.wrap (L + st + 1) = L + st + 1 := by rw [IntKind.wrap_i64]; omega
    obtain ⟨A, hA⟩ : ∃ A, w.heap.size = A := ⟨_, rfl⟩
    have hbk : Blk (w.alloc (.cells #[.int .i64 d, .int .i64 sl, .int .i64 st] 23)) w.heap.size #[.int .i64 d, .int .i64 sl, .int .i64 st] 23 := Blk.new w _ _
    have hbw : Below w.heap.size w (w.alloc (.cells #[.int .i64 d, .int .i64 sl, .int .i64 st] 23)) := (Below.refl _ _).alloc (Nat.le_refl _) _
    have HBK := Lib.hid hbk
    have HBW := Lib.hid hbw
    clear hbk hbw hpl hr
    go_enter Try.func23, Try.ntmps23
    go_wp2_with fail
    refine (KR.out _).mono ?_
    rintro e w2 ⟨rfl, hb2⟩
    have HB2 : Hid (Below w.heap.size w w2) := Lib.hid (HBW.out.trans (hb2.mono HBW.out.size))
    have hb3 := HBK.out.below hb2 HBK.out.lt
    rw [hA] at hb3
    obtain ⟨sv, hsv⟩ : ∃ sv : Array Value, #[.int .i64 d, .int .i64 sl, .int .i64 st] = sv := ⟨_, rfl⟩
    have HIX : Hid ((Try.prog.info? 23).map (·.size) = some sv.size) := Lib.hid (by rw [← hsv]; kernel_rfl)
    have hs2 : sv[2]? = some (.int .i64 st) := by rw [← hsv]; rfl
    rw [hsv] at hb3 kl
    obtain ⟨C, hCi, hCo, hCB, hCS, hCA⟩ : ∃ C : World → Prop, C w2.drew ∧ (∀ w', C w' → Below w2.heap.size w2 w') ∧ (∀ w', C w' → Blk w' A sv 23) ∧ (∀ w', C w' → w'.cell? ⟨A, 2, none⟩ = some (.int .i64 st)) ∧ (∀ w', C w' → Calls Try.prog 50 #[.agg sv] w' fun e w'' => e = .returned (.int .i64 L) ∧ C w'') :=
      ⟨fun w' => Below w2.heap.size w2 w', (Below.refl _ _).drew, fun _ h => h, fun w' h => hb3.below h hb3.lt, fun w' h => ((hb3.below h hb3.lt).cell 2).trans hs2, fun w' h => cls_call (P := Try.prog) kl (Nat.le_refl _) h⟩
    have HCO := Lib.hid hCo
    have HCB := Lib.hid hCB
    have HCS := Lib.hid hCS
    have HCA := Lib.hid hCA
    clear hCo hCB hCS hCA kl hb3 hb2 HBK HBW hA hs2 KR
    go_upto_region 3 with fail
    refine wp_region_cls C (by kernel_rfl) (by kernel_rfl) hCi ?_
    with_reducible refine wpQuiet_step ?_
    intro K hK
    refine qs_load_row (by rfl) 23 _ rfl A rfl 23 sv _ (fun w hw => HCB.out w hw) Try.underlying23 rfl HIX.out (hK _ ?_)
    clear hK K
    try simp only [Act.put, List.setIfInBounds_toArray, List.set_cons_zero, List.set_cons_succ]
    with_reducible refine wpQuiet_step ?_
    intro K hK
    go_simp
    with_reducible apply Exists.intro
    with_reducible refine ⟨fun _ hC => ?_, hK _ ?_⟩
    with_reducible exact HCA.out _ hC
    clear hK K
    try simp only [Act.put, List.setIfInBounds_toArray, List.set_cons_zero, List.set_cons_succ]
    with_reducible refine wpQuiet_step ?_
    intro K hK
    go_simp
    first
      | (with_reducible refine hK _ ?_)
      | (with_reducible refine ⟨_, fun _ _ => rfl, hK _ ?_⟩)
    clear hK K
    try simp only [Act.put, List.setIfInBounds_toArray, List.set_cons_zero, List.set_cons_succ]
    with_reducible refine wpQuiet_step ?_
    intro K hK
    refine qs_load_cell (by rfl) 3 _ rfl ⟨A, 2, none⟩ rfl (.int .i64 st) (fun w hw => HCS.out w hw) Try.isAgg3 (hK _ ?_)
    clear hK K
    try simp only [Act.put, List.setIfInBounds_toArray, List.set_cons_zero, List.set_cons_succ]
    with_reducible refine wpQuiet_step ?_
    intro K hK
    go_simp
    first
      | (with_reducible refine hK _ ?_)
      | (with_reducible refine ⟨_, fun _ _ => rfl, hK _ ?_⟩)
    clear hK K
    try simp only [Act.put, List.setIfInBounds_toArray, List.set_cons_zero, List.set_cons_succ]
    with_reducible refine wpQuiet_step ?_
    intro K hK
    go_simp
    first
      | (with_reducible refine hK _ ?_)
      | (with_reducible refine ⟨_, fun _ _ => rfl, hK _ ?_⟩)
    clear hK K
    try simp only [Act.put, List.setIfInBounds_toArray, List.set_cons_zero, List.set_cons_succ]
    with_reducible refine wpQuiet_step ?_
    intro K hK
    go_simp
    first
      | (with_reducible refine hK _ ?_)
      | (with_reducible refine ⟨_, fun _ _ => rfl, hK _ ?_⟩)
    clear hK K
    try simp only [Act.put, List.setIfInBounds_toArray, List.set_cons_zero, List.set_cons_succ]
    refine wpQuiet_nil ?_
    intro w8 hC8
    have HX := Lib.hid (HCO.out _ hC8)
    clear hC8 hCi HCO HCB HCS HCA
    go_wp2
    go_ret
    exact ⟨rfl, HB2.out.trans (HX.out.mono HB2.out.size)⟩
  · have hrf : rightD s = false := by simpa using hr
    have hpl : placesD s = 0 := by unfold placesD; rw [if_neg hr]
    rw [hrf] at KR
    rw [hpl]
    have HBW : Hid (Below w.heap.size w (w.alloc (.cells #[.int .i64 s.1, .int .i64 s.2.1, .int .i64 s.2.2] 23))) := Lib.hid ((Below.refl _ _).alloc (Nat.le_refl _) _)
    clear hr hrf hpl
    go_enter Try.func23, Try.ntmps23
    go_wp2_with fail
    refine (KR.out _).mono ?_
    rintro e w2 ⟨rfl, hb2⟩
    have HB2 : Hid (Below w.heap.size w w2) := Lib.hid (HBW.out.trans (hb2.mono HBW.out.size))
    clear hb2
    go_wp2
    go_ret
    exact ⟨rfl, HB2.out⟩
set_option maxHeartbeats 4000000 in
set_option maxRecDepth 100000 in
theorem rright_any (s : Sh) (w : World) : Calls Try.prog 16 #[.agg #[.int .i64 s.1, .int .i64 s.2.1, .int .i64 s.2.2]] w fun e w' => e = .returned (.bool (rightD s)) ∧ Below w.heap.size w w' := by
  have hr := @rightD_iff s
  obtain ⟨d, sl, st⟩ := s
  simp only at *
  obtain ⟨r, hrr⟩ : ∃ r, rightD (d, sl, st) = r := ⟨_, rfl⟩
  rw [hrr] at hr ⊢
  have HR : Hid ((0 ≤ d ∧ d ≤ 10 ∧ 1 ≤ sl ∧ sl ≤ 8 ∧ 1 ≤ st ∧ st ≤ 64 → true = r) ∧ (¬ (0 ≤ d ∧ d ≤ 10 ∧ 1 ≤ sl ∧ sl ≤ 8 ∧ 1 ≤ st ∧ st ≤ 64) → false = r)) := Lib.hid (by
    rw [← hr]
    cases r <;> simp)
  have HB : Hid (Below w.heap.size w (w.alloc (.cells #[.int .i64 d, .int .i64 sl, .int .i64 st] 26))) := Lib.hid ((Below.refl _ _).alloc (Nat.le_refl _) _)
  clear hr hrr
  go_enter Try.func16, Try.ntmps16
  by_cases h0 : 0 ≤ d
  rotate_left
  focus
    have d0 : decide (0 ≤ d) = false := decide_eq_false h0
    go_wp2
    go_ret
    exact ⟨by rw [← HR.out.2 (by omega)]; rfl, HB.out⟩
  have d0 : decide (0 ≤ d) = true := decide_eq_true h0
  by_cases h1 : d ≤ 10
  rotate_left
  focus
    have d1 : decide (d ≤ 10) = false := decide_eq_false h1
    go_wp2
    go_ret
    exact ⟨by rw [← HR.out.2 (by omega)]; rfl, HB.out⟩
  have d1 : decide (d ≤ 10) = true := decide_eq_true h1
  by_cases h2 : 1 ≤ sl
  rotate_left
  focus
    have d2 : decide (1 ≤ sl) = false := decide_eq_false h2
    go_wp2
    go_ret
    exact ⟨by rw [← HR.out.2 (by omega)]; rfl, HB.out⟩
  have d2 : decide (1 ≤ sl) = true := decide_eq_true h2
  by_cases h3 : sl ≤ 8
  rotate_left
  focus
    have d3 : decide (sl ≤ 8) = false := decide_eq_false h3
    go_wp2
    go_ret
    exact ⟨by rw [← HR.out.2 (by omega)]; rfl, HB.out⟩
  have d3 : decide (sl ≤ 8) = true := decide_eq_true h3
  by_cases h4 : 1 ≤ st
  rotate_left
  focus
    have d4 : decide (1 ≤ st) = false := decide_eq_false h4
    go_wp2
    go_ret
    exact ⟨by rw [← HR.out.2 (by omega)]; rfl, HB.out⟩
  have d4 : decide (1 ≤ st) = true := decide_eq_true h4
  by_cases h5 : st ≤ 64
  rotate_left
  focus
    have d5 : decide (st ≤ 64) = false := decide_eq_false h5
    go_wp2
    go_ret
    exact ⟨by rw [← HR.out.2 (by omega)]; rfl, HB.out⟩
  have d5 : decide (st ≤ 64) = true := decide_eq_true h5
  go_wp2
  go_ret
  exact ⟨by rw [← HR.out.1 (by omega)]; rfl, HB.out⟩
set_option maxRecDepth 100000 in
theorem rplaces_any (s : Sh) (w : World) : Calls Try.prog 18 #[.agg #[.int .i64 s.1, .int .i64 s.2.1, .int .i64 s.2.2]] w fun e w' => e = .returned (.int .i64 (placesD s)) ∧ Below w.heap.size w w' := by
  have KR := Lib.hid (fun w' => rright_any s w')
  have HBW : Hid (Below w.heap.size w (w.alloc (.cells #[.int .i64 s.1, .int .i64 s.2.1, .int .i64 s.2.2] 26))) := Lib.hid ((Below.refl _ _).alloc (Nat.le_refl _) _)
  have HBK : Hid (Blk (w.alloc (.cells #[.int .i64 s.1, .int .i64 s.2.1, .int .i64 s.2.2] 26)) w.heap.size #[.int .i64 s.1, .int .i64 s.2.1, .int .i64 s.2.2] 26) := Lib.hid (Blk.new w _ _)
  by_cases hr : rightD s = true
  · have hb := levelsD_bd hr
    have hpl : placesD s = levelsD s + s.2.2 + 1 := by unfold placesD; rw [if_pos hr]
    have hst := rightD_iff.1 hr
    have hlv : levelsD s = s.2.1 * (s.1 + 1) := rfl
    rw [hr] at KR
    rw [hpl]
    rw [hlv] at hb ⊢
    obtain ⟨d, sl, st⟩ := s
    simp only at *
    have m0 : IntKind.i64.wrap (d + 1) = d + 1 := by rw [IntKind.wrap_i64]; omega
    have m1 : IntKind.i64.wrap (sl * (d + 1)) = sl * (d + 1) := by rw [IntKind.wrap_i64]; omega
    have m2 : IntKind.i64.wrap (sl * (d + 1) + st) = sl * (d + 1) + st := by rw [IntKind.wrap_i64]; omega
    have m3 : IntKind.i64.wrap (sl * (d + 1) + st + 1) = sl * (d + 1) + st + 1 := by rw [IntKind.wrap_i64]; omega
    clear hpl hlv hr
    go_enter Try.func18, Try.ntmps18
    go_wp2_with fail
    refine (KR.out _).mono ?_
    rintro e w2 ⟨rfl, hb2⟩
    have HB2 : Hid (Below w.heap.size w w2) := Lib.hid (HBW.out.trans (hb2.mono HBW.out.size))
    have hb3 := HBK.out.below hb2 HBK.out.lt
    have c0 : w2.cell? ⟨w.heap.size, 0, none⟩ = some (.int .i64 d) := hb3.cell 0
    have c1 : w2.cell? ⟨w.heap.size, 1, none⟩ = some (.int .i64 sl) := hb3.cell 1
    have c2 : w2.cell? ⟨w.heap.size, 2, none⟩ = some (.int .i64 st) := hb3.cell 2
    clear hb2 hb3
    go_wp2
    go_ret
    exact ⟨rfl, HB2.out⟩
  · have hrf : rightD s = false := by simpa using hr
    have hpl : placesD s = 0 := by unfold placesD; rw [if_neg hr]
    rw [hrf] at KR
    rw [hpl]
    clear hr hrf hpl
    go_enter Try.func18, Try.ntmps18
    go_wp2_with fail
    refine (KR.out _).mono ?_
    rintro e w2 ⟨rfl, hb2⟩
    have HB2 : Hid (Below w.heap.size w w2) := Lib.hid (HBW.out.trans (hb2.mono HBW.out.size))
    clear hb2
    go_wp2
    go_ret
    exact ⟨rfl, HB2.out⟩
end Go.Proofs.Ytiimdgdimjjboaa
