/-
  The walk of the law LevelSizes: which configs are right, how many cells each region needs, whether a level can be made of regions, and the events of an access.
-/
import Derived.Test.YthchfdobdghdoaaGreatHbr
import Derived.Test.YthchfdobdghdoaaGreatHbs
import Derived.Test.YthchfdobdghdoaaGreatHau
import Derived.Test.YthchfdobdghdoaaGreatHav
import Derived.Test.YthchfdobdghdoaaGreatHba
import Derived.BigQuiet
import Derived.Deep.DeepCutAuto
set_option linter.unusedVariables false
set_option linter.unusedSimpArgs false
set_option linter.unusedSectionVars false
set_option linter.unnecessarySimpa false
namespace Go.Sg
open Go Go.RowKit
/-- an access's looks, if there is such a leaf -/
def evN (first f1 f2 : Int) (c : Lc) (fr : Int) : List Ev := if hasB c.1 fr = true then evG first f1 f2 c fr else []
theorem sl_four {w : World} {b : Nat} {x y z u : Int} {t : TypeId} (h : Blk w b #[.int .i64 x, .int .i64 y, .int .i64 z, .int .i64 u] t) : Sl1 w (.slice (some ⟨b, 0, none⟩) 4 4) (ints [x, y, z, u]) := by
  refine .inr ⟨by simp [ints], b, 0, 4, rfl, by simp [ints], by decide, h.lt, fun i hi => ?_⟩
  rw [Nat.zero_add, h.cell]
  have h4 : i < 4 := by simpa [ints] using hi
  match i, h4 with
  | 0, _ => rfl
  | 1, _ => rfl
  | 2, _ => rfl
  | 3, _ => rfl
theorem sl_one {w : World} {b : Nat} {x : Int} {t : TypeId} (h : Blk w b #[.int .i64 x] t) : Sl1 w (.slice (some ⟨b, 0, none⟩) 1 1) (ints [x]) := by
  refine .inr ⟨by simp [ints], b, 0, 1, rfl, by simp [ints], by decide, h.lt, fun i hi => ?_⟩
  rw [Nat.zero_add, h.cell]
  have h4 : i < 1 := by simpa [ints] using hi
  match i, h4 with
  | 0, _ => rfl
end Go.Sg
namespace Go.Proofs.YthchfdobdghdoaaGreat
open Go Go.RowKit Go.Sg
theorem evN_lev (c : Lc) (hc : LcOk c) (hr : lcRight c = true) (first f1 f2 : Int) (wf1 : IntKind.i64.wrap (first + 1) = f1) (wf2 : IntKind.i64.wrap (first + 2) = f2) (fr : Int) (w : World) :
    Calls Tryz.prog 17 #[.int .i64 first, .agg #[.int .i64 c.1, .int .i64 c.2.1, .int .i64 c.2.2], .int .i64 fr] w (RetE (evN first f1 f2 c fr) w) := by
  unfold evN
  cases h : hasB c.1 fr with
  | true => rw [if_pos rfl]; exact levEventsG_any c hc hr first f1 f2 wf1 wf2 fr h w
  | false => rw [if_neg (by decide)]; exact levEvents_no c hc hr first fr h w
theorem evN_rev (c : Lc) (hc : LcOk c) (hr : lcRight c = true) (first f1 f2 : Int) (wf1 : IntKind.i64.wrap (first + 1) = f1) (wf2 : IntKind.i64.wrap (first + 2) = f2) (fr : Int) (w : World) :
    Calls Tryz.prog 18 #[.int .i64 first, .agg #[.int .i64 c.1, .int .i64 c.2.1, .int .i64 c.2.2], .int .i64 fr] w (RetE (evN first f1 f2 c fr) w) := by
  unfold evN
  cases h : hasB c.1 fr with
  | true => rw [if_pos rfl]; exact rvEventsG_any c hc hr first f1 f2 wf1 wf2 fr h w
  | false => rw [if_neg (by decide)]; exact rvEvents_no c hc hr first fr h w
/-- level's New beside another memory: that one stays -/
theorem lev_new {w0 w : World} {p p2 : Nat} {M N : Mm} (c : Lc) (hc : LcOk c) (first f1 f2 : Int) (wf1 : IntKind.i64.wrap (first + 1) = f1) (wf2 : IntKind.i64.wrap (first + 2) = f2) (h : PairX 88 71 w0 w p p2 M N (fun _ => False) (fun _ => True)) :
    Calls Tryz.prog 12 #[.pointer (some ⟨p, 0, none⟩), .int .i64 first, .agg #[.int .i64 c.1, .int .i64 c.2.1, .int .i64 c.2.2]] w fun e w' =>
      (∃ v, e = .returned (.tuple #[v, .int .i64 (if newOkG M first f1 f2 c = true then 0 else 1)])) ∧ OneX 71 w0 w' p2 N (fun _ => False) (fun _ => True) := by
  obtain ⟨G, h1, hG, hDG⟩ := h
  have hK : Keeps (fun k => False ∨ G k) (fun w => True ∧ MemX 71 p2 N G w) := keeps_and keeps_true (keeps_mem _ _ _ _)
  refine (lNewW_any hK c hc first f1 f2 wf1 wf2 h1).mono ?_
  intro e w' h2
  by_cases ho : newOkG M first f1 f2 c = true
  · rw [if_pos ho] at h2
    obtain ⟨q, ib, rfl, h3⟩ := h2
    rw [if_pos ho]
    exact ⟨⟨_, rfl⟩, G, h3.one.x.1.2, hG, h3.one.old, fun _ h => h.elim, fun _ h => h.elim, trivial⟩
  · rw [if_neg ho] at h2
    obtain ⟨rfl, h3⟩ := h2
    rw [if_neg ho]
    exact ⟨⟨_, rfl⟩, G, h3.x.2, hG, h3.old, fun _ h => h.elim, fun _ h => h.elim, trivial⟩
theorem rv_new {w0 w : World} {p : Nat} {N : Mm} (c : Lc) (hc : LcOk c) (first f1 f2 : Int) (wf1 : IntKind.i64.wrap (first + 1) = f1) (wf2 : IntKind.i64.wrap (first + 2) = f2) (h : OneX 71 w0 w p N (fun _ => False) (fun _ => True)) :
    Calls Tryz.prog 15 #[.pointer (some ⟨p, 0, none⟩), .int .i64 first, .agg #[.int .i64 c.1, .int .i64 c.2.1, .int .i64 c.2.2]] w fun e w' =>
      (∃ v, e = .returned (.tuple #[v, .int .i64 (if newOkG N first f1 f2 c = true then 0 else 1)])) ∧ Below w0.heap.size w0 w' := by
  refine (rNewW_any keeps_true c hc first f1 f2 wf1 wf2 h).mono ?_
  intro e w' h2
  by_cases ho : newOkG N first f1 f2 c = true
  · rw [if_pos ho] at h2
    obtain ⟨q, rfl, h3⟩ := h2
    rw [if_pos ho]
    exact ⟨⟨_, rfl⟩, h3.one.old⟩
  · rw [if_neg ho] at h2
    obtain ⟨rfl, h3⟩ := h2
    rw [if_neg ho]
    exact ⟨⟨_, rfl⟩, h3.old⟩
set_option maxHeartbeats 16000000 in
set_option maxRecDepth 100000 in
theorem LevelSizes_walk (c : Lc) (first less leaf : Int) (w : World) (hc : LcOk c) (h1 : Num first) (h2 : Num less) (h3 : Num leaf) :
    Calls Tryz.prog 3 #[.agg #[.int .i64 c.1, .int .i64 c.2.1, .int .i64 c.2.2], .int .i64 first, .int .i64 less, .int .i64 leaf] w fun e w' => e = .returned (.bool true) ∧ Below w.heap.size w w' := by
  have KS := Lib.hid (fun w' => lshown_any w')
  have KZ := Lib.hid (fun w' => lSizes_any c hc w')
  have KY := Lib.hid (fun w' => rvsizes_any c hc w')
  have KA := Lib.hid (fun w' => las_any c w')
  have KR := Lib.hid (fun w' => lright_any c hc w')
  have KQ := Lib.hid (fun w' => rvright_any c hc w')
  obtain ⟨f1, wf1⟩ : ∃ f1, IntKind.i64.wrap (first + 1) = f1 := ⟨_, rfl⟩
  obtain ⟨f2, wf2⟩ : ∃ f2, IntKind.i64.wrap (first + 2) = f2 := ⟨_, rfl⟩
  have HWF := Lib.hid (And.intro wf1 wf2)
  have HCO := Lib.hid hc
  have HIL := Lib.hid (info_lcL c)
  have hn2 := h2
  unfold Num at hn2
  have e2 : (less.tdiv 2).natAbs = less.natAbs / 2 := by rw [Int.natAbs_tdiv]; rfl
  have q2 : Num (less.tdiv 2) := by unfold Num; omega
  have w2' : IntKind.i64.wrap (less.tdiv 2) = less.tdiv 2 := by unfold Num at q2; rw [IntKind.wrap_i64]; omega
  have KP1 := Lib.hid (fun w' => lpick_any less 2 h2 (by omega) (by omega) w')
  have KP2 := Lib.hid (fun w' => lpick_any (less.tdiv 2) 2 q2 (by omega) (by omega) w')
  have b1 := pickD_bd (c := less) (n := 2) (by omega)
  have b2 := pickD_bd (c := less.tdiv 2) (n := 2) (by omega)
  generalize pickD less 2 = p1 at *
  generalize pickD (less.tdiv 2) 2 = p2 at *
  have hzr : lcRight c = true → szL c = (c.2.1 * nodesI c.1, c.2.2, lcTab c) := fun h => by unfold szL; rw [if_pos h]
  have hzn : lcRight c = false → szL c = (0, 0, 0) := fun h => by unfold szL; rw [if_neg (by rw [h]; decide)]
  have hz0 : 0 ≤ (szL c).1 ∧ (szL c).1 < 1000000 := by
    cases hr : lcRight c with
    | false => rw [hzn hr]; decide
    | true =>
      rw [hzr hr]
      have hb := lcRight_bd hr
      have hn : 0 ≤ nodesI c.1 ∧ nodesI c.1 ≤ 2047 := by
        have hR := (lcRight_iff hr).1
        obtain ⟨D, hD, e⟩ := rightB_of hR
        have h1 := pow_mono' D 10 hD
        have h2 : (2 : Int) ^ 10 = 1024 := by decide
        have h3 := pow_mono' 0 D (by omega)
        have h4 : (2 : Int) ^ 0 = 1 := by decide
        unfold nodesI
        rw [if_pos hR]
        omega
      have : 0 ≤ c.2.1 * nodesI c.1 ∧ c.2.1 * nodesI c.1 ≤ 8 * 2047 := ⟨Int.mul_nonneg (by omega) hn.1, Int.mul_le_mul (by omega) hn.2 hn.1 (by omega)⟩
      simp only
      omega
  have hzb : lcRight c = true → (1 ≤ (szL c).2.1 ∧ (szL c).2.1 ≤ 64) ∧ (1 ≤ (szL c).2.2 ∧ (szL c).2.2 ≤ 256) := fun h => by
    rw [hzr h]
    have hb := lcRight_bd h
    have ht := lcTab_bd c
    simp only
    omega
  have hrr : lcRight c = false → (szL c).1 = 0 := fun h => by rw [hzn h]
  clear hzr hzn q2 e2 h2 hn2 h1 h3 hc
  obtain ⟨z1, hz1⟩ : ∃ z1, (szL c).1 = z1 := ⟨_, rfl⟩
  obtain ⟨z2, hz2⟩ : ∃ z2, (szL c).2.1 = z2 := ⟨_, rfl⟩
  obtain ⟨z3, hz3⟩ : ∃ z3, (szL c).2.2 = z3 := ⟨_, rfl⟩
  rw [hz1, hz2, hz3] at KZ KY
  rw [hz1] at hz0 hrr
  rw [hz2, hz3] at hzb
  have HZB := Lib.hid hzb
  have HRR := Lib.hid hrr
  clear hz1 hz2 hz3 hzb hrr
  obtain ⟨A, hA⟩ : ∃ A, w.heap.size = A := ⟨_, rfl⟩
  obtain ⟨wA, hwA⟩ : ∃ wA, w.alloc (.cells #[.int .i64 c.1, .int .i64 c.2.1, .int .i64 c.2.2] 23) = wA := ⟨_, rfl⟩
  have hbA : Below w.heap.size w wA := by rw [← hwA]; exact (Below.refl _ _).alloc (Nat.le_refl _) _
  have kA : Blk wA A #[.int .i64 c.1, .int .i64 c.2.1, .int .i64 c.2.2] 23 := by rw [← hwA, ← hA]; exact Blk.new w _ _
  have HBA := Lib.hid hbA
  have HCA : Hid (∀ w', Below wA.heap.size wA w' → w'.cell? ⟨A, 0, none⟩ = some (.int .i64 c.1) ∧ w'.cell? ⟨A, 1, none⟩ = some (.int .i64 c.2.1) ∧ w'.cell? ⟨A, 2, none⟩ = some (.int .i64 c.2.2)) := Lib.hid fun w' h => by
    have k := kA.below h kA.lt
    exact ⟨k.cell 0, k.cell 1, k.cell 2⟩
  have HWA := Lib.hid hwA
  have HEND : Hid (∀ w', Below wA.heap.size wA w' → Below w.heap.size w w') := Lib.hid fun w' h => HBA.out.trans (h.mono HBA.out.size)
  have HAE := Lib.hid hA
  clear hbA kA hwA hA
  go_enter Tryz.func3, Tryz.ntmps3
  go_wp2_with fail
  rw [HWA.out, HAE.out]
  refine (KS.out _).mono ?_
  rintro e w1 ⟨rfl, hb1⟩
  obtain ⟨a0, a1, a2⟩ := HCA.out _ hb1
  go_wp2_with fail
  refine (KZ.out _).mono ?_
  rintro e w2 ⟨rfl, hb2'⟩
  have hb2 := hb1.trans (hb2'.mono hb1.size)
  clear a0 a1 a2 hb1 hb2'
  obtain ⟨a0, a1, a2⟩ := HCA.out _ hb2
  go_wp2_with fail
  refine (KA.out _).mono ?_
  rintro e w3 ⟨rfl, hb3'⟩
  have hb3 := hb2.trans (hb3'.mono hb2.size)
  clear a0 a1 a2 hb2 hb3'
  go_wp2_with fail
  refine (KY.out _).mono ?_
  rintro e w4 ⟨rfl, hb4'⟩
  have hb4 := hb3.trans (hb4'.mono hb3.size)
  clear hb3 hb4'
  have n1 : (z1 != z1) = false := by simp
  have n2 : (z2 != z2) = false := by simp
  have n3 : (z3 != z3) = false := by simp
  have KR2 : Hid (∀ w', Below wA.heap.size wA w' → Calls Tryz.prog 9 #[.agg #[.int .i64 c.1, .int .i64 c.2.1, .int .i64 c.2.2]] w' fun e w'' => e = .returned (.bool (lcRight c)) ∧ Below wA.heap.size wA w'') := Lib.hid fun w' h => (KR.out w').mono fun e w'' ⟨h1, h2⟩ => ⟨h1, h.trans (h2.mono h.size)⟩
  have KA2 : Hid (∀ w', Below wA.heap.size wA w' → Calls Tryz.prog 8 #[.agg #[.int .i64 c.1, .int .i64 c.2.1, .int .i64 c.2.2]] w' fun e w'' => e = .returned (.agg #[.int .i64 c.1, .int .i64 c.2.1, .int .i64 c.2.2]) ∧ Below wA.heap.size wA w'') := Lib.hid fun w' h => (KA.out w').mono fun e w'' ⟨h1, h2⟩ => ⟨h1, h.trans (h2.mono h.size)⟩
  have KQ2 : Hid (∀ w', Below wA.heap.size wA w' → Calls Tryz.prog 10 #[.agg #[.int .i64 c.1, .int .i64 c.2.1, .int .i64 c.2.2]] w' fun e w'' => e = .returned (.bool (lcRight c)) ∧ Below wA.heap.size wA w'') := Lib.hid fun w' h => (KQ.out w').mono fun e w'' ⟨h1, h2⟩ => ⟨h1, h.trans (h2.mono h.size)⟩
  obtain ⟨rt, hrt⟩ : ∃ rt, lcRight c = rt := ⟨_, rfl⟩
  rw [hrt] at KR2 KQ2
  have HRT := Lib.hid hrt
  have n4 : (rt != rt) = false := by simp
  have hd4 := hb4.drew
  clear hrt KR KQ KS KZ KY hb4
  go_upto_region 4 with fail
  go_cut [66] (fun b wx => b = .bool false ∧ Hid (Below wA.heap.size wA wx))
  case first =>
    go_region_held3 (fun w' => w'.cell? ⟨A, 0, none⟩ = some (.int .i64 c.1) ∧ w'.cell? ⟨A, 1, none⟩ = some (.int .i64 c.2.1) ∧ w'.cell? ⟨A, 2, none⟩ = some (.int .i64 c.2.2)) (first | exact HCA.out _ (by assumption)) (first
      | (go_at_call 9; with_reducible refine (KR2.out _ (by assumption)).mono ?_; rintro e wx ⟨rfl, hbx⟩)
      | (go_at_call 8; with_reducible refine (KA2.out _ (by assumption)).mono ?_; rintro e wy ⟨rfl, hby⟩)
      | (go_at_call 10; with_reducible refine (KQ2.out _ (by assumption)).mono ?_; rintro e wz ⟨rfl, hbz⟩))
    all_goals
      go_wp2_with fail
      go_meet
      exact ⟨rfl, Lib.hid (by assumption)⟩
  case rest =>
  obtain ⟨rfl, HB5⟩ := hcut
  generalize wc = w5 at *
  have hcase : ((decide (4000 < z1) = true) ∨ (decide (4000 < z1) = false ∧ (z1 == 0) = true)) ∨ (decide (4000 < z1) = false ∧ (z1 == 0) = false ∧ rt = true) := by
    by_cases e1 : 4000 < z1
    · exact .inl (.inl (decide_eq_true e1))
    · by_cases e2 : z1 = 0
      · exact .inl (.inr ⟨decide_eq_false e1, beq_iff_eq.2 e2⟩)
      · refine .inr ⟨decide_eq_false e1, beq_eq_false_iff_ne.2 e2, ?_⟩
        cases hrt : rt with
        | true => rfl
        | false => exact absurd (HRR.out (by rw [HRT.out, hrt])) e2
  clear n1 n2 n3 n4 KR2 KQ2 hd4
  rcases hcase with hcase | ⟨e1, e2, rfl⟩
  focus
    have HSL1 : Hid (∀ w' : World, Sl1 (w'.alloc (.cells #[.int .i64 1] 3)) (.slice (some ⟨w'.heap.size, 0, none⟩) 1 1) (ints [1])) := Lib.hid fun w' => sl_one (Blk.new w' _ _)
    have KM := Lib.hid (fun v w' h' => memNew_any v [1] w' h')
    have KN := Lib.hid (fun (w0 : World) p w' (h' : OneX 88 w0 w' p (Mm.fresh [1]) (fun _ => False) (fun _ => True)) => lNewW_any keeps_true (0, 0, 0) ⟨⟨by decide, by decide⟩, ⟨by decide, by decide⟩, ⟨by decide, by decide⟩⟩ 0 1 2 (by decide) (by decide) h')
    have HNO : Hid (newOkG (Mm.fresh [1]) 0 1 2 (0, 0, 0) = false) := Lib.hid (by decide +kernel)
    have HB6 : Hid (Below wA.heap.size wA (w5.alloc (.cells #[.int .i64 1] 3))) := Lib.hid (HB5.out.alloc HB5.out.size _)
    have KM5 := Lib.hid (KM.out _ _ (HSL1.out w5))
    rcases hcase with e1 | ⟨e1, e2⟩
    all_goals
      go_wp2_with fail
      refine KM5.out.mono ?_
      rintro e w6 ⟨hb6, ⟨h0, -⟩ | ⟨-, p, F, rfl, hm, hF⟩⟩
      · exact absurd h0 (by decide)
      have HB7 : Hid (Below wA.heap.size wA w6) := Lib.hid (HB6.out.trans (hb6.mono HB6.out.size))
      have H7 : Hid (OneX 88 wA w6 p (Mm.fresh [1]) (fun _ => False) (fun _ => True)) := Lib.hid ⟨F, hm, fun k hk => Nat.le_trans HB6.out.size (hF k hk), HB7.out, fun _ h => h.elim, fun _ h => h.elim, trivial⟩
      clear hb6 hm hF
      go_wp2_with fail
      refine (KN.out _ _ _ H7.out).mono ?_
      intro e w7 h7
      rw [if_neg (by rw [HNO.out]; decide)] at h7
      obtain ⟨rfl, h8⟩ := h7
      have HF := Lib.hid (HEND.out _ h8.old)
      clear h8
      go_wp2
      go_ret
      exact ⟨rfl, HF.out⟩
  have e3 : decide (256 < z3) = false := decide_eq_false (by have := (HZB.out HRT.out).2; omega)
  have he1 : z1 ≤ 4000 := by have := of_decide_eq_false e1; omega
  have he0 : z1 ≠ 0 := by simpa using e2
  have he2 : 1 ≤ z1 := by omega
  obtain ⟨hzb2, hzb3⟩ := HZB.out HRT.out
  have u1 : IntKind.i64.wrap (z1 - p1) = z1 - p1 := by rw [IntKind.wrap_i64]; omega
  have u2 : IntKind.i64.wrap (z3 - p2) = z3 - p2 := by rw [IntKind.wrap_i64]; omega
  obtain ⟨mx, hmx⟩ : ∃ mx, max (z3 - p2) 1 = mx := ⟨_, rfl⟩
  obtain ⟨zs, hzs⟩ : ∃ zs, ([3, z1 - p1, z2, mx] : List Int) = zs := ⟨_, rfl⟩
  have HZS := Lib.hid hzs
  clear hzs
  go_wp2_with fail
  refine (KP1.out _).mono ?_
  rintro e w5 ⟨rfl, rfl⟩
  go_wp2_with fail
  refine (KP2.out _).mono ?_
  rintro e w5 ⟨rfl, rfl⟩
  obtain ⟨w6, hw6⟩ : ∃ w6, w5.alloc (.cells #[.int .i64 3, .int .i64 (z1 - p1), .int .i64 z2, .int .i64 mx] 3) = w6 := ⟨_, rfl⟩
  have hs : Sl1 w6 (.slice (some ⟨w5.heap.size, 0, none⟩) 4 4) (ints [3, z1 - p1, z2, mx]) := by rw [← hw6]; exact sl_four (Blk.new w5 _ _)
  have HB6 : Hid (Below wA.heap.size wA w6) := Lib.hid (by rw [← hw6]; exact HB5.out.alloc HB5.out.size _)
  have KM6 := Lib.hid (memNew_any _ _ w6 hs)
  have HWw6 := Lib.hid hw6
  have HSZw6 : Hid (w5.heap.size ≤ w6.heap.size ∧ Below w5.heap.size w5 w6) := Lib.hid (by rw [← hw6]; exact ⟨by simp, (Below.refl _ _).alloc (Nat.le_refl _) _⟩)
  rw [HZS.out] at KM6
  clear hs hw6
  go_wp2_with fail
  rw [HWw6.out]
  refine KM6.out.mono ?_
  by_cases hok : Mm.newOk zs = true
  rotate_left
  focus
    rintro e w7 ⟨hb7, ⟨-, rfl⟩ | ⟨h0, -⟩⟩
    rotate_left
    · exact absurd h0 hok
    have HB7 : Hid (Below wA.heap.size wA w7) := Lib.hid (HB6.out.trans (hb7.mono HB6.out.size))
    have HOK := Lib.hid hok
    clear hb7 hok
    go_wp2_with fail
    refine (KP1.out _).mono ?_
    rintro e w7 ⟨rfl, rfl⟩
    go_wp2_with fail
    refine (KP2.out _).mono ?_
    rintro e w7 ⟨rfl, rfl⟩
    obtain ⟨w8, hw8⟩ : ∃ w8, w7.alloc (.cells #[.int .i64 3, .int .i64 (z1 - p1), .int .i64 z2, .int .i64 mx] 3) = w8 := ⟨_, rfl⟩
    have hs : Sl1 w8 (.slice (some ⟨w7.heap.size, 0, none⟩) 4 4) (ints [3, z1 - p1, z2, mx]) := by rw [← hw8]; exact sl_four (Blk.new w7 _ _)
    have HB8 : Hid (Below wA.heap.size wA w8) := Lib.hid (by rw [← hw8]; exact HB7.out.alloc HB7.out.size _)
    have KM8 := Lib.hid (ref3New_any _ _ w8 hs)
    have HWw8 := Lib.hid hw8
    have HSZw8 : Hid (w7.heap.size ≤ w8.heap.size ∧ Below w7.heap.size w7 w8) := Lib.hid (by rw [← hw8]; exact ⟨by simp, (Below.refl _ _).alloc (Nat.le_refl _) _⟩)
    rw [HZS.out] at KM8
    clear hs hw8
    go_wp2_with fail
    rw [HWw8.out]
    refine KM8.out.mono ?_
    rintro e w9 ⟨hb9, ⟨-, rfl⟩ | ⟨h0, -⟩⟩
    rotate_left
    · exact absurd h0 HOK.out
    have HB9 : Hid (Below wA.heap.size wA w9) := Lib.hid (HB8.out.trans (hb9.mono HB8.out.size))
    have HF := Lib.hid (HEND.out _ HB9.out)
    clear hb9
    go_wp2
    go_ret
    exact ⟨rfl, HF.out⟩
  rintro e w7 ⟨hb7, ⟨h0, -⟩ | ⟨-, p, F, rfl, hm, hF⟩⟩
  · exact absurd (h0.symm.trans hok) (by decide)
  have HB7 : Hid (Below wA.heap.size wA w7) := Lib.hid (HB6.out.trans (hb7.mono HB6.out.size))
  have H7 : Hid (OneX 88 wA w7 p (Mm.fresh zs) (fun _ => False) (fun _ => True)) := Lib.hid ⟨F, hm, fun k hk => Nat.le_trans HB6.out.size (hF k hk), HB7.out, fun _ h => h.elim, fun _ h => h.elim, trivial⟩
  have HOK := Lib.hid hok
  clear hb7 hm hF hok
  go_wp2_with fail
  refine (KP1.out _).mono ?_
  rintro e w7 ⟨rfl, rfl⟩
  go_wp2_with fail
  refine (KP2.out _).mono ?_
  rintro e w7 ⟨rfl, rfl⟩
  obtain ⟨w8, hw8⟩ : ∃ w8, w7.alloc (.cells #[.int .i64 3, .int .i64 (z1 - p1), .int .i64 z2, .int .i64 mx] 3) = w8 := ⟨_, rfl⟩
  have hs : Sl1 w8 (.slice (some ⟨w7.heap.size, 0, none⟩) 4 4) (ints [3, z1 - p1, z2, mx]) := by rw [← hw8]; exact sl_four (Blk.new w7 _ _)
  have HB8 : Hid (Below wA.heap.size wA w8) := Lib.hid (by rw [← hw8]; exact HB7.out.alloc HB7.out.size _)
  have KM8 := Lib.hid (ref3New_any _ _ w8 hs)
  have HWw8 := Lib.hid hw8
  have HSZw8 : Hid (w7.heap.size ≤ w8.heap.size ∧ Below w7.heap.size w7 w8) := Lib.hid (by rw [← hw8]; exact ⟨by simp, (Below.refl _ _).alloc (Nat.le_refl _) _⟩)
  rw [HZS.out] at KM8
  clear hs hw8
  have H8 := Lib.hid (H7.out.below keeps_true HSZw8.out.2)
  go_wp2_with fail
  rw [HWw8.out]
  refine KM8.out.mono ?_
  rintro e w9 ⟨hb9, ⟨h0, -⟩ | ⟨-, q, F2, rfl, hm, hF⟩⟩
  · exact absurd (h0.symm.trans HOK.out) (by decide)
  have H9 : OneX 71 w8 w9 q (Mm.fresh zs) (fun _ => False) (fun _ => True) := ⟨F2, hm, hF, hb9, fun _ h => h.elim, fun _ h => h.elim, trivial⟩
  have HB9 : Hid (Below wA.heap.size wA w9) := Lib.hid (HB8.out.trans (hb9.mono HB8.out.size))
  have KN := Lib.hid (lev_new c HCO.out first f1 f2 HWF.out.1 HWF.out.2 ((PairX.join keeps_true H8.out H9 (fun k hk => hk.elim)).less (fun k hk => .inl hk) (fun _ => trivial)))
  have KQ := Lib.hid (fun w' h' => rv_new (w0 := wA) (w := w') (p := q) (N := Mm.fresh zs) c HCO.out first f1 f2 HWF.out.1 HWF.out.2 h')
  obtain ⟨ec, hec⟩ : ∃ ec : Int, (if newOkG (Mm.fresh zs) first f1 f2 c = true then (0 : Int) else 1) = ec := ⟨_, rfl⟩
  rw [hec] at KN KQ
  obtain ⟨a0, a1, a2⟩ := HCA.out _ HB9.out
  clear hb9 hm hF H9 hec H8 H7 KM8 KM6 HB8 HB7 HB6
  go_wp2_with fail
  refine KN.out.mono ?_
  rintro e w10 ⟨⟨v1, rfl⟩, h10⟩
  have H10 := Lib.hid h10
  clear a0 a1 a2 h10
  obtain ⟨a0, a1, a2⟩ := HCA.out _ H10.out.old
  go_wp2_with fail
  refine (KA.out _).mono ?_
  rintro e w11 ⟨rfl, hb11⟩
  have KQ11 := Lib.hid (KQ.out _ (H10.out.below keeps_true hb11))
  clear a0 a1 a2 hb11 KQ
  go_wp2_with fail
  refine KQ11.out.mono ?_
  rintro e w12 ⟨⟨v2, rfl⟩, hb12⟩
  have HB12 := Lib.hid hb12
  have hE := Lib.hid (And.intro HRT.out HCO.out)
  obtain ⟨EV, hEV⟩ : ∃ EV, evN first f1 f2 c leaf = EV := ⟨_, rfl⟩
  have KE1 : Hid (∀ w', Calls Tryz.prog 17 #[.int .i64 first, .agg #[.int .i64 c.1, .int .i64 c.2.1, .int .i64 c.2.2], .int .i64 leaf] w' fun e w2 => ∃ v, e = .returned v ∧ SlE w2 v EV ∧ Below w'.heap.size w' w2) := Lib.hid fun w' => by
    rw [← hEV]
    exact (evN_lev c HCO.out HRT.out first f1 f2 HWF.out.1 HWF.out.2 leaf w').mono fun e w2 ⟨v, h1, h2, h3, _⟩ => ⟨v, h1, h2, h3⟩
  have KE2 : Hid (∀ w', Calls Tryz.prog 18 #[.int .i64 first, .agg #[.int .i64 c.1, .int .i64 c.2.1, .int .i64 c.2.2], .int .i64 leaf] w' fun e w2 => ∃ v, e = .returned v ∧ SlE w2 v EV ∧ Below w'.heap.size w' w2) := Lib.hid fun w' => by
    rw [← hEV]
    exact (evN_rev c HCO.out HRT.out first f1 f2 HWF.out.1 HWF.out.2 leaf w').mono fun e w2 ⟨v, h1, h2, h3, _⟩ => ⟨v, h1, h2, h3⟩
  have KSM := Lib.hid (fun w' v1 v2 (h1 : SlE w' v1 EV) (h2 : SlE w' v2 EV) => by
    have := sameE10_any v1 v2 EV EV w' h1 h2
    rwa [decide_eq_true rfl] at this)
  have q1 : (ec == ec) = true := by simp
  have hb0 : Below w12.heap.size w12 w12.drew := (Below.refl _ _).drew
  have HC3 : Hid (∀ w', Below w12.heap.size w12 w' → w'.cell? ⟨A, 0, none⟩ = some (.int .i64 c.1) ∧ w'.cell? ⟨A, 1, none⟩ = some (.int .i64 c.2.1) ∧ w'.cell? ⟨A, 2, none⟩ = some (.int .i64 c.2.2)) := Lib.hid fun w' h => HCA.out w' (HB12.out.trans (h.mono HB12.out.size))
  have HEF : Hid (∀ w', Below w12.heap.size w12 w' → Below w.heap.size w w') := Lib.hid fun w' h => HEND.out w' (HB12.out.trans (h.mono HB12.out.size))
  clear hEV hb12 KQ11 KN wf1 wf2
  go_upto_region 18 with fail
  go_region_held3 (fun w' => w'.cell? ⟨A, 0, none⟩ = some (.int .i64 c.1) ∧ w'.cell? ⟨A, 1, none⟩ = some (.int .i64 c.2.1) ∧ w'.cell? ⟨A, 2, none⟩ = some (.int .i64 c.2.2)) (first | exact HC3.out _ hb0 | exact HC3.out _ (by assumption)) (first
    | (go_at_call 17; go_loud (with_reducible refine (KE1.out _).mono ?_); go_loud (rintro e w1 ⟨v1, rfl, s1, hw1⟩); go_loud (first | have hb1 := hb3.trans (hw1.mono hb3.size) | have hb1 := hb2.trans (hw1.mono hb2.size) | have hb1 := hb0.trans (hw1.mono hb0.size)); (try have s3' := s3.below hw1))
    | (go_at_call 8; go_loud (with_reducible refine (KA.out _).mono ?_); go_loud (rintro e w2 ⟨rfl, hw2⟩); go_loud (first | have hb2 := hb1.trans (hw2.mono hb1.size) | have hb2 := hb0.trans (hw2.mono hb0.size)); (try have s1a := s1.below hw2))
    | (go_at_call 18; go_loud (with_reducible refine (KE2.out _).mono ?_); go_loud (rintro e w3 ⟨v3, rfl, s3, hw3⟩); go_loud (first | have hb3 := hb2.trans (hw3.mono hb2.size) | have hb3 := hb1.trans (hw3.mono hb1.size)); (try have s1' := s1.below hw3); (try have s1b := s1a.below hw3))
    | (go_at_call 16; with_reducible refine (KSM.out _ _ _ s1' s3).mono ?_; rintro e w4 ⟨rfl, hw4⟩; (first | have hb4 := hb3.trans (hw4.mono hb3.size) | have hb4 := hb1.trans (hw4.mono hb1.size)))
    | (go_at_call 16; with_reducible refine (KSM.out _ _ _ s1b s3).mono ?_; rintro e w4 ⟨rfl, hw4⟩; (first | have hb4 := hb3.trans (hw4.mono hb3.size) | have hb4 := hb1.trans (hw4.mono hb1.size)))
    | (go_at_call 16; with_reducible refine (KSM.out _ _ _ s1 s3').mono ?_; rintro e w4 ⟨rfl, hw4⟩; (first | have hb4 := hb3.trans (hw4.mono hb3.size) | have hb4 := hb1.trans (hw4.mono hb1.size))))
  all_goals
    have HF := Lib.hid (HEF.out _ hb4)
    clear hb4
    go_wp2
    go_ret
    exact ⟨rfl, HF.out⟩
end Go.Proofs.YthchfdobdghdoaaGreat
