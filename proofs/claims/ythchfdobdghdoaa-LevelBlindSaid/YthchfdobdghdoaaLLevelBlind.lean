
/-
  The law shellgamelaw10.LevelBlind answers true at every input, and leaves its arguments as they were: no condition.
-/
import Derived.Test.YthchfdobdghdoaaRows
import Derived.Test.YthchfdobdghdoaaHal
import Derived.Test.YthchfdobdghdoaaHao
import Derived.Test.YthchfdobdghdoaaLevelBlind
set_option linter.unusedVariables false
set_option linter.unusedSimpArgs false
set_option linter.unusedSectionVars false
set_option linter.unnecessarySimpa false
namespace Go.Proofs.Ythchfdobdghdoaa.levelBlind
open Go.ChangeShapes Go.WideShapes Go.ChangeAt Go.RowKit Go.Sg
set_option linter.unusedVariables false
theorem own : ownKnob Try.prog.godebug = none := by kernel_rfl
theorem laidOut : laidOutB Try.prog = true := by kernel_rfl
theorem readable : ∀ t ∈ Try.f4.params.toList, Try.prog.readableRec t = true ∧ t < Try.prog.types.size := by
  intro t ht
  rw [Try.params4] at ht
  have hall : (#[3, 22, 22, 38, 38] : Array TypeId).toList.all (fun t => Try.prog.readableRec t && decide (t < Try.prog.types.size)) = true := by kernel_rfl
  have := List.all_eq_true.1 hall t ht
  simpa using this
set_option maxRecDepth 100000 in
theorem lifted (os : Os) (started : os.Started) (H : Type) (enc : TypeId × Value → H) :
    ReturnsInHanded {} Try.checked os 4 .any (Rows.levelBlindSpec.pre6 enc Try.prog Try.f4 Rows.levelBlindRow.domain false) (Rows.levelBlindSpec.post enc Try.prog Try.f4 false true false false) := by
  refine returnsInHanded_of_change (C := Try.checked) own started (by kernel_rfl) Try.func4
    (ChangeSpec.witness6 (enc := enc) (C := Try.checked) false ⟨#[], #[.int .i64 0, .slice none 0 0, .slice none 0 0, .agg #[.int .i64 0, .int .u64 0, .int .i64 0, .int .u64 0, .int .i64 0, .int .i64 0], .agg #[.int .i64 0, .int .u64 0, .int .i64 0, .int .u64 0, .int .i64 0, .int .i64 0]], []⟩ 8 (by kernel_rfl) (by kernel_rfl) (by kernel_rfl) (by kernel_rfl)) ?_
  intro W base args ds gs before hval0 hW hcnd _
  have hval : ∀ (j : Nat) t v, Try.f4.params[j]? = some t → args[j]? = some v → Value.okWide Try.prog W .any base t v := hval0
  have hW' := hW
  obtain ⟨p, q, hA0, hV, rfl, hfz, hnd⟩ := hW
  have hA : DataW.TrodAll enc Try.prog W 0 (fun _ => true) true Try.f4.params.toList args.toList ds p := hA0
  rw [Try.params4] at hA hval
  obtain ⟨v0, vs0, d0, ds0, p0, q0, hargs, rfl, rfl, h0, r0⟩ := trodAll_cons hA
  obtain ⟨v1, vs1, d1, ds1, p1, q1, rfl, rfl, rfl, h1, r1⟩ := trodAll_cons r0
  obtain ⟨v2, vs2, d2, ds2, p2, q2, rfl, rfl, rfl, h2, r2⟩ := trodAll_cons r1
  obtain ⟨v3, vs3, d3, ds3, p3, q3, rfl, rfl, rfl, h3, r3⟩ := trodAll_cons r2
  obtain ⟨v4, vs4, d4, ds4, p4, q4, rfl, rfl, rfl, h4, r4⟩ := trodAll_cons r3
  obtain ⟨rfl, rfl, rfl⟩ := trodAll_nil r4
  obtain rfl : args = #[v0, v1, v2, v3, v4] := by cases args; simp_all
  obtain ⟨rfl, rfl⟩ := trodVars_none hV
  obtain ⟨a0, rfl, rfl, rfl, w0⟩ := open_int Try.underlying3 (hval 0 3 v0 rfl rfl) h0
  obtain ⟨z1, w1⟩ := open_Steps (hval 1 22 v1 rfl rfl) h1
  obtain ⟨z2, w2⟩ := open_Steps (hval 2 22 v2 rfl rfl) h2
  obtain ⟨x3, rfl, w3⟩ := open_Step (hval 3 38 v3 rfl rfl) h3
  obtain ⟨x4, rfl, w4⟩ := open_Step (hval 4 38 v4 rfl rfl) h4
  clear hA0 hval0
  refine (LevelBlind_walk a0 v1 z1 v2 z2 x3 x4 (w := W) (i64_of w0) w1.1 w1.2 w2.1 w2.2 w3 w4).mono fun e W' ⟨he, hb⟩ => ?_
  subst he
  exact ⟨_, rfl, law_post hW' laidOut readable rfl rfl Try.underlying4 rfl hb⟩
theorem named : Try.checked.prog.funcNamed Rows.levelBlindRow.func = some 4 := by kernel_rfl
theorem closed : joinedFacts Try.prog 4 Try.f4 Rows.levelBlindSpec Rows.levelBlindRow = true := by
  unfold joinedFacts
  simp only [Bool.and_eq_true]
  repeat' refine And.intro ?_ ?_
  all_goals first | (with_reducible exact enter_is) | (rw [lifts_is]; kernel_rfl) | (rw [make_is]; kernel_rfl) | kernel_rfl
theorem instB : decide (Try.f4.isInstance Try.checked.prog Rows.levelBlindRow.origin Rows.levelBlindRow.targs) = true := by kernel_rfl
theorem wrap : Try.f4.isWrapper Try.checked.prog Rows.levelBlindRow.wrapper Rows.levelBlindRow.mainSum := by unfold Func.isWrapper; first | (rw [if_pos (by decide +kernel)]; kernel_rfl) | (rw [if_neg (by decide +kernel)]; exact ⟨rfl, rfl⟩)
theorem over : Rows.levelBlindRow.holds Try.pinned (OpenSpec.ofChange Rows.levelBlindSpec) :=
  OpenClaim.holds_of_wide 4 Try.f4 rfl rfl rfl rfl rfl rfl rfl ⟨rfl, rfl, rfl, rfl, rfl⟩ rfl rfl rfl rfl rfl named Try.func4 closed (of_decide_eq_true instB) wrap
    (fun os started H enc _ => lifted os started H enc)
theorem proved : Rows.LevelBlindSaid := over
#print axioms proved
end Go.Proofs.Ythchfdobdghdoaa.levelBlind
