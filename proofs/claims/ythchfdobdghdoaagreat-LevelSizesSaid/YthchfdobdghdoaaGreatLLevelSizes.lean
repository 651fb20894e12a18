/-
  The law shellgamelaw10.LevelSizes answers true at every input, and leaves its arguments as they were: no condition.
-/
import Derived.Test.YthchfdobdghdoaaGreatRows
import Derived.Test.YthchfdobdghdoaaGreatHam
import Derived.Test.YthchfdobdghdoaaGreatHap
import Derived.Test.YthchfdobdghdoaaGreatLevelSizes
set_option linter.unusedVariables false
set_option linter.unusedSimpArgs false
set_option linter.unusedSectionVars false
set_option linter.unnecessarySimpa false
namespace Go.Proofs.YthchfdobdghdoaaGreat.levelSizes
open Go.ChangeShapes Go.WideShapes Go.ChangeAt Go.RowKit Go.Sg
set_option linter.unusedVariables false
theorem own : ownKnob Tryz.prog.godebug = none := by kernel_rfl
theorem laidOut : laidOutB Tryz.prog = true := by kernel_rfl
theorem readable : ∀ t ∈ Tryz.f3.params.toList, Tryz.prog.readableRec t = true ∧ t < Tryz.prog.types.size := by
  intro t ht
  rw [Tryz.params3] at ht
  have hall : (#[23, 3, 3, 3] : Array TypeId).toList.all (fun t => Tryz.prog.readableRec t && decide (t < Tryz.prog.types.size)) = true := by kernel_rfl
  have := List.all_eq_true.1 hall t ht
  simpa using this
set_option maxRecDepth 100000 in
theorem lifted (os : Os) (started : os.Started) (H : Type) (enc : TypeId × Value → H) :
    ReturnsInHanded {} Tryz.checked os 3 .any (Rows.levelSizesSpec.pre6 enc Tryz.prog Tryz.f3 Rows.levelSizesRow.domain false) (Rows.levelSizesSpec.post enc Tryz.prog Tryz.f3 false true false false) := by
  refine returnsInHanded_of_change (C := Tryz.checked) own started (by kernel_rfl) Tryz.func3
    (ChangeSpec.witness6 (enc := enc) (C := Tryz.checked) false ⟨#[], #[.agg #[.int .i64 0, .int .i64 0, .int .i64 0], .int .i64 0, .int .i64 0, .int .i64 0], []⟩ 8 (by kernel_rfl) (by kernel_rfl) (by kernel_rfl) (by kernel_rfl)) ?_
  intro W base args ds gs before hval0 hW hcnd _
  have hval : ∀ (j : Nat) t v, Tryz.f3.params[j]? = some t → args[j]? = some v → Value.okWide Tryz.prog W .any base t v := hval0
  have hW' := hW
  obtain ⟨p, q, hA0, hV, rfl, hfz, hnd⟩ := hW
  have hA : DataW.TrodAll enc Tryz.prog W 0 (fun _ => true) true Tryz.f3.params.toList args.toList ds p := hA0
  rw [Tryz.params3] at hA hval
  obtain ⟨v0, vs0, d0, ds0, p0, q0, hargs, rfl, rfl, h0, r0⟩ := trodAll_cons hA
  obtain ⟨v1, vs1, d1, ds1, p1, q1, rfl, rfl, rfl, h1, r1⟩ := trodAll_cons r0
  obtain ⟨v2, vs2, d2, ds2, p2, q2, rfl, rfl, rfl, h2, r2⟩ := trodAll_cons r1
  obtain ⟨v3, vs3, d3, ds3, p3, q3, rfl, rfl, rfl, h3, r3⟩ := trodAll_cons r2
  obtain ⟨rfl, rfl, rfl⟩ := trodAll_nil r3
  obtain rfl : args = #[v0, v1, v2, v3] := by cases args; simp_all
  obtain ⟨rfl, rfl⟩ := trodVars_none hV
  obtain ⟨x0, rfl, w0a, w0b, w0c⟩ := open_Cfg (hval 0 23 v0 rfl rfl) h0
  obtain ⟨a1, rfl, rfl, rfl, w1⟩ := open_int Tryz.underlying3 (hval 1 3 v1 rfl rfl) h1
  obtain ⟨a2, rfl, rfl, rfl, w2⟩ := open_int Tryz.underlying3 (hval 2 3 v2 rfl rfl) h2
  obtain ⟨a3, rfl, rfl, rfl, w3⟩ := open_int Tryz.underlying3 (hval 3 3 v3 rfl rfl) h3
  clear hA0 hval0
  refine (LevelSizes_walk x0 a1 a2 a3 (w := W) ⟨w0a, w0b, w0c⟩ (i64_of w1) (i64_of w2) (i64_of w3)).mono fun e W' ⟨he, hb⟩ => ?_
  subst he
  exact ⟨_, rfl, law_post hW' laidOut readable rfl rfl Tryz.underlying4 rfl hb⟩
theorem named : Tryz.checked.prog.funcNamed Rows.levelSizesRow.func = some 3 := by kernel_rfl
theorem closed : joinedFacts Tryz.prog 3 Tryz.f3 Rows.levelSizesSpec Rows.levelSizesRow = true := by
  unfold joinedFacts
  simp only [Bool.and_eq_true]
  repeat' refine And.intro ?_ ?_
  all_goals first | (with_reducible exact enter_is) | (rw [lifts_is]; kernel_rfl) | (rw [make_is]; kernel_rfl) | kernel_rfl
theorem instB : decide (Tryz.f3.isInstance Tryz.checked.prog Rows.levelSizesRow.origin Rows.levelSizesRow.targs) = true := by kernel_rfl
theorem wrap : Tryz.f3.isWrapper Tryz.checked.prog Rows.levelSizesRow.wrapper Rows.levelSizesRow.mainSum := by unfold Func.isWrapper; first | (rw [if_pos (by decide +kernel)]; kernel_rfl) | (rw [if_neg (by decide +kernel)]; exact ⟨rfl, rfl⟩)
theorem over : Rows.levelSizesRow.holds Tryz.pinned (OpenSpec.ofChange Rows.levelSizesSpec) :=
  OpenClaim.holds_of_wide 3 Tryz.f3 rfl rfl rfl rfl rfl rfl rfl ⟨rfl, rfl, rfl, rfl, rfl⟩ rfl rfl rfl rfl rfl named Tryz.func3 closed (of_decide_eq_true instB) wrap
    (fun os started H enc _ => lifted os started H enc)
theorem proved : Rows.LevelSizesSaid := over
#print axioms proved
end Go.Proofs.YthchfdobdghdoaaGreat.levelSizes
