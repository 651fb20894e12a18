/-
  The law shellgamelaw10.LevelMoves answers true at every input, and leaves its arguments as they were: no condition.
-/
import Derived.Test.YtiimdgdimjjboaaRows
import Derived.Test.YtiimdgdimjjboaaHal
import Derived.Test.YtiimdgdimjjboaaHao
import Derived.Test.YtiimdgdimjjboaaLevelMoves
set_option linter.unusedVariables false
set_option linter.unusedSimpArgs false
set_option linter.unusedSectionVars false
set_option linter.unnecessarySimpa false
namespace Go.Proofs.Ytiimdgdimjjboaa.levelMoves
open Go.ChangeShapes Go.WideShapes Go.ChangeAt Go.RowKit Go.Sg
set_option linter.unusedVariables false
theorem own : ownKnob Try.prog.godebug = none := by kernel_rfl
theorem laidOut : laidOutB Try.prog = true := by kernel_rfl
theorem readable : ∀ t ∈ Try.f11.params.toList, Try.prog.readableRec t = true ∧ t < Try.prog.types.size := by
  intro t ht
  rw [Try.params11] at ht
  have hall : (#[3, 52, 3, 42, 42, 3] : Array TypeId).toList.all (fun t => Try.prog.readableRec t && decide (t < Try.prog.types.size)) = true := by kernel_rfl
  have := List.all_eq_true.1 hall t ht
  simpa using this
set_option maxRecDepth 100000 in
theorem lifted (os : Os) (started : os.Started) (H : Type) (enc : TypeId × Value → H) :
    ReturnsInHanded {} Try.checked os 11 .any (Rows.levelMovesSpec.pre6 enc Try.prog Try.f11 Rows.levelMovesRow.domain false) (Rows.levelMovesSpec.post enc Try.prog Try.f11 false true false false) := by
  refine returnsInHanded_of_change (C := Try.checked) own started (by kernel_rfl) Try.func11
    (ChangeSpec.witness6 (enc := enc) (C := Try.checked) false ⟨#[], #[.int .i64 0, .slice none 0 0, .int .i64 0, .int .u64 0, .int .u64 0, .int .i64 0], []⟩ 8 (by kernel_rfl) (by kernel_rfl) (by kernel_rfl) (by kernel_rfl)) ?_
  intro W base args ds gs before hval0 hW hcnd _
  have hval : ∀ (j : Nat) t v, Try.f11.params[j]? = some t → args[j]? = some v → Value.okWide Try.prog W .any base t v := hval0
  have hW' := hW
  obtain ⟨p, q, hA0, hV, rfl, hfz, hnd⟩ := hW
  have hA : DataW.TrodAll enc Try.prog W 0 (fun _ => true) true Try.f11.params.toList args.toList ds p := hA0
  rw [Try.params11] at hA hval
  obtain ⟨v0, vs0, d0, ds0, p0, q0, hargs, rfl, rfl, h0, r0⟩ := trodAll_cons hA
  obtain ⟨v1, vs1, d1, ds1, p1, q1, rfl, rfl, rfl, h1, r1⟩ := trodAll_cons r0
  obtain ⟨v2, vs2, d2, ds2, p2, q2, rfl, rfl, rfl, h2, r2⟩ := trodAll_cons r1
  obtain ⟨v3, vs3, d3, ds3, p3, q3, rfl, rfl, rfl, h3, r3⟩ := trodAll_cons r2
  obtain ⟨v4, vs4, d4, ds4, p4, q4, rfl, rfl, rfl, h4, r4⟩ := trodAll_cons r3
  obtain ⟨v5, vs5, d5, ds5, p5, q5, rfl, rfl, rfl, h5, r5⟩ := trodAll_cons r4
  obtain ⟨rfl, rfl, rfl⟩ := trodAll_nil r5
  obtain rfl : args = #[v0, v1, v2, v3, v4, v5] := by cases args; simp_all
  obtain ⟨rfl, rfl⟩ := trodVars_none hV
  obtain ⟨a0, rfl, rfl, rfl, w0⟩ := open_int Try.underlying3 (hval 0 3 v0 rfl rfl) h0
  obtain ⟨z1, w1⟩ := open_Steps (hval 1 52 v1 rfl rfl) h1
  obtain ⟨a2, rfl, rfl, rfl, w2⟩ := open_int Try.underlying3 (hval 2 3 v2 rfl rfl) h2
  obtain ⟨a3, rfl, rfl, rfl, w3⟩ := open_int Try.underlying42 (hval 3 42 v3 rfl rfl) h3
  obtain ⟨a4, rfl, rfl, rfl, w4⟩ := open_int Try.underlying42 (hval 4 42 v4 rfl rfl) h4
  obtain ⟨a5, rfl, rfl, rfl, w5⟩ := open_int Try.underlying3 (hval 5 3 v5 rfl rfl) h5
  clear hA0 hval0
  refine (LevelMoves_walk a0 v1 z1 a2 a3 a4 a5 (w := W) (i64_of w0) w1.1 w1.2 (i64_of w2) (u64_of w3) (u64_of w4) (i64_of w5)).mono fun e W' ⟨he, hb⟩ => ?_
  subst he
  exact ⟨_, rfl, law_post hW' laidOut readable rfl rfl Try.underlying4 rfl hb⟩
theorem named : Try.checked.prog.funcNamed Rows.levelMovesRow.func = some 11 := by kernel_rfl
theorem closed : joinedFacts Try.prog 11 Try.f11 Rows.levelMovesSpec Rows.levelMovesRow = true := by
  unfold joinedFacts
  simp only [Bool.and_eq_true]
  repeat' refine And.intro ?_ ?_
  all_goals first | (with_reducible exact enter_is) | (rw [lifts_is]; kernel_rfl) | (rw [make_is]; kernel_rfl) | kernel_rfl
theorem instB : decide (Try.f11.isInstance Try.checked.prog Rows.levelMovesRow.origin Rows.levelMovesRow.targs) = true := by kernel_rfl
theorem wrap : Try.f11.isWrapper Try.checked.prog Rows.levelMovesRow.wrapper Rows.levelMovesRow.mainSum := by unfold Func.isWrapper; first | (rw [if_pos (by decide +kernel)]; kernel_rfl) | (rw [if_neg (by decide +kernel)]; exact ⟨rfl, rfl⟩)
theorem over : Rows.levelMovesRow.holds Try.pinned (OpenSpec.ofChange Rows.levelMovesSpec) :=
  OpenClaim.holds_of_wide 11 Try.f11 rfl rfl rfl rfl rfl rfl rfl ⟨rfl, rfl, rfl, rfl, rfl⟩ rfl rfl rfl rfl rfl named Try.func11 closed (of_decide_eq_true instB) wrap
    (fun os started H enc _ => lifted os started H enc)
theorem proved : Rows.LevelMovesSaid := over
#print axioms proved
end Go.Proofs.Ytiimdgdimjjboaa.levelMoves
