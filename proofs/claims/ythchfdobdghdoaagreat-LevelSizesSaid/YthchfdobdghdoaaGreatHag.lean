/-
  Joined texts: CellEq, LevE.
-/
import Derived.Test.YthchfdobdghdoaaGreatProg
import Derived.Test.YthchfdobdghdoaaGreatHad
import Derived.Laws.StructEq
set_option linter.unusedVariables false
set_option linter.unusedSimpArgs false
set_option linter.unusedSectionVars false
set_option linter.unnecessarySimpa false
section

/-
  '==' of two cells, as the model runs it; the world's class for regions that read and call.
-/
namespace Go.Proofs.YthchfdobdghdoaaGreat
open Go.RowKit Go.Sg

theorem run_eq_u64 (d : Nat) (x y : Int) (w : World) : (Op.equalIn (d + 1) 56 (.int .u64 x) (.int .u64 y)).run Tryz.prog w = .ok (x == y) w := by
  have u := Tryz.underlying56
  simp [Op.equalIn, run_underlying u]

theorem run_part_cw (l : List Int) (i : Nat) (hi : i < l.length) (w : World) : (part 56 (cw l) i).run Tryz.prog w = .ok (.int .u64 l[i]) w := by
  have z := Tryz.sizeOf56
  have a := Tryz.isAgg56
  simp [part, z, a, cw, hi]

theorem run_eqloop (d : Nat) (l1 l2 : List Int) (h : l1.length = l2.length) (w : World) : ∀ (n i : Nat), i + n = l1.length →
    (forIn (m := Sem) (List.range' i n) ((none, ()) : Option Bool × PUnit) fun j _ => do
      let a ← part 56 (cw l1) (j * 1)
      let b ← part 56 (cw l2) (j * 1)
      let r ← Op.equalIn (d + 1) 56 a b
      if (!r) = true then pure (.done (some false, ())) else pure (.yield (none, ()))).run Tryz.prog w =
      .ok (if l1.drop i = l2.drop i then (none, ()) else (some false, ())) w
  | 0, i, hi => by
    have e1 : l1.drop i = [] := List.drop_eq_nil_of_le (by omega)
    have e2 : l2.drop i = [] := List.drop_eq_nil_of_le (by omega)
    simp [e1, e2, pure]
  | n + 1, i, hi => by
    have h1 : i < l1.length := by omega
    have h2 : i < l2.length := by omega
    have e1 : l1.drop i = l1[i] :: l1.drop (i + 1) := List.drop_eq_getElem_cons h1
    have e2 : l2.drop i = l2[i] :: l2.drop (i + 1) := List.drop_eq_getElem_cons h2
    have ih := run_eqloop d l1 l2 h w n (i + 1) (by omega)
    rw [List.range'_succ, List.forIn_cons]
    simp only [Sem.run_bind, Nat.mul_one, run_part_cw l1 i h1, run_part_cw l2 i h2, run_eq_u64, Result.andThen_ok]
    simp only [Nat.mul_one] at ih
    by_cases e : l1[i] = l2[i]
    · have hb : (l1[i] == l2[i]) = true := by simp [e]
      have hc : (l1.drop i = l2.drop i) = (l1.drop (i + 1) = l2.drop (i + 1)) := by
        rw [e1, e2, e]
        exact propext ⟨fun g => by injection g, fun g => by rw [g]⟩
      simp only [hb, Bool.not_true, Bool.false_eq_true, if_false, Sem.run_pure, Result.andThen_ok, ih, hc]
    · have hb : (l1[i] == l2[i]) = false := by simp [e]
      have hc : ¬ (l1.drop i = l2.drop i) := by
        rw [e1, e2]
        intro g
        injection g with g1 g2
        exact e g1
      simp only [hb, Bool.not_false, if_true, Sem.run_pure, Result.andThen_ok, hc, if_false]

end Go.Proofs.YthchfdobdghdoaaGreat
end
section

/-
  '==' of two data, as the model runs it.
-/
namespace Go.Proofs.YthchfdobdghdoaaGreat
open Go Go.RowKit Go.Sg
theorem run_eqdata (l1 l2 : List Int) (h1 : l1.length = 8) (h2 : l2.length = 8) (w : World) :
    (Op.equalIn 10000 61 (.agg (cw l1)) (.agg (cw l2))).run Tryz.prog w = .ok (decide (l1 = l2)) w := by
  have u := Tryz.underlying61
  have z := Tryz.sizeOf56
  have hl := run_eqloop 9998 l1 l2 (by omega) w 8 0 (by omega)
  rw [show (10000 : Nat) = 9999 + 1 from rfl]
  unfold Op.equalIn
  simp only [Sem.run_bind, run_underlying u, Result.andThen_ok, z]
  rw [Std.Legacy.Range.forIn_eq_forIn_range']
  have e : List.range' [:8].start [:8].size [:8].step = List.range' 0 8 := rfl
  rw [e, hl]
  simp only [List.drop_zero, Result.andThen_ok]
  by_cases h : l1 = l2 <;> simp [h]
end Go.Proofs.YthchfdobdghdoaaGreat
end
