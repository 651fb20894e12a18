/-
  '==' of two looks, as the model runs it.
-/
import Derived.Test.YtngpaibppdehdaaMemSince
import Derived.Test.YtngpaibppdehdaaReg
import Derived.Laws.StructEq
import Derived.Deep.QuietTactic
import Derived.BigQuiet
namespace Go.Sg
open Go Go.RowKit
variable {P : Program}
/-- A row in the middle of a block is loaded, in whatever world of the class. -/
theorem qs_load_mid {ops : Array Oper} {C : World → Prop} {o : Oper} {a : Act} {K : Act → Prop} (hw : Region.wanted o (yielded ops a.tmps) = true) (ty : TypeId) (x : Operand) (ho : o.op = .load ty x)
    (b off : Nat) (hx : a.eval x = .pointer (some ⟨b, off, none⟩)) (cs : List Value) (d : TypeDesc) (hg : ∀ w, C w → w.rangeAt b off cs)
    (hu : P.underlying ty = some d) (hd : d.isRow = true) (hi : (P.info? ty).map (·.size) = some cs.length)
    (hK : K (a.put o.dst (.agg cs.toArray))) : if Region.wanted o (yielded ops a.tmps) = true then o.quiet P a C K else K (a.put o.dst undef) := by
  rw [if_pos hw]
  refine ⟨.agg cs.toArray, fun w hC => ?_, hK⟩
  unfold Oper.quietAt execOp
  simp only [ho, hx, Instr.loadAt, Instr.sureAddr, Sem.run_bind, Sem.run_pure, Result.andThen_ok, run_loadVar_mid w b off ty cs d (hg w hC) hu hd hi]
  exact ⟨rfl, rfl⟩
theorem rangeAt_ev {w : World} {b off : Nat} {es : List Ev} (h : w.rangeAt b off (evsV es)) (k : Nat) (hk : k < es.length) : w.rangeAt b (off + k * 3) (evV es[k]) := by
  intro j v hv
  rw [Nat.add_assoc]
  refine h (k * 3 + j) v ?_
  have h1 : (evsV es).drop (k * 3) = evV es[k] ++ evsV (es.drop (k + 1)) := by
    rw [evsV_drop, List.drop_eq_getElem_cons hk]
    rfl
  have h2 : ((evsV es).drop (k * 3))[j]? = (evsV es)[k * 3 + j]? := by rw [List.getElem?_drop]
  rw [← h2, h1, List.getElem?_append_left (List.getElem?_eq_some_iff.1 hv).1]
  exact hv
end Go.Sg
namespace Go.Proofs.Ytngpaibppdehdaa
open Go.RowKit Go.Sg

theorem run_eqev (e f : Ev) (w : World) : (Op.equalIn 10000 52 (.agg (evV e).toArray) (.agg (evV f).toArray)).run Try.prog w = .ok (decide (e = f)) w := by
  have u3 := Try.underlying3
  have a3 := Try.isAgg3
  have z3 := Try.sizeOf3
  have u4 := Try.underlying4
  have a4 := Try.isAgg4
  have z4 := Try.sizeOf4
  have hS : Try.prog.underlying 52 = some (.struct (Try.prog.fieldsOf 52)) := by kernel_rfl
  have hp : Try.prog.stoodInHeld 52 = false := by kernel_rfl
  obtain ⟨e1, e2, e3⟩ := e
  obtain ⟨f1, f2, f3⟩ := f
  simp only [evV]
  rw [show (10000 : Nat) = 9999 + 1 from rfl, run_equalIn_agg w 9999 52 _ _ hS hp]
  simp only [Program.fieldsOf, Try.underlying52]
  go_simp
  by_cases h1 : e1 = f1 <;> by_cases h2 : e2 = f2 <;> cases e3 <;> cases f3 <;> simp [h1, h2]
theorem info_ev3 (e : Ev) : (Try.prog.info? 52).map (·.size) = some (evV e).length := by kernel_rfl
end Go.Proofs.Ytngpaibppdehdaa
