/-
  Joined texts: Reg.
-/
import Derived.Test.YthchfdobdghdoaaGreatHad
import Derived.Deep.QuietTactic
import Derived.BigQuiet
set_option linter.unusedVariables false
set_option linter.unusedSimpArgs false
set_option linter.unusedSectionVars false
set_option linter.unnecessarySimpa false
section

/-
  Regions that draw their order and read, and call what makes memory: one walk in the order of the text, in the class of the worlds that agree below a block.
-/
namespace Go.Sg
open Go Go.RowKit

theorem below_drewN' {B n : Nat} {a w : World} (h : Below B a w) : Below B a (w.drewN n) := ⟨h.os, h.tape, h.output, h.size, h.block⟩

section
variable {P : Program}
/-- The walk goes on from whatever world of which this is known. -/
theorem at_world {c : Code} {Q : Exit → Act → World → Prop} {a : Act} {w : World} (F : World → Prop) (h : F w) (hk : ∀ w', F w' → c.wp P Q a w') : c.wp P Q a w := hk w h
theorem cls_call {f : FuncId} {args : Array Value} {v : Value} (h : ∀ w, Calls P f args w fun e w' => e = .returned v ∧ Below w.heap.size w w') {B : Nat} {w0 w : World} (hB : B ≤ w0.heap.size) (hw : Below B w0 w) :
    Calls P f args w fun e w' => e = .returned v ∧ Below B w0 w' :=
  (h w).mono fun _ _ ⟨he, hb⟩ => ⟨he, hw.trans (hb.mono (Nat.le_trans hB hw.size))⟩
/-- The region in whatever class of worlds. -/
theorem wp_region_cls {id : Nat} {Q : Exit → Act → World → Prop} {a : Act} {w : World} {l : List Oper} (C : World → Prop) (hm : P.follows .mixedOrders = true) (hB : Region.lexB .any l.toArray = true) (hC : C w.drew)
    (h : wpQuiet P l.toArray C (fun a' => ∀ w', C w' → Q .normal a' w') l a) : (Code.region id l.toArray true).wp P Q a w :=
  wp_region_quiet (C := C) hm hB hC (by simpa using h)

/-- A row is loaded, in whatever world of the class. -/
theorem qs_load_row {ops : Array Oper} {C : World → Prop} {o : Oper} {a : Act} {K : Act → Prop} (hw : Region.wanted o (yielded ops a.tmps) = true) (ty : TypeId) (x : Operand) (ho : o.op = .load ty x)
    (g : Nat) (hx : a.eval x = .pointer (some ⟨g, 0, none⟩)) (t : TypeId) (cs : Array Value) (d : TypeDesc) (hg : ∀ w, C w → Blk w g cs t)
    (hu : P.underlying ty = some d) (hd : (match d with | .struct _ | .array _ _ => true | _ => false) = true) (hi : (P.info? ty).map (·.size) = some cs.size)
    (hK : K (a.put o.dst (.agg cs))) : if Region.wanted o (yielded ops a.tmps) = true then o.quiet P a C K else K (a.put o.dst undef) := by
  rw [if_pos hw]
  refine ⟨.agg cs, fun w hC => ?_, hK⟩
  unfold Oper.quietAt execOp
  simp only [ho, hx, Instr.loadAt, Instr.sureAddr, Sem.run_bind, Sem.run_pure, Result.andThen_ok, run_loadVar_row w g t ty cs (0, 0) d (hg w hC) hu hd hi]
  exact ⟨rfl, rfl⟩

/-- One cell is loaded. -/
theorem qs_load_cell {ops : Array Oper} {C : World → Prop} {o : Oper} {a : Act} {K : Act → Prop} (hw : Region.wanted o (yielded ops a.tmps) = true) (ty : TypeId) (x : Operand) (ho : o.op = .load ty x)
    (ad : Addr) (hx : a.eval x = .pointer (some ad)) (v : Value) (hg : ∀ w, C w → w.cell? ad = some v) (ha : ∀ w, (isAgg ty).run P w = .ok false w)
    (hK : K (a.put o.dst v)) : if Region.wanted o (yielded ops a.tmps) = true then o.quiet P a C K else K (a.put o.dst undef) := by
  rw [if_pos hw]
  refine ⟨v, fun w hC => ?_, hK⟩
  have hl : (loadVar ty ad).run P w = .ok v w := by
    have h1 := hg w hC
    simp [loadVar, ha w, load, Sem.run, h1]
  unfold Oper.quietAt execOp
  simp only [ho, hx, Instr.loadAt, Instr.sureAddr, Sem.run_bind, Sem.run_pure, Result.andThen_ok, hl]
  exact ⟨rfl, rfl⟩
end
end Go.Sg
end
