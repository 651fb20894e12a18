/-
  Joined texts: CellFn3.
-/
import Derived.Test.YthchfdobdghdoaaGreatProg
import Derived.Test.YthchfdobdghdoaaGreatHad
import Derived.Test.YthchfdobdghdoaaGreatHac
import Derived.Deep.LoopGhost
set_option linter.unusedVariables false
set_option linter.unusedSimpArgs false
set_option linter.unusedSectionVars false
set_option linter.unnecessarySimpa false
section

/-
  The walk of shellgamelaw3.cell.
-/
namespace Go.Proofs.YthchfdobdghdoaaGreat
open Go.RowKit Go.Sg

structure CellW3 (w : World) (n : Int) (k : Nat) (wr : World) : Prop where
  out : Blk wr w.heap.size z12 74
  one : Blk wr (w.heap.size + 1) (cw (mixed (cellL n) zeros k)) 74
  old : Below w.heap.size w wr

theorem CellW3.step {w wr : World} {n : Int} {k : Nat} (h : CellW3 w n k wr) (hk : k < 12) {x : Int} (hx : x = cellAt n k) :
    CellW3 w n (k + 1) (wr.setCell ⟨w.heap.size + 1, k, none⟩ (.int .u64 x)) := by
  have hl := cellL_len n
  refine ⟨h.out.other _ _ (by show w.heap.size ≠ w.heap.size + 1; omega), ?_, h.old.setCell (by show w.heap.size ≤ w.heap.size + 1; omega) _⟩
  have := h.one.set k (.int .u64 x)
  rw [hx, ← cellL_get (n := n) (k := k) (by omega), cw_set, mixed_set (by rw [hl]; rfl) (by show k < 12; exact hk)] at this
  rwa [hx, ← cellL_get (n := n) (k := k) (by omega)]

end Go.Proofs.YthchfdobdghdoaaGreat
end
