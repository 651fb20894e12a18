/-
  Joined texts: DItem, Step, LCfg.
-/
import Derived.Test.YthchfdobdghdoaaGreatHay
import Derived.Test.YthchfdobdghdoaaGreatHam
import Derived.Deep.Slices
import Derived.Deep.Fields
import Derived.ChangeSame
set_option linter.unusedVariables false
set_option linter.unusedSimpArgs false
set_option linter.unusedSectionVars false
set_option linter.unnecessarySimpa false
section

/-
  An argument that is a slice of deal's items; a shape by value.
-/
namespace Go.Sg
open Go Go.RowKit
def DiOk (x : Di) : Prop := Word x.1 ∧ Num x.2
end Go.Sg
namespace Go.Proofs.YthchfdobdghdoaaGreat
open Go.ChangeShapes Go.WideShapes Go.ChangeAt Go.RowKit Go.Sg

end Go.Proofs.YthchfdobdghdoaaGreat
end
section

/-
  An argument that is a slice of steps; one by value.
-/
namespace Go.Sg
open Go Go.RowKit
/-- what is done, the id, where, a number, the leaf it comes from, the leaf it goes to -/
abbrev Sx := Int × Int × Int × Int × Int × Int
def sxV (s : Sx) : List Value := [.int .i64 s.1, .int .u64 s.2.1, .int .i64 s.2.2.1, .int .u64 s.2.2.2.1, .int .i64 s.2.2.2.2.1, .int .i64 s.2.2.2.2.2]
def SxOk (s : Sx) : Prop := Num s.1 ∧ Word s.2.1 ∧ Num s.2.2.1 ∧ Word s.2.2.2.1 ∧ Num s.2.2.2.2.1 ∧ Num s.2.2.2.2.2
end Go.Sg
namespace Go.Proofs.YthchfdobdghdoaaGreat
open Go.ChangeShapes Go.WideShapes Go.ChangeAt Go.RowKit Go.Sg
end Go.Proofs.YthchfdobdghdoaaGreat
end
section
/-
  A level's config as an argument.
-/
namespace Go.Sg
open Go Go.RowKit
/-- a config's words -/
def cfgV (s : Sh) : List Value := [.int .i64 s.1, .int .i64 s.2.1, .int .i64 s.2.2]
end Go.Sg
namespace Go.Proofs.YthchfdobdghdoaaGreat
open Go.ChangeShapes Go.WideShapes Go.ChangeAt Go.RowKit Go.Sg
set_option maxRecDepth 1000000 in
theorem open_Cfg {H : Type} {enc : TypeId × Value → H} {W : World} {base : Nat} {v : Value} {d : DataW H} {p : List MemPlace} (hv : Value.okWide Tryz.prog W .any base 23 v) (h : DataW.Trod enc Tryz.prog W 0 (fun _ => true) true 23 v d p) : ∃ s : Sh, v = .agg (cfgV s).toArray ∧ Num s.1 ∧ Num s.2.1 ∧ Num s.2.2 := by
  obtain ⟨cs, rfl, hsz⟩ := okWide_struct Tryz.underlying23 hv
  obtain ⟨fuel, hf⟩ := h
  obtain ⟨xs, n', _, _, hlen, hxl, hg⟩ := DataW.trod_struct Tryz.underlying23 hf
  have hC : Tryz.prog.cellsOf 23 = 3 := by kernel_rfl
  have h3 : Tryz.prog.cellsOf 3 = 1 := by kernel_rfl
  rw [hC] at hlen
  have hx4 : xs.length = 3 := hxl
  obtain ⟨ls, hls⟩ : ∃ ls, (Value.agg cs).cells.toList = ls := ⟨_, rfl⟩
  have hcs : cs = ls.toArray := by rw [← hls]; simp [Value.cells]
  rw [hls] at hlen hg
  rw [hcs]
  match ls, hlen with
  | [c0, c1, c2], _ =>
    match xs, hx4 with
    | [y0, y1, y2], _ =>
      have g0 : DataW.trod enc Tryz.prog W 0 (fun _ => true) true n' 3 (([c0, c1, c2].drop 0).take (Tryz.prog.cellsOf 3)) = some y0 := hg 0 _ rfl
      have g1 : DataW.trod enc Tryz.prog W 0 (fun _ => true) true n' 3 (([c0, c1, c2].drop 1).take (Tryz.prog.cellsOf 3)) = some y1 := hg 1 _ rfl
      have g2 : DataW.trod enc Tryz.prog W 0 (fun _ => true) true n' 3 (([c0, c1, c2].drop 2).take (Tryz.prog.cellsOf 3)) = some y2 := hg 2 _ rfl
      rw [h3] at g0 g1 g2
      obtain ⟨n0, e0, _, w0⟩ := DataW.trod_int Tryz.underlying3 g0
      obtain ⟨n1, e1, _, w1⟩ := DataW.trod_int Tryz.underlying3 g1
      obtain ⟨n2, e2, _, w2⟩ := DataW.trod_int Tryz.underlying3 g2
      simp at e0 e1 e2
      exact ⟨(n0, n1, n2), by simp [cfgV, e0, e1, e2], i64_of w0, i64_of w1, i64_of w2⟩
end Go.Proofs.YthchfdobdghdoaaGreat
end
