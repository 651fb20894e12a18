/-
  Joined texts: StabW.
-/
import Derived.Test.YthchfdobdghdoaaGreatHan
import Derived.Test.YthchfdobdghdoaaGreatHad
import Derived.Test.YthchfdobdghdoaaGreatHae
set_option linter.unusedVariables false
set_option linter.unusedSimpArgs false
set_option linter.unusedSectionVars false
set_option linter.unnecessarySimpa false
section

/-
  The row that a stable sort puts in order, in the worlds that it passes through.
-/
namespace Go.Sg
open Go Go.RowKit
/-- Block G holds the elements d, k cells each, and tl behind them; all else that was in w0 is as it was. -/
structure Rw {α : Type} (enc : α → List Value) (T : TypeId) (w0 : World) (G : Nat) (tl : List Value) (d : List α) (w : World) : Prop where
  blk : Blk w G (flatV enc d ++ tl).toArray T
  fr : MFrame (fun i => i = G) w0 w
section
variable {α : Type} {enc : α → List Value} {k T G : Nat} {w0 w w' : World} {tl : List Value} {d : List α}
theorem Rw.below (h : Rw enc T w0 G tl d w) (hb : Below w.heap.size w w') : Rw enc T w0 G tl d w' :=
  ⟨h.blk.below hb h.blk.lt, h.fr.trans (MFrame.of_below hb)⟩
theorem Rw.drew (h : Rw enc T w0 G tl d w) : Rw enc T w0 G tl d w.drew := h.below ((Below.refl _ _).drew)
theorem Rw.drewN (h : Rw enc T w0 G tl d w) (n : Nat) : Rw enc T w0 G tl d (w.drewN n) := h.below (below_drewN' (Below.refl _ _))
theorem Rw.at (he : EncK enc k) (h : Rw enc T w0 G tl d w) {i : Nat} {x : α} (hx : d[i]? = some x) : w.rangeAt G (i * k) (enc x) := by
  obtain ⟨hi, rfl⟩ := List.getElem?_eq_some_iff.1 hx
  intro j u hu
  have hj := (List.getElem?_eq_some_iff.1 hu).1
  rw [h.blk.cell, List.getElem?_toArray, List.getElem?_append_left]
  · exact flatV_at he hi hu
  · rw [flatV_len he, he.len] at *
    have := Nat.mul_le_mul_right k (show i + 1 ≤ d.length from hi)
    rw [Nat.add_mul, Nat.one_mul] at this
    omega
theorem Rw.there (he : EncK enc k) (h : Rw enc T w0 G tl d w) {i : Nat} (hi : i < d.length) : w.there G (i * k) k := by
  have hk := Nat.mul_le_mul_right k (show i + 1 ≤ d.length from hi)
  rw [Nat.add_mul, Nat.one_mul] at hk
  intro j hj
  refine ⟨?_, h.blk.free _⟩
  have : i * k + j < (flatV enc d ++ tl).length := by rw [List.length_append, flatV_len he]; omega
  rw [h.blk.cell, List.getElem?_toArray, List.getElem?_eq_getElem this]
  rfl
theorem Rw.set (he : EncK enc k) (h : Rw enc T w0 G tl d w) {i : Nat} (hi : i < d.length) (y : α) : Rw enc T w0 G tl (d.set i y) (w.setCells G (i * k) (enc y)) := by
  have hk := Nat.mul_le_mul_right k (show i + 1 ≤ d.length from hi)
  rw [Nat.add_mul, Nat.one_mul] at hk
  refine ⟨?_, h.fr.setCells _ _ (.inl rfl)⟩
  have := Blk.splice (enc y) (i * k) _ h.blk (by rw [he.len, List.length_append, flatV_len he]; omega)
  rwa [flatV_set he d y tl hi] at this
/-- two elements change places -/
theorem Rw.swap (he : EncK enc k) (h : Rw enc T w0 G tl d w) {i j : Nat} {x y : α} (hx : d[i]? = some x) (hy : d[j]? = some y) :
    Rw enc T w0 G tl (swL d i j) ((w.setCells G (i * k) (enc y)).setCells G (j * k) (enc x)) := by
  have hi := (List.getElem?_eq_some_iff.1 hx).1
  have hj := (List.getElem?_eq_some_iff.1 hy).1
  have e : swL d i j = (d.set i y).set j x := by unfold swL; rw [hx, hy]
  rw [e]
  exact (h.set he hi y).set he (by rw [List.length_set]; exact hj) x
end
end Go.Sg
end
