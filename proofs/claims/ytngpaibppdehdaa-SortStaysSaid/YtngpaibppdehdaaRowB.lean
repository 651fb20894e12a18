/-
  An argument that is a slice of bools; rows of words as slices.
-/
import Derived.Test.YtngpaibppdehdaaRow
import Derived.Test.YtngpaibppdehdaaSl
import Derived.Deep.Grids
import Derived.Deep.OwnRows
namespace Go.Sg
open Go Go.RowKit Go.ChangeShapes Go.WideShapes Go.ChangeAt
/-- What a walk is told of a slice of bools that came in. -/
def SlB (w : World) (v : Value) (bs : List Bool) : Prop := Sl1 w v (bs.map Value.bool)
theorem open_SlB {H : Type} {enc : TypeId × Value → H} {P : Program} {W : World} {base : Nat} {t e : TypeId} (ht : P.underlying t = some (.slice e)) (he : P.underlying e = some .bool) (hc : P.cellsOf e = 1)
    {v : Value} {d : DataW H} {p : List MemPlace} (hv : Value.okWide P W .any base t v) (h : DataW.Trod enc P W 0 (fun _ => true) true t v d p) : ∃ bs, SlB W v bs := by
  obtain ⟨a0, len, cap, rfl⟩ := okWide_slice ht hv
  obtain ⟨fuel, hf⟩ := h
  rcases Go.Deep.open_bools ht he hc hf with ⟨hcs, _⟩ | ⟨x, l, c, B, hcs, _, hl, hm, _, hcell⟩
  · simp [Value.cells] at hcs
    obtain ⟨rfl, rfl, rfl⟩ := hcs
    exact ⟨[], .inl ⟨rfl, none, 0, rfl⟩⟩
  · simp [Value.cells] at hcs
    obtain ⟨rfl, rfl, rfl⟩ := hcs
    by_cases h0 : len = 0
    · subst h0
      exact ⟨[], .inl ⟨rfl, some x, cap, rfl⟩⟩
    · obtain ⟨b, off, spot⟩ := x
      have h1 := hcell 0 (by omega)
      have hs : spot = none := by
        cases spot with
        | none => rfl
        | some s =>
          exfalso
          simp [World.cell?, Addr.add] at h1
          split at h1 <;> simp at h1
      subst hs
      have hb : b < W.heap.size := by
        have := World.block_lt_of_cell? W _ h1
        simpa [Addr.add] using this
      refine ⟨(List.range len).map B, .inr ⟨?_, b, off, cap, ?_, ?_, hm, hb, ?_⟩⟩
      · intro e0
        have := congrArg List.length e0
        simp at this
        exact h0 this
      · simp
      · simpa using hl
      · intro i hi
        have hi' : i < len := by simpa using hi
        have := hcell i (by omega)
        rw [addr_add] at this
        rw [this]
        simp
/-- a row of words, as a slice -/
theorem sl1_row {w : World} {G N : Nat} {e : TypeId} {g : Nat → Int} (h : w.rowIs G e N (fun j => .int .u64 (g j))) (hN : 0 < N) (hm : N ≤ maxLen) : Sl1 w (.slice (some ⟨G, 0, none⟩) N N) (((List.range N).map g).map (Value.int .u64)) := by
  have hlt : G < w.heap.size := by
    have := h.cell hN
    exact World.block_lt_of_cell? w _ this
  refine .inr ⟨fun e0 => ?_, G, 0, N, by simp, by simp, hm, hlt, fun i hi => ?_⟩
  · have := congrArg List.length e0
    simp at this
    omega
  · have hi' : i < N := by simpa using hi
    rw [Nat.zero_add, h.cell hi']
    simp
/-- a slice of words, as the cells of one block -/
theorem Sl1.at {w : World} {v : Value} {ys : List Int} (h : Sl1 w v (ys.map (Value.int .u64))) (hn : ys ≠ []) : ∃ b off cap, v = .slice (some ⟨b, off, none⟩) ys.length cap ∧ b < w.heap.size ∧ ∀ i (h : i < ys.length), w.cell? ⟨b, off + i, none⟩ = some (.int .u64 ys[i]) := by
  rcases h with ⟨e, _⟩ | ⟨_, b, off, cap, rfl, _, _, hlt, hc⟩
  · exact absurd (List.map_eq_nil_iff.1 e) hn
  · exact ⟨b, off, cap, by rw [List.length_map], hlt, fun i h => (hc i (by simpa using h)).trans (by rw [List.getElem_map])⟩
end Go.Sg
