/-
  Joined texts: DItem, Step.
-/
import Derived.Test.YthchfdobdghdoaaHax
import Derived.Test.YthchfdobdghdoaaHal
import Derived.Deep.Slices
import Derived.Deep.Fields
import Derived.ChangeSame
set_option linter.unusedVariables false
set_option linter.unusedSimpArgs false
set_option linter.unusedSectionVars false
set_option linter.unnecessarySimpa false
section

/-
  An argument that is a slice of deal's items; a shape by value.
-/
namespace Go.Sg
open Go Go.RowKit
def DiOk (x : Di) : Prop := Word x.1 ∧ Num x.2
theorem exists_listD {α : Type} (Pr : Nat → α → Prop) : ∀ (n : Nat), (∀ i, i < n → ∃ x, Pr i x) → ∃ l : List α, l.length = n ∧ ∀ i (h : i < l.length), Pr i l[i]
  | 0, _ => ⟨[], rfl, fun i h => by simp at h⟩
  | n + 1, h => by
    obtain ⟨l, hl, hp⟩ := exists_listD Pr n fun i hi => h i (by omega)
    obtain ⟨x, hx⟩ := h n (by omega)
    refine ⟨l ++ [x], by simp [hl], fun i hi => ?_⟩
    rw [List.length_append, List.length_singleton] at hi
    rcases Nat.lt_or_ge i l.length with h2 | h2
    · rw [List.getElem_append_left h2]; exact hp i h2
    · obtain rfl : i = l.length := by omega
      rw [List.getElem_concat_length rfl, hl]
      exact hx
theorem range_each {α : Type} {enc : α → List Value} {k : Nat} (h : EncK enc k) {w : World} {b : Nat} : ∀ {l : List α} {off : Nat}, (∀ i (hi : i < l.length), w.rangeAt b (off + i * k) (enc l[i])) → w.rangeAt b off (flatV enc l)
  | [], off, _ => fun j u hu => by simp [flatV] at hu
  | x :: l, off, hr => fun j u hu => by
    rw [flatV_cons] at hu
    rcases Nat.lt_or_ge j k with hj | hj
    · rw [List.getElem?_append_left (by rw [h.len]; exact hj)] at hu
      have := hr 0 (by simp) j u hu
      rwa [Nat.zero_mul, Nat.add_zero] at this
    · rw [List.getElem?_append_right (by rw [h.len]; exact hj), h.len] at hu
      have h2 := range_each h (l := l) (off := off + k) (fun i hi => by
        have := hr (i + 1) (by simpa using hi)
        rwa [Nat.add_mul, Nat.one_mul, show off + (i * k + k) = off + k + i * k by omega] at this) (j - k) u hu
      rwa [show off + k + (j - k) = off + j by omega] at h2
end Go.Sg
namespace Go.Proofs.Ythchfdobdghdoaa
open Go.ChangeShapes Go.WideShapes Go.ChangeAt Go.RowKit Go.Sg

end Go.Proofs.Ythchfdobdghdoaa
end
section

/-
  An argument that is a slice of steps; one by value.
-/
namespace Go.Sg
open Go Go.RowKit
/-- what is done, the id, where, a number, the leaf it comes from, the leaf it goes to -/
abbrev Sx := Int × Int × Int × Int × Int × Int
def sxV (s : Sx) : List Value := [.int .i64 s.1, .int .u64 s.2.1, .int .i64 s.2.2.1, .int .u64 s.2.2.2.1, .int .i64 s.2.2.2.2.1, .int .i64 s.2.2.2.2.2]
theorem sxV_k : EncK sxV 6 := ⟨fun _ => rfl, fun x u hu => by simp [sxV] at hu; rcases hu with rfl | rfl | rfl | rfl | rfl | rfl <;> rfl, by decide⟩
def SxOk (s : Sx) : Prop := Num s.1 ∧ Word s.2.1 ∧ Num s.2.2.1 ∧ Word s.2.2.2.1 ∧ Num s.2.2.2.2.1 ∧ Num s.2.2.2.2.2
end Go.Sg
namespace Go.Proofs.Ythchfdobdghdoaa
open Go.ChangeShapes Go.WideShapes Go.ChangeAt Go.RowKit Go.Sg
set_option maxRecDepth 1000000 in
theorem sx_elem {H : Type} {enc : TypeId × Value → H} {W : World} {base : Nat} {sp : Nat → Bool} {hd : Bool} {n : Nat} {cs : List Value} {x : DataW H × List MemPlace}
    (h : DataW.trod enc Try.prog W base sp hd n 38 cs = some x) : ∃ l : Sx, cs = sxV l ∧ SxOk l := by
  obtain ⟨xs, n', _, _, hlen, hxl, hg⟩ := DataW.trod_struct Try.underlying38 h
  have hC : Try.prog.cellsOf 38 = 6 := by kernel_rfl
  have h3 : Try.prog.cellsOf 3 = 1 := by kernel_rfl
  have h39 : Try.prog.cellsOf 36 = 1 := by kernel_rfl
  rw [hC] at hlen
  have hx4 : xs.length = 6 := hxl
  match cs, hlen with
  | [c0, c1, c2, c3, c4, c5], _ =>
    match xs, hx4 with
    | [y0, y1, y2, y3, y4, y5], _ =>
      have g0 : DataW.trod enc Try.prog W base sp hd n' 3 (([c0, c1, c2, c3, c4, c5].drop 0).take (Try.prog.cellsOf 3)) = some y0 := hg 0 _ rfl
      have g1 : DataW.trod enc Try.prog W base sp hd n' 36 (([c0, c1, c2, c3, c4, c5].drop 1).take (Try.prog.cellsOf 36)) = some y1 := hg 1 _ rfl
      have g2 : DataW.trod enc Try.prog W base sp hd n' 3 (([c0, c1, c2, c3, c4, c5].drop 2).take (Try.prog.cellsOf 3)) = some y2 := hg 2 _ rfl
      have g3 : DataW.trod enc Try.prog W base sp hd n' 36 (([c0, c1, c2, c3, c4, c5].drop 3).take (Try.prog.cellsOf 36)) = some y3 := hg 3 _ rfl
      have g4 : DataW.trod enc Try.prog W base sp hd n' 3 (([c0, c1, c2, c3, c4, c5].drop 4).take (Try.prog.cellsOf 3)) = some y4 := hg 4 _ rfl
      have g5 : DataW.trod enc Try.prog W base sp hd n' 3 (([c0, c1, c2, c3, c4, c5].drop 5).take (Try.prog.cellsOf 3)) = some y5 := hg 5 _ rfl
      rw [h3] at g0 g2 g4 g5
      rw [h39] at g1 g3
      obtain ⟨n0, e0, _, w0⟩ := DataW.trod_int Try.underlying3 g0
      obtain ⟨n1, e1, _, w1⟩ := DataW.trod_int Try.underlying36 g1
      obtain ⟨n2, e2, _, w2⟩ := DataW.trod_int Try.underlying3 g2
      obtain ⟨n3, e3, _, w3⟩ := DataW.trod_int Try.underlying36 g3
      obtain ⟨n4, e4, _, w4⟩ := DataW.trod_int Try.underlying3 g4
      obtain ⟨n5, e5, _, w5⟩ := DataW.trod_int Try.underlying3 g5
      simp at e0 e1 e2 e3 e4 e5
      exact ⟨(n0, n1, n2, n3, n4, n5), by simp [sxV, e0, e1, e2, e3, e4, e5], i64_of w0, u64_of w1, i64_of w2, u64_of w3, i64_of w4, i64_of w5⟩

set_option maxRecDepth 1000000 in
theorem open_Steps {H : Type} {enc : TypeId × Value → H} {W : World} {base : Nat} {v : Value} {d : DataW H} {p : List MemPlace} (hv : Value.okWide Try.prog W .any base 22 v) (h : DataW.Trod enc Try.prog W 0 (fun _ => true) true 22 v d p) : ∃ ls : List Sx, SlK sxV W v ls ∧ ∀ x ∈ ls, SxOk x := by
  have hC : Try.prog.cellsOf 38 = 6 := by kernel_rfl
  obtain ⟨a0, len, cap, rfl⟩ := okWide_slice Try.underlying22 hv
  obtain ⟨fuel, hf⟩ := h
  rcases Go.Deep.open_slice Try.underlying22 hf with ⟨hcs, _⟩ | ⟨x, l, c, m, n, D, Pl, hcs, _, hl, hm, hmm, _, hi⟩
  · simp [Value.cells] at hcs
    obtain ⟨rfl, rfl, rfl⟩ := hcs
    exact ⟨[], ⟨none, 0, rfl, Nat.le_refl _, by simp [maxLen], fun h => absurd rfl h⟩, fun l hl => by simp at hl⟩
  · simp [Value.cells] at hcs
    obtain ⟨rfl, rfl, rfl⟩ := hcs
    rw [hC] at hi
    have hlm : len ≤ m := by rw [hmm]; split <;> omega
    obtain ⟨b, off, spot⟩ := x
    have hel : ∀ i, i < len → ∃ l : Sx, SxOk l ∧ ∀ j u, (sxV l)[j]? = some u → W.cell? ((⟨b, off, spot⟩ : Addr).add (i * 6 + j)) = some u := fun i hil => by
      obtain ⟨cs', h1, h2⟩ := hi i (by omega)
      obtain ⟨l, rfl, hok⟩ := sx_elem h2
      obtain ⟨_, hcl, hat⟩ := World.cells?_some h1
      refine ⟨l, hok, fun j u hu => ?_⟩
      have hj : j < 6 := by have := (List.getElem?_eq_some_iff.1 hu).1; simpa [sxV] using this
      rw [← Go.Deep.add_add, hat j hj]
      exact hu
    obtain ⟨ls, hls, hp⟩ := exists_listD (fun i (l : Sx) => SxOk l ∧ ∀ j u, (sxV l)[j]? = some u → W.cell? ((⟨b, off, spot⟩ : Addr).add (i * 6 + j)) = some u) len hel
    refine ⟨ls, ⟨some ⟨b, off, spot⟩, cap, by rw [hls], by omega, hm, fun hn => ?_⟩, fun l hl => ?_⟩
    rotate_left
    · obtain ⟨i, hi, rfl⟩ := List.getElem_of_mem hl
      exact (hp i hi).1
    · have hpos : 0 < ls.length := Nat.pos_of_ne_zero (fun h => hn (List.length_eq_zero_iff.1 h))
      have h0 := (hp 0 hpos).2 0 _ rfl
      have hs : spot = none := by
        cases spot with
        | none => rfl
        | some s =>
          exfalso
          simp [World.cell?, Addr.add] at h0
          split at h0 <;> simp at h0
      subst hs
      have hb : b < W.heap.size := by
        have := World.block_lt_of_cell? W _ h0
        simpa [Addr.add] using this
      refine ⟨b, off, rfl, hb, range_each sxV_k fun i hi j u hu => ?_⟩
      have := (hp i hi).2 j u hu
      rw [addr_add, ← Nat.add_assoc] at this
      exact this

set_option maxRecDepth 1000000 in
theorem open_Step {H : Type} {enc : TypeId × Value → H} {W : World} {base : Nat} {v : Value} {d : DataW H} {p : List MemPlace} (hv : Value.okWide Try.prog W .any base 38 v) (h : DataW.Trod enc Try.prog W 0 (fun _ => true) true 38 v d p) : ∃ s : Sx, v = .agg (sxV s).toArray ∧ SxOk s := by
  obtain ⟨cs, rfl, hsz⟩ := okWide_struct Try.underlying38 hv
  obtain ⟨fuel, hf⟩ := h
  obtain ⟨xs, n', _, _, hlen, hxl, hg⟩ := DataW.trod_struct Try.underlying38 hf
  have hC : Try.prog.cellsOf 38 = 6 := by kernel_rfl
  have h3 : Try.prog.cellsOf 3 = 1 := by kernel_rfl
  have h39 : Try.prog.cellsOf 36 = 1 := by kernel_rfl
  rw [hC] at hlen
  have hx4 : xs.length = 6 := hxl
  obtain ⟨ls, hls⟩ : ∃ ls, (Value.agg cs).cells.toList = ls := ⟨_, rfl⟩
  have hcs : cs = ls.toArray := by rw [← hls]; simp [Value.cells]
  rw [hls] at hlen hg
  rw [hcs]
  match ls, hlen with
  | [c0, c1, c2, c3, c4, c5], _ =>
    match xs, hx4 with
    | [y0, y1, y2, y3, y4, y5], _ =>
      have g0 : DataW.trod enc Try.prog W 0 (fun _ => true) true n' 3 (([c0, c1, c2, c3, c4, c5].drop 0).take (Try.prog.cellsOf 3)) = some y0 := hg 0 _ rfl
      have g1 : DataW.trod enc Try.prog W 0 (fun _ => true) true n' 36 (([c0, c1, c2, c3, c4, c5].drop 1).take (Try.prog.cellsOf 36)) = some y1 := hg 1 _ rfl
      have g2 : DataW.trod enc Try.prog W 0 (fun _ => true) true n' 3 (([c0, c1, c2, c3, c4, c5].drop 2).take (Try.prog.cellsOf 3)) = some y2 := hg 2 _ rfl
      have g3 : DataW.trod enc Try.prog W 0 (fun _ => true) true n' 36 (([c0, c1, c2, c3, c4, c5].drop 3).take (Try.prog.cellsOf 36)) = some y3 := hg 3 _ rfl
      have g4 : DataW.trod enc Try.prog W 0 (fun _ => true) true n' 3 (([c0, c1, c2, c3, c4, c5].drop 4).take (Try.prog.cellsOf 3)) = some y4 := hg 4 _ rfl
      have g5 : DataW.trod enc Try.prog W 0 (fun _ => true) true n' 3 (([c0, c1, c2, c3, c4, c5].drop 5).take (Try.prog.cellsOf 3)) = some y5 := hg 5 _ rfl
      rw [h3] at g0 g2 g4 g5
      rw [h39] at g1 g3
      obtain ⟨n0, e0, _, w0⟩ := DataW.trod_int Try.underlying3 g0
      obtain ⟨n1, e1, _, w1⟩ := DataW.trod_int Try.underlying36 g1
      obtain ⟨n2, e2, _, w2⟩ := DataW.trod_int Try.underlying3 g2
      obtain ⟨n3, e3, _, w3⟩ := DataW.trod_int Try.underlying36 g3
      obtain ⟨n4, e4, _, w4⟩ := DataW.trod_int Try.underlying3 g4
      obtain ⟨n5, e5, _, w5⟩ := DataW.trod_int Try.underlying3 g5
      simp at e0 e1 e2 e3 e4 e5
      exact ⟨(n0, n1, n2, n3, n4, n5), by simp [sxV, e0, e1, e2, e3, e4, e5], i64_of w0, u64_of w1, i64_of w2, u64_of w3, i64_of w4, i64_of w5⟩
end Go.Proofs.Ythchfdobdghdoaa
end
