/-
  An argument that is a slice of deal's items; a shape by value.
-/
import Derived.Test.YtiimdgdimjjboaaDealS
import Derived.Test.YtiimdgdimjjboaaRow
import Derived.Deep.Slices
import Derived.Deep.Fields
import Derived.ChangeSame
namespace Go.Sg
open Go Go.RowKit
def DiOk (x : Di) : Prop := Word x.1 ∧ Num x.2
theorem exists_list {α : Type} (Pr : Nat → α → Prop) : ∀ (n : Nat), (∀ i, i < n → ∃ x, Pr i x) → ∃ l : List α, l.length = n ∧ ∀ i (h : i < l.length), Pr i l[i]
  | 0, _ => ⟨[], rfl, fun i h => by simp at h⟩
  | n + 1, h => by
    obtain ⟨l, hl, hp⟩ := exists_list Pr n fun i hi => h i (by omega)
    obtain ⟨x, hx⟩ := h n (by omega)
    refine ⟨l ++ [x], by simp [hl], fun i hi => ?_⟩
    rw [List.length_append, List.length_singleton] at hi
    rcases Nat.lt_or_ge i l.length with h2 | h2
    · rw [List.getElem_append_left h2]; exact hp i h2
    · obtain rfl : i = l.length := by omega
      rw [List.getElem_concat_length rfl, hl]
      exact hx
theorem range_each {α : Type} {enc : α → List Value} {k : Nat} (h : EncK enc k) {w : World} {b : Nat} : ∀ {l : List α} {off : Nat}, (∀ i (hi : i < l.length), w.rangeAt b (off + i * k) (enc l[i])) → w.rangeAt b off (flatV enc l)
  | [], off, _ => fun j u hu => by simp [flatV] at hu
  | x :: l, off, hr => fun j u hu => by
    rw [flatV_cons] at hu
    rcases Nat.lt_or_ge j k with hj | hj
    · rw [List.getElem?_append_left (by rw [h.len]; exact hj)] at hu
      have := hr 0 (by simp) j u hu
      rwa [Nat.zero_mul, Nat.add_zero] at this
    · rw [List.getElem?_append_right (by rw [h.len]; exact hj), h.len] at hu
      have h2 := range_each h (l := l) (off := off + k) (fun i hi => by
        have := hr (i + 1) (by simpa using hi)
        rwa [Nat.add_mul, Nat.one_mul, show off + (i * k + k) = off + k + i * k by omega] at this) (j - k) u hu
      rwa [show off + k + (j - k) = off + j by omega] at h2
end Go.Sg
namespace Go.Proofs.Ytiimdgdimjjboaa
open Go.ChangeShapes Go.WideShapes Go.ChangeAt Go.RowKit Go.Sg

set_option maxRecDepth 1000000 in
theorem ditem_elem {H : Type} {enc : TypeId × Value → H} {W : World} {base : Nat} {sp : Nat → Bool} {hd : Bool} {n : Nat} {cs : List Value} {x : DataW H × List MemPlace}
    (h : DataW.trod enc Try.prog W base sp hd n 44 cs = some x) : ∃ l : Di, cs = diV l ∧ DiOk l := by
  obtain ⟨xs, n', _, _, hlen, hxl, hg⟩ := DataW.trod_struct Try.underlying44 h
  have hC : Try.prog.cellsOf 44 = 2 := by kernel_rfl
  have h3 : Try.prog.cellsOf 3 = 1 := by kernel_rfl
  have h39 : Try.prog.cellsOf 42 = 1 := by kernel_rfl
  rw [hC] at hlen
  have hx4 : xs.length = 2 := hxl
  match cs, hlen with
  | [c0, c1], _ =>
    match xs, hx4 with
    | [y0, y1], _ =>
      have g0 : DataW.trod enc Try.prog W base sp hd n' 42 (([c0, c1].drop 0).take (Try.prog.cellsOf 42)) = some y0 := hg 0 _ rfl
      have g1 : DataW.trod enc Try.prog W base sp hd n' 3 (([c0, c1].drop 1).take (Try.prog.cellsOf 3)) = some y1 := hg 1 _ rfl
      rw [h39] at g0
      rw [h3] at g1
      obtain ⟨n0, e0, _, w0⟩ := DataW.trod_int Try.underlying42 g0
      obtain ⟨n1, e1, _, w1⟩ := DataW.trod_int Try.underlying3 g1
      simp at e0 e1
      exact ⟨(n0, n1), by simp [diV, e0, e1], u64_of w0, i64_of w1⟩

set_option maxRecDepth 1000000 in
theorem open_Ditems {H : Type} {enc : TypeId × Value → H} {W : World} {base : Nat} {v : Value} {d : DataW H} {p : List MemPlace} (hv : Value.okWide Try.prog W .any base 24 v) (h : DataW.Trod enc Try.prog W 0 (fun _ => true) true 24 v d p) : ∃ ls : List Di, SlK diV W v ls ∧ ∀ x ∈ ls, DiOk x := by
  have hC : Try.prog.cellsOf 44 = 2 := by kernel_rfl
  obtain ⟨a0, len, cap, rfl⟩ := okWide_slice Try.underlying24 hv
  obtain ⟨fuel, hf⟩ := h
  rcases Go.Deep.open_slice Try.underlying24 hf with ⟨hcs, _⟩ | ⟨x, l, c, m, n, D, Pl, hcs, _, hl, hm, hmm, _, hi⟩
  · simp [Value.cells] at hcs
    obtain ⟨rfl, rfl, rfl⟩ := hcs
    exact ⟨[], ⟨none, 0, rfl, Nat.le_refl _, by simp [maxLen], fun h => absurd rfl h⟩, fun l hl => by simp at hl⟩
  · simp [Value.cells] at hcs
    obtain ⟨rfl, rfl, rfl⟩ := hcs
    rw [hC] at hi
    have hlm : len ≤ m := by rw [hmm]; split <;> omega
    obtain ⟨b, off, spot⟩ := x
    have hel : ∀ i, i < len → ∃ l : Di, DiOk l ∧ ∀ j u, (diV l)[j]? = some u → W.cell? ((⟨b, off, spot⟩ : Addr).add (i * 2 + j)) = some u := fun i hil => by
      obtain ⟨cs', h1, h2⟩ := hi i (by omega)
      obtain ⟨l, rfl, hok⟩ := ditem_elem h2
      obtain ⟨_, hcl, hat⟩ := World.cells?_some h1
      refine ⟨l, hok, fun j u hu => ?_⟩
      have hj : j < 2 := by have := (List.getElem?_eq_some_iff.1 hu).1; simpa [diV] using this
      rw [← Go.Deep.add_add, hat j hj]
      exact hu
    obtain ⟨ls, hls, hp⟩ := exists_list (fun i (l : Di) => DiOk l ∧ ∀ j u, (diV l)[j]? = some u → W.cell? ((⟨b, off, spot⟩ : Addr).add (i * 2 + j)) = some u) len hel
    refine ⟨ls, ⟨some ⟨b, off, spot⟩, cap, by rw [hls], by omega, hm, fun hn => ?_⟩, fun l hl => ?_⟩
    rotate_left
    · obtain ⟨i, hi, rfl⟩ := List.getElem_of_mem hl
      exact (hp i hi).1
    · have hpos : 0 < ls.length := Nat.pos_of_ne_zero (fun h => hn (List.length_eq_zero_iff.1 h))
      have h0 := (hp 0 hpos).2 0 _ rfl
      have hs : spot = none := by
        cases spot with
        | none => rfl
        | some s =>
          exfalso
          simp [World.cell?, Addr.add] at h0
          split at h0 <;> simp at h0
      subst hs
      have hb : b < W.heap.size := by
        have := World.block_lt_of_cell? W _ h0
        simpa [Addr.add] using this
      refine ⟨b, off, rfl, hb, range_each diV_k fun i hi j u hu => ?_⟩
      have := (hp i hi).2 j u hu
      rw [addr_add, ← Nat.add_assoc] at this
      exact this

set_option maxRecDepth 1000000 in
theorem open_Shape {H : Type} {enc : TypeId × Value → H} {W : World} {base : Nat} {v : Value} {d : DataW H} {p : List MemPlace} (hv : Value.okWide Try.prog W .any base 23 v) (h : DataW.Trod enc Try.prog W 0 (fun _ => true) true 23 v d p) : ∃ s : Sh, v = .agg (shV s).toArray ∧ Num s.1 ∧ Num s.2.1 ∧ Num s.2.2 := by
  obtain ⟨cs, rfl, hsz⟩ := okWide_struct Try.underlying23 hv
  obtain ⟨fuel, hf⟩ := h
  obtain ⟨xs, n', _, _, hlen, hxl, hg⟩ := DataW.trod_struct Try.underlying23 hf
  have hC : Try.prog.cellsOf 23 = 3 := by kernel_rfl
  have h3 : Try.prog.cellsOf 3 = 1 := by kernel_rfl
  rw [hC] at hlen
  have hx4 : xs.length = 3 := hxl
  obtain ⟨ls, hls⟩ : ∃ ls, (Value.agg cs).cells.toList = ls := ⟨_, rfl⟩
  have hcs : cs = ls.toArray := by rw [← hls]; simp [Value.cells]
  rw [hls] at hlen hg
  rw [hcs]
  match ls, hlen with
  | [c0, c1, c2], _ =>
    match xs, hx4 with
    | [y0, y1, y2], _ =>
      have g0 : DataW.trod enc Try.prog W 0 (fun _ => true) true n' 3 (([c0, c1, c2].drop 0).take (Try.prog.cellsOf 3)) = some y0 := hg 0 _ rfl
      have g1 : DataW.trod enc Try.prog W 0 (fun _ => true) true n' 3 (([c0, c1, c2].drop 1).take (Try.prog.cellsOf 3)) = some y1 := hg 1 _ rfl
      have g2 : DataW.trod enc Try.prog W 0 (fun _ => true) true n' 3 (([c0, c1, c2].drop 2).take (Try.prog.cellsOf 3)) = some y2 := hg 2 _ rfl
      rw [h3] at g0 g1 g2
      obtain ⟨n0, e0, _, w0⟩ := DataW.trod_int Try.underlying3 g0
      obtain ⟨n1, e1, _, w1⟩ := DataW.trod_int Try.underlying3 g1
      obtain ⟨n2, e2, _, w2⟩ := DataW.trod_int Try.underlying3 g2
      simp at e0 e1 e2
      exact ⟨(n0, n1, n2), by simp [shV, e0, e1, e2], i64_of w0, i64_of w1, i64_of w2⟩
end Go.Proofs.Ytiimdgdimjjboaa
