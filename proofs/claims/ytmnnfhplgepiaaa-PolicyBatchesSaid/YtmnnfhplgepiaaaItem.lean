/-
  An argument that is a slice of policy's items; one by value.
-/
import Derived.Test.YtmnnfhplgepiaaaPolK
import Derived.Test.YtmnnfhplgepiaaaRow
import Derived.Deep.Slices
import Derived.Deep.Fields
import Derived.ChangeSame
namespace Go.Sg
open Go Go.RowKit
def ItOk (x : It) : Prop := Num x.1 ∧ Word x.2.1
theorem exists_list {α : Type} (Pr : Nat → α → Prop) : ∀ (n : Nat), (∀ i, i < n → ∃ x, Pr i x) → ∃ l : List α, l.length = n ∧ ∀ i (h : i < l.length), Pr i l[i]
  | 0, _ => ⟨[], rfl, fun i h => by simp at h⟩
  | n + 1, h => by
    obtain ⟨l, hl, hp⟩ := exists_list Pr n fun i hi => h i (by omega)
    obtain ⟨x, hx⟩ := h n (by omega)
    refine ⟨l ++ [x], by simp [hl], fun i hi => ?_⟩
    rw [List.length_append, List.length_singleton] at hi
    rcases Nat.lt_or_ge i l.length with h2 | h2
    · rw [List.getElem_append_left h2]; exact hp i h2
    · obtain rfl : i = l.length := by omega
      rw [List.getElem_concat_length rfl, hl]
      exact hx
theorem range_each {α : Type} {enc : α → List Value} {k : Nat} (h : EncK enc k) {w : World} {b : Nat} : ∀ {l : List α} {off : Nat}, (∀ i (hi : i < l.length), w.rangeAt b (off + i * k) (enc l[i])) → w.rangeAt b off (flatV enc l)
  | [], off, _ => fun j u hu => by simp [flatV] at hu
  | x :: l, off, hr => fun j u hu => by
    rw [flatV_cons] at hu
    rcases Nat.lt_or_ge j k with hj | hj
    · rw [List.getElem?_append_left (by rw [h.len]; exact hj)] at hu
      have := hr 0 (by simp) j u hu
      rwa [Nat.zero_mul, Nat.add_zero] at this
    · rw [List.getElem?_append_right (by rw [h.len]; exact hj), h.len] at hu
      have h2 := range_each h (l := l) (off := off + k) (fun i hi => by
        have := hr (i + 1) (by simpa using hi)
        rwa [Nat.add_mul, Nat.one_mul, show off + (i * k + k) = off + k + i * k by omega] at this) (j - k) u hu
      rwa [show off + k + (j - k) = off + j by omega] at h2
end Go.Sg
namespace Go.Proofs.Ytmnnfhplgepiaaa
open Go.ChangeShapes Go.WideShapes Go.ChangeAt Go.RowKit Go.Sg

set_option maxRecDepth 1000000 in
theorem item_elem {H : Type} {enc : TypeId × Value → H} {W : World} {base : Nat} {sp : Nat → Bool} {hd : Bool} {n : Nat} {cs : List Value} {x : DataW H × List MemPlace}
    (h : DataW.trod enc Try.prog W base sp hd n 28 cs = some x) : ∃ l : It, cs = itV l ∧ ItOk l := by
  obtain ⟨xs, n', _, _, hlen, hxl, hg⟩ := DataW.trod_struct Try.underlying28 h
  have hC : Try.prog.cellsOf 28 = 3 := by kernel_rfl
  have h3 : Try.prog.cellsOf 3 = 1 := by kernel_rfl
  have h39 : Try.prog.cellsOf 26 = 1 := by kernel_rfl
  have h4 : Try.prog.cellsOf 4 = 1 := by kernel_rfl
  rw [hC] at hlen
  have hx4 : xs.length = 3 := hxl
  match cs, hlen with
  | [c0, c1, c2], _ =>
    match xs, hx4 with
    | [y0, y1, y2], _ =>
      have g0 : DataW.trod enc Try.prog W base sp hd n' 3 (([c0, c1, c2].drop 0).take (Try.prog.cellsOf 3)) = some y0 := hg 0 _ rfl
      have g1 : DataW.trod enc Try.prog W base sp hd n' 26 (([c0, c1, c2].drop 1).take (Try.prog.cellsOf 26)) = some y1 := hg 1 _ rfl
      have g2 : DataW.trod enc Try.prog W base sp hd n' 4 (([c0, c1, c2].drop 2).take (Try.prog.cellsOf 4)) = some y2 := hg 2 _ rfl
      rw [h3] at g0
      rw [h39] at g1
      rw [h4] at g2
      obtain ⟨n0, e0, _, w0⟩ := DataW.trod_int Try.underlying3 g0
      obtain ⟨n1, e1, _, w1⟩ := DataW.trod_int Try.underlying26 g1
      obtain ⟨n2, e2, _⟩ := DataW.trod_bool Try.underlying4 g2
      simp at e0 e1 e2
      exact ⟨(n0, n1, n2), by simp [itV, e0, e1, e2], i64_of w0, u64_of w1⟩

set_option maxRecDepth 1000000 in
theorem open_Items {H : Type} {enc : TypeId × Value → H} {W : World} {base : Nat} {v : Value} {d : DataW H} {p : List MemPlace} (hv : Value.okWide Try.prog W .any base 25 v) (h : DataW.Trod enc Try.prog W 0 (fun _ => true) true 25 v d p) : ∃ ls : List It, SlK itV W v ls ∧ ∀ x ∈ ls, ItOk x := by
  have hC : Try.prog.cellsOf 28 = 3 := by kernel_rfl
  obtain ⟨a0, len, cap, rfl⟩ := okWide_slice Try.underlying25 hv
  obtain ⟨fuel, hf⟩ := h
  rcases Go.Deep.open_slice Try.underlying25 hf with ⟨hcs, _⟩ | ⟨x, l, c, m, n, D, Pl, hcs, _, hl, hm, hmm, _, hi⟩
  · simp [Value.cells] at hcs
    obtain ⟨rfl, rfl, rfl⟩ := hcs
    exact ⟨[], ⟨none, 0, rfl, Nat.le_refl _, by simp [maxLen], fun h => absurd rfl h⟩, fun l hl => by simp at hl⟩
  · simp [Value.cells] at hcs
    obtain ⟨rfl, rfl, rfl⟩ := hcs
    rw [hC] at hi
    have hlm : len ≤ m := by rw [hmm]; split <;> omega
    obtain ⟨b, off, spot⟩ := x
    have hel : ∀ i, i < len → ∃ l : It, ItOk l ∧ ∀ j u, (itV l)[j]? = some u → W.cell? ((⟨b, off, spot⟩ : Addr).add (i * 3 + j)) = some u := fun i hil => by
      obtain ⟨cs', h1, h2⟩ := hi i (by omega)
      obtain ⟨l, rfl, hok⟩ := item_elem h2
      obtain ⟨_, hcl, hat⟩ := World.cells?_some h1
      refine ⟨l, hok, fun j u hu => ?_⟩
      have hj : j < 3 := by have := (List.getElem?_eq_some_iff.1 hu).1; simpa [itV] using this
      rw [← Go.Deep.add_add, hat j hj]
      exact hu
    obtain ⟨ls, hls, hp⟩ := exists_list (fun i (l : It) => ItOk l ∧ ∀ j u, (itV l)[j]? = some u → W.cell? ((⟨b, off, spot⟩ : Addr).add (i * 3 + j)) = some u) len hel
    refine ⟨ls, ⟨some ⟨b, off, spot⟩, cap, by rw [hls], by omega, hm, fun hn => ?_⟩, fun l hl => ?_⟩
    rotate_left
    · obtain ⟨i, hi, rfl⟩ := List.getElem_of_mem hl
      exact (hp i hi).1
    · have hpos : 0 < ls.length := Nat.pos_of_ne_zero (fun h => hn (List.length_eq_zero_iff.1 h))
      have h0 := (hp 0 hpos).2 0 _ rfl
      have hs : spot = none := by
        cases spot with
        | none => rfl
        | some s =>
          exfalso
          simp [World.cell?, Addr.add] at h0
          split at h0 <;> simp at h0
      subst hs
      have hb : b < W.heap.size := by
        have := World.block_lt_of_cell? W _ h0
        simpa [Addr.add] using this
      refine ⟨b, off, rfl, hb, range_each itV_k fun i hi j u hu => ?_⟩
      have := (hp i hi).2 j u hu
      rw [addr_add, ← Nat.add_assoc] at this
      exact this

set_option maxRecDepth 1000000 in
theorem open_Item {H : Type} {enc : TypeId × Value → H} {W : World} {base : Nat} {v : Value} {d : DataW H} {p : List MemPlace} (hv : Value.okWide Try.prog W .any base 28 v) (h : DataW.Trod enc Try.prog W 0 (fun _ => true) true 28 v d p) : ∃ l : It, v = .agg (itV l).toArray ∧ ItOk l := by
  obtain ⟨cs, rfl, hsz⟩ := okWide_struct Try.underlying28 hv
  obtain ⟨fuel, hf⟩ := h
  obtain ⟨l, hl, hok⟩ := item_elem hf
  exact ⟨l, by rw [← hl]; simp [Value.cells], hok⟩
end Go.Proofs.Ytmnnfhplgepiaaa
