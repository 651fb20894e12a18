/-
  An argument that is a slice of looks that are to be made; one by value.
-/
import Derived.Test.YtngpaibppdehdaaShown3
import Derived.Test.YtngpaibppdehdaaRow
import Derived.Deep.Slices
import Derived.Deep.Fields
import Derived.ChangeSame
namespace Go.Sg
open Go Go.RowKit
/-- The region, the place, what is written, is it? -/
abbrev Lk := Int × Int × Int × Bool
def lkV (l : Lk) : List Value := [.int .i64 l.1, .int .i64 l.2.1, .int .u64 l.2.2.1, .bool l.2.2.2]
def lkOk (l : Lk) : Prop := Num l.1 ∧ Num l.2.1 ∧ Word l.2.2.1
/-- The slice v reads as the looks ls. -/
def SlL (w : World) (v : Value) (ls : List Lk) : Prop :=
  ∃ a cap, v = .slice a ls.length cap ∧ ls.length ≤ cap ∧ cap ≤ maxLen ∧ (∀ l ∈ ls, lkOk l) ∧
    (ls ≠ [] → ∃ b off, a = some ⟨b, off, none⟩ ∧ b < w.heap.size ∧ ∀ i (h : i < ls.length), w.rangeAt b (off + i * 4) (lkV ls[i]))
theorem SlL.below {w w' : World} {v : Value} {ls : List Lk} (h : SlL w v ls) (hb : Below w.heap.size w w') : SlL w' v ls := by
  obtain ⟨a, cap, rfl, h1, h2, h3, h4⟩ := h
  refine ⟨a, cap, rfl, h1, h2, h3, fun hn => ?_⟩
  obtain ⟨b, off, rfl, hlt, hr⟩ := h4 hn
  exact ⟨b, off, rfl, Nat.lt_of_lt_of_le hlt hb.size, fun i hi j u hu => (hb.cell (p := ⟨b, off + i * 4 + j, none⟩) hlt).trans (hr i hi j u hu)⟩
theorem exists_list {α : Type} (Pr : Nat → α → Prop) : ∀ (n : Nat), (∀ i, i < n → ∃ x, Pr i x) → ∃ l : List α, l.length = n ∧ ∀ i (h : i < l.length), Pr i l[i]
  | 0, _ => ⟨[], rfl, fun i h => by simp at h⟩
  | n + 1, h => by
    obtain ⟨l, hl, hp⟩ := exists_list Pr n fun i hi => h i (by omega)
    obtain ⟨x, hx⟩ := h n (by omega)
    refine ⟨l ++ [x], by simp [hl], fun i hi => ?_⟩
    rw [List.length_append, List.length_singleton] at hi
    rcases Nat.lt_or_ge i l.length with h2 | h2
    · rw [List.getElem_append_left h2]; exact hp i h2
    · obtain rfl : i = l.length := by omega
      rw [List.getElem_concat_length rfl, hl]
      exact hx
end Go.Sg
namespace Go.Proofs.Ytngpaibppdehdaa
open Go.ChangeShapes Go.WideShapes Go.ChangeAt Go.RowKit Go.Sg

set_option maxRecDepth 1000000 in
theorem lk_elem {H : Type} {enc : TypeId × Value → H} {W : World} {base : Nat} {sp : Nat → Bool} {hd : Bool} {n : Nat} {cs : List Value} {x : DataW H × List MemPlace}
    (h : DataW.trod enc Try.prog W base sp hd n 41 cs = some x) : ∃ l : Lk, cs = lkV l ∧ lkOk l := by
  obtain ⟨xs, n', _, _, hlen, hxl, hg⟩ := DataW.trod_struct Try.underlying41 h
  have hC : Try.prog.cellsOf 41 = 4 := by kernel_rfl
  have h3 : Try.prog.cellsOf 3 = 1 := by kernel_rfl
  have h39 : Try.prog.cellsOf 39 = 1 := by kernel_rfl
  have h4 : Try.prog.cellsOf 4 = 1 := by kernel_rfl
  rw [hC] at hlen
  have hx4 : xs.length = 4 := hxl
  match cs, hlen with
  | [c0, c1, c2, c3], _ =>
    match xs, hx4 with
    | [y0, y1, y2, y3], _ =>
      have g0 : DataW.trod enc Try.prog W base sp hd n' 3 (([c0, c1, c2, c3].drop 0).take (Try.prog.cellsOf 3)) = some y0 := hg 0 _ rfl
      have g1 : DataW.trod enc Try.prog W base sp hd n' 3 (([c0, c1, c2, c3].drop 1).take (Try.prog.cellsOf 3)) = some y1 := hg 1 _ rfl
      have g2 : DataW.trod enc Try.prog W base sp hd n' 39 (([c0, c1, c2, c3].drop 2).take (Try.prog.cellsOf 39)) = some y2 := hg 2 _ rfl
      have g3 : DataW.trod enc Try.prog W base sp hd n' 4 (([c0, c1, c2, c3].drop 3).take (Try.prog.cellsOf 4)) = some y3 := hg 3 _ rfl
      rw [h3] at g0 g1
      rw [h39] at g2
      rw [h4] at g3
      obtain ⟨n0, e0, _, w0⟩ := DataW.trod_int Try.underlying3 g0
      obtain ⟨n1, e1, _, w1⟩ := DataW.trod_int Try.underlying3 g1
      obtain ⟨n2, e2, _, w2⟩ := DataW.trod_int Try.underlying39 g2
      obtain ⟨n3, e3, _⟩ := DataW.trod_bool Try.underlying4 g3
      simp at e0 e1 e2 e3
      exact ⟨(n0, n1, n2, n3), by simp [lkV, e0, e1, e2, e3], i64_of w0, i64_of w1, u64_of w2⟩

set_option maxRecDepth 1000000 in
theorem open_SlL {H : Type} {enc : TypeId × Value → H} {W : World} {base : Nat} {v : Value} {d : DataW H} {p : List MemPlace} (hv : Value.okWide Try.prog W .any base 33 v) (h : DataW.Trod enc Try.prog W 0 (fun _ => true) true 33 v d p) : ∃ ls, SlL W v ls := by
  have hC : Try.prog.cellsOf 41 = 4 := by kernel_rfl
  obtain ⟨a0, len, cap, rfl⟩ := okWide_slice Try.underlying33 hv
  obtain ⟨fuel, hf⟩ := h
  rcases Go.Deep.open_slice Try.underlying33 hf with ⟨hcs, _⟩ | ⟨x, l, c, m, n, D, Pl, hcs, _, hl, hm, hmm, _, hi⟩
  · simp [Value.cells] at hcs
    obtain ⟨rfl, rfl, rfl⟩ := hcs
    exact ⟨[], none, 0, rfl, Nat.le_refl _, by simp [maxLen], fun l hl => by simp at hl, fun h => absurd rfl h⟩
  · simp [Value.cells] at hcs
    obtain ⟨rfl, rfl, rfl⟩ := hcs
    rw [hC] at hi
    have hlm : len ≤ m := by rw [hmm]; split <;> omega
    obtain ⟨b, off, spot⟩ := x
    have hel : ∀ i, i < len → ∃ l : Lk, lkOk l ∧ ∀ j u, (lkV l)[j]? = some u → W.cell? ((⟨b, off, spot⟩ : Addr).add (i * 4 + j)) = some u := fun i hil => by
      obtain ⟨cs', h1, h2⟩ := hi i (by omega)
      obtain ⟨l, rfl, hok⟩ := lk_elem h2
      obtain ⟨_, hcl, hat⟩ := World.cells?_some h1
      refine ⟨l, hok, fun j u hu => ?_⟩
      have hj : j < 4 := by have := (List.getElem?_eq_some_iff.1 hu).1; simpa [lkV] using this
      rw [← Go.Deep.add_add, hat j hj]
      exact hu
    obtain ⟨ls, hls, hp⟩ := exists_list (fun i (l : Lk) => lkOk l ∧ ∀ j u, (lkV l)[j]? = some u → W.cell? ((⟨b, off, spot⟩ : Addr).add (i * 4 + j)) = some u) len hel
    refine ⟨ls, some ⟨b, off, spot⟩, cap, by rw [hls], by omega, hm, fun l hl => ?_, fun hn => ?_⟩
    · obtain ⟨i, hi, rfl⟩ := List.getElem_of_mem hl
      exact (hp i hi).1
    · have hpos : 0 < ls.length := Nat.pos_of_ne_zero (fun h => hn (List.length_eq_zero_iff.1 h))
      have h0 := (hp 0 hpos).2 0 _ rfl
      have hs : spot = none := by
        cases spot with
        | none => rfl
        | some s =>
          exfalso
          simp [World.cell?, Addr.add] at h0
          split at h0 <;> simp at h0
      subst hs
      have hb : b < W.heap.size := by
        have := World.block_lt_of_cell? W _ h0
        simpa [Addr.add] using this
      refine ⟨b, off, rfl, hb, fun i hi j u hu => ?_⟩
      have := (hp i hi).2 j u hu
      rw [addr_add, ← Nat.add_assoc] at this
      exact this

set_option maxRecDepth 1000000 in
theorem open_Lk {H : Type} {enc : TypeId × Value → H} {W : World} {base : Nat} {v : Value} {d : DataW H} {p : List MemPlace} (hv : Value.okWide Try.prog W .any base 41 v) (h : DataW.Trod enc Try.prog W 0 (fun _ => true) true 41 v d p) : ∃ l : Lk, v = .agg (lkV l).toArray ∧ lkOk l := by
  obtain ⟨cs, rfl, hsz⟩ := okWide_struct Try.underlying41 hv
  obtain ⟨fuel, hf⟩ := h
  obtain ⟨l, hl, hok⟩ := lk_elem hf
  exact ⟨l, by rw [← hl]; simp [Value.cells], hok⟩
end Go.Proofs.Ytngpaibppdehdaa
