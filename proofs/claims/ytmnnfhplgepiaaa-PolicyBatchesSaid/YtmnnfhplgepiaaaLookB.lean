/-
  An argument that is a slice of bools.
-/
import Derived.Test.YtmnnfhplgepiaaaItem
import Derived.Test.YtmnnfhplgepiaaaSl
namespace Go.Proofs.Ytmnnfhplgepiaaa
open Go.ChangeShapes Go.WideShapes Go.ChangeAt Go.RowKit Go.Sg

set_option maxRecDepth 1000000 in
theorem open_SlB {H : Type} {enc : TypeId × Value → H} {W : World} {base : Nat} {v : Value} {d : DataW H} {p : List MemPlace} (hv : Value.okWide Try.prog W .any base 23 v) (h : DataW.Trod enc Try.prog W 0 (fun _ => true) true 23 v d p) : ∃ bs : List Bool, Sl1 W v (bs.map Value.bool) := by
  have hC : Try.prog.cellsOf 4 = 1 := by kernel_rfl
  obtain ⟨a0, len, cap, rfl⟩ := okWide_slice Try.underlying23 hv
  obtain ⟨fuel, hf⟩ := h
  rcases Go.Deep.open_slice Try.underlying23 hf with ⟨hcs, _⟩ | ⟨x, l, c, m, n, D, Pl, hcs, _, hl, hm, hmm, _, hi⟩
  · simp [Value.cells] at hcs
    obtain ⟨rfl, rfl, rfl⟩ := hcs
    exact ⟨[], .inl ⟨rfl, none, 0, rfl⟩⟩
  · simp [Value.cells] at hcs
    obtain ⟨rfl, rfl, rfl⟩ := hcs
    rw [hC] at hi
    have hlm : len ≤ m := by rw [hmm]; split <;> omega
    obtain ⟨b, off, spot⟩ := x
    have hel : ∀ i, i < len → ∃ z : Bool, W.cell? ((⟨b, off, spot⟩ : Addr).add i) = some (.bool z) := fun i hil => by
      obtain ⟨cs', h1, h2⟩ := hi i (by omega)
      obtain ⟨z, hz, _⟩ := DataW.trod_bool Try.underlying4 h2
      obtain ⟨_, hcl, hat⟩ := World.cells?_some h1
      refine ⟨z, ?_⟩
      have := hat 0 (by omega)
      rw [hz] at this
      simp only [Nat.mul_one] at this
      rw [Go.Deep.add_add, Nat.add_zero] at this
      exact this
    by_cases h0 : len = 0
    · subst h0
      exact ⟨[], .inl ⟨rfl, _, cap, rfl⟩⟩
    · obtain ⟨ls, hls, hp⟩ := exists_list (fun i (z : Bool) => W.cell? ((⟨b, off, spot⟩ : Addr).add i) = some (.bool z)) len hel
      have h1 := hp 0 (by omega)
      have hs : spot = none := by
        cases spot with
        | none => rfl
        | some s =>
          exfalso
          simp [World.cell?, Addr.add] at h1
          split at h1 <;> simp at h1
      subst hs
      have hb : b < W.heap.size := by
        have := World.block_lt_of_cell? W _ h1
        simpa [Addr.add] using this
      refine ⟨ls, .inr ⟨fun e => h0 (by rw [← hls]; simpa using e), b, off, cap, by rw [List.length_map, hls], by rw [List.length_map]; omega, hm, hb, fun i hi => ?_⟩⟩
      rw [List.length_map] at hi
      have := hp i hi
      rw [addr_add] at this
      rw [this, List.getElem_map]
end Go.Proofs.Ytmnnfhplgepiaaa
