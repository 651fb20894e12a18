/-
  Frames: all but some blocks is as it was.
-/
import Derived.Test.YtiimdgdimjjboaaBlk
namespace Go.Sg
open Go Go.RowKit
/-! ### Frames -/
/-- All that is not F's is as it was. -/
structure MFrame (F : Nat → Prop) (w w' : World) : Prop where
  os : w'.os = w.os
  tape : w'.tape = w.tape
  output : w'.output = w.output
  size : w.heap.size ≤ w'.heap.size
  block : ∀ k, k < w.heap.size → ¬ F k → w'.heap[k]? = w.heap[k]?
/-- F, and all that is new. -/
def Grow (F : Nat → Prop) (w w' : World) : Nat → Prop := fun k => F k ∨ (w.heap.size ≤ k ∧ k < w'.heap.size)
theorem MFrame.refl (F : Nat → Prop) (w : World) : MFrame F w w := ⟨rfl, rfl, rfl, Nat.le_refl _, fun _ _ _ => rfl⟩
theorem MFrame.trans {F : Nat → Prop} {a b c : World} (h : MFrame F a b) (k : MFrame (Grow F a b) b c) : MFrame F a c :=
  ⟨k.os.trans h.os, k.tape.trans h.tape, k.output.trans h.output, Nat.le_trans h.size k.size, fun i hi hn =>
    (k.block i (Nat.lt_of_lt_of_le hi h.size) (fun hg => by rcases hg with hg | hg <;> first | exact hn hg | omega)).trans (h.block i hi hn)⟩
theorem MFrame.of_below {F : Nat → Prop} {w w' : World} (h : Below w.heap.size w w') : MFrame F w w' := ⟨h.os, h.tape, h.output, h.size, fun k hk _ => h.block k hk⟩
theorem MFrame.below {F : Nat → Prop} {B : Nat} {w w' : World} (h : MFrame F w w') (hF : ∀ k, F k → B ≤ k) (hB : B ≤ w.heap.size) : Below B w w' :=
  ⟨h.os, h.tape, h.output, h.size, fun k hk => h.block k (by omega) (fun hf => by have := hF k hf; omega)⟩
theorem Grow.ge {F : Nat → Prop} {B : Nat} {w w' : World} (hF : ∀ k, F k → B ≤ k) (hB : B ≤ w.heap.size) : ∀ k, Grow F w w' k → B ≤ k := by
  intro k hk
  rcases hk with hk | hk
  · exact hF k hk
  · omega
theorem MFrame.set {F : Nat → Prop} {a w : World} (h : MFrame F a w) {p : Addr} (hp : Grow F a w p.block) (u : Value) : MFrame F a (w.setCell p u) :=
  ⟨h.os, h.tape, h.output, by rw [World.size_setCell]; exact h.size, fun k hk hn => by
    rw [Below.heap_setCell w p u k (fun e => by
      subst e
      rcases hp with hp | hp
      · exact hn hp
      · omega)]
    exact h.block k hk hn⟩
theorem MFrame.setCells {F : Nat → Prop} {a : World} {b : Nat} : ∀ (vs : List Value) (o : Nat) {w : World}, Grow F a w b → MFrame F a w → MFrame F a (w.setCells b o vs)
  | [], _, _, _, h => h
  | v :: r, o, w, hb, h => by
    rw [World.setCells]
    refine MFrame.setCells r (o + 1) ?_ (h.set (p := ⟨b, o, none⟩) hb v)
    unfold Grow at hb ⊢
    rw [World.size_setCell]
    exact hb
theorem size_setCells (b : Nat) : ∀ (vs : List Value) (o : Nat) (w : World), (w.setCells b o vs).heap.size = w.heap.size
  | [], _, _ => rfl
  | v :: r, o, w => by rw [World.setCells, size_setCells b r (o + 1), World.size_setCell]
end Go.Sg
