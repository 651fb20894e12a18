/-
  Slices whose elements are one cell each, as a walk is told of them and as it hands them back.
-/
import Derived.WalkKit
import Derived.Test.YtiimdgdimjjboaaRow
namespace Go.Sg
open Go Go.RowKit

/-- The slice v reads as the values us. -/
def Sl1 (w : World) (v : Value) (us : List Value) : Prop :=
  (us = [] ∧ ∃ a cap, v = .slice a 0 cap) ∨
  (us ≠ [] ∧ ∃ b off cap, v = .slice (some ⟨b, off, none⟩) us.length cap ∧ us.length ≤ cap ∧ cap ≤ maxLen ∧ b < w.heap.size ∧
    ∀ i (h : i < us.length), w.cell? ⟨b, off + i, none⟩ = some us[i])

theorem Sl1.below {w w' : World} {v : Value} {us : List Value} (h : Sl1 w v us) (hb : Below w.heap.size w w') : Sl1 w' v us := by
  rcases h with h | ⟨h0, b, off, cap, rfl, hl, hm, hlt, hc⟩
  · exact .inl h
  · exact .inr ⟨h0, b, off, cap, rfl, hl, hm, Nat.lt_of_lt_of_le hlt hb.size, fun i hi => by rw [hb.cell hlt]; exact hc i hi⟩
theorem Sl1.len {w : World} {v : Value} {us : List Value} (h : Sl1 w v us) : ∃ a cap, v = .slice a us.length cap := by
  rcases h with ⟨rfl, a, cap, rfl⟩ | ⟨_, b, off, cap, rfl, _⟩
  · exact ⟨a, cap, rfl⟩
  · exact ⟨_, cap, rfl⟩
theorem Sl1.len_le {w : World} {v : Value} {us : List Value} (h : Sl1 w v us) : us.length ≤ maxLen := by
  rcases h with ⟨rfl, _⟩ | ⟨_, b, off, cap, _, h1, h2, _⟩
  · simp
  · omega
theorem Sl1.of_SlI {k : IntKind} {w : World} {v : Value} {zs : List Int} (h : SlI k w v zs) : Sl1 w v (zs.map (Value.int k)) := by
  rcases h with ⟨rfl, a, cap, rfl⟩ | ⟨h0, b, off, cap, rfl, hl, hm, hlt, hc, _⟩
  · exact .inl ⟨rfl, a, cap, rfl⟩
  · exact .inr ⟨by simpa using h0, b, off, cap, by simp, by simpa using hl, hm, hlt, fun i hi => by simpa using hc i (by simpa using hi)⟩
theorem Sl1.take {w : World} {b off cap : Nat} {us : List Value} (hl : us.length ≤ cap) (hm : cap ≤ maxLen) (hlt : b < w.heap.size) (hc : ∀ i (h : i < us.length), w.cell? ⟨b, off + i, none⟩ = some us[i]) (n : Nat) (hn : n ≤ us.length) :
    Sl1 w (.slice (some ⟨b, off, none⟩) n cap) (us.take n) := by
  by_cases h0 : n = 0
  · subst h0
    exact .inl ⟨by simp, _, cap, rfl⟩
  · have hlen : (us.take n).length = n := by rw [List.length_take]; omega
    refine .inr ⟨by intro h; rw [h] at hlen; simp at hlen; omega, b, off, cap, by rw [hlen], by omega, hm, hlt, fun i hi => ?_⟩
    rw [hc i (by omega)]
    simp
theorem Sl1.of_owns {w : World} {base : Nat} {e : TypeId} {v : Value} {n : Nat} {us : List Value} (h : w.ownsRow base e 1 v n us) : Sl1 w v us := by
  have hs := h.1
  rcases h.2 with ⟨rfl, rfl⟩ | ⟨g, cap, cur, rfl, hb, hg, hn, hm, hsz, ht⟩
  · have : us = [] := List.length_eq_zero_iff.1 (by omega)
    exact .inl ⟨this, none, 0, rfl⟩
  · have hlen : us.length = n := by omega
    by_cases h0 : us = []
    · subst h0
      simp at hlen
      subst hlen
      exact .inl ⟨rfl, _, cap, rfl⟩
    · refine .inr ⟨h0, g, 0, cap, by rw [hlen], by omega, hm, lt_of_block hg, fun i hi => ?_⟩
      rw [Nat.zero_add, cell_of_row w g i cur e (0, 0) hg]
      have h1 : us[i]? = some us[i] := List.getElem?_eq_getElem hi
      rw [← h1, ← ht, List.getElem?_take]
      rw [if_pos (by omega)]
      simp
theorem ownsRow_below {w w' : World} {base : Nat} {e : TypeId} {size : Nat} {v : Value} {n : Nat} {xs : List Value} (h : w.ownsRow base e size v n xs) (hb : Below w.heap.size w w') : w'.ownsRow base e size v n xs := by
  refine ⟨h.1, ?_⟩
  rcases h.2 with h2 | ⟨g, cap, cur, rfl, hbg, hg, h3⟩
  · exact .inl h2
  · exact .inr ⟨g, cap, cur, rfl, hbg, by rw [hb.block g (lt_of_block hg)]; exact hg, h3⟩
theorem below_grown {w w' : World} {B : Nat} {row : Option Nat} {a : World} (h : Below B a w) (hg : w.grownBy w' row) (hB : B ≤ w.heap.size) (hr : ∀ k, row = some k → B ≤ k) : Below B a w' := h.grown hg hB hr
theorem owns_ge {w : World} {base : Nat} {e : TypeId} {size : Nat} {v : Value} {n : Nat} {xs : List Value} (h : w.ownsRow base e size v n xs) : ∀ k, v.ownBlock = some k → base ≤ k := fun k hk => (h.lt k hk).1

theorem addr_add (b off j : Nat) : (⟨b, off, none⟩ : Addr).add j = ⟨b, off + j, none⟩ := by cases j <;> simp [Addr.add]
/-- A slice that a literal makes. -/
theorem owns_lit {w : World} {base : Nat} {e : TypeId} (cur : Array Value) (hb : base ≤ w.heap.size) (hm : cur.size ≤ maxLen) :
    (w.alloc (.cells cur e)).ownsRow base e 1 (.slice (some ⟨w.heap.size, 0, none⟩) cur.size cur.size) cur.size cur.toList :=
  ⟨by simp, .inr ⟨w.heap.size, cur.size, cur, rfl, hb, heap_alloc_new w _, Nat.le_refl _, hm, by omega, List.take_of_length_le (by simp)⟩⟩
/-- A call answers a slice that reads as the values us, and leaves what was there as it was. -/
def RetSl (us : List Value) (w : World) (e : Ending) (w' : World) : Prop := ∃ v, e = .returned v ∧ Sl1 w' v us ∧ Below w.heap.size w w'
/-- .. in memory that is new. -/
def RetSlN (us : List Value) (w : World) (e : Ending) (w' : World) : Prop := ∃ v, e = .returned v ∧ Sl1 w' v us ∧ Below w.heap.size w w' ∧ ∀ k, v.ownBlock = some k → w.heap.size ≤ k
theorem RetSlN.ret {us : List Value} {w : World} {e : Ending} {w' : World} (h : RetSlN us w e w') : RetSl us w e w' := by
  obtain ⟨v, h1, h2, h3, _⟩ := h
  exact ⟨v, h1, h2, h3⟩
/-- .. of whole numbers. -/
def ints (zs : List Int) : List Value := zs.map (Value.int .i64)
theorem ints_len (zs : List Int) : (ints zs).length = zs.length := by simp [ints]
theorem ints_one (zs : List Int) : ∀ u ∈ ints zs, u.oneCell' = true := by
  intro u hu; obtain ⟨_, _, rfl⟩ := List.mem_map.1 hu; rfl
end Go.Sg
