/-
  What chapter 16's laws have in common: slices of items that are made, one by one.
-/
import Derived.Test.YtmnnfhplgepiaaaPolS
import Derived.Test.YtmnnfhplgepiaaaPolQ
import Derived.Test.YtmnnfhplgepiaaaAs16
import Derived.Deep.OwnRows
namespace Go.Sg
open Go Go.RowKit
theorem slI_words16 {w : World} {v : Value} {zs : List Int} (h : SlI .u64 w v zs) : ∀ n ∈ zs, Word n := by
  rcases h with ⟨rfl, _⟩ | ⟨_, _, _, _, _, _, _, _, _, h⟩
  · intro n hn; cases hn
  · exact fun n hn => u64_of (h n hn)
theorem sl1_at16 {w : World} {v : Value} {us : List Value} (h : Sl1 w v us) : ∃ a cap, v = .slice a us.length cap ∧ us.length ≤ maxLen ∧ ∀ w', Below w.heap.size w w' → ∀ k u, us[k]? = some u → ∃ b off, a = some ⟨b, off, none⟩ ∧ w'.cell? ⟨b, off + k, none⟩ = some u := by
  have hm := h.len_le
  rcases h with ⟨h0, a, cap, rfl⟩ | ⟨_, b, off, c, rfl, _, _, hlt, hc⟩
  · subst h0
    exact ⟨a, cap, rfl, by simp, fun _ _ k u hk => by simp at hk⟩
  · refine ⟨_, c, rfl, hm, fun w' hb k u hu => ?_⟩
    obtain ⟨hk, rfl⟩ := List.getElem?_eq_some_iff.1 hu
    exact ⟨b, off, rfl, (hb.cell (p := ⟨b, off + k, none⟩) hlt).trans (hc k hk)⟩
theorem ownsRow_blk16 {w w' : World} {base : Nat} {e : TypeId} {size : Nat} {v : Value} {n : Nat} {xs : List Value} (h : w.ownsRow base e size v n xs) (hb : ∀ k, v.ownBlock = some k → w'.heap[k]? = w.heap[k]?) : w'.ownsRow base e size v n xs := by
  refine ⟨h.1, ?_⟩
  rcases h.2 with h2 | ⟨g, cap, cur, rfl, hbg, hg, h3⟩
  · exact .inl h2
  · exact .inr ⟨g, cap, cur, rfl, hbg, by rw [hb g rfl]; exact hg, h3⟩
theorem own_grown {w w' : World} {base : Nat} {e : TypeId} {size : Nat} {v : Value} {n : Nat} {xs : List Value} {row : Option Nat} (h : w.ownsRow base e size v n xs) (hg : w.grownBy w' row) (hne : ∀ k, v.ownBlock = some k → row ≠ some k) : w'.ownsRow base e size v n xs :=
  ownsRow_blk16 h fun k hk => hg.block k (h.lt k hk).2 (fun e => hne k hk e.symm)
theorem own_set {w : World} {base : Nat} {e : TypeId} {size : Nat} {v : Value} {n : Nat} {xs : List Value} (h : w.ownsRow base e size v n xs) (a : Addr) (u : Value) (hne : v.ownBlock ≠ some a.block) : (w.setCell a u).ownsRow base e size v n xs :=
  ownsRow_blk16 h fun k hk => Go.Deep.blk_setCell_other _ _ _ _ (fun e => hne (by rw [hk, e]))
theorem own_row {w : World} {base : Nat} {e : TypeId} {size : Nat} {v : Value} {n : Nat} {xs : List Value} (h : w.ownsRow base e size v n xs) (g : Nat) (cs : Array Value) (hne : v.ownBlock ≠ some g) : (w.setRow g cs).ownsRow base e size v n xs :=
  ownsRow_blk16 h fun k hk => by
    have hkg : k ≠ g := fun e => hne (by rw [hk, e])
    simp [World.setRow, Array.getElem?_modify, Ne.symm hkg]
theorem blk_grown {w w' : World} {b : Nat} {cs : Array Value} {t : TypeId} {row : Option Nat} (h : Blk w b cs t) (hg : w.grownBy w' row) (hne : row ≠ some b) : Blk w' b cs t := by
  unfold Blk at *
  rw [hg.block b (lt_of_block h) (fun e => hne e.symm)]
  exact h
theorem below_row16 {B : Nat} {a w : World} (h : Below B a w) (g : Nat) (cs : Array Value) (hg : B ≤ g) : Below B a (w.setRow g cs) := by
  refine ⟨h.os, h.tape, h.output, ?_, fun k hk => ?_⟩
  · have := h.size
    simpa [World.setRow] using this
  · rw [← h.block k hk]
    have : g ≠ k := by omega
    simp [World.setRow, Array.getElem?_modify, this]
theorem below_set16 {B : Nat} {a w : World} (h : Below B a w) (g o : Nat) (u : Value) (hg : B ≤ g) : Below B a (w.setCell ⟨g, o, none⟩ u) := below_setCells hg [u] o h
theorem flatV_mkI (f : Nat → It) (k : Nat) : flatV itV (mkI f (k + 1)) = flatV itV (mkI f k) ++ itV (f k) := by
  rw [mkI_succ, flatV_snoc]
/-- two rows, that do not share a block -/
structure TwoO (w : World) (base : Nat) (e : TypeId) (v1 v2 : Value) (n : Nat) (xs1 xs2 : List Value) : Prop where
  o1 : w.ownsRow base e 3 v1 n xs1
  o2 : w.ownsRow base e 3 v2 n xs2
  ne : ∀ j, v1.ownBlock = some j → v2.ownBlock ≠ some j
theorem own_base16 {w : World} {B base : Nat} {e : TypeId} {size : Nat} {v : Value} {n : Nat} {xs : List Value} (h : w.ownsRow B e size v n xs) (hB : base ≤ B) : w.ownsRow base e size v n xs := by
  refine ⟨h.1, ?_⟩
  rcases h.2 with h2 | ⟨g, cap, cur, rfl, hbg, h3⟩
  · exact .inl h2
  · exact .inr ⟨g, cap, cur, rfl, Nat.le_trans hB hbg, h3⟩
theorem step_mod {b : Nat} (hb : 1 ≤ b) (k : Nat) : (k + 1) % b = 0 ∨ (k + 1) % b = k % b + 1 := by
  have h1 := Nat.div_add_mod k b
  have h2 := Nat.mod_lt k (show 0 < b by omega)
  by_cases h : k % b + 1 = b
  · left
    have : k + 1 = b * (k / b + 1) := by rw [Nat.mul_add, Nat.mul_one]; omega
    rw [this, Nat.mul_mod_right]
  · right
    have : k + 1 = b * (k / b) + (k % b + 1) := by omega
    rw [this, Nat.mul_add_mod, Nat.mod_eq_of_lt (by omega)]
theorem late_facts {f : Nat → It} (hf : ∀ i, (f i).1 = i) (he : ∀ i, (f i).2.2 = true) (hr : ∀ i, 0 ≤ (f i).2.1 ∧ (f i).2.1 < 4611686018427387904) (n : Nat) (cap b : Int) :
    ∃ jv : Nat → Nat, (∀ i (hi : i < (victI (mkI f n) cap b).length), jv i < n ∧ (victI (mkI f n) cap b)[i] = (jv i : Int)) ∧ (∀ i, i + 1 < (victI (mkI f n) cap b).length → (f (jv i)).2.1 ≤ (f (jv (i + 1))).2.1) := by
  refine ⟨fun i => ((victI (mkI f n) cap b).getD i 0).toNat, ?_, ?_⟩
  · intro i hi
    obtain ⟨j, hj, e, _⟩ := vict_place hf hi
    simp only [List.getD_eq_getElem?_getD, List.getElem?_eq_getElem hi, Option.getD_some, e]
    omega
  · intro i hi
    have hi0 : i < (victI (mkI f n) cap b).length := by omega
    obtain ⟨j, hj, e, _⟩ := vict_place hf hi0
    obtain ⟨k, hk, e', _⟩ := vict_place hf hi
    have h := vict_rise hf he hr hi e e'
    simp only [List.getD_eq_getElem?_getD, List.getElem?_eq_getElem hi, List.getElem?_eq_getElem hi0, Option.getD_some, e, e', Int.toNat_natCast]
    exact h
end Go.Sg
