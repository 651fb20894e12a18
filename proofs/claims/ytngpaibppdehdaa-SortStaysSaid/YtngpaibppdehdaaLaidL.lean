/-
  A memory in which words were laid: plain facts.
-/
import Derived.Test.YtngpaibppdehdaaScanL
import Derived.Test.YtngpaibppdehdaaMemNew
namespace Go.Sg
open Go Go.RowKit
def laidK (r c : Nat) (zs : List Int) : Nat → Mm
  | 0 => Mm.fresh (List.replicate r (c : Int))
  | k + 1 => (laidK r c zs k).write 0 (k : Int) (cellL (zs.getD k 0))
def laidM (r c : Nat) (zs : List Int) : Mm := laidK r c zs (min zs.length c)
theorem laid_ok {r c : Nat} (hr : 1 ≤ r) (hr2 : r ≤ 16) (hc : 1 ≤ c) (hc2 : c ≤ 4096) : Mm.newOk (List.replicate r (c : Int)) = true := by
  simp only [Mm.newOk, List.length_replicate, Bool.and_eq_true, decide_eq_true_eq, Bool.not_eq_true', List.any_eq_false]
  refine ⟨⟨hr, hr2⟩, fun x hx => ?_⟩
  have := List.eq_of_mem_replicate hx
  subst this
  simp [Mm.bad]
  omega
theorem fresh_size (r c : Nat) (x : Int) : (Mm.fresh (List.replicate r (c : Int))).size x = if 0 ≤ x ∧ x < r then c else 0 := by
  unfold Mm.size Mm.fresh
  by_cases h0 : 0 ≤ x
  · rw [if_pos h0]
    obtain ⟨i, rfl⟩ := Int.eq_ofNat_of_zero_le h0
    by_cases h : i < r
    · rw [if_pos ⟨h0, by omega⟩]
      simp [h]
    · rw [if_neg (by omega)]
      simp [h]
  · rw [if_neg h0, if_neg (fun h => h0 h.1)]
theorem laidK_size (r c : Nat) (zs : List Int) : ∀ (k : Nat) (x : Int), (laidK r c zs k).size x = if 0 ≤ x ∧ x < r then c else 0
  | 0, x => fresh_size r c x
  | k + 1, x => (Mm.write_size _ _ _ _ _).trans (laidK_size r c zs k x)
theorem laidK_has {r c : Nat} (zs : List Int) (k : Nat) {i : Nat} (hr : 1 ≤ r) (hi : i < c) : (laidK r c zs k).has 0 (i : Int) = true := by
  apply Mm.has_lt
  rw [laidK_size, if_pos (by omega)]
  exact hi
theorem laidK_evs {r c : Nat} (zs : List Int) (hr : 1 ≤ r) : ∀ k, k ≤ c → (laidK r c zs k).evs = (List.range k).map fun i : Nat => ((0 : Int), (i : Int), true)
  | 0, _ => rfl
  | k + 1, h => by
    show ((laidK r c zs k).write 0 (k : Int) _).evs = _
    rw [Mm.write_evs, if_pos (laidK_has zs k hr (by omega)), laidK_evs zs hr k (by omega), List.range_succ]
    simp
theorem laidK_fault {r c : Nat} (zs : List Int) (hr : 1 ≤ r) : ∀ k, k ≤ c → (laidK r c zs k).fault = false
  | 0, _ => rfl
  | k + 1, h => by
    show ((laidK r c zs k).write 0 (k : Int) _).fault = _
    rw [Mm.write_noted (laidK_has zs k hr (by omega))]
    exact laidK_fault zs hr k (by omega)
theorem fresh_read (r c : Nat) (x a : Int) : (Mm.fresh (List.replicate r (c : Int))).read x a = zeros := by
  cases h : (Mm.fresh (List.replicate r (c : Int))).has x a with
  | false => exact Mm.read_nohas h
  | true =>
    obtain ⟨i, j, hi, hj, rfl, rfl⟩ := Mm.has_spec h
    rw [Mm.read_in hi hj]
    simp [Mm.fresh]
theorem laidK_read {r c : Nat} (zs : List Int) (hr : 1 ≤ r) : ∀ (k : Nat), k ≤ c → ∀ (x : Int) (i : Nat), (laidK r c zs k).read x (i : Int) = if x = 0 ∧ i < k then cellL (zs.getD i 0) else zeros
  | 0, _, x, i => by rw [if_neg (by omega)]; exact fresh_read r c x i
  | k + 1, h, x, i => by
    show ((laidK r c zs k).write 0 (k : Int) _).read x (i : Int) = _
    rw [Mm.read_write, laidK_read zs hr k (by omega)]
    by_cases e : x = 0 ∧ i = k
    · obtain ⟨rfl, rfl⟩ := e
      rw [if_pos ⟨laidK_has zs _ hr (by omega), rfl, rfl⟩, if_pos ⟨rfl, by omega⟩]
    · rw [if_neg (by rintro ⟨_, h1, h2⟩; exact e ⟨h1.symm, by omega⟩)]
      by_cases h2 : x = 0 ∧ i < k
      · rw [if_pos h2, if_pos ⟨h2.1, by omega⟩]
      · rw [if_neg h2, if_neg (by rintro ⟨h3, h4⟩; exact h2 ⟨h3, by rcases Nat.lt_or_ge i k with h5 | h5; exact h5; exact absurd ⟨h3, by omega⟩ e⟩)]
structure LaidF (r c : Nat) (zs : List Int) (M : Mm) : Prop where
  size : ∀ x, M.size x = if 0 ≤ x ∧ x < (r : Int) then c else 0
  evs : M.evs.length ≤ 40 + zs.length ∧ M.evs.length ≤ c
  fault : M.fault = false
  read : ∀ (x : Int) (i : Nat), M.read x (i : Int) = if x = 0 ∧ i < c ∧ i < zs.length then cellL (zs.getD i 0) else zeros
theorem laid_f {r c : Nat} (zs : List Int) (hr : 1 ≤ r) : LaidF r c zs (laidM r c zs) := by
  refine ⟨laidK_size r c zs _, ?_, laidK_fault zs hr _ (by omega), fun x i => ?_⟩
  · unfold laidM
    rw [laidK_evs zs hr _ (by omega)]
    simp
    omega
  · unfold laidM
    rw [laidK_read zs hr _ (by omega)]
    by_cases h : x = 0 ∧ i < c ∧ i < zs.length
    · rw [if_pos h, if_pos ⟨h.1, by omega⟩]
    · rw [if_neg h, if_neg (by rintro ⟨h1, h2⟩; exact h ⟨h1, by omega, by omega⟩)]
end Go.Sg
