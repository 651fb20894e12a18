/-
  Who goes first, as the document says it: the first of those that are left, again and again: plain facts.
-/
import Derived.Test.YtmnnfhplgepiaaaPolP
namespace Go.Sg
def getI (l : List It) (i : Nat) : It := l.getD i (0, 0, false)
theorem getI_eq {l : List It} {i : Nat} (h : i < l.length) : getI l i = l[i] := by
  unfold getI; rw [List.getD_eq_getElem?_getD, List.getElem?_eq_getElem h]; rfl
theorem range_getI (l : List It) : (List.range l.length).map (getI l) = l := by
  apply List.ext_getElem (by simp)
  intro i h1 h2
  rw [List.getElem_map, List.getElem_range, getI_eq h2]
/-- those that were picked, by their places -/
structure PK (l : List It) (pk : List Nat) : Prop where
  nd : pk.Nodup
  lt : ∀ i ∈ pk, i < l.length
  up : (pk.map (getI l)).Pairwise leI
  le : ∀ i ∈ pk, ∀ k, k < l.length → k ∉ pk → leI (getI l i) (getI l k)
theorem PK.nil (l : List It) : PK l [] := ⟨List.nodup_nil, by simp, by simp, by simp⟩
theorem PK.snoc {l : List It} {pk : List Nat} (h : PK l pk) {a : Nat} (ha : a < l.length) (hn : a ∉ pk) (hm : ∀ k, k < l.length → k ∉ pk → leI (getI l a) (getI l k)) : PK l (pk ++ [a]) := by
  refine ⟨?_, ?_, ?_, ?_⟩
  · rw [List.nodup_append]
    exact ⟨h.nd, List.nodup_cons.2 ⟨by simp, List.nodup_nil⟩, fun x hx y hy e => by rw [List.mem_singleton] at hy; subst hy; subst e; exact hn hx⟩
  · intro i hi
    rcases List.mem_append.1 hi with h1 | h1
    · exact h.lt i h1
    · rw [List.mem_singleton] at h1; rw [h1]; exact ha
  · rw [List.map_append, List.pairwise_append]
    refine ⟨h.up, by simp, fun x hx y hy => ?_⟩
    obtain ⟨i, hi, rfl⟩ := List.mem_map.1 hx
    simp at hy
    subst hy
    exact h.le i hi a ha hn
  · intro i hi k hk hkn
    rw [List.mem_append, List.mem_singleton, not_or] at hkn
    rcases List.mem_append.1 hi with h1 | h1
    · exact h.le i h1 k hk hkn.1
    · rw [List.mem_singleton] at h1; rw [h1]; exact hm k hk hkn.1
def restP (n : Nat) (pk : List Nat) : List Nat := (List.range n).filter (fun i => decide (i ∉ pk))
theorem PK.perm {l : List It} {pk : List Nat} (h : PK l pk) : (pk ++ restP l.length pk).Perm (List.range l.length) := by
  have hnd : (pk ++ restP l.length pk).Nodup := by
    rw [List.nodup_append]
    refine ⟨h.nd, (List.nodup_range).filter _, fun x hx y hy e => ?_⟩
    subst e
    have := (List.mem_filter.1 hy).2
    simp at this
    exact this hx
  refine (List.perm_ext_iff_of_nodup hnd List.nodup_range).2 fun a => ?_
  rw [List.mem_append, restP, List.mem_filter, List.mem_range]
  constructor
  · rintro (h1 | h1)
    · exact h.lt a h1
    · exact h1.1
  · intro h1
    by_cases h2 : a ∈ pk
    · exact .inl h2
    · exact .inr ⟨h1, by simpa using h2⟩
theorem PK.more {l : List It} {pk : List Nat} (h : PK l pk) (hl : pk.length < l.length) : ∃ k, k < l.length ∧ k ∉ pk := by
  have h1 := h.perm.length_eq
  rw [List.length_append, List.length_range] at h1
  have h2 : 0 < (restP l.length pk).length := by omega
  obtain ⟨k, hk⟩ := List.exists_mem_of_length_pos h2
  have h3 := List.mem_filter.1 hk
  exact ⟨k, List.mem_range.1 h3.1, by simpa using h3.2⟩
theorem PK.done {l : List It} {pk : List Nat} (h : PK l pk) {cap batch : Int} (hl : pk.length = goI l cap batch) : victI l cap batch = (pk.map (getI l)).map (·.1) := by
  have hp : (pk.map (getI l) ++ srtI ((restP l.length pk).map (getI l))).Perm l := by
    have h1 := h.perm.map (getI l)
    rw [List.map_append, range_getI] at h1
    exact ((srtI_perm _).append_left _).trans h1
  have hS : (pk.map (getI l) ++ srtI ((restP l.length pk).map (getI l))).Pairwise leI := by
    rw [List.pairwise_append]
    refine ⟨h.up, srtI_sorted _, fun x hx y hy => ?_⟩
    obtain ⟨i, hi, rfl⟩ := List.mem_map.1 hx
    obtain ⟨k, hk, rfl⟩ := List.mem_map.1 ((srtI_perm _).mem_iff.1 hy)
    have h3 := List.mem_filter.1 hk
    exact h.le i hi k (List.mem_range.1 h3.1) (by simpa using h3.2)
  unfold victI
  rw [← vict_of hS hp, ← hl, List.take_left' (by simp)]
/-- the search for the first of those that are left -/
def INN (l : List It) (pk : List Nat) (i : Nat) (at' : Int) : Prop :=
  (at' = -1 ∧ ∀ k, k < i → k ∈ pk) ∨ (∃ a : Nat, at' = a ∧ a < i ∧ a ∉ pk ∧ ∀ k, k < i → k ∉ pk → leI (getI l a) (getI l k))
theorem INN.zero (l : List It) (pk : List Nat) : INN l pk 0 (-1) := .inl ⟨rfl, fun k h => by omega⟩
theorem INN.skip {l : List It} {pk : List Nat} {i : Nat} {at' : Int} (h : INN l pk i at') (hi : i ∈ pk) : INN l pk (i + 1) at' := by
  rcases h with ⟨h1, h2⟩ | ⟨a, h1, h2, h3, h4⟩
  · refine .inl ⟨h1, fun k hk => ?_⟩
    rcases Nat.lt_or_ge k i with h5 | h5
    · exact h2 k h5
    · obtain rfl : k = i := by omega
      exact hi
  · refine .inr ⟨a, h1, by omega, h3, fun k hk hkn => ?_⟩
    rcases Nat.lt_or_ge k i with h5 | h5
    · exact h4 k h5 hkn
    · obtain rfl : k = i := by omega
      exact absurd hi hkn
theorem INN.take {l : List It} {pk : List Nat} {i : Nat} {at' : Int} (h : INN l pk i at') (hi : i ∉ pk) (hc : ∀ a : Nat, at' = a → ltI (getI l i) (getI l a) = true) : INN l pk (i + 1) i := by
  refine .inr ⟨i, rfl, by omega, hi, fun k hk hkn => ?_⟩
  rcases Nat.lt_or_ge k i with h5 | h5
  · rcases h with ⟨h1, h2⟩ | ⟨a, h1, h2, h3, h4⟩
    · exact absurd (h2 k h5) hkn
    · have h6 := ltI_iff.1 (hc a h1)
      have h7 := leI_iff.1 (h4 k h5 hkn)
      exact leI_iff.2 (by omega)
  · obtain rfl : k = i := by omega
    exact leI_refl _
theorem INN.keep {l : List It} {pk : List Nat} {i : Nat} {at' : Int} (h : INN l pk i at') (hn : 0 ≤ at') (hc : ∀ a : Nat, at' = a → ltI (getI l i) (getI l a) = false) : INN l pk (i + 1) at' := by
  rcases h with ⟨h1, h2⟩ | ⟨a, h1, h2, h3, h4⟩
  · omega
  · refine .inr ⟨a, h1, by omega, h3, fun k hk hkn => ?_⟩
    rcases Nat.lt_or_ge k i with h5 | h5
    · exact h4 k h5 hkn
    · obtain rfl : k = i := by omega
      exact hc a h1
theorem INN.done {l : List It} {pk : List Nat} {at' : Int} (h : INN l pk l.length at') (hp : PK l pk) (hl : pk.length < l.length) : ∃ a : Nat, at' = a ∧ a < l.length ∧ a ∉ pk ∧ PK l (pk ++ [a]) := by
  rcases h with ⟨h1, h2⟩ | ⟨a, h1, h2, h3, h4⟩
  · obtain ⟨k, hk, hkn⟩ := hp.more hl
    exact absurd (h2 k hk) hkn
  · exact ⟨a, h1, h2, h3, hp.snoc h2 h3 h4⟩
end Go.Sg
