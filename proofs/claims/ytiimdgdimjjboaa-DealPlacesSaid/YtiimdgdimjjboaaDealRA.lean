/-
  The order as the document says it: the first of those that are left, again and again: plain facts, and the walk of shellgameref9.ahead.
-/
import Derived.Test.YtiimdgdimjjboaaDealH
import Derived.Test.YtiimdgdimjjboaaAs9
namespace Go.Sg
open Go Go.RowKit
def aheadD (x y : Di) : Bool := decide (y.2 < x.2) || (decide (x.2 = y.2) && decide (x.1 < y.1))
theorem ahead_lt {l : List Di} {i k : Int} (hi : 0 ≤ (getD' l i).2) (_hk : 0 ≤ (getD' l k).2) : aheadD (getD' l i) (getD' l k) = ltO l i k := by
  unfold ltO aheadD
  rcases h : ltD (getD' l i) (getD' l k) with _ | _
  · rw [ltD_false] at h
    rw [Bool.or_eq_false_iff, Bool.and_eq_false_iff, decide_eq_false_iff_not, decide_eq_false_iff_not, decide_eq_false_iff_not]
    omega
  · rw [ltD_iff] at h
    rw [Bool.or_eq_true, Bool.and_eq_true, decide_eq_true_eq, decide_eq_true_eq, decide_eq_true_eq]
    omega
/-- those that were picked, by their places -/
structure KD (l : List Di) (pk : List Nat) : Prop where
  nd : pk.Nodup
  lt : ∀ i ∈ pk, i < l.length ∧ 0 ≤ (getD' l (i : Int)).2
  up : (pk.map (fun i : Nat => (i : Int))).Pairwise (leO l)
  le : ∀ i ∈ pk, ∀ k : Nat, k < l.length → k ∉ pk → 0 ≤ (getD' l (k : Int)).2 → leO l i k
theorem KD.nil (l : List Di) : KD l [] := ⟨List.nodup_nil, by simp, by simp, by simp⟩
/-- the search for the first of those that are left -/
def IND (l : List Di) (pk : List Nat) (i : Nat) (z : Int) : Prop :=
  (z = -1 ∧ ∀ k : Nat, k < i → k ∉ pk → (getD' l (k : Int)).2 < 0) ∨ ∃ a : Nat, z = a ∧ a < i ∧ a ∉ pk ∧ 0 ≤ (getD' l (a : Int)).2 ∧ ∀ k : Nat, k < i → k ∉ pk → 0 ≤ (getD' l (k : Int)).2 → leO l a k
theorem IND.zero (l : List Di) (pk : List Nat) : IND l pk 0 (-1) := .inl ⟨rfl, fun k h => by omega⟩
theorem IND.skip {l : List Di} {pk : List Nat} {i : Nat} {z : Int} (h : IND l pk i z) (hs : i ∈ pk ∨ (getD' l (i : Int)).2 < 0) : IND l pk (i + 1) z := by
  rcases h with ⟨h1, h2⟩ | ⟨a, h1, h2, h3, h4, h5⟩
  · refine .inl ⟨h1, fun k hk hn => ?_⟩
    by_cases hki : k = i
    · subst hki
      rcases hs with h | h
      · exact absurd h hn
      · exact h
    · exact h2 k (by omega) hn
  · refine .inr ⟨a, h1, by omega, h3, h4, fun k hk hn hd => ?_⟩
    by_cases hki : k = i
    · subst hki
      rcases hs with h | h
      · exact absurd h hn
      · omega
    · exact h5 k (by omega) hn hd
theorem IND.take {l : List Di} {pk : List Nat} {i : Nat} {z : Int} (h : IND l pk i z) (hn : i ∉ pk) (hd : 0 ≤ (getD' l (i : Int)).2) (hz : ∀ a : Nat, z = a → aheadD (getD' l (i : Int)) (getD' l (a : Int)) = true) : IND l pk (i + 1) i := by
  refine .inr ⟨i, rfl, by omega, hn, hd, fun k hk hkn hkd => ?_⟩
  have hrefl : leO l (i : Int) (i : Int) := by
    rcases leO_total l (i : Int) (i : Int) with h | h <;> exact h
  by_cases hki : k = i
  · rw [hki]; exact hrefl
  · rcases h with ⟨h1, h2⟩ | ⟨a, h1, h2, h3, h4, h5⟩
    · have := h2 k (by omega) hkn; omega
    · have h6 := hz a h1
      rw [ahead_lt hd h4] at h6
      exact leO_trans l _ _ _ (Or.inl h6) (h5 k (by omega) hkn hkd)
theorem IND.keep {l : List Di} {pk : List Nat} {i a : Nat} (h : IND l pk i a) (hd : 0 ≤ (getD' l (i : Int)).2) (hz : aheadD (getD' l (i : Int)) (getD' l (a : Int)) = false) : IND l pk (i + 1) a := by
  rcases h with ⟨h1, h2⟩ | ⟨a', h1, h2, h3, h4, h5⟩
  · omega
  · obtain rfl : a = a' := by omega
    refine .inr ⟨a, rfl, by omega, h3, h4, fun k hk hn hkd => ?_⟩
    by_cases hki : k = i
    · subst hki
      rw [ahead_lt hd h4] at hz
      exact Or.inr ⟨hz, by omega⟩
    · exact h5 k (by omega) hn hkd
theorem IND.bd {l : List Di} {pk : List Nat} {i : Nat} {z : Int} (h : IND l pk i z) : z = -1 ∨ (0 ≤ z ∧ z < i) := by
  rcases h with ⟨h1, -⟩ | ⟨a, h1, h2, -⟩
  · exact .inl h1
  · exact .inr ⟨by omega, by omega⟩
theorem IND.real {l : List Di} {pk : List Nat} {i a : Nat} (h : IND l pk i a) : a < i ∧ a ∉ pk ∧ 0 ≤ (getD' l (a : Int)).2 := by
  rcases h with ⟨h1, -⟩ | ⟨a', h1, h2, h3, h4, -⟩
  · omega
  · obtain rfl : a = a' := by omega
    exact ⟨h2, h3, h4⟩
theorem KD.snoc {l : List Di} {pk : List Nat} {a : Nat} (h : KD l pk) (hi : IND l pk l.length a) : KD l (pk ++ [a]) := by
  rcases hi with ⟨h1, -⟩ | ⟨a', h1, h2, h3, h4, h5⟩
  · omega
  obtain rfl : a = a' := by omega
  refine ⟨?_, ?_, ?_, ?_⟩
  · rw [List.nodup_append]
    exact ⟨h.nd, List.nodup_cons.2 ⟨by simp, List.nodup_nil⟩, fun x hx y hy e => by rw [List.mem_singleton] at hy; subst hy; subst e; exact h3 hx⟩
  · intro i hi
    rcases List.mem_append.1 hi with h6 | h6
    · exact h.lt i h6
    · rw [List.mem_singleton] at h6; rw [h6]; exact ⟨h2, h4⟩
  · rw [List.map_append, List.pairwise_append]
    refine ⟨h.up, by simp, fun x hx y hy => ?_⟩
    obtain ⟨i, hi, rfl⟩ := List.mem_map.1 hx
    simp at hy
    subst hy
    exact h.le i hi a h2 h3 h4
  · intro i hi k hk hkn hkd
    rw [List.mem_append, List.mem_singleton, not_or] at hkn
    rcases List.mem_append.1 hi with h6 | h6
    · exact h.le i h6 k hk hkn.1 hkd
    · rw [List.mem_singleton] at h6; rw [h6]; exact h5 k hk hkn.1 hkd
def restD (n : Nat) (pk : List Nat) : List Nat := (List.range n).filter (fun i => decide (i ∉ pk))
theorem restD_succ (n : Nat) (pk : List Nat) : restD (n + 1) pk = if n ∈ pk then restD n pk else restD n pk ++ [n] := by
  unfold restD
  rw [List.range_succ, List.filter_append]
  by_cases h : n ∈ pk <;> simp [h]
theorem KD.perm {l : List Di} {pk : List Nat} (h : KD l pk) : (pk ++ restD l.length pk).Perm (List.range l.length) := by
  have hnd : (pk ++ restD l.length pk).Nodup := by
    rw [List.nodup_append]
    refine ⟨h.nd, (List.nodup_range).filter _, fun x hx y hy e => ?_⟩
    subst e
    have := (List.mem_filter.1 hy).2
    simp at this
    exact this hx
  refine (List.perm_ext_iff_of_nodup hnd List.nodup_range).2 fun a => ?_
  rw [List.mem_append, restD, List.mem_filter, List.mem_range]
  constructor
  · rintro (h1 | h1)
    · exact (h.lt a h1).1
    · exact h1.1
  · intro h1
    by_cases h2 : a ∈ pk
    · exact .inl h2
    · exact .inr ⟨h1, by simpa using h2⟩
theorem KD.len {l : List Di} {pk : List Nat} (h : KD l pk) : pk.length ≤ l.length := by
  have := h.perm.length_eq
  rw [List.length_append, List.length_range] at this
  omega
/-- none that is left is dealt -/
def NoR (l : List Di) (pk : List Nat) : Prop := ∀ k : Nat, k < l.length → k ∉ pk → (getD' l (k : Int)).2 < 0
theorem KD.all {l : List Di} {pk : List Nat} (h : KD l pk) (hl : pk.length = l.length) : NoR l pk := fun k hk hn => by
  have h1 := h.perm.length_eq
  rw [List.length_append, List.length_range] at h1
  have h2 : k ∈ restD l.length pk := List.mem_filter.2 ⟨List.mem_range.2 hk, by simpa using hn⟩
  have h3 := List.length_pos_of_mem h2
  omega
theorem IND.none {l : List Di} {pk : List Nat} {z : Int} (h : IND l pk l.length z) (hz : z < 0) : NoR l pk := by
  rcases h with ⟨-, h2⟩ | ⟨a, h1, -⟩
  · exact h2
  · omega
theorem KD.done {l : List Di} {pk : List Nat} (h : KD l pk) (hr : NoR l pk) : ordD l = pk.map (fun i : Nat => (i : Int)) ++ (restD l.length pk).map (fun i : Nat => (i : Int)) := by
  symm
  refine ordD_of ?_ ?_
  · have := h.perm.map (fun i : Nat => (i : Int))
    rwa [List.map_append] at this
  · rw [List.pairwise_append]
    refine ⟨h.up, ?_, fun x hx y hy => ?_⟩
    · rw [List.pairwise_map]
      refine (List.pairwise_lt_range.sublist List.filter_sublist).imp_of_mem fun {a b} ha hb hab => ?_
      have h1 := List.mem_filter.1 ha
      have h2 := List.mem_filter.1 hb
      have h3 := hr a (List.mem_range.1 h1.1) (by simpa using h1.2)
      have h4 := hr b (List.mem_range.1 h2.1) (by simpa using h2.2)
      rw [leO_iff]
      exact .inr (.inl ⟨h3, h4, by omega⟩)
    · obtain ⟨i, hi, rfl⟩ := List.mem_map.1 hx
      obtain ⟨k, hk, rfl⟩ := List.mem_map.1 hy
      have h1 := List.mem_filter.1 hk
      rw [leO_iff]
      exact .inl ⟨hr k (List.mem_range.1 h1.1) (by simpa using h1.2), (h.lt i hi).2⟩
end Go.Sg
namespace Go.Proofs.Ytiimdgdimjjboaa
open Go Go.RowKit Go.Sg
set_option maxHeartbeats 1000000 in
set_option maxRecDepth 100000 in
theorem rahead_any (x y : Di) (w : World) :
    Calls Try.prog 54 #[.agg #[.int .u64 x.1, .int .i64 x.2], .agg #[.int .u64 y.1, .int .i64 y.2]] w fun e w' => e = .returned (.bool (aheadD x y)) ∧ Below w.heap.size w w' := by
  obtain ⟨xi, xd⟩ := x
  obtain ⟨yi, yd⟩ := y
  have hb0 : Below w.heap.size w w := Below.refl _ _
  have HBW : Hid (Below w.heap.size w ((w.alloc (.cells #[.int .u64 xi, .int .i64 xd] 95)).alloc (.cells #[.int .u64 yi, .int .i64 yd] 95))) := Lib.hid ((hb0.alloc (Nat.le_refl _) _).alloc (by simp) _)
  clear hb0
  by_cases h1 : yd < xd
  · have d1 : decide (yd < xd) = true := decide_eq_true h1
    have HR : Hid (aheadD (xi, xd) (yi, yd) = true) := Lib.hid (by unfold aheadD; simp [h1])
    go_enter Try.func54, Try.ntmps54
    go_wp2
    go_ret
    exact ⟨by rw [HR.out]; rfl, HBW.out⟩
  · have d1 : decide (yd < xd) = false := decide_eq_false h1
    by_cases h2 : xd = yd
    · have d2 : (xd == yd) = true := by simp [h2]
      rcases h3 : decide (xi < yi) with _ | _
      · have HR : Hid (aheadD (xi, xd) (yi, yd) = false) := Lib.hid (by unfold aheadD; simp only [d1, h3, Bool.and_false, Bool.or_false])
        clear h2
        go_enter Try.func54, Try.ntmps54
        go_wp2
        go_ret
        exact ⟨by rw [HR.out]; rfl, HBW.out⟩
      · have HR : Hid (aheadD (xi, xd) (yi, yd) = true) := Lib.hid (by unfold aheadD; simp only [d1, h3, h2]; simp)
        clear h2
        go_enter Try.func54, Try.ntmps54
        go_wp2
        go_ret
        exact ⟨by rw [HR.out]; rfl, HBW.out⟩
    · have d2 : (xd == yd) = false := by simp [h2]
      have HR : Hid (aheadD (xi, xd) (yi, yd) = false) := Lib.hid (by unfold aheadD; simp [h1, h2])
      clear h2
      go_enter Try.func54, Try.ntmps54
      go_wp2
      go_ret
      exact ⟨by rw [HR.out]; rfl, HBW.out⟩
end Go.Proofs.Ytiimdgdimjjboaa
