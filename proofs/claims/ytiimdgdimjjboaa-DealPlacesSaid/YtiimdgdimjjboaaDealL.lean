/-
  Who goes where: plain facts of items, and of the order in which they are dealt.
-/
import Derived.Test.YtiimdgdimjjboaaStabL
namespace Go.Sg
/-- An item of deal: who it is, how deep it may lie. -/
abbrev Di := Int × Int
/-- is an item dealt ahead of another one? -/
def ltD (x y : Di) : Bool := if x.2 < 0 ∧ y.2 < 0 then false else if x.2 ≠ y.2 then decide (y.2 < x.2) else decide (x.1 < y.1)
def getD' (l : List Di) (i : Int) : Di := l.getD i.toNat (0, -1)
/-- .. by their places -/
def ltO (l : List Di) (i j : Int) : Bool := ltD (getD' l i) (getD' l j)
def leO (l : List Di) (i j : Int) : Prop := ltO l i j = true ∨ (ltO l j i = false ∧ i ≤ j)
theorem ltD_iff {x y : Di} : ltD x y = true ↔ ¬ (x.2 < 0 ∧ y.2 < 0) ∧ (y.2 < x.2 ∨ (x.2 = y.2 ∧ x.1 < y.1)) := by
  unfold ltD
  split
  · simp [*]
  · split
    · simp only [decide_eq_true_eq]; omega
    · simp only [decide_eq_true_eq]; omega
theorem ltD_false {x y : Di} : ltD x y = false ↔ (x.2 < 0 ∧ y.2 < 0) ∨ (x.2 < y.2 ∨ (x.2 = y.2 ∧ y.1 ≤ x.1)) := by
  rw [← Bool.not_eq_true, ltD_iff]
  omega
theorem leO_iff {l : List Di} {i j : Int} : leO l i j ↔ ((getD' l j).2 < 0 ∧ 0 ≤ (getD' l i).2) ∨ ((getD' l i).2 < 0 ∧ (getD' l j).2 < 0 ∧ i ≤ j) ∨ (0 ≤ (getD' l i).2 ∧ 0 ≤ (getD' l j).2 ∧ ((getD' l j).2 < (getD' l i).2 ∨ ((getD' l i).2 = (getD' l j).2 ∧ ((getD' l i).1 < (getD' l j).1 ∨ ((getD' l i).1 = (getD' l j).1 ∧ i ≤ j))))) := by
  unfold leO ltO
  rw [ltD_iff, ltD_false]
  generalize getD' l i = x
  generalize getD' l j = y
  omega
theorem leO_trans (l : List Di) (i j k : Int) (h : leO l i j) (h' : leO l j k) : leO l i k := by
  rw [leO_iff] at *
  generalize getD' l i = x at *
  generalize getD' l j = y at *
  generalize getD' l k = z at *
  omega
theorem leO_total (l : List Di) (i j : Int) : leO l i j ∨ leO l j i := by
  rw [leO_iff, leO_iff]
  generalize getD' l i = x
  generalize getD' l j = y
  omega
theorem leO_anti {l : List Di} {i j : Int} (h : leO l i j) (h' : leO l j i) : i = j := by
  rw [leO_iff] at *
  generalize getD' l i = x at *
  generalize getD' l j = y at *
  omega
/-- the places as they stand at first -/
def idx (n : Nat) : List Int := (List.range n).map (fun i : Nat => (i : Int))
theorem idx_len (n : Nat) : (idx n).length = n := by simp [idx]
theorem idx_mem {n : Nat} {i : Int} : i ∈ idx n ↔ 0 ≤ i ∧ i < n := by
  unfold idx
  rw [List.mem_map]
  constructor
  · rintro ⟨k, hk, rfl⟩
    have := List.mem_range.1 hk
    omega
  · intro h
    exact ⟨i.toNat, List.mem_range.2 (by omega), by omega⟩
theorem idx_nodup (n : Nat) : (idx n).Nodup := List.Pairwise.map (R := (· ≠ ·)) _ (fun a b h => fun e => h (by omega)) (List.nodup_range (n := n))
theorem idx_up (n : Nat) : (idx n).Pairwise (· < ·) := List.Pairwise.map (R := (· < ·)) _ (fun a b h => by omega) (List.pairwise_lt_range (n := n))
theorem fit_idx (l : List Di) (n : Nat) : (idx n).Pairwise (Fit (ltO l) (leO l)) := (idx_up n).imp fun {i j} h => by
  constructor
  · intro e; exact .inl e
  · intro e; exact .inr ⟨e, by omega⟩
/-- the order in which items are dealt -/
def ordD (l : List Di) : List Int := (idx l.length).mergeSort (fun i j => !ltO l j i && (ltO l i j || decide (i ≤ j)))
theorem leO_bool (l : List Di) (i j : Int) : (!ltO l j i && (ltO l i j || decide (i ≤ j))) = true ↔ leO l i j := by
  rw [leO_iff]
  rw [Bool.and_eq_true, Bool.or_eq_true, Bool.not_eq_true', decide_eq_true_eq]
  unfold ltO
  rw [ltD_iff, ltD_false]
  generalize getD' l i = x
  generalize getD' l j = y
  omega
theorem ordD_perm (l : List Di) : (ordD l).Perm (idx l.length) := List.mergeSort_perm _ _
theorem ordD_sorted (l : List Di) : (ordD l).Pairwise (leO l) := by
  have h := List.pairwise_mergeSort (le := fun i j => !ltO l j i && (ltO l i j || decide (i ≤ j))) (fun a b c h1 h2 => (leO_bool l a c).2 (leO_trans l a b c ((leO_bool l a b).1 h1) ((leO_bool l b c).1 h2))) (fun a b => by
    rcases leO_total l a b with h | h
    · rw [(leO_bool l a b).2 h]; rfl
    · rw [(leO_bool l b a).2 h]; simp) (idx l.length)
  exact h.imp fun {a b} h => (leO_bool l a b).1 h
theorem ordD_len (l : List Di) : (ordD l).length = l.length := by rw [(ordD_perm l).length_eq, idx_len]
/-- whoever puts them in order so -/
theorem ordD_of {l : List Di} {T : List Int} (hp : T.Perm (idx l.length)) (hs : T.Pairwise (leO l)) : T = ordD l :=
  List.Perm.eq_of_pairwise (fun a b _ _ h1 h2 => leO_anti h1 h2) hs (ordD_sorted l) (hp.trans (ordD_perm l).symm)
end Go.Sg
