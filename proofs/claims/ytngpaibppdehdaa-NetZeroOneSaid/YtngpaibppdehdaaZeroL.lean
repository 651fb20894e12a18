/-
  Words of two kinds in order; a turned list: plain facts.
-/
import Derived.Test.YtngpaibppdehdaaSortL
namespace Go.Sg
open Go Go.RowKit
def cntB : List Bool → Nat
  | [] => 0
  | b :: l => cntB l + (if b then 1 else 0)
theorem cntB_le : ∀ l, cntB l ≤ l.length
  | [] => Nat.le_refl _
  | b :: l => by have := cntB_le l; cases b <;> simp [cntB] <;> omega
theorem cntB_append : ∀ a b, cntB (a ++ b) = cntB a + cntB b
  | [], b => by simp [cntB]
  | x :: a, b => by simp [cntB, cntB_append a b]; omega
theorem zo_perm : ∀ l : List Bool, (l.map b01).Perm (List.replicate (l.length - cntB l) 0 ++ List.replicate (cntB l) 1)
  | [] => .refl _
  | b :: l => by
    have ih := zo_perm l
    have hle := cntB_le l
    cases b with
    | false =>
      have e : (false :: l).length - cntB (false :: l) = (l.length - cntB l) + 1 := by simp [cntB]; omega
      rw [e, List.replicate_succ]
      exact .cons _ ih
    | true =>
      have e : (true :: l).length - cntB (true :: l) = l.length - cntB l := by simp [cntB]
      have e2 : cntB (true :: l) = cntB l + 1 := by simp [cntB]
      rw [e, e2, List.replicate_succ]
      exact (List.Perm.cons _ ih).trans List.perm_middle.symm
/-- what the row holds, k bits having been read -/
def zoF (bs : List Bool) (k j : Nat) : Int := if j < k then b01 (bs.getD j false) else 0
theorem zoF_list (bs : List Bool) (n k : Nat) (hk : k ≤ n) (hk2 : k ≤ bs.length) : (List.range n).map (zoF bs k) = (bs.take k).map b01 ++ List.replicate (n - k) 0 := by
  apply List.ext_getElem
  · simp; omega
  · intro i h1 h2
    have hi : i < n := by simpa using h1
    by_cases hik : i < k
    · rw [List.getElem_append_left (by simp; omega)]
      simp [zoF, hik, show i < bs.length by omega]
    · rw [List.getElem_append_right (by simp; omega)]
      simp [zoF, hik]
theorem zo_sorted (bs : List Bool) (n k : Nat) (hk : k ≤ n) (hk2 : k ≤ bs.length) : SortOf ((List.range n).map (zoF bs k)) (List.replicate (n - cntB (bs.take k)) 0 ++ List.replicate (cntB (bs.take k)) 1) := by
  have hc := cntB_le (bs.take k)
  rw [List.length_take] at hc
  refine ⟨?_, ?_⟩
  · rw [List.pairwise_append]
    refine ⟨List.pairwise_replicate.2 (.inr (by omega)), List.pairwise_replicate.2 (.inr (by omega)), fun a ha b hb => ?_⟩
    have := (List.mem_replicate.1 ha).2
    have := (List.mem_replicate.1 hb).2
    omega
  · rw [zoF_list bs n k hk hk2]
    have h1 := zo_perm (bs.take k)
    rw [List.length_take, Nat.min_eq_left hk2] at h1
    have h2 := h1.append_right (List.replicate (n - k) (0 : Int))
    refine .symm (h2.trans ?_)
    rw [List.append_assoc]
    refine ((List.perm_append_comm (l₁ := List.replicate (cntB (bs.take k)) (1 : Int)) (l₂ := List.replicate (n - k) 0)).append_left _).trans ?_
    rw [← List.append_assoc, List.replicate_append_replicate, show k - cntB (bs.take k) + (n - k) = n - cntB (bs.take k) by omega]
theorem zo_words (bs : List Bool) (n k : Nat) : ∀ x ∈ (List.range n).map (zoF bs k), Word x := by
  intro x hx
  obtain ⟨j, _, rfl⟩ := List.mem_map.1 hx
  unfold zoF
  split
  · exact b01_word _
  · exact zero_word
theorem zoF_step (bs : List Bool) (k j : Nat) (hk : k < bs.length) : zoF bs (k + 1) j = if j = k then b01 bs[k] else zoF bs k j := by
  unfold zoF
  by_cases e : j = k
  · subst e
    rw [if_pos (by omega), if_pos rfl]
    simp [hk]
  · rw [if_neg e]
    by_cases h : j < k
    · rw [if_pos h, if_pos (by omega)]
    · rw [if_neg h, if_neg (by omega)]
theorem cntB_take (bs : List Bool) (k : Nat) (hk : k < bs.length) : cntB (bs.take (k + 1)) = cntB (bs.take k) + (if bs[k] then 1 else 0) := by
  rw [List.take_succ_eq_append_getElem hk, cntB_append]
  simp [cntB]
/-- a list that is turned -/
theorem turn_perm (g : Nat → Int) (n c : Nat) (hc : c ≤ n) : ((List.range n).map (fun j => g ((j + n - c) % n))).Perm ((List.range n).map g) := by
  by_cases h0 : n = 0
  · subst h0; exact .refl _
  have e1 : (List.range n).map (fun j => g ((j + n - c) % n)) = ((List.range n).map g).drop (n - c) ++ ((List.range n).map g).take (n - c) := by
    apply List.ext_getElem
    · simp <;> omega
    · intro i h1 h2
      have hi : i < n := by simpa using h1
      by_cases hic : i < c
      · rw [List.getElem_append_left (by simp; omega)]
        simp only [List.getElem_map, List.getElem_range, List.getElem_drop]
        rw [Nat.mod_eq_of_lt (by omega), show i + n - c = n - c + i by omega]
      · rw [List.getElem_append_right (by simp; omega)]
        simp only [List.getElem_map, List.getElem_range, List.getElem_take, List.length_drop, List.length_map, List.length_range]
        rw [show i + n - c = (i - c) + n by omega, Nat.add_mod_right, Nat.mod_eq_of_lt (by omega), show i - (n - (n - c)) = i - c by omega]
  rw [e1]
  exact List.perm_append_comm.trans (by rw [List.take_append_drop])
end Go.Sg
