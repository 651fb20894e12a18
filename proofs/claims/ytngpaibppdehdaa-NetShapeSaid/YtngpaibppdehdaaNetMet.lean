/-
  How often a place is met in a network.
-/
import Derived.Test.YtngpaibppdehdaaNetL
namespace Go.Sg
open Go
def metF (f : Nat → Nat) (p : Pr) : Nat → Nat := fun q => f q + (if q = p.1 then 1 else 0) + (if q = p.2.1 then 1 else 0)
theorem met_stage {k j : Nat} (hj : 0 < j) (f : Nat → Nat) (m : Nat) : ∀ q, (stageP k j m).foldl metF f q = f q + (if q / j % 2 = 0 then (if q < m then 1 else 0) else (if q - j < m then 1 else 0)) := by
  induction m with
  | zero => intro q; simp [stageP]
  | succ m ih =>
    intro q
    show (stageP k j m ++ _).foldl metF f q = _
    rw [List.foldl_append]
    by_cases hm : m / j % 2 = 0
    · rw [if_pos hm]
      have hmj : ¬ (m + j) / j % 2 = 0 := by rw [Nat.add_div_right _ hj]; omega
      show (stageP k j m).foldl metF f q + (if q = m then 1 else 0) + (if q = m + j then 1 else 0) = _
      rw [ih q]
      by_cases q0 : q / j % 2 = 0
      · rw [if_pos q0, if_pos q0, if_neg (show ¬ q = m + j from fun e => hmj (e ▸ q0))]
        by_cases q1 : q = m
        · rw [if_pos q1, if_neg (by omega), if_pos (by omega)]
        · rw [if_neg q1]
          by_cases q2 : q < m
          · rw [if_pos q2, if_pos (by omega)]
          · rw [if_neg q2, if_neg (by omega)]
      · rw [if_neg q0, if_neg q0, if_neg (show ¬ q = m from fun e => q0 (e ▸ hm))]
        have hq : j ≤ q := by
          apply Nat.le_of_not_lt; intro hlt
          rw [Nat.div_eq_of_lt hlt] at q0; exact q0 rfl
        by_cases q1 : q = m + j
        · rw [if_pos q1, if_neg (by omega), if_pos (by omega)]
        · rw [if_neg q1]
          by_cases q2 : q - j < m
          · rw [if_pos q2, if_pos (by omega)]
          · rw [if_neg q2, if_neg (by omega)]
    · rw [if_neg hm]
      show (stageP k j m).foldl metF f q = _
      rw [ih q]
      by_cases q0 : q / j % 2 = 0
      · rw [if_pos q0, if_pos q0]
        have q1 : q ≠ m := fun e => hm (e ▸ q0)
        by_cases q2 : q < m
        · rw [if_pos q2, if_pos (by omega)]
        · rw [if_neg q2, if_neg (by omega)]
      · rw [if_neg q0, if_neg q0]
        have hq : j ≤ q := by
          apply Nat.le_of_not_lt; intro hlt
          rw [Nat.div_eq_of_lt hlt] at q0; exact q0 rfl
        have q1 : q - j ≠ m := fun e => by
          apply q0
          exfalso
          have : q = m + j := by omega
          rw [this, Nat.add_div_right _ hj] at q0
          omega
        by_cases q2 : q - j < m
        · rw [if_pos q2, if_pos (by omega)]
        · rw [if_neg q2, if_neg (by omega)]
theorem met_stage_n {k r s : Nat} (f : Nat → Nat) (q : Nat) (hq : q < 2 ^ r) : (stageP k (2 ^ s) (2 ^ r)).foldl metF f q = f q + 1 := by
  rw [met_stage (Nat.two_pow_pos s)]
  by_cases h : q / 2 ^ s % 2 = 0
  · rw [if_pos h, if_pos hq]
  · rw [if_neg h, if_pos (Nat.lt_of_le_of_lt (Nat.sub_le _ _) hq)]
theorem met_merge {k r : Nat} (q : Nat) (hq : q < 2 ^ r) (s : Nat) : ∀ f : Nat → Nat, (mergeP (2 ^ r) k s).foldl metF f q = f q + s := by
  induction s with
  | zero => exact fun f => rfl
  | succ s ih =>
    intro f
    show (stageP k (2 ^ s) (2 ^ r) ++ mergeP (2 ^ r) k s).foldl metF f q = _
    rw [List.foldl_append, ih, met_stage_n f q hq]
    omega
theorem met_net {r : Nat} (q : Nat) (hq : q < 2 ^ r) (s : Nat) : ∀ f : Nat → Nat, 2 * (netP (2 ^ r) s).foldl metF f q = 2 * f q + s * (s + 1) := by
  induction s with
  | zero => exact fun f => rfl
  | succ s ih =>
    intro f
    show 2 * (netP (2 ^ r) s ++ mergeP (2 ^ r) (2 ^ (s + 1)) (s + 1)).foldl metF f q = _
    rw [List.foldl_append, met_merge q hq, Nat.mul_add 2, ih]
    have : (s + 1) * (s + 1 + 1) = s * (s + 1) + 2 * (s + 1) := by rw [Nat.mul_comm (s + 1) (s + 1 + 1), ← Nat.add_mul]
    omega
end Go.Sg
