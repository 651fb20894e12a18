/-
  How many pairs a network has.
-/
import Derived.Test.YtngpaibppdehdaaNet
namespace Go.Sg
open Go
def lenS (j : Nat) : Nat → Nat
  | 0 => 0
  | m + 1 => lenS j m + (if m / j % 2 = 0 then 1 else 0)
def lenM (n : Nat) : Nat → Nat
  | 0 => 0
  | s + 1 => lenS (2 ^ s) n + lenM n s
def lenT (n : Nat) : Nat → Nat
  | 0 => 0
  | r + 1 => lenT n r + lenM n (r + 1)
theorem stageP_len (k j : Nat) : ∀ m, (stageP k j m).length = lenS j m
  | 0 => rfl
  | m + 1 => by
    simp only [stageP, lenS, List.length_append, stageP_len k j m]
    split <;> rfl
theorem mergeP_len (n k : Nat) : ∀ s, (mergeP n k s).length = lenM n s
  | 0 => rfl
  | s + 1 => by simp only [mergeP, lenM, List.length_append, mergeP_len n k s, stageP_len]
theorem netP_len (n : Nat) : ∀ r, (netP n r).length = lenT n r
  | 0 => rfl
  | r + 1 => by simp only [netP, lenT, List.length_append, mergeP_len, netP_len n r]
/-- a stage's pairs are half as many as the places -/
theorem lenS_block (j : Nat) (hj : 0 < j) (c : Nat) : ∀ x, x ≤ 2 * j → lenS j (2 * j * c + x) = lenS j (2 * j * c) + min x j
  | 0, _ => by simp
  | x + 1, h => by
    have ih := lenS_block j hj c x (by omega)
    have e : (2 * j * c + x) / j = 2 * c + x / j := by
      rw [show 2 * j * c + x = j * (2 * c) + x by rw [Nat.mul_comm 2 j, Nat.mul_assoc], Nat.mul_add_div hj]
    show lenS j (2 * j * c + x) + (if (2 * j * c + x) / j % 2 = 0 then 1 else 0) = _
    rw [ih, e]
    by_cases hx : x < j
    · rw [Nat.div_eq_of_lt hx, if_pos (by omega)]; omega
    · have : x / j = 1 := by
        apply Nat.div_eq_of_lt_le <;> omega
      rw [this, if_neg (by omega)]; omega
theorem lenS_full (j : Nat) (hj : 0 < j) : ∀ c, lenS j (2 * j * c) = j * c
  | 0 => by simp [lenS]
  | c + 1 => by
    have h := lenS_block j hj c (2 * j) (Nat.le_refl _)
    rw [show 2 * j * (c + 1) = 2 * j * c + 2 * j from Nat.mul_succ .., h, lenS_full j hj c, Nat.mul_succ]
    omega
theorem lenS_pow {t s : Nat} (h : s < t) : lenS (2 ^ s) (2 ^ t) = 2 ^ (t - 1) := by
  obtain ⟨d, rfl⟩ := Nat.le.dest h
  have e : 2 ^ (s.succ + d) = 2 * 2 ^ s * 2 ^ d := by rw [Nat.succ_eq_add_one, Nat.pow_add, Nat.pow_succ, Nat.mul_comm (2 ^ s) 2]
  rw [e, lenS_full _ (Nat.two_pow_pos s), ← Nat.pow_add]
  congr 1
  omega
theorem lenM_pow {t : Nat} : ∀ s, s ≤ t → lenM (2 ^ t) s = 2 ^ (t - 1) * s
  | 0, _ => rfl
  | s + 1, h => by
    show lenS (2 ^ s) (2 ^ t) + lenM (2 ^ t) s = _
    rw [lenS_pow (by omega), lenM_pow s (by omega), Nat.mul_succ]
    omega
theorem lenT_pow {t : Nat} : ∀ r, r ≤ t → 2 * lenT (2 ^ t) r = 2 ^ (t - 1) * (r * (r + 1))
  | 0, _ => rfl
  | r + 1, h => by
    have ih := lenT_pow (t := t) r (by omega)
    show 2 * (lenT (2 ^ t) r + lenM (2 ^ t) (r + 1)) = _
    rw [lenM_pow (r + 1) h, Nat.mul_add 2, ih]
    have : (r + 1) * (r + 1 + 1) = r * (r + 1) + 2 * (r + 1) := by rw [Nat.mul_comm (r + 1) (r + 1 + 1), ← Nat.add_mul]
    rw [this]
    generalize 2 ^ (t - 1) = q
    rw [Nat.mul_add q (r * (r + 1)), Nat.mul_left_comm q 2]
end Go.Sg
namespace Go.Proofs.Ytngpaibppdehdaa
open Go Go.Sg
theorem netP_cnt (t : Nat) (ht : t ≤ 10) : (netP (2 ^ t) t).length = cntI t := by
  rw [netP_len]
  have h := lenT_pow (t := t) t (Nat.le_refl _)
  have h2 : ∀ t : Fin 11, 2 * cntI t.val = 2 ^ (t.val - 1) * (t.val * (t.val + 1)) := by decide +kernel
  have h3 := h2 ⟨t, by omega⟩
  simp only at h3
  omega
end Go.Proofs.Ytngpaibppdehdaa
