/-
  ScanTwice: plain facts.
-/
import Derived.Test.YtngpaibppdehdaaPairF
namespace Go.Sg
open Go Go.RowKit
theorem cellL_key {b : Int} (hb : Word b) : keyB (cellL b) 0 b = true := by
  unfold keyB
  have h : (cellL b)[(0 : Int).toNat]? = some b := by
    rw [List.getElem?_eq_getElem (by rw [cellL_len]; decide), cellL_get]
    unfold cellAt
    obtain ⟨h0, h1⟩ := hb
    simp
    omega
  rw [h]
  simp
theorem keyAt_word {M : Mm} {r : Int} {n : Int} {i : Nat} {x : Int} (hx : (M.read r (i : Int))[0]? = some x) : keyAt M r 0 n i = (x == n) := by
  unfold keyAt keyB
  rw [show (0 : Int).toNat = 0 from rfl, hx]
  by_cases h : x = n <;> simp [h]
/-- what is found first -/
theorem found_first {M : Mm} {r n : Int} {k N : Nat} (hk : k < N) (h : keyAt M r 0 n k = true) :
    foundK M r 0 n N = true ∧ placeK M r 0 n N ≤ k ∧ (placeK M r 0 n N = k ↔ foundK M r 0 n k = false) ∧ keyAt M r 0 n (placeK M r 0 n N) = true ∧ outK M r 0 n N = M.read r (placeK M r 0 n N : Int) := by
  unfold foundK placeK outK
  cases hf : firstI (keyAt M r 0 n) N with
  | none => rw [firstI_none hf k hk] at h; cases h
  | some t =>
    obtain ⟨h1, h2, h3⟩ := firstI_some hf
    have htk : t ≤ k := by
      rcases Nat.lt_or_ge k t with h4 | h4
      · rw [h3 k h4] at h; cases h
      · exact h4
    refine ⟨rfl, htk, ?_, h2, rfl⟩
    simp only [Option.getD_some]
    constructor
    · rintro rfl
      cases hg : firstI (keyAt M r 0 n) t with
      | none => rfl
      | some s => obtain ⟨g1, g2, _⟩ := firstI_some hg; rw [h3 s g1] at g2; cases g2
    · intro hg
      rcases Nat.lt_or_ge t k with h4 | h4
      · have : firstI (keyAt M r 0 n) k = some t := firstI_of h4 h2 h3
        rw [this] at hg; cases hg
      · omega
theorem foundK_succ (M : Mm) (r key n : Int) (k : Nat) : foundK M r key n (k + 1) = (foundK M r key n k || keyAt M r key n k) := by
  rw [(find_step M r key n k).2.2]
  cases foundK M r key n k <;> simp
end Go.Sg
