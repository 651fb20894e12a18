/-
  Joined texts: SortL, NetNum.
-/
import Derived.Test.YthchfdobdghdoaaGreatHab
import Derived.Test.YthchfdobdghdoaaGreatHac
set_option linter.unusedVariables false
set_option linter.unusedSimpArgs false
set_option linter.unusedSectionVars false
set_option linter.unnecessarySimpa false
section

/-
  What a network makes of words, and words in order: plain facts.
-/
namespace Go.Sg
open Go Go.RowKit
/-- ys are the words xs in order -/
def SortOf (xs ys : List Int) : Prop := ys.Pairwise (fun a b => a ≤ b) ∧ ys.Perm xs
theorem SortOf.perm {xs ys zs : List Int} (h : SortOf xs ys) (hp : xs.Perm zs) : SortOf zs ys := ⟨h.1, h.2.trans hp⟩
theorem SortOf.length {xs ys : List Int} (h : SortOf xs ys) : ys.length = xs.length := h.2.length_eq
def netOf (t : Nat) (xs : List Int) : List Int := cxs Int.toNat xs (netP (2 ^ t) t)
theorem sw1_mk {a b : Int} (c : Bool) (ha : Word a) (hb : Word b) : sw1 (mk c) a b = if c then b else a := by
  cases c
  · simp only [sw1, mk, Bool.false_eq_true, if_false]; rw [an_zero, xr_zero ha]
  · simp only [sw1, mk, if_true]; rw [an_max (xr_word ha hb), xr_comm' a b, xr_self_left hb ha]
end Go.Sg
end
section

/-
  Bits of whole numbers that are powers of two: plain facts.
-/
namespace Go.Sg
open Go Go.RowKit
theorem i64_bits (a b : Nat) (ha : a < 9223372036854775808) (hb : b < 9223372036854775808) : bits .and .i64 (a : Int) (b : Int) = ((a &&& b : Nat) : Int) ∧ bits .or .i64 (a : Int) (b : Int) = ((a ||| b : Nat) : Int) := by
  have h1 : (BitVec.ofInt 64 (a : Int)).toNat = a := by
    rw [BitVec.ofInt_natCast, BitVec.toNat_ofNat]; exact Nat.mod_eq_of_lt (by omega)
  have h2 : (BitVec.ofInt 64 (b : Int)).toNat = b := by
    rw [BitVec.ofInt_natCast, BitVec.toNat_ofNat]; exact Nat.mod_eq_of_lt (by omega)
  have hx : a &&& b < 2 ^ 63 := Nat.and_lt_two_pow _ (by omega)
  have hy : a ||| b < 2 ^ 63 := Nat.or_lt_two_pow (by omega) (by omega)
  constructor
  · show IntKind.i64.wrap ((BitVec.ofInt 64 (a : Int) &&& BitVec.ofInt 64 (b : Int)).toNat : Int) = _
    rw [BitVec.toNat_and, h1, h2, IntKind.wrap_i64]
    omega
  · show IntKind.i64.wrap ((BitVec.ofInt 64 (a : Int) ||| BitVec.ofInt 64 (b : Int)).toNat : Int) = _
    rw [BitVec.toNat_or, h1, h2, IntKind.wrap_i64]
    omega
theorem and_pow_eq (a s : Nat) : a &&& 2 ^ s = if a / 2 ^ s % 2 = 0 then 0 else 2 ^ s := by
  have hb : a.testBit s = decide (a / 2 ^ s % 2 = 1) := Nat.testBit_eq_decide_div_mod_eq
  apply Nat.eq_of_testBit_eq
  intro i
  rw [Nat.testBit_and, Nat.testBit_two_pow]
  by_cases h : a / 2 ^ s % 2 = 0
  · rw [if_pos h, Nat.zero_testBit]
    by_cases e : s = i
    · subst e; rw [hb, decide_eq_false (by omega)]; rfl
    · simp [e]
  · rw [if_neg h, Nat.testBit_two_pow]
    by_cases e : s = i
    · subst e; rw [hb, decide_eq_true (by omega)]; rfl
    · simp [e]
theorem or_pow_eq (a s : Nat) (h : a / 2 ^ s % 2 = 0) : a ||| 2 ^ s = a + 2 ^ s := by
  have h0 := Nat.two_pow_pos s
  have hd := Nat.div_add_mod a (2 ^ s)
  have hm := Nat.mod_lt a h0
  obtain ⟨q, hq⟩ : ∃ q, a / 2 ^ s = 2 * q := ⟨a / 2 ^ s / 2, by omega⟩
  rw [hq] at hd
  generalize a % 2 ^ s = r at *
  have hp : 2 ^ (s + 1) = 2 ^ s * 2 := Nat.pow_succ ..
  have e1 : 2 ^ (s + 1) * q + r = 2 ^ (s + 1) * q ||| r := Nat.two_pow_add_eq_or_of_lt (by omega) q
  have e2 : 2 ^ (s + 1) * q + (2 ^ s * 1 + r) = 2 ^ (s + 1) * q ||| (2 ^ s * 1 + r) := Nat.two_pow_add_eq_or_of_lt (by omega) q
  have e3 : 2 ^ s * 1 + r = 2 ^ s * 1 ||| r := Nat.two_pow_add_eq_or_of_lt (by omega) 1
  have ha : a = 2 ^ (s + 1) * q + r := by rw [hp, Nat.mul_assoc]; omega
  rw [ha, show 2 ^ (s + 1) * q + r + 2 ^ s = 2 ^ (s + 1) * q + (2 ^ s * 1 + r) by omega, e2, e3, e1, Nat.or_assoc, Nat.mul_one, Nat.or_comm r]
/-- what the program asks of a place, and makes of it -/
theorem and_test (a s : Nat) (ha : a < 4096) (hs : s ≤ 12) : (bits .and .i64 (a : Int) ((2 ^ s : Nat) : Int) == 0) = decide (a / 2 ^ s % 2 = 0) := by
  have hp : 2 ^ s ≤ 2 ^ 12 := Nat.pow_le_pow_right (by omega) hs
  rw [(i64_bits a (2 ^ s) (by omega) (by omega)).1, and_pow_eq]
  have h0 := Nat.two_pow_pos s
  by_cases h : a / 2 ^ s % 2 = 0
  · rw [if_pos h, decide_eq_true h]; rfl
  · rw [if_neg h, decide_eq_false h]
    simp only [beq_eq_false_iff_ne, ne_eq]
    omega
theorem or_test (a s : Nat) (ha : a < 4096) (hs : s ≤ 12) (h : a / 2 ^ s % 2 = 0) : bits .or .i64 (a : Int) ((2 ^ s : Nat) : Int) = ((a + 2 ^ s : Nat) : Int) := by
  have hp : 2 ^ s ≤ 2 ^ 12 := Nat.pow_le_pow_right (by omega) hs
  rw [(i64_bits a (2 ^ s) (by omega) (by omega)).2, or_pow_eq a s h]

theorem stageP_pre (k j : Nat) {m n : Nat} (h : m ≤ n) : stageP k j m <+: stageP k j n := by
  induction n with
  | zero => obtain rfl : m = 0 := by omega
            exact List.prefix_refl _
  | succ n ih =>
    rcases Nat.lt_or_ge n m with hm | hm
    · obtain rfl : m = n + 1 := by omega
      exact List.prefix_refl _
    · exact (ih hm).trans (List.prefix_append _ _)
theorem netP_pre (n : Nat) {r t : Nat} (h : r ≤ t) : netP n r <+: netP n t := by
  induction t with
  | zero => obtain rfl : r = 0 := by omega
            exact List.prefix_refl _
  | succ t ih =>
    rcases Nat.lt_or_ge t r with hm | hm
    · obtain rfl : r = t + 1 := by omega
      exact List.prefix_refl _
    · exact (ih hm).trans (List.prefix_append _ _)
theorem stageP_length (k j : Nat) : ∀ m, (stageP k j m).length ≤ m
  | 0 => by simp [stageP]
  | m + 1 => by
    have := stageP_length k j m
    simp only [stageP, List.length_append]
    split <;> simp <;> omega
theorem mergeP_length (n k : Nat) : ∀ s, (mergeP n k s).length ≤ n * s
  | 0 => by simp [mergeP]
  | s + 1 => by
    have := mergeP_length n k s
    have h2 := stageP_length k (2 ^ s) n
    simp only [mergeP, List.length_append]
    rw [Nat.mul_succ]
    omega
theorem netP_length (n : Nat) : ∀ r, (netP n r).length ≤ n * (r * (r + 1))
  | 0 => by simp [netP]
  | r + 1 => by
    have h1 := netP_length n r
    have h2 := mergeP_length n (2 ^ (r + 1)) (r + 1)
    simp only [netP, List.length_append]
    have : n * ((r + 1) * (r + 1 + 1)) = n * (r * (r + 1)) + n * (r + 1) + n * (r + 1) := by
      rw [← Nat.mul_add, ← Nat.mul_add]
      congr 1
      rw [Nat.add_mul, Nat.mul_add]
      omega
    have : n * (r + 1) ≤ n * (r + 1) := Nat.le_refl _
    omega
end Go.Sg
end
