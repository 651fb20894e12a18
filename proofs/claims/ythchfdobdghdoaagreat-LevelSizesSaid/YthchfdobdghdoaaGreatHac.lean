/-
  Joined texts: Pure1, PurePath.
-/
import Derived.WalkKit
import Derived.Lib.BitFns
set_option linter.unusedVariables false
set_option linter.unusedSimpArgs false
set_option linter.unusedSectionVars false
set_option linter.unnecessarySimpa false
section

/-
  Plain facts on 64-bit words: masks, picks, swaps; no program in sight.
-/
namespace Go.Sg
open Go Go.RowKit

theorem ret_i64 {a b : Int} (h : a = b) : Ending.returned (.int .i64 a) = .returned (.int .i64 b) := by rw [h]

/-- A word: a number of the kind uint64. -/
def Word (a : Int) : Prop := 0 ≤ a ∧ a < 18446744073709551616

/-- A number of the kind int. -/
def Num (a : Int) : Prop := -9223372036854775808 ≤ a ∧ a < 9223372036854775808
theorem i64_of {a : Int} (h : (Lit.int .i64 a).wf = true) : Num a := by
  simp [Lit.wf, IntKind.min, IntKind.max, IntKind.signed, IntKind.bits] at h
  exact ⟨by omega, by omega⟩

/-- All bits, or none. -/
def mk (b : Bool) : Int := if b then 18446744073709551615 else 0
theorem mk_word (b : Bool) : Word (mk b) := by cases b <;> simp [mk, Word]

/-- The masks: is a word nothing, are two one, is the first less? -/
def zm (a : Int) : Int := mk (decide (a = 0))
def em (a b : Int) : Int := mk (decide (a = b))
def lm (a b : Int) : Int := mk (decide (a < b))
/-- 'spread', as it is. -/
def sm (a : Int) : Int := mk (decide (a % 2 = 1))
def b01 (b : Bool) : Int := if b then 1 else 0
theorem b01_word (b : Bool) : Word (b01 b) := by cases b <;> simp [b01, Word]
theorem sm_b01 (b : Bool) : sm (b01 b) = mk b := by cases b <;> simp [b01, sm]

/-- The three operations on bits, on numbers that are words. -/
def xr (a b : Int) : Int := ((a.toNat ^^^ b.toNat : Nat) : Int)
def an (a b : Int) : Int := ((a.toNat &&& b.toNat : Nat) : Int)
def rr (a b : Int) : Int := ((a.toNat ||| b.toNat : Nat) : Int)

theorem nat_word {a : Int} (h : Word a) : ∃ n : Nat, a = n ∧ n < 18446744073709551616 := by
  obtain ⟨h0, h1⟩ := h
  exact ⟨a.toNat, by omega, by omega⟩

theorem xr_word {a b : Int} (ha : Word a) (hb : Word b) : Word (xr a b) := by
  obtain ⟨n, rfl, hn⟩ := nat_word ha
  obtain ⟨m, rfl, hm⟩ := nat_word hb
  have := Nat.xor_lt_two_pow (n := 64) (x := n) (y := m) (by omega) (by omega)
  simp only [xr, Word, Int.toNat_natCast]
  omega
theorem an_word {a b : Int} (_ha : Word a) (hb : Word b) : Word (an a b) := by
  obtain ⟨m, rfl, hm⟩ := nat_word hb
  have := Nat.and_lt_two_pow (n := 64) a.toNat (y := m) (by omega)
  simp only [an, Word, Int.toNat_natCast]
  omega
theorem bits_xr {a b : Int} (ha : Word a) (hb : Word b) : bits .xor .u64 a b = xr a b := u64_xor a b ha.1 ha.2 hb.1 hb.2
theorem bits_an {a b : Int} (ha : Word a) (hb : Word b) : bits .and .u64 a b = an a b := u64_and a b ha.1 ha.2 hb.1 hb.2
theorem one_word : Word 1 := by simp [Word]
theorem an_one {a : Int} (ha : Word a) : an a 1 = a % 2 := by
  obtain ⟨n, rfl, hn⟩ := nat_word ha
  simp only [an, Int.toNat_natCast, Int.toNat_one, Nat.and_one_is_mod]
  omega

/-- 'spread'. -/
theorem spread_eq {a : Int} (ha : Word a) : IntKind.u64.wrap (-bits .and .u64 a 1) = sm a := by
  unfold sm
  rw [bits_an ha one_word, an_one ha, IntKind.wrap_u64]
  have : a % 2 = 0 ∨ a % 2 = 1 := by omega
  rcases this with h | h <;> simp [h, mk]

theorem xr_comm' (a b : Int) : xr a b = xr b a := by simp only [xr, Nat.xor_comm]
/-- 'Pick'. -/
def pk (m a b : Int) : Int := xr b (an m (xr a b))
theorem xr_self_left {a b : Int} (ha : Word a) (hb : Word b) : xr b (xr a b) = a := by
  obtain ⟨n, rfl, hn⟩ := nat_word ha
  obtain ⟨m, rfl, hm⟩ := nat_word hb
  simp only [xr, Int.toNat_natCast]
  rw [Nat.xor_comm n m, ← Nat.xor_assoc, Nat.xor_self, Nat.zero_xor]
theorem an_max {a : Int} (ha : Word a) : an 18446744073709551615 a = a := by
  obtain ⟨n, rfl, hn⟩ := nat_word ha
  have h : n &&& (2 ^ 64 - 1) = n % 2 ^ 64 := Nat.and_two_pow_sub_one_eq_mod n 64
  rw [Nat.and_comm, Nat.mod_eq_of_lt (by omega)] at h
  have g : ((18446744073709551615 : Int).toNat &&& n) = n := by rw [Nat.and_comm]; exact (Nat.and_comm _ _).trans h
  simp only [an, Int.toNat_natCast]
  rw [g]
theorem an_zero {a : Int} : an 0 a = 0 := by simp [an]
theorem xr_zero {a : Int} (ha : Word a) : xr a 0 = a := by
  obtain ⟨n, rfl, hn⟩ := nat_word ha
  simp [xr]
theorem pk_mk {a b : Int} (c : Bool) (ha : Word a) (hb : Word b) : pk (mk c) a b = if c then a else b := by
  cases c
  · simp only [pk, mk, Bool.false_eq_true, if_false]; rw [an_zero, xr_zero hb]
  · simp only [pk, mk, if_true]; rw [an_max (xr_word ha hb), xr_self_left ha hb]

/-- 'Swap''s first word. -/
def sw1 (m a b : Int) : Int := xr a (an m (xr a b))
/-- How many bits a word has; how often a number can be halved. -/
def lenI (a : Int) : Int := (Lib.bitLen a.toNat : Int)
def logI (a : Int) : Int := max (lenI a - 1) 0
/-- The next power of two. -/
def roundI (n : Int) : Int := if n < 1 then 1 else 2 ^ (min (lenI (n - 1)) 62).toNat

theorem bitLenAux_le : ∀ (f x : Nat), Lib.bitLenAux f x ≤ f
  | 0, _ => by simp [Lib.bitLenAux]
  | f + 1, x => by
    have := bitLenAux_le f (x / 2)
    simp only [Lib.bitLenAux]
    split <;> omega
theorem lenI_bd (a : Int) : 0 ≤ lenI a ∧ lenI a ≤ 64 := by
  have := bitLenAux_le 64 a.toNat
  unfold lenI Lib.bitLen
  omega
theorem pow_le_62 (k : Nat) (h : k ≤ 62) : (2 : Int) ^ k ≤ 4611686018427387904 ∧ 0 < (2 : Int) ^ k := by
  have h1 : (2 : Nat) ^ k ≤ 2 ^ 62 := Nat.pow_le_pow_right (by decide) h
  have h2 : 0 < (2 : Nat) ^ k := Nat.two_pow_pos k
  have e : ((2 : Int) ^ k) = ((2 ^ k : Nat) : Int) := by simp
  rw [e]
  omega
theorem wrap64_pow (k : Nat) (h : k ≤ 62) : wrap64 (2 ^ k) = 2 ^ k := by
  have := pow_le_62 k h
  unfold wrap64
  omega
theorem roundI_high {n : Int} (h : 1 ≤ n) : wrap64 (2 ^ (min (lenI (n - 1)) 62).toNat) = roundI n := by
  have hb := lenI_bd (n - 1)
  rw [wrap64_pow _ (by omega), roundI, if_neg (by omega)]

/-! ### Between two powers -/
theorem bitLen_between (k x : Nat) (h0 : 2 ^ k ≤ x) (h1 : x < 2 ^ (k + 1)) (hx : x < 2 ^ 64) : Lib.bitLen x = k + 1 := by
  rw [Lib.bitLen_shift k x h0 hx]
  have hq : x / 2 ^ k = 1 := by
    have hp : 0 < 2 ^ k := Nat.two_pow_pos k
    have a1 : 1 ≤ x / 2 ^ k := (Nat.le_div_iff_mul_le hp).2 (by omega)
    have a2 : x / 2 ^ k < 2 := (Nat.div_lt_iff_lt_mul hp).2 (by rw [Nat.pow_succ] at h1; omega)
    omega
  rw [hq]
  have : Lib.bitLen 1 = 1 := by decide
  rw [this]

theorem exists_between : ∀ (n x : Nat), x ≠ 0 → x < 2 ^ n → ∃ k, k < n ∧ 2 ^ k ≤ x ∧ x < 2 ^ (k + 1)
  | 0, x, h, hx => by simp at hx; omega
  | n + 1, x, h, hx => by
    by_cases hc : 2 ^ n ≤ x
    · exact ⟨n, by omega, hc, hx⟩
    · obtain ⟨k, hk, h0, h1⟩ := exists_between n x h (by omega)
      exact ⟨k, by omega, h0, h1⟩
theorem lenI_word {a : Int} (ha : Word a) (h : a ≠ 0) : ∃ k : Nat, k < 64 ∧ lenI a = k + 1 ∧ 2 ^ k ≤ a.toNat ∧ a.toNat < 2 ^ (k + 1) := by
  obtain ⟨n, rfl, hn⟩ := nat_word ha
  obtain ⟨k, hk, h0, h1⟩ := exists_between 64 n (by omega) (by omega)
  refine ⟨k, hk, ?_, by simpa using h0, by simpa using h1⟩
  unfold lenI
  rw [Int.toNat_natCast, bitLen_between k n h0 h1 (by omega)]
  omega
theorem logI_of {a : Int} (ha : Word a) (k : Nat) (h0 : 2 ^ k ≤ a.toNat) (h1 : a.toNat < 2 ^ (k + 1)) : logI a = k := by
  obtain ⟨n, rfl, hn⟩ := nat_word ha
  simp only [Int.toNat_natCast] at h0 h1
  unfold logI lenI
  rw [Int.toNat_natCast, bitLen_between k n h0 h1 (by omega)]
  omega
theorem roundI_spec {n : Int} (hn : Num n) (j : Nat) (hj : j ≤ 62) (h0 : j = 0 ∨ (2 : Int) ^ (j - 1) < n) (h1 : n ≤ 2 ^ j ∨ j = 62) : roundI n = 2 ^ j := by
  obtain ⟨hn0, hn1⟩ := hn
  unfold roundI
  by_cases hl : n < 1
  · rw [if_pos hl]
    rcases h0 with rfl | h0
    · rfl
    · have := pow_le_62 (j - 1) (by omega); omega
  · rw [if_neg hl]
    by_cases h2 : n = 1
    · subst h2
      have e : lenI (1 - 1) = 0 := by decide
      rw [e]
      rcases h0 with rfl | h0
      · rfl
      · have := pow_le_62 (j - 1) (by omega); omega
    · obtain ⟨m, hm, e, g0, g1⟩ := lenI_word (a := n - 1) ⟨by omega, by omega⟩ (by omega)
      rw [e]
      have gg0 : (2 : Int) ^ m ≤ n - 1 := by
        have : ((2 ^ m : Nat) : Int) ≤ ((n - 1).toNat : Int) := by exact_mod_cast g0
        simp at this; omega
      have gg1 : n - 1 < (2 : Int) ^ (m + 1) := by
        have : ((n - 1).toNat : Int) < ((2 ^ (m + 1) : Nat) : Int) := by exact_mod_cast g1
        simp at this; omega
      have mono : ∀ a b : Nat, a ≤ b → (2 : Int) ^ a ≤ 2 ^ b := fun a b h => by
        have : (2 : Nat) ^ a ≤ 2 ^ b := Nat.pow_le_pow_right (by decide) h
        exact_mod_cast this
      have hm62 : m ≤ 62 := by
        rcases Nat.lt_or_ge 62 m with h | h
        · have := mono 63 m h
          have e63 : (2 : Int) ^ 63 = 9223372036854775808 := by decide
          omega
        · exact h
      have hjm : j = min (m + 1) 62 := by
        rcases Nat.lt_trichotomy j (min (m + 1) 62) with h | h | h
        · have := mono j m (by omega)
          rcases h1 with h1 | h1 <;> omega
        · exact h
        · have := mono (m + 1) (j - 1) (by omega)
          rcases h0 with h0 | h0 <;> omega
      have : (min ((m : Int) + 1) 62).toNat = j := by omega
      rw [this]
theorem two_pow_62 : (2 : Int) ^ 62 = 4611686018427387904 := by decide
theorem roundI_pow {n : Int} (hn : Num n) : ∃ j : Nat, j ≤ 62 ∧ roundI n = 2 ^ j ∧ (j = 0 ∨ (2 : Int) ^ (j - 1) < n) ∧ (n ≤ 2 ^ j ∨ j = 62) := by
  have two : ∀ k : Nat, k ≤ 62 → ((k = 0 ∨ (2 : Int) ^ (k - 1) < n) → ∃ j : Nat, j ≤ 62 ∧ (j = 0 ∨ (2 : Int) ^ (j - 1) < n) ∧ (n ≤ 2 ^ j ∨ j = 62)) := by
    intro k hk
    induction hd : 62 - k generalizing k with
    | zero =>
      intro h
      exact ⟨k, hk, h, .inr (by omega)⟩
    | succ d ih =>
      intro h
      by_cases hc : n ≤ 2 ^ k
      · exact ⟨k, hk, h, .inl hc⟩
      · exact ih (k + 1) (by omega) (by omega) (.inr (by simp only [Nat.add_sub_cancel]; omega))
  obtain ⟨j, hj, h0, h1⟩ := two 0 (by omega) (.inl rfl)
  exact ⟨j, hj, roundI_spec hn j hj h0 h1, h0, h1⟩
theorem nat_pow_cast (j : Nat) : ((2 : Int) ^ j) = ((2 ^ j : Nat) : Int) := by simp
theorem logI_pow (j : Nat) (hj : j ≤ 62) : logI (2 ^ j) = j := by
  have := pow_le_62 j hj
  refine logI_of ⟨by omega, by omega⟩ j ?_ ?_
  · rw [nat_pow_cast, Int.toNat_natCast]; exact Nat.le_refl _
  · rw [nat_pow_cast, Int.toNat_natCast, Nat.pow_succ]
    have := Nat.two_pow_pos j
    omega
theorem zip_zero : ∀ (a b : List Int), a.length = b.length → (∀ x ∈ a, Word x) → (∀ x ∈ b, Word x) → List.zipWith (pk 0) a b = b
  | [], [], _, _, _ => rfl
  | x :: l, y :: r, h, ha, hb => by
    have := pk_mk (a := x) (b := y) false (ha x (List.mem_cons_self ..)) (hb y (List.mem_cons_self ..))
    rw [List.zipWith_cons_cons, zip_zero l r (by simpa using h) (fun z hz => ha z (List.mem_cons_of_mem _ hz)) (fun z hz => hb z (List.mem_cons_of_mem _ hz))]
    have e : pk 0 x y = y := this
    rw [e]
theorem zip_max : ∀ (a b : List Int), a.length = b.length → (∀ x ∈ a, Word x) → (∀ x ∈ b, Word x) → List.zipWith (pk 18446744073709551615) a b = a
  | [], [], _, _, _ => rfl
  | x :: l, y :: r, h, ha, hb => by
    have := pk_mk (a := x) (b := y) true (ha x (List.mem_cons_self ..)) (hb y (List.mem_cons_self ..))
    rw [List.zipWith_cons_cons, zip_max l r (by simpa using h) (fun z hz => ha z (List.mem_cons_of_mem _ hz)) (fun z hz => hb z (List.mem_cons_of_mem _ hz))]
    have e : pk 18446744073709551615 x y = x := this
    rw [e]
/-! ### Bit by bit -/
theorem wrap_small {n : Int} (h0 : 0 ≤ n) (h1 : n < 18446744073709551616) : IntKind.u64.wrap n = n := by rw [IntKind.wrap_u64]; omega
end Go.Sg
end
section

/-
  Plain facts on ways down a tree; no program in sight.
-/
namespace Go.Sg
open Go Go.RowKit

/-- A power of two from 1 to 1024. -/
def rightB (n : Int) : Bool := n == 1 || n == 2 || n == 4 || n == 8 || n == 16 || n == 32 || n == 64 || n == 128 || n == 256 || n == 512 || n == 1024
theorem rightB_pow (j : Nat) (hj : j ≤ 10) : rightB (2 ^ j) = true := by
  have : ∀ j : Fin 11, rightB (2 ^ j.val) = true := by decide +kernel
  exact this ⟨j, by omega⟩
theorem rightB_of {n : Int} (h : rightB n = true) : ∃ j : Nat, j ≤ 10 ∧ n = 2 ^ j := by
  simp only [rightB, Bool.or_eq_true, beq_iff_eq] at h
  rcases h with (((((((((h | h) | h) | h) | h) | h) | h) | h) | h) | h) | h
  · exact ⟨0, by omega, h⟩
  · exact ⟨1, by omega, h⟩
  · exact ⟨2, by omega, h⟩
  · exact ⟨3, by omega, h⟩
  · exact ⟨4, by omega, h⟩
  · exact ⟨5, by omega, h⟩
  · exact ⟨6, by omega, h⟩
  · exact ⟨7, by omega, h⟩
  · exact ⟨8, by omega, h⟩
  · exact ⟨9, by omega, h⟩
  · exact ⟨10, by omega, h⟩
theorem rightB_bd {n : Int} (h : rightB n = true) : 1 ≤ n ∧ n ≤ 1024 := by
  obtain ⟨j, hj, rfl⟩ := rightB_of h
  have : ∀ j : Fin 11, (1 : Int) ≤ 2 ^ j.val ∧ (2 : Int) ^ j.val ≤ 1024 := by decide +kernel
  exact this ⟨j, by omega⟩
theorem right_bits {n : Int} (h0 : 1 ≤ n) (h1 : n ≤ 1024) : (bits .and .i64 n (n - 1) == 0) = rightB n := by
  have : ∀ m : Fin 1025, (bits .and .i64 (m.val : Int) ((m.val : Int) - 1) == 0) = (if m.val = 0 then true else rightB (m.val : Int)) := by decide +kernel
  have h := this ⟨n.toNat, by omega⟩
  have e : ((n.toNat : Nat) : Int) = n := by omega
  simp only [e] at h
  rw [if_neg (by omega)] at h
  exact h

/-- How deep a tree is; how many nodes it has; is there such a leaf? -/
def depthI (n : Int) : Int := if rightB n then logI n else 0
def nodesI (n : Int) : Int := if rightB n then 2 * n - 1 else 0
def hasB (n l : Int) : Bool := rightB n && decide (0 ≤ l) && decide (l < n)
theorem depthI_pow (j : Nat) (hj : j ≤ 10) : depthI (2 ^ j) = j := by
  rw [depthI, if_pos (rightB_pow j hj), logI_pow j (by omega)]
theorem depthI_bd (n : Int) : 0 ≤ depthI n ∧ depthI n ≤ 10 := by
  unfold depthI
  split
  · rename_i h
    obtain ⟨j, hj, rfl⟩ := rightB_of h
    rw [logI_pow j (by omega)]
    omega
  · omega

/-- A node of a way. -/
def nodeI (n l d : Int) : Int := if hasB n l = true ∧ 0 ≤ d ∧ d ≤ depthI n then 2 ^ d.toNat - 1 + l / 2 ^ (depthI n - d).toNat else -1
/-- A way. -/
def pathL (n l : Int) : List Int := if hasB n l then (List.range ((depthI n).toNat + 1)).map (fun d : Nat => nodeI n l (d : Int)) else []

/-! ### How far two ways are one -/
/-- How often two leaves are one behind halvings, from none to D - 1 of them. -/
def eqs (D : Nat) (a b : Int) : Nat := ((List.range D).filter fun i => decide (a / 2 ^ i = b / 2 ^ i)).length
def deepI (n a b : Int) : Int := if hasB n a = true ∧ hasB n b = true then (eqs (depthI n).toNat a b : Int) else -1

theorem half_pow (a : Int) (k : Nat) : a / 2 ^ (k + 1) = a / 2 ^ k / 2 := by
  rw [Int.pow_succ, Int.ediv_ediv_of_nonneg (Int.pow_nonneg (by decide))]
theorem eq_up {a b : Int} {k i : Nat} (h : a / 2 ^ k = b / 2 ^ k) (hi : k ≤ i) : a / 2 ^ i = b / 2 ^ i := by
  induction i with
  | zero => obtain rfl : k = 0 := by omega
            exact h
  | succ i ih =>
    rcases Nat.lt_or_ge i k with h1 | h1
    · obtain rfl : k = i + 1 := by omega
      exact h
    · rw [half_pow, half_pow, ih h1]
theorem filter_range_ge (k D : Nat) (hk : k ≤ D) (p : Nat → Bool) (h0 : ∀ i, i < k → p i = false) (h1 : ∀ i, k ≤ i → i < D → p i = true) : ((List.range D).filter p).length = D - k := by
  induction D with
  | zero => simp
  | succ D ih =>
    rw [List.range_succ, List.filter_append, List.length_append]
    rcases Nat.lt_or_ge D k with h | h
    · obtain rfl : k = D + 1 := by omega
      have : (List.range D).filter p = [] := List.filter_eq_nil_iff.2 fun i hi => by
        have := h0 i (by have := List.mem_range.1 hi; omega)
        simp [this]
      rw [this]
      simp [h0 D (by omega)]
    · rw [ih h (fun i hi _ => h1 i hi (by omega))]
      simp [h1 D h (by omega)]
      omega
/-- The first halving behind which they are one tells how often they are. -/
theorem eqs_of {a b : Int} {D k : Nat} (hk : k ≤ D) (h0 : ∀ i, i < k → a / 2 ^ i ≠ b / 2 ^ i) (h1 : a / 2 ^ k = b / 2 ^ k) : eqs D a b = D - k :=
  filter_range_ge k D hk _ (fun i hi => decide_eq_false (h0 i hi)) (fun _ hi _ => decide_eq_true (eq_up h1 hi))
theorem leaf_top {a : Int} {D : Nat} (h0 : 0 ≤ a) (h1 : a < 2 ^ D) : a / 2 ^ D = 0 := Int.ediv_eq_zero_of_lt h0 h1
theorem exists_first {a b : Int} {D : Nat} (ha0 : 0 ≤ a) (ha : a < 2 ^ D) (hb0 : 0 ≤ b) (hb : b < 2 ^ D) : ∃ k, k ≤ D ∧ (∀ i, i < k → a / 2 ^ i ≠ b / 2 ^ i) ∧ a / 2 ^ k = b / 2 ^ k := by
  have hall : ∀ d, (∃ k, k ≤ d ∧ (∀ i, i < k → a / 2 ^ i ≠ b / 2 ^ i) ∧ a / 2 ^ k = b / 2 ^ k) ∨ (∀ i, i ≤ d → a / 2 ^ i ≠ b / 2 ^ i) := by
    intro d
    induction d with
    | zero =>
      by_cases h : a / 2 ^ 0 = b / 2 ^ 0
      · exact .inl ⟨0, Nat.le_refl _, fun _ hi => by omega, h⟩
      · exact .inr fun i hi => by obtain rfl : i = 0 := by omega
                                  exact h
    | succ d ih =>
      rcases ih with ⟨k, hk, h⟩ | h
      · exact .inl ⟨k, by omega, h⟩
      · by_cases h2 : a / 2 ^ (d + 1) = b / 2 ^ (d + 1)
        · exact .inl ⟨d + 1, Nat.le_refl _, fun i hi => h i (by omega), h2⟩
        · refine .inr fun i hi => ?_
          rcases Nat.lt_or_ge i (d + 1) with h3 | h3
          · exact h i (by omega)
          · obtain rfl : i = d + 1 := by omega
            exact h2
  rcases hall D with h | h
  · exact h
  · exact absurd (by rw [leaf_top ha0 ha, leaf_top hb0 hb]) (h D (Nat.le_refl _))
theorem hasB_of {n l : Int} (h : hasB n l = true) : ∃ D : Nat, D ≤ 10 ∧ n = 2 ^ D ∧ depthI n = D ∧ 0 ≤ l ∧ l < 2 ^ D := by
  simp only [hasB, Bool.and_eq_true, decide_eq_true_eq] at h
  obtain ⟨⟨h1, h2⟩, h3⟩ := h
  obtain ⟨D, hD, rfl⟩ := rightB_of h1
  exact ⟨D, hD, rfl, depthI_pow D hD, h2, h3⟩
theorem nodeI_at {D : Nat} (hD : D ≤ 10) {l : Int} (h0 : 0 ≤ l) (h1 : l < 2 ^ D) (d : Nat) (hd : d ≤ D) : nodeI (2 ^ D) l d = 2 ^ d - 1 + l / 2 ^ (D - d) := by
  have hh : hasB (2 ^ D) l = true := by simp [hasB, rightB_pow D hD, h0, h1]
  rw [nodeI, if_pos ⟨hh, by omega, by rw [depthI_pow D hD]; omega⟩, depthI_pow D hD]
  congr 2
  congr 1
  omega
/-! ### What the document's answers compute -/
theorem pow_mono' (a b : Nat) (h : a ≤ b) : (2 : Int) ^ a ≤ 2 ^ b := by
  have : (2 : Nat) ^ a ≤ 2 ^ b := Nat.pow_le_pow_right (by decide) h
  exact_mod_cast this
theorem pow_lt' (a b : Nat) (h : a < b) : (2 : Int) ^ a < 2 ^ b := by
  have : (2 : Nat) ^ a < 2 ^ b := Nat.pow_lt_pow_right (by decide) h
  exact_mod_cast this
theorem refRight_end {n : Int} {j : Nat} (hj : j ≤ 10) (h0 : j = 0 ∨ (2 : Int) ^ (j - 1) < n) (h1 : n ≤ 2 ^ j ∨ j = 10) : ((2 : Int) ^ j == n) = rightB n := by
  cases hr : rightB n with
  | true =>
    obtain ⟨i, hi, rfl⟩ := rightB_of hr
    have : j = i := by
      rcases Nat.lt_trichotomy j i with h | h | h
      · rcases h1 with h1 | h1
        · have := pow_lt' j i h; omega
        · omega
      · exact h
      · rcases h0 with h0 | h0
        · omega
        · have := pow_mono' i (j - 1) (by omega); omega
    simp [this]
  | false =>
    rw [beq_eq_false_iff_ne]
    intro h
    rw [← h, rightB_pow j hj] at hr
    simp at hr
theorem node_up {D : Nat} (hD : D ≤ 10) {l : Int} (h0 : 0 ≤ l) (h1 : l < 2 ^ D) (d : Nat) (hd : d + 1 ≤ D) : (nodeI (2 ^ D) l ((d + 1 : Nat) : Int) - 1) / 2 = nodeI (2 ^ D) l (d : Int) := by
  rw [nodeI_at hD h0 h1 (d + 1) hd, nodeI_at hD h0 h1 d (by omega), Int.pow_succ]
  have : D - d = (D - (d + 1)) + 1 := by omega
  rw [this, half_pow]
  omega
theorem node_bd {D : Nat} (hD : D ≤ 10) {l : Int} (h0 : 0 ≤ l) (h1 : l < 2 ^ D) (d : Nat) (hd : d ≤ D) : 2 ^ d - 1 ≤ nodeI (2 ^ D) l (d : Int) ∧ nodeI (2 ^ D) l (d : Int) < 2 ^ (d + 1) - 1 := by
  rw [nodeI_at hD h0 h1 d hd, Int.pow_succ]
  have e : (2 : Int) ^ D = 2 ^ d * 2 ^ (D - d) := by rw [← Int.pow_add]; congr 1; omega
  rw [e] at h1
  have hp := pow_le_62 (D - d) (by omega)
  have := Int.ediv_lt_of_lt_mul (a := l) hp.2 h1
  have := Int.ediv_nonneg h0 (Int.le_of_lt hp.2)
  omega
theorem pathL_len {n l : Int} (h : hasB n l = true) : (pathL n l).length = (depthI n).toNat + 1 := by simp [pathL, h]
theorem pathL_at {n l : Int} (h : hasB n l = true) (d : Nat) (hd : d < (pathL n l).length) : (pathL n l)[d] = nodeI n l (d : Int) := by simp [pathL, h]
/-- The part of a way from a level on. -/
def tailL (n l : Int) (d k : Nat) : List Int := (List.range k).map fun i : Nat => nodeI n l ((d + i : Nat) : Int)
theorem tailL_cons (n l : Int) (d k : Nat) : tailL n l d (k + 1) = nodeI n l (d : Int) :: tailL n l (d + 1) k := by
  simp only [tailL, List.range_succ_eq_map, List.map_cons, List.map_map, Nat.add_zero]
  congr 1
  refine List.map_congr_left fun i _ => ?_
  simp only [Function.comp]
  congr 2
  omega
theorem tailL_all {n l : Int} (h : hasB n l = true) {D : Nat} (hd : depthI n = D) : tailL n l 0 (D + 1) = pathL n l := by
  simp [tailL, pathL, h, hd]
theorem eqs_le (D : Nat) (a b : Int) : eqs D a b ≤ D := by
  unfold eqs
  exact Nat.le_trans (List.length_filter_le _ _) (by simp)
theorem eqs_first {D : Nat} {a b : Int} (a0 : 0 ≤ a) (a1 : a < 2 ^ D) (b0 : 0 ≤ b) (b1 : b < 2 ^ D) (i : Nat) : (a / 2 ^ i = b / 2 ^ i) ↔ D - eqs D a b ≤ i := by
  obtain ⟨m, hm, m0, m1⟩ := exists_first a0 a1 b0 b1
  rw [eqs_of hm m0 m1]
  constructor
  · intro h
    rcases Nat.lt_or_ge i m with h2 | h2
    · exact absurd h (m0 i h2)
    · omega
  · intro h
    exact eq_up m1 (by omega)
/-! ### Buckets -/
/-- How many of the first k numbers lie in the j-th bucket of 2^s. -/
def cl (j : Int) (s : Nat) (k : Int) : Int := max 0 (min (k - j * 2 ^ s) (2 ^ s))
/-! ### How often all ways meet a node -/
def dep (j : Nat) : Nat := (logI ((j : Int) + 1)).toNat
/-- How often the first leaf ways, and the first i nodes of the next one, meet node j. -/
def cnt (D leaf i j : Nat) : Int := cl ((j : Int) + 1 - 2 ^ dep j) (D - dep j) (if dep j < i then (leaf : Int) + 1 else leaf)
end Go.Sg
end
