/-
  Plain facts on 64-bit words: masks, picks, swaps; no program in sight.
-/
import Derived.WalkKit
import Derived.Lib.BitFns
namespace Go.Sg
open Go Go.RowKit

theorem ret_u64 {a b : Int} (h : a = b) : Ending.returned (.int .u64 a) = .returned (.int .u64 b) := by rw [h]
theorem ret_i64 {a b : Int} (h : a = b) : Ending.returned (.int .i64 a) = .returned (.int .i64 b) := by rw [h]

/-- A word: a number of the kind uint64. -/
def Word (a : Int) : Prop := 0 ≤ a ∧ a < 18446744073709551616

/-- A number of the kind int. -/
def Num (a : Int) : Prop := -9223372036854775808 ≤ a ∧ a < 9223372036854775808
theorem u64_of {a : Int} (h : (Lit.int .u64 a).wf = true) : Word a := by
  simp [Lit.wf, IntKind.min, IntKind.max, IntKind.signed, IntKind.bits] at h
  exact ⟨by omega, by omega⟩
theorem i64_of {a : Int} (h : (Lit.int .i64 a).wf = true) : Num a := by
  simp [Lit.wf, IntKind.min, IntKind.max, IntKind.signed, IntKind.bits] at h
  exact ⟨by omega, by omega⟩

/-- All bits, or none. -/
def mk (b : Bool) : Int := if b then 18446744073709551615 else 0
theorem mk_word (b : Bool) : Word (mk b) := by cases b <;> simp [mk, Word]

/-- The masks: is a word nothing, are two one, is the first less? -/
def zm (a : Int) : Int := mk (decide (a = 0))
def em (a b : Int) : Int := mk (decide (a = b))
def lm (a b : Int) : Int := mk (decide (a < b))
/-- 'spread', as it is. -/
def sm (a : Int) : Int := mk (decide (a % 2 = 1))
def b01 (b : Bool) : Int := if b then 1 else 0
theorem b01_word (b : Bool) : Word (b01 b) := by cases b <;> simp [b01, Word]
theorem sm_b01 (b : Bool) : sm (b01 b) = mk b := by cases b <;> simp [b01, sm]

/-- The three operations on bits, on numbers that are words. -/
def xr (a b : Int) : Int := ((a.toNat ^^^ b.toNat : Nat) : Int)
def an (a b : Int) : Int := ((a.toNat &&& b.toNat : Nat) : Int)
def rr (a b : Int) : Int := ((a.toNat ||| b.toNat : Nat) : Int)

theorem nat_word {a : Int} (h : Word a) : ∃ n : Nat, a = n ∧ n < 18446744073709551616 := by
  obtain ⟨h0, h1⟩ := h
  exact ⟨a.toNat, by omega, by omega⟩

theorem xr_word {a b : Int} (ha : Word a) (hb : Word b) : Word (xr a b) := by
  obtain ⟨n, rfl, hn⟩ := nat_word ha
  obtain ⟨m, rfl, hm⟩ := nat_word hb
  have := Nat.xor_lt_two_pow (n := 64) (x := n) (y := m) (by omega) (by omega)
  simp only [xr, Word, Int.toNat_natCast]
  omega
theorem an_word {a b : Int} (_ha : Word a) (hb : Word b) : Word (an a b) := by
  obtain ⟨m, rfl, hm⟩ := nat_word hb
  have := Nat.and_lt_two_pow (n := 64) a.toNat (y := m) (by omega)
  simp only [an, Word, Int.toNat_natCast]
  omega
theorem rr_word {a b : Int} (ha : Word a) (hb : Word b) : Word (rr a b) := by
  obtain ⟨n, rfl, hn⟩ := nat_word ha
  obtain ⟨m, rfl, hm⟩ := nat_word hb
  have := Nat.or_lt_two_pow (n := 64) (x := n) (y := m) (by omega) (by omega)
  simp only [rr, Word, Int.toNat_natCast]
  omega

theorem bits_xr {a b : Int} (ha : Word a) (hb : Word b) : bits .xor .u64 a b = xr a b := u64_xor a b ha.1 ha.2 hb.1 hb.2
theorem bits_an {a b : Int} (ha : Word a) (hb : Word b) : bits .and .u64 a b = an a b := u64_and a b ha.1 ha.2 hb.1 hb.2
theorem bits_rr {a b : Int} (ha : Word a) (hb : Word b) : bits .or .u64 a b = rr a b := u64_or a b ha.1 ha.2 hb.1 hb.2

theorem one_word : Word 1 := by simp [Word]
theorem zero_word : Word 0 := by simp [Word]

theorem an_one {a : Int} (ha : Word a) : an a 1 = a % 2 := by
  obtain ⟨n, rfl, hn⟩ := nat_word ha
  simp only [an, Int.toNat_natCast, Int.toNat_one, Nat.and_one_is_mod]
  omega

theorem wrap_word (n : Int) : Word (IntKind.u64.wrap n) := by
  rw [IntKind.wrap_u64]; exact ⟨by omega, by omega⟩

/-- 'spread'. -/
theorem spread_eq {a : Int} (ha : Word a) : IntKind.u64.wrap (-bits .and .u64 a 1) = sm a := by
  unfold sm
  rw [bits_an ha one_word, an_one ha, IntKind.wrap_u64]
  have : a % 2 = 0 ∨ a % 2 = 1 := by omega
  rcases this with h | h <;> simp [h, mk]

theorem max_u64 : IntKind.u64.max = 18446744073709551615 := by decide

theorem xr_max {a : Int} (ha : Word a) : xr 18446744073709551615 a = 18446744073709551615 - a := by
  obtain ⟨n, rfl, hn⟩ := nat_word ha
  have h : (BitVec.allOnes 64 ^^^ BitVec.ofNat 64 n).toNat = (~~~ (BitVec.ofNat 64 n)).toNat := by rw [BitVec.allOnes_xor]
  rw [BitVec.toNat_xor, BitVec.toNat_not, BitVec.toNat_ofNat, BitVec.toNat_allOnes] at h
  have e : n % 2 ^ 64 = n := Nat.mod_eq_of_lt (by omega)
  rw [e] at h
  have g : ((18446744073709551615 : Int).toNat ^^^ n) = 18446744073709551615 - n := h
  simp only [xr, Int.toNat_natCast]
  rw [g]
  omega

theorem rr_ge {a b : Int} : (a.toNat : Int) ≤ rr a b ∧ (b.toNat : Int) ≤ rr a b := by
  have h1 : a.toNat ≤ a.toNat ||| b.toNat := Nat.left_le_or
  have h2 : b.toNat ≤ a.toNat ||| b.toNat := Nat.right_le_or
  unfold rr
  omega

/-- 'Zero': what it hands to 'spread'. -/
theorem zero_top {a : Int} (ha : Word a) :
    bits .xor .u64 IntKind.u64.max (bits .or .u64 a (IntKind.u64.wrap (-a))) / 9223372036854775808 = b01 (decide (a = 0)) := by
  rw [bits_rr ha (wrap_word _), max_u64, bits_xr (by simp [Word]) (rr_word ha (wrap_word _)), xr_max (rr_word ha (wrap_word _))]
  obtain ⟨h0, h1⟩ := ha
  have hw : IntKind.u64.wrap (-a) = (-a) % 18446744073709551616 := IntKind.wrap_u64 _
  rw [hw]
  have hg := @rr_ge a ((-a) % 18446744073709551616)
  have hb := rr_word (a := a) (b := (-a) % 18446744073709551616) ⟨h0, h1⟩ ⟨by omega, by omega⟩
  obtain ⟨hb0, hb1⟩ := hb
  by_cases h : a = 0
  · subst h; decide
  · simp only [h, decide_false, b01, Bool.false_eq_true, if_false]; omega

theorem xr_comm' (a b : Int) : xr a b = xr b a := by simp only [xr, Nat.xor_comm]
/-- 'Pick'. -/
def pk (m a b : Int) : Int := xr b (an m (xr a b))
theorem pk_word {m a b : Int} (hm : Word m) (ha : Word a) (hb : Word b) : Word (pk m a b) := xr_word hb (an_word hm (xr_word ha hb))
theorem pk_eq {m a b : Int} (hm : Word m) (ha : Word a) (hb : Word b) :
    bits .xor .u64 b (bits .and .u64 m (bits .xor .u64 a b)) = pk m a b := by
  rw [bits_xr ha hb, bits_an hm (xr_word ha hb), bits_xr hb (an_word hm (xr_word ha hb))]; rfl

theorem xr_self_left {a b : Int} (ha : Word a) (hb : Word b) : xr b (xr a b) = a := by
  obtain ⟨n, rfl, hn⟩ := nat_word ha
  obtain ⟨m, rfl, hm⟩ := nat_word hb
  simp only [xr, Int.toNat_natCast]
  rw [Nat.xor_comm n m, ← Nat.xor_assoc, Nat.xor_self, Nat.zero_xor]
theorem an_max {a : Int} (ha : Word a) : an 18446744073709551615 a = a := by
  obtain ⟨n, rfl, hn⟩ := nat_word ha
  have h : n &&& (2 ^ 64 - 1) = n % 2 ^ 64 := Nat.and_two_pow_sub_one_eq_mod n 64
  rw [Nat.and_comm, Nat.mod_eq_of_lt (by omega)] at h
  have g : ((18446744073709551615 : Int).toNat &&& n) = n := by rw [Nat.and_comm]; exact (Nat.and_comm _ _).trans h
  simp only [an, Int.toNat_natCast]
  rw [g]
theorem an_zero {a : Int} : an 0 a = 0 := by simp [an]
theorem xr_zero {a : Int} (ha : Word a) : xr a 0 = a := by
  obtain ⟨n, rfl, hn⟩ := nat_word ha
  simp [xr]
theorem pk_mk {a b : Int} (c : Bool) (ha : Word a) (hb : Word b) : pk (mk c) a b = if c then a else b := by
  cases c
  · simp only [pk, mk, Bool.false_eq_true, if_false]; rw [an_zero, xr_zero hb]
  · simp only [pk, mk, if_true]; rw [an_max (xr_word ha hb), xr_self_left ha hb]

/-- 'Swap''s first word. -/
def sw1 (m a b : Int) : Int := xr a (an m (xr a b))
theorem sw1_word {m a b : Int} (hm : Word m) (ha : Word a) (hb : Word b) : Word (sw1 m a b) := xr_word ha (an_word hm (xr_word ha hb))

theorem xr_eq_zero {a b : Int} (ha : Word a) (hb : Word b) : (xr a b = 0) = (a = b) := by
  obtain ⟨n, rfl, hn⟩ := nat_word ha
  obtain ⟨m, rfl, hm⟩ := nat_word hb
  simp only [xr, Int.toNat_natCast, eq_iff_iff]
  constructor
  · intro h
    have h' : n ^^^ m = 0 := by omega
    have : n ^^^ (n ^^^ m) = n := by rw [h', Nat.xor_zero]
    rw [← Nat.xor_assoc, Nat.xor_self, Nat.zero_xor] at this
    omega
  · intro h
    have : n = m := by omega
    subst this
    simp
theorem zm_xr {a b : Int} (ha : Word a) (hb : Word b) : zm (xr a b) = em a b := by
  simp only [zm, em, xr_eq_zero ha hb]

/-- How many bits a word has; how often a number can be halved. -/
def lenI (a : Int) : Int := (Lib.bitLen a.toNat : Int)
def logI (a : Int) : Int := max (lenI a - 1) 0
/-- The next power of two. -/
def roundI (n : Int) : Int := if n < 1 then 1 else 2 ^ (min (lenI (n - 1)) 62).toNat

theorem bitLenAux_le : ∀ (f x : Nat), Lib.bitLenAux f x ≤ f
  | 0, _ => by simp [Lib.bitLenAux]
  | f + 1, x => by
    have := bitLenAux_le f (x / 2)
    simp only [Lib.bitLenAux]
    split <;> omega
theorem lenI_bd (a : Int) : 0 ≤ lenI a ∧ lenI a ≤ 64 := by
  have := bitLenAux_le 64 a.toNat
  unfold lenI Lib.bitLen
  omega
theorem bitLen_pos {x : Nat} (h : x ≠ 0) : 1 ≤ Lib.bitLen x := by
  unfold Lib.bitLen
  rw [show (64 : Nat) = 63 + 1 from rfl, Lib.bitLenAux, if_neg h]
  omega
theorem pow_le_62 (k : Nat) (h : k ≤ 62) : (2 : Int) ^ k ≤ 4611686018427387904 ∧ 0 < (2 : Int) ^ k := by
  have h1 : (2 : Nat) ^ k ≤ 2 ^ 62 := Nat.pow_le_pow_right (by decide) h
  have h2 : 0 < (2 : Nat) ^ k := Nat.two_pow_pos k
  have e : ((2 : Int) ^ k) = ((2 ^ k : Nat) : Int) := by simp
  rw [e]
  omega
theorem wrap64_pow (k : Nat) (h : k ≤ 62) : wrap64 (2 ^ k) = 2 ^ k := by
  have := pow_le_62 k h
  unfold wrap64
  omega
theorem roundI_high {n : Int} (h : 1 ≤ n) : wrap64 (2 ^ (min (lenI (n - 1)) 62).toNat) = roundI n := by
  have hb := lenI_bd (n - 1)
  rw [wrap64_pow _ (by omega), roundI, if_neg (by omega)]

/-! ### Between two powers -/
theorem bitLen_between (k x : Nat) (h0 : 2 ^ k ≤ x) (h1 : x < 2 ^ (k + 1)) (hx : x < 2 ^ 64) : Lib.bitLen x = k + 1 := by
  rw [Lib.bitLen_shift k x h0 hx]
  have hq : x / 2 ^ k = 1 := by
    have hp : 0 < 2 ^ k := Nat.two_pow_pos k
    have a1 : 1 ≤ x / 2 ^ k := (Nat.le_div_iff_mul_le hp).2 (by omega)
    have a2 : x / 2 ^ k < 2 := (Nat.div_lt_iff_lt_mul hp).2 (by rw [Nat.pow_succ] at h1; omega)
    omega
  rw [hq]
  have : Lib.bitLen 1 = 1 := by decide
  rw [this]

theorem bitLen_zero : Lib.bitLen 0 = 0 := by decide
theorem exists_between : ∀ (n x : Nat), x ≠ 0 → x < 2 ^ n → ∃ k, k < n ∧ 2 ^ k ≤ x ∧ x < 2 ^ (k + 1)
  | 0, x, h, hx => by simp at hx; omega
  | n + 1, x, h, hx => by
    by_cases hc : 2 ^ n ≤ x
    · exact ⟨n, by omega, hc, hx⟩
    · obtain ⟨k, hk, h0, h1⟩ := exists_between n x h (by omega)
      exact ⟨k, by omega, h0, h1⟩
theorem lenI_word {a : Int} (ha : Word a) (h : a ≠ 0) : ∃ k : Nat, k < 64 ∧ lenI a = k + 1 ∧ 2 ^ k ≤ a.toNat ∧ a.toNat < 2 ^ (k + 1) := by
  obtain ⟨n, rfl, hn⟩ := nat_word ha
  obtain ⟨k, hk, h0, h1⟩ := exists_between 64 n (by omega) (by omega)
  refine ⟨k, hk, ?_, by simpa using h0, by simpa using h1⟩
  unfold lenI
  rw [Int.toNat_natCast, bitLen_between k n h0 h1 (by omega)]
  omega
theorem logI_bd (a : Int) : 0 ≤ logI a ∧ logI a ≤ 63 := by
  have := lenI_bd a
  unfold logI
  omega
theorem logI_word {a : Int} (ha : Word a) (h : a ≠ 0) : ∃ k : Nat, k < 64 ∧ logI a = k ∧ 2 ^ k ≤ a.toNat ∧ a.toNat < 2 ^ (k + 1) := by
  obtain ⟨k, hk, e, h0, h1⟩ := lenI_word ha h
  exact ⟨k, hk, by unfold logI; omega, h0, h1⟩
theorem logI_of {a : Int} (ha : Word a) (k : Nat) (h0 : 2 ^ k ≤ a.toNat) (h1 : a.toNat < 2 ^ (k + 1)) : logI a = k := by
  obtain ⟨n, rfl, hn⟩ := nat_word ha
  simp only [Int.toNat_natCast] at h0 h1
  unfold logI lenI
  rw [Int.toNat_natCast, bitLen_between k n h0 h1 (by omega)]
  omega
theorem logI_low {a : Int} (h : a ≤ 1) : logI a = 0 := by
  have h2 : a.toNat = 0 ∨ a.toNat = 1 := by omega
  unfold logI lenI
  rcases h2 with h2 | h2 <;> rw [h2] <;> decide
theorem logI_half {a : Int} (ha : Word a) (h : 1 < a) : logI a = logI (a / 2) + 1 := by
  obtain ⟨k, hk, e, h0, h1⟩ := logI_word ha (by omega)
  obtain ⟨ha0, ha1⟩ := ha
  cases k with
  | zero => simp at h1; omega
  | succ k =>
    have h2 : (a / 2).toNat = a.toNat / 2 := by omega
    have := logI_of (a := a / 2) ⟨by omega, by omega⟩ k (by rw [h2]; rw [Nat.pow_succ] at h0; omega) (by rw [h2]; rw [Nat.pow_succ] at h1; omega)
    omega
theorem roundI_spec {n : Int} (hn : Num n) (j : Nat) (hj : j ≤ 62) (h0 : j = 0 ∨ (2 : Int) ^ (j - 1) < n) (h1 : n ≤ 2 ^ j ∨ j = 62) : roundI n = 2 ^ j := by
  obtain ⟨hn0, hn1⟩ := hn
  unfold roundI
  by_cases hl : n < 1
  · rw [if_pos hl]
    rcases h0 with rfl | h0
    · rfl
    · have := pow_le_62 (j - 1) (by omega); omega
  · rw [if_neg hl]
    by_cases h2 : n = 1
    · subst h2
      have e : lenI (1 - 1) = 0 := by decide
      rw [e]
      rcases h0 with rfl | h0
      · rfl
      · have := pow_le_62 (j - 1) (by omega); omega
    · obtain ⟨m, hm, e, g0, g1⟩ := lenI_word (a := n - 1) ⟨by omega, by omega⟩ (by omega)
      rw [e]
      have gg0 : (2 : Int) ^ m ≤ n - 1 := by
        have : ((2 ^ m : Nat) : Int) ≤ ((n - 1).toNat : Int) := by exact_mod_cast g0
        simp at this; omega
      have gg1 : n - 1 < (2 : Int) ^ (m + 1) := by
        have : ((n - 1).toNat : Int) < ((2 ^ (m + 1) : Nat) : Int) := by exact_mod_cast g1
        simp at this; omega
      have mono : ∀ a b : Nat, a ≤ b → (2 : Int) ^ a ≤ 2 ^ b := fun a b h => by
        have : (2 : Nat) ^ a ≤ 2 ^ b := Nat.pow_le_pow_right (by decide) h
        exact_mod_cast this
      have hm62 : m ≤ 62 := by
        rcases Nat.lt_or_ge 62 m with h | h
        · have := mono 63 m h
          have e63 : (2 : Int) ^ 63 = 9223372036854775808 := by decide
          omega
        · exact h
      have hjm : j = min (m + 1) 62 := by
        rcases Nat.lt_trichotomy j (min (m + 1) 62) with h | h | h
        · have := mono j m (by omega)
          rcases h1 with h1 | h1 <;> omega
        · exact h
        · have := mono (m + 1) (j - 1) (by omega)
          rcases h0 with h0 | h0 <;> omega
      have : (min ((m : Int) + 1) 62).toNat = j := by omega
      rw [this]
theorem two_pow_62 : (2 : Int) ^ 62 = 4611686018427387904 := by decide
theorem roundI_pow {n : Int} (hn : Num n) : ∃ j : Nat, j ≤ 62 ∧ roundI n = 2 ^ j ∧ (j = 0 ∨ (2 : Int) ^ (j - 1) < n) ∧ (n ≤ 2 ^ j ∨ j = 62) := by
  have two : ∀ k : Nat, k ≤ 62 → ((k = 0 ∨ (2 : Int) ^ (k - 1) < n) → ∃ j : Nat, j ≤ 62 ∧ (j = 0 ∨ (2 : Int) ^ (j - 1) < n) ∧ (n ≤ 2 ^ j ∨ j = 62)) := by
    intro k hk
    induction hd : 62 - k generalizing k with
    | zero =>
      intro h
      exact ⟨k, hk, h, .inr (by omega)⟩
    | succ d ih =>
      intro h
      by_cases hc : n ≤ 2 ^ k
      · exact ⟨k, hk, h, .inl hc⟩
      · exact ih (k + 1) (by omega) (by omega) (.inr (by simp only [Nat.add_sub_cancel]; omega))
  obtain ⟨j, hj, h0, h1⟩ := two 0 (by omega) (.inl rfl)
  exact ⟨j, hj, roundI_spec hn j hj h0 h1, h0, h1⟩
theorem nat_pow_cast (j : Nat) : ((2 : Int) ^ j) = ((2 ^ j : Nat) : Int) := by simp
theorem logI_pow (j : Nat) (hj : j ≤ 62) : logI (2 ^ j) = j := by
  have := pow_le_62 j hj
  refine logI_of ⟨by omega, by omega⟩ j ?_ ?_
  · rw [nat_pow_cast, Int.toNat_natCast]; exact Nat.le_refl _
  · rw [nat_pow_cast, Int.toNat_natCast, Nat.pow_succ]
    have := Nat.two_pow_pos j
    omega
/-- What 'WordRound' asks of the number that 'Round' answers. -/
theorem round_facts {n : Int} (hn : Num n) : 1 ≤ roundI n ∧ roundI n ≤ 4611686018427387904 ∧ bits .and .i64 (roundI n) (roundI n - 1) = 0 ∧ roundI (roundI n) = roundI n ∧
    (n < 1 → roundI n = 1) ∧ (4611686018427387904 < n → roundI n = 4611686018427387904) ∧ (n ≤ 4611686018427387904 → n ≤ roundI n) ∧ (1 ≤ n → roundI n ≠ 1 → roundI n / 2 < n) ∧ wrap64 (2 ^ (logI (roundI n)).toNat) = roundI n := by
  obtain ⟨j, hj, e, h0, h1⟩ := roundI_pow hn
  have hp := pow_le_62 j hj
  have hmono : ∀ a b : Nat, a ≤ b → (2 : Int) ^ a ≤ 2 ^ b := fun a b h => by
    have : (2 : Nat) ^ a ≤ 2 ^ b := Nat.pow_le_pow_right (by decide) h
    exact_mod_cast this
  have hsplit : j = 0 ∨ (2 : Int) ^ j = 2 * 2 ^ (j - 1) := by
    cases j with
    | zero => exact .inl rfl
    | succ k => right; rw [Int.pow_succ]; simp only [Nat.add_sub_cancel]; omega
  rw [e]
  refine ⟨by omega, by omega, ?_, ?_, ?_, ?_, ?_, ?_, ?_⟩
  · have ha : bits .and .i64 (2 ^ j) (2 ^ j - 1) = (2 ^ j) % 2 ^ j := by
      refine bits_mask .i64 63 (by decide) ?_ j (by omega) (2 ^ j) (by omega) ?_
      · intro m hm0 hm1
        have e63 : (2 : Int) ^ 63 = 9223372036854775808 := by decide
        rw [IntKind.wrap_i64]; omega
      · have e63 : (2 : Int) ^ 63 = 9223372036854775808 := by decide
        omega
    rw [ha, Int.emod_self]
  · refine roundI_spec ⟨by omega, by omega⟩ j hj ?_ (.inl (by omega))
    rcases hsplit with h | h
    · exact .inl h
    · have := pow_le_62 (j - 1) (by omega); exact .inr (by omega)
  · intro h
    rcases h0 with rfl | h0
    · rfl
    · have := pow_le_62 (j - 1) (by omega); omega
  · intro h
    rcases h1 with h1 | rfl
    · omega
    · exact two_pow_62
  · intro h
    rcases h1 with h1 | rfl
    · omega
    · rw [two_pow_62]; omega
  · intro h1n hne
    rcases hsplit with rfl | hs
    · simp at hne
    · rcases h0 with rfl | h0
      · simp at hne
      · omega
  · rw [logI_pow j hj]
    simp only [Int.toNat_natCast]
    exact wrap64_pow j hj
theorem logI_mono {a b : Int} (ha : Word a) (hb : Word b) (h : a ≤ b) : logI a ≤ logI b := by
  by_cases h0 : a = 0
  · subst h0
    have := logI_bd b
    have : logI 0 = 0 := by decide
    omega
  · obtain ⟨k, hk, e, g0, g1⟩ := logI_word ha h0
    obtain ⟨m, hm, e', g0', g1'⟩ := logI_word hb (by have := ha.1; omega)
    rcases Nat.lt_or_ge m k with hlt | hge
    · have : (2 : Nat) ^ (m + 1) ≤ 2 ^ k := Nat.pow_le_pow_right (by decide) hlt
      have := ha.1
      omega
    · omega
/-- What 'WordHalves' asks. -/
theorem halves_facts {a : Int} (ha : Word a) (h0 : a ≠ 0) : a / 2 ^ (logI a).toNat = 1 ∧ (a < 9223372036854775808 → logI (2 * a) = logI a + 1 ∧ logI (2 * a + 1) = logI a + 1) := by
  obtain ⟨k, hk, e, g0, g1⟩ := logI_word ha h0
  have gg0 : (2 : Int) ^ k ≤ a := by
    have : ((2 ^ k : Nat) : Int) ≤ (a.toNat : Int) := by exact_mod_cast g0
    have := ha.1
    simp at *; omega
  have gg1 : a < (2 : Int) ^ (k + 1) := by
    have : (a.toNat : Int) < ((2 ^ (k + 1) : Nat) : Int) := by exact_mod_cast g1
    have := ha.1
    simp at *; omega
  have hp : 0 < (2 : Int) ^ k := by rw [nat_pow_cast]; have := Nat.two_pow_pos k; omega
  rw [Int.pow_succ] at gg1
  have ha0 := ha.1
  refine ⟨?_, fun hlt => ⟨?_, ?_⟩⟩
  · rw [e]
    simp only [Int.toNat_natCast]
    have a1 : 1 ≤ a / 2 ^ k := (Int.le_ediv_iff_mul_le hp).2 (by omega)
    have a2 : a / 2 ^ k < 2 := (Int.ediv_lt_iff_lt_mul hp).2 (by omega)
    omega
  · rw [e]
    have := logI_of (a := 2 * a) ⟨by omega, by omega⟩ (k + 1) (by have : (2 * a).toNat = 2 * a.toNat := by omega
                                                                  rw [this, Nat.pow_succ]; omega) (by have : (2 * a).toNat = 2 * a.toNat := by omega
                                                                                                      rw [this, Nat.pow_succ]; omega)
    rw [this]; omega
  · rw [e]
    have := logI_of (a := 2 * a + 1) ⟨by omega, by omega⟩ (k + 1) (by have : (2 * a + 1).toNat = 2 * a.toNat + 1 := by omega
                                                                      rw [this, Nat.pow_succ]; omega) (by have : (2 * a + 1).toNat = 2 * a.toNat + 1 := by omega
                                                                                                          rw [this, Nat.pow_succ]; omega)
    rw [this]; omega
/-- What 'WordOrder' asks. -/
theorem order_facts {a b m : Int} (ha : Word a) (hb : Word b) (hm : Word m) :
    rr (rr (lm a b) (lm b a)) (em a b) = 18446744073709551615 ∧ an (lm a b) (lm b a) = 0 ∧ an (lm a b) (em a b) = 0 ∧ an (lm b a) (em a b) = 0 ∧
    pk (lm a b) a b = min a b ∧ sw1 (lm b a) a b = min a b ∧ pk (lm b a) a b = max a b ∧ sw1 m (sw1 m a b) (pk m a b) = a ∧ pk m (sw1 m a b) (pk m a b) = b ∧ xr (sw1 m a b) (pk m a b) = xr a b := by
  have hx : xr (sw1 m a b) (pk m a b) = xr a b := by
    obtain ⟨x, rfl, hx⟩ := nat_word ha
    obtain ⟨y, rfl, hy⟩ := nat_word hb
    obtain ⟨z, rfl, hz⟩ := nat_word hm
    simp only [xr, sw1, pk, an, Int.toNat_natCast]
    congr 1
    apply Nat.eq_of_testBit_eq
    intro i
    simp only [Nat.testBit_xor, Nat.testBit_and]
    cases x.testBit i <;> cases y.testBit i <;> cases z.testBit i <;> rfl
  have hs : sw1 (mk true) a b = b := by
    simp only [sw1, mk, if_true]; rw [an_max (xr_word ha hb), xr_comm' a b, xr_self_left hb ha]
  have hs' : sw1 (mk false) a b = a := by
    simp only [sw1, mk, Bool.false_eq_true, if_false]; rw [an_zero, xr_zero ha]
  refine ⟨?_, ?_, ?_, ?_, ?_, ?_, ?_, ?_, ?_, hx⟩
  · unfold lm em
    rcases Int.lt_trichotomy a b with h | h | h
    · rw [decide_eq_true h, decide_eq_false (show ¬ b < a by omega), decide_eq_false (show ¬ a = b by omega)]; decide
    · rw [decide_eq_false (show ¬ a < b by omega), decide_eq_false (show ¬ b < a by omega), decide_eq_true h]; decide
    · rw [decide_eq_false (show ¬ a < b by omega), decide_eq_true (show b < a by omega), decide_eq_false (show ¬ a = b by omega)]; decide
  · unfold lm
    rcases Int.lt_trichotomy a b with h | h | h
    · rw [decide_eq_true h, decide_eq_false (show ¬ b < a by omega)]; decide
    · rw [decide_eq_false (show ¬ a < b by omega), decide_eq_false (show ¬ b < a by omega)]; decide
    · rw [decide_eq_false (show ¬ a < b by omega), decide_eq_true (show b < a by omega)]; decide
  · unfold lm em
    rcases Int.lt_trichotomy a b with h | h | h
    · rw [decide_eq_true h, decide_eq_false (show ¬ a = b by omega)]; decide
    · rw [decide_eq_false (show ¬ a < b by omega), decide_eq_true h]; decide
    · rw [decide_eq_false (show ¬ a < b by omega), decide_eq_false (show ¬ a = b by omega)]; decide
  · unfold lm em
    rcases Int.lt_trichotomy a b with h | h | h
    · rw [decide_eq_false (show ¬ b < a by omega), decide_eq_false (show ¬ a = b by omega)]; decide
    · rw [decide_eq_false (show ¬ b < a by omega), decide_eq_true h]; decide
    · rw [decide_eq_true (show b < a by omega), decide_eq_false (show ¬ a = b by omega)]; decide
  · unfold lm
    rw [pk_mk _ ha hb]
    by_cases h : a < b
    · simp [h]; omega
    · simp [h]; omega
  · unfold lm
    by_cases h : b < a
    · rw [decide_eq_true h, hs]; omega
    · rw [decide_eq_false h, hs']; omega
  · unfold lm
    rw [pk_mk _ ha hb]
    by_cases h : b < a
    · simp [h]; omega
    · simp [h]; omega
  · rw [sw1, hx]
    obtain ⟨x, rfl, hx⟩ := nat_word ha
    obtain ⟨y, rfl, hy⟩ := nat_word hb
    obtain ⟨z, rfl, hz⟩ := nat_word hm
    simp only [xr, sw1, an, Int.toNat_natCast]
    congr 1
    apply Nat.eq_of_testBit_eq
    intro i
    simp only [Nat.testBit_xor, Nat.testBit_and]
    cases x.testBit i <;> cases y.testBit i <;> cases z.testBit i <;> rfl
  · rw [pk, hx]
    obtain ⟨x, rfl, hx⟩ := nat_word ha
    obtain ⟨y, rfl, hy⟩ := nat_word hb
    obtain ⟨z, rfl, hz⟩ := nat_word hm
    simp only [xr, pk, an, Int.toNat_natCast]
    congr 1
    apply Nat.eq_of_testBit_eq
    intro i
    simp only [Nat.testBit_xor, Nat.testBit_and]
    cases x.testBit i <;> cases y.testBit i <;> cases z.testBit i <;> rfl
theorem sw_twice {a b m : Int} (ha : Word a) (hb : Word b) (hm : Word m) : sw1 m (sw1 m a b) (pk m a b) = a ∧ pk m (sw1 m a b) (pk m a b) = b :=
  let h := order_facts ha hb hm
  ⟨h.2.2.2.2.2.2.2.1, h.2.2.2.2.2.2.2.2.1⟩
theorem sw_xr {a b m : Int} (ha : Word a) (hb : Word b) (hm : Word m) : xr (sw1 m a b) (pk m a b) = xr a b := (order_facts ha hb hm).2.2.2.2.2.2.2.2.2
theorem sw_an {a b m : Int} (ha : Word a) (hb : Word b) (hm : Word m) : an (sw1 m a b) (pk m a b) = an a b := by
  obtain ⟨x, rfl, hx⟩ := nat_word ha
  obtain ⟨y, rfl, hy⟩ := nat_word hb
  obtain ⟨z, rfl, hz⟩ := nat_word hm
  simp only [xr, sw1, pk, an, Int.toNat_natCast]
  congr 1
  apply Nat.eq_of_testBit_eq
  intro i
  simp only [Nat.testBit_xor, Nat.testBit_and]
  cases x.testBit i <;> cases y.testBit i <;> cases z.testBit i <;> rfl
theorem sw_rr {a b m : Int} (ha : Word a) (hb : Word b) (hm : Word m) : rr (sw1 m a b) (pk m a b) = rr a b := by
  obtain ⟨x, rfl, hx⟩ := nat_word ha
  obtain ⟨y, rfl, hy⟩ := nat_word hb
  obtain ⟨z, rfl, hz⟩ := nat_word hm
  simp only [xr, sw1, pk, an, rr, Int.toNat_natCast]
  congr 1
  apply Nat.eq_of_testBit_eq
  intro i
  simp only [Nat.testBit_xor, Nat.testBit_and, Nat.testBit_or]
  cases x.testBit i <;> cases y.testBit i <;> cases z.testBit i <;> rfl
theorem xr_self (a : Int) : xr a a = 0 := by simp [xr]
theorem an_zero' (a : Int) : an a 0 = 0 := by simp [an]
theorem pk_same {a m : Int} (ha : Word a) : pk m a a = a := by
  unfold pk; rw [xr_self, an_zero', xr_zero ha]
theorem zip_same {m : Int} : ∀ (a : List Int), (∀ x ∈ a, Word x) → List.zipWith (pk m) a a = a
  | [], _ => rfl
  | x :: l, h => by
    rw [List.zipWith_cons_cons, pk_same (h x (List.mem_cons_self ..)), zip_same l (fun y hy => h y (List.mem_cons_of_mem _ hy))]
theorem zip_zero : ∀ (a b : List Int), a.length = b.length → (∀ x ∈ a, Word x) → (∀ x ∈ b, Word x) → List.zipWith (pk 0) a b = b
  | [], [], _, _, _ => rfl
  | x :: l, y :: r, h, ha, hb => by
    have := pk_mk (a := x) (b := y) false (ha x (List.mem_cons_self ..)) (hb y (List.mem_cons_self ..))
    rw [List.zipWith_cons_cons, zip_zero l r (by simpa using h) (fun z hz => ha z (List.mem_cons_of_mem _ hz)) (fun z hz => hb z (List.mem_cons_of_mem _ hz))]
    have e : pk 0 x y = y := this
    rw [e]
theorem zip_max : ∀ (a b : List Int), a.length = b.length → (∀ x ∈ a, Word x) → (∀ x ∈ b, Word x) → List.zipWith (pk 18446744073709551615) a b = a
  | [], [], _, _, _ => rfl
  | x :: l, y :: r, h, ha, hb => by
    have := pk_mk (a := x) (b := y) true (ha x (List.mem_cons_self ..)) (hb y (List.mem_cons_self ..))
    rw [List.zipWith_cons_cons, zip_max l r (by simpa using h) (fun z hz => ha z (List.mem_cons_of_mem _ hz)) (fun z hz => hb z (List.mem_cons_of_mem _ hz))]
    have e : pk 18446744073709551615 x y = x := this
    rw [e]
theorem zip_twice {m : Int} (hm : Word m) : ∀ (a b : List Int), a.length = b.length → (∀ x ∈ a, Word x) → (∀ x ∈ b, Word x) →
    List.zipWith (sw1 m) (List.zipWith (sw1 m) a b) (List.zipWith (pk m) a b) = a ∧ List.zipWith (pk m) (List.zipWith (sw1 m) a b) (List.zipWith (pk m) a b) = b
  | [], [], _, _, _ => ⟨rfl, rfl⟩
  | x :: l, y :: r, h, ha, hb => by
    have ih := zip_twice hm l r (by simpa using h) (fun z hz => ha z (List.mem_cons_of_mem _ hz)) (fun z hz => hb z (List.mem_cons_of_mem _ hz))
    have ht := sw_twice (ha x (List.mem_cons_self ..)) (hb y (List.mem_cons_self ..)) hm
    simp only [List.zipWith_cons_cons]
    rw [ih.1, ih.2, ht.1, ht.2]
    exact ⟨rfl, rfl⟩
theorem zip_word {f : Int → Int → Int} (hf : ∀ x y, Word x → Word y → Word (f x y)) : ∀ (a b : List Int), (∀ x ∈ a, Word x) → (∀ x ∈ b, Word x) → ∀ x ∈ List.zipWith f a b, Word x := by
  intro a b ha hb x hx
  obtain ⟨i, hi, rfl⟩ := List.mem_iff_getElem.1 hx
  rw [List.getElem_zipWith]
  exact hf _ _ (ha _ (List.getElem_mem _)) (hb _ (List.getElem_mem _))
theorem lm_word (a b : Int) : Word (lm a b) := mk_word _
theorem em_word (a b : Int) : Word (em a b) := mk_word _
/-! ### Bit by bit -/
theorem div_word {a : Int} (ha : Word a) (k : Nat) : Word (a / 2 ^ k) := by
  obtain ⟨n, rfl, hn⟩ := nat_word ha
  rw [nat_pow_cast]
  have : (n : Int) / ((2 ^ k : Nat) : Int) = ((n / 2 ^ k : Nat) : Int) := by simp
  rw [this]
  exact ⟨Int.natCast_nonneg _, (Int.ofNat_lt.2 (Nat.lt_of_le_of_lt (Nat.div_le_self n (2 ^ k)) hn) : ((n / 2 ^ k : Nat) : Int) < ((18446744073709551616 : Nat) : Int))⟩
theorem bit_eq {a : Int} (ha : Word a) (k : Nat) : bits .and .u64 (a / 2 ^ k) 1 = a / 2 ^ k % 2 := by
  rw [bits_an (div_word ha k) one_word, an_one (div_word ha k)]
theorem int_bit (n k : Nat) : ((n : Int) / 2 ^ k % 2) = if n.testBit k then 1 else 0 := by
  rw [nat_pow_cast]
  have : (n : Int) / ((2 ^ k : Nat) : Int) % 2 = ((n / 2 ^ k % 2 : Nat) : Int) := by simp
  rw [this, Nat.testBit_eq_decide_div_mod_eq]
  by_cases h : n / 2 ^ k % 2 = 1
  · simp [h]
  · have : n / 2 ^ k % 2 = 0 := by omega
    simp [this]
theorem pk_bit {m a b : Int} (hm : Word m) (ha : Word a) (hb : Word b) (k : Nat) : pk m a b / 2 ^ k % 2 = if m / 2 ^ k % 2 = 1 then a / 2 ^ k % 2 else b / 2 ^ k % 2 := by
  obtain ⟨x, rfl, hx⟩ := nat_word ha
  obtain ⟨y, rfl, hy⟩ := nat_word hb
  obtain ⟨z, rfl, hz⟩ := nat_word hm
  simp only [pk, xr, an, Int.toNat_natCast]
  rw [int_bit, int_bit, int_bit, int_bit]
  simp only [Nat.testBit_xor, Nat.testBit_and]
  cases x.testBit k <;> cases y.testBit k <;> cases z.testBit k <;> simp
theorem mod_step (p : Int) (hp : 0 ≤ p) (k : Nat) : p % 2 ^ (k + 1) = p % 2 ^ k + p / 2 ^ k % 2 * 2 ^ k := by
  obtain ⟨n, rfl⟩ := Int.eq_ofNat_of_zero_le hp
  rw [nat_pow_cast, nat_pow_cast]
  have h : n % 2 ^ (k + 1) = n % 2 ^ k + n / 2 ^ k % 2 * 2 ^ k := by
    rw [Nat.pow_succ, Nat.mod_mul, Nat.mul_comm (2 ^ k)]
  have e : ((n % 2 ^ (k + 1) : Nat) : Int) = ((n % 2 ^ k + n / 2 ^ k % 2 * 2 ^ k : Nat) : Int) := by rw [h]
  simpa using e
theorem wrap_small {n : Int} (h0 : 0 ≤ n) (h1 : n < 18446744073709551616) : IntKind.u64.wrap n = n := by rw [IntKind.wrap_u64]; omega
theorem pick_step {p x : Int} (hp : Word p) (k : Nat) (hx : p / 2 ^ k % 2 = x / 2 ^ k % 2) :
    IntKind.u64.wrap (p % 2 ^ k + IntKind.u64.wrap (x / 2 ^ k % 2 * 2 ^ k)) = p % 2 ^ (k + 1) := by
  have hs := mod_step p hp.1 k
  rw [← hx]
  have hpos : 0 < (2 : Int) ^ (k + 1) := by rw [nat_pow_cast]; have := Nat.two_pow_pos (k + 1); omega
  have hpos' : 0 < (2 : Int) ^ k := by rw [nat_pow_cast]; have := Nat.two_pow_pos k; omega
  have h1 : p % 2 ^ (k + 1) ≤ p := by
    obtain ⟨n, rfl, _⟩ := nat_word hp
    rw [nat_pow_cast]
    have := Nat.mod_le n (2 ^ (k + 1))
    have e : ((n : Int) % ((2 ^ (k + 1) : Nat) : Int)) = ((n % 2 ^ (k + 1) : Nat) : Int) := by simp
    omega
  have h2 : 0 ≤ p % 2 ^ k := Int.emod_nonneg _ (by omega)
  have h3 : 0 ≤ p / 2 ^ k % 2 * 2 ^ k := Int.mul_nonneg (Int.emod_nonneg _ (by decide)) (by omega)
  have h4 := hp.2
  rw [wrap_small h3 (by omega), wrap_small (by omega) (by omega), ← hs]
theorem xr_comm (a b : Int) : xr a b = xr b a := by simp only [xr, Nat.xor_comm]

end Go.Sg
