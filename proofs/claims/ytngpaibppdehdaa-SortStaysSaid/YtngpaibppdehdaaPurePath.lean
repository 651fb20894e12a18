/-
  Plain facts on ways down a tree; no program in sight.
-/
import Derived.Test.YtngpaibppdehdaaPure1
namespace Go.Sg
open Go Go.RowKit

/-- A power of two from 1 to 1024. -/
def rightB (n : Int) : Bool := n == 1 || n == 2 || n == 4 || n == 8 || n == 16 || n == 32 || n == 64 || n == 128 || n == 256 || n == 512 || n == 1024
theorem rightB_pow (j : Nat) (hj : j ≤ 10) : rightB (2 ^ j) = true := by
  have : ∀ j : Fin 11, rightB (2 ^ j.val) = true := by decide +kernel
  exact this ⟨j, by omega⟩
theorem rightB_of {n : Int} (h : rightB n = true) : ∃ j : Nat, j ≤ 10 ∧ n = 2 ^ j := by
  simp only [rightB, Bool.or_eq_true, beq_iff_eq] at h
  rcases h with (((((((((h | h) | h) | h) | h) | h) | h) | h) | h) | h) | h
  · exact ⟨0, by omega, h⟩
  · exact ⟨1, by omega, h⟩
  · exact ⟨2, by omega, h⟩
  · exact ⟨3, by omega, h⟩
  · exact ⟨4, by omega, h⟩
  · exact ⟨5, by omega, h⟩
  · exact ⟨6, by omega, h⟩
  · exact ⟨7, by omega, h⟩
  · exact ⟨8, by omega, h⟩
  · exact ⟨9, by omega, h⟩
  · exact ⟨10, by omega, h⟩
theorem rightB_bd {n : Int} (h : rightB n = true) : 1 ≤ n ∧ n ≤ 1024 := by
  obtain ⟨j, hj, rfl⟩ := rightB_of h
  have : ∀ j : Fin 11, (1 : Int) ≤ 2 ^ j.val ∧ (2 : Int) ^ j.val ≤ 1024 := by decide +kernel
  exact this ⟨j, by omega⟩
theorem right_bits {n : Int} (h0 : 1 ≤ n) (h1 : n ≤ 1024) : (bits .and .i64 n (n - 1) == 0) = rightB n := by
  have : ∀ m : Fin 1025, (bits .and .i64 (m.val : Int) ((m.val : Int) - 1) == 0) = (if m.val = 0 then true else rightB (m.val : Int)) := by decide +kernel
  have h := this ⟨n.toNat, by omega⟩
  have e : ((n.toNat : Nat) : Int) = n := by omega
  simp only [e] at h
  rw [if_neg (by omega)] at h
  exact h

/-- How deep a tree is; how many nodes it has; is there such a leaf? -/
def depthI (n : Int) : Int := if rightB n then logI n else 0
def nodesI (n : Int) : Int := if rightB n then 2 * n - 1 else 0
def hasB (n l : Int) : Bool := rightB n && decide (0 ≤ l) && decide (l < n)
theorem depthI_pow (j : Nat) (hj : j ≤ 10) : depthI (2 ^ j) = j := by
  rw [depthI, if_pos (rightB_pow j hj), logI_pow j (by omega)]
theorem depthI_bd (n : Int) : 0 ≤ depthI n ∧ depthI n ≤ 10 := by
  unfold depthI
  split
  · rename_i h
    obtain ⟨j, hj, rfl⟩ := rightB_of h
    rw [logI_pow j (by omega)]
    omega
  · omega

/-- A node of a way. -/
def nodeI (n l d : Int) : Int := if hasB n l = true ∧ 0 ≤ d ∧ d ≤ depthI n then 2 ^ d.toNat - 1 + l / 2 ^ (depthI n - d).toNat else -1
/-- A way. -/
def pathL (n l : Int) : List Int := if hasB n l then (List.range ((depthI n).toNat + 1)).map (fun d : Nat => nodeI n l (d : Int)) else []

/-! ### How far two ways are one -/
/-- How often two leaves are one behind halvings, from none to D - 1 of them. -/
def eqs (D : Nat) (a b : Int) : Nat := ((List.range D).filter fun i => decide (a / 2 ^ i = b / 2 ^ i)).length
def deepI (n a b : Int) : Int := if hasB n a = true ∧ hasB n b = true then (eqs (depthI n).toNat a b : Int) else -1

theorem half_pow (a : Int) (k : Nat) : a / 2 ^ (k + 1) = a / 2 ^ k / 2 := by
  rw [Int.pow_succ, Int.ediv_ediv_of_nonneg (Int.pow_nonneg (by decide))]
theorem eq_up {a b : Int} {k i : Nat} (h : a / 2 ^ k = b / 2 ^ k) (hi : k ≤ i) : a / 2 ^ i = b / 2 ^ i := by
  induction i with
  | zero => obtain rfl : k = 0 := by omega
            exact h
  | succ i ih =>
    rcases Nat.lt_or_ge i k with h1 | h1
    · obtain rfl : k = i + 1 := by omega
      exact h
    · rw [half_pow, half_pow, ih h1]
theorem filter_range_ge (k D : Nat) (hk : k ≤ D) (p : Nat → Bool) (h0 : ∀ i, i < k → p i = false) (h1 : ∀ i, k ≤ i → i < D → p i = true) : ((List.range D).filter p).length = D - k := by
  induction D with
  | zero => simp
  | succ D ih =>
    rw [List.range_succ, List.filter_append, List.length_append]
    rcases Nat.lt_or_ge D k with h | h
    · obtain rfl : k = D + 1 := by omega
      have : (List.range D).filter p = [] := List.filter_eq_nil_iff.2 fun i hi => by
        have := h0 i (by have := List.mem_range.1 hi; omega)
        simp [this]
      rw [this]
      simp [h0 D (by omega)]
    · rw [ih h (fun i hi _ => h1 i hi (by omega))]
      simp [h1 D h (by omega)]
      omega
/-- The first halving behind which they are one tells how often they are. -/
theorem eqs_of {a b : Int} {D k : Nat} (hk : k ≤ D) (h0 : ∀ i, i < k → a / 2 ^ i ≠ b / 2 ^ i) (h1 : a / 2 ^ k = b / 2 ^ k) : eqs D a b = D - k :=
  filter_range_ge k D hk _ (fun i hi => decide_eq_false (h0 i hi)) (fun _ hi _ => decide_eq_true (eq_up h1 hi))
theorem leaf_top {a : Int} {D : Nat} (h0 : 0 ≤ a) (h1 : a < 2 ^ D) : a / 2 ^ D = 0 := Int.ediv_eq_zero_of_lt h0 h1
theorem exists_first {a b : Int} {D : Nat} (ha0 : 0 ≤ a) (ha : a < 2 ^ D) (hb0 : 0 ≤ b) (hb : b < 2 ^ D) : ∃ k, k ≤ D ∧ (∀ i, i < k → a / 2 ^ i ≠ b / 2 ^ i) ∧ a / 2 ^ k = b / 2 ^ k := by
  have hall : ∀ d, (∃ k, k ≤ d ∧ (∀ i, i < k → a / 2 ^ i ≠ b / 2 ^ i) ∧ a / 2 ^ k = b / 2 ^ k) ∨ (∀ i, i ≤ d → a / 2 ^ i ≠ b / 2 ^ i) := by
    intro d
    induction d with
    | zero =>
      by_cases h : a / 2 ^ 0 = b / 2 ^ 0
      · exact .inl ⟨0, Nat.le_refl _, fun _ hi => by omega, h⟩
      · exact .inr fun i hi => by obtain rfl : i = 0 := by omega
                                  exact h
    | succ d ih =>
      rcases ih with ⟨k, hk, h⟩ | h
      · exact .inl ⟨k, by omega, h⟩
      · by_cases h2 : a / 2 ^ (d + 1) = b / 2 ^ (d + 1)
        · exact .inl ⟨d + 1, Nat.le_refl _, fun i hi => h i (by omega), h2⟩
        · refine .inr fun i hi => ?_
          rcases Nat.lt_or_ge i (d + 1) with h3 | h3
          · exact h i (by omega)
          · obtain rfl : i = d + 1 := by omega
            exact h2
  rcases hall D with h | h
  · exact h
  · exact absurd (by rw [leaf_top ha0 ha, leaf_top hb0 hb]) (h D (Nat.le_refl _))
theorem hasB_of {n l : Int} (h : hasB n l = true) : ∃ D : Nat, D ≤ 10 ∧ n = 2 ^ D ∧ depthI n = D ∧ 0 ≤ l ∧ l < 2 ^ D := by
  simp only [hasB, Bool.and_eq_true, decide_eq_true_eq] at h
  obtain ⟨⟨h1, h2⟩, h3⟩ := h
  obtain ⟨D, hD, rfl⟩ := rightB_of h1
  exact ⟨D, hD, rfl, depthI_pow D hD, h2, h3⟩
theorem nodeI_at {D : Nat} (hD : D ≤ 10) {l : Int} (h0 : 0 ≤ l) (h1 : l < 2 ^ D) (d : Nat) (hd : d ≤ D) : nodeI (2 ^ D) l d = 2 ^ d - 1 + l / 2 ^ (D - d) := by
  have hh : hasB (2 ^ D) l = true := by simp [hasB, rightB_pow D hD, h0, h1]
  rw [nodeI, if_pos ⟨hh, by omega, by rw [depthI_pow D hD]; omega⟩, depthI_pow D hD]
  congr 2
  congr 1
  omega
/-! ### What the document's answers compute -/
theorem pow_mono' (a b : Nat) (h : a ≤ b) : (2 : Int) ^ a ≤ 2 ^ b := by
  have : (2 : Nat) ^ a ≤ 2 ^ b := Nat.pow_le_pow_right (by decide) h
  exact_mod_cast this
theorem pow_lt' (a b : Nat) (h : a < b) : (2 : Int) ^ a < 2 ^ b := by
  have : (2 : Nat) ^ a < 2 ^ b := Nat.pow_lt_pow_right (by decide) h
  exact_mod_cast this
theorem pow_inj' (a b : Nat) (h : (2 : Int) ^ a = 2 ^ b) : a = b := by
  rcases Nat.lt_trichotomy a b with h1 | h1 | h1
  · have := pow_lt' a b h1; omega
  · exact h1
  · have := pow_lt' b a h1; omega
theorem refRight_end {n : Int} {j : Nat} (hj : j ≤ 10) (h0 : j = 0 ∨ (2 : Int) ^ (j - 1) < n) (h1 : n ≤ 2 ^ j ∨ j = 10) : ((2 : Int) ^ j == n) = rightB n := by
  cases hr : rightB n with
  | true =>
    obtain ⟨i, hi, rfl⟩ := rightB_of hr
    have : j = i := by
      rcases Nat.lt_trichotomy j i with h | h | h
      · rcases h1 with h1 | h1
        · have := pow_lt' j i h; omega
        · omega
      · exact h
      · rcases h0 with h0 | h0
        · omega
        · have := pow_mono' i (j - 1) (by omega); omega
    simp [this]
  | false =>
    rw [beq_eq_false_iff_ne]
    intro h
    rw [← h, rightB_pow j hj] at hr
    simp at hr
theorem node_up {D : Nat} (hD : D ≤ 10) {l : Int} (h0 : 0 ≤ l) (h1 : l < 2 ^ D) (d : Nat) (hd : d + 1 ≤ D) : (nodeI (2 ^ D) l ((d + 1 : Nat) : Int) - 1) / 2 = nodeI (2 ^ D) l (d : Int) := by
  rw [nodeI_at hD h0 h1 (d + 1) hd, nodeI_at hD h0 h1 d (by omega), Int.pow_succ]
  have : D - d = (D - (d + 1)) + 1 := by omega
  rw [this, half_pow]
  omega
theorem node_bd {D : Nat} (hD : D ≤ 10) {l : Int} (h0 : 0 ≤ l) (h1 : l < 2 ^ D) (d : Nat) (hd : d ≤ D) : 2 ^ d - 1 ≤ nodeI (2 ^ D) l (d : Int) ∧ nodeI (2 ^ D) l (d : Int) < 2 ^ (d + 1) - 1 := by
  rw [nodeI_at hD h0 h1 d hd, Int.pow_succ]
  have e : (2 : Int) ^ D = 2 ^ d * 2 ^ (D - d) := by rw [← Int.pow_add]; congr 1; omega
  rw [e] at h1
  have hp := pow_le_62 (D - d) (by omega)
  have := Int.ediv_lt_of_lt_mul (a := l) hp.2 h1
  have := Int.ediv_nonneg h0 (Int.le_of_lt hp.2)
  omega
theorem pathL_len {n l : Int} (h : hasB n l = true) : (pathL n l).length = (depthI n).toNat + 1 := by simp [pathL, h]
theorem pathL_not {n l : Int} (h : hasB n l = false) : pathL n l = [] := by simp [pathL, h]
theorem pathL_at {n l : Int} (h : hasB n l = true) (d : Nat) (hd : d < (pathL n l).length) : (pathL n l)[d] = nodeI n l (d : Int) := by simp [pathL, h]
/-- The part of a way from a level on. -/
def tailL (n l : Int) (d k : Nat) : List Int := (List.range k).map fun i : Nat => nodeI n l ((d + i : Nat) : Int)
theorem tailL_cons (n l : Int) (d k : Nat) : tailL n l d (k + 1) = nodeI n l (d : Int) :: tailL n l (d + 1) k := by
  simp only [tailL, List.range_succ_eq_map, List.map_cons, List.map_map, Nat.add_zero]
  congr 1
  refine List.map_congr_left fun i _ => ?_
  simp only [Function.comp]
  congr 2
  omega
theorem tailL_all {n l : Int} (h : hasB n l = true) {D : Nat} (hd : depthI n = D) : tailL n l 0 (D + 1) = pathL n l := by
  simp [tailL, pathL, h, hd]
theorem and_bd (x : Int) {m : Int} (h0 : 0 ≤ m) (h1 : m < 9223372036854775808) : 0 ≤ bits .and .i64 x m ∧ bits .and .i64 x m ≤ m := by
  obtain ⟨b, rfl⟩ := Int.eq_ofNat_of_zero_le h0
  have hb : b % 2 ^ 64 = b := Nat.mod_eq_of_lt (by omega)
  have hle : (BitVec.ofInt 64 x &&& BitVec.ofNat 64 b).toNat ≤ b := by rw [BitVec.toNat_and, BitVec.toNat_ofNat, hb]; exact Nat.and_le_right
  have e : bits .and .i64 x (b : Int) = IntKind.i64.wrap (((BitVec.ofInt 64 x &&& BitVec.ofNat 64 b).toNat : Nat) : Int) := rfl
  rw [e, IntKind.wrap_i64]
  generalize (BitVec.ofInt 64 x &&& BitVec.ofNat 64 b).toNat = n at *
  omega
theorem half_pow' (a : Int) (k : Nat) : a / 2 / 2 ^ k = a / 2 ^ (k + 1) := by
  rw [Int.pow_succ, Int.mul_comm, Int.ediv_ediv_of_nonneg (by decide)]
/-- Of a tree of twice as many leaves. -/
theorem twice_facts {D : Nat} (hD : D ≤ 9) {k : Int} (h0 : 0 ≤ k) (h1 : k < 2 ^ (D + 1)) :
    (pathL (2 ^ (D + 1)) k).length = D + 2 ∧ (pathL (2 ^ D) (k / 2)).length = D + 1 ∧ (pathL (2 ^ (D + 1)) k).take (D + 1) = pathL (2 ^ D) (k / 2) ∧
    nodesI (2 ^ (D + 1)) = 2 * nodesI (2 ^ D) + 1 ∧ depthI (2 ^ (D + 1)) = depthI (2 ^ D) + 1 := by
  have e := Int.pow_succ 2 D
  have hh : hasB (2 ^ (D + 1)) k = true := by simp [hasB, rightB_pow (D + 1) (by omega), h0, h1]
  have hh2 : hasB (2 ^ D) (k / 2) = true := by
    simp only [hasB, rightB_pow D (by omega), Bool.true_and, Bool.and_eq_true, decide_eq_true_eq]
    omega
  have l1 : (pathL (2 ^ (D + 1)) k).length = D + 2 := by rw [pathL_len hh, depthI_pow (D + 1) (by omega)]; omega
  have l2 : (pathL (2 ^ D) (k / 2)).length = D + 1 := by rw [pathL_len hh2, depthI_pow D (by omega)]; omega
  refine ⟨l1, l2, ?_, ?_, ?_⟩
  · refine List.ext_getElem (by rw [List.length_take, l1, l2]; omega) fun i hi hi' => ?_
    rw [List.getElem_take, pathL_at hh, pathL_at hh2, nodeI_at (by omega) h0 h1 i (by omega), nodeI_at (by omega) (by omega) (by omega) i (by omega)]
    congr 1
    rw [show D + 1 - i = (D - i) + 1 by omega, ← half_pow']
  · rw [nodesI, nodesI, if_pos (rightB_pow (D + 1) (by omega)), if_pos (rightB_pow D (by omega)), e]
    omega
  · rw [depthI_pow (D + 1) (by omega), depthI_pow D (by omega)]; omega
theorem eqs_symm (D : Nat) (a b : Int) : eqs D a b = eqs D b a := by
  unfold eqs
  congr 2
  funext i
  exact decide_eq_decide.2 eq_comm
theorem hasB_pow {D : Nat} (hD : D ≤ 10) {a : Int} (h0 : 0 ≤ a) (h1 : a < 2 ^ D) : hasB (2 ^ D) a = true := by simp [hasB, rightB_pow D hD, h0, h1]
theorem deepI_pow {D : Nat} (hD : D ≤ 10) {a b : Int} (a0 : 0 ≤ a) (a1 : a < 2 ^ D) (b0 : 0 ≤ b) (b1 : b < 2 ^ D) : deepI (2 ^ D) a b = (eqs D a b : Int) := by
  rw [deepI, if_pos ⟨hasB_pow hD a0 a1, hasB_pow hD b0 b1⟩, depthI_pow D hD, Int.toNat_natCast]
theorem eqs_le (D : Nat) (a b : Int) : eqs D a b ≤ D := by
  unfold eqs
  exact Nat.le_trans (List.length_filter_le _ _) (by simp)
theorem eqs_self (D : Nat) (a : Int) : eqs D a a = D := by rw [eqs, List.filter_eq_self.2 (fun _ _ => by simp)]; simp
theorem eqs_first {D : Nat} {a b : Int} (a0 : 0 ≤ a) (a1 : a < 2 ^ D) (b0 : 0 ≤ b) (b1 : b < 2 ^ D) (i : Nat) : (a / 2 ^ i = b / 2 ^ i) ↔ D - eqs D a b ≤ i := by
  obtain ⟨m, hm, m0, m1⟩ := exists_first a0 a1 b0 b1
  rw [eqs_of hm m0 m1]
  constructor
  · intro h
    rcases Nat.lt_or_ge i m with h2 | h2
    · exact absurd h (m0 i h2)
    · omega
  · intro h
    exact eq_up m1 (by omega)
/-- What 'PathCommon' asks. -/
theorem common_facts {D : Nat} (hD : D ≤ 10) {a b c : Int} (a0 : 0 ≤ a) (a1 : a < 2 ^ D) (b0 : 0 ≤ b) (b1 : b < 2 ^ D) (c0 : 0 ≤ c) (c1 : c < 2 ^ D) :
    (∀ k : Nat, k < D → (a / 2 ^ (D - 1 - k) == b / 2 ^ (D - 1 - k)) = decide (k < eqs D a b)) ∧
    min (eqs D a b) (eqs D b c) ≤ eqs D a c ∧ nodeI (2 ^ D) a (eqs D a b : Int) = nodeI (2 ^ D) b (eqs D a b : Int) ∧
    (eqs D a b < D → nodeI (2 ^ D) a ((eqs D a b : Int) + 1) ≠ nodeI (2 ^ D) b ((eqs D a b : Int) + 1)) := by
  have h1 := eqs_le D a b
  have h2 := eqs_le D b c
  have h3 := eqs_le D a c
  refine ⟨fun k hk => ?_, ?_, ?_, fun h => ?_⟩
  · rw [Bool.eq_iff_iff, beq_iff_eq, decide_eq_true_eq, eqs_first a0 a1 b0 b1]
    omega
  · have e1 := (eqs_first a0 a1 b0 b1 (D - min (eqs D a b) (eqs D b c))).2 (by omega)
    have e2 := (eqs_first b0 b1 c0 c1 (D - min (eqs D a b) (eqs D b c))).2 (by omega)
    have e3 := (eqs_first a0 a1 c0 c1 (D - min (eqs D a b) (eqs D b c))).1 (e1.trans e2)
    omega
  · rw [nodeI_at hD a0 a1 _ h1, nodeI_at hD b0 b1 _ h1, (eqs_first a0 a1 b0 b1 (D - eqs D a b)).2 (by omega)]
  · have e : ((eqs D a b : Int) + 1) = ((eqs D a b + 1 : Nat) : Int) := by omega
    rw [e, nodeI_at hD a0 a1 _ (by omega), nodeI_at hD b0 b1 _ (by omega)]
    intro hh
    have := (eqs_first a0 a1 b0 b1 (D - (eqs D a b + 1))).1 (by omega)
    omega
/-! ### Buckets -/
/-- How many of the first k numbers lie in the j-th bucket of 2^s. -/
def cl (j : Int) (s : Nat) (k : Int) : Int := max 0 (min (k - j * 2 ^ s) (2 ^ s))
theorem cl_zero {j : Int} (s : Nat) (h : 0 ≤ j) : cl j s 0 = 0 := by
  unfold cl
  have hp : 0 ≤ (2 : Int) ^ s := Int.pow_nonneg (by decide)
  have := Int.mul_nonneg h hp
  omega
theorem cl_bd (j : Int) (s : Nat) (k : Int) (hk : 0 ≤ k) : 0 ≤ cl j s k ∧ (0 ≤ j → cl j s k ≤ k) := by
  unfold cl
  have hp : 0 ≤ (2 : Int) ^ s := Int.pow_nonneg (by decide)
  refine ⟨by omega, fun h => ?_⟩
  have := Int.mul_nonneg h hp
  omega
theorem cl_step {j k : Int} (s : Nat) (P : Int) (hP : P = 2 ^ s) (h0 : 0 < P) : cl j s (k + 1) = cl j s k + (if k / P = j then 1 else 0) := by
  unfold cl
  rw [← hP]
  have h1 := Int.mul_ediv_add_emod k P
  have h2 := Int.emod_nonneg k (show P ≠ 0 by omega)
  have h3 := Int.emod_lt_of_pos k h0
  generalize k % P = r at *
  generalize hq : k / P = q at *
  split
  · rename_i h
    subst h
    rw [Int.mul_comm P q] at h1
    omega
  · rename_i h
    rcases Int.lt_or_gt_of_ne h with h4 | h4
    · have := Int.mul_le_mul_of_nonneg_left (show q + 1 ≤ j by omega) (Int.le_of_lt h0)
      rw [Int.mul_add, Int.mul_one, Int.mul_comm P j] at this
      omega
    · have := Int.mul_le_mul_of_nonneg_left (show j + 1 ≤ q by omega) (Int.le_of_lt h0)
      rw [Int.mul_add, Int.mul_one, Int.mul_comm P j] at this
      omega
theorem cl_end {j k : Int} (s : Nat) (h : (j + 1) * 2 ^ s ≤ k) : cl j s k = 2 ^ s := by
  unfold cl
  have hp : 0 ≤ (2 : Int) ^ s := Int.pow_nonneg (by decide)
  rw [Int.add_mul, Int.one_mul] at h
  omega
/-- Two nodes of two ways are one just on one level, below one bucket. -/
theorem node_eq {D : Nat} (hD : D ≤ 10) {a b : Int} (a0 : 0 ≤ a) (a1 : a < 2 ^ D) (b0 : 0 ≤ b) (b1 : b < 2 ^ D) (d e : Nat) (hd : d ≤ D) (he : e ≤ D) :
    nodeI (2 ^ D) a (d : Int) = nodeI (2 ^ D) b (e : Int) ↔ d = e ∧ a / 2 ^ (D - e) = b / 2 ^ (D - e) := by
  constructor
  · intro h
    have h1 := node_bd hD a0 a1 d hd
    have h2 := node_bd hD b0 b1 e he
    have : d = e := by
      rcases Nat.lt_trichotomy d e with g | g | g
      · have := pow_mono' (d + 1) e g; omega
      · exact g
      · have := pow_mono' (e + 1) d g; omega
    subst this
    rw [nodeI_at hD a0 a1 d hd, nodeI_at hD b0 b1 d hd] at h
    exact ⟨rfl, by omega⟩
  · rintro ⟨rfl, h⟩
    rw [nodeI_at hD a0 a1 d hd, nodeI_at hD b0 b1 d hd, h]
theorem pow_div (D e : Nat) (h : e ≤ D) : (2 : Int) ^ D / 2 ^ e = 2 ^ (D - e) := by
  have : (2 : Int) ^ D = 2 ^ (D - e) * 2 ^ e := by rw [← Int.pow_add]; congr 1; omega
  rw [this, Int.mul_ediv_cancel _ (by have := pow_mono' 0 e (by omega); simp at this; omega)]
/-- What 'PathBuckets' asks. -/
theorem buckets_facts {D : Nat} (hD : D ≤ 10) {x : Int} (x0 : 0 ≤ x) (x1 : x < 2 ^ D) (d : Nat) (hd : d ≤ D) :
    (∀ k : Nat, (k : Int) < 2 ^ D → (∀ i : Nat, i ≤ D → (nodeI (2 ^ D) k (i : Int) == nodeI (2 ^ D) x (d : Int)) = (decide (i = d) && decide (d ≤ eqs D x k))) ∧
      cl (x / 2 ^ (D - d)) (D - d) ((k : Int) + 1) = cl (x / 2 ^ (D - d)) (D - d) k + (if d ≤ eqs D x k then 1 else 0)) ∧
    cl (x / 2 ^ (D - d)) (D - d) (2 ^ D) = 2 ^ D / 2 ^ d := by
  have hpp := pow_le_62 (D - d) (by omega)
  refine ⟨fun k hk => ⟨fun i hi => ?_, ?_⟩, ?_⟩
  · rw [Bool.eq_iff_iff, beq_iff_eq, node_eq hD (by omega) hk x0 x1 i d hi hd, Bool.and_eq_true, decide_eq_true_eq, decide_eq_true_eq]
    have := eqs_first x0 x1 (by omega : (0 : Int) ≤ k) hk (D - d)
    have := eqs_le D x k
    constructor
    · rintro ⟨h1, h2⟩
      have := (eqs_first x0 x1 (by omega : (0 : Int) ≤ k) hk (D - d)).1 h2.symm
      exact ⟨h1, by omega⟩
    · rintro ⟨h1, h2⟩
      exact ⟨h1, ((eqs_first x0 x1 (by omega : (0 : Int) ≤ k) hk (D - d)).2 (by omega)).symm⟩
  · rw [cl_step (D - d) (2 ^ (D - d)) rfl hpp.2]
    have h1 := eqs_first x0 x1 (by omega : (0 : Int) ≤ k) hk (D - d)
    have h2 := eqs_le D x k
    congr 1
    by_cases h : d ≤ eqs D x k
    · rw [if_pos (h1.2 (by omega)).symm, if_pos h]
    · rw [if_neg (fun hh => h (by have := h1.1 hh.symm; omega)), if_neg h]
  · rw [pow_div D d hd]
    refine cl_end _ ?_
    have e : (2 : Int) ^ D = 2 ^ d * 2 ^ (D - d) := by rw [← Int.pow_add]; congr 1; omega
    rw [e] at x1 ⊢
    have := Int.ediv_lt_of_lt_mul hpp.2 x1
    exact Int.mul_le_mul_of_nonneg_right (by omega) (Int.le_of_lt hpp.2)
/-! ### How often all ways meet a node -/
def dep (j : Nat) : Nat := (logI ((j : Int) + 1)).toNat
/-- How often the first leaf ways, and the first i nodes of the next one, meet node j. -/
def cnt (D leaf i j : Nat) : Int := cl ((j : Int) + 1 - 2 ^ dep j) (D - dep j) (if dep j < i then (leaf : Int) + 1 else leaf)
theorem dep_of {j d : Nat} (hd : d ≤ 60) (h0 : (2 : Int) ^ d - 1 ≤ j) (h1 : (j : Int) < 2 ^ (d + 1) - 1) : dep j = d := by
  have hp := pow_le_62 (d + 1) (by omega)
  have e0 : ((2 ^ d : Nat) : Int) = 2 ^ d := by simp
  have e1 : ((2 ^ (d + 1) : Nat) : Int) = 2 ^ (d + 1) := by simp
  unfold dep
  rw [logI_of ⟨by omega, by omega⟩ d (by omega) (by omega)]
  omega
theorem dep_spec (j : Nat) (hj : j < 4096) : (2 : Int) ^ dep j - 1 ≤ j ∧ (j : Int) < 2 ^ (dep j + 1) - 1 := by
  obtain ⟨k, _, e, h0, h1⟩ := logI_word (a := (j : Int) + 1) ⟨by omega, by omega⟩ (by omega)
  have e0 : ((2 ^ k : Nat) : Int) = 2 ^ k := by simp
  have e1 : ((2 ^ (k + 1) : Nat) : Int) = 2 ^ (k + 1) := by simp
  unfold dep
  rw [e, Int.toNat_natCast]
  omega
theorem dep_le {D j : Nat} (hD : D ≤ 10) (hj : (j : Int) < 2 * 2 ^ D - 1) : dep j ≤ D := by
  have hb := pow_mono' D 10 hD
  have e10 : (2 : Int) ^ 10 = 1024 := by decide
  have hs := dep_spec j (by omega)
  rcases Nat.lt_or_ge D (dep j) with h | h
  · have := pow_mono' (D + 1) (dep j) h
    rw [Int.pow_succ] at this
    omega
  · exact h
theorem cnt_zero {D j : Nat} (hj : j < 4096) : cnt D 0 0 j = 0 := by
  have hs := dep_spec j hj
  unfold cnt
  rw [if_neg (by omega)]
  exact cl_zero _ (by omega)
theorem cnt_next {D leaf j : Nat} (h : dep j ≤ D) : cnt D leaf (D + 1) j = cnt D (leaf + 1) 0 j := by
  unfold cnt
  rw [if_pos (by omega), if_neg (by omega)]
  simp
theorem cnt_step {D leaf i j : Nat} (hD : D ≤ 10) (hl : (leaf : Int) < 2 ^ D) (hi : i ≤ D) (hj : j < 4096) :
    cnt D leaf (i + 1) j = cnt D leaf i j + (if (j : Int) = nodeI (2 ^ D) leaf (i : Int) then 1 else 0) := by
  have hb := node_bd hD (by omega : (0 : Int) ≤ leaf) hl i hi
  have hs := dep_spec j hj
  unfold cnt
  by_cases h : dep j = i
  · rw [h, if_pos (by omega), if_neg (by omega), nodeI_at hD (by omega) hl i hi, cl_step (D - i) (2 ^ (D - i)) rfl (pow_le_62 _ (by omega)).2]
    congr 1
    have : ((leaf : Int) / 2 ^ (D - i) = (j : Int) + 1 - 2 ^ i) ↔ ((j : Int) = 2 ^ i - 1 + (leaf : Int) / 2 ^ (D - i)) := by omega
    simp only [this]
  · have hne : ¬ (j : Int) = nodeI (2 ^ D) leaf (i : Int) := fun hh => h (dep_of (by omega) (by omega) (by omega))
    rw [if_neg hne]
    have : (dep j < i + 1) ↔ (dep j < i) := by omega
    simp only [this]
    omega
theorem cnt_bd {D leaf i j : Nat} (hD : D ≤ 10) : 0 ≤ cnt D leaf i j ∧ cnt D leaf i j ≤ 1024 := by
  unfold cnt cl
  have hp := pow_le_62 (D - dep j) (by omega)
  have h2 := pow_mono' (D - dep j) 10 (by omega)
  have e10 : (2 : Int) ^ 10 = 1024 := by decide
  omega
theorem cnt_end {D M j : Nat} (hM : (M : Int) = 2 ^ D) (h : dep j ≤ D) (hj : j < 4096) : cnt D M 0 j = 2 ^ D / 2 ^ dep j := by
  have hs := dep_spec j hj
  unfold cnt
  rw [if_neg (by omega), pow_div D _ h, hM]
  refine cl_end _ ?_
  have e : (2 : Int) ^ D = 2 ^ dep j * 2 ^ (D - dep j) := by rw [← Int.pow_add]; congr 1; omega
  rw [e]
  have hp : (0 : Int) ≤ 2 ^ (D - dep j) := Int.pow_nonneg (by decide)
  refine Int.mul_le_mul_of_nonneg_right ?_ hp
  rw [Int.pow_succ] at hs
  omega
/-- The next node of a way lies below the one ahead. -/
theorem node_down {D : Nat} (hD : D ≤ 10) {l : Int} (h0 : 0 ≤ l) (h1 : l < 2 ^ D) (d : Nat) (hd : d + 1 ≤ D) :
    nodeI (2 ^ D) l ((d + 1 : Nat) : Int) = 2 * nodeI (2 ^ D) l (d : Int) + 1 ∨ nodeI (2 ^ D) l ((d + 1 : Nat) : Int) = 2 * nodeI (2 ^ D) l (d : Int) + 2 := by
  have := node_up hD h0 h1 d hd
  have hb := node_bd hD h0 h1 (d + 1) hd
  have hp := pow_mono' 1 (d + 1) (by omega)
  omega
end Go.Sg
