/-
  Joined texts: Len, Bit, NetL.
-/
import Derived.Shelf.Strconv.Itoa0
import Derived.Test.YthchfdobdghdoaaGreatProg
set_option linter.unusedVariables false
set_option linter.unusedSimpArgs false
set_option linter.unusedSectionVars false
set_option linter.unnecessarySimpa false
section

/-
  The library's contract of math/bits.Len64 at this seat's program.
-/
namespace Go.Proofs
open Go.Shelf
def Tryz.lays129_ren : Go.Shelf.Ren := ⟨fun | 129 => 78 | n => n, fun | 53 => 56 | 3 => 3 | 4 => 4 | 46 => 157 | 5 => 5 | 9 => 9 | n => n, fun | n => n⟩
theorem Tryz.lays129 : Go.Proofs.Lays.n129 Tryz.prog Tryz.lays129_ren := {
  mixed := by kernel_rfl
  f129 := Tryz.func78.trans (congrArg some (by kernel_rfl))
  t3 := Tryz.underlying3
  a3 := Tryz.isAgg3
  z3 := Tryz.sizeOf3
  v3 := Tryz.zeroValue3
  t4 := Tryz.underlying4
  a4 := Tryz.isAgg4
  z4 := Tryz.sizeOf4
  v4 := Tryz.zeroValue4
  t5 := Tryz.underlying5
  a5 := Tryz.isAgg5
  z5 := Tryz.sizeOf5
  v5 := Tryz.zeroValue5
  t9 := Tryz.underlying9
  a9 := Tryz.isAgg9
  z9 := Tryz.sizeOf9
  v9 := Tryz.zeroValue9
  t46 := Tryz.underlying157
  a46 := Tryz.isAgg157
  z46 := Tryz.sizeOf157
  v46 := Tryz.zeroValue157
  t53 := Tryz.underlying56
  a53 := Tryz.isAgg56
  z53 := Tryz.sizeOf56
  v53 := Tryz.zeroValue56 }
theorem Tryz.bits_Len64 (x : Int) (w : World) (h0 : 0 ≤ x) (h1 : x ≤ 18446744073709551615) :
    Calls Tryz.prog 78 #[.int .u64 x] w fun e w' => e = .returned (.int .i64 (Lib.bitLen x.toNat)) ∧ w' = w := Any.bits_Len64 Tryz.lays129 x w h0 h1
end Go.Proofs
end
section

/-
  A bitonic network sorts: in plain Lean, of functions from places to Bool; then of lists by a key.
-/
namespace Go.Sg

/-- ones that stand in a row, or noughts that do -/
def Bit (P : Nat → Bool) (m : Nat) : Prop := ∃ a b, (∀ x, x < m → P x = decide (a ≤ x ∧ x < b)) ∨ (∀ x, x < m → P x = !decide (a ≤ x ∧ x < b))
def UpB (P : Nat → Bool) (m : Nat) : Prop := ∃ a, ∀ x, x < m → P x = decide (a ≤ x)
def DnB (P : Nat → Bool) (m : Nat) : Prop := ∃ a, ∀ x, x < m → P x = decide (x < a)

theorem Bit.congr {P Q : Nat → Bool} {m : Nat} (h : Bit P m) (e : ∀ x, x < m → Q x = P x) : Bit Q m := by
  obtain ⟨a, b, h | h⟩ := h
  · exact ⟨a, b, .inl fun x hx => (e x hx).trans (h x hx)⟩
  · exact ⟨a, b, .inr fun x hx => (e x hx).trans (h x hx)⟩
theorem UpB.congr {P Q : Nat → Bool} {m : Nat} (h : UpB P m) (e : ∀ x, x < m → Q x = P x) : UpB Q m := by
  obtain ⟨a, h⟩ := h
  exact ⟨a, fun x hx => (e x hx).trans (h x hx)⟩
theorem DnB.congr {P Q : Nat → Bool} {m : Nat} (h : DnB P m) (e : ∀ x, x < m → Q x = P x) : DnB Q m := by
  obtain ⟨a, h⟩ := h
  exact ⟨a, fun x hx => (e x hx).trans (h x hx)⟩

/-- one half of what is compared is all alike, both are rows again -/
theorem clean {P : Nat → Bool} {m : Nat} (h : Bit P (2 * m)) :
    Bit (fun x => P x && P (m + x)) m ∧ Bit (fun x => P x || P (m + x)) m ∧ ((∀ x, x < m → (P x && P (m + x)) = false) ∨ (∀ x, x < m → (P x || P (m + x)) = true)) := by
  obtain ⟨a, b, h | h⟩ := h
  · have h1 : ∀ x, x < m → P x = decide (a ≤ x ∧ x < b) := fun x hx => h x (by omega)
    have h2 : ∀ x, x < m → P (m + x) = decide (a ≤ m + x ∧ m + x < b) := fun x hx => h (m + x) (by omega)
    by_cases hl : min b (2 * m) ≤ a + m
    · refine ⟨⟨0, 0, .inl fun x hx => ?_⟩, ?_, .inl fun x hx => ?_⟩
      · rw [Bool.eq_iff_iff]; simp only [h1 x hx, h2 x hx, Bool.and_eq_true, decide_eq_true_eq]; omega
      · by_cases h3 : b ≤ m
        · refine ⟨a, b, .inl fun x hx => ?_⟩
          rw [Bool.eq_iff_iff]; simp only [h1 x hx, h2 x hx, Bool.or_eq_true, decide_eq_true_eq]; omega
        · by_cases h4 : m ≤ a
          · refine ⟨a - m, b - m, .inl fun x hx => ?_⟩
            rw [Bool.eq_iff_iff]; simp only [h1 x hx, h2 x hx, Bool.or_eq_true, decide_eq_true_eq]; omega
          · refine ⟨b - m, a, .inr fun x hx => ?_⟩
            rw [Bool.eq_iff_iff]; simp only [h1 x hx, h2 x hx, Bool.or_eq_true, Bool.not_eq_true', decide_eq_true_eq, decide_eq_false_iff_not]; omega
      · simp only [h1 x hx, h2 x hx, Bool.eq_false_iff, ne_eq, Bool.and_eq_true, decide_eq_true_eq]; omega
    · refine ⟨⟨a, b - m, .inl fun x hx => ?_⟩, ⟨0, m, .inl fun x hx => ?_⟩, .inr fun x hx => ?_⟩
      · rw [Bool.eq_iff_iff]; simp only [h1 x hx, h2 x hx, Bool.and_eq_true, decide_eq_true_eq]; omega
      · rw [Bool.eq_iff_iff]; simp only [h1 x hx, h2 x hx, Bool.or_eq_true, decide_eq_true_eq]; omega
      · simp only [h1 x hx, h2 x hx, Bool.or_eq_true, decide_eq_true_eq]; omega
  · have h1 : ∀ x, x < m → P x = !decide (a ≤ x ∧ x < b) := fun x hx => h x (by omega)
    have h2 : ∀ x, x < m → P (m + x) = !decide (a ≤ m + x ∧ m + x < b) := fun x hx => h (m + x) (by omega)
    by_cases hl : min b (2 * m) ≤ a + m
    · refine ⟨?_, ⟨0, m, .inl fun x hx => ?_⟩, .inr fun x hx => ?_⟩
      · by_cases h3 : b ≤ m
        · refine ⟨a, b, .inr fun x hx => ?_⟩
          rw [Bool.eq_iff_iff]; simp only [h1 x hx, h2 x hx, Bool.and_eq_true, Bool.not_eq_true', decide_eq_true_eq, decide_eq_false_iff_not]; omega
        · by_cases h4 : m ≤ a
          · refine ⟨a - m, b - m, .inr fun x hx => ?_⟩
            rw [Bool.eq_iff_iff]; simp only [h1 x hx, h2 x hx, Bool.and_eq_true, Bool.not_eq_true', decide_eq_true_eq, decide_eq_false_iff_not]; omega
          · refine ⟨b - m, a, .inl fun x hx => ?_⟩
            rw [Bool.eq_iff_iff]; simp only [h1 x hx, h2 x hx, Bool.and_eq_true, Bool.not_eq_true', decide_eq_true_eq, decide_eq_false_iff_not]; omega
      · rw [Bool.eq_iff_iff]; simp only [h1 x hx, h2 x hx, Bool.or_eq_true, Bool.not_eq_true', decide_eq_true_eq, decide_eq_false_iff_not]; omega
      · simp only [h1 x hx, h2 x hx, Bool.or_eq_true, Bool.not_eq_true', decide_eq_false_iff_not]; omega
    · refine ⟨⟨0, 0, .inl fun x hx => ?_⟩, ⟨a, b - m, .inr fun x hx => ?_⟩, .inl fun x hx => ?_⟩
      · rw [Bool.eq_iff_iff]; simp only [h1 x hx, h2 x hx, Bool.and_eq_true, Bool.not_eq_true', decide_eq_true_eq, decide_eq_false_iff_not]; omega
      · rw [Bool.eq_iff_iff]; simp only [h1 x hx, h2 x hx, Bool.or_eq_true, Bool.not_eq_true', decide_eq_true_eq, decide_eq_false_iff_not]; omega
      · rw [Bool.eq_false_iff]; simp only [h1 x hx, h2 x hx, ne_eq, Bool.and_eq_true, Bool.not_eq_true', decide_eq_false_iff_not]; omega

/-- a stage: each place and its partner, j away; which way they go is told by k -/
def stageF (k j : Nat) (f : Nat → Bool) (q : Nat) : Bool :=
  if q / j % 2 = 0 then (if q / k % 2 = 0 then f q && f (q + j) else f q || f (q + j))
  else (if (q - j) / k % 2 = 0 then f (q - j) || f q else f (q - j) && f q)
def mergeF (k : Nat) : Nat → (Nat → Bool) → (Nat → Bool)
  | 0, f => f
  | s + 1, f => mergeF k s (stageF k (2 ^ s) f)
def netF : Nat → (Nat → Bool) → (Nat → Bool)
  | 0, f => f
  | r + 1, f => mergeF (2 ^ (r + 1)) (r + 1) (netF r f)

theorem div_block {s r c x : Nat} (h : s ≤ r) (hx : x < 2 ^ s) : (2 ^ s * c + x) / 2 ^ r = 2 ^ s * c / 2 ^ r := by
  obtain ⟨d, rfl⟩ := Nat.le.dest h
  rw [Nat.pow_add, ← Nat.div_div_eq_div_mul, ← Nat.div_div_eq_div_mul, Nat.mul_add_div (Nat.two_pow_pos s), Nat.div_eq_of_lt hx, Nat.mul_div_cancel_left _ (Nat.two_pow_pos s), Nat.add_zero]

theorem stage_lo {s r c x : Nat} (f : Nat → Bool) (h : s + 1 ≤ r) (hx : x < 2 ^ s) :
    stageF (2 ^ r) (2 ^ s) f (2 ^ (s + 1) * c + x) = if 2 ^ (s + 1) * c / 2 ^ r % 2 = 0 then f (2 ^ (s + 1) * c + x) && f (2 ^ (s + 1) * c + (2 ^ s + x)) else f (2 ^ (s + 1) * c + x) || f (2 ^ (s + 1) * c + (2 ^ s + x)) := by
  unfold stageF
  have e1 : (2 ^ (s + 1) * c + x) / 2 ^ s % 2 = 0 := by
    rw [show 2 ^ (s + 1) * c + x = 2 ^ s * (2 * c) + x by rw [Nat.pow_succ, Nat.mul_assoc], Nat.mul_add_div (Nat.two_pow_pos s), Nat.div_eq_of_lt hx]; omega
  have e2 := div_block (c := c) h (show x < 2 ^ (s + 1) by rw [Nat.pow_succ]; omega)
  rw [if_pos e1, e2, show 2 ^ (s + 1) * c + x + 2 ^ s = 2 ^ (s + 1) * c + (2 ^ s + x) by omega]

theorem stage_hi {s r c x : Nat} (f : Nat → Bool) (h : s + 1 ≤ r) (hx : x < 2 ^ s) :
    stageF (2 ^ r) (2 ^ s) f (2 ^ (s + 1) * c + (2 ^ s + x)) = if 2 ^ (s + 1) * c / 2 ^ r % 2 = 0 then f (2 ^ (s + 1) * c + x) || f (2 ^ (s + 1) * c + (2 ^ s + x)) else f (2 ^ (s + 1) * c + x) && f (2 ^ (s + 1) * c + (2 ^ s + x)) := by
  unfold stageF
  have e1 : ¬ (2 ^ (s + 1) * c + (2 ^ s + x)) / 2 ^ s % 2 = 0 := by
    rw [show 2 ^ (s + 1) * c + (2 ^ s + x) = 2 ^ s * (2 * c + 1) + x by rw [Nat.pow_succ, Nat.mul_assoc, Nat.mul_add]; omega, Nat.mul_add_div (Nat.two_pow_pos s), Nat.div_eq_of_lt hx]; omega
  have e2 := div_block (c := c) h (show x < 2 ^ (s + 1) by rw [Nat.pow_succ]; omega)
  rw [if_neg e1, show 2 ^ (s + 1) * c + (2 ^ s + x) - 2 ^ s = 2 ^ (s + 1) * c + x by omega, e2]

theorem half_base (s c : Nat) : 2 ^ (s + 1) * c = 2 ^ s * (2 * c) ∧ 2 ^ (s + 1) * c + 2 ^ s = 2 ^ s * (2 * c + 1) := by
  rw [Nat.pow_succ]
  constructor
  · rw [Nat.mul_assoc]
  · rw [Nat.mul_add, Nat.mul_assoc]; omega

theorem merge_const {r : Nat} (s : Nat) : ∀ (f : Nat → Bool) (c : Nat) (v : Bool), s ≤ r → (∀ x, x < 2 ^ s → f (2 ^ s * c + x) = v) → ∀ x, x < 2 ^ s → mergeF (2 ^ r) s f (2 ^ s * c + x) = v := by
  induction s with
  | zero => exact fun f c v _ h => h
  | succ s ih =>
    intro f c v hs h x hx
    obtain ⟨hb1, hb2⟩ := half_base s c
    have hlo : ∀ x, x < 2 ^ s → stageF (2 ^ r) (2 ^ s) f (2 ^ s * (2 * c) + x) = v := fun x hx => by
      rw [← hb1, stage_lo f hs hx, h x (by rw [Nat.pow_succ]; omega), h (2 ^ s + x) (by rw [Nat.pow_succ]; omega)]; simp
    have hhi : ∀ x, x < 2 ^ s → stageF (2 ^ r) (2 ^ s) f (2 ^ s * (2 * c + 1) + x) = v := fun x hx => by
      rw [← hb2, Nat.add_assoc, stage_hi f hs hx, h x (by rw [Nat.pow_succ]; omega), h (2 ^ s + x) (by rw [Nat.pow_succ]; omega)]; simp
    show mergeF (2 ^ r) s _ _ = v
    by_cases hxs : x < 2 ^ s
    · rw [hb1]; exact ih _ _ v (by omega) hlo x hxs
    · have : 2 ^ (s + 1) * c + x = 2 ^ s * (2 * c + 1) + (x - 2 ^ s) := by omega
      rw [this]; exact ih _ _ v (by omega) hhi _ (by rw [Nat.pow_succ] at hx; omega)

theorem up_join {P : Nat → Bool} {m : Nat} (h : ((∀ x, x < m → P x = false) ∧ UpB (fun x => P (m + x)) m) ∨ ((∀ x, x < m → P (m + x) = true) ∧ UpB P m)) : UpB P (2 * m) := by
  rcases h with ⟨h1, a, h2⟩ | ⟨h1, a, h2⟩
  · refine ⟨m + a, fun x hx => ?_⟩
    by_cases hm : x < m
    · rw [h1 x hm, eq_comm]; exact decide_eq_false (by omega)
    · have := h2 (x - m) (by omega)
      simp only [show m + (x - m) = x by omega] at this
      rw [this, Bool.eq_iff_iff]; simp only [decide_eq_true_eq]; omega
  · refine ⟨min a m, fun x hx => ?_⟩
    by_cases hm : x < m
    · rw [h2 x hm, Bool.eq_iff_iff]; simp only [decide_eq_true_eq]; omega
    · have := h1 (x - m) (by omega)
      rw [show m + (x - m) = x by omega] at this
      rw [this, eq_comm]; exact decide_eq_true (by omega)
theorem dn_join {P : Nat → Bool} {m : Nat} (h : ((∀ x, x < m → P (m + x) = false) ∧ DnB P m) ∨ ((∀ x, x < m → P x = true) ∧ DnB (fun x => P (m + x)) m)) : DnB P (2 * m) := by
  rcases h with ⟨h1, a, h2⟩ | ⟨h1, a, h2⟩
  · refine ⟨min a m, fun x hx => ?_⟩
    by_cases hm : x < m
    · rw [h2 x hm, Bool.eq_iff_iff]; simp only [decide_eq_true_eq]; omega
    · have := h1 (x - m) (by omega)
      rw [show m + (x - m) = x by omega] at this
      rw [this, eq_comm]; exact decide_eq_false (by omega)
  · refine ⟨m + a, fun x hx => ?_⟩
    by_cases hm : x < m
    · rw [h1 x hm, eq_comm]; exact decide_eq_true (by omega)
    · have := h2 (x - m) (by omega)
      simp only [show m + (x - m) = x by omega] at this
      rw [this, Bool.eq_iff_iff]; simp only [decide_eq_true_eq]; omega

theorem merge_sorts {r : Nat} (s : Nat) : ∀ (f : Nat → Bool) (c : Nat), s ≤ r → Bit (fun x => f (2 ^ s * c + x)) (2 ^ s) →
    (2 ^ s * c / 2 ^ r % 2 = 0 → UpB (fun x => mergeF (2 ^ r) s f (2 ^ s * c + x)) (2 ^ s)) ∧ (¬ 2 ^ s * c / 2 ^ r % 2 = 0 → DnB (fun x => mergeF (2 ^ r) s f (2 ^ s * c + x)) (2 ^ s)) := by
  induction s with
  | zero =>
    intro f c _ _
    constructor
    · intro _
      cases h : f (2 ^ 0 * c) with
      | true => exact ⟨0, fun x hx => by obtain rfl : x = 0 := by simpa using hx
                                         simpa [mergeF] using h⟩
      | false => exact ⟨1, fun x hx => by obtain rfl : x = 0 := by simpa using hx
                                          simpa [mergeF] using h⟩
    · intro _
      cases h : f (2 ^ 0 * c) with
      | true => exact ⟨1, fun x hx => by obtain rfl : x = 0 := by simpa using hx
                                         simpa [mergeF] using h⟩
      | false => exact ⟨0, fun x hx => by obtain rfl : x = 0 := by simpa using hx
                                          simpa [mergeF] using h⟩
  | succ s ih =>
    intro f c hs hbit
    obtain ⟨hb1, hb2⟩ := half_base s c
    rw [show 2 ^ (s + 1) = 2 * 2 ^ s by rw [Nat.pow_succ]; omega] at hbit
    rw [show 2 * 2 ^ s = 2 ^ (s + 1) by rw [Nat.pow_succ]; omega] at hbit
    have hc := clean (m := 2 ^ s) (P := fun x => f (2 ^ (s + 1) * c + x)) (by rw [show 2 * 2 ^ s = 2 ^ (s + 1) by rw [Nat.pow_succ]; omega]; exact hbit)
    obtain ⟨hA, hO, hX⟩ := hc
    have hlo : ∀ x, x < 2 ^ s → stageF (2 ^ r) (2 ^ s) f (2 ^ s * (2 * c) + x) = if 2 ^ (s + 1) * c / 2 ^ r % 2 = 0 then f (2 ^ (s + 1) * c + x) && f (2 ^ (s + 1) * c + (2 ^ s + x)) else f (2 ^ (s + 1) * c + x) || f (2 ^ (s + 1) * c + (2 ^ s + x)) := fun x hx => by rw [← hb1]; exact stage_lo f hs hx
    have hhi : ∀ x, x < 2 ^ s → stageF (2 ^ r) (2 ^ s) f (2 ^ s * (2 * c + 1) + x) = if 2 ^ (s + 1) * c / 2 ^ r % 2 = 0 then f (2 ^ (s + 1) * c + x) || f (2 ^ (s + 1) * c + (2 ^ s + x)) else f (2 ^ (s + 1) * c + x) && f (2 ^ (s + 1) * c + (2 ^ s + x)) := fun x hx => by rw [← hb2, Nat.add_assoc]; exact stage_hi f hs hx
    have hd2 : 2 ^ s * (2 * c + 1) / 2 ^ r = 2 ^ (s + 1) * c / 2 ^ r := by
      rw [← hb2]; exact div_block hs (by rw [Nat.pow_succ]; have := Nat.two_pow_pos s; omega)
    by_cases hup : 2 ^ (s + 1) * c / 2 ^ r % 2 = 0
    · refine ⟨fun _ => ?_, fun h => absurd hup h⟩
      simp only [if_pos hup] at hlo hhi
      have i1 := (ih (stageF (2 ^ r) (2 ^ s) f) (2 * c) (by omega) (hA.congr hlo)).1 (by rw [← hb1]; exact hup)
      have i2 := (ih (stageF (2 ^ r) (2 ^ s) f) (2 * c + 1) (by omega) (hO.congr hhi)).1 (by rw [hd2]; exact hup)
      rw [show 2 ^ (s + 1) = 2 * 2 ^ s by rw [Nat.pow_succ]; omega] at *
      refine up_join ?_
      rcases hX with hX | hX
      · refine .inl ⟨fun x hx => ?_, i2.congr fun x hx => ?_⟩
        · show mergeF _ s _ _ = _
          rw [hb1]; exact merge_const s _ _ _ (by omega) (fun x hx => (hlo x hx).trans (hX x hx)) x hx
        · show mergeF _ s _ _ = _
          rw [← Nat.add_assoc, hb2]
      · refine .inr ⟨fun x hx => ?_, i1.congr fun x hx => ?_⟩
        · show mergeF _ s _ _ = _
          rw [← Nat.add_assoc, hb2]; exact merge_const s _ _ _ (by omega) (fun x hx => (hhi x hx).trans (hX x hx)) x hx
        · show mergeF _ s _ _ = _
          rw [hb1]
    · refine ⟨fun h => absurd h hup, fun _ => ?_⟩
      simp only [if_neg hup] at hlo hhi
      have i1 := (ih (stageF (2 ^ r) (2 ^ s) f) (2 * c) (by omega) (hO.congr hlo)).2 (by rw [← hb1]; exact hup)
      have i2 := (ih (stageF (2 ^ r) (2 ^ s) f) (2 * c + 1) (by omega) (hA.congr hhi)).2 (by rw [hd2]; exact hup)
      rw [show 2 ^ (s + 1) = 2 * 2 ^ s by rw [Nat.pow_succ]; omega] at *
      refine dn_join ?_
      rcases hX with hX | hX
      · refine .inl ⟨fun x hx => ?_, i1.congr fun x hx => ?_⟩
        · show mergeF _ s _ _ = _
          rw [← Nat.add_assoc, hb2]; exact merge_const s _ _ _ (by omega) (fun x hx => (hhi x hx).trans (hX x hx)) x hx
        · show mergeF _ s _ _ = _
          rw [hb1]
      · refine .inr ⟨fun x hx => ?_, i2.congr fun x hx => ?_⟩
        · show mergeF _ s _ _ = _
          rw [hb1]; exact merge_const s _ _ _ (by omega) (fun x hx => (hlo x hx).trans (hX x hx)) x hx
        · show mergeF _ s _ _ = _
          rw [← Nat.add_assoc, hb2]

theorem bit_updn {P : Nat → Bool} {m : Nat} (h1 : UpB P m) (h2 : DnB (fun x => P (m + x)) m) : Bit P (2 * m) := by
  obtain ⟨a, h1⟩ := h1
  obtain ⟨b, h2⟩ := h2
  refine ⟨min a m, m + min b m, .inl fun x hx => ?_⟩
  by_cases hm : x < m
  · rw [h1 x hm, Bool.eq_iff_iff]; simp only [decide_eq_true_eq]; omega
  · have := h2 (x - m) (by omega)
    simp only [show m + (x - m) = x by omega] at this
    rw [this, Bool.eq_iff_iff]; simp only [decide_eq_true_eq]; omega

theorem net_blocks (f : Nat → Bool) (r : Nat) : ∀ c, (c % 2 = 0 → UpB (fun x => netF r f (2 ^ r * c + x)) (2 ^ r)) ∧ (¬ c % 2 = 0 → DnB (fun x => netF r f (2 ^ r * c + x)) (2 ^ r)) := by
  induction r with
  | zero =>
    intro c
    have := merge_sorts (r := 0) 0 f c (Nat.le_refl _) (by
      cases h : f (2 ^ 0 * c) with
      | true => exact ⟨0, 1, .inl fun x hx => by obtain rfl : x = 0 := by simpa using hx
                                                 simpa using h⟩
      | false => exact ⟨0, 1, .inr fun x hx => by obtain rfl : x = 0 := by simpa using hx
                                                  simpa using h⟩)
    simpa [mergeF, netF] using this
  | succ r ih =>
    intro c
    obtain ⟨hb1, hb2⟩ := half_base r c
    have i1 := (ih (2 * c)).1 (by omega)
    have i2 := (ih (2 * c + 1)).2 (by omega)
    have hbit := bit_updn (P := fun x => netF r f (2 ^ (r + 1) * c + x)) (m := 2 ^ r) (i1.congr fun x hx => by rw [hb1]) (i2.congr fun x hx => by rw [← Nat.add_assoc, hb2])
    have := merge_sorts (r := r + 1) (r + 1) (netF r f) c (Nat.le_refl _) (by rw [show 2 * 2 ^ r = 2 ^ (r + 1) by rw [Nat.pow_succ]; omega] at hbit; exact hbit)
    rw [Nat.mul_div_cancel_left _ (Nat.two_pow_pos _)] at this
    exact this
theorem net_up (f : Nat → Bool) (r : Nat) : UpB (netF r f) (2 ^ r) := by
  have := (net_blocks f r 0).1 rfl
  simpa using this
end Go.Sg
end
section

/-
  The network's pairs, and what they make of a list, by a key: it is put in order.
-/
namespace Go.Sg

abbrev Pr := Nat × Nat × Bool
/-- a stage's pairs, up to place m -/
def stageP (k j : Nat) : Nat → List Pr
  | 0 => []
  | m + 1 => stageP k j m ++ (if m / j % 2 = 0 then [(m, m + j, decide (m / k % 2 = 0))] else [])
def mergeP (n k : Nat) : Nat → List Pr
  | 0 => []
  | s + 1 => stageP k (2 ^ s) n ++ mergeP n k s
def netP (n : Nat) : Nat → List Pr
  | 0 => []
  | r + 1 => netP n r ++ mergeP n (2 ^ (r + 1)) (r + 1)

def cxF (f : Nat → Bool) (p : Pr) : Nat → Bool := fun q =>
  if q = p.1 then (if p.2.2 then f p.1 && f p.2.1 else f p.1 || f p.2.1) else if q = p.2.1 then (if p.2.2 then f p.1 || f p.2.1 else f p.1 && f p.2.1) else f q
theorem cxF_at (f : Nat → Bool) (p : Pr) (q : Nat) : cxF f p q = if q = p.1 then (if p.2.2 then f p.1 && f p.2.1 else f p.1 || f p.2.1) else if q = p.2.1 then (if p.2.2 then f p.1 || f p.2.1 else f p.1 && f p.2.1) else f q := rfl
/-- two places of a list are put in order -/
def cx {α : Type} (key : α → Nat) (l : List α) (p : Pr) : List α :=
  match l[p.1]?, l[p.2.1]? with
  | some x, some y => if (if p.2.2 then key y < key x else key x < key y) then (l.set p.1 y).set p.2.1 x else l
  | _, _ => l
def cxs {α : Type} (key : α → Nat) (l : List α) (ps : List Pr) : List α := ps.foldl (cx key) l
def bv {α : Type} (key : α → Nat) (t : Nat) (l : List α) (q : Nat) : Bool :=
  match l[q]? with
  | some x => decide (t ≤ key x)
  | none => false
def PrsOk (n : Nat) (ps : List Pr) : Prop := ∀ p, p ∈ ps → p.1 < p.2.1 ∧ p.2.1 < n

theorem PrsOk.append {n : Nat} {a b : List Pr} (ha : PrsOk n a) (hb : PrsOk n b) : PrsOk n (a ++ b) := fun p hp => (List.mem_append.1 hp).elim (ha p) (hb p)

section
variable {α : Type} (key : α → Nat)
theorem cx_length (l : List α) (p : Pr) : (cx key l p).length = l.length := by
  unfold cx
  split
  · rename_i x y _ _
    by_cases hs : (if p.2.2 then key y < key x else key x < key y)
    · rw [if_pos hs]; simp
    · rw [if_neg hs]
  · rfl
theorem cxs_length (ps : List Pr) : ∀ l : List α, (cxs key l ps).length = l.length := by
  induction ps with
  | nil => exact fun l => rfl
  | cons p ps ih => exact fun l => (ih _).trans (cx_length key l p)
theorem cxs_snoc (l : List α) (a : List Pr) (p : Pr) : cxs key l (a ++ [p]) = cx key (cxs key l a) p := by simp [cxs]

theorem cx_at {l : List α} {p : Pr} (h1 : p.1 < l.length) (h2 : p.2.1 < l.length) :
    cx key l p = if (if p.2.2 then key l[p.2.1] < key l[p.1] else key l[p.1] < key l[p.2.1]) then (l.set p.1 l[p.2.1]).set p.2.1 l[p.1] else l := by
  unfold cx
  rw [List.getElem?_eq_getElem h1, List.getElem?_eq_getElem h2]

theorem cx_perm (l : List α) (p : Pr) : (cx key l p).Perm l := by
  by_cases h : p.1 < l.length ∧ p.2.1 < l.length
  · rw [cx_at key h.1 h.2]
    by_cases hs : (if p.2.2 then key l[p.2.1] < key l[p.1] else key l[p.1] < key l[p.2.1])
    · rw [if_pos hs]; exact List.set_set_perm h.1 h.2
    · rw [if_neg hs]
  · unfold cx
    split
    · rename_i x y h1 h2
      exact absurd ⟨(List.getElem?_eq_some_iff.1 h1).1, (List.getElem?_eq_some_iff.1 h2).1⟩ h
    · exact .refl _
theorem cxs_perm (ps : List Pr) : ∀ l : List α, (cxs key l ps).Perm l := by
  induction ps with
  | nil => exact fun l => .refl _
  | cons p ps ih => exact fun l => (ih _).trans (cx_perm key l p)

theorem bv_cx (t : Nat) {l : List α} {p : Pr} (hne : p.1 < p.2.1) (h2 : p.2.1 < l.length) : bv key t (cx key l p) = cxF (bv key t l) p := by
  have h1 : p.1 < l.length := by omega
  funext q
  rw [cx_at key h1 h2]
  have e1 : bv key t l p.1 = decide (t ≤ key l[p.1]) := by unfold bv; rw [List.getElem?_eq_getElem h1]
  have e2 : bv key t l p.2.1 = decide (t ≤ key l[p.2.1]) := by unfold bv; rw [List.getElem?_eq_getElem h2]
  rw [cxF_at, e1, e2]
  generalize hx : l[p.1] = x at *
  generalize hy : l[p.2.1] = y at *
  by_cases hs : (if p.2.2 then key y < key x else key x < key y)
  · rw [if_pos hs]
    by_cases q1 : q = p.1
    · subst q1
      rw [if_pos rfl]
      unfold bv
      rw [List.getElem?_set_ne (by omega), List.getElem?_set_self (by simpa using h1)]
      show decide (t ≤ key y) = _
      split at hs <;> rename_i hu <;> simp only [hu, if_true, Bool.false_eq_true, if_false] <;> rw [Bool.eq_iff_iff] <;> simp only [Bool.and_eq_true, Bool.or_eq_true, decide_eq_true_eq] <;> omega
    · rw [if_neg q1]
      by_cases q2 : q = p.2.1
      · subst q2
        rw [if_pos rfl]
        unfold bv
        rw [List.getElem?_set_self (by simpa using h2)]
        show decide (t ≤ key x) = _
        split at hs <;> rename_i hu <;> simp only [hu, if_true, Bool.false_eq_true, if_false] <;> rw [Bool.eq_iff_iff] <;> simp only [Bool.and_eq_true, Bool.or_eq_true, decide_eq_true_eq] <;> omega
      · rw [if_neg q2]
        unfold bv
        rw [List.getElem?_set_ne (by omega), List.getElem?_set_ne (by omega)]
  · rw [if_neg hs]
    by_cases q1 : q = p.1
    · subst q1
      rw [if_pos rfl, e1]
      split at hs <;> rename_i hu <;> simp only [hu, if_true, Bool.false_eq_true, if_false] <;> rw [Bool.eq_iff_iff] <;> simp only [Bool.and_eq_true, Bool.or_eq_true, decide_eq_true_eq] <;> omega
    · rw [if_neg q1]
      by_cases q2 : q = p.2.1
      · subst q2
        rw [if_pos rfl, e2]
        split at hs <;> rename_i hu <;> simp only [hu, if_true, Bool.false_eq_true, if_false] <;> rw [Bool.eq_iff_iff] <;> simp only [Bool.and_eq_true, Bool.or_eq_true, decide_eq_true_eq] <;> omega
      · rw [if_neg q2]

theorem bv_cxs (t : Nat) (ps : List Pr) : ∀ l : List α, PrsOk l.length ps → bv key t (cxs key l ps) = ps.foldl cxF (bv key t l) := by
  induction ps with
  | nil => exact fun l _ => rfl
  | cons p ps ih =>
    intro l h
    have hp := h p List.mem_cons_self
    show bv key t (cxs key (cx key l p) ps) = ps.foldl cxF (cxF (bv key t l) p)
    rw [ih _ (by rw [cx_length]; exact fun q hq => h q (List.mem_cons_of_mem _ hq)), bv_cx key t hp.1 hp.2]
end

theorem stageP_ok {k j n m : Nat} (hj : 0 < j) (hm : ∀ i, i < m → i / j % 2 = 0 → i + j < n) : PrsOk n (stageP k j m) := by
  induction m with
  | zero => exact fun p hp => by simp [stageP] at hp
  | succ m ih =>
    refine PrsOk.append (ih fun i hi => hm i (by omega)) ?_
    intro p hp
    by_cases h : m / j % 2 = 0
    · rw [if_pos h] at hp
      obtain rfl : p = (m, m + j, decide (m / k % 2 = 0)) := by simpa using hp
      exact ⟨by show m < m + j; omega, hm m (by omega) h⟩
    · rw [if_neg h] at hp; simp at hp
theorem partner_lt {r s q : Nat} (hs : s < r) (hq : q < 2 ^ r) (h : q / 2 ^ s % 2 = 0) : q + 2 ^ s < 2 ^ r := by
  obtain ⟨d, rfl⟩ := Nat.le.dest hs
  have h0 := Nat.two_pow_pos s
  have e : 2 ^ (s.succ + d) = 2 ^ s * (2 * 2 ^ d) := by rw [Nat.succ_eq_add_one, Nat.pow_add, Nat.pow_add, Nat.pow_one, Nat.mul_assoc]
  rw [e] at hq ⊢
  have h1 : q / 2 ^ s < 2 * 2 ^ d := Nat.div_lt_of_lt_mul hq
  have h2 : q / 2 ^ s + 2 ≤ 2 * 2 ^ d := by omega
  have h3 := Nat.div_add_mod q (2 ^ s)
  have h4 := Nat.mod_lt q h0
  have h5 : 2 ^ s * (q / 2 ^ s + 2) ≤ 2 ^ s * (2 * 2 ^ d) := Nat.mul_le_mul_left _ h2
  rw [Nat.mul_add] at h5
  omega
theorem mergeP_ok {k r : Nat} (s : Nat) (hs : s ≤ r) : PrsOk (2 ^ r) (mergeP (2 ^ r) k s) := by
  induction s with
  | zero => exact fun p hp => by simp [mergeP] at hp
  | succ s ih => exact PrsOk.append (stageP_ok (Nat.two_pow_pos s) fun i hi h => partner_lt (by omega) hi h) (ih (by omega))
theorem netP_ok {r : Nat} (s : Nat) (hs : s ≤ r) : PrsOk (2 ^ r) (netP (2 ^ r) s) := by
  induction s with
  | zero => exact fun p hp => by simp [netP] at hp
  | succ s ih => exact PrsOk.append (ih (by omega)) (mergeP_ok (s + 1) hs)

/-- two functions that are one below n -/
def AgreeB (n : Nat) (f g : Nat → Bool) : Prop := ∀ q, q < n → f q = g q

theorem fold_stage {k j : Nat} (hj : 0 < j) (f : Nat → Bool) (m : Nat) : ∀ q, (stageP k j m).foldl cxF f q = if q / j % 2 = 0 then (if q < m then stageF k j f q else f q) else (if q - j < m then stageF k j f q else f q) := by
  induction m with
  | zero => intro q; simp [stageP]
  | succ m ih =>
    intro q
    show (stageP k j m ++ _).foldl cxF f q = _
    rw [List.foldl_append]
    by_cases hm : m / j % 2 = 0
    · rw [if_pos hm]
      have hmj : ¬ (m + j) / j % 2 = 0 := by rw [Nat.add_div_right _ hj]; omega
      have f1 : (stageP k j m).foldl cxF f m = f m := by rw [ih, if_pos hm, if_neg (by omega)]
      have f2 : (stageP k j m).foldl cxF f (m + j) = f (m + j) := by rw [ih, if_neg hmj, if_neg (by omega)]
      show cxF ((stageP k j m).foldl cxF f) (m, m + j, decide (m / k % 2 = 0)) q = _
      rw [cxF_at]
      simp only [f1, f2, decide_eq_true_eq]
      by_cases q1 : q = m
      · subst q1
        rw [if_pos rfl, if_pos hm, if_pos (show q < q + 1 by omega)]
        unfold stageF
        rw [if_pos hm]
      · rw [if_neg q1]
        by_cases q2 : q = m + j
        · subst q2
          rw [if_pos rfl, if_neg hmj, if_pos (show m + j - j < m + 1 by omega)]
          unfold stageF
          rw [if_neg hmj, Nat.add_sub_cancel]
        · rw [if_neg q2, ih]
          by_cases q3 : q / j % 2 = 0
          · rw [if_pos q3, if_pos q3]
            by_cases q4 : q < m
            · rw [if_pos q4, if_pos (by omega)]
            · rw [if_neg q4, if_neg (by omega)]
          · rw [if_neg q3, if_neg q3]
            have : j ≤ q := by
              apply Nat.le_of_not_lt; intro hlt
              rw [Nat.div_eq_of_lt hlt] at q3; exact q3 rfl
            by_cases q4 : q - j < m
            · rw [if_pos q4, if_pos (by omega)]
            · rw [if_neg q4, if_neg (by omega)]
    · rw [if_neg hm]
      show (stageP k j m).foldl cxF f q = _
      rw [ih]
      by_cases q3 : q / j % 2 = 0
      · rw [if_pos q3, if_pos q3]
        by_cases q4 : q < m
        · rw [if_pos q4, if_pos (by omega)]
        · have h9 : q ≠ m := fun e => hm (e ▸ q3)
          rw [if_neg q4, if_neg (by omega)]
      · rw [if_neg q3, if_neg q3]
        by_cases q4 : q - j < m
        · rw [if_pos q4, if_pos (by omega)]
        · rw [if_neg q4, if_neg (by
            intro h
            have hq : j ≤ q := by
              apply Nat.le_of_not_lt; intro hlt
              rw [Nat.div_eq_of_lt hlt] at q3; exact q3 rfl
            obtain rfl : q = m + j := by omega
            rw [Nat.add_div_right _ hj] at q3; omega)]

theorem fold_stage_n {k r s : Nat} (hs : s < r) {f g : Nat → Bool} (h : AgreeB (2 ^ r) f g) : AgreeB (2 ^ r) ((stageP k (2 ^ s) (2 ^ r)).foldl cxF f) (stageF k (2 ^ s) g) := by
  intro q hq
  rw [fold_stage (Nat.two_pow_pos s)]
  have e : stageF k (2 ^ s) f q = stageF k (2 ^ s) g q := by
    unfold stageF
    by_cases h0 : q / 2 ^ s % 2 = 0
    · rw [if_pos h0, if_pos h0, h q hq, h _ (partner_lt hs hq h0)]
    · rw [if_neg h0, if_neg h0, h q hq, h (q - 2 ^ s) (Nat.lt_of_le_of_lt (Nat.sub_le _ _) hq)]
  by_cases h0 : q / 2 ^ s % 2 = 0
  · rw [if_pos h0, if_pos hq, e]
  · rw [if_neg h0, if_pos (Nat.lt_of_le_of_lt (Nat.sub_le _ _) hq), e]
theorem fold_merge {k r : Nat} (s : Nat) : ∀ (f g : Nat → Bool), s ≤ r → AgreeB (2 ^ r) f g → AgreeB (2 ^ r) ((mergeP (2 ^ r) k s).foldl cxF f) (mergeF k s g) := by
  induction s with
  | zero => exact fun f g _ h => h
  | succ s ih =>
    intro f g hs h
    show AgreeB _ ((stageP k (2 ^ s) (2 ^ r) ++ mergeP (2 ^ r) k s).foldl cxF f) _
    rw [List.foldl_append]
    exact ih _ _ (by omega) (fold_stage_n (by omega) h)
theorem fold_net {r : Nat} (s : Nat) : ∀ (f : Nat → Bool), s ≤ r → AgreeB (2 ^ r) ((netP (2 ^ r) s).foldl cxF f) (netF s f) := by
  induction s with
  | zero => exact fun f _ q _ => rfl
  | succ s ih =>
    intro f hs
    show AgreeB _ ((netP (2 ^ r) s ++ mergeP (2 ^ r) (2 ^ (s + 1)) (s + 1)).foldl cxF f) _
    rw [List.foldl_append]
    exact fold_merge (s + 1) _ _ hs (ih f (by omega))

/-- a network puts a list in order -/
theorem net_sorted {α : Type} (key : α → Nat) {r : Nat} {l : List α} (h : l.length = 2 ^ r) : (cxs key l (netP (2 ^ r) r)).Pairwise (fun x y => key x ≤ key y) := by
  have hlen : (cxs key l (netP (2 ^ r) r)).length = 2 ^ r := by rw [cxs_length, h]
  rw [List.pairwise_iff_getElem]
  intro x y hx hy hxy
  rw [hlen] at hx hy
  obtain ⟨a, ha⟩ := net_up (bv key (key (cxs key l (netP (2 ^ r) r))[x]) l) r
  have hb : ∀ q, q < 2 ^ r → bv key (key (cxs key l (netP (2 ^ r) r))[x]) (cxs key l (netP (2 ^ r) r)) q = decide (a ≤ q) := fun q hq => by
    rw [bv_cxs key _ _ l (by rw [h]; exact netP_ok r (Nat.le_refl _))]
    exact (fold_net r _ (Nat.le_refl _) q hq).trans (ha q hq)
  have b1 := hb x hx
  have b2 := hb y hy
  unfold bv at b1 b2
  rw [List.getElem?_eq_getElem (by omega)] at b1 b2
  simp only [Nat.le_refl, decide_true] at b1
  have : a ≤ x := of_decide_eq_true b1.symm
  rw [decide_eq_true (show a ≤ y by omega)] at b2
  exact of_decide_eq_true b2
end Go.Sg
end
