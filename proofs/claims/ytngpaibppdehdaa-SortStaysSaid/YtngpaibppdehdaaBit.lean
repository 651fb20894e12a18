/-
  A bitonic network sorts: in plain Lean, of functions from places to Bool; then of lists by a key.
-/
import Derived.Test.YtngpaibppdehdaaLen
namespace Go.Sg

/-- ones that stand in a row, or noughts that do -/
def Bit (P : Nat → Bool) (m : Nat) : Prop := ∃ a b, (∀ x, x < m → P x = decide (a ≤ x ∧ x < b)) ∨ (∀ x, x < m → P x = !decide (a ≤ x ∧ x < b))
def UpB (P : Nat → Bool) (m : Nat) : Prop := ∃ a, ∀ x, x < m → P x = decide (a ≤ x)
def DnB (P : Nat → Bool) (m : Nat) : Prop := ∃ a, ∀ x, x < m → P x = decide (x < a)

theorem Bit.congr {P Q : Nat → Bool} {m : Nat} (h : Bit P m) (e : ∀ x, x < m → Q x = P x) : Bit Q m := by
  obtain ⟨a, b, h | h⟩ := h
  · exact ⟨a, b, .inl fun x hx => (e x hx).trans (h x hx)⟩
  · exact ⟨a, b, .inr fun x hx => (e x hx).trans (h x hx)⟩
theorem UpB.congr {P Q : Nat → Bool} {m : Nat} (h : UpB P m) (e : ∀ x, x < m → Q x = P x) : UpB Q m := by
  obtain ⟨a, h⟩ := h
  exact ⟨a, fun x hx => (e x hx).trans (h x hx)⟩
theorem DnB.congr {P Q : Nat → Bool} {m : Nat} (h : DnB P m) (e : ∀ x, x < m → Q x = P x) : DnB Q m := by
  obtain ⟨a, h⟩ := h
  exact ⟨a, fun x hx => (e x hx).trans (h x hx)⟩

/-- one half of what is compared is all alike, both are rows again -/
theorem clean {P : Nat → Bool} {m : Nat} (h : Bit P (2 * m)) :
    Bit (fun x => P x && P (m + x)) m ∧ Bit (fun x => P x || P (m + x)) m ∧ ((∀ x, x < m → (P x && P (m + x)) = false) ∨ (∀ x, x < m → (P x || P (m + x)) = true)) := by
  obtain ⟨a, b, h | h⟩ := h
  · have h1 : ∀ x, x < m → P x = decide (a ≤ x ∧ x < b) := fun x hx => h x (by omega)
    have h2 : ∀ x, x < m → P (m + x) = decide (a ≤ m + x ∧ m + x < b) := fun x hx => h (m + x) (by omega)
    by_cases hl : min b (2 * m) ≤ a + m
    · refine ⟨⟨0, 0, .inl fun x hx => ?_⟩, ?_, .inl fun x hx => ?_⟩
      · rw [Bool.eq_iff_iff]; simp only [h1 x hx, h2 x hx, Bool.and_eq_true, decide_eq_true_eq]; omega
      · by_cases h3 : b ≤ m
        · refine ⟨a, b, .inl fun x hx => ?_⟩
          rw [Bool.eq_iff_iff]; simp only [h1 x hx, h2 x hx, Bool.or_eq_true, decide_eq_true_eq]; omega
        · by_cases h4 : m ≤ a
          · refine ⟨a - m, b - m, .inl fun x hx => ?_⟩
            rw [Bool.eq_iff_iff]; simp only [h1 x hx, h2 x hx, Bool.or_eq_true, decide_eq_true_eq]; omega
          · refine ⟨b - m, a, .inr fun x hx => ?_⟩
            rw [Bool.eq_iff_iff]; simp only [h1 x hx, h2 x hx, Bool.or_eq_true, Bool.not_eq_true', decide_eq_true_eq, decide_eq_false_iff_not]; omega
      · simp only [h1 x hx, h2 x hx, Bool.eq_false_iff, ne_eq, Bool.and_eq_true, decide_eq_true_eq]; omega
    · refine ⟨⟨a, b - m, .inl fun x hx => ?_⟩, ⟨0, m, .inl fun x hx => ?_⟩, .inr fun x hx => ?_⟩
      · rw [Bool.eq_iff_iff]; simp only [h1 x hx, h2 x hx, Bool.and_eq_true, decide_eq_true_eq]; omega
      · rw [Bool.eq_iff_iff]; simp only [h1 x hx, h2 x hx, Bool.or_eq_true, decide_eq_true_eq]; omega
      · simp only [h1 x hx, h2 x hx, Bool.or_eq_true, decide_eq_true_eq]; omega
  · have h1 : ∀ x, x < m → P x = !decide (a ≤ x ∧ x < b) := fun x hx => h x (by omega)
    have h2 : ∀ x, x < m → P (m + x) = !decide (a ≤ m + x ∧ m + x < b) := fun x hx => h (m + x) (by omega)
    by_cases hl : min b (2 * m) ≤ a + m
    · refine ⟨?_, ⟨0, m, .inl fun x hx => ?_⟩, .inr fun x hx => ?_⟩
      · by_cases h3 : b ≤ m
        · refine ⟨a, b, .inr fun x hx => ?_⟩
          rw [Bool.eq_iff_iff]; simp only [h1 x hx, h2 x hx, Bool.and_eq_true, Bool.not_eq_true', decide_eq_true_eq, decide_eq_false_iff_not]; omega
        · by_cases h4 : m ≤ a
          · refine ⟨a - m, b - m, .inr fun x hx => ?_⟩
            rw [Bool.eq_iff_iff]; simp only [h1 x hx, h2 x hx, Bool.and_eq_true, Bool.not_eq_true', decide_eq_true_eq, decide_eq_false_iff_not]; omega
          · refine ⟨b - m, a, .inl fun x hx => ?_⟩
            rw [Bool.eq_iff_iff]; simp only [h1 x hx, h2 x hx, Bool.and_eq_true, Bool.not_eq_true', decide_eq_true_eq, decide_eq_false_iff_not]; omega
      · rw [Bool.eq_iff_iff]; simp only [h1 x hx, h2 x hx, Bool.or_eq_true, Bool.not_eq_true', decide_eq_true_eq, decide_eq_false_iff_not]; omega
      · simp only [h1 x hx, h2 x hx, Bool.or_eq_true, Bool.not_eq_true', decide_eq_false_iff_not]; omega
    · refine ⟨⟨0, 0, .inl fun x hx => ?_⟩, ⟨a, b - m, .inr fun x hx => ?_⟩, .inl fun x hx => ?_⟩
      · rw [Bool.eq_iff_iff]; simp only [h1 x hx, h2 x hx, Bool.and_eq_true, Bool.not_eq_true', decide_eq_true_eq, decide_eq_false_iff_not]; omega
      · rw [Bool.eq_iff_iff]; simp only [h1 x hx, h2 x hx, Bool.or_eq_true, Bool.not_eq_true', decide_eq_true_eq, decide_eq_false_iff_not]; omega
      · rw [Bool.eq_false_iff]; simp only [h1 x hx, h2 x hx, ne_eq, Bool.and_eq_true, Bool.not_eq_true', decide_eq_false_iff_not]; omega

/-- a stage: each place and its partner, j away; which way they go is told by k -/
def stageF (k j : Nat) (f : Nat → Bool) (q : Nat) : Bool :=
  if q / j % 2 = 0 then (if q / k % 2 = 0 then f q && f (q + j) else f q || f (q + j))
  else (if (q - j) / k % 2 = 0 then f (q - j) || f q else f (q - j) && f q)
def mergeF (k : Nat) : Nat → (Nat → Bool) → (Nat → Bool)
  | 0, f => f
  | s + 1, f => mergeF k s (stageF k (2 ^ s) f)
def netF : Nat → (Nat → Bool) → (Nat → Bool)
  | 0, f => f
  | r + 1, f => mergeF (2 ^ (r + 1)) (r + 1) (netF r f)

theorem div_block {s r c x : Nat} (h : s ≤ r) (hx : x < 2 ^ s) : (2 ^ s * c + x) / 2 ^ r = 2 ^ s * c / 2 ^ r := by
  obtain ⟨d, rfl⟩ := Nat.le.dest h
  rw [Nat.pow_add, ← Nat.div_div_eq_div_mul, ← Nat.div_div_eq_div_mul, Nat.mul_add_div (Nat.two_pow_pos s), Nat.div_eq_of_lt hx, Nat.mul_div_cancel_left _ (Nat.two_pow_pos s), Nat.add_zero]

theorem stage_lo {s r c x : Nat} (f : Nat → Bool) (h : s + 1 ≤ r) (hx : x < 2 ^ s) :
    stageF (2 ^ r) (2 ^ s) f (2 ^ (s + 1) * c + x) = if 2 ^ (s + 1) * c / 2 ^ r % 2 = 0 then f (2 ^ (s + 1) * c + x) && f (2 ^ (s + 1) * c + (2 ^ s + x)) else f (2 ^ (s + 1) * c + x) || f (2 ^ (s + 1) * c + (2 ^ s + x)) := by
  unfold stageF
  have e1 : (2 ^ (s + 1) * c + x) / 2 ^ s % 2 = 0 := by
    rw [show 2 ^ (s + 1) * c + x = 2 ^ s * (2 * c) + x by rw [Nat.pow_succ, Nat.mul_assoc], Nat.mul_add_div (Nat.two_pow_pos s), Nat.div_eq_of_lt hx]; omega
  have e2 := div_block (c := c) h (show x < 2 ^ (s + 1) by rw [Nat.pow_succ]; omega)
  rw [if_pos e1, e2, show 2 ^ (s + 1) * c + x + 2 ^ s = 2 ^ (s + 1) * c + (2 ^ s + x) by omega]

theorem stage_hi {s r c x : Nat} (f : Nat → Bool) (h : s + 1 ≤ r) (hx : x < 2 ^ s) :
    stageF (2 ^ r) (2 ^ s) f (2 ^ (s + 1) * c + (2 ^ s + x)) = if 2 ^ (s + 1) * c / 2 ^ r % 2 = 0 then f (2 ^ (s + 1) * c + x) || f (2 ^ (s + 1) * c + (2 ^ s + x)) else f (2 ^ (s + 1) * c + x) && f (2 ^ (s + 1) * c + (2 ^ s + x)) := by
  unfold stageF
  have e1 : ¬ (2 ^ (s + 1) * c + (2 ^ s + x)) / 2 ^ s % 2 = 0 := by
    rw [show 2 ^ (s + 1) * c + (2 ^ s + x) = 2 ^ s * (2 * c + 1) + x by rw [Nat.pow_succ, Nat.mul_assoc, Nat.mul_add]; omega, Nat.mul_add_div (Nat.two_pow_pos s), Nat.div_eq_of_lt hx]; omega
  have e2 := div_block (c := c) h (show x < 2 ^ (s + 1) by rw [Nat.pow_succ]; omega)
  rw [if_neg e1, show 2 ^ (s + 1) * c + (2 ^ s + x) - 2 ^ s = 2 ^ (s + 1) * c + x by omega, e2]

theorem half_base (s c : Nat) : 2 ^ (s + 1) * c = 2 ^ s * (2 * c) ∧ 2 ^ (s + 1) * c + 2 ^ s = 2 ^ s * (2 * c + 1) := by
  rw [Nat.pow_succ]
  constructor
  · rw [Nat.mul_assoc]
  · rw [Nat.mul_add, Nat.mul_assoc]; omega

theorem merge_const {r : Nat} (s : Nat) : ∀ (f : Nat → Bool) (c : Nat) (v : Bool), s ≤ r → (∀ x, x < 2 ^ s → f (2 ^ s * c + x) = v) → ∀ x, x < 2 ^ s → mergeF (2 ^ r) s f (2 ^ s * c + x) = v := by
  induction s with
  | zero => exact fun f c v _ h => h
  | succ s ih =>
    intro f c v hs h x hx
    obtain ⟨hb1, hb2⟩ := half_base s c
    have hlo : ∀ x, x < 2 ^ s → stageF (2 ^ r) (2 ^ s) f (2 ^ s * (2 * c) + x) = v := fun x hx => by
      rw [← hb1, stage_lo f hs hx, h x (by rw [Nat.pow_succ]; omega), h (2 ^ s + x) (by rw [Nat.pow_succ]; omega)]; simp
    have hhi : ∀ x, x < 2 ^ s → stageF (2 ^ r) (2 ^ s) f (2 ^ s * (2 * c + 1) + x) = v := fun x hx => by
      rw [← hb2, Nat.add_assoc, stage_hi f hs hx, h x (by rw [Nat.pow_succ]; omega), h (2 ^ s + x) (by rw [Nat.pow_succ]; omega)]; simp
    show mergeF (2 ^ r) s _ _ = v
    by_cases hxs : x < 2 ^ s
    · rw [hb1]; exact ih _ _ v (by omega) hlo x hxs
    · have : 2 ^ (s + 1) * c + x = 2 ^ s * (2 * c + 1) + (x - 2 ^ s) := by omega
      rw [this]; exact ih _ _ v (by omega) hhi _ (by rw [Nat.pow_succ] at hx; omega)

theorem up_join {P : Nat → Bool} {m : Nat} (h : ((∀ x, x < m → P x = false) ∧ UpB (fun x => P (m + x)) m) ∨ ((∀ x, x < m → P (m + x) = true) ∧ UpB P m)) : UpB P (2 * m) := by
  rcases h with ⟨h1, a, h2⟩ | ⟨h1, a, h2⟩
  · refine ⟨m + a, fun x hx => ?_⟩
    by_cases hm : x < m
    · rw [h1 x hm, eq_comm]; exact decide_eq_false (by omega)
    · have := h2 (x - m) (by omega)
      simp only [show m + (x - m) = x by omega] at this
      rw [this, Bool.eq_iff_iff]; simp only [decide_eq_true_eq]; omega
  · refine ⟨min a m, fun x hx => ?_⟩
    by_cases hm : x < m
    · rw [h2 x hm, Bool.eq_iff_iff]; simp only [decide_eq_true_eq]; omega
    · have := h1 (x - m) (by omega)
      rw [show m + (x - m) = x by omega] at this
      rw [this, eq_comm]; exact decide_eq_true (by omega)
theorem dn_join {P : Nat → Bool} {m : Nat} (h : ((∀ x, x < m → P (m + x) = false) ∧ DnB P m) ∨ ((∀ x, x < m → P x = true) ∧ DnB (fun x => P (m + x)) m)) : DnB P (2 * m) := by
  rcases h with ⟨h1, a, h2⟩ | ⟨h1, a, h2⟩
  · refine ⟨min a m, fun x hx => ?_⟩
    by_cases hm : x < m
    · rw [h2 x hm, Bool.eq_iff_iff]; simp only [decide_eq_true_eq]; omega
    · have := h1 (x - m) (by omega)
      rw [show m + (x - m) = x by omega] at this
      rw [this, eq_comm]; exact decide_eq_false (by omega)
  · refine ⟨m + a, fun x hx => ?_⟩
    by_cases hm : x < m
    · rw [h1 x hm, eq_comm]; exact decide_eq_true (by omega)
    · have := h2 (x - m) (by omega)
      simp only [show m + (x - m) = x by omega] at this
      rw [this, Bool.eq_iff_iff]; simp only [decide_eq_true_eq]; omega

theorem merge_sorts {r : Nat} (s : Nat) : ∀ (f : Nat → Bool) (c : Nat), s ≤ r → Bit (fun x => f (2 ^ s * c + x)) (2 ^ s) →
    (2 ^ s * c / 2 ^ r % 2 = 0 → UpB (fun x => mergeF (2 ^ r) s f (2 ^ s * c + x)) (2 ^ s)) ∧ (¬ 2 ^ s * c / 2 ^ r % 2 = 0 → DnB (fun x => mergeF (2 ^ r) s f (2 ^ s * c + x)) (2 ^ s)) := by
  induction s with
  | zero =>
    intro f c _ _
    constructor
    · intro _
      cases h : f (2 ^ 0 * c) with
      | true => exact ⟨0, fun x hx => by obtain rfl : x = 0 := by simpa using hx
                                         simpa [mergeF] using h⟩
      | false => exact ⟨1, fun x hx => by obtain rfl : x = 0 := by simpa using hx
                                          simpa [mergeF] using h⟩
    · intro _
      cases h : f (2 ^ 0 * c) with
      | true => exact ⟨1, fun x hx => by obtain rfl : x = 0 := by simpa using hx
                                         simpa [mergeF] using h⟩
      | false => exact ⟨0, fun x hx => by obtain rfl : x = 0 := by simpa using hx
                                          simpa [mergeF] using h⟩
  | succ s ih =>
    intro f c hs hbit
    obtain ⟨hb1, hb2⟩ := half_base s c
    rw [show 2 ^ (s + 1) = 2 * 2 ^ s by rw [Nat.pow_succ]; omega] at hbit
    rw [show 2 * 2 ^ s = 2 ^ (s + 1) by rw [Nat.pow_succ]; omega] at hbit
    have hc := clean (m := 2 ^ s) (P := fun x => f (2 ^ (s + 1) * c + x)) (by rw [show 2 * 2 ^ s = 2 ^ (s + 1) by rw [Nat.pow_succ]; omega]; exact hbit)
    obtain ⟨hA, hO, hX⟩ := hc
    have hlo : ∀ x, x < 2 ^ s → stageF (2 ^ r) (2 ^ s) f (2 ^ s * (2 * c) + x) = if 2 ^ (s + 1) * c / 2 ^ r % 2 = 0 then f (2 ^ (s + 1) * c + x) && f (2 ^ (s + 1) * c + (2 ^ s + x)) else f (2 ^ (s + 1) * c + x) || f (2 ^ (s + 1) * c + (2 ^ s + x)) := fun x hx => by rw [← hb1]; exact stage_lo f hs hx
    have hhi : ∀ x, x < 2 ^ s → stageF (2 ^ r) (2 ^ s) f (2 ^ s * (2 * c + 1) + x) = if 2 ^ (s + 1) * c / 2 ^ r % 2 = 0 then f (2 ^ (s + 1) * c + x) || f (2 ^ (s + 1) * c + (2 ^ s + x)) else f (2 ^ (s + 1) * c + x) && f (2 ^ (s + 1) * c + (2 ^ s + x)) := fun x hx => by rw [← hb2, Nat.add_assoc]; exact stage_hi f hs hx
    have hd2 : 2 ^ s * (2 * c + 1) / 2 ^ r = 2 ^ (s + 1) * c / 2 ^ r := by
      rw [← hb2]; exact div_block hs (by rw [Nat.pow_succ]; have := Nat.two_pow_pos s; omega)
    by_cases hup : 2 ^ (s + 1) * c / 2 ^ r % 2 = 0
    · refine ⟨fun _ => ?_, fun h => absurd hup h⟩
      simp only [if_pos hup] at hlo hhi
      have i1 := (ih (stageF (2 ^ r) (2 ^ s) f) (2 * c) (by omega) (hA.congr hlo)).1 (by rw [← hb1]; exact hup)
      have i2 := (ih (stageF (2 ^ r) (2 ^ s) f) (2 * c + 1) (by omega) (hO.congr hhi)).1 (by rw [hd2]; exact hup)
      rw [show 2 ^ (s + 1) = 2 * 2 ^ s by rw [Nat.pow_succ]; omega] at *
      refine up_join ?_
      rcases hX with hX | hX
      · refine .inl ⟨fun x hx => ?_, i2.congr fun x hx => ?_⟩
        · show mergeF _ s _ _ = _
          rw [hb1]; exact merge_const s _ _ _ (by omega) (fun x hx => (hlo x hx).trans (hX x hx)) x hx
        · show mergeF _ s _ _ = _
          rw [← Nat.add_assoc, hb2]
      · refine .inr ⟨fun x hx => ?_, i1.congr fun x hx => ?_⟩
        · show mergeF _ s _ _ = _
          rw [← Nat.add_assoc, hb2]; exact merge_const s _ _ _ (by omega) (fun x hx => (hhi x hx).trans (hX x hx)) x hx
        · show mergeF _ s _ _ = _
          rw [hb1]
    · refine ⟨fun h => absurd h hup, fun _ => ?_⟩
      simp only [if_neg hup] at hlo hhi
      have i1 := (ih (stageF (2 ^ r) (2 ^ s) f) (2 * c) (by omega) (hO.congr hlo)).2 (by rw [← hb1]; exact hup)
      have i2 := (ih (stageF (2 ^ r) (2 ^ s) f) (2 * c + 1) (by omega) (hA.congr hhi)).2 (by rw [hd2]; exact hup)
      rw [show 2 ^ (s + 1) = 2 * 2 ^ s by rw [Nat.pow_succ]; omega] at *
      refine dn_join ?_
      rcases hX with hX | hX
      · refine .inl ⟨fun x hx => ?_, i1.congr fun x hx => ?_⟩
        · show mergeF _ s _ _ = _
          rw [← Nat.add_assoc, hb2]; exact merge_const s _ _ _ (by omega) (fun x hx => (hhi x hx).trans (hX x hx)) x hx
        · show mergeF _ s _ _ = _
          rw [hb1]
      · refine .inr ⟨fun x hx => ?_, i2.congr fun x hx => ?_⟩
        · show mergeF _ s _ _ = _
          rw [hb1]; exact merge_const s _ _ _ (by omega) (fun x hx => (hlo x hx).trans (hX x hx)) x hx
        · show mergeF _ s _ _ = _
          rw [← Nat.add_assoc, hb2]

theorem bit_updn {P : Nat → Bool} {m : Nat} (h1 : UpB P m) (h2 : DnB (fun x => P (m + x)) m) : Bit P (2 * m) := by
  obtain ⟨a, h1⟩ := h1
  obtain ⟨b, h2⟩ := h2
  refine ⟨min a m, m + min b m, .inl fun x hx => ?_⟩
  by_cases hm : x < m
  · rw [h1 x hm, Bool.eq_iff_iff]; simp only [decide_eq_true_eq]; omega
  · have := h2 (x - m) (by omega)
    simp only [show m + (x - m) = x by omega] at this
    rw [this, Bool.eq_iff_iff]; simp only [decide_eq_true_eq]; omega

theorem net_blocks (f : Nat → Bool) (r : Nat) : ∀ c, (c % 2 = 0 → UpB (fun x => netF r f (2 ^ r * c + x)) (2 ^ r)) ∧ (¬ c % 2 = 0 → DnB (fun x => netF r f (2 ^ r * c + x)) (2 ^ r)) := by
  induction r with
  | zero =>
    intro c
    have := merge_sorts (r := 0) 0 f c (Nat.le_refl _) (by
      cases h : f (2 ^ 0 * c) with
      | true => exact ⟨0, 1, .inl fun x hx => by obtain rfl : x = 0 := by simpa using hx
                                                 simpa using h⟩
      | false => exact ⟨0, 1, .inr fun x hx => by obtain rfl : x = 0 := by simpa using hx
                                                  simpa using h⟩)
    simpa [mergeF, netF] using this
  | succ r ih =>
    intro c
    obtain ⟨hb1, hb2⟩ := half_base r c
    have i1 := (ih (2 * c)).1 (by omega)
    have i2 := (ih (2 * c + 1)).2 (by omega)
    have hbit := bit_updn (P := fun x => netF r f (2 ^ (r + 1) * c + x)) (m := 2 ^ r) (i1.congr fun x hx => by rw [hb1]) (i2.congr fun x hx => by rw [← Nat.add_assoc, hb2])
    have := merge_sorts (r := r + 1) (r + 1) (netF r f) c (Nat.le_refl _) (by rw [show 2 * 2 ^ r = 2 ^ (r + 1) by rw [Nat.pow_succ]; omega] at hbit; exact hbit)
    rw [Nat.mul_div_cancel_left _ (Nat.two_pow_pos _)] at this
    exact this
theorem net_up (f : Nat → Bool) (r : Nat) : UpB (netF r f) (2 ^ r) := by
  have := (net_blocks f r 0).1 rfl
  simpa using this
end Go.Sg
