/-
  The walks of policy's keys, and of how two items are compared.
-/
import Derived.Test.YtmnnfhplgepiaaaStabJ
import Derived.Test.YtmnnfhplgepiaaaPure1
namespace Go.Sg
open Go Go.RowKit
theorem an_62 {r : Int} (hr : Word r) : an r 4611686018427387903 = r % 4611686018427387904 := by
  obtain ⟨n, rfl, hn⟩ := nat_word hr
  have h : n &&& (2 ^ 62 - 1) = n % 2 ^ 62 := Nat.and_two_pow_sub_one_eq_mod n 62
  unfold an
  have e : (4611686018427387903 : Int).toNat = 2 ^ 62 - 1 := by decide
  rw [e, Int.toNat_natCast, h]
  omega
theorem rr_62 {r : Int} (h0 : 0 ≤ r) (h1 : r < 4611686018427387904) : rr r 4611686018427387904 = r + 4611686018427387904 := by
  obtain ⟨n, rfl⟩ := Int.eq_ofNat_of_zero_le h0
  have h : 2 ^ 62 * 1 + n = 2 ^ 62 * 1 ||| n := Nat.two_pow_add_eq_or_of_lt (by omega) 1
  unfold rr
  have e : (4611686018427387904 : Int).toNat = 2 ^ 62 * 1 := by decide
  rw [e, Int.toNat_natCast, Nat.or_comm, ← h]
  omega
theorem an_31 {r : Int} (hr : Word r) : an r 2147483647 = r % 2147483648 := by
  obtain ⟨n, rfl, hn⟩ := nat_word hr
  have h : n &&& (2 ^ 31 - 1) = n % 2 ^ 31 := Nat.and_two_pow_sub_one_eq_mod n 31
  unfold an
  have e : (2147483647 : Int).toNat = 2 ^ 31 - 1 := by decide
  rw [e, Int.toNat_natCast, h]
  omega
theorem rr_63 {r : Int} (h0 : 0 ≤ r) (h1 : r < 9223372036854775808) : rr 9223372036854775808 r = 9223372036854775808 + r := by
  obtain ⟨n, rfl⟩ := Int.eq_ofNat_of_zero_le h0
  have h : 2 ^ 63 * 1 + n = 2 ^ 63 * 1 ||| n := Nat.two_pow_add_eq_or_of_lt (by omega) 1
  unfold rr
  have e : (9223372036854775808 : Int).toNat = 2 ^ 63 * 1 := by decide
  rw [e, Int.toNat_natCast, ← h]
  omega
def blankI (c : Int) : Int := 9223372036854775808 + c % 2147483648
def cmpZ (a b : Int) : Int := if a < b then -1 else if b < a then 1 else 0
/-- what the comparison of two items tells -/
def cmpV (x y : It) : Int := if cmpZ (keyI x) (keyI y) = 0 then cmpZ x.1 y.1 else cmpZ (keyI x) (keyI y)
theorem cmpV_lt (x y : It) : decide (cmpV x y < 0) = ltI x y := by
  rw [Bool.eq_iff_iff, decide_eq_true_eq, ltI_iff]
  unfold cmpV cmpZ
  by_cases h1 : keyI x < keyI y
  · simp [h1]
  · by_cases h2 : keyI y < keyI x
    · simp [h1, h2]
      omega
    · have h3 : keyI x = keyI y := by omega
      by_cases h4 : x.1 < y.1
      · simp [h3, h4]
      · by_cases h5 : y.1 < x.1 <;> simp [h3, h4, h5]
theorem cmpZ_num (a b : Int) : -1 ≤ cmpZ a b ∧ cmpZ a b ≤ 1 := by
  unfold cmpZ
  split
  · omega
  · split <;> omega
/-- An item whose rank is a word. -/
def ItW (x : It) : Prop := Word x.2.1
end Go.Sg
namespace Go.Proofs.Ytmnnfhplgepiaaa
open Go Go.RowKit Go.Sg

theorem key_any (x : It) (hx : ItW x) (w : World) : Calls Try.prog 14 #[.agg #[.int .i64 x.1, .int .u64 x.2.1, .bool x.2.2]] w fun e w' => e = .returned (.int .u64 (keyI x)) ∧ Below w.heap.size w w' := by
  obtain ⟨c, r, b⟩ := x
  have hr : Word r := hx
  have HB1 : Hid (bits .and .u64 r 4611686018427387903 = r % 4611686018427387904) := Lib.hid (by rw [bits_an hr ⟨by decide, by decide⟩, an_62 hr])
  have HB2 : Hid (bits .or .u64 (r % 4611686018427387904) 4611686018427387904 = r % 4611686018427387904 + 4611686018427387904) := Lib.hid (by rw [bits_rr ⟨by omega, by omega⟩ ⟨by decide, by decide⟩, rr_62 (by omega) (by omega)])
  have HB : Hid (Below w.heap.size w (w.alloc (.cells #[.int .i64 c, .int .u64 r, .bool b] 28))) := Lib.hid ((Below.refl _ _).alloc (Nat.le_refl _) _)
  clear hx
  go_enter Try.func14, Try.ntmps14
  cases b
  · go_upto_region 2 with fail
    rw [HB1.out]
    go_upto_region 4 with fail
    rw [HB2.out]
    go_wp2
    go_ret
    exact ⟨ret_u64 (by simp [keyI]), HB.out⟩
  · go_upto_region 2 with fail
    rw [HB1.out]
    go_wp2
    go_ret
    exact ⟨ret_u64 (by simp [keyI]), HB.out⟩

theorem nanU_any (a : Int) (w : World) : Calls Try.prog 31 #[.int .u64 a] w fun e w' => e = .returned (.bool false) ∧ w' = w := by
  go_enter Try.func31, Try.ntmps31
  go_wp2
  go_ret
  exact ⟨by simp, rfl⟩
theorem nanI_any (a : Int) (w : World) : Calls Try.prog 32 #[.int .i64 a] w fun e w' => e = .returned (.bool false) ∧ w' = w := by
  go_enter Try.func32, Try.ntmps32
  go_wp2
  go_ret
  exact ⟨by simp, rfl⟩
theorem compareU_any (a b : Int) (w : World) : Calls Try.prog 27 #[.int .u64 a, .int .u64 b] w fun e w' => e = .returned (.int .i64 (cmpZ a b)) ∧ w' = w := by
  have K := Lib.hid (fun a w => nanU_any a w)
  unfold cmpZ
  by_cases h1 : a < b
  · have d1 : decide (a < b) = true := decide_eq_true h1
    rw [if_pos h1]
    clear h1
    go_enter Try.func27, Try.ntmps27
    go_wp2_with (go_at_call 31; refine (K.out _ _).mono ?_; rintro e w' ⟨rfl, rfl⟩)
    go_ret
    exact ⟨rfl, rfl⟩
  · have d1 : decide (a < b) = false := decide_eq_false h1
    rw [if_neg h1]
    by_cases h2 : b < a
    · have d2 : decide (b < a) = true := decide_eq_true h2
      rw [if_pos h2]
      clear h1 h2
      go_enter Try.func27, Try.ntmps27
      go_wp2_with (go_at_call 31; refine (K.out _ _).mono ?_; rintro e w' ⟨rfl, rfl⟩)
      go_ret
      exact ⟨rfl, rfl⟩
    · have d2 : decide (b < a) = false := decide_eq_false h2
      rw [if_neg h2]
      clear h1 h2
      go_enter Try.func27, Try.ntmps27
      go_wp2_with (go_at_call 31; refine (K.out _ _).mono ?_; rintro e w' ⟨rfl, rfl⟩)
      go_ret
      exact ⟨rfl, rfl⟩
theorem compareI_any (a b : Int) (w : World) : Calls Try.prog 28 #[.int .i64 a, .int .i64 b] w fun e w' => e = .returned (.int .i64 (cmpZ a b)) ∧ w' = w := by
  have K := Lib.hid (fun a w => nanI_any a w)
  unfold cmpZ
  by_cases h1 : a < b
  · have d1 : decide (a < b) = true := decide_eq_true h1
    rw [if_pos h1]
    clear h1
    go_enter Try.func28, Try.ntmps28
    go_wp2_with (go_at_call 32; refine (K.out _ _).mono ?_; rintro e w' ⟨rfl, rfl⟩)
    go_ret
    exact ⟨rfl, rfl⟩
  · have d1 : decide (a < b) = false := decide_eq_false h1
    rw [if_neg h1]
    by_cases h2 : b < a
    · have d2 : decide (b < a) = true := decide_eq_true h2
      rw [if_pos h2]
      clear h1 h2
      go_enter Try.func28, Try.ntmps28
      go_wp2_with (go_at_call 32; refine (K.out _ _).mono ?_; rintro e w' ⟨rfl, rfl⟩)
      go_ret
      exact ⟨rfl, rfl⟩
    · have d2 : decide (b < a) = false := decide_eq_false h2
      rw [if_neg h2]
      clear h1 h2
      go_enter Try.func28, Try.ntmps28
      go_wp2_with (go_at_call 32; refine (K.out _ _).mono ?_; rintro e w' ⟨rfl, rfl⟩)
      go_ret
      exact ⟨rfl, rfl⟩
theorem or_any (a b : Int) (g : Nat) (w : World) (hg : w.cell? ⟨g, 0, none⟩ = some (.int .i64 a) ∧ w.cell? ⟨g, 1, none⟩ = some (.int .i64 b)) : Calls Try.prog 26 #[.slice (some ⟨g, 0, none⟩) 2 2] w fun e w' => e = .returned (.int .i64 (if a = 0 then b else a)) ∧ w' = w := by
  obtain ⟨c0, c1⟩ := hg
  obtain ⟨wo, rfl⟩ : ∃ wo : World, wo = w := ⟨_, rfl⟩
  obtain ⟨v, hv⟩ : ∃ v, (if a = 0 then b else a) = v := ⟨_, rfl⟩
  rw [hv]
  have HV := Lib.hid hv
  clear hv
  go_enter Try.func26, Try.ntmps26
  go_wp2_with fail
  go_loopw [8] (fun i wr => Hid (wr = wo) ∧ (i = .int .i64 0 ∨ (i = .int .i64 1 ∧ a = 0) ∨ (i = .int .i64 2 ∧ a = 0 ∧ b = 0))) (fun i _ => 2 - (intOf i).toNat)
  case atStart => exact ⟨Lib.hid rfl, .inl rfl⟩
  case round =>
    obtain ⟨hw, hi⟩ := hrel
    obtain rfl := hw.out
    clear hw
    rcases hi with rfl | ⟨rfl, rfl⟩ | ⟨rfl, rfl, rfl⟩
    · by_cases h1 : a = 0
      · subst h1
        go_wp2
        go_roundw
        case rel => exact ⟨Lib.hid (by simp), .inr (.inl ⟨by go_num, by simp⟩)⟩
        case measure => simp [intOf]
      · have d : (a == 0) = false := beq_eq_false_iff_ne.2 h1
        have HR : Hid (a = v) := Lib.hid (by rw [← HV.out, if_neg h1])
        go_wp2
        go_ret
        exact ⟨by rw [HR.out]; rfl, rfl⟩
    · by_cases h1 : b = 0
      · subst h1
        go_wp2
        go_roundw
        case rel => exact ⟨Lib.hid (by simp), .inr (.inr ⟨by go_num, by simp, by simp⟩)⟩
        case measure => simp [intOf]
      · have d : (b == 0) = false := beq_eq_false_iff_ne.2 h1
        have HR : Hid (b = v) := Lib.hid (by rw [← HV.out, if_pos rfl])
        go_wp2
        go_ret
        exact ⟨by rw [HR.out]; rfl, rfl⟩
    · have HR : Hid (0 = v) := Lib.hid (by rw [← HV.out, if_pos rfl])
      go_wp2
      go_ret
      exact ⟨by rw [← HR.out]; rfl, rfl⟩
end Go.Proofs.Ytmnnfhplgepiaaa
