/-
  The walk of shellgamelaw1.WordHalves.
-/
import Derived.Test.YtjgbnokhelfnaaaLaw1
namespace Go.Proofs.Ytjgbnokhelfnaaa
open Go.RowKit Go.Sg
theorem WordHalves_walk (a b : Int) (ha : Word a) (hb : Word b) (w : World) :
    Calls Try.prog 5 #[.int .u64 a, .int .u64 b] w fun e w' => e = .returned (.bool true) ∧ Below w.heap.size w w' := by
  have K0 := Lib.hid (log_any a ha)
  have K1 := Lib.hid (log_any b hb)
  obtain ⟨l0, l1⟩ := logI_bd a
  have hm : a ≤ b → logI a ≤ logI b := logI_mono ha hb
  have g4 : decide (logI a < 0) = false := decide_eq_false (by omega)
  have g5 : decide (63 < logI a) = false := decide_eq_false (by omega)
  by_cases c0 : a = 0
  · subst c0
    have g0 : logI 0 = 0 := by decide
    have g1 : decide (0 ≤ b) = true := decide_eq_true hb.1
    have g2 : decide (logI b < logI 0) = false := decide_eq_false (by have := hm hb.1; omega)
    rw [g0] at g2 l0 l1 g4 g5
    clear hm ha hb g0
    have g0 : logI 0 = 0 := by decide
    go_enter Try.func5, Try.ntmps5
    go_wp2_with (first
      | (go_at_call 11; refine (shown1 _).mono ?_; rintro e w' ⟨rfl, rfl⟩)
      | (go_at_call 12; (first | (with_reducible refine (K0.out _).mono ?_) | (with_reducible refine (K1.out _).mono ?_)); rintro e w' ⟨rfl, rfl⟩))
    go_ret
    exact ⟨rfl, Below.refl _ _⟩
  · obtain ⟨f1, f2⟩ := halves_facts ha c0
    have g0 : (a == 0) = false := by simpa using c0
    have hp : decide (a ≤ b) = true → decide (logI b < logI a) = false := fun h => decide_eq_false (by have := hm (of_decide_eq_true h); omega)
    have a0 := ha.1
    have a1 := ha.2
    clear hm
    by_cases c1 : a ≤ b
    · have b1 : decide (a ≤ b) = true := decide_eq_true c1
      have b2 := hp b1
      by_cases c2 : 9223372036854775808 ≤ a
      · have b3 : decide (9223372036854775808 ≤ a) = true := decide_eq_true c2
        have K2 := K1
        have K3 := K1
        clear hp f2 hb
        go_enter Try.func5, Try.ntmps5
        go_wp2_with (first
          | (go_at_call 11; refine (shown1 _).mono ?_; rintro e w' ⟨rfl, rfl⟩)
          | (go_at_call 12; (first | (with_reducible refine (K0.out _).mono ?_) | (with_reducible refine (K1.out _).mono ?_) | (with_reducible refine (K2.out _).mono ?_) | (with_reducible refine (K3.out _).mono ?_)); rintro e w' ⟨rfl, rfl⟩))
        go_ret
        exact ⟨rfl, Below.refl _ _⟩
      · have b3 : decide (9223372036854775808 ≤ a) = false := decide_eq_false c2
        obtain ⟨f3, f4⟩ := f2 (by omega)
        have K2 : Hid (∀ w, Calls Try.prog 12 #[.int .u64 (2 * a)] w fun e w' => e = .returned (.int .i64 (logI a + 1)) ∧ w' = w) := Lib.hid fun w => by
          rw [← f3]; exact log_any (2 * a) ⟨by omega, by omega⟩ w
        have K3 : Hid (∀ w, Calls Try.prog 12 #[.int .u64 (2 * a + 1)] w fun e w' => e = .returned (.int .i64 (logI a + 1)) ∧ w' = w) := Lib.hid fun w => by
          rw [← f4]; exact log_any (2 * a + 1) ⟨by omega, by omega⟩ w
        clear hp f2 f3 f4 hb
        go_enter Try.func5, Try.ntmps5
        go_wp2_with (first
          | (go_at_call 11; refine (shown1 _).mono ?_; rintro e w' ⟨rfl, rfl⟩)
          | (go_at_call 12; (first | (with_reducible refine (K0.out _).mono ?_) | (with_reducible refine (K1.out _).mono ?_) | (with_reducible refine (K2.out _).mono ?_) | (with_reducible refine (K3.out _).mono ?_)); rintro e w' ⟨rfl, rfl⟩))
        go_ret
        exact ⟨rfl, Below.refl _ _⟩
    · have b1 : decide (a ≤ b) = false := decide_eq_false c1
      by_cases c2 : 9223372036854775808 ≤ a
      · have b3 : decide (9223372036854775808 ≤ a) = true := decide_eq_true c2
        have K2 := K1
        have K3 := K1
        clear hp f2 hb
        go_enter Try.func5, Try.ntmps5
        go_wp2_with (first
          | (go_at_call 11; refine (shown1 _).mono ?_; rintro e w' ⟨rfl, rfl⟩)
          | (go_at_call 12; (first | (with_reducible refine (K0.out _).mono ?_) | (with_reducible refine (K1.out _).mono ?_) | (with_reducible refine (K2.out _).mono ?_) | (with_reducible refine (K3.out _).mono ?_)); rintro e w' ⟨rfl, rfl⟩))
        go_ret
        exact ⟨rfl, Below.refl _ _⟩
      · have b3 : decide (9223372036854775808 ≤ a) = false := decide_eq_false c2
        obtain ⟨f3, f4⟩ := f2 (by omega)
        have K2 : Hid (∀ w, Calls Try.prog 12 #[.int .u64 (2 * a)] w fun e w' => e = .returned (.int .i64 (logI a + 1)) ∧ w' = w) := Lib.hid fun w => by
          rw [← f3]; exact log_any (2 * a) ⟨by omega, by omega⟩ w
        have K3 : Hid (∀ w, Calls Try.prog 12 #[.int .u64 (2 * a + 1)] w fun e w' => e = .returned (.int .i64 (logI a + 1)) ∧ w' = w) := Lib.hid fun w => by
          rw [← f4]; exact log_any (2 * a + 1) ⟨by omega, by omega⟩ w
        clear hp f2 f3 f4 hb
        go_enter Try.func5, Try.ntmps5
        go_wp2_with (first
          | (go_at_call 11; refine (shown1 _).mono ?_; rintro e w' ⟨rfl, rfl⟩)
          | (go_at_call 12; (first | (with_reducible refine (K0.out _).mono ?_) | (with_reducible refine (K1.out _).mono ?_) | (with_reducible refine (K2.out _).mono ?_) | (with_reducible refine (K3.out _).mono ?_)); rintro e w' ⟨rfl, rfl⟩))
        go_ret
        exact ⟨rfl, Below.refl _ _⟩
end Go.Proofs.Ytjgbnokhelfnaaa
