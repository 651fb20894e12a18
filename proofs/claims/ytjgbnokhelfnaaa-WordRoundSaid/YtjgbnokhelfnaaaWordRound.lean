/-
  The walk of shellgamelaw1.WordRound.
-/
import Derived.Test.YtjgbnokhelfnaaaLaw1
namespace Go.Proofs.Ytjgbnokhelfnaaa
open Go.RowKit Go.Sg
theorem WordRound_walk (n : Int) (hn : Num n) (w : World) :
    Calls Try.prog 4 #[.int .i64 n] w fun e w' => e = .returned (.bool true) ∧ Below w.heap.size w w' := by
  obtain ⟨f1, f2, f3, f4, f5, f6, f7, f8, f9⟩ := round_facts hn
  have H0 : ∀ w, Calls Try.prog 14 #[.int .i64 n] w fun e w' => e = .returned (.int .i64 (roundI n)) ∧ w' = w := fun w => round_any n hn.1 hn.2 w
  have H1 : ∀ w, Calls Try.prog 14 #[.int .i64 (roundI n)] w fun e w' => e = .returned (.int .i64 (roundI n)) ∧ w' = w := fun w => by
    have := round_any (roundI n) (by omega) (by omega) w
    rwa [f4] at this
  have H2 : ∀ w, Calls Try.prog 12 #[.int .u64 (roundI n)] w fun e w' => e = .returned (.int .i64 (logI (roundI n))) ∧ w' = w := fun w => log_any _ ⟨by omega, by omega⟩ w
  have hl := logI_bd (roundI n)
  obtain ⟨l0, l1⟩ := hl
  obtain ⟨n0, n1⟩ := hn
  clear f4
  generalize roundI n = r at *
  generalize logI r = l at *
  have K0 := Lib.hid H0
  have K1 := Lib.hid H1
  have K2 := Lib.hid H2
  clear H0 H1 H2
  have g1 : decide (r < 1) = false := decide_eq_false (by omega)
  have g3 : (r != r) = false := by simp
  have g4 : decide (l < 0) = false := decide_eq_false (by omega)
  by_cases c1 : n < 1
  · have e := f5 c1
    subst e
    have b1 : decide (n < 1) = true := decide_eq_true c1
    clear f5 f6 f7 f8
    go_enter Try.func4, Try.ntmps4
    go_wp2_with (first
      | (go_at_call 11; refine (shown1 _).mono ?_; rintro e w' ⟨rfl, rfl⟩)
      | (go_at_call 12; (with_reducible refine (K2.out _).mono ?_); rintro e w' ⟨rfl, rfl⟩)
      | (go_at_call 14; (first | (with_reducible refine (K1.out _).mono ?_) | (with_reducible refine (K0.out _).mono ?_)); rintro e w' ⟨rfl, rfl⟩))
    go_ret
    exact ⟨rfl, Below.refl _ _⟩
  · have b1 : decide (n < 1) = false := decide_eq_false c1
    by_cases c2 : 4611686018427387904 < n
    · have e := f6 c2
      subst e
      have b2 : decide (4611686018427387904 < n) = true := decide_eq_true c2
      have b3 : decide (1 < n) = true := decide_eq_true (by omega)
      clear f5 f6 f7 f8
      go_enter Try.func4, Try.ntmps4
      go_wp2_with (first
        | (go_at_call 11; refine (shown1 _).mono ?_; rintro e w' ⟨rfl, rfl⟩)
        | (go_at_call 12; (with_reducible refine (K2.out _).mono ?_); rintro e w' ⟨rfl, rfl⟩)
        | (go_at_call 14; (first | (with_reducible refine (K1.out _).mono ?_) | (with_reducible refine (K0.out _).mono ?_)); rintro e w' ⟨rfl, rfl⟩))
      go_ret
      exact ⟨rfl, Below.refl _ _⟩
    · have b2 : decide (4611686018427387904 < n) = false := decide_eq_false c2
      have b4 := f7 (by omega)
      have b5 : decide (n ≤ r) = true := decide_eq_true b4
      by_cases c3 : r = 1
      · subst c3
        clear f5 f6 f7 f8
        go_enter Try.func4, Try.ntmps4
        go_wp2_with (first
          | (go_at_call 11; refine (shown1 _).mono ?_; rintro e w' ⟨rfl, rfl⟩)
          | (go_at_call 12; (with_reducible refine (K2.out _).mono ?_); rintro e w' ⟨rfl, rfl⟩)
          | (go_at_call 14; (first | (with_reducible refine (K1.out _).mono ?_) | (with_reducible refine (K0.out _).mono ?_)); rintro e w' ⟨rfl, rfl⟩))
        go_ret
        exact ⟨rfl, Below.refl _ _⟩
      · have b6 := f8 (by omega) c3
        have b7 : (r == 1) = false := by simpa using c3
        have b8 : decide (r / 2 < n) = true := decide_eq_true b6
        clear f5 f6 f7 f8
        go_enter Try.func4, Try.ntmps4
        go_wp2_with (first
          | (go_at_call 11; refine (shown1 _).mono ?_; rintro e w' ⟨rfl, rfl⟩)
          | (go_at_call 12; (with_reducible refine (K2.out _).mono ?_); rintro e w' ⟨rfl, rfl⟩)
          | (go_at_call 14; (first | (with_reducible refine (K1.out _).mono ?_) | (with_reducible refine (K0.out _).mono ?_)); rintro e w' ⟨rfl, rfl⟩))
        go_ret
        exact ⟨rfl, Below.refl _ _⟩
end Go.Proofs.Ytjgbnokhelfnaaa
