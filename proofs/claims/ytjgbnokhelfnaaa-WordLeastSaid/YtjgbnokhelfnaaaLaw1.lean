/-
  The references of chapter 1 and the laws' head.
-/
import Derived.Test.YtjgbnokhelfnaaaWord
import Derived.Deep.LoopGhost
namespace Go.Proofs.Ytjgbnokhelfnaaa
open Go.RowKit Go.Sg

theorem shown1 (w : World) : Calls Try.prog 11 #[] w fun e w' => e = .returned (.bool true) ∧ w' = w := by
  have e1 : lm 3 5 = 18446744073709551615 := by decide
  have e2 : pk 18446744073709551615 7 9 = 7 := by decide
  have e3 : logI 9 = 3 := by decide
  have e4 : roundI 9 = 16 := by decide
  go_enter Try.func11, Try.ntmps11
  go_wp2_with (first
    | (go_at_call 20; refine (less_any 3 5 (by simp [Word]) (by simp [Word]) _).mono ?_; rintro e w' ⟨rfl, rfl⟩)
    | (go_at_call 22; refine (pick_any _ 7 9 (by simp [Word]) (by simp [Word]) (by simp [Word]) _).mono ?_; rintro e w' ⟨rfl, rfl⟩)
    | (go_at_call 12; refine (log_any 9 (by simp [Word]) _).mono ?_; rintro e w' ⟨rfl, rfl⟩)
    | (go_at_call 14; refine (round_any 9 (by omega) (by omega) _).mono ?_; rintro e w' ⟨rfl, rfl⟩))
  go_ret
  exact ⟨rfl, rfl⟩

theorem refMask_any (b : Bool) (w : World) : Calls Try.prog 31 #[.bool b] w fun e w' => e = .returned (.int .u64 (mk b)) ∧ w' = w := by
  have H := Lib.hid (show mk true = 18446744073709551615 from rfl)
  have H' := Lib.hid (show mk false = 0 from rfl)
  cases b
  all_goals
    go_enter Try.func31, Try.ntmps31
    go_wp2
    go_ret
    exact ⟨rfl, rfl⟩

theorem refLog_any (a : Int) (ha : Word a) (w : World) : Calls Try.prog 13 #[.int .u64 a] w fun e w' => e = .returned (.int .i64 (logI a)) ∧ w' = w := by
  have hl := logI_bd a
  obtain ⟨a0, a1⟩ := ha
  obtain ⟨hl0, hl1⟩ := hl
  go_enter Try.func13, Try.ntmps13
  go_wp2
  go_loop [0, 3] (fun x k => ∃ c j : Int, 0 ≤ c ∧ c < 18446744073709551616 ∧ 0 ≤ j ∧ x = .int .u64 c ∧ k = .int .i64 j ∧ Hid (j + logI c = logI a)) (fun x _ => (intOf x).toNat)
  case atStart => exact ⟨a, 0, a0, a1, by omega, rfl, rfl, Lib.hid (by omega)⟩
  case round =>
    obtain ⟨c, j, c0, c1, j0, rfl, rfl, HJ⟩ := hrel
    have hlc := logI_bd c
    obtain ⟨hl2, hl3⟩ := hlc
    by_cases h : 1 < c
    · have hj : j ≤ 64 := by have := HJ.out; omega
      have HH := Lib.hid (logI_half ⟨c0, c1⟩ h)
      go_wp2
      go_round
      case rel => exact ⟨c / 2, j + 1, by omega, by omega, by omega, rfl, rfl, Lib.hid (by have h1 := HJ.out; have h2 := HH.out; omega)⟩
      case measure => simp [intOf]; omega
    · have HZ := Lib.hid (logI_low (a := c) (by omega))
      go_wp2
      go_ret
      exact ⟨ret_i64 (by have h1 := HJ.out; have h2 := HZ.out; omega), rfl⟩

theorem refRound_any (n : Int) (hn : Num n) (w : World) : Calls Try.prog 15 #[.int .i64 n] w fun e w' => e = .returned (.int .i64 (roundI n)) ∧ w' = w := by
  have HN := Lib.hid hn
  obtain ⟨n0, n1⟩ := hn
  go_enter Try.func15, Try.ntmps15
  go_wp2
  go_loop [3] (fun x => ∃ (c : Int) (j : Nat), x = .int .i64 c ∧ 1 ≤ c ∧ c ≤ 4611686018427387904 ∧ j ≤ 62 ∧ Hid (c = 2 ^ j) ∧ Hid (j = 0 ∨ (2 : Int) ^ (j - 1) < n)) (fun x => (4611686018427387904 - intOf x).toNat)
  case atStart => exact ⟨1, 0, rfl, by omega, by omega, by omega, Lib.hid (by simp), Lib.hid (.inl rfl)⟩
  case round =>
    obtain ⟨c, j, rfl, c0, c1, j1, HC, HJ⟩ := hrel
    by_cases h : c < n
    · by_cases h' : c < 4611686018427387904
      · have hb : decide (c < n) = true := decide_eq_true h
        have hb' : decide (c < 4611686018427387904) = true := decide_eq_true h'
        have hj2 : j < 62 := by
          have := HC.out
          rcases Nat.lt_or_ge j 62 with g | g
          · exact g
          · have e : j = 62 := by omega
            rw [e, two_pow_62] at this
            omega
        go_wp2
        go_round
        case rel => exact ⟨2 * c, j + 1, rfl, by omega, by have := HC.out; have e := pow_le_62 (j + 1) (by omega); rw [Int.pow_succ] at e; omega, by omega, Lib.hid (by have := HC.out; rw [Int.pow_succ]; omega), Lib.hid (.inr (by have := HC.out; simp only [Nat.add_sub_cancel]; omega))⟩
        case measure => simp [intOf]; omega
      · have hb : decide (c < n) = true := decide_eq_true h
        have hb' : decide (c < 4611686018427387904) = false := decide_eq_false h'
        have HR := Lib.hid (roundI_spec HN.out j j1 HJ.out (.inr (by
          have := HC.out
          rcases Nat.lt_or_ge j 62 with g | g
          · have e := pow_le_62 (j + 1) (by omega); rw [Int.pow_succ] at e; omega
          · omega)))
        go_wp2
        go_ret
        exact ⟨ret_i64 (by rw [HR.out, HC.out]), rfl⟩
    · have hb : decide (c < n) = false := decide_eq_false h
      have HR := Lib.hid (roundI_spec HN.out j j1 HJ.out (.inl (by have := HC.out; omega)))
      go_wp2
      go_ret
      exact ⟨ret_i64 (by rw [HR.out, HC.out]), rfl⟩

theorem refZero_any (a : Int) (w : World) : Calls Try.prog 17 #[.int .u64 a] w fun e w' => e = .returned (.int .u64 (zm a)) ∧ w' = w := by
  have H := Lib.hid (show mk (a == 0) = zm a from rfl)
  go_enter Try.func17, Try.ntmps17
  go_wp2_with (go_at_call 31; refine (refMask_any _ _).mono ?_; rintro e w' ⟨rfl, rfl⟩)
  go_ret
  exact ⟨ret_u64 H.out, rfl⟩
theorem refEqual_any (a b : Int) (w : World) : Calls Try.prog 19 #[.int .u64 a, .int .u64 b] w fun e w' => e = .returned (.int .u64 (em a b)) ∧ w' = w := by
  have H := Lib.hid (show mk (a == b) = em a b from rfl)
  go_enter Try.func19, Try.ntmps19
  go_wp2_with (go_at_call 31; refine (refMask_any _ _).mono ?_; rintro e w' ⟨rfl, rfl⟩)
  go_ret
  exact ⟨ret_u64 H.out, rfl⟩
theorem refLess_any (a b : Int) (w : World) : Calls Try.prog 21 #[.int .u64 a, .int .u64 b] w fun e w' => e = .returned (.int .u64 (lm a b)) ∧ w' = w := by
  go_enter Try.func21, Try.ntmps21
  go_wp2_with (go_at_call 31; refine (refMask_any _ _).mono ?_; rintro e w' ⟨rfl, rfl⟩)
  go_ret
  exact ⟨rfl, rfl⟩
end Go.Proofs.Ytjgbnokhelfnaaa
