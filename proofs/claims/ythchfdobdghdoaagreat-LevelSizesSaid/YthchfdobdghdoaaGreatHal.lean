/-
  Joined texts: Law1.
-/
import Derived.Test.YthchfdobdghdoaaGreatHaf
import Derived.Test.YthchfdobdghdoaaGreatHak
import Derived.Deep.LoopGhost
set_option linter.unusedVariables false
set_option linter.unusedSimpArgs false
set_option linter.unusedSectionVars false
set_option linter.unnecessarySimpa false
section

/-
  The references of chapter 1 and the laws' head.
-/
namespace Go.Proofs.YthchfdobdghdoaaGreat
open Go.RowKit Go.Sg

theorem refRound_any (n : Int) (hn : Num n) (w : World) : Calls Tryz.prog 35 #[.int .i64 n] w fun e w' => e = .returned (.int .i64 (roundI n)) ∧ w' = w := by
  have HN := Lib.hid hn
  obtain ⟨n0, n1⟩ := hn
  go_enter Tryz.func35, Tryz.ntmps35
  go_wp2
  go_loop [3] (fun x => ∃ (c : Int) (j : Nat), x = .int .i64 c ∧ 1 ≤ c ∧ c ≤ 4611686018427387904 ∧ j ≤ 62 ∧ Hid (c = 2 ^ j) ∧ Hid (j = 0 ∨ (2 : Int) ^ (j - 1) < n)) (fun x => (4611686018427387904 - intOf x).toNat)
  case atStart => exact ⟨1, 0, rfl, by omega, by omega, by omega, Lib.hid (by simp), Lib.hid (.inl rfl)⟩
  case round =>
    obtain ⟨c, j, rfl, c0, c1, j1, HC, HJ⟩ := hrel
    by_cases h : c < n
    · by_cases h' : c < 4611686018427387904
      · have hb : decide (c < n) = true := decide_eq_true h
        have hb' : decide (c < 4611686018427387904) = true := decide_eq_true h'
        have hj2 : j < 62 := by
          have := HC.out
          rcases Nat.lt_or_ge j 62 with g | g
          · exact g
          · have e : j = 62 := by omega
            rw [e, two_pow_62] at this
            omega
        go_wp2
        go_round
        case rel => exact ⟨2 * c, j + 1, rfl, by omega, by have := HC.out; have e := pow_le_62 (j + 1) (by omega); rw [Int.pow_succ] at e; omega, by omega, Lib.hid (by have := HC.out; rw [Int.pow_succ]; omega), Lib.hid (.inr (by have := HC.out; simp only [Nat.add_sub_cancel]; omega))⟩
        case measure => simp [intOf]; omega
      · have hb : decide (c < n) = true := decide_eq_true h
        have hb' : decide (c < 4611686018427387904) = false := decide_eq_false h'
        have HR := Lib.hid (roundI_spec HN.out j j1 HJ.out (.inr (by
          have := HC.out
          rcases Nat.lt_or_ge j 62 with g | g
          · have e := pow_le_62 (j + 1) (by omega); rw [Int.pow_succ] at e; omega
          · omega)))
        go_wp2
        go_ret
        exact ⟨ret_i64 (by rw [HR.out, HC.out]), rfl⟩
    · have hb : decide (c < n) = false := decide_eq_false h
      have HR := Lib.hid (roundI_spec HN.out j j1 HJ.out (.inl (by have := HC.out; omega)))
      go_wp2
      go_ret
      exact ⟨ret_i64 (by rw [HR.out, HC.out]), rfl⟩

end Go.Proofs.YthchfdobdghdoaaGreat
end
