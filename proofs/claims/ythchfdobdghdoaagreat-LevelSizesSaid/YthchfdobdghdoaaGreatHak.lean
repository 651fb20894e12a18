/-
  Joined texts: WLog, WRound.
-/
import Derived.Test.YthchfdobdghdoaaGreatHab
import Derived.Test.YthchfdobdghdoaaGreatHac
import Derived.WalkKit
import Derived.Lib.Hide
set_option linter.unusedVariables false
set_option linter.unusedSimpArgs false
set_option linter.unusedSectionVars false
set_option linter.unnecessarySimpa false
section

/-
  The walks of word.Log.
-/
namespace Go.Proofs.YthchfdobdghdoaaGreat
open Go.RowKit Go.Sg

theorem len64_any (a : Int) (ha : Word a) (w : World) : Calls Tryz.prog 78 #[.int .u64 a] w fun e w' => e = .returned (.int .i64 (lenI a)) ∧ w' = w :=
  Tryz.bits_Len64 a w ha.1 (by have := ha.2; omega)

theorem log_any (a : Int) (ha : Word a) (w : World) : Calls Tryz.prog 80 #[.int .u64 a] w fun e w' => e = .returned (.int .i64 (logI a)) ∧ w' = w := by
  have hb := lenI_bd a
  obtain ⟨hb0, hb1⟩ := hb
  have H0 := Lib.hid (len64_any a ha w)
  clear ha
  go_enter Tryz.func80, Tryz.ntmps80
  go_wp2_with fail
  refine H0.out.mono ?_
  rintro e w' ⟨rfl, rfl⟩
  go_wp2
  go_ret
  exact ⟨rfl, rfl⟩
end Go.Proofs.YthchfdobdghdoaaGreat
end
section

/-
  The walks of word.Round.
-/
namespace Go.Proofs.YthchfdobdghdoaaGreat
open Go.RowKit Go.Sg

theorem round_low (n : Int) (h1 : n < 1) (w : World) : Calls Tryz.prog 62 #[.int .i64 n] w fun e w' => e = .returned (.int .i64 (roundI n)) ∧ w' = w := by
  have H := Lib.hid (show roundI n = 1 by simp [roundI, h1])
  go_enter Tryz.func62, Tryz.ntmps62
  go_wp2
  go_ret
  exact ⟨ret_i64 H.out.symm, rfl⟩
theorem round_high (n : Int) (h0 : 1 ≤ n) (h1 : n < 9223372036854775808) (w : World) : Calls Tryz.prog 62 #[.int .i64 n] w fun e w' => e = .returned (.int .i64 (roundI n)) ∧ w' = w := by
  obtain ⟨hb0, hb1⟩ := lenI_bd (n - 1)
  have HR := Lib.hid (roundI_high h0)
  have H0 := Lib.hid (len64_any (n - 1) ⟨by omega, by omega⟩ w)
  go_enter Tryz.func62, Tryz.ntmps62
  go_wp2_with fail
  refine H0.out.mono ?_
  rintro e w' ⟨rfl, rfl⟩
  go_wp2
  go_ret
  exact ⟨ret_i64 HR.out, rfl⟩
theorem round_any (n : Int) (h0 : -9223372036854775808 ≤ n) (h1 : n < 9223372036854775808) (w : World) : Calls Tryz.prog 62 #[.int .i64 n] w fun e w' => e = .returned (.int .i64 (roundI n)) ∧ w' = w := by
  by_cases h : n < 1
  · exact round_low n h w
  · exact round_high n (by omega) h1 w
end Go.Proofs.YthchfdobdghdoaaGreat
end
