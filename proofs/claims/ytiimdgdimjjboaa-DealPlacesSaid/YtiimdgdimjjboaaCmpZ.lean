/-
  The walks of cmp.Compare at int and uint64.
-/
import Derived.Test.YtiimdgdimjjboaaStdJ
import Derived.Test.YtiimdgdimjjboaaPure1
namespace Go.Sg
open Go Go.RowKit
def cmpZ (a b : Int) : Int := if a < b then -1 else if b < a then 1 else 0
theorem cmpZ_num (a b : Int) : -1 ≤ cmpZ a b ∧ cmpZ a b ≤ 1 := by
  unfold cmpZ
  split
  · omega
  · split <;> omega
theorem cmpZ_neg (a b : Int) : decide (cmpZ a b < 0) = decide (a < b) := by
  unfold cmpZ
  by_cases h1 : a < b
  · simp [h1]
  · by_cases h2 : b < a <;> simp [h1, h2]
end Go.Sg
namespace Go.Proofs.Ytiimdgdimjjboaa
open Go Go.RowKit Go.Sg
theorem nanU_any (a : Int) (w : World) : Calls Try.prog 85 #[.int .u64 a] w fun e w' => e = .returned (.bool false) ∧ w' = w := by
  go_enter Try.func85, Try.ntmps85
  go_wp2
  go_ret
  exact ⟨by simp, rfl⟩
theorem nanI_any (a : Int) (w : World) : Calls Try.prog 84 #[.int .i64 a] w fun e w' => e = .returned (.bool false) ∧ w' = w := by
  go_enter Try.func84, Try.ntmps84
  go_wp2
  go_ret
  exact ⟨by simp, rfl⟩
theorem compareU_any (a b : Int) (w : World) : Calls Try.prog 71 #[.int .u64 a, .int .u64 b] w fun e w' => e = .returned (.int .i64 (cmpZ a b)) ∧ w' = w := by
  have K := Lib.hid (fun a w => nanU_any a w)
  unfold cmpZ
  by_cases h1 : a < b
  · have d1 : decide (a < b) = true := decide_eq_true h1
    rw [if_pos h1]
    clear h1
    go_enter Try.func71, Try.ntmps71
    go_wp2_with (go_at_call 85; refine (K.out _ _).mono ?_; rintro e w' ⟨rfl, rfl⟩)
    go_ret
    exact ⟨rfl, rfl⟩
  · have d1 : decide (a < b) = false := decide_eq_false h1
    rw [if_neg h1]
    by_cases h2 : b < a
    · have d2 : decide (b < a) = true := decide_eq_true h2
      rw [if_pos h2]
      clear h1 h2
      go_enter Try.func71, Try.ntmps71
      go_wp2_with (go_at_call 85; refine (K.out _ _).mono ?_; rintro e w' ⟨rfl, rfl⟩)
      go_ret
      exact ⟨rfl, rfl⟩
    · have d2 : decide (b < a) = false := decide_eq_false h2
      rw [if_neg h2]
      clear h1 h2
      go_enter Try.func71, Try.ntmps71
      go_wp2_with (go_at_call 85; refine (K.out _ _).mono ?_; rintro e w' ⟨rfl, rfl⟩)
      go_ret
      exact ⟨rfl, rfl⟩
theorem compareI_any (a b : Int) (w : World) : Calls Try.prog 70 #[.int .i64 a, .int .i64 b] w fun e w' => e = .returned (.int .i64 (cmpZ a b)) ∧ w' = w := by
  have K := Lib.hid (fun a w => nanI_any a w)
  unfold cmpZ
  by_cases h1 : a < b
  · have d1 : decide (a < b) = true := decide_eq_true h1
    rw [if_pos h1]
    clear h1
    go_enter Try.func70, Try.ntmps70
    go_wp2_with (go_at_call 84; refine (K.out _ _).mono ?_; rintro e w' ⟨rfl, rfl⟩)
    go_ret
    exact ⟨rfl, rfl⟩
  · have d1 : decide (a < b) = false := decide_eq_false h1
    rw [if_neg h1]
    by_cases h2 : b < a
    · have d2 : decide (b < a) = true := decide_eq_true h2
      rw [if_pos h2]
      clear h1 h2
      go_enter Try.func70, Try.ntmps70
      go_wp2_with (go_at_call 84; refine (K.out _ _).mono ?_; rintro e w' ⟨rfl, rfl⟩)
      go_ret
      exact ⟨rfl, rfl⟩
    · have d2 : decide (b < a) = false := decide_eq_false h2
      rw [if_neg h2]
      clear h1 h2
      go_enter Try.func70, Try.ntmps70
      go_wp2_with (go_at_call 84; refine (K.out _ _).mono ?_; rintro e w' ⟨rfl, rfl⟩)
      go_ret
      exact ⟨rfl, rfl⟩
end Go.Proofs.Ytiimdgdimjjboaa
