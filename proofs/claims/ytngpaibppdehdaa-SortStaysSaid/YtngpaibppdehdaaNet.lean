/-
  The walks of net.Right, net.Pairs, net.Count.
-/
import Derived.Test.YtngpaibppdehdaaNetPairs
import Derived.Test.YtngpaibppdehdaaWLog
import Derived.Test.YtngpaibppdehdaaReg
namespace Go.Proofs.Ytngpaibppdehdaa
open Go Go.RowKit Go.Sg

theorem netRight_any (n : Int) (w : World) : Calls Try.prog 28 #[.int .i64 n] w fun e w' => e = .returned (.bool (rightB n)) ∧ w' = w := by
  by_cases h0 : 1 ≤ n
  · have d0 : decide (1 ≤ n) = true := decide_eq_true h0
    by_cases h1 : n ≤ 1024
    · have d1 : decide (n ≤ 1024) = true := decide_eq_true h1
      have HB := Lib.hid (right_bits h0 h1)
      go_enter Try.func28, Try.ntmps28
      go_wp2
      go_ret
      exact ⟨by rw [← HB.out]; rfl, rfl⟩
    · have d1 : decide (n ≤ 1024) = false := decide_eq_false h1
      have HB : Hid (rightB n = false) := Lib.hid (by
        cases h : rightB n with
        | true => exact absurd (rightB_bd h).2 h1
        | false => rfl)
      go_enter Try.func28, Try.ntmps28
      go_wp2
      go_ret
      exact ⟨by rw [HB.out]; rfl, rfl⟩
  · have d0 : decide (1 ≤ n) = false := decide_eq_false h0
    have HB : Hid (rightB n = false) := Lib.hid (by
      cases h : rightB n with
      | true => exact absurd (rightB_bd h).1 h0
      | false => rfl)
    go_enter Try.func28, Try.ntmps28
    go_wp2
    go_ret
    exact ⟨by rw [HB.out]; rfl, rfl⟩

theorem netPairs_no (n : Int) (hn : rightB n = false) (w : World) : Calls Try.prog 26 #[.int .i64 n] w fun e w' => e = .returned (.slice none 0 0) ∧ w' = w := by
  have K := Lib.hid (netRight_any n w)
  rw [hn] at K
  go_enter Try.func26, Try.ntmps26
  go_wp2_with (go_at_call 28; refine K.out.mono ?_; rintro e w' ⟨rfl, rfl⟩)
  go_ret
  exact ⟨rfl, rfl⟩

set_option maxRecDepth 100000 in
theorem netPairs_yes (t : Nat) (ht : t ≤ 10) (w : World) : Calls Try.prog 26 #[.int .i64 ((2 ^ t : Nat) : Int)] w fun e w' =>
    ∃ v, e = .returned v ∧ w'.ownsRow w.heap.size 30 3 v (netP (2 ^ t) t).length (prsV (netP (2 ^ t) t)) ∧ Below w.heap.size w w' := by
  have hr : rightB ((2 ^ t : Nat) : Int) = true := by
    have := rightB_pow t ht
    rwa [show ((2 ^ t : Nat) : Int) = (2 : Int) ^ t by simp]
  have K := Lib.hid (netRight_any ((2 ^ t : Nat) : Int) w)
  rw [hr] at K
  have KP := Lib.hid ((callsIn_wide (n := 6)).1 (pairs_in Fence.wide 6 trivial rfl ((2 ^ t : Nat) : Int) w))
  have hb1 : Below w.heap.size w (w.alloc (.cells #[.int .i64 ((2 ^ t : Nat) : Int)] 3)) := (Below.refl _ _).alloc (Nat.le_refl _) _
  have KC := Lib.hid ((callsIn_wide (n := 6)).1 (collect_in Fence.wide 6 trivial trivial trivial rfl (by omega) t ht w.heap.size (w.alloc (.cells #[.int .i64 ((2 ^ t : Nat) : Int)] 3)) (by simp) (Blk.new w _ _ |>.cell 0)))
  have HB1 := Lib.hid hb1
  clear hb1 hr
  generalize ((2 ^ t : Nat) : Int) = N at *
  generalize netP (2 ^ t) t = ps at *
  go_enter Try.func26, Try.ntmps26
  go_wp2_with (first
    | (go_at_call 28; refine K.out.mono ?_; rintro e w' ⟨rfl, rfl⟩)
    | (go_at_call 78; refine KP.out.mono ?_; rintro e w' ⟨rfl, rfl⟩)
    | (go_at_call 77; refine KC.out.mono ?_; rintro e w' ⟨v, rfl, h1, h2⟩))
  go_ret
  exact ⟨v, rfl, ownsRow_base h1 (by simp), HB1.out.trans (h2.mono HB1.out.size)⟩

theorem netCount_no (n : Int) (hn : rightB n = false) (w : World) : Calls Try.prog 30 #[.int .i64 n] w fun e w' => e = .returned (.int .i64 0) ∧ w' = w := by
  have K := Lib.hid (netRight_any n w)
  rw [hn] at K
  go_enter Try.func30, Try.ntmps30
  go_wp2_with (go_at_call 28; refine K.out.mono ?_; rintro e w' ⟨rfl, rfl⟩)
  go_ret
  exact ⟨rfl, rfl⟩

def cntI (t : Nat) : Nat := 2 ^ t * t * (t + 1) / 4
theorem netCount_yes (t : Nat) (ht : t ≤ 10) (w : World) : Calls Try.prog 30 #[.int .i64 ((2 ^ t : Nat) : Int)] w fun e w' => e = .returned (.int .i64 (cntI t)) ∧ w' = w := by
  have hr : rightB ((2 ^ t : Nat) : Int) = true := by
    have := rightB_pow t ht
    rwa [show ((2 ^ t : Nat) : Int) = (2 : Int) ^ t by simp]
  have K := Lib.hid (netRight_any ((2 ^ t : Nat) : Int) w)
  rw [hr] at K
  have hl : ∀ t : Fin 11, logI ((2 ^ t.val : Nat) : Int) = t.val ∧ ((2 ^ t.val : Nat) : Int) * (t.val : Int) * ((t.val : Int) + 1) ≤ 112640 ∧ ((2 ^ t.val : Nat) : Int) * (t.val : Int) ≤ 10240 ∧ 2 ^ t.val ≤ 1024 ∧ ((cntI t.val : Nat) : Int) = (((2 ^ t.val : Nat) : Int) * (t.val : Int) * ((t.val : Int) + 1)) / 4 := by decide +kernel
  obtain ⟨hl, hm', hm2', h2, hcnt⟩ := hl ⟨t, by omega⟩
  simp only at hl hm' hm2' h2 hcnt
  rw [hcnt]
  clear hcnt hr
  generalize 2 ^ t = N at *
  have KL := Lib.hid (log_any (N : Int) ⟨by omega, by omega⟩ w)
  rw [hl] at KL
  have hp2' : (0 : Int) ≤ (N : Int) * (t : Int) := Int.mul_nonneg (by omega) (by omega)
  have hp' : (0 : Int) ≤ (N : Int) * (t : Int) * ((t : Int) + 1) := Int.mul_nonneg hp2' (by omega)
  clear hl
  go_enter Try.func30, Try.ntmps30
  go_wp2_with (first
    | (go_at_call 28; refine K.out.mono ?_; rintro e w' ⟨rfl, rfl⟩)
    | (go_at_call 79; refine KL.out.mono ?_; rintro e w' ⟨rfl, rfl⟩))
  go_ret
  exact ⟨rfl, rfl⟩
end Go.Proofs.Ytngpaibppdehdaa
