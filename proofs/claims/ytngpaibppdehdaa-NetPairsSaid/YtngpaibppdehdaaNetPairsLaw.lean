/-
  The walk of shellgamelaw5.NetPairs.
-/
import Derived.Test.YtngpaibppdehdaaRef5
import Derived.Test.YtngpaibppdehdaaNetLen
import Derived.Test.YtngpaibppdehdaaShown5
import Derived.BigQuiet
namespace Go.Proofs.Ytngpaibppdehdaa
open Go Go.RowKit Go.Sg

theorem ref5Pairs_no (n : Int) (hn : rightB n = false) (hw : Num n) (w : World) : Calls Try.prog 27 #[.int .i64 n] w fun e w' => e = .returned (.slice none 0 0) ∧ w' = w := by
  have K := Lib.hid (ref5Right_any n hw w)
  rw [hn] at K
  go_enter Try.func27, Try.ntmps27
  go_wp2_with (go_at_call 29; refine K.out.mono ?_; rintro e w' ⟨rfl, rfl⟩)
  go_ret
  exact ⟨rfl, rfl⟩

set_option maxHeartbeats 4000000 in
set_option maxRecDepth 100000 in
theorem NetPairs_walk (n : Int) (w : World) (hn : Num n) :
    Calls Try.prog 3 #[.int .i64 n] w fun e w' => e = .returned (.bool true) ∧ Below w.heap.size w w' := by
  cases hr : rightB n with
  | false =>
    have KS := Lib.hid (shown5 w)
    have K1 := Lib.hid (fun w => netPairs_no n hr w)
    have K2 := Lib.hid (fun w => ref5Pairs_no n hr hn w)
    have K3 := Lib.hid (fun w => netRight_any n w)
    have K4 := Lib.hid (fun w => ref5Right_any n hn w)
    have K5 := Lib.hid (fun w => netCount_no n hr w)
    rw [hr] at K3 K4
    go_enter Try.func3, Try.ntmps3
    go_wp2_with fail
    refine KS.out.mono ?_
    rintro e w1 ⟨rfl, hb⟩
    have HB := Lib.hid hb
    clear hb
    go_wp2_with (first
      | (go_at_call 26; (with_reducible refine (K1.out _).mono ?_); rintro e w' ⟨rfl, rfl⟩)
      | (go_at_call 27; (with_reducible refine (K2.out _).mono ?_); rintro e w' ⟨rfl, rfl⟩)
      | (go_at_call 28; (with_reducible refine (K3.out _).mono ?_); rintro e w' ⟨rfl, rfl⟩)
      | (go_at_call 29; (with_reducible refine (K4.out _).mono ?_); rintro e w' ⟨rfl, rfl⟩)
      | (go_at_call 30; (with_reducible refine (K5.out _).mono ?_); rintro e w' ⟨rfl, rfl⟩))
    go_loop [6] (fun i => i = .int .i64 0) (fun _ => 0)
    case atStart => rfl
    case round =>
      subst hrel
      go_wp2
      go_ret
      exact ⟨rfl, HB.out⟩
  | true =>
    obtain ⟨t, ht, hnt⟩ := rightB_of hr
    have hnt' : n = ((2 ^ t : Nat) : Int) := by rw [hnt]; simp
    have KS := Lib.hid (shown5 w)
    have K1 := Lib.hid (fun w => netPairs_yes t ht w)
    have K2 := Lib.hid (fun w => ref5Pairs_yes t ht w)
    have K3 := Lib.hid (fun w => netRight_any n w)
    have K4 := Lib.hid (fun w => ref5Right_any n hn w)
    have K5 := Lib.hid (fun w => netCount_yes t ht w)
    rw [hr] at K3 K4
    rw [← netP_cnt t ht] at K5
    rw [← hnt'] at K1 K2 K5
    have hlen : (netP (2 ^ t) t).length ≤ 112640 := by
      refine Nat.le_trans (netP_length (2 ^ t) t) ?_
      have h2 : 2 ^ t ≤ 1024 := Nat.le_trans (Nat.pow_le_pow_right (by omega) ht) (by decide)
      exact Nat.mul_le_mul h2 (Nat.mul_le_mul ht (show t + 1 ≤ 11 by omega))
    clear hnt hnt' hr
    generalize netP (2 ^ t) t = ps at *
    go_enter Try.func3, Try.ntmps3
    go_wp2_with fail
    refine KS.out.mono ?_
    rintro e w1 ⟨rfl, hb1⟩
    have HB1 := Lib.hid hb1
    clear hb1
    go_wp2_with fail
    refine (K1.out w1).mono ?_
    rintro e w2 ⟨va, rfl, hoa, hb2⟩
    have HA2 := Lib.hid (SlP.of_owns hoa)
    have HB2 := Lib.hid (HB1.out.trans (hb2.mono HB1.out.size))
    clear hoa hb2
    go_wp2_with fail
    refine (K2.out w2).mono ?_
    rintro e w3 ⟨vb, rfl, hob, hb3⟩
    have HA3 := Lib.hid (HA2.out.below hb3)
    have HC3 := Lib.hid (SlP.of_owns hob)
    have HB3 := Lib.hid (HB2.out.trans (hb3.mono HB2.out.size))
    clear hob hb3 HA2 HB2
    obtain ⟨aa, ac, rfl, a1, a2, a3⟩ := HA3.out
    obtain ⟨ba, bc, rfl, b1, b2, b3⟩ := HC3.out
    have HA := Lib.hid a3
    have HC := Lib.hid b3
    clear a3 b3 HA3 HC3
    obtain ⟨m, hm⟩ : ∃ m, ps.length = m := ⟨_, rfl⟩
    rw [hm] at a1 b1 hlen K5
    rw [hm]
    go_wp2_with (first
      | (go_at_call 28; (with_reducible refine (K3.out _).mono ?_); rintro e w' ⟨rfl, rfl⟩)
      | (go_at_call 29; (with_reducible refine (K4.out _).mono ?_); rintro e w' ⟨rfl, rfl⟩)
      | (go_at_call 30; (with_reducible refine (K5.out _).mono ?_); rintro e w' ⟨rfl, rfl⟩)
      | fail)
    go_loopw [6] (fun i wr => ∃ k : Nat, k ≤ m ∧ i = .int .i64 k ∧ ∃ q, wr = w'.drewN q) (fun i _ => m - (intOf i).toNat)
    case atStart => exact ⟨0, by omega, rfl, 0, rfl⟩
    case round =>
      obtain ⟨k, hk, rfl, q, rfl⟩ := hrel
      by_cases hlt : k < m
      · have hne : ps ≠ [] := fun e => by rw [e] at hm; simp at hm; omega
        obtain ⟨ab, aoff, rfl, _, har⟩ := HA.out hne
        obtain ⟨bb, boff, rfl, _, hbr⟩ := HC.out hne
        have hkp : k < ps.length := by omega
        obtain ⟨c0, c1, c2⟩ := SlP.at (cap := 0) (n := 0) har k hkp
        obtain ⟨c3, c4, c5⟩ := SlP.at (cap := 0) (n := 0) hbr k hkp
        clear har hbr
        generalize ps[k] = x at *
        obtain ⟨x1, x2, x3⟩ := x
        simp only at c0 c1 c2 c3 c4 c5
        have d1 : ((x1 : Int) != (x1 : Int)) = false := by simp
        have d2 : ((x2 : Int) != (x2 : Int)) = false := by simp
        have d3 : (x3 != x3) = false := by simp
        go_wp2_with fail
        go_quiet (fail)
        go_wp2
        go_roundw
        case rel => exact ⟨k + 1, by omega, by go_num, q + _, rfl⟩
        case measure => simp [intOf]; omega
      · go_wp2
        go_ret
        exact ⟨rfl, below_drewN' HB3.out⟩
end Go.Proofs.Ytngpaibppdehdaa
