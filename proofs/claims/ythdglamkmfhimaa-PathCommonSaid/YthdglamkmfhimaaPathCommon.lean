/-
  The walk of shellgamelaw8.PathCommon.
-/
import Derived.Test.YthdglamkmfhimaaRefPath
namespace Go.Proofs.Ythdglamkmfhimaa
open Go.RowKit Go.Sg

theorem PathCommon_walk (L a b c : Int) (w : World) (hL : Num L) (_ha : Num a) (_hb : Num b) (_hc : Num c) :
    Calls Try.prog 4 #[.int .i64 L, .int .i64 a, .int .i64 b, .int .i64 c] w fun e w' => e = .returned (.bool true) ∧ Below w.heap.size w w' := by
  have KS := Lib.hid (fun w' (h : Below w.heap.size w w') => cls_call (P := Try.prog) shown8 (Nat.le_refl _) h)
  have hB : Below w.heap.size w w := Below.refl _ _
  by_cases c1 : L < 0
  · have b1 : decide (L < 0) = true := decide_eq_true c1
    go_enter Try.func4, Try.ntmps4
    go_wp2_with (go_at_call 9; (with_reducible refine (KS.out _ (by assumption)).mono ?_); rintro e w' ⟨rfl, hb1⟩)
    go_ret
    exact ⟨rfl, by assumption⟩
  · have b1 : decide (L < 0) = false := decide_eq_false c1
    by_cases c2 : 10 < L
    · have b2 : decide (10 < L) = true := decide_eq_true c2
      go_enter Try.func4, Try.ntmps4
      go_wp2_with (go_at_call 9; (with_reducible refine (KS.out _ (by assumption)).mono ?_); rintro e w' ⟨rfl, hb1⟩)
      go_ret
      exact ⟨rfl, by assumption⟩
    · have b2 : decide (10 < L) = false := decide_eq_false c2
      obtain ⟨D, rfl⟩ : ∃ D : Nat, L = D := ⟨L.toNat, by omega⟩
      have hD : D ≤ 10 := by omega
      have hw := wrap64_pow D (by omega)
      obtain ⟨N, hN⟩ : ∃ N : Int, N = 2 ^ D := ⟨_, rfl⟩
      have hNb : 1 ≤ N ∧ N ≤ 1024 := by
        have := pow_le_62 D (by omega)
        have e := pow_mono' D 10 hD
        have e9 : (2 : Int) ^ 10 = 1024 := by decide
        omega
      obtain ⟨n0, n1⟩ := hNb
      have hma := and_bd a (m := N - 1) (by omega) (by omega)
      have hmb := and_bd b (m := N - 1) (by omega) (by omega)
      have hmc := and_bd c (m := N - 1) (by omega) (by omega)
      obtain ⟨x, hx⟩ : ∃ x : Int, bits .and .i64 a (N - 1) = x := ⟨_, rfl⟩
      obtain ⟨y, hy⟩ : ∃ y : Int, bits .and .i64 b (N - 1) = y := ⟨_, rfl⟩
      obtain ⟨z, hz⟩ : ∃ z : Int, bits .and .i64 c (N - 1) = z := ⟨_, rfl⟩
      rw [hx] at hma
      rw [hy] at hmb
      rw [hz] at hmc
      obtain ⟨x0, x1⟩ := hma
      obtain ⟨y0, y1⟩ := hmb
      obtain ⟨z0, z1⟩ := hmc
      have hf := common_facts hD x0 (by omega) y0 (by omega) z0 (by omega)
      have p1 := deepI_pow hD x0 (by omega) y0 (by omega)
      have p2 := deepI_pow hD y0 (by omega) z0 (by omega)
      have p3 := deepI_pow hD x0 (by omega) z0 (by omega)
      have p4 := deepI_pow hD y0 (by omega) x0 (by omega)
      have p5 := deepI_pow hD x0 (by omega) x0 (by omega)
      rw [eqs_symm] at p4
      rw [eqs_self] at p5
      rw [← hN] at hf p1 p2 p3 p4 p5 hw
      have hNn : Num N := ⟨by omega, by omega⟩
      have K1 := Lib.hid (fun w' (h : Below w.heap.size w w') => cls_same (P := Try.prog) (pathDeep_any N x y hNn) h)
      have K2 := Lib.hid (fun w' (h : Below w.heap.size w w') => cls_same (P := Try.prog) (pathDeep_any N y z hNn) h)
      have K3 := Lib.hid (fun w' (h : Below w.heap.size w w') => cls_same (P := Try.prog) (pathDeep_any N x z hNn) h)
      have K4 := Lib.hid (fun w' (h : Below w.heap.size w w') => cls_same (P := Try.prog) (pathDeep_any N y x hNn) h)
      have K5 := Lib.hid (fun w' (h : Below w.heap.size w w') => cls_same (P := Try.prog) (pathDeep_any N x x hNn) h)
      have l1 := eqs_le D x y
      have l2 := eqs_le D y z
      have l3 := eqs_le D x z
      have K6 := Lib.hid (fun w' (h : Below w.heap.size w w') => cls_call (P := Try.prog) (pathNode_any N x (eqs D x y) hNn ⟨by omega, by omega⟩) (Nat.le_refl _) h)
      have K7 := Lib.hid (fun w' (h : Below w.heap.size w w') => cls_call (P := Try.prog) (pathNode_any N y (eqs D x y) hNn ⟨by omega, by omega⟩) (Nat.le_refl _) h)
      have K8 := Lib.hid (fun w' (h : Below w.heap.size w w') => cls_call (P := Try.prog) (pathNode_any N x ((eqs D x y : Int) + 1) hNn ⟨by omega, by omega⟩) (Nat.le_refl _) h)
      have K9 := Lib.hid (fun w' (h : Below w.heap.size w w') => cls_call (P := Try.prog) (pathNode_any N y ((eqs D x y : Int) + 1) hNn ⟨by omega, by omega⟩) (Nat.le_refl _) h)
      rw [p1] at K1
      rw [p2] at K2
      rw [p3] at K3
      rw [p4] at K4
      rw [p5] at K5
      obtain ⟨f1, f2, f3, f4⟩ := hf
      rw [f3] at K6
      generalize nodeI N y (eqs D x y : Int) = u1 at *
      generalize nodeI N x ((eqs D x y : Int) + 1) = u2 at *
      generalize nodeI N y ((eqs D x y : Int) + 1) = u3 at *
      generalize eqs D x y = d at *
      generalize eqs D y z = e at *
      generalize eqs D x z = f at *
      have F1 := Lib.hid f1
      have F4 := Lib.hid f4
      clear f1 f3 f4 p1 p2 p3 p4 p5 hL
      go_enter Try.func4, Try.ntmps4
      go_wp2_with (first
        | (go_at_call 9; (with_reducible refine (KS.out _ (by assumption)).mono ?_); rintro e w' ⟨rfl, hb1⟩)
        | fail)
      rw [← hN, hx, hy, hz]
      have HX := Lib.hid hx
      have HY := Lib.hid hy
      have HZ := Lib.hid hz
      have HN := Lib.hid hN
      clear hx hy hz hN hw
      go_wp2_with (go_at_call 10; first
        | (with_reducible refine (K1.out _ (by assumption)).mono ?_); rintro _ w' ⟨rfl, hb2⟩
        | (with_reducible refine (K2.out _ (by assumption)).mono ?_); rintro _ w' ⟨rfl, hb3⟩
        | (with_reducible refine (K3.out _ (by assumption)).mono ?_); rintro _ w' ⟨rfl, hb4⟩)
      go_loopw [14] (fun i wr => ∃ k : Nat, k ≤ d ∧ i = .int .i64 k ∧ Below w.heap.size w wr) (fun i _ => D - (intOf i).toNat)
      case atStart => exact ⟨0, by omega, rfl, by assumption⟩
      case round =>
        obtain ⟨k, hk, rfl, hW⟩ := hrel
        have HW := Lib.hid hW
        by_cases hlt : k < D
        · have g1 : decide ((k : Int) < (D : Int)) = true := decide_eq_true (by omega)
          have g0 : (0 : Int) ≤ (D : Int) - 1 - (k : Int) := by omega
          have g2 := F1.out k hlt
          by_cases hkd : k < d
          · rw [decide_eq_true hkd] at g2
            clear hW
            go_wp2_with fail
            go_quiet (fail)
            have HD := Lib.hid (show Below wr.heap.size wr (wr.drewN nq) from below_drewN' (Below.refl _ _))
            go_wp2
            go_roundw
            case rel => exact ⟨k + 1, by omega, by go_num, HW.out.trans (HD.out.mono HW.out.size)⟩
            case measure => simp [intOf]; omega
          · rw [decide_eq_false hkd] at g2
            obtain rfl : k = d := by omega
            have g3 : ((k : Int) == (D : Int)) = false := by rw [beq_eq_false_iff_ne]; omega
            have g4 : (u2 != u3) = true := by rw [bne_iff_ne]; exact F4.out hlt
            clear hW
            go_wp2_with fail
            go_quiet (fail)
            have hb5 : Below w.heap.size w (wr.drewN nq) := HW.out.trans ((below_drewN' (Below.refl _ _)).mono HW.out.size)
            go_wp2_with (first
              | (go_at_call 10; first
                | (with_reducible refine (K4.out _ (by assumption)).mono ?_); rintro _ w' ⟨rfl, hb6⟩
                | (with_reducible refine (K5.out _ (by assumption)).mono ?_); rintro _ w' ⟨rfl, hb7⟩)
              | (go_at_call 12; first
                | (with_reducible refine (K6.out _ (by assumption)).mono ?_); rintro _ w' ⟨rfl, hb8⟩
                | (with_reducible refine (K7.out _ (by assumption)).mono ?_); rintro _ w' ⟨rfl, hb9⟩
                | (with_reducible refine (K8.out _ (by assumption)).mono ?_); rintro _ w' ⟨rfl, hb10⟩
                | (with_reducible refine (K9.out _ (by assumption)).mono ?_); rintro _ w' ⟨rfl, hb11⟩))
            go_ret
            exact ⟨congrArg (fun b => Ending.returned (Value.bool b)) (by simp), by assumption⟩
        · have g1 : decide ((k : Int) < (D : Int)) = false := decide_eq_false (by omega)
          obtain rfl : k = D := by omega
          obtain rfl : k = d := by omega
          clear hW
          go_wp2_with fail
          go_quiet (fail)
          have hb5 : Below w.heap.size w (wr.drewN nq) := HW.out.trans ((below_drewN' (Below.refl _ _)).mono HW.out.size)
          go_wp2_with (first
            | (go_at_call 10; first
              | (with_reducible refine (K4.out _ (by assumption)).mono ?_); rintro _ w' ⟨rfl, hb6⟩
              | (with_reducible refine (K5.out _ (by assumption)).mono ?_); rintro _ w' ⟨rfl, hb7⟩)
            | (go_at_call 12; first
              | (with_reducible refine (K6.out _ (by assumption)).mono ?_); rintro _ w' ⟨rfl, hb8⟩
              | (with_reducible refine (K7.out _ (by assumption)).mono ?_); rintro _ w' ⟨rfl, hb9⟩))
          go_ret
          exact ⟨congrArg (fun b => Ending.returned (Value.bool b)) (by simp), by assumption⟩
end Go.Proofs.Ythdglamkmfhimaa
