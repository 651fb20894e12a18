/-
  The walk of shellgamelaw8.PathBuckets.
-/
import Derived.Test.YthdglamkmfhimaaRefPath
namespace Go.Proofs.Ythdglamkmfhimaa
open Go.RowKit Go.Sg

theorem PathBuckets_walk (L a d : Int) (w : World) (hL : Num L) (_ha : Num a) (hd : Num d) :
    Calls Try.prog 5 #[.int .i64 L, .int .i64 a, .int .i64 d] w fun e w' => e = .returned (.bool true) ∧ Below w.heap.size w w' := by
  have KS := Lib.hid (fun w' (h : Below w.heap.size w w') => cls_call (P := Try.prog) shown8 (Nat.le_refl _) h)
  have hB : Below w.heap.size w w := Below.refl _ _
  by_cases c1 : L < 0
  · have b1 : decide (L < 0) = true := decide_eq_true c1
    go_enter Try.func5, Try.ntmps5
    go_wp2_with (go_at_call 9; (with_reducible refine (KS.out _ (by assumption)).mono ?_); rintro e w' ⟨rfl, hb1⟩)
    go_ret
    exact ⟨rfl, by assumption⟩
  · have b1 : decide (L < 0) = false := decide_eq_false c1
    by_cases c2 : 7 < L
    · have b2 : decide (7 < L) = true := decide_eq_true c2
      go_enter Try.func5, Try.ntmps5
      go_wp2_with (go_at_call 9; (with_reducible refine (KS.out _ (by assumption)).mono ?_); rintro e w' ⟨rfl, hb1⟩)
      go_ret
      exact ⟨rfl, by assumption⟩
    · have b2 : decide (7 < L) = false := decide_eq_false c2
      obtain ⟨D, rfl⟩ : ∃ D : Nat, L = D := ⟨L.toNat, by omega⟩
      have hD : D ≤ 7 := by omega
      have hw := wrap64_pow D (by omega)
      obtain ⟨N, hN⟩ : ∃ N : Int, N = 2 ^ D := ⟨_, rfl⟩
      have hNb : 1 ≤ N ∧ N ≤ 128 := by
        have := pow_le_62 D (by omega)
        have e := pow_mono' D 7 hD
        have e9 : (2 : Int) ^ 7 = 128 := by decide
        omega
      obtain ⟨n0, n1⟩ := hNb
      have hma := and_bd a (m := N - 1) (by omega) (by omega)
      obtain ⟨x, hx⟩ : ∃ x : Int, bits .and .i64 a (N - 1) = x := ⟨_, rfl⟩
      rw [hx] at hma
      obtain ⟨x0, x1⟩ := hma
      obtain ⟨dd, hdd, hdv⟩ : ∃ dd : Nat, dd ≤ D ∧ max 0 (min d (D : Int)) = dd := ⟨(max 0 (min d (D : Int))).toNat, by omega, by omega⟩
      have hf := buckets_facts (D := D) (by omega) x0 (by omega) dd hdd
      have hlen : ∀ k : Nat, (k : Int) < N → (ints (pathL N k)).length = D + 1 ∧ ∀ i (h : i < (ints (pathL N k)).length), (ints (pathL N k))[i] = .int .i64 (nodeI N k (i : Int)) := fun k hk => by
        have hh : hasB N k = true := by rw [hN] at hk ⊢; exact hasB_pow (by omega) (by omega) hk
        refine ⟨by rw [ints_len, pathL_len hh, hN, depthI_pow D (by omega)]; omega, fun i h => ?_⟩
        simp only [ints, List.getElem_map]
        rw [pathL_at hh]
      have hdp : ∀ k : Nat, (k : Int) < N → deepI N x k = (eqs D x k : Int) := fun k hk => by rw [hN] at hk ⊢; exact deepI_pow (by omega) x0 (by omega) (by omega) hk
      have hno : nodeI N x ((D : Int) + 1) = -1 ∧ deepI N x N = -1 ∧ pathL N N = [] := by
        have hh : hasB N N = false := by simp [hasB]
        refine ⟨?_, by simp [deepI, hh], pathL_not hh⟩
        rw [nodeI, if_neg (by rw [hN, depthI_pow D (by omega)]; omega)]
      rw [← hN] at hf hw
      obtain ⟨hf1, hf2⟩ := hf
      obtain ⟨hno1, hno2, hno3⟩ := hno
      obtain ⟨J, hJ⟩ : ∃ J : Int, x / 2 ^ (D - dd) = J := ⟨_, rfl⟩
      have hJ0 : 0 ≤ J := by rw [← hJ]; exact Int.ediv_nonneg x0 (Int.pow_nonneg (by decide))
      rw [hJ] at hf2
      simp only [hJ] at hf1
      obtain ⟨T, hT⟩ : ∃ T : Int → Int, cl J (D - dd) = T := ⟨_, rfl⟩
      have hT0 : T 0 = 0 := by rw [← hT]; exact cl_zero _ hJ0
      have hTb : ∀ k : Nat, 0 ≤ T k ∧ T k ≤ k := fun k => by
        have h := cl_bd J (D - dd) (k : Int) (by omega)
        have h2 := h.2 hJ0
        rw [hT] at h h2
        exact ⟨h.1, h2⟩
      rw [hT] at hf2
      simp only [hT] at hf1
      have hNn : Num N := ⟨by omega, by omega⟩
      have K1 := Lib.hid (fun w' (h : Below w.heap.size w w') => cls_call (P := Try.prog) (pathNode_any N x (dd : Int) hNn ⟨by omega, by omega⟩) (Nat.le_refl _) h)
      have K2 := Lib.hid (fun w' (h : Below w.heap.size w w') => cls_call (P := Try.prog) (pathNode_any N x ((D : Int) + 1) hNn ⟨by omega, by omega⟩) (Nat.le_refl _) h)
      have K3 := Lib.hid (fun w' (h : Below w.heap.size w w') => cls_same (P := Try.prog) (pathDeep_any N x N hNn) h)
      rw [hno1] at K2
      rw [hno2] at K3
      have KD : Hid (∀ k : Nat, (k : Int) < N → ∀ w', Calls Try.prog 10 #[.int .i64 N, .int .i64 x, .int .i64 (k : Int)] w' fun e w'' => e = .returned (.int .i64 (eqs D x k : Int)) ∧ w'' = w') := Lib.hid fun k hk w' => by
        have := pathDeep_any N x k hNn w'
        rwa [hdp k hk] at this
      have KP := Lib.hid (fun (k : Int) w' => pathPath_any N k hNn w')
      have HLN := Lib.hid hlen
      have H3 := Lib.hid hno3
      obtain ⟨nd, hnd⟩ : ∃ nd : Int, nodeI N x (dd : Int) = nd := ⟨_, rfl⟩
      rw [hnd] at K1
      simp only [hnd] at hf1
      have HF := Lib.hid hf1
      have HTb := Lib.hid hTb
      have hend : (T N == N / 2 ^ dd) = true := by rw [beq_iff_eq]; exact hf2
      have HT0 := Lib.hid hT0
      have HE := Lib.hid (eqs_le D x)
      clear hf1 hf2 hlen hdp hno1 hno2 hno3 hJ hT hT0 hTb hnd hd hL
      go_enter Try.func5, Try.ntmps5
      go_wp2_with (first
        | (go_at_call 9; (with_reducible refine (KS.out _ (by assumption)).mono ?_); rintro e w' ⟨rfl, hb1⟩)
        | fail)
      rw [← hN, hx]
      have HX := Lib.hid hx
      have HN := Lib.hid hN
      have HDV := Lib.hid hdv
      clear hx hN hw hdv
      refine (K1.out _ hb1).mono ?_
      rintro _ w1 ⟨rfl, hb2⟩
      go_wp2
      go_loopw [10, 11] (fun m i wr => ∃ k : Nat, (k : Int) ≤ N ∧ m = .int .i64 (T k) ∧ i = .int .i64 k ∧ Below w.heap.size w wr) (fun _ i _ => N.toNat - (intOf i).toNat)
      case atStart => exact ⟨0, by omega, by rw [show ((0 : Nat) : Int) = 0 from rfl, HT0.out], rfl, hb2⟩
      case round =>
        obtain ⟨k, hk, rfl, rfl, hW⟩ := hrel
        have htb := HTb.out k
        obtain ⟨t0, t1⟩ := htb
        by_cases hlt : (k : Int) < N
        · obtain ⟨hl1, hl2⟩ := HLN.out k hlt
          obtain ⟨g1, g2⟩ := HF.out k hlt
          have HL1 := Lib.hid hl1
          have HL2 := Lib.hid hl2
          have G1 := Lib.hid g1
          have G2 := Lib.hid g2
          have hq := HE.out k
          clear hl1 hl2 g1 g2
          go_wp2_with fail
          refine (KP.out (k : Int) _).mono ?_
          rintro _ w2 ⟨v, rfl, hs, hbel⟩
          have hb3 := hW.trans (hbel.mono hW.size)
          rcases hs with ⟨e1, _⟩ | ⟨_, p, o, cap, rfl, hl, hm, hlt2, hc⟩
          · exfalso
            have := HL1.out
            rw [e1] at this
            simp at this
          rw [HL1.out] at hl ⊢
          have HC := Lib.hid hc
          clear hc hbel hlt2 hW
          have KDk := Lib.hid (KD.out k hlt)
          generalize eqs D x k = q at *
          generalize hEb : decide (dd ≤ q) = E at *
          go_wp2
          go_loop [13, 14] (fun on i => ∃ j : Nat, j ≤ D + 1 ∧ on = .bool (decide (dd < j) && E) ∧ i = .int .i64 j) (fun _ i => D + 1 - (intOf i).toNat)
          case atStart => exact ⟨0, by omega, by simp, rfl⟩
          case round =>
            obtain ⟨j, hj, rfl, rfl⟩ := hrel
            by_cases hjl : j < D + 1
            · have cj : w2.cell? ⟨p, o + j, none⟩ = some (.int .i64 (nodeI N k (j : Int))) := by rw [HC.out j (by rw [HL1.out]; exact hjl), HL2.out]
              have hgj := G1.out j (by omega)
              generalize nodeI N k (j : Int) = y at *
              cases hon : (decide (dd < j) && E) with
              | true =>
                have HON := Lib.hid hon
                clear hon
                go_wp2
                go_round
                case rel => exact ⟨j + 1, by omega, by
                  have := HON.out
                  simp only [Bool.and_eq_true, decide_eq_true_eq] at this
                  rw [decide_eq_true (show dd < j + 1 by omega), this.2]; rfl, by go_num⟩
                case measure => simp [intOf]; omega
              | false =>
                have HON := Lib.hid hon
                clear hon
                have HG := Lib.hid hgj
                cases hyn : (y == nd) with
                | true =>
                  clear hgj
                  have HYN := Lib.hid hyn
                  go_wp2
                  go_round
                  case rel => exact ⟨j + 1, by omega, by
                    have := HG.out
                    rw [HYN.out] at this
                    have := this.symm
                    simp only [Bool.and_eq_true, decide_eq_true_eq] at this
                    rw [decide_eq_true (show dd < j + 1 by omega), this.2]; rfl, by go_num⟩
                  case measure => simp [intOf]; omega
                | false =>
                  clear hgj
                  have HYN := Lib.hid hyn
                  go_wp2
                  go_round
                  case rel => exact ⟨j + 1, by omega, by
                    have h1 := HG.out
                    rw [HYN.out] at h1
                    have h2 := HON.out
                    cases E with
                    | false => simp
                    | true =>
                      simp at h1 h2 ⊢
                      omega, by go_num⟩
                  case measure => simp [intOf]; omega
            · obtain rfl : j = D + 1 := by omega
              have e1 : decide (dd < D + 1) = true := decide_eq_true (by omega)
              rw [e1, Bool.true_and]
              cases E with
              | true =>
                have g3 : decide ((dd : Int) ≤ (q : Int)) = true := by have := of_decide_eq_true hEb; exact decide_eq_true (by omega)
                have HG := Lib.hid (show T ((k : Int) + 1) = T k + 1 by rw [G2.out, if_pos (of_decide_eq_true hEb)])
                clear e1
                generalize T k = tk at *
                go_wp2_with (go_at_call 10; (with_reducible refine (KDk.out _).mono ?_); rintro _ w' ⟨rfl, rfl⟩)
                go_roundw
                case rel => exact ⟨k + 1, by omega, by rw [show ((k + 1 : Nat) : Int) = (k : Int) + 1 by omega, HG.out], by go_num, by assumption⟩
                case measure => simp [intOf]; omega
              | false =>
                have g3 : decide ((dd : Int) ≤ (q : Int)) = false := by have := of_decide_eq_false hEb; exact decide_eq_false (by omega)
                have HG := Lib.hid (show T ((k : Int) + 1) = T k by rw [G2.out, if_neg (of_decide_eq_false hEb)]; omega)
                clear e1
                generalize T k = tk at *
                go_wp2_with (go_at_call 10; (with_reducible refine (KDk.out _).mono ?_); rintro _ w' ⟨rfl, rfl⟩)
                go_roundw
                case rel => exact ⟨k + 1, by omega, by rw [show ((k + 1 : Nat) : Int) = (k : Int) + 1 by omega, HG.out], by go_num, by assumption⟩
                case measure => simp [intOf]; omega
        · have hkN : (k : Int) = N := by omega
          rw [hkN] at t0 t1 ⊢
          generalize T N = tn at *
          go_wp2_with (first
            | (go_at_call 12; (with_reducible refine (K2.out _ (by assumption)).mono ?_); rintro _ w' ⟨rfl, hb4⟩)
            | (go_at_call 10; (with_reducible refine (K3.out _ (by assumption)).mono ?_); rintro _ w' ⟨rfl, hb5⟩)
            | fail)
          refine (KP.out N _).mono ?_
          rintro _ w2 ⟨v, rfl, hs, hbel⟩
          have hb6 := hb5.trans (hbel.mono hb5.size)
          rw [H3.out] at hs
          obtain ⟨ao, cap, rfl⟩ := hs.len
          rw [show (ints []).length = 0 from rfl]
          go_wp2
          go_ret
          exact ⟨rfl, hb6⟩
end Go.Proofs.Ythdglamkmfhimaa
