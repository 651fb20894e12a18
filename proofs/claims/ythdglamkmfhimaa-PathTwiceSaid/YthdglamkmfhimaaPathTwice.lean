/-
  The walk of shellgamelaw8.PathTwice.
-/
import Derived.Test.YthdglamkmfhimaaRefPath
namespace Go.Proofs.Ythdglamkmfhimaa
open Go.RowKit Go.Sg

theorem PathTwice_walk (L a : Int) (w : World) (hL : Num L) (_ha : Num a) :
    Calls Try.prog 8 #[.int .i64 L, .int .i64 a] w fun e w' => e = .returned (.bool true) ∧ Below w.heap.size w w' := by
  have KS := Lib.hid (fun w' (h : Below w.heap.size w w') => cls_call (P := Try.prog) shown8 (Nat.le_refl _) h)
  have hB : Below w.heap.size w w := Below.refl _ _
  by_cases c1 : L < 0
  · have b1 : decide (L < 0) = true := decide_eq_true c1
    go_enter Try.func8, Try.ntmps8
    go_wp2_with (go_at_call 9; (with_reducible refine (KS.out _ (by assumption)).mono ?_); rintro e w' ⟨rfl, hb1⟩)
    go_ret
    exact ⟨rfl, by assumption⟩
  · have b1 : decide (L < 0) = false := decide_eq_false c1
    by_cases c2 : 9 < L
    · have b2 : decide (9 < L) = true := decide_eq_true c2
      go_enter Try.func8, Try.ntmps8
      go_wp2_with (go_at_call 9; (with_reducible refine (KS.out _ (by assumption)).mono ?_); rintro e w' ⟨rfl, hb1⟩)
      go_ret
      exact ⟨rfl, by assumption⟩
    · have b2 : decide (9 < L) = false := decide_eq_false c2
      obtain ⟨D, rfl⟩ : ∃ D : Nat, L = D := ⟨L.toNat, by omega⟩
      have hD : D ≤ 9 := by omega
      have hw := wrap64_pow D (by omega)
      obtain ⟨N, hN⟩ : ∃ N : Int, N = 2 ^ D := ⟨_, rfl⟩
      have hNb : 1 ≤ N ∧ N ≤ 512 := by
        have := pow_le_62 D (by omega)
        have e := pow_mono' D 9 hD
        have e9 : (2 : Int) ^ 9 = 512 := by decide
        omega
      obtain ⟨n0, n1⟩ := hNb
      have hm := and_bd a (m := 2 * N - 1) (by omega) (by omega)
      obtain ⟨k, hk⟩ : ∃ k : Int, bits .and .i64 a (2 * N - 1) = k := ⟨_, rfl⟩
      rw [hk] at hm
      obtain ⟨k0, k1⟩ := hm
      have hf := twice_facts hD k0 (by rw [Int.pow_succ, ← hN]; omega)
      rw [Int.pow_succ, ← hN, Int.mul_comm N 2] at hf
      rw [← hN] at hw
      have K1 := Lib.hid (fun w' => pathPath_any (2 * N) k ⟨by omega, by omega⟩ w')
      have K2 := Lib.hid (fun w' => pathPath_any N (k / 2) ⟨by omega, by omega⟩ w')
      have K3 := Lib.hid (fun w' (h : Below w.heap.size w w') => cls_same (P := Try.prog) (pathNodes_any (2 * N) ⟨by omega, by omega⟩) h)
      have K4 := Lib.hid (fun w' (h : Below w.heap.size w w') => cls_same (P := Try.prog) (pathNodes_any N ⟨by omega, by omega⟩) h)
      have K5 := Lib.hid (fun w' (h : Below w.heap.size w w') => cls_same (P := Try.prog) (pathDepth_any (2 * N) ⟨by omega, by omega⟩) h)
      have K6 := Lib.hid (fun w' (h : Below w.heap.size w w') => cls_same (P := Try.prog) (pathDepth_any N ⟨by omega, by omega⟩) h)
      have HF := Lib.hid hf
      clear hf hL
      go_enter Try.func8, Try.ntmps8
      go_wp2_with (first
        | (go_at_call 9; (with_reducible refine (KS.out _ (by assumption)).mono ?_); rintro e w' ⟨rfl, hb1⟩)
        | fail)
      rw [← hN, hk]
      have HK := Lib.hid hk
      have HN := Lib.hid hN
      clear hk hN hw
      refine (K1.out _).mono ?_
      rintro e w1 ⟨v1, rfl, hs1, hbel1⟩
      have hs1' := Lib.hid hs1
      have hC1 := Lib.hid (hb1.trans (hbel1.mono hb1.size))
      clear hs1 hbel1
      go_wp2_with fail
      refine (K2.out _).mono ?_
      rintro e w2 ⟨v2, rfl, hs2, hbel2⟩
      have hs3 := Lib.hid (hs1'.out.below hbel2)
      have hC2 := hC1.out.trans (hbel2.mono hC1.out.size)
      obtain ⟨f1, f2, f3, f4, f5⟩ := HF.out
      have hs2' := Lib.hid hs2
      obtain ⟨ao2, cap2, rfl⟩ := hs2.len
      rw [ints_len, f2] at hs2' ⊢
      clear hs2 hbel2
      rcases hs3.out with ⟨e1, _⟩ | ⟨_, p, o, cap, rfl, hl, hm, hlt, hc⟩
      · exfalso
        have := congrArg List.length e1
        rw [ints_len, f1] at this
        simp at this
      have hst := Lib.hid (Sl1.take hl hm hlt hc (D + 1) (by rw [ints_len, f1]; omega))
      rw [show (ints (pathL (2 * N) k)).take (D + 1) = ints (pathL N (k / 2)) by rw [ints, ← List.map_take, f3]; rfl] at hst
      rw [ints_len, f1] at hl ⊢
      have HF4 := Lib.hid f4
      have HF5 := Lib.hid f5
      clear f1 f2 f3 f4 f5 hc hs3 HF
      have hnb : 0 ≤ nodesI N ∧ nodesI N ≤ 2047 := by
        unfold nodesI
        split <;> omega
      have hdb := depthI_bd N
      generalize nodesI (2 * N) = y1 at *
      generalize nodesI N = y2 at *
      generalize depthI (2 * N) = y3 at *
      generalize depthI N = y4 at *
      obtain rfl : y1 = 2 * y2 + 1 := HF4.out
      obtain rfl : y3 = y4 + 1 := HF5.out
      obtain ⟨q0, q1⟩ := hnb
      obtain ⟨q2, q3⟩ := hdb
      go_wp2_with (first
        | (go_at_call 21; (with_reducible refine (same8_any _ _ _ _ _ hst.out hs2'.out).mono ?_); rintro e w' ⟨rfl, hb2⟩; have hb3 := hC2.trans (hb2.mono hC2.size))
        | (go_at_call 18; first | (with_reducible refine (K3.out _ (by assumption)).mono ?_); rintro e w' ⟨rfl, hb4⟩ | (with_reducible refine (K4.out _ (by assumption)).mono ?_); rintro e w' ⟨rfl, hb5⟩)
        | (go_at_call 16; first | (with_reducible refine (K5.out _ (by assumption)).mono ?_); rintro e w' ⟨rfl, hb6⟩ | (with_reducible refine (K6.out _ (by assumption)).mono ?_); rintro e w' ⟨rfl, hb7⟩)
        | fail)
      go_ret
      exact ⟨congrArg (fun b => Ending.returned (Value.bool b)) (by simp), by assumption⟩
end Go.Proofs.Ythdglamkmfhimaa
