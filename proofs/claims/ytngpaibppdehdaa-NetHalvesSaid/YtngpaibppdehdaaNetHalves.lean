/-
  The walk of shellgamelaw5.NetHalves.
-/
import Derived.Test.YtngpaibppdehdaaHalf
import Derived.Test.YtngpaibppdehdaaShown5
import Derived.BigQuiet
import Derived.Deep.DeepCutAuto
namespace Go.Proofs.Ytngpaibppdehdaa
open Go Go.RowKit Go.Sg

set_option maxHeartbeats 4000000 in
set_option maxRecDepth 100000 in
theorem NetHalves_walk (n : Int) (w : World) (hn : Num n) :
    Calls Try.prog 5 #[.int .i64 n] w fun e w' => e = .returned (.bool true) ∧ Below w.heap.size w w' := by
  have KS := Lib.hid (shown5 w)
  by_cases h0 : n < 1
  · have d0 : decide (n < 1) = true := decide_eq_true h0
    go_enter Try.func5, Try.ntmps5
    go_wp2_with fail
    refine KS.out.mono ?_
    rintro e w1 ⟨rfl, hb1⟩
    have HB1 := Lib.hid hb1
    clear hb1
    go_wp2
    go_ret
    exact ⟨rfl, HB1.out⟩
  by_cases h10 : 9 < n
  · have d0 : decide (n < 1) = false := decide_eq_false h0
    have d1 : decide (9 < n) = true := decide_eq_true h10
    go_enter Try.func5, Try.ntmps5
    go_wp2_with fail
    refine KS.out.mono ?_
    rintro e w1 ⟨rfl, hb1⟩
    have HB1 := Lib.hid hb1
    clear hb1
    go_wp2
    go_ret
    exact ⟨rfl, HB1.out⟩
  obtain ⟨s, rfl⟩ : ∃ s : Nat, n = ((s + 1 : Nat) : Int) := ⟨n.toNat - 1, by omega⟩
  have ht : s + 1 ≤ 9 := by omega
  have d0 : decide (((s + 1 : Nat) : Int) < 1) = false := decide_eq_false h0
  have d1 : decide (9 < ((s + 1 : Nat) : Int)) = false := decide_eq_false h10
  have HF := Lib.hid (half_facts s)
  have hq : (netP (2 ^ s) s).length ≤ 112640 := by
    refine Nat.le_trans (netP_length (2 ^ s) s) ?_
    have h10 : 2 ^ s ≤ 1024 := Nat.le_trans (Nat.pow_le_pow_right (by omega) (show s ≤ 10 by omega)) (by decide)
    exact Nat.mul_le_mul h10 (Nat.mul_le_mul (show s ≤ 10 by omega) (show s + 1 ≤ 11 by omega))
  have hH : 2 ^ s ≤ 256 := Nat.le_trans (Nat.pow_le_pow_right (by omega) (show s ≤ 8 by omega)) (by decide)
  have hH0 : 0 < 2 ^ s := Nat.two_pow_pos s
  have hN : ((2 ^ (s + 1) : Nat) : Int) = 2 * ((2 ^ s : Nat) : Int) := by
    rw [Nat.pow_succ]
    generalize 2 ^ s = y
    omega
  have K1 := Lib.hid (fun w => netPairs_yes (s + 1) (by omega) w)
  have K2 := Lib.hid (fun w => netPairs_yes s (by omega) w)
  rw [hN] at K1
  have hW : wrap64 ((2 : Int) ^ (s + 1)) = 2 * ((2 ^ s : Nat) : Int) := by
    have e : ((2 ^ (s + 1) : Nat) : Int) = (2 : Int) ^ (s + 1) := by simp
    rw [← e, hN]
    exact (fun (y : Nat) (hy : y ≤ 256) => (by unfold wrap64; omega : wrap64 (2 * (y : Int)) = 2 * (y : Int))) _ hH
  clear hN
  generalize netP (2 ^ (s + 1)) (s + 1) = ps at *
  generalize netP (2 ^ s) s = qs at *
  obtain ⟨flen, fok, fall, fup⟩ := HF.out
  clear HF
  obtain ⟨H, hHd⟩ : ∃ H, 2 ^ s = H := ⟨_, rfl⟩
  rw [hHd] at hH hH0 hW K2 K1 flen fok fall
  have hHs : H * (s + 1) ≤ 2304 := Nat.mul_le_mul hH (show s + 1 ≤ 9 by omega)
  have hHi : ((H * (s + 1) : Nat) : Int) = (H : Int) * ((s : Int) + 1) := by simp
  obtain ⟨L, hL⟩ : ∃ L, H * (s + 1) = L := ⟨_, rfl⟩
  rw [hL] at hHs hHi flen
  have HFO := Lib.hid fok
  have HFA := Lib.hid fall
  have HFU := Lib.hid fup
  clear fok fall fup
  go_enter Try.func5, Try.ntmps5
  go_wp2_with fail
  refine KS.out.mono ?_
  rintro e w1 ⟨rfl, hb1⟩
  have HB1 := Lib.hid hb1
  clear hb1
  go_wp2_with fail
  rw [hW]
  clear hW
  refine (K1.out w1).mono ?_
  rintro e w2 ⟨va, rfl, hoa, hb2⟩
  have HA2 := Lib.hid (SlP.of_owns hoa)
  have HB2 := Lib.hid (HB1.out.trans (hb2.mono HB1.out.size))
  clear hoa hb2
  go_wp2_with fail
  refine (K2.out w2).mono ?_
  rintro e w3 ⟨vb, rfl, hob, hb3⟩
  have HA3 := Lib.hid (HA2.out.below hb3)
  have HC3 := Lib.hid (SlP.of_owns hob)
  have HB3 := Lib.hid (HB2.out.trans (hb3.mono HB2.out.size))
  clear hob hb3 HA2 HB2
  obtain ⟨aa, ac, rfl, a1, a2, a3⟩ := HA3.out
  obtain ⟨ba, bc, rfl, b1, b2, b3⟩ := HC3.out
  have HA := Lib.hid a3
  have HC := Lib.hid b3
  clear a3 b3 HA3 HC3
  obtain ⟨m, hm⟩ : ∃ m, ps.length = m := ⟨_, rfl⟩
  obtain ⟨mq, hmq⟩ : ∃ m, qs.length = m := ⟨_, rfl⟩
  rw [hm] at a1 flen
  rw [hmq] at b1 hq flen HFO HFA HFU
  rw [hm, hmq]
  have d2 : ((m : Int) != 2 * (mq : Int) + (H : Int) * ((s : Int) + 1)) = false := by
    rw [bne_eq_false_iff_eq, ← hHi]
    omega
  obtain ⟨kk, hkk⟩ : ∃ kk : Nat → Nat, kk = fun j => ((ps.take j).filter (fun p => decide (p.1 < H))).length := ⟨_, rfl⟩
  have HK0 : Hid (kk 0 = 0 ∧ kk (2 * mq) = mq) := Lib.hid (by rw [hkk]; exact ⟨by simp, HFA.out⟩)
  have HKS : Hid (∀ j (h : j < ps.length), kk (j + 1) = kk j + (if ps[j].1 < H then 1 else 0)) := Lib.hid fun j h => by
    rw [hkk]
    show (List.filter _ _).length = (List.filter _ _).length + _
    rw [filter_next _ _ _ h]
    simp
  have HKL : Hid (∀ j, kk j ≤ j) := Lib.hid fun j => by
    rw [hkk]
    exact Nat.le_trans (List.length_filter_le _ _) (by rw [List.length_take]; omega)
  have HKO : Hid (∀ j (h : j < ps.length), j < 2 * mq → ps[j].1 < H → qs[kk j]? = some ps[j] ∧ ps[j].2.1 < H) := Lib.hid fun j h h1 h2 => by
    rw [hkk]
    exact HFO.out j h h1 h2
  clear hkk HFO HFA
  go_wp2_with fail
  go_loopw [8, 9] (fun kv i wr => ∃ j : Nat, j ≤ 2 * mq ∧ i = .int .i64 j ∧ kv = .int .i64 (kk j : Int) ∧ ∃ q, wr = w3.drewN q) (fun _ i _ => 2 * mq - (intOf i).toNat)
  case atStart => exact ⟨0, by omega, rfl, by rw [HK0.out.1]; rfl, 0, rfl⟩
  case round =>
    obtain ⟨j, hj, rfl, rfl, q, rfl⟩ := hrel
    by_cases hlt : j < 2 * mq
    · have hne : ps ≠ [] := fun e => by rw [e] at hm; simp at hm; omega
      have hneq : qs ≠ [] := fun e => by rw [e] at hmq; simp at hmq; omega
      obtain ⟨ab, aoff, rfl, _, har⟩ := HA.out hne
      obtain ⟨bb, boff, rfl, _, hbr⟩ := HC.out hneq
      have hjp : j < ps.length := by omega
      obtain ⟨c0, c1, c2⟩ := SlP.at (cap := 0) (n := 0) har j hjp
      have hks := HKS.out j hjp
      have HKo := Lib.hid (HKO.out j hjp hlt)
      have hkj := HKL.out j
      clear har
      generalize ps[j] = x at *
      obtain ⟨x1, x2, x3⟩ := x
      simp only at c0 c1 c2 hks HKo
      by_cases hx : x1 < H
      · obtain ⟨o1, o2⟩ := HKo.out hx
        have hkq : kk j < qs.length := (List.getElem?_eq_some_iff.1 o1).1
        obtain ⟨c3, c4, c5⟩ := SlP.at (cap := 0) (n := 0) hbr (kk j) hkq
        rw [(List.getElem?_eq_some_iff.1 o1).2] at c3 c4 c5
        rw [if_pos hx] at hks
        have hkq2 : kk j < mq := by omega
        clear hbr hkq o1 HKo
        have e0 : decide ((H : Int) ≤ (x1 : Int)) = false := decide_eq_false (by omega)
        have e1 : decide ((H : Int) ≤ (x2 : Int)) = false := decide_eq_false (by omega)
        have e1b : decide (H ≤ x2) = false := decide_eq_false (by omega)
        have e2b : decide (mq ≤ kk j) = false := decide_eq_false (by omega)
        have e2 : decide ((mq : Int) ≤ (kk j : Int)) = false := decide_eq_false (by omega)
        have e3 : ((x1 : Int) != (x1 : Int)) = false := by simp
        have e4 : ((x2 : Int) != (x2 : Int)) = false := by simp
        have HKS1 := Lib.hid hks
        clear hks
        generalize kk j = kj at *
        go_wp2_with fail
        go_quiet (fail)
        go_wp2
        go_roundw
        case rel => exact ⟨j + 1, by omega, by go_num, by rw [HKS1.out]; go_num, q + _, rfl⟩
        case measure => simp [intOf]; omega
      · have e0 : decide ((H : Int) ≤ (x1 : Int)) = true := decide_eq_true (by omega)
        rw [if_neg hx] at hks
        simp only [Nat.add_zero] at hks
        have HKS1 := Lib.hid hks
        clear hks hbr HKo
        go_wp2
        go_roundw
        case rel => exact ⟨j + 1, by omega, by go_num, by rw [HKS1.out], q, rfl⟩
        case measure => simp [intOf]; omega
    · obtain rfl : j = 2 * mq := by omega
      rw [HK0.out.2]
      go_wp2
      go_loopw [10] (fun i wr => ∃ j : Nat, 2 * mq ≤ j ∧ j ≤ m ∧ i = .int .i64 j ∧ ∃ q, wr = w3.drewN q) (fun i _ => m - (intOf i).toNat)
      case atStart => exact ⟨2 * mq, by omega, by omega, by go_num, q, rfl⟩
      case round =>
        obtain ⟨j, hj0, hj, rfl, q, rfl⟩ := hrel
        by_cases hlt : j < m
        · have hne : ps ≠ [] := fun e => by rw [e] at hm; simp at hm; omega
          obtain ⟨ab, aoff, rfl, _, har⟩ := HA.out hne
          have hjp : j < ps.length := by omega
          obtain ⟨c0, c1, c2⟩ := SlP.at (cap := 0) (n := 0) har j hjp
          rw [HFU.out j hjp hj0] at c2
          clear c0 c1 har
          go_wp2
          go_roundw
          case rel => exact ⟨j + 1, by omega, by omega, by go_num, q, rfl⟩
          case measure => simp [intOf]; omega
        · go_wp2
          go_ret
          exact ⟨by simp, below_drewN' HB3.out⟩
end Go.Proofs.Ytngpaibppdehdaa
