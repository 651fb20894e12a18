/-
  The walk of shellgamelaw6.SortBlind.
-/
import Derived.Test.YtngpaibppdehdaaSortRuns
namespace Go.Sg
open Go Go.RowKit
theorem runOk_pow {M : Mm} {r key : Int} {t : Nat} (ht : t ≤ 10) (hs : 2 ^ t ≤ M.size r) : runOk M r ((2 ^ t : Nat) : Int) key = (decide (0 ≤ key) && decide (key < 12)) := by
  have hr : rightB ((2 ^ t : Nat) : Int) = true := by
    have := rightB_pow t ht
    rwa [show ((2 ^ t : Nat) : Int) = (2 : Int) ^ t by simp]
  unfold runOk
  rw [hr, decide_eq_false (show ¬ (M.size r : Int) < ((2 ^ t : Nat) : Int) by omega)]
  by_cases h : key < 0
  · rw [decide_eq_true h, decide_eq_false (show ¬ 0 ≤ key by omega)]
    rfl
  · rw [decide_eq_false h, decide_eq_true (show 0 ≤ key by omega)]
    rfl
theorem pow_wrap {t : Nat} (ht : t ≤ 10) : wrap64 ((2 : Int) ^ t) = ((2 ^ t : Nat) : Int) := by
  have h : ∀ t : Fin 11, wrap64 ((2 : Int) ^ t.val) = ((2 ^ t.val : Nat) : Int) := by decide +kernel
  exact h ⟨t, by omega⟩
end Go.Sg
namespace Go.Proofs.Ytngpaibppdehdaa
open Go Go.RowKit Go.Sg
/-- two memories that were made one behind the other -/
theorem pair_ones {T T' : Nat} {w0 w1 w2 : World} {p q : Nat} {M N : Mm} (h1 : OneX T w0 w1 p M (fun _ => False) (fun _ => True)) (h2 : OneX T' w1 w2 q N (fun _ => False) (fun _ => True)) : PairX T T' w0 w2 p q M N (fun _ => False) (fun _ => True) := by
  obtain ⟨F, m1, f1, b1, _, _, _⟩ := h1
  obtain ⟨G, m2, f2, b2, _, _, _⟩ := h2
  refine PairX.of_two ⟨F, G, m1.below b2, m2, f1, fun k hk => Nat.le_trans b1.size (f2 k hk), fun k hk hg => ?_, b1.trans (b2.mono b1.size)⟩
  have := m1.lt k hk
  have := f2 k hg
  omega

set_option maxHeartbeats 8000000 in
set_option maxRecDepth 100000 in
theorem SortBlind_walk (v1 : Value) (z1 : List Int) (v2 : Value) (z2 : List Int) (log key : Int) (w : World) (hv1 : SlI .u64 w v1 z1) (hv2 : SlI .u64 w v2 z2) (_hl : Num log) (hkey : Num key) :
    Calls Try.prog 22 #[v1, v2, .int .i64 log, .int .i64 key] w fun e w' => e = .returned (.bool true) ∧ Below w.heap.size w w' := by
  have HWZ := Lib.hid (slI_words6 hv1)
  have HV := Lib.hid (Sl1.of_SlI hv1)
  have hlen : z1.length ≤ maxLen := by have := HV.out.len_le; rwa [List.length_map] at this
  obtain ⟨va, vc, rfl⟩ : ∃ a c, v1 = .slice a z1.length c := by have := HV.out.len; rwa [List.length_map] at this
  have HWY := Lib.hid (slI_words6 hv2)
  have HY := Lib.hid (Sl1.of_SlI hv2)
  have hlen2 : z2.length ≤ maxLen := by have := HY.out.len_le; rwa [List.length_map] at this
  obtain ⟨ya, yc, rfl⟩ : ∃ a c, v2 = .slice a z2.length c := by have := HY.out.len; rwa [List.length_map] at this
  unfold maxLen at hlen hlen2
  clear hv1 hv2
  go_enter Try.func22, Try.ntmps22
  go_wp2_with fail
  refine (shown6 w).mono ?_
  rintro e w1 ⟨rfl, hb1⟩
  have HB1 := Lib.hid hb1
  have HV1 := Lib.hid (HV.out.below hb1)
  have HY1 := Lib.hid (HY.out.below hb1)
  clear hb1 HV HY
  by_cases h1 : log < 0
  · have d1 : decide (log < 0) = true := decide_eq_true h1
    go_wp2
    go_ret
    exact ⟨rfl, HB1.out⟩
  have d1 : decide (log < 0) = false := decide_eq_false h1
  by_cases h2 : 7 < log
  · have d2 : decide (7 < log) = true := decide_eq_true h2
    go_wp2
    go_ret
    exact ⟨rfl, HB1.out⟩
  have d2 : decide (7 < log) = false := decide_eq_false h2
  by_cases h3 : 130 < z1.length
  · have d3 : decide ((130 : Int) < (z1.length : Int)) = true := decide_eq_true (by omega)
    have d3' : decide (130 < z1.length) = true := decide_eq_true h3
    go_wp2
    go_ret
    exact ⟨rfl, HB1.out⟩
  have d3 : decide ((130 : Int) < (z1.length : Int)) = false := decide_eq_false (by omega)
  have d3' : decide (130 < z1.length) = false := decide_eq_false h3
  by_cases h4 : 130 < z2.length
  · have d4 : decide ((130 : Int) < (z2.length : Int)) = true := decide_eq_true (by omega)
    have d4' : decide (130 < z2.length) = true := decide_eq_true h4
    go_wp2
    go_ret
    exact ⟨rfl, HB1.out⟩
  have d4 : decide ((130 : Int) < (z2.length : Int)) = false := decide_eq_false (by omega)
  have d4' : decide (130 < z2.length) = false := decide_eq_false h4
  obtain ⟨t, rfl⟩ : ∃ t : Nat, log = t := ⟨log.toNat, by omega⟩
  have ht : t ≤ 7 := by omega
  go_wp2_with fail
  refine (laid6_any 1 128 (by decide) (by decide) (by omega) (by omega) _ z1 HWZ.out _ HV1.out).mono ?_
  rintro e w2 ⟨p, q, rfl, hP⟩
  have HA := Lib.hid hP.left
  have HY2 := Lib.hid (HY1.out.below hP.old)
  clear hP HV1 HY1 HWZ
  go_wp2_with fail
  refine (laid6_any 1 128 (by decide) (by decide) (by omega) (by omega) _ z2 HWY.out _ HY2.out).mono ?_
  rintro e w3 ⟨p2, q2, rfl, hP⟩
  have HP := Lib.hid (pair_ones HA.out hP.left)
  have HL := Lib.hid (laid_f (r := 1) (c := 128) z1 (by decide))
  have HL2 := Lib.hid (laid_f (r := 1) (c := 128) z2 (by decide))
  have hev0 : (laidM 1 128 z1).evs.length ≤ 128 := HL.out.evs.2
  have hev2 : (laidM 1 128 z2).evs.length ≤ 128 := HL2.out.evs.2
  have hs1 : (laidM 1 128 z1).size 0 = 128 := HL.out.size 0
  have hs2 : (laidM 1 128 z2).size 0 = 128 := HL2.out.size 0
  clear hP HY2 HWY HL HL2 HA
  generalize laidM 1 128 z1 = M at *
  generalize laidM 1 128 z2 = N at *
  have hpw : 2 ^ t ≤ 128 := Nat.le_trans (Nat.pow_le_pow_right (by omega) ht) (by decide)
  obtain ⟨ok, hok⟩ : ∃ ok, (decide (0 ≤ key) && decide (key < 12)) = ok := ⟨_, rfl⟩
  have r1 := runOk_pow (M := M) (r := 0) (key := key) (t := t) (by omega) (by omega)
  have r2 := runOk_pow (M := N) (r := 0) (key := key) (t := t) (by omega) (by omega)
  rw [hok] at r1 r2
  have KM1 := Lib.hid (one_many HP.out.left)
  have KM2 := Lib.hid (one_many HP.out.swap.left)
  have K1 := Lib.hid (HP.out.call keeps_true fun D' X' hK' h' => one_run hK' 0 ((2 ^ t : Nat) : Int) key h' (by omega))
  have K2 := Lib.hid (fun w' (h' : PairX 108 108 w1 w' p p2 (runM M 0 ((2 ^ t : Nat) : Int) key) N (fun _ => False) (fun _ => True)) => h'.call2 keeps_true fun D' X' hK' h' => one_run hK' 0 ((2 ^ t : Nat) : Int) key h' (by omega))
  have e1 := runM_evs_le M 0 ((2 ^ t : Nat) : Int) key
  have e2 := runM_evs_le N 0 ((2 ^ t : Nat) : Int) key
  have g1 : (runM M 0 ((2 ^ t : Nat) : Int) key).evs.drop M.evs.length = if ok then evsR 0 ((2 ^ t : Nat) : Int) else [] := by rw [runM_evs, List.drop_left, r1]
  have g2 : (runM N 0 ((2 ^ t : Nat) : Int) key).evs.drop N.evs.length = if ok then evsR 0 ((2 ^ t : Nat) : Int) else [] := by rw [runM_evs, List.drop_left, r2]
  have l1 : M.evs.length ≤ (runM M 0 ((2 ^ t : Nat) : Int) key).evs.length := by rw [runM_evs, List.length_append]; omega
  have l2 : N.evs.length ≤ (runM N 0 ((2 ^ t : Nat) : Int) key).evs.length := by rw [runM_evs, List.length_append]; omega
  rw [r1] at K1
  rw [r2] at K2
  generalize runM M 0 ((2 ^ t : Nat) : Int) key = M1 at *
  generalize runM N 0 ((2 ^ t : Nat) : Int) key = N1 at *
  generalize (if ok then evsR 0 ((2 ^ t : Nat) : Int) else []) = es at *
  have K3 := Lib.hid (fun w' (h' : PairX 108 108 w1 w' p p2 M1 N1 (fun _ => False) (fun _ => True)) => pair_since keeps_true (M.evs.length : Int) h' (by omega) M.evs.length (by omega))
  have K4 := Lib.hid (fun w' (D : Nat → Prop) (X : World → Prop) (hK : Keeps D X) (h' : PairX 108 108 w1 w' p2 p N1 M1 D X) => pair_since hK (N.evs.length : Int) h' (by omega) N.evs.length (by omega))
  rw [g1] at K3
  rw [g2] at K4
  clear r1 r2 g1 g2 l1 l2
  obtain ⟨NP, hNP⟩ : ∃ NP : Nat, 2 ^ t = NP := ⟨_, rfl⟩
  rw [hNP] at K1 K2 hpw
  go_wp2_with fail
  refine KM1.out.mono ?_
  rintro e wS ⟨rfl, rfl⟩
  go_wp2_with fail
  refine KM2.out.mono ?_
  rintro e wS ⟨rfl, rfl⟩
  have HPW : Hid (wrap64 ((2 : Int) ^ t) = (NP : Int)) := Lib.hid (by rw [pow_wrap (by omega), hNP])
  have HOKB : Hid ((decide (0 ≤ key) && decide (key < 12)) = ok) := Lib.hid hok
  clear hNP
  by_cases k1 : 0 ≤ key
  · have b1 : decide (0 ≤ key) = true := decide_eq_true k1
    by_cases k2 : key < 12
    · have b2 : decide (key < 12) = true := decide_eq_true k2
      obtain rfl : ok = true := by rw [← hok, b1, b2]; rfl
      simp only [Bool.false_eq_true, if_false, if_true] at K1 K2
      clear hok k1
      go_wp2_with fail
      rw [HPW.out]
      refine K1.out.mono ?_
      rintro e wA ⟨rfl, hA⟩
      go_wp2_with fail
      rw [HPW.out]
      refine (K2.out _ hA).mono ?_
      rintro e wB ⟨rfl, hB⟩
      go_wp2_with fail
      refine (K3.out _ hB).mono ?_
      rintro e wC ⟨v1, rfl, hKC, hC⟩
      have K5 := Lib.hid (K4.out _ _ _ hKC hC.swap)
      clear K1 K2 K3 K4 hA hB hC
      go_wp2_with fail
      refine K5.out.mono ?_
      rintro e wD ⟨v2, rfl, hKD, hD⟩
      have HD := Lib.hid hD
      have KS := Lib.hid (sameE6_any v1 v2 es es _ hD.x.1.2 hD.x.2)
      rw [decide_eq_true rfl] at KS
      clear hD hKD K5 hKC
      go_wp2_with fail
      refine KS.out.mono ?_
      rintro e wF ⟨rfl, hbF⟩
      have HBZ := Lib.hid (HB1.out.trans (((HD.out.old).trans (hbF.mono HD.out.old.size)).mono HB1.out.size))
      clear hbF KS HD
      go_wp2
      go_ret
      exact ⟨by first | rfl | simp, HBZ.out⟩
    · have b2 : decide (key < 12) = false := decide_eq_false k2
      obtain rfl : ok = false := by rw [← hok, b1, b2]; rfl
      simp only [Bool.false_eq_true, if_false, if_true] at K1 K2
      clear hok k1
      go_wp2_with fail
      rw [HPW.out]
      refine K1.out.mono ?_
      rintro e wA ⟨rfl, hA⟩
      go_wp2_with fail
      rw [HPW.out]
      refine (K2.out _ hA).mono ?_
      rintro e wB ⟨rfl, hB⟩
      go_wp2_with fail
      refine (K3.out _ hB).mono ?_
      rintro e wC ⟨v1, rfl, hKC, hC⟩
      have K5 := Lib.hid (K4.out _ _ _ hKC hC.swap)
      clear K1 K2 K3 K4 hA hB hC
      go_wp2_with fail
      refine K5.out.mono ?_
      rintro e wD ⟨v2, rfl, hKD, hD⟩
      have HD := Lib.hid hD
      have KS := Lib.hid (sameE6_any v1 v2 es es _ hD.x.1.2 hD.x.2)
      rw [decide_eq_true rfl] at KS
      clear hD hKD K5 hKC
      go_wp2_with fail
      refine KS.out.mono ?_
      rintro e wF ⟨rfl, hbF⟩
      have HBZ := Lib.hid (HB1.out.trans (((HD.out.old).trans (hbF.mono HD.out.old.size)).mono HB1.out.size))
      clear hbF KS HD
      go_wp2
      go_ret
      exact ⟨by first | rfl | simp, HBZ.out⟩
  · have b1 : decide (0 ≤ key) = false := decide_eq_false k1
    obtain rfl : ok = false := by rw [← hok, b1]; rfl
    simp only [Bool.false_eq_true, if_false, if_true] at K1 K2
    clear hok k1
    go_wp2_with fail
    rw [HPW.out]
    refine K1.out.mono ?_
    rintro e wA ⟨rfl, hA⟩
    go_wp2_with fail
    rw [HPW.out]
    refine (K2.out _ hA).mono ?_
    rintro e wB ⟨rfl, hB⟩
    go_wp2_with fail
    refine (K3.out _ hB).mono ?_
    rintro e wC ⟨v1, rfl, hKC, hC⟩
    have K5 := Lib.hid (K4.out _ _ _ hKC hC.swap)
    clear K1 K2 K3 K4 hA hB hC
    go_wp2_with fail
    refine K5.out.mono ?_
    rintro e wD ⟨v2, rfl, hKD, hD⟩
    have HD := Lib.hid hD
    have KS := Lib.hid (sameE6_any v1 v2 es es _ hD.x.1.2 hD.x.2)
    rw [decide_eq_true rfl] at KS
    clear hD hKD K5 hKC
    go_wp2_with fail
    refine KS.out.mono ?_
    rintro e wF ⟨rfl, hbF⟩
    have HBZ := Lib.hid (HB1.out.trans (((HD.out.old).trans (hbF.mono HD.out.old.size)).mono HB1.out.size))
    clear hbF KS HD
    go_wp2
    go_ret
    exact ⟨by first | rfl | simp, HBZ.out⟩
end Go.Proofs.Ytngpaibppdehdaa
