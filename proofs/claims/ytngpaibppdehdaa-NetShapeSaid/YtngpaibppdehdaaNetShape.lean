/-
  The walk of shellgamelaw5.NetShape. (Under way.)
-/
import Derived.Test.YtngpaibppdehdaaNetMet
import Derived.Test.YtngpaibppdehdaaNetLen
import Derived.Test.YtngpaibppdehdaaShown5
import Derived.BigQuiet
import Derived.Deep.DeepCutAuto
import Derived.Deep.OwnRows
namespace Go.Proofs.Ytngpaibppdehdaa
open Go Go.RowKit Go.Sg

theorem info_int5 : (Try.prog.info? 3).map (fun i => (i.zero, i.size, i.bytes)) = some (some (.int .i64 0), 1, 8) := by kernel_rfl

set_option maxHeartbeats 4000000 in
set_option maxRecDepth 100000 in
theorem NetShape_walk (n : Int) (w : World) (hn : Num n) :
    Calls Try.prog 4 #[.int .i64 n] w fun e w' => e = .returned (.bool true) ∧ Below w.heap.size w w' := by
  have KS := Lib.hid (shown5 w)
  by_cases h0 : n < 0
  · have d0 : decide (n < 0) = true := decide_eq_true h0
    go_enter Try.func4, Try.ntmps4
    go_wp2_with fail
    refine KS.out.mono ?_
    rintro e w1 ⟨rfl, hb1⟩
    have HB1 := Lib.hid hb1
    clear hb1
    go_wp2
    go_ret
    exact ⟨rfl, HB1.out⟩
  by_cases h10 : 10 < n
  · have d0 : decide (n < 0) = false := decide_eq_false h0
    have d1 : decide (10 < n) = true := decide_eq_true h10
    go_enter Try.func4, Try.ntmps4
    go_wp2_with fail
    refine KS.out.mono ?_
    rintro e w1 ⟨rfl, hb1⟩
    have HB1 := Lib.hid hb1
    clear hb1
    go_wp2
    go_ret
    exact ⟨rfl, HB1.out⟩
  obtain ⟨t, rfl⟩ : ∃ t : Nat, n = t := ⟨n.toNat, by omega⟩
  have ht : t ≤ 10 := by omega
  have d0 : decide ((t : Int) < 0) = false := decide_eq_false h0
  have d1 : decide (10 < (t : Int)) = false := decide_eq_false h10
  have K1 := Lib.hid (fun w => netPairs_yes t ht w)
  have K5 := Lib.hid (fun w => netCount_yes t ht w)
  rw [← netP_cnt t ht] at K5
  go_enter Try.func4, Try.ntmps4
  go_wp2_with fail
  refine KS.out.mono ?_
  rintro e w1 ⟨rfl, hb1⟩
  have HB1 := Lib.hid hb1
  clear hb1
  go_wp2_with fail
  have hN1024 : 2 ^ t ≤ 1024 := Nat.le_trans (Nat.pow_le_pow_right (by omega) ht) (by decide)
  have hW : wrap64 ((2 : Int) ^ t) = ((2 ^ t : Nat) : Int) := by
    have e : ((2 ^ t : Nat) : Int) = (2 : Int) ^ t := by simp
    rw [← e]
    exact (fun (y : Nat) (hy : y ≤ 1024) => (by unfold wrap64; omega : wrap64 (y : Int) = (y : Int))) _ hN1024
  rw [hW]
  have HOK := Lib.hid (netP_ok (r := t) t (Nat.le_refl _))
  have HMET : Hid (∀ q, q < 2 ^ t → 2 * (netP (2 ^ t) t).foldl metF (fun _ => 0) q = t * (t + 1)) := Lib.hid fun q hq => by
    have := met_net q hq t (fun _ => 0)
    omega
  have hlen : (netP (2 ^ t) t).length ≤ 112640 := by
    refine Nat.le_trans (netP_length (2 ^ t) t) ?_
    exact Nat.mul_le_mul hN1024 (Nat.mul_le_mul ht (show t + 1 ≤ 11 by omega))
  clear hW
  generalize netP (2 ^ t) t = ps at *
  obtain ⟨N, hN⟩ : ∃ N, 2 ^ t = N := ⟨_, rfl⟩
  rw [hN] at K1 K5 HOK HMET hN1024 ⊢
  clear hN
  refine (K1.out w1).mono ?_
  rintro e w2 ⟨va, rfl, hoa, hb2⟩
  have HA2 := Lib.hid (SlP.of_owns hoa)
  have HB2 := Lib.hid (HB1.out.trans (hb2.mono HB1.out.size))
  clear hoa hb2 HB1
  obtain ⟨aa, ac, rfl, a1, a2, a3⟩ := HA2.out
  obtain ⟨m, hm⟩ : ∃ m, ps.length = m := ⟨_, rfl⟩
  rw [hm] at a1 hlen K5
  rw [hm]
  obtain ⟨i0, hi, hz0, hz1, hz2⟩ := info_parts info_int5
  have HI := Lib.hid hi
  have HZ := Lib.hid hz0
  have HS := Lib.hid hz1
  have HY := Lib.hid hz2
  clear hi hz0 hz1 hz2
  go_wp2_with (first
    | (at_make; go_loud (refine wpList_make_row _ rfl (.tmp 25) (.tmp 25) 32 rfl 3 i0 (.int .i64 0) Try.underlying32 HI.out HZ.out HS.out rfl .i64 .i64 N rfl rfl (by rw [HY.out]; omega) (by omega) ?_))
    | fail)
  obtain ⟨G, hG⟩ : ∃ G, w2.heap.size = G := ⟨_, rfl⟩
  have hrow := World.rowIs_made w2 (.int .i64 0) N 3
  have hbel : Below w2.heap.size w2 (w2.alloc (.cells (madeCells #[.int .i64 0] N) 3)) := (Below.refl _ _).alloc (Nat.le_refl _) _
  rw [hG] at hrow ⊢
  have HR := Lib.hid hrow
  have HB := Lib.hid hbel
  have HGw : Hid (w2.heap.size ≤ G) := Lib.hid (by omega)
  clear hrow hbel hG
  generalize w2.alloc (.cells (madeCells #[.int .i64 0] N) 3) = w3 at *
  go_loopw [7] (fun i wr => ∃ k : Nat, k ≤ m ∧ i = .int .i64 k ∧ Hid (∃ f : Nat → Nat, wr.rowIs G 3 N (fun j => .int .i64 (f j : Int)) ∧ (∀ q, q < N → f q = (ps.take k).foldl metF (fun _ => 0) q) ∧ ∀ q, f q ≤ 2 * k) ∧ Hid (Below w2.heap.size w2 wr)) (fun i _ => m - (intOf i).toNat)
  case atStart => exact ⟨0, by omega, rfl, Lib.hid ⟨fun _ => 0, HR.out, fun q _ => rfl, fun _ => Nat.zero_le _⟩, HB⟩
  case round =>
    obtain ⟨k, hk, rfl, HF, HW⟩ := hrel
    by_cases hlt : k < m
    · have hne : ps ≠ [] := fun e => by rw [e] at hm; simp at hm; omega
      obtain ⟨ab, aoff, rfl, hab, har⟩ := a3 hne
      have hkp : k < ps.length := by omega
      obtain ⟨c0, c1, c2⟩ := SlP.at (cap := 0) (n := 0) har k hkp
      have HCC : Hid (∀ w', Below w2.heap.size w2 w' → w'.cell? ⟨ab, aoff + k * 3, none⟩ = some (.int .i64 (ps[k].1 : Int)) ∧ w'.cell? ⟨ab, aoff + k * 3 + 1, none⟩ = some (.int .i64 (ps[k].2.1 : Int))) := Lib.hid fun w' h => ⟨(h.cell (p := ⟨ab, aoff + k * 3, none⟩) hab).trans c0, (h.cell (p := ⟨ab, aoff + k * 3 + 1, none⟩) hab).trans c1⟩
      obtain ⟨ho1, ho2⟩ := HOK.out ps[k] (List.getElem_mem hkp)
      have HTK : Hid ((ps.take (k + 1)).foldl metF (fun _ => 0) = metF ((ps.take k).foldl metF (fun _ => 0)) ps[k]) := Lib.hid (by
        rw [List.take_succ_eq_append_getElem hkp, List.foldl_append]; rfl)
      clear c0 c1 c2 har
      generalize ps[k] = x at *
      obtain ⟨x1, x2, x3⟩ := x
      simp only at ho1 ho2 HCC
      obtain ⟨c0, c1⟩ := HCC.out wr HW.out
      obtain ⟨f, hf1, hf2, hf3⟩ := HF.out
      have HF1 := Lib.hid hf1
      have HF2 := Lib.hid hf2
      clear hf1 hf2 HF
      have e1 : decide ((x1 : Int) < 0) = false := decide_eq_false (by omega)
      have e2 : decide ((N : Int) ≤ (x2 : Int)) = false := decide_eq_false (by omega)
      have e3 : decide ((x2 : Int) ≤ (x1 : Int)) = false := decide_eq_false (by omega)
      go_wp2_with fail
      go_quiet (fail)
      have HR3 := Lib.hid (show (wr.drewN nq).rowIs G 3 N (fun j => .int .i64 (f j : Int)) from HF1.out)
      have HW4 := Lib.hid (show Below w2.heap.size w2 (wr.drewN nq) from HW.out.trans ((below_drewN' (Below.refl _ _)).mono HW.out.size))
      obtain ⟨c0, c1⟩ := HCC.out _ HW4.out
      generalize wr.drewN nq = wq at *
      have cG : wq.cell? ⟨G, x1, none⟩ = some (.int .i64 (f x1 : Int)) := HR3.out.cell (by omega)
      have fG : wq.frozen? ⟨G, x1, none⟩ = false := HR3.out.frozen x1
      have hb1 := hf3 x1
      have hb2 := hf3 x2
      have HF3 := Lib.hid hf3
      clear hf3
      go_upto_region 13 with fail
      try dsimp only [Act.put]
      have HR5 := Lib.hid ((HR3.out.set x1 (.int .i64 ((f x1 : Int) + 1))).congr (g := fun j => .int .i64 (((if j = x1 then f x1 + 1 else f j) : Nat) : Int)) fun j _ => by split <;> simp)
      have HW5 := Lib.hid (HW4.out.setCell (p := ⟨G, x1, none⟩) HGw.out (.int .i64 ((f x1 : Int) + 1)))
      obtain ⟨c0', c1'⟩ := HCC.out _ HW5.out
      generalize wq.setCell ⟨G, x1, none⟩ (.int .i64 ((f x1 : Int) + 1)) = w5 at *
      have hx2 : (if x2 = x1 then f x1 + 1 else f x2) = f x2 := if_neg (by omega)
      have cG2 : w5.cell? ⟨G, x2, none⟩ = some (.int .i64 (f x2 : Int)) := by
        have := HR5.out.cell (i := x2) (by omega)
        rw [hx2] at this
        exact this
      have fG2 : w5.frozen? ⟨G, x2, none⟩ = false := HR5.out.frozen x2
      clear c0 c1 cG fG
      go_wp2
      go_roundw
      case rel =>
        refine ⟨k + 1, by omega, by go_num, Lib.hid ⟨fun j => if j = x2 then f x2 + 1 else if j = x1 then f x1 + 1 else f j, (HR5.out.set x2 _).congr fun j _ => by (try dsimp only); split <;> simp, fun q hq => ?_, fun q => ?_⟩, Lib.hid (HW5.out.setCell (p := ⟨G, x2, none⟩) HGw.out _)⟩
        · rw [HTK.out]
          show (if q = x2 then f x2 + 1 else if q = x1 then f x1 + 1 else f q) = (ps.take k).foldl metF (fun _ => 0) q + (if q = x1 then 1 else 0) + (if q = x2 then 1 else 0)
          rw [← HF2.out q hq]
          by_cases q2 : q = x2
          · subst q2; rw [if_pos rfl, if_neg (by omega), if_pos rfl]
          · rw [if_neg q2, if_neg q2]
            by_cases q1 : q = x1
            · subst q1; rw [if_pos rfl, if_pos rfl]
            · rw [if_neg q1, if_neg q1]; omega
        · have := HF3.out q
          have := HF3.out x1
          have := HF3.out x2
          show (if q = x2 then f x2 + 1 else if q = x1 then f x1 + 1 else f q) ≤ 2 * (k + 1)
          split
          · omega
          · split <;> omega
      case measure => simp [intOf]; omega
    · obtain rfl : k = m := by omega
      obtain ⟨f, hf1, hf2, _⟩ := HF.out
      rw [← hm, List.take_length] at hf2
      have HF2 : Hid (∀ q, q < N → ((f q : Int) != ((t : Int) * ((t : Int) + 1)) / 2) = false) := Lib.hid fun q hq => by
        have h1 := HMET.out q hq
        rw [← hf2 q hq] at h1
        have h2 : ((t : Int) * ((t : Int) + 1)) = 2 * (f q : Int) := by exact_mod_cast h1.symm
        rw [h2, bne_eq_false_iff_eq]
        omega
      have hmul : (0 : Int) ≤ (t : Int) * ((t : Int) + 1) ∧ (t : Int) * ((t : Int) + 1) ≤ 110 := by
        have h3 : t * (t + 1) ≤ 110 := Nat.mul_le_mul ht (show t + 1 ≤ 11 by omega)
        have h4 : ((t * (t + 1) : Nat) : Int) = (t : Int) * ((t : Int) + 1) := by simp
        omega
      obtain ⟨hmul1, hmul2⟩ := hmul
      have HF1 := Lib.hid hf1
      clear hf1 hf2 HF
      go_wp2
      go_loopw [8] (fun i w2' => ∃ q : Nat, q ≤ N ∧ i = .int .i64 q ∧ w2' = wr) (fun i _ => N - (intOf i).toNat)
      case atStart => exact ⟨0, by omega, rfl, rfl⟩
      case round =>
        obtain ⟨q, hq, rfl, rfl⟩ := hrel
        by_cases hqN : q < N
        · have cG := HF1.out.cell (i := q) hqN
          have d5 := HF2.out q hqN
          go_wp2
          go_roundw
          case rel => exact ⟨q + 1, by omega, by go_num, by trivial⟩
          case measure => simp [intOf]; omega
        · have K6 := Lib.hid (K5.out wr)
          go_wp2_with fail
          refine K6.out.mono ?_
          rintro e w' ⟨rfl, rfl⟩
          go_wp2
          go_ret
          exact ⟨by simp, HB2.out.trans (HW.out.mono HB2.out.size)⟩
end Go.Proofs.Ytngpaibppdehdaa
