/-
  Joined texts: LevJ, LevK, LevX, LRoom, LevY, LvCfg, LvKeep, LvMove, LvBox, LvTell, LevZ, LvFill.
-/
import Derived.Test.YthchfdobdghdoaaHbo
import Derived.Test.YthchfdobdghdoaaHbd
import Derived.StillTailTactics
import Derived.Test.YthchfdobdghdoaaHaw
import Derived.Test.YthchfdobdghdoaaHaz
import Derived.Test.YthchfdobdghdoaaHbb
import Derived.Laws.Bits64b
import Derived.Test.YthchfdobdghdoaaHag
import Derived.Deep.DeepCutAuto
import Derived.Test.YthchfdobdghdoaaHbn
set_option linter.unusedVariables false
set_option linter.unusedSimpArgs false
set_option linter.unusedSectionVars false
set_option linter.unnecessarySimpa false
section

/-
  The walks of shellgamelaw10's own functions: pick, leaf, config, data.
-/
namespace Go.Sg
open Go Go.RowKit
/-- a small config, of a raw number -/
def cfgL (n : Int) : Lc := (2 ^ (pickD n 4).toNat, 1 + pickD (n.tdiv 4) 3, 1 + pickD (n.tdiv 12) 8)
/-- data of a number -/
def datF (n : Int) (i : Nat) : Int := IntKind.u64.wrap (IntKind.u64.wrap (n * (2 * i + 3)) + i)
def datU (n : Int) (k : Nat) : List Int := (List.range 8).map (fun i => if i < k then datF n i else 0)
def datL (n : Int) : List Int := (List.range 8).map (datF n)
theorem datU_len (n : Int) (k : Nat) : (datU n k).length = 8 := by simp [datU]
theorem datU_end (n : Int) : datU n 8 = datL n := by
  unfold datU datL
  refine List.map_congr_left (fun i hi => ?_)
  rw [if_pos (List.mem_range.1 hi)]
theorem datU_zero (n : Int) : datU n 0 = zero8 := by simp [datU, zero8, List.range_succ]
theorem datU_set (n : Int) {k : Nat} (hk : k < 8) : (datU n k).set k (datF n k) = datU n (k + 1) := by
  apply List.ext_getElem?
  intro j
  rw [List.getElem?_set]
  unfold datU
  by_cases e : k = j
  · subst e
    simp [hk]
  · rw [if_neg e]
    by_cases hj : j < 8
    · simp only [List.getElem?_map, List.getElem?_range hj, Option.map_some]
      by_cases h : j < k
      · rw [if_pos h, if_pos (by omega)]
      · rw [if_neg h, if_neg (by omega)]
    · rw [List.getElem?_eq_none (by simpa using hj), List.getElem?_eq_none (by simpa using hj)]
theorem datL_len (n : Int) : (datL n).length = 8 := by simp [datL]
theorem datF_word (n : Int) (i : Nat) : Word (datF n i) := by
  unfold datF Word
  rw [IntKind.wrap_u64]
  omega
theorem datL_word (n : Int) : ∀ x ∈ datL n, Word x := by
  intro x hx
  obtain ⟨i, _, rfl⟩ := List.mem_map.1 hx
  exact datF_word n i
end Go.Sg
namespace Go.Proofs.Ythchfdobdghdoaa
open Go Go.RowKit Go.Sg
theorem lpick_any (c n : Int) (hc : Num c) (hn : 0 < n) (hn2 : n < 9223372036854775808) (w : World) : Calls Try.prog 8 #[.int .i64 c, .int .i64 n] w fun e w' => e = .returned (.int .i64 (pickD c n)) ∧ w' = w := by
  have h1 : (n == 0) = false := by simp; omega
  obtain ⟨hc1, hc2⟩ := hc
  by_cases h : c < 0
  · have hw : IntKind.i64.wrap (c + 1) = c + 1 := by rw [IntKind.wrap_i64]; omega
    have hw2 : IntKind.i64.wrap (-(c + 1)) = -(c + 1) := by rw [IntKind.wrap_i64]; omega
    have HP : Hid ((-(c + 1)).tmod n = pickD c n) := Lib.hid (by unfold pickD; rw [if_pos h, Int.tmod_eq_emod_of_nonneg (by omega)])
    have hb : Hid (0 ≤ pickD c n ∧ pickD c n < n) := Lib.hid (pickD_bd hn)
    go_enter Try.func8, Try.ntmps8
    go_wp2
    go_ret
    exact ⟨ret_i64' (by rw [← HP.out, Int.neg_tmod]), rfl⟩
  · have HP : Hid (c.tmod n = pickD c n) := Lib.hid (by unfold pickD; rw [if_neg h, Int.tmod_eq_emod_of_nonneg (by omega)])
    go_enter Try.func8, Try.ntmps8
    go_wp2
    go_ret
    exact ⟨ret_i64' (by unfold pickD; rw [if_neg (by omega)]), rfl⟩
set_option maxHeartbeats 1000000 in
set_option maxRecDepth 100000 in
theorem lconfig_any (n : Int) (hn : Num n) (w : World) : Calls Try.prog 6 #[.int .i64 n] w fun e w' => e = .returned (.agg #[.int .i64 (cfgL n).1, .int .i64 (cfgL n).2.1, .int .i64 (cfgL n).2.2]) ∧ Below w.heap.size w w' := by
  have hn' := hn
  unfold Num at hn'
  have e4 : (n.tdiv 4).natAbs = n.natAbs / 4 := by rw [Int.natAbs_tdiv]; rfl
  have e12 : (n.tdiv 12).natAbs = n.natAbs / 12 := by rw [Int.natAbs_tdiv]; rfl
  have q4 : Num (n.tdiv 4) := by unfold Num; omega
  have q12 : Num (n.tdiv 12) := by unfold Num; omega
  have K1 := Lib.hid (fun w' => lpick_any n 4 hn (by omega) (by omega) w')
  have K2 := Lib.hid (fun w' => lpick_any (n.tdiv 4) 3 q4 (by omega) (by omega) w')
  have K3 := Lib.hid (fun w' => lpick_any (n.tdiv 12) 8 q12 (by omega) (by omega) w')
  have b1 := pickD_bd (c := n) (n := 4) (by omega)
  have b2 := pickD_bd (c := n.tdiv 4) (n := 3) (by omega)
  have b3 := pickD_bd (c := n.tdiv 12) (n := 8) (by omega)
  have w4 : IntKind.i64.wrap (n.tdiv 4) = n.tdiv 4 := by unfold Num at q4; rw [IntKind.wrap_i64]; omega
  have w12 : IntKind.i64.wrap (n.tdiv 12) = n.tdiv 12 := by unfold Num at q12; rw [IntKind.wrap_i64]; omega
  unfold cfgL
  generalize pickD n 4 = a at *
  generalize pickD (n.tdiv 4) 3 = b at *
  generalize pickD (n.tdiv 12) 8 = d at *
  obtain ⟨B, hB⟩ : ∃ B, w.heap.size = B := ⟨_, rfl⟩
  obtain ⟨w2, hw2⟩ : ∃ w2, w.alloc (.cells #[.int .i64 0, .int .i64 0, .int .i64 0] 26) = w2 := ⟨_, rfl⟩
  have hb2 : Below w.heap.size w w2 := by rw [← hw2]; exact (Below.refl _ _).alloc (Nat.le_refl _) _
  have h2 : Blk w2 B #[.int .i64 0, .int .i64 0, .int .i64 0] 26 := by rw [← hw2, ← hB]; exact Blk.new w _ _
  have HB2 := Lib.hid hb2
  have H2 := Lib.hid h2
  have HBB : Hid (w.heap.size ≤ B) := Lib.hid (by omega)
  have HW2 := Lib.hid hw2
  clear hb2 h2 q4 q12 hn hn' e4 e12 hw2
  have wb : IntKind.i64.wrap (1 + b) = 1 + b := by rw [IntKind.wrap_i64]; omega
  have wd : IntKind.i64.wrap (1 + d) = 1 + d := by rw [IntKind.wrap_i64]; omega
  have v1 : IntKind.i64.wrap 1 = 1 := by decide
  have v2 : IntKind.i64.wrap 2 = 2 := by decide
  have v4 : IntKind.i64.wrap 4 = 4 := by decide
  have v8 : IntKind.i64.wrap 8 = 8 := by decide
  have ha : a = 0 ∨ a = 1 ∨ a = 2 ∨ a = 3 := by omega
  rcases ha with rfl | rfl | rfl | rfl
  focus
    have HI : Hid ((Try.prog.info? 26).map (·.size) = some (#[.int .i64 1, .int .i64 (1 + b), .int .i64 (1 + d)] : Array Value).size) := Lib.hid (by kernel_rfl)
    go_enter Try.func6, Try.ntmps6
    go_wp2_with fail
    rw [HW2.out]
    go_still_tail 12, (by kernel_rfl)
    refine wpStill_step (fun K hK => ?_)
    go_simp
    refine ⟨_, K1.out _, hK _ ?_⟩
    clear hK K
    repeat still_step
    refine wpStill_step (fun K hK => ?_)
    go_simp
    refine ⟨_, K2.out _, hK _ ?_⟩
    clear hK K
    repeat still_step
    refine wpStill_step (fun K hK => ?_)
    go_simp
    refine ⟨_, K3.out _, hK _ ?_⟩
    clear hK K
    repeat still_step
    refine wpStill_nil ?_
    change wpList _ _ _ _ _ w2.drew
    refine wpList_store_row rfl 26 (.tmp 2) (.tmp 14) rfl B #[.int .i64 1, .int .i64 (1 + b), .int .i64 (1 + d)] rfl rfl 26 _ H2.out.drew HI.out (by rfl) (by simp [Value.oneCell']) ?_
    go_wp2
    have HBF : Hid (Below w.heap.size w (w2.drew.setRow B #[.int .i64 1, .int .i64 (1 + b), .int .i64 (1 + d)])) := Lib.hid (below_rowS HB2.out.drew _ _ HBB.out)
    refine bodyPost_ret (results_cell_row rfl _ _ B 26 _ (0, 0) _ rfl (H2.out.drew.setRow _) Try.underlying26 rfl HI.out) rfl ⟨rfl, HBF.out⟩
  focus
    have HI : Hid ((Try.prog.info? 26).map (·.size) = some (#[.int .i64 2, .int .i64 (1 + b), .int .i64 (1 + d)] : Array Value).size) := Lib.hid (by kernel_rfl)
    go_enter Try.func6, Try.ntmps6
    go_wp2_with fail
    rw [HW2.out]
    go_still_tail 12, (by kernel_rfl)
    refine wpStill_step (fun K hK => ?_)
    go_simp
    refine ⟨_, K1.out _, hK _ ?_⟩
    clear hK K
    repeat still_step
    refine wpStill_step (fun K hK => ?_)
    go_simp
    refine ⟨_, K2.out _, hK _ ?_⟩
    clear hK K
    repeat still_step
    refine wpStill_step (fun K hK => ?_)
    go_simp
    refine ⟨_, K3.out _, hK _ ?_⟩
    clear hK K
    repeat still_step
    refine wpStill_nil ?_
    change wpList _ _ _ _ _ w2.drew
    refine wpList_store_row rfl 26 (.tmp 2) (.tmp 14) rfl B #[.int .i64 2, .int .i64 (1 + b), .int .i64 (1 + d)] rfl rfl 26 _ H2.out.drew HI.out (by rfl) (by simp [Value.oneCell']) ?_
    go_wp2
    have HBF : Hid (Below w.heap.size w (w2.drew.setRow B #[.int .i64 2, .int .i64 (1 + b), .int .i64 (1 + d)])) := Lib.hid (below_rowS HB2.out.drew _ _ HBB.out)
    refine bodyPost_ret (results_cell_row rfl _ _ B 26 _ (0, 0) _ rfl (H2.out.drew.setRow _) Try.underlying26 rfl HI.out) rfl ⟨rfl, HBF.out⟩
  focus
    have HI : Hid ((Try.prog.info? 26).map (·.size) = some (#[.int .i64 4, .int .i64 (1 + b), .int .i64 (1 + d)] : Array Value).size) := Lib.hid (by kernel_rfl)
    go_enter Try.func6, Try.ntmps6
    go_wp2_with fail
    rw [HW2.out]
    go_still_tail 12, (by kernel_rfl)
    refine wpStill_step (fun K hK => ?_)
    go_simp
    refine ⟨_, K1.out _, hK _ ?_⟩
    clear hK K
    repeat still_step
    refine wpStill_step (fun K hK => ?_)
    go_simp
    refine ⟨_, K2.out _, hK _ ?_⟩
    clear hK K
    repeat still_step
    refine wpStill_step (fun K hK => ?_)
    go_simp
    refine ⟨_, K3.out _, hK _ ?_⟩
    clear hK K
    repeat still_step
    refine wpStill_nil ?_
    change wpList _ _ _ _ _ w2.drew
    refine wpList_store_row rfl 26 (.tmp 2) (.tmp 14) rfl B #[.int .i64 4, .int .i64 (1 + b), .int .i64 (1 + d)] rfl rfl 26 _ H2.out.drew HI.out (by rfl) (by simp [Value.oneCell']) ?_
    go_wp2
    have HBF : Hid (Below w.heap.size w (w2.drew.setRow B #[.int .i64 4, .int .i64 (1 + b), .int .i64 (1 + d)])) := Lib.hid (below_rowS HB2.out.drew _ _ HBB.out)
    refine bodyPost_ret (results_cell_row rfl _ _ B 26 _ (0, 0) _ rfl (H2.out.drew.setRow _) Try.underlying26 rfl HI.out) rfl ⟨rfl, HBF.out⟩
  focus
    have HI : Hid ((Try.prog.info? 26).map (·.size) = some (#[.int .i64 8, .int .i64 (1 + b), .int .i64 (1 + d)] : Array Value).size) := Lib.hid (by kernel_rfl)
    go_enter Try.func6, Try.ntmps6
    go_wp2_with fail
    rw [HW2.out]
    go_still_tail 12, (by kernel_rfl)
    refine wpStill_step (fun K hK => ?_)
    go_simp
    refine ⟨_, K1.out _, hK _ ?_⟩
    clear hK K
    repeat still_step
    refine wpStill_step (fun K hK => ?_)
    go_simp
    refine ⟨_, K2.out _, hK _ ?_⟩
    clear hK K
    repeat still_step
    refine wpStill_step (fun K hK => ?_)
    go_simp
    refine ⟨_, K3.out _, hK _ ?_⟩
    clear hK K
    repeat still_step
    refine wpStill_nil ?_
    change wpList _ _ _ _ _ w2.drew
    refine wpList_store_row rfl 26 (.tmp 2) (.tmp 14) rfl B #[.int .i64 8, .int .i64 (1 + b), .int .i64 (1 + d)] rfl rfl 26 _ H2.out.drew HI.out (by rfl) (by simp [Value.oneCell']) ?_
    go_wp2
    have HBF : Hid (Below w.heap.size w (w2.drew.setRow B #[.int .i64 8, .int .i64 (1 + b), .int .i64 (1 + d)])) := Lib.hid (below_rowS HB2.out.drew _ _ HBB.out)
    refine bodyPost_ret (results_cell_row rfl _ _ B 26 _ (0, 0) _ rfl (H2.out.drew.setRow _) Try.underlying26 rfl HI.out) rfl ⟨rfl, HBF.out⟩
theorem lleaf_any (n m : Int) (hn : Word n) (hm : 0 < m ∧ m ≤ 1024) (w : World) : Calls Try.prog 9 #[.int .u64 n, .int .i64 m] w fun e w' => e = .returned (.int .i64 (n % m)) ∧ w' = w := by
  have h1 : (m == 0) = false := by simp; omega
  have w1 : IntKind.u64.wrap m = m := by rw [IntKind.wrap_u64]; omega
  have hb := Int.emod_nonneg n (show m ≠ 0 by omega)
  have hb2 := Int.emod_lt_of_pos n hm.1
  have ht : n.tmod m = n % m := Int.tmod_eq_emod_of_nonneg hn.1
  have w2 : IntKind.i64.wrap (n % m) = n % m := by rw [IntKind.wrap_i64]; omega
  generalize n % m = r at *
  go_enter Try.func9, Try.ntmps9
  go_wp2
  go_ret
  exact ⟨rfl, rfl⟩
set_option maxHeartbeats 1000000 in
set_option maxRecDepth 100000 in
theorem ldata_any (n : Int) (hn : Word n) (w : World) : Calls Try.prog 11 #[.int .u64 n] w fun e w' => e = .returned (.agg (cw (datL n))) ∧ Below w.heap.size w w' := by
  obtain ⟨B, hB⟩ : ∃ B, w.heap.size = B := ⟨_, rfl⟩
  obtain ⟨w2, hw2⟩ : ∃ w2, (w.alloc (.cells #[.int .u64 0, .int .u64 0, .int .u64 0, .int .u64 0, .int .u64 0, .int .u64 0, .int .u64 0, .int .u64 0] 41)).alloc (.cells #[.int .u64 0, .int .u64 0, .int .u64 0, .int .u64 0, .int .u64 0, .int .u64 0, .int .u64 0, .int .u64 0] 41) = w2 := ⟨_, rfl⟩
  have hb2 : Below w.heap.size w w2 := by rw [← hw2]; exact ((Below.refl _ _).alloc (Nat.le_refl _) _).alloc (by simp) _
  have h1 : Blk w2 B #[.int .u64 0, .int .u64 0, .int .u64 0, .int .u64 0, .int .u64 0, .int .u64 0, .int .u64 0, .int .u64 0] 41 := by rw [← hw2, ← hB]; exact (Blk.new w _ _).alloc _
  have h2 : Blk w2 (B + 1) #[.int .u64 0, .int .u64 0, .int .u64 0, .int .u64 0, .int .u64 0, .int .u64 0, .int .u64 0, .int .u64 0] 41 := by
    rw [← hw2, ← hB]
    have := Blk.new (w.alloc (.cells #[.int .u64 0, .int .u64 0, .int .u64 0, .int .u64 0, .int .u64 0, .int .u64 0, .int .u64 0, .int .u64 0] 41)) #[.int .u64 0, .int .u64 0, .int .u64 0, .int .u64 0, .int .u64 0, .int .u64 0, .int .u64 0, .int .u64 0] 41
    simpa using this
  have H0 : Hid (Blk w2 B (cw zero8) 41 ∧ Blk w2 (B + 1) (cw (datU n 0)) 41 ∧ Below w.heap.size w w2) := Lib.hid ⟨h1, by rw [datU_zero]; exact h2, hb2⟩
  have HBB : Hid (w.heap.size = B) := Lib.hid hB
  have HW2 := Lib.hid hw2
  clear hb2 h1 h2 hw2
  go_enter Try.func11, Try.ntmps11
  go_upto_region 3 with fail
  rw [HW2.out]
  go_loopw [4] (fun iv wr => ∃ k : Nat, k ≤ 8 ∧ iv = .int .i64 k ∧ Hid (Blk wr B (cw zero8) 41 ∧ Blk wr (B + 1) (cw (datU n k)) 41 ∧ Below w.heap.size w wr)) (fun iv _ => 8 - (intOf iv).toNat)
  case atStart => exact ⟨0, by omega, rfl, H0⟩
  case round =>
    obtain ⟨k, hk, rfl, HS⟩ := hrel
    by_cases hlt : k < 8
    · have d : decide ((k : Int) < 8) = true := decide_eq_true (by omega)
      have d' : decide (k < 8) = true := decide_eq_true hlt
      have f1 : IntKind.i64.wrap (2 * (k : Int)) = 2 * k := by rw [IntKind.wrap_i64]; omega
      have f2 : IntKind.i64.wrap (2 * (k : Int) + 3) = 2 * k + 3 := by rw [IntKind.wrap_i64]; omega
      have f3 : IntKind.u64.wrap (2 * (k : Int) + 3) = 2 * k + 3 := by rw [IntKind.wrap_u64]; omega
      have f4 : IntKind.u64.wrap (k : Int) = k := by rw [IntKind.wrap_u64]; omega
      have k0 : (0 : Int) ≤ (k : Int) := by omega
      have k8 : (k : Int) < 8 := by omega
      have HF : Hid (IntKind.u64.wrap (IntKind.u64.wrap (n * (2 * k + 3)) + k) = datF n k) := Lib.hid rfl
      have hs : k < (cw (datU n k)).size := by rw [cw_size, datU_len]; exact hlt
      have ck : wr.cell? ⟨B + 1, k, none⟩ = some (cw (datU n k))[k] := by rw [HS.out.2.1.cell, Array.getElem?_eq_getElem hs]
      have fk : wr.frozen? ⟨B + 1, k, none⟩ = false := HS.out.2.1.free k
      generalize (cw (datU n k))[k] = y at *
      go_wp2_with fail
      rw [HF.out]
      refine ⟨⟨k + 1, by omega, by push_cast; rfl, Lib.hid ⟨?_, ?_, ?_⟩⟩, by simp [intOf]; omega⟩
      · have h := HS.out.1
        unfold Blk at h ⊢
        rw [Go.Deep.blk_setCell_other _ _ _ _ (show B ≠ (⟨B + 1, k, none⟩ : Addr).block from by simp)]
        exact h
      · have h := HS.out.2.1.set k (.int .u64 (datF n k))
        have e : (cw (datU n k)).setIfInBounds k (.int .u64 (datF n k)) = cw (datU n (k + 1)) := by
          rw [cw_eq, cw_eq, List.setIfInBounds_toArray, ← datU_set n hlt]
          unfold wv
          rw [List.map_set]
        rwa [e] at h
      · exact below_setCells (vs := [.int .u64 (datF n k)]) (by have := HBB.out; omega) k HS.out.2.2
    · obtain rfl : k = 8 := by omega
      have d : decide (((8 : Nat) : Int) < 8) = false := by decide
      have hs := HS.out
      rw [datU_end] at hs
      have HS2 := Lib.hid hs
      have HI : Hid ((Try.prog.info? 41).map (·.size) = some (cw (datL n)).size) := Lib.hid (info_dataL _ (datL_len n))
      have HO : Hid ((cw (datL n)).all (·.oneCell') = true) := Lib.hid (cw_all _)
      have HZ : Hid ((cw zero8).size = (cw (datL n)).size) := Lib.hid (by rw [cw_size, cw_size, datL_len]; rfl)
      clear hs HS H0
      go_wp2_with (first
        | (refine wpList_load_row rfl 41 (.tmp 3) rfl (B + 1) rfl 41 (cw (datL n)) (0, 0) _ HS2.out.2.1 Try.underlying41 rfl HI.out ?_)
        | (refine wpList_store_row rfl 41 (.tmp 2) (.tmp 20) rfl B (cw (datL n)) rfl rfl 41 _ HS2.out.1 HI.out HZ.out HO.out ?_)
        | fail)
      have HBF : Hid (Below w.heap.size w (wr.setRow B (cw (datL n)))) := Lib.hid (below_rowS HS2.out.2.2 _ _ (by have := HBB.out; omega))
      refine bodyPost_ret (results_cell_row rfl _ _ B 41 _ (0, 0) _ rfl (HS2.out.1.setRow _) Try.underlying41 rfl HI.out) rfl ⟨rfl, ?_⟩
      exact HBF.out
end Go.Proofs.Ythchfdobdghdoaa
end
section

/-
  The walks of shellgamelaw10's made and shown.
-/
namespace Go.Sg
open Go Go.RowKit
/-- the regions that a level is made in, behind one of one cell -/
def zsL (c : Lc) : List Int := [1, (szL c).1, (szL c).2.1, (szL c).2.2]
/-- a level as it is made -/
def mkL (c : Lc) : Ls := ⟨Mm.fresh (zsL c), false, []⟩
end Go.Sg
namespace Go.Proofs.Ythchfdobdghdoaa
open Go Go.RowKit Go.Sg
set_option maxHeartbeats 1000000 in
set_option maxRecDepth 100000 in
theorem lmade_any (c : Lc) (hc : LcOk c) (hz : Mm.newOk (zsL c) = true) (hn : newOk (Mm.fresh (zsL c)) 1 c = true) (w : World) :
    Calls Try.prog 7 #[.agg #[.int .i64 c.1, .int .i64 c.2.1, .int .i64 c.2.2]] w fun e w' => ∃ p q ib, e = .returned (.tuple #[.pointer (some ⟨p, 0, none⟩), .pointer (some ⟨q, 0, none⟩)]) ∧ LvR w w' p q ib c 1 (mkL c) (fun _ => False) (fun _ => True) := by
  have KZ := Lib.hid (fun w' => lSizes_any c hc w')
  have KM := Lib.hid (fun v w' h' => memNew_any v (zsL c) w' h')
  have KN := Lib.hid (fun (w0 : World) p w' h' => lNew_any (w0 := w0) (w := w') (p := p) (M := Mm.fresh (zsL c)) keeps_true c hc 1 ⟨by decide, by decide⟩ (by decide) h')
  obtain ⟨A, hA⟩ : ∃ A, w.heap.size = A := ⟨_, rfl⟩
  obtain ⟨w1, hw1⟩ : ∃ w1, w.alloc (.cells #[.int .i64 c.1, .int .i64 c.2.1, .int .i64 c.2.2] 26) = w1 := ⟨_, rfl⟩
  have hb1 : Below w.heap.size w w1 := by rw [← hw1]; exact (Below.refl _ _).alloc (Nat.le_refl _) _
  have k1 : Blk w1 A #[.int .i64 c.1, .int .i64 c.2.1, .int .i64 c.2.2] 26 := by rw [← hw1, ← hA]; exact Blk.new w _ _
  have HB1 := Lib.hid hb1
  have K1 := Lib.hid k1
  have HW1 := Lib.hid hw1
  have a0 : w1.cell? ⟨A, 0, none⟩ = some (.int .i64 c.1) := k1.cell 0
  have a1 : w1.cell? ⟨A, 1, none⟩ = some (.int .i64 c.2.1) := k1.cell 1
  have a2 : w1.cell? ⟨A, 2, none⟩ = some (.int .i64 c.2.2) := k1.cell 2
  have HZN := Lib.hid hz
  have HNN := Lib.hid hn
  have HZS : Hid (zsL c = [1, (szL c).1, (szL c).2.1, (szL c).2.2]) := Lib.hid rfl
  have HMK : Hid (mkL c = ⟨Mm.fresh (zsL c), false, []⟩) := Lib.hid rfl
  obtain ⟨s1, hs1⟩ : ∃ s, (szL c).1 = s := ⟨_, rfl⟩
  obtain ⟨s2, hs2⟩ : ∃ s, (szL c).2.1 = s := ⟨_, rfl⟩
  obtain ⟨s3, hs3⟩ : ∃ s, (szL c).2.2 = s := ⟨_, rfl⟩
  rw [hs1, hs2, hs3] at KZ HZS
  clear hw1 hb1 k1 hz hn hs1 hs2 hs3
  go_enter Try.func7, Try.ntmps7
  go_wp2_with fail
  rw [HW1.out]
  refine (KZ.out _).mono ?_
  rintro e w2 ⟨rfl, hb2⟩
  have K2 := Lib.hid (K1.out.below hb2 K1.out.lt)
  have HB2 : Hid (Below w.heap.size w w2) := Lib.hid (HB1.out.trans (hb2.mono HB1.out.size))
  clear hb2 a0 a1 a2 K1 HB1 HW1
  obtain ⟨S, hS⟩ : ∃ S, w2.heap.size = S := ⟨_, rfl⟩
  obtain ⟨w3, hw3⟩ : ∃ w3, w2.alloc (.cells #[.int .i64 1, .int .i64 s1, .int .i64 s2, .int .i64 s3] 3) = w3 := ⟨_, rfl⟩
  have hb3 : Below w2.heap.size w2 w3 := by rw [← hw3]; exact (Below.refl _ _).alloc (Nat.le_refl _) _
  have k3 : Blk w3 S #[.int .i64 1, .int .i64 s1, .int .i64 s2, .int .i64 s3] 3 := by rw [← hw3, ← hS]; exact Blk.new w2 _ _
  have hsl : Sl1 w3 (.slice (some ⟨S, 0, none⟩) 4 4) (ints (zsL c)) := by
    rw [HZS.out]
    refine .inr ⟨by simp [ints], S, 0, 4, rfl, by simp [ints], by decide, k3.lt, fun i hi => ?_⟩
    rw [Nat.zero_add, k3.cell]
    have h4 : i < 4 := by simpa [ints] using hi
    match i, h4 with
    | 0, _ => rfl
    | 1, _ => rfl
    | 2, _ => rfl
    | 3, _ => rfl
  have HSL := Lib.hid hsl
  have HB3 : Hid (Below w.heap.size w w3) := Lib.hid (HB2.out.trans (hb3.mono HB2.out.size))
  have K3 := Lib.hid (K2.out.below hb3 K2.out.lt)
  have HW3 := Lib.hid hw3
  clear hb3 k3 hsl hw3 HB2 K2 KZ
  go_wp2_with fail
  rw [HW3.out]
  refine (KM.out _ _ HSL.out).mono ?_
  rintro e w4 ⟨hb4, ⟨h0, -⟩ | ⟨-, p, F, rfl, hm, hF⟩⟩
  · rw [HZN.out] at h0; cases h0
  have K4 := Lib.hid (K3.out.below hb4 K3.out.lt)
  have HB4 : Hid (Below w.heap.size w w4) := Lib.hid (HB3.out.trans (hb4.mono HB3.out.size))
  have H4 : Hid (OneX 67 w w4 p (Mm.fresh (zsL c)) (fun _ => False) (fun _ => True)) := Lib.hid ⟨F, hm, fun k hk => Nat.le_trans HB3.out.size (hF k hk), HB4.out, fun _ h => h.elim, fun _ h => h.elim, trivial⟩
  have b0 : w4.cell? ⟨A, 0, none⟩ = some (.int .i64 c.1) := K4.out.cell 0
  have b1 : w4.cell? ⟨A, 1, none⟩ = some (.int .i64 c.2.1) := K4.out.cell 1
  have b2 : w4.cell? ⟨A, 2, none⟩ = some (.int .i64 c.2.2) := K4.out.cell 2
  have HIL := Lib.hid (info_lcL c)
  have KN4 := Lib.hid (KN.out w p w4 H4.out)
  clear hb4 hm hF K3 HB3 HSL KM KN HW3
  go_wp2_with fail
  refine KN4.out.mono ?_
  intro e w5 h5
  rw [if_pos HNN.out] at h5
  obtain ⟨q, ib, rfl, h6⟩ := h5
  have H6 := Lib.hid h6
  clear h6
  go_wp2
  go_ret2
  exact ⟨p, q, ib, rfl, by rw [HMK.out]; exact H6.out⟩
end Go.Proofs.Ythchfdobdghdoaa
end
section

/-
  A level as it is made, and its accesses, in plain Lean.
-/
namespace Go.Sg
open Go Go.RowKit Go.Proofs.Ythchfdobdghdoaa
theorem fresh_read (zs : List Int) (x a : Int) : (Mm.fresh zs).read x a = zeros := by
  unfold Mm.read
  split
  · rename_i h
    obtain ⟨i, j, hi, hj, rfl, rfl⟩ := Mm.has_spec h
    rw [Int.toNat_natCast, Int.toNat_natCast, List.getElem?_eq_getElem hi]
    simp only [Option.bind_some]
    rw [List.getElem?_eq_getElem hj]
    simp [Mm.fresh]
  · rfl
theorem fresh_size (zs : List Int) (k : Nat) (h : k < zs.length) : (Mm.fresh zs).size (k : Int) = (zs[k]).toNat := by
  have h2 : k < (Mm.fresh zs).regs.length := by simp [Mm.fresh, h]
  rw [Mm.size_in h2]
  simp [Mm.fresh]
theorem fresh_inv {c : Lc} (hr : lcRight c = true) : LvInv c 1 (Mm.fresh (zsL c)) [] := by
  have hb := lcRight_bd hr
  have hz : szL c = (c.2.1 * nodesI c.1, c.2.2, lcTab c) := by unfold szL; rw [if_pos hr]
  have hzs : zsL c = [1, c.2.1 * nodesI c.1, c.2.2, lcTab c] := by unfold zsL; rw [hz]
  have s1 : (Mm.fresh (zsL c)).size 1 = (c.2.1 * nodesI c.1).toNat := by
    rw [hzs]
    exact fresh_size [1, c.2.1 * nodesI c.1, c.2.2, lcTab c] 1 (by simp)
  have s2 : (Mm.fresh (zsL c)).size 2 = c.2.2.toNat := by
    rw [hzs]
    exact fresh_size [1, c.2.1 * nodesI c.1, c.2.2, lcTab c] 2 (by simp)
  have s3 : (Mm.fresh (zsL c)).size 3 = (lcTab c).toNat := by
    rw [hzs]
    exact fresh_size [1, c.2.1 * nodesI c.1, c.2.2, lcTab c] 3 (by simp)
  refine ⟨⟨fun lf hlf s hs => ⟨?_, by rw [fresh_read]; exact zeros_ok _⟩, ?_⟩, List.Pairwise.nil, ?_, fun s _ b h => ?_⟩
  · have h1 := spL_sub hr hlf s hs
    unfold allS at h1
    rcases List.mem_append.1 h1 with h2 | h2
    · obtain ⟨a, ha, rfl⟩ := List.mem_map.1 h2
      refine Mm.has_lt ?_
      rw [s1]
      exact List.mem_range.1 ha
    · obtain ⟨a, ha, rfl⟩ := spSt_mem.1 h2
      refine Mm.has_lt ?_
      show a < (Mm.fresh (zsL c)).size 2
      rw [s2]
      exact ha
  · show (lcTab c).toNat ≤ (Mm.fresh (zsL c)).size 3
    rw [s3]
    exact Nat.le_refl _
  · have : (allS 1 c).filterMap (fun s => bk ((Mm.fresh (zsL c)).read s.1 s.2)) = [] := List.filterMap_eq_nil_iff.2 fun s _ => by rw [fresh_read, bk_zeros]
    rw [this]
  · rw [fresh_read, bk_zeros] at h
    cases h
/-- a level that has lost nothing holds these blocks -/
structure LsInv (c : Lc) (first : Int) (S : Ls) (mp : List Bk) : Prop where
  inv : LvInv c first S.M mp
  over : S.over = false
theorem ls_start {c : Lc} (hr : lcRight c = true) : LsInv c 1 (mkL c) [] := ⟨fresh_inv hr, rfl⟩
theorem badA_of {c : Lc} {op id at' fr lf : Int} (hop : 0 ≤ op ∧ op ≤ 3) (hid : id ≤ 2147483648) (hfr : 0 ≤ fr ∧ fr < c.1) (hlf : 0 ≤ lf ∧ lf < c.1) (hat : op = 2 → 0 ≤ at' ∧ at' ≤ 6) : badA c op id at' fr lf = false := by
  unfold badA
  rw [decide_eq_false (by omega : ¬ op < 0), decide_eq_false (by omega : ¬ 3 < op), decide_eq_false (by omega : ¬ 2147483648 < id), decide_eq_false (by omega : ¬ fr < 0), decide_eq_false (by omega : ¬ c.1 ≤ fr), decide_eq_false (by omega : ¬ lf < 0), decide_eq_false (by omega : ¬ c.1 ≤ lf)]
  by_cases h : op = 2
  · rw [decide_eq_false (by have := hat h; omega : ¬ at' < 0), decide_eq_false (by have := hat h; omega : ¬ 6 < at')]
    simp
  · have : (op == 2) = false := beq_eq_false_iff_ne.2 h
    rw [this]; rfl
/-- an access of a level that has lost nothing -/
theorem ls_step {c : Lc} {first : Int} {S : Ls} {mp : List Bk} {op id at' fr lf : Int} {d : List Int} (hr : lcRight c = true) (hf : 0 ≤ first) (hI : LsInv c first S mp) (hop : 0 ≤ op ∧ op ≤ 3) (hid : 0 ≤ id ∧ id ≤ 2147483648) (hfr : 0 ≤ fr ∧ fr < c.1) (hlf : 0 ≤ lf ∧ lf < c.1)
    (hd : d.length = 8 ∧ ∀ x ∈ d, Word x) (hat : op = 2 → 0 ≤ at' ∧ at' ≤ 6) (hc : ∀ b ∈ mp, b.1 = id → b.2.1 = fr) :
    S.tell first c op id at' fr lf = findB id mp ∧ ((S.acc first c op id at' d fr lf).over = false → LsInv c first (S.acc first c op id at' d fr lf) (mpN mp id lf (edL op at' d (findB id mp).1 (findB id mp).2))) ∧
    (((mpN mp id lf (edL op at' d (findB id mp).1 (findB id mp).2)).length : Int) ≤ c.2.2 → (S.acc first c op id at' d fr lf).over = false) ∧
    (S.acc first c op id at' d fr lf).ids = (if op = 1 ∨ op = 2 then S.ids ++ [id] else S.ids) ∧ (S.acc first c op id at' d fr lf).M.evs.length ≤ S.M.evs.length + 300000 := by
  have hR := (lcRight_iff hr).1
  have hbad := badA_of (c := c) hop hid.2 hfr hlf hat
  have hfr' : hasB c.1 fr = true := by unfold hasB; rw [hR, decide_eq_true hfr.1, decide_eq_true hfr.2]; rfl
  have hlf' : hasB c.1 lf = true := by unfold hasB; rw [hR, decide_eq_true hlf.1, decide_eq_true hlf.2]; rfl
  obtain ⟨h1, h2, h3⟩ := acc_step hr hf hI.inv hfr' hlf' hid hd hat hc
  have hbd := lcTab_bd c
  have hln := spL_len (first := first) hr hfr'
  unfold Ls.tell Ls.acc
  rw [if_neg (by rw [hbad]; decide), if_neg (by rw [hbad]; decide)]
  refine ⟨h1, fun h => ⟨h2 ?_, h⟩, fun h => ?_, rfl, ?_⟩
  · simp only [hI.over, Bool.false_or, decide_eq_false_iff_not] at h
    exact List.length_eq_zero_iff.1 (by omega)
  · simp only
    rw [hI.over, h3 h]
    rfl
  · show (accM S.M first c fr _).evs.length ≤ _
    unfold accM
    rw [bakM_evs]
    have h4 := dealM_evs (gatM S.M (first + 2) (spL first c fr) (accT S.M first c fr lf id op at' d) (lcTab c).toNat) (first + 2) c fr (accT S.M first c fr lf id op at' d)
    have h5 := gatM_evs (M := S.M) (r := first + 2) (sp := spL first c fr) (T := accT S.M first c fr lf id op at' d) (lcTab c).toNat
    omega
end Go.Sg
end
section

/-
  LevelRoom, in plain Lean: few blocks.
-/
namespace Go.Sg
open Go Go.RowKit Go.Proofs.Ythchfdobdghdoaa
theorem room_len {mp : List Bk} {s : Int} (hn : (mp.map (·.1)).Nodup) (h : ∀ b ∈ mp, 0 ≤ b.1 ∧ b.1 < s) (hs : 0 ≤ s) : (mp.length : Int) ≤ s := by
  have h1 := nodup_le (L := mp.map (·.1)) (M := idx s.toNat) hn (fun x hx => by
    obtain ⟨b, hb, rfl⟩ := List.mem_map.1 hx
    have := h b hb
    exact idx_mem.2 (by omega))
  rw [List.length_map, idx_len] at h1
  omega
theorem mpN_mem {mp : List Bk} {id lf : Int} {e : List Int × Bool} {b : Bk} (h : b ∈ mpN mp id lf e) : (b ∈ mp ∧ b.1 ≠ id) ∨ (b = (id, lf, e.1) ∧ e.2 = true) := by
  unfold mpN at h
  rcases List.mem_append.1 h with h | h
  · left
    have h2 := List.mem_filter.1 h
    exact ⟨h2.1, by simpa using h2.2⟩
  · right
    cases he : e.2 with
    | false => rw [he] at h; cases h
    | true => rw [he] at h; exact ⟨by simpa using h, rfl⟩
theorem mpN_ids {mp : List Bk} {id lf : Int} {e : List Int × Bool} (hn : (mp.map (·.1)).Nodup) : ((mpN mp id lf e).map (·.1)).Nodup := by
  unfold mpN
  rw [List.map_append]
  refine List.pairwise_append.2 ⟨hn.sublist (List.filter_sublist.map _), ?_, fun a ha b hb hab => ?_⟩
  · cases e.2
    · exact List.Pairwise.nil
    · exact List.pairwise_singleton _ _
  · obtain ⟨x, hx, rfl⟩ := List.mem_map.1 ha
    have h1 := (List.mem_filter.1 hx).2
    cases h2 : e.2 with
    | false => rw [h2] at hb; cases hb
    | true =>
      rw [h2] at hb
      have h3 : b = id := by simpa using hb
      rw [h3] at hab
      simp [hab] at h1
theorem addKeys_in (P : Lit → Prop) : ∀ (xs L : List Lit), (∀ y ∈ xs, WideAt.IsKeyLit y ∧ P y) → L.Nodup → (∀ y ∈ L, P y) → (xs.foldl Maps.addKey L).Nodup ∧ ∀ y ∈ xs.foldl Maps.addKey L, P y
  | [], L, _, h1, h2 => ⟨h1, h2⟩
  | x :: xs, L, h, h1, h2 => by
    rw [List.foldl_cons]
    refine addKeys_in P xs _ (fun y hy => h y (List.mem_cons_of_mem _ hy)) ?_ ?_
    · unfold Maps.addKey
      split
      · exact h1
      · rename_i hn
        refine List.pairwise_append.2 ⟨h1, List.pairwise_singleton _ _, fun a ha b hb hab => hn ?_⟩
        rw [List.mem_singleton] at hb
        rw [List.any_eq_true]
        exact ⟨a, ha, by rw [hab, hb]; exact WideAt.sameKey_self (h x List.mem_cons_self).1⟩
    · unfold Maps.addKey
      split
      · exact h2
      · intro y hy
        rcases List.mem_append.1 hy with hy | hy
        · exact h2 y hy
        · rw [List.mem_singleton] at hy
          rw [hy]
          exact (h x List.mem_cons_self).2
theorem cntL_le {ids : List Int} {s : Int} (hs : 0 ≤ s) (h : ∀ x ∈ ids, 0 ≤ x ∧ x < s) : (cntL ids : Int) ≤ s := by
  have hk : ∀ y ∈ ids.map (fun x => Lit.int .u64 x), WideAt.IsKeyLit y ∧ ∃ x : Int, y = .int .u64 x ∧ 0 ≤ x ∧ x < s := fun y hy => by
    obtain ⟨x, hx, rfl⟩ := List.mem_map.1 hy
    exact ⟨trivial, x, rfl, h x hx⟩
  unfold cntL idsD
  rw [Maps.size_setOf _ _ (fun y hy => (hk y hy).1)]
  obtain ⟨h1, h2⟩ := addKeys_in _ _ [] hk List.Pairwise.nil (fun y hy => by cases hy)
  haveI : DecidableEq Lit := fun a b => Classical.propDecidable _
  have h3 := nodup_le (M := (idx s.toNat).map (fun x => Lit.int .u64 x)) h1 (fun y hy => by
    obtain ⟨x, rfl, hx⟩ := h2 y hy
    exact List.mem_map.2 ⟨x, idx_mem.2 (by omega), rfl⟩)
  rw [List.length_map, idx_len] at h3
  omega
end Go.Sg
end
section

/-
  The walk of shellgamelaw10.shown.
-/
namespace Go.Proofs.Ythchfdobdghdoaa
open Go Go.RowKit Go.Sg
section
variable {w0 w w' : World} {p q ib : Nat} {c : Lc} {first : Int} {S : Ls} {D : Nat → Prop} {X : World → Prop}
theorem LvR.lt (h : LvR w0 w p q ib c first S D X) : (∀ k, D k → k < w.heap.size) ∧ q < w.heap.size ∧ ib < w.heap.size := ⟨fun k hk => h.one.ltD k (.inl hk), h.one.ltD q (.inr (.inl rfl)), h.one.ltD ib (.inr (.inr rfl))⟩
theorem LvR.lv (h : LvR w0 w p q ib c first S D X) : LvX p q ib c first S.over S.ids w := h.one.x.2
theorem LvR.shape {D' : Nat → Prop} {X' : World → Prop} (h : OneX 67 w0 w p S.M (fun k => (D k ∨ (k = q ∨ k = ib)) ∨ D' k) (fun w => (X w ∧ LvX p q ib c first S.over S.ids w) ∧ X' w)) (ho : ∀ k, D k ∨ D' k → k ≠ q ∧ k ≠ ib) (hn : q ≠ ib) (hg : w0.heap.size ≤ q ∧ w0.heap.size ≤ ib) :
    LvR w0 w p q ib c first S (fun k => D k ∨ D' k) (fun w => X w ∧ X' w) :=
  ⟨h.less (fun k hk => by
    rcases hk with (hk | hk) | hk
    · exact .inl (.inl hk)
    · exact .inr hk
    · exact .inl (.inr hk)) (fun hx => ⟨⟨hx.1.1, hx.2⟩, hx.1.2⟩), ho, hn, hg⟩
/-- a new block lies beside a level -/
theorem LvR.box (hK : Keeps D X) (h : LvR w0 w p q ib c first S D X) (cs : Array Value) (t : TypeId) : LvR w0 (w.alloc (.cells cs t)) p q ib c first S (fun k => D k ∨ k = w.heap.size) (fun w' => X w' ∧ Blk w' w.heap.size cs t) := by
  have hl := h.lt
  refine LvR.shape (h.one.box (keeps_and hK (keeps_lv _ _ _ _ _ _ _)) cs t) (fun k hk => ?_) h.ne h.ge
  rcases hk with hk | hk
  · exact h.off k hk
  · omega
/-- .. and is filled -/
theorem LvR.fill (hK : Keeps D X) (h : LvR w0 w p q ib c first S D X) (cs c2 : Array Value) (t : TypeId) : LvR w0 ((w.alloc (.cells cs t)).setRow w.heap.size c2) p q ib c first S (fun k => D k ∨ k = w.heap.size) (fun w' => X w' ∧ Blk w' w.heap.size c2 t) := by
  have hl := h.lt
  refine LvR.shape (h.one.fillF (keeps_and hK (keeps_lv _ _ _ _ _ _ _)) cs c2 t) (fun k hk => ?_) h.ne h.ge
  rcases hk with hk | hk
  · exact h.off k hk
  · omega
theorem LvR.less {E : Nat → Prop} {Y : World → Prop} (h : LvR w0 w p q ib c first S D X) (hE : ∀ k, E k → D k) (hy : ∀ w, X w → Y w) : LvR w0 w p q ib c first S E Y :=
  ⟨h.one.less (fun k hk => hk.imp (hE k) id) (fun hx => ⟨hy _ hx.1, hx.2⟩), fun k hk => h.off k (hE k hk), h.ne, h.ge⟩
end
/-- the example's config -/
def c112 : Lc := (1, 1, 2)
theorem c112_right : lcRight c112 = true := by decide +kernel
theorem c112_ok : LcOk c112 := ⟨⟨by decide, by decide⟩, ⟨by decide, by decide⟩, ⟨by decide, by decide⟩⟩
theorem c112_new : Mm.newOk (zsL c112) = true := by decide +kernel
theorem c112_lev : newOk (Mm.fresh (zsL c112)) 1 c112 = true := by decide +kernel
/-- the example's level, access by access -/
def e1S : Ls := (mkL c112).acc 1 c112 1 7 0 (datL 1) 0 0
def e2S : Ls := e1S.acc 1 c112 0 7 0 zero8 0 0
def e3S : Ls := e2S.acc 1 c112 3 7 0 zero8 0 0
def e4S : Ls := e3S.acc 1 c112 0 7 0 zero8 0 0
theorem zero8_ok : zero8.length = 8 ∧ ∀ x ∈ zero8, Word x := ⟨rfl, fun x hx => by simp [zero8] at hx; rw [hx]; exact ⟨by decide, by decide⟩⟩
theorem datL_ok (n : Int) : (datL n).length = 8 ∧ ∀ x ∈ datL n, Word x := ⟨datL_len n, datL_word n⟩
theorem shown_plain : (mkL c112).tell 1 c112 1 7 0 0 0 = (zero8, false) ∧ e1S.tell 1 c112 0 7 0 0 0 = (datL 1, true) ∧ e2S.tell 1 c112 3 7 0 0 0 = (datL 1, true) ∧ e3S.tell 1 c112 0 7 0 0 0 = (zero8, false) ∧ e4S.over = false ∧ cntL e4S.ids = 1 ∧
    (LvOk c112 1 (mkL c112).M ∧ LvOk c112 1 e1S.M ∧ LvOk c112 1 e2S.M ∧ LvOk c112 1 e3S.M) ∧ (e1S.M.evs.length ≤ 300000 ∧ e2S.M.evs.length ≤ 600000 ∧ e3S.M.evs.length ≤ 900000) ∧ ((mkL c112).ids.length ≤ 100 ∧ e1S.ids.length ≤ 100 ∧ e2S.ids.length ≤ 100 ∧ e3S.ids.length ≤ 100) := by
  have h0 := ls_start c112_right
  have hz : (0 : Int) ≤ 0 ∧ (0 : Int) < c112.1 := ⟨by decide, by decide⟩
  have e0 : edL 1 0 (datL 1) (findB 7 []).1 (findB 7 []).2 = (datL 1, true) := rfl
  have m1 : mpN [] 7 0 (datL 1, true) = [(7, 0, datL 1)] := rfl
  have f1 : findB 7 [(7, 0, datL 1)] = (datL 1, true) := rfl
  obtain ⟨t1, i1, o1, d1, v1⟩ := ls_step (op := 1) (id := 7) (at' := 0) (fr := 0) (lf := 0) (d := datL 1) c112_right (by decide) h0 (by decide) (by decide) hz hz (datL_ok 1) (by decide) (fun b hb => by cases hb)
  rw [e0, m1] at i1 o1
  have h1 := i1 (o1 (by decide))
  have e1' : edL 0 0 zero8 (findB 7 [(7, 0, datL 1)]).1 (findB 7 [(7, 0, datL 1)]).2 = (datL 1, true) := rfl
  have m2 : mpN [(7, 0, datL 1)] 7 0 (datL 1, true) = [(7, 0, datL 1)] := rfl
  obtain ⟨t2, i2, o2, d2, v2⟩ := ls_step (op := 0) (id := 7) (at' := 0) (fr := 0) (lf := 0) (d := zero8) c112_right (by decide) h1 (by decide) (by decide) hz hz zero8_ok (by decide) (fun b hb _ => by rw [List.mem_singleton] at hb; rw [hb])
  rw [e1', m2] at i2 o2
  have h2 := i2 (o2 (by decide))
  have e2' : edL 3 0 zero8 (findB 7 [(7, 0, datL 1)]).1 (findB 7 [(7, 0, datL 1)]).2 = (datL 1, false) := rfl
  have m3 : mpN [(7, 0, datL 1)] 7 0 (datL 1, false) = [] := rfl
  obtain ⟨t3, i3, o3, d3, v3⟩ := ls_step (op := 3) (id := 7) (at' := 0) (fr := 0) (lf := 0) (d := zero8) c112_right (by decide) h2 (by decide) (by decide) hz hz zero8_ok (by decide) (fun b hb _ => by rw [List.mem_singleton] at hb; rw [hb])
  rw [e2', m3] at i3 o3
  have h3 := i3 (o3 (by decide))
  have e3' : edL 0 0 zero8 (findB 7 []).1 (findB 7 []).2 = (zero8, false) := rfl
  have m4 : mpN [] 7 0 (zero8, false) = [] := rfl
  obtain ⟨t4, i4, o4, d4, v4⟩ := ls_step (op := 0) (id := 7) (at' := 0) (fr := 0) (lf := 0) (d := zero8) c112_right (by decide) h3 (by decide) (by decide) hz hz zero8_ok (by decide) (fun b hb => by cases hb)
  rw [e3', m4] at o4
  have g1 : e1S.ids = [7] := d1
  have g2 : e2S.ids = [7] := d2.trans g1
  have g3 : e3S.ids = [7] := d3.trans g2
  have g4 : e4S.ids = [7] := d4.trans g3
  have w0 : (mkL c112).M.evs.length = 0 := rfl
  have w1 : e1S.M.evs.length ≤ (mkL c112).M.evs.length + 300000 := v1
  have w2 : e2S.M.evs.length ≤ e1S.M.evs.length + 300000 := v2
  have w3 : e3S.M.evs.length ≤ e2S.M.evs.length + 300000 := v3
  refine ⟨t1, t2, t3, t4, o4 (by decide), by rw [g4]; decide +kernel, ⟨h0.inv.ok, h1.inv.ok, h2.inv.ok, h3.inv.ok⟩, ⟨by omega, by omega, by omega⟩, ⟨by decide, by rw [g1]; decide, by rw [g2]; decide, by rw [g3]; decide⟩⟩
end Go.Proofs.Ythchfdobdghdoaa
end
section

/-
  The small configs of the laws are right, and levels can be made for them; an access keeps a level fit.
-/
namespace Go.Sg
open Go Go.RowKit Go.Proofs.Ythchfdobdghdoaa
structure CfgOk (c : Lc) : Prop where
  right : lcRight c = true
  ok : LcOk c
  new : Mm.newOk (zsL c) = true
  lev : newOk (Mm.fresh (zsL c)) 1 c = true
  b1 : 1 ≤ c.1 ∧ c.1 ≤ 8
  b2 : 1 ≤ c.2.1 ∧ c.2.1 ≤ 3
  b3 : 1 ≤ c.2.2 ∧ c.2.2 ≤ 8
def cfg96 : List Lc := (List.range 4).flatMap fun a : Nat => (List.range 3).flatMap fun b : Nat => (List.range 8).map fun d : Nat => ((2 : Int) ^ a, 1 + (b : Int), 1 + (d : Int))
theorem cfg96_ok : cfg96.all (fun c => lcRight c && (Mm.newOk (zsL c) && newOk (Mm.fresh (zsL c)) 1 c)) = true := by decide +kernel
theorem cfgL_in (n : Int) : ∃ a b d : Nat, a < 4 ∧ b < 3 ∧ d < 8 ∧ cfgL n = ((2 : Int) ^ a, 1 + (b : Int), 1 + (d : Int)) := by
  have h1 := pickD_bd (c := n) (n := 4) (by omega)
  have h2 := pickD_bd (c := n.tdiv 4) (n := 3) (by omega)
  have h3 := pickD_bd (c := n.tdiv 12) (n := 8) (by omega)
  refine ⟨(pickD n 4).toNat, (pickD (n.tdiv 4) 3).toNat, (pickD (n.tdiv 12) 8).toNat, by omega, by omega, by omega, ?_⟩
  unfold cfgL
  rw [Int.toNat_of_nonneg h2.1, Int.toNat_of_nonneg h3.1]
theorem cfg_ok (n : Int) : CfgOk (cfgL n) := by
  obtain ⟨a, b, d, ha, hb, hd, e⟩ := cfgL_in n
  have hm : cfgL n ∈ cfg96 := by
    rw [e]
    exact List.mem_flatMap.2 ⟨a, List.mem_range.2 ha, List.mem_flatMap.2 ⟨b, List.mem_range.2 hb, List.mem_map.2 ⟨d, List.mem_range.2 hd, rfl⟩⟩⟩
  have h := List.all_eq_true.1 cfg96_ok _ hm
  simp only [Bool.and_eq_true] at h
  have p : 1 ≤ (2 : Int) ^ a ∧ (2 : Int) ^ a ≤ 8 := by
    have ha' : a = 0 ∨ a = 1 ∨ a = 2 ∨ a = 3 := by omega
    rcases ha' with rfl | rfl | rfl | rfl <;> decide
  have q1 : (cfgL n).1 = (2 : Int) ^ a := by rw [e]
  have q2 : (cfgL n).2.1 = 1 + (b : Int) := by rw [e]
  have q3 : (cfgL n).2.2 = 1 + (d : Int) := by rw [e]
  refine ⟨h.1, ⟨⟨?_, ?_⟩, ⟨?_, ?_⟩, ⟨?_, ?_⟩⟩, h.2.1, h.2.2, ?_, ?_, ?_⟩ <;> omega
/-- a level that an access can be made of, k having been made -/
structure LsFit (c : Lc) (first : Int) (S : Ls) (k : Nat) : Prop where
  ok : LvOk c first S.M
  ids : S.ids.length ≤ k
  evs : S.M.evs.length ≤ k * 300000
theorem accT_ok {c : Lc} {first : Int} {M : Mm} {op id at' fr lf : Int} {d : List Int} (hr : lcRight c = true) (hok : LvOk c first M) (hfr : hasB c.1 fr = true) (hlf : hasB c.1 lf = true) (hid : 0 ≤ id ∧ id ≤ 2147483648) (hd : d.length = 8 ∧ ∀ x ∈ d, Word x) (hat : op = 2 → 0 ≤ at' ∧ at' ≤ 6) :
    TabOk c (accT M first c fr lf id op at' d) := by
  have hcell : ∀ x ∈ accC M first c fr, CellOk c.1 x := fun x hx => by
    obtain ⟨s, hs, rfl⟩ := List.mem_map.1 hx
    exact (hok.sp fr hfr s hs).2
  have hold : (accO M first c fr id).1.length = 8 ∧ ∀ x ∈ (accO M first c fr id).1, Word x := oldL_ok id (accC M first c fr) (fun x hx => ⟨(hcell x hx).1, (hcell x hx).2.1⟩)
  have hed := edL_ok (t := (accO M first c fr id).2) hd hold hat
  have hlfb := hasB_lt hlf
  unfold accT
  generalize edL op at' d (accO M first c fr id).1 (accO M first c fr id).2 = e at *
  have hnow : CellOk c.1 (nowC id lf e) := by
    unfold nowC
    split
    · exact blkC_ok hlfb.2.2 hid hlf ⟨hlfb.1, hlfb.2.1⟩ hed.1 hed.2
    · exact zeros_ok _
  exact ⟨fun i _ => gatT_ok hcell hnow i⟩
theorem fit_step {c : Lc} {first : Int} {S : Ls} {k : Nat} {op id at' fr lf : Int} {d : List Int} (hr : lcRight c = true) (hf : 0 ≤ first) (h : LsFit c first S k) (hid : 0 ≤ id) (hd : d.length = 8 ∧ ∀ x ∈ d, Word x) : LsFit c first (S.acc first c op id at' d fr lf) (k + 1) := by
  unfold Ls.acc
  by_cases hb : badA c op id at' fr lf = true
  · rw [if_pos hb]
    exact ⟨h.ok, Nat.le_trans h.ids (Nat.le_succ k), Nat.le_trans h.evs (Nat.mul_le_mul_right _ (Nat.le_succ k))⟩
  · rw [if_neg hb]
    obtain ⟨q1, q2, q3, q4, q5⟩ := badA_no hr (by simpa using hb)
    have hT := accT_ok (op := op) (at' := at') (d := d) hr h.ok q3 q4 ⟨hid, q2⟩ hd q5
    refine ⟨acc_lvOk hr q3 hf hT h.ok, ?_, ?_⟩
    · have := h.ids
      show (if op = 1 ∨ op = 2 then S.ids ++ [id] else S.ids).length ≤ k + 1
      split
      · rw [List.length_append, List.length_singleton]; omega
      · omega
    · show (accM S.M first c fr _).evs.length ≤ _
      unfold accM
      rw [bakM_evs]
      have hbd := lcTab_bd c
      have hln := spL_len (first := first) hr q3
      have h3 := h.evs
      have h4 := dealM_evs (gatM S.M (first + 2) (spL first c fr) (accT S.M first c fr lf id op at' d) (lcTab c).toNat) (first + 2) c fr (accT S.M first c fr lf id op at' d)
      have h5 := gatM_evs (M := S.M) (r := first + 2) (sp := spL first c fr) (T := accT S.M first c fr lf id op at' d) (lcTab c).toNat
      omega
theorem fit_start {c : Lc} (hr : lcRight c = true) : LsFit c 1 (mkL c) 0 := ⟨(ls_start hr).inv.ok, Nat.le_refl _, Nat.le_refl _⟩
theorem acc_over {c : Lc} {first : Int} {S : Ls} {op id at' fr lf : Int} {d : List Int} (h : S.over = true) : (S.acc first c op id at' d fr lf).over = true := by
  unfold Ls.acc
  split
  · exact h
  · show (S.over || _) = true
    rw [h]; rfl
theorem find_mpN {mp : List Bk} {id lf : Int} {e : List Int × Bool} (hn : (mp.map (·.1)).Nodup) (x : Int) : findB x (mpN mp id lf e) = if x = id then (if e.2 = true then (e.1, true) else (zero8, false)) else findB x mp := by
  have hn2 := mpN_ids (lf := lf) (id := id) (e := e) hn
  by_cases hx : x = id
  · subst hx
    rw [if_pos rfl]
    by_cases he : e.2 = true
    · rw [if_pos he]
      refine (find_of hn2 (b := (x, lf, e.1)) ?_ rfl).1
      unfold mpN
      rw [he]
      exact List.mem_append_right _ (by simp)
    · rw [if_neg he]
      refine find_not fun b hb h => ?_
      rcases mpN_mem hb with h1 | h1
      · exact h1.2 h
      · exact he h1.2
  · rw [if_neg hx]
    by_cases hex : ∃ b ∈ mp, b.1 = x
    · obtain ⟨b, hb, h1⟩ := hex
      rw [(find_of hn hb h1).1]
      refine (find_of hn2 (b := b) ?_ h1).1
      unfold mpN
      exact List.mem_append_left _ (List.mem_filter.2 ⟨hb, by simp [h1, hx]⟩)
    · have hno : ∀ b ∈ mp, b.1 ≠ x := fun b hb h => hex ⟨b, hb, h⟩
      rw [find_not hno]
      refine find_not fun b hb h => ?_
      rcases mpN_mem hb with h1 | h1
      · exact hno b h1.1 h
      · rw [h1.1] at h
        exact hx h.symm
end Go.Sg
namespace Go.Proofs.Ythchfdobdghdoaa
open Go Go.RowKit Go.Sg
variable {w0 w w' : World} {p : Nat} {M : Mm} {D : Nat → Prop} {X : World → Prop}
/-- an access of a fit level -/
theorem fitAccess (hK : Keeps D X) {c : Lc} (hC : CfgOk c) (first : Int) (hf : 0 ≤ first ∧ first ≤ 1000) (op id at' fr lf : Int) (d : List Int) (hd : d.length = 8 ∧ ∀ x ∈ d, Word x) (hid : Word id) (q ib : Nat) (S : Ls) (k : Nat) (hk : k ≤ 1000) (hS : LsFit c first S k) (h : LvR w0 w p q ib c first S D X) :
    Calls Try.prog 10 #[.pointer (some ⟨q, 0, none⟩), .int .i64 op, .int .u64 id, .int .i64 at', .agg (cw d), .int .i64 fr, .int .i64 lf] w fun e w' =>
      e = .returned (.tuple #[.agg (cw (S.tell first c op id at' fr lf).1), .bool (S.tell first c op id at' fr lf).2]) ∧ LvR w0 w' p q ib c first (S.acc first c op id at' d fr lf) D X := by
  have h1 := hS.ids
  have h2 := hS.evs
  exact lAccess_any hK c hC.ok hC.right first ⟨hf.1, by omega⟩ op id at' fr lf d hd.1 hd.2 hid q ib S (by omega) hS.ok (by omega) h
end Go.Proofs.Ythchfdobdghdoaa
end
section

/-
  LevelKeeps, in plain Lean: what is known of each block.
-/
namespace Go.Sg
open Go Go.RowKit Go.Proofs.Ythchfdobdghdoaa
/-- what was put last, or nothing -/
def knowB (b : Bool) (u : List Int) : List Int × Bool := if b = true then (u, true) else (zero8, false)
structure KeepI (c : Lc) (S : Ls) (a : List Int) (b : List Bool) (u : List (List Int)) (k : Nat) : Prop where
  fit : LsFit c 1 S k
  inv : ∃ mp, LsInv c 1 S mp ∧ (∀ x ∈ mp, (0 ≤ x.1 ∧ x.1 < 8) ∧ x.2.1 = a.getD x.1.toNat 0) ∧ ∀ i : Nat, i < 8 → findB (i : Int) mp = knowB (b.getD i false) (u.getD i zero8)
  la : a.length = 8
  lb : b.length = 8
  lu : u.length = 8
  wu : ∀ x ∈ u, x.length = 8 ∧ ∀ y ∈ x, Word y
  bd : ∀ x ∈ a, 0 ≤ x ∧ x < c.1
theorem keep_start {c : Lc} (hC : CfgOk c) : KeepI c (mkL c) (List.replicate 8 0) (List.replicate 8 false) (List.replicate 8 zero8) 0 := by
  refine ⟨fit_start hC.right, ⟨[], ls_start hC.right, fun b hb => absurd hb (List.not_mem_nil), fun i hi => ?_⟩, rfl, rfl, rfl, fun x hx => by rw [(List.mem_replicate.1 hx).2]; exact zero8_ok, fun x hx => by rw [(List.mem_replicate.1 hx).2]; have := hC.b1; omega⟩
  have : (List.replicate 8 false).getD i false = false := by
    rw [List.getD_eq_getElem?_getD, List.getElem?_replicate]
    split <;> rfl
  rw [this]
  rfl
/-- what is kept behind an access -/
def keepU (op : Int) (i k : Nat) (e : List Int) (b : List Bool) (u : List (List Int)) : List (List Int) :=
  if op = 1 then u.set i e else if op = 2 then u.set i (((knowB (b.getD i false) (u.getD i zero8)).1.set k (e.getD 0 0)).set (k + 1) (e.getD 1 0)) else u
def keepB (op : Int) (i : Nat) (b : List Bool) : List Bool := b.set i (decide (op = 1) || (decide (op = 2) || (decide (op = 0) && b.getD i false)))
theorem partL_set {o d : List Int} {k : Nat} (ho : o.length = 8) (hd : d.length = 8) (hk : k ≤ 6) : partL o k d = (o.set k (d.getD 0 0)).set (k + 1) (d.getD 1 0) := by
  match d, hd with
  | [d0, d1, d2, d3, d4, d5, d6, d7], _ =>
    unfold partL
    apply List.ext_getElem?
    intro j
    rw [List.getElem?_set, List.getElem?_set, List.length_set]
    have e2 : ([d0, d1, d2, d3, d4, d5, d6, d7] : List Int).take 2 = [d0, d1] := rfl
    rw [e2]
    have hl : (o.take k).length = k := by rw [List.length_take]; omega
    by_cases h1 : k + 1 = j
    · subst h1
      rw [if_pos rfl, if_pos (by omega), List.getElem?_append_left (by rw [List.length_append, hl]; simp), List.getElem?_append_right (by omega), hl, Nat.add_sub_cancel_left]
      rfl
    · rw [if_neg h1]
      by_cases h2 : k = j
      · subst h2
        rw [if_pos rfl, if_pos (by omega), List.getElem?_append_left (by rw [List.length_append, hl]; simp), List.getElem?_append_right (by omega), hl, Nat.sub_self]
        rfl
      · rw [if_neg h2]
        by_cases h3 : j < k
        · rw [List.getElem?_append_left (by rw [List.length_append, hl]; omega), List.getElem?_append_left (by omega), List.getElem?_take, if_pos h3]
        · rw [List.getElem?_append_right (by rw [List.length_append, hl]; simp; omega), List.length_append, hl, List.getElem?_drop]
          congr 1
          simp
          omega
theorem knowB_ok {b : Bool} {x : List Int} (h : x.length = 8 ∧ ∀ y ∈ x, Word y) : (knowB b x).1.length = 8 ∧ ∀ y ∈ (knowB b x).1, Word y := by
  unfold knowB
  split
  · exact h
  · exact zero8_ok
theorem getU_ok {u : List (List Int)} (h : ∀ x ∈ u, x.length = 8 ∧ ∀ y ∈ x, Word y) (i : Nat) : (u.getD i zero8).length = 8 ∧ ∀ y ∈ u.getD i zero8, Word y := by
  rw [List.getD_eq_getElem?_getD]
  cases hx : u[i]? with
  | none => exact zero8_ok
  | some x => exact h x (List.mem_of_getElem? hx)
theorem getD_setU {α : Type} {l : List α} {i j : Nat} {x d : α} (hi : i < l.length) : (l.set i x).getD j d = if j = i then x else l.getD j d := by
  rw [List.getD_eq_getElem?_getD, List.getElem?_set]
  by_cases h : j = i
  · subst h; rw [if_pos rfl, if_pos hi, if_pos rfl]; rfl
  · rw [if_neg (fun e => h e.symm), if_neg h, List.getD_eq_getElem?_getD]
theorem keep_tell {c : Lc} (hC : CfgOk c) {S : Ls} {a : List Int} {b : List Bool} {u : List (List Int)} {k : Nat} (h : KeepI c S a b u k) {op te : Int} {i at' : Nat} {d : List Int} (hi : i < 8) (hop : 0 ≤ op ∧ op < 4) (hto : 0 ≤ te ∧ te < c.1) (hd : d.length = 8 ∧ ∀ x ∈ d, Word x) (hat : at' < 7) :
    S.tell 1 c op (i : Int) (at' : Int) (a.getD i 0) te = knowB (b.getD i false) (u.getD i zero8) ∧
    ((S.acc 1 c op (i : Int) (at' : Int) d (a.getD i 0) te).over = false → KeepI c (S.acc 1 c op (i : Int) (at' : Int) d (a.getD i 0) te) (a.set i te) (keepB op i b) (keepU op i at' d b u) (k + 1)) := by
  obtain ⟨hf, ⟨mp, hI, hm, hkn⟩, hla, hlb, hlu, hwu, hbd⟩ := h
  have e : a.getD i 0 = a[i] := by rw [List.getD_eq_getElem?_getD, List.getElem?_eq_getElem (by omega)]; rfl
  have hfr := hbd a[i] (List.getElem_mem (by omega))
  rw [← e] at hfr
  obtain ⟨s1, s2, s3, s4, s5⟩ := ls_step (op := op) (id := (i : Int)) (at' := (at' : Int)) (fr := a.getD i 0) (lf := te) (d := d) hC.right (by decide) hI ⟨hop.1, by omega⟩ (by omega) hfr hto hd (fun _ => ⟨by omega, by omega⟩) (fun x hx h => by rw [(hm x hx).2, h]; rfl)
  have hki := hkn i hi
  have hko := knowB_ok (b := b.getD i false) (getU_ok hwu i)
  refine ⟨s1.trans hki, fun hov => ?_⟩
  have hnew := s2 hov
  rw [hki] at hnew
  generalize hee : edL op (at' : Int) d (knowB (b.getD i false) (u.getD i zero8)).1 (knowB (b.getD i false) (u.getD i zero8)).2 = e2 at *
  have hkU : ∀ y ∈ keepU op i at' d b u, y.length = 8 ∧ ∀ z ∈ y, Word z := by
    intro y hy
    unfold keepU at hy
    split at hy
    · rcases List.mem_or_eq_of_mem_set hy with h1 | h1
      · exact hwu y h1
      · rw [h1]; exact hd
    · split at hy
      · rcases List.mem_or_eq_of_mem_set hy with h1 | h1
        · exact hwu y h1
        · rw [h1]
          refine ⟨by rw [List.length_set, List.length_set]; exact hko.1, fun z hz => ?_⟩
          have hdw : ∀ j, Word (d.getD j 0) := fun j => by
            rw [List.getD_eq_getElem?_getD]
            cases hx : d[j]? with
            | none => exact ⟨by decide, by decide⟩
            | some x => exact hd.2 x (List.mem_of_getElem? hx)
          rcases List.mem_or_eq_of_mem_set hz with h2 | h2
          · rcases List.mem_or_eq_of_mem_set h2 with h3 | h3
            · exact hko.2 z h3
            · rw [h3]; exact hdw 0
          · rw [h2]; exact hdw 1
      · exact hwu y hy
  have hlU : (keepU op i at' d b u).length = 8 := by
    unfold keepU
    split
    · rw [List.length_set]; exact hlu
    · split
      · rw [List.length_set]; exact hlu
      · exact hlu
  have hnow : (if e2.2 = true then (e2.1, true) else (zero8, false)) = knowB ((keepB op i b).getD i false) ((keepU op i at' d b u).getD i zero8) := by
    have hB : (keepB op i b).getD i false = (decide (op = 1) || (decide (op = 2) || (decide (op = 0) && b.getD i false))) := by
      unfold keepB
      rw [getD_setU (by omega), if_pos rfl]
    rw [hB, ← hee]
    unfold edL keepU
    by_cases h1 : op = 1
    · rw [if_pos h1, if_pos h1, getD_setU (by omega), if_pos rfl, decide_eq_true h1]
      simp [knowB]
    · rw [if_neg h1, if_neg h1, decide_eq_false h1]
      by_cases h2 : op = 2
      · rw [if_pos h2, if_pos h2, getD_setU (by omega), if_pos rfl, decide_eq_true h2, Int.toNat_natCast, partL_set hko.1 hd.1 (by omega)]
        simp [knowB]
      · rw [if_neg h2, if_neg h2, decide_eq_false h2]
        simp only [Bool.false_or]
        cases hb : b.getD i false with
        | false =>
          simp [knowB]
        | true =>
          by_cases h0 : op = 0
          · simp [knowB, h0]
          · simp [knowB, h0]
  have hids := hI.inv.ids
  refine ⟨fit_step hC.right (by decide) hf (by omega) hd, ⟨_, hnew, fun x hx => ?_, fun j hj => ?_⟩, by rw [List.length_set]; exact hla, by unfold keepB; rw [List.length_set]; exact hlb, hlU, hkU, fun x hx => ?_⟩
  · rcases mpN_mem hx with ⟨h1, h2⟩ | ⟨h1, _⟩
    · have := hm x h1
      refine ⟨this.1, ?_⟩
      rw [this.2, getD_setU (by omega), if_neg (by omega)]
    · rw [h1]
      refine ⟨by simp only; omega, ?_⟩
      simp only [Int.toNat_natCast]
      rw [getD_setU (by omega), if_pos rfl]
  · rw [find_mpN hids]
    by_cases hj2 : j = i
    · subst hj2
      rw [if_pos rfl, hnow]
    · rw [if_neg (by omega), hkn j hj]
      have e1 : (keepB op i b).getD j false = b.getD j false := by unfold keepB; rw [getD_setU (by omega), if_neg hj2]
      have e3 : (keepU op i at' d b u).getD j zero8 = u.getD j zero8 := by
        unfold keepU
        split
        · rw [getD_setU (by omega), if_neg hj2]
        · split
          · rw [getD_setU (by omega), if_neg hj2]
          · rfl
      rw [e1, e3]
  · rcases List.mem_or_eq_of_mem_set hx with h1 | h1
    · exact hbd x h1
    · rw [h1]; exact hto
end Go.Sg
end
section

/-
  LevelMoves and LevelDrops, in plain Lean: blocks that are put, changed, looked for and dropped.
-/
namespace Go.Sg
open Go Go.RowKit Go.Proofs.Ythchfdobdghdoaa
/-- a block that is not there -/
theorem ls_none {c : Lc} (hC : CfgOk c) {S : Ls} {mp : List Bk} {op id at' fr lf : Int} {d : List Int} (hI : LsInv c 1 S mp) (hop : 0 ≤ op ∧ op ≤ 3) (hid : 0 ≤ id ∧ id ≤ 2147483648) (hfr : 0 ≤ fr ∧ fr < c.1) (hlf : 0 ≤ lf ∧ lf < c.1)
    (hd : d.length = 8 ∧ ∀ x ∈ d, Word x) (hat : op = 2 → 0 ≤ at' ∧ at' ≤ 6) (hn : ∀ b ∈ mp, b.1 ≠ id) {mp' : List Bk} (hm : mp' = mp ++ (if (edL op at' d zero8 false).2 then [(id, lf, (edL op at' d zero8 false).1)] else [])) :
    S.tell 1 c op id at' fr lf = (zero8, false) ∧ ((S.acc 1 c op id at' d fr lf).over = false → LsInv c 1 (S.acc 1 c op id at' d fr lf) mp') ∧ ((mp'.length : Int) ≤ c.2.2 → (S.acc 1 c op id at' d fr lf).over = false) := by
  obtain ⟨s1, s2, s3, _, _⟩ := ls_step (d := d) hC.right (by decide) hI hop hid hfr hlf hd hat (fun b hb h => absurd h (hn b hb))
  rw [find_not hn] at s1 s2 s3
  have e : mpN mp id lf (edL op at' d zero8 false) = mp' := by
    rw [hm]
    unfold mpN
    rw [List.filter_eq_self.2 fun b hb => by simpa using hn b hb]
  rw [e] at s2 s3
  exact ⟨s1, s2, s3⟩
/-- a block that is there -/
theorem ls_there {c : Lc} (hC : CfgOk c) {S : Ls} {mp : List Bk} {op id at' fr lf : Int} {d o : List Int} (hI : LsInv c 1 S mp) (hop : 0 ≤ op ∧ op ≤ 3) (hid : 0 ≤ id ∧ id ≤ 2147483648) (hfr : 0 ≤ fr ∧ fr < c.1) (hlf : 0 ≤ lf ∧ lf < c.1)
    (hd : d.length = 8 ∧ ∀ x ∈ d, Word x) (hat : op = 2 → 0 ≤ at' ∧ at' ≤ 6) (hb : (id, fr, o) ∈ mp) {mp' : List Bk} (hm : mp' = mp.filter (fun b => !(b.1 == id)) ++ (if (edL op at' d o true).2 then [(id, lf, (edL op at' d o true).1)] else [])) :
    S.tell 1 c op id at' fr lf = (o, true) ∧ ((S.acc 1 c op id at' d fr lf).over = false → LsInv c 1 (S.acc 1 c op id at' d fr lf) mp') ∧ ((mp'.length : Int) ≤ c.2.2 → (S.acc 1 c op id at' d fr lf).over = false) := by
  have hu := find_of hI.inv.ids hb rfl
  obtain ⟨s1, s2, s3, _, _⟩ := ls_step (d := d) hC.right (by decide) hI hop hid hfr hlf hd hat (fun b hb' h => by rw [hu.2 b hb' h])
  rw [hu.1] at s1 s2 s3
  have e : mpN mp id lf (edL op at' d o true) = mp' := hm.symm
  rw [e] at s2 s3
  exact ⟨s1, s2, s3⟩
/-- LevelMoves: blocks whose leaf is the first one -/
structure MoveI (c : Lc) (S : Ls) (k : Nat) : Prop where
  fit : LsFit c 1 S k
  inv : S.over = true ∨ ∃ mp, LsInv c 1 S mp ∧ ∀ b ∈ mp, (0 ≤ b.1 ∧ b.1 < 6) ∧ b.2.1 = 0
theorem move_start {c : Lc} (hC : CfgOk c) : MoveI c (mkL c) 0 := ⟨fit_start hC.right, .inr ⟨[], ls_start hC.right, fun b hb => absurd hb (List.not_mem_nil)⟩⟩
theorem move_step {c : Lc} (hC : CfgOk c) {S : Ls} {k : Nat} (h : MoveI c S k) {op id at' : Int} {d : List Int} (hid : 0 ≤ id ∧ id < 6) (hop : 0 ≤ op ∧ op < 4) (hd : d.length = 8 ∧ ∀ x ∈ d, Word x) (hat : 0 ≤ at' ∧ at' < 7) : MoveI c (S.acc 1 c op id at' d 0 0) (k + 1) := by
  have hz : (0 : Int) ≤ 0 ∧ (0 : Int) < c.1 := ⟨by decide, by have := hC.b1; omega⟩
  refine ⟨fit_step hC.right (by decide) h.fit hid.1 hd, ?_⟩
  rcases h.inv with ho | ⟨mp, hI, hm⟩
  · exact .inl (acc_over ho)
  · obtain ⟨s1, s2, _⟩ := ls_step (op := op) (id := id) (at' := at') (fr := 0) (lf := 0) (d := d) hC.right (by decide) hI ⟨hop.1, by omega⟩ ⟨hid.1, by omega⟩ hz hz hd (fun _ => ⟨hat.1, by omega⟩) (fun b hb _ => (hm b hb).2)
    cases hov : (S.acc 1 c op id at' d 0 0).over with
    | true => exact .inl rfl
    | false =>
      refine .inr ⟨_, s2 hov, fun b hb => ?_⟩
      rcases mpN_mem hb with ⟨h1, _⟩ | ⟨h1, _⟩
      · exact hm b h1
      · rw [h1]; exact ⟨hid, rfl⟩
theorem over_mono {c : Lc} {S : Ls} {op id at' fr lf : Int} {d : List Int} (h : (S.acc 1 c op id at' d fr lf).over = false) : S.over = false := by
  cases ho : S.over with
  | false => rfl
  | true => rw [acc_over ho] at h; cases h
theorem move_end {c : Lc} (hC : CfgOk c) {S S1 S2 S3 S4 : Ls} {k : Nat} (h : MoveI c S k) {te : Int} {at' : Nat} {x y : List Int} (hto : 0 ≤ te ∧ te < c.1) (hat : at' < 7) (hx : x.length = 8 ∧ ∀ z ∈ x, Word z) (hy : y.length = 8 ∧ ∀ z ∈ y, Word z)
    (e1 : S1 = S.acc 1 c 3 7 0 zero8 0 0) (e2 : S2 = S1.acc 1 c 1 7 0 x 0 te) (e3 : S3 = S2.acc 1 c 2 7 at' y te 0) (e4 : S4 = S3.acc 1 c 0 7 0 zero8 0 te) (ho : S4.over = false) :
    S2.tell 1 c 2 7 at' te 0 = (x, true) ∧ S3.tell 1 c 0 7 0 0 te = (partL x at' y, true) ∧ S4.tell 1 c 0 8 0 te te = (zero8, false) := by
  have hz : (0 : Int) ≤ 0 ∧ (0 : Int) < c.1 := ⟨by decide, by have := hC.b1; omega⟩
  rw [e4] at ho
  have o3 := over_mono ho
  rw [e3] at o3
  have o2 := over_mono o3
  rw [e2] at o2
  have o1 := over_mono o2
  rw [e1] at o1
  have o0 := over_mono o1
  rcases h.inv with hov | ⟨mp, hI, hm⟩
  · rw [o0] at hov; cases hov
  have n7 : ∀ b ∈ mp, b.1 ≠ 7 := fun b hb h => by have := (hm b hb).1; omega
  have n8 : ∀ b ∈ mp, b.1 ≠ 8 := fun b hb h => by have := (hm b hb).1; omega
  have hf7 : mp.filter (fun b => !(b.1 == 7)) = mp := List.filter_eq_self.2 fun b hb => by simpa using n7 b hb
  have hl : (partL x at' y).length = 8 := partL_len hx.1 hy.1 (by omega)
  obtain ⟨_, i1, _⟩ := ls_none (op := 3) (id := 7) (at' := 0) (fr := 0) (lf := 0) (d := zero8) hC hI (by decide) (by decide) hz hz zero8_ok (by decide) n7 (mp' := mp) (by simp [edL])
  have I1 := i1 o1
  rw [← e1] at I1
  obtain ⟨_, i2, _⟩ := ls_none (op := 1) (id := 7) (at' := 0) (fr := 0) (lf := te) (d := x) hC I1 (by decide) (by decide) hz hto hx (by decide) n7 (mp' := mp ++ [(7, te, x)]) (by simp [edL])
  have I2 := i2 o2
  rw [← e2] at I2
  obtain ⟨t3, i3, _⟩ := ls_there (op := 2) (id := 7) (at' := (at' : Int)) (fr := te) (lf := 0) (d := y) (o := x) hC I2 (by decide) (by decide) hto hz hy (fun _ => ⟨by omega, by omega⟩) (by simp) (mp' := mp ++ [(7, 0, partL x at' y)]) (by rw [List.filter_append, hf7]; simp [edL])
  have I3 := i3 o3
  rw [← e3] at I3
  obtain ⟨t4, i4, _⟩ := ls_there (op := 0) (id := 7) (at' := 0) (fr := 0) (lf := te) (d := zero8) (o := partL x at' y) hC I3 (by decide) (by decide) hz hto zero8_ok (by decide) (by simp) (mp' := mp ++ [(7, te, partL x at' y)]) (by rw [List.filter_append, hf7]; simp [edL])
  have I4 := i4 ho
  rw [← e4] at I4
  obtain ⟨t5, _, _⟩ := ls_none (op := 0) (id := 8) (at' := 0) (fr := te) (lf := te) (d := zero8) hC I4 (by decide) (by decide) hto hto zero8_ok (by decide) (fun b hb => by
    rcases List.mem_append.1 hb with h1 | h1
    · exact n8 b h1
    · rw [List.mem_singleton] at h1; rw [h1]; exact (by decide : (7 : Int) ≠ 8)) rfl
  exact ⟨t3, t4, t5⟩
/-- LevelDrops: the blocks of a turn -/
def bkT (t : Nat) (a : List Int) (j : Nat) : Bk := (100 * (t : Int) + j, a.getD j 0, datL j)
structure DropI (c : Lc) (S : Ls) (mp : List Bk) (k : Nat) : Prop where
  fit : LsFit c 1 S k
  inv : LsInv c 1 S mp
theorem drop_start {c : Lc} (hC : CfgOk c) : DropI c (mkL c) [] 0 := ⟨fit_start hC.right, ls_start hC.right⟩
theorem drop_put {c : Lc} (hC : CfgOk c) {S : Ls} {t j k : Nat} {a : List Int} (ht : t < 3) (hj : (j : Int) < c.2.2) (h : DropI c S ((List.range j).map (bkT t a)) k) (hto : 0 ≤ a.getD j 0 ∧ a.getD j 0 < c.1) :
    S.tell 1 c 1 (100 * (t : Int) + j) 0 0 (a.getD j 0) = (zero8, false) ∧ (S.acc 1 c 1 (100 * (t : Int) + j) 0 (datL j) 0 (a.getD j 0)).over = false ∧ DropI c (S.acc 1 c 1 (100 * (t : Int) + j) 0 (datL j) 0 (a.getD j 0)) ((List.range (j + 1)).map (bkT t a)) (k + 1) := by
  have hz : (0 : Int) ≤ 0 ∧ (0 : Int) < c.1 := ⟨by decide, by have := hC.b1; omega⟩
  have hb3 := hC.b3
  obtain ⟨t1, i1, l1⟩ := ls_none (op := 1) (id := 100 * (t : Int) + j) (at' := 0) (fr := 0) (lf := a.getD j 0) (d := datL j) hC h.inv (by decide) (by omega) hz hto (datL_ok j) (by decide) (fun b hb e => by
    obtain ⟨i, hi, rfl⟩ := List.mem_map.1 hb
    have := List.mem_range.1 hi
    simp only [bkT] at e
    omega) (mp' := (List.range (j + 1)).map (bkT t a)) (by rw [List.range_succ, List.map_append]; simp [edL, bkT])
  have o1 := l1 (by rw [List.length_map, List.length_range]; omega)
  exact ⟨t1, o1, fit_step hC.right (by decide) h.fit (by omega) (datL_ok j), i1 o1⟩
theorem drop_drop {c : Lc} (hC : CfgOk c) {S S1 : Ls} {t j n k : Nat} {a : List Int} (ht : t < 3) (hj : j < n) (hn : (n : Int) = c.2.2) (h : DropI c S (((List.range n).drop j).map (bkT t a)) k) (hto : 0 ≤ a.getD j 0 ∧ a.getD j 0 < c.1) (e1 : S1 = S.acc 1 c 3 (100 * (t : Int) + j) 0 zero8 (a.getD j 0) 0) :
    S.tell 1 c 3 (100 * (t : Int) + j) 0 (a.getD j 0) 0 = (datL j, true) ∧ LsFit c 1 S1 (k + 1) ∧ S1.tell 1 c 0 (100 * (t : Int) + j) 0 (a.getD j 0) 0 = (zero8, false) ∧ (S1.acc 1 c 0 (100 * (t : Int) + j) 0 zero8 (a.getD j 0) 0).over = false ∧ DropI c (S1.acc 1 c 0 (100 * (t : Int) + j) 0 zero8 (a.getD j 0) 0) (((List.range n).drop (j + 1)).map (bkT t a)) (k + 2) := by
  have hz : (0 : Int) ≤ 0 ∧ (0 : Int) < c.1 := ⟨by decide, by have := hC.b1; omega⟩
  have hb3 := hC.b3
  have hsplit : (List.range n).drop j = j :: (List.range n).drop (j + 1) := by
    rw [List.drop_eq_getElem_cons (by rw [List.length_range]; exact hj), List.getElem_range]
  have hrest : ∀ b ∈ ((List.range n).drop (j + 1)).map (bkT t a), b.1 ≠ 100 * (t : Int) + j := fun b hb e => by
    obtain ⟨i, hi, rfl⟩ := List.mem_map.1 hb
    obtain ⟨m, hm, rfl⟩ := List.getElem_of_mem hi
    rw [List.getElem_drop, List.getElem_range] at e
    simp only [bkT] at e
    omega
  have hfit1 : LsFit c 1 S1 (k + 1) := by rw [e1]; exact fit_step hC.right (by decide) h.fit (by omega) zero8_ok
  obtain ⟨t1, i1, l1⟩ := ls_there (op := 3) (id := 100 * (t : Int) + j) (at' := 0) (fr := a.getD j 0) (lf := 0) (d := zero8) (o := datL j) hC h.inv (by decide) (by omega) hto hz zero8_ok (by decide) (by rw [hsplit]; exact List.mem_map.2 ⟨j, List.mem_cons_self, rfl⟩) (mp' := ((List.range n).drop (j + 1)).map (bkT t a)) (by
    rw [hsplit, List.map_cons, List.filter_cons]
    rw [List.filter_eq_self.2 fun b hb => by simpa using hrest b hb]
    simp [edL, bkT])
  have hlen : ((((List.range n).drop (j + 1)).map (bkT t a)).length : Int) ≤ c.2.2 := by rw [List.length_map, List.length_drop, List.length_range]; omega
  have I1 := i1 (l1 hlen)
  rw [← e1] at I1
  obtain ⟨t2, i2, l2⟩ := ls_none (op := 0) (id := 100 * (t : Int) + j) (at' := 0) (fr := a.getD j 0) (lf := 0) (d := zero8) hC I1 (by decide) (by omega) hto hz zero8_ok (by decide) hrest (mp' := ((List.range n).drop (j + 1)).map (bkT t a)) (by simp [edL])
  have o2 := l2 hlen
  exact ⟨t1, hfit1, t2, o2, fit_step hC.right (by decide) hfit1 (by omega) zero8_ok, i2 o2⟩
end Go.Sg
end
section

/-
  Blocks beside a level that are written to; steps' cells; words that are masked.
-/
namespace Go.Sg
open Go Go.RowKit
/-- A slice of steps: where each one lies. -/
theorem sxV_at {w : World} {v : Value} {l : List Sx} (h : SlK sxV w v l) : ∃ a cap, v = .slice a l.length cap ∧ l.length ≤ maxLen ∧ ∀ k (hk : k < l.length), ∃ b off, a = some ⟨b, off, none⟩ ∧ b < w.heap.size ∧ ∀ w', Below w.heap.size w w' → w'.cell? ⟨b, off + k * 6, none⟩ = some (.int .i64 l[k].1) ∧ w'.cell? ⟨b, off + k * 6 + 1, none⟩ = some (.int .u64 l[k].2.1) ∧ w'.cell? ⟨b, off + k * 6 + 2, none⟩ = some (.int .i64 l[k].2.2.1) ∧ w'.cell? ⟨b, off + k * 6 + 3, none⟩ = some (.int .u64 l[k].2.2.2.1) ∧ w'.cell? ⟨b, off + k * 6 + 4, none⟩ = some (.int .i64 l[k].2.2.2.2.1) ∧ w'.cell? ⟨b, off + k * 6 + 5, none⟩ = some (.int .i64 l[k].2.2.2.2.2) := by
  obtain ⟨a, cap, rfl, h1, h2, h3⟩ := h
  refine ⟨a, cap, rfl, by omega, fun k hk => ?_⟩
  obtain ⟨b, off, rfl, hlt, hr⟩ := h3 (fun e => by rw [e] at hk; simp at hk)
  have hr1 := range_flat sxV_k hr hk
  refine ⟨b, off, rfl, hlt, fun w' hb => ?_⟩
  have hc : ∀ o, w'.cell? ⟨b, o, none⟩ = w.cell? ⟨b, o, none⟩ := fun o => hb.cell (p := ⟨b, o, none⟩) hlt
  rw [hc, hc, hc, hc, hc, hc]
  exact ⟨hr1 0 _ rfl, hr1 1 _ rfl, hr1 2 _ rfl, hr1 3 _ rfl, hr1 4 _ rfl, hr1 5 _ rfl⟩
theorem and65535 {x : Int} (h : Word x) : ∃ y : Int, bits .and .u64 x 65535 = y ∧ 0 ≤ y ∧ y ≤ 65535 ∧ IntKind.i64.wrap y = y := by
  unfold Word at h
  obtain ⟨n, rfl⟩ : ∃ n : Nat, x = n := ⟨x.toNat, by omega⟩
  have e : bits .and .u64 (n : Int) ((65535 : Nat) : Int) = ((n &&& 65535 : Nat) : Int) := bits_and_u64_nat n 65535 (by omega) (by omega)
  have h2 : n &&& 65535 ≤ 65535 := Nat.and_le_right
  refine ⟨_, e, by omega, by omega, ?_⟩
  rw [IntKind.wrap_i64]
  omega
/-- made rows -/
theorem made_blk {w : World} {t : TypeId} (z : Value) (n : Nat) : Blk (w.alloc (.cells (madeCells #[z] n) t)) w.heap.size (List.replicate n z).toArray t := by
  have h := blk_rowIs (World.rowIs_made w z n t)
  have e : (List.range n).map (fun _ => z) = List.replicate n z := by rw [List.map_const']; simp
  rwa [e] at h
theorem made_eq (w : World) (z : Value) (n : Nat) : madeCells #[z] n = (List.replicate n z).toArray := by
  have h1 := made_blk (w := w) (t := 0) z n
  have h2 := Blk.new w (madeCells #[z] n) 0
  unfold Blk at h1 h2
  rw [h1] at h2
  simpa using h2.symm
theorem made_ints (w : World) (n : Nat) : madeCells #[.int .i64 0] n = (ints (List.replicate n 0)).toArray := by
  rw [made_eq w]
  unfold ints
  rw [List.map_replicate]
theorem intsL_at {a : List Int} {i : Nat} (hi : i < a.length) : (ints a).toArray[i]? = some (.int .i64 (a.getD i 0)) := by
  unfold ints
  rw [List.getElem?_toArray, List.getElem?_map, List.getD_eq_getElem?_getD, List.getElem?_eq_getElem hi]
  rfl
theorem intsL_set (a : List Int) (i : Nat) (x : Int) : (ints a).set i (.int .i64 x) = ints (a.set i x) := by
  unfold ints
  rw [List.map_set]
end Go.Sg
namespace Go.Proofs.Ythchfdobdghdoaa
open Go Go.RowKit Go.Sg
variable {w0 w w' : World} {p q ib : Nat} {c : Lc} {first : Int} {S : Ls} {D : Nat → Prop} {X : World → Prop}
/-- a cell beside a level is written -/
theorem LvR.set {b : Nat} {cs : List Value} {t : TypeId} (hK : Keeps D X) (hD : ∀ k, D k → k ≠ b) (hge : w0.heap.size ≤ b) (h : LvR w0 w p q ib c first S (fun k => D k ∨ k = b) (fun w' => X w' ∧ Blk w' b cs.toArray t)) (i : Nat) (v : Value) :
    LvR w0 (w.setCell ⟨b, i, none⟩ v) p q ib c first S (fun k => D k ∨ k = b) (fun w' => X w' ∧ Blk w' b (cs.set i v).toArray t) := by
  have hoff := h.off b (.inr rfl)
  have hx := h.one.x
  have hother : ∀ k, k ≠ b → (w.setCell ⟨b, i, none⟩ v).heap[k]? = w.heap[k]? := fun k hk => Below.heap_setCell w ⟨b, i, none⟩ v k hk
  have hsz : (w.setCell ⟨b, i, none⟩ v).heap.size = w.heap.size := World.size_setCell w _ _
  refine ⟨h.one.turn (fun k hk => hk) ((MFrame.refl _ _).set (p := ⟨b, i, none⟩) (.inl ⟨.inl (.inr rfl), hge⟩) v) ⟨⟨?_, ?_⟩, ?_⟩, h.off, h.ne, h.ge⟩
  · exact hK w _ (by rw [hsz]; exact Nat.le_refl _) (fun k hk => hother k (hD k hk)) hx.1.1
  · have := hx.1.2.set i v
    rwa [List.setIfInBounds_toArray] at this
  · exact keeps_lv p q ib c first S.over S.ids w _ (by rw [hsz]; exact Nat.le_refl _) (fun k hk => hother k (by rcases hk with rfl | rfl; exact fun e => hoff.1 e.symm; exact fun e => hoff.2 e.symm)) hx.2
end Go.Proofs.Ythchfdobdghdoaa
end
section

/-
  What an access tells is data.
-/
namespace Go.Sg
open Go Go.RowKit Go.Proofs.Ythchfdobdghdoaa
theorem tell_ok {c : Lc} {first : Int} {S : Ls} {k : Nat} (hr : lcRight c = true) (h : LsFit c first S k) (op id at' fr lf : Int) : (S.tell first c op id at' fr lf).1.length = 8 ∧ ∀ x ∈ (S.tell first c op id at' fr lf).1, Word x := by
  unfold Ls.tell
  by_cases hb : badA c op id at' fr lf = true
  · rw [if_pos hb]; exact zero8_ok
  · rw [if_neg hb]
    obtain ⟨q1, q2, q3, q4, q5⟩ := badA_no hr (by simpa using hb)
    refine oldL_ok id _ (fun x hx => ?_)
    obtain ⟨s, hs, rfl⟩ := List.mem_map.1 hx
    have := (h.ok.sp fr q3 s hs).2
    exact ⟨this.1, this.2.1⟩
theorem eightL {l : List Int} (h : l.length = 8) : ∃ x0 x1 x2 x3 x4 x5 x6 x7, l = [x0, x1, x2, x3, x4, x5, x6, x7] := by
  match l, h with
  | [x0, x1, x2, x3, x4, x5, x6, x7], _ => exact ⟨x0, x1, x2, x3, x4, x5, x6, x7, rfl⟩
theorem cw_sz8 {l : List Int} (h : l.length = 8) : (#[.int .u64 0, .int .u64 0, .int .u64 0, .int .u64 0, .int .u64 0, .int .u64 0, .int .u64 0, .int .u64 0] : Array Value).size = (cw l).size := by rw [cw_size, h]; rfl
theorem cwL_at {l : List Int} {i : Nat} (h : i < l.length) : (cw l)[i]? = some (.int .u64 (l.getD i 0)) := by
  rw [cw_eq]
  unfold wv
  rw [List.getElem?_toArray, List.getElem?_map, List.getD_eq_getElem?_getD, List.getElem?_eq_getElem h]
  rfl
theorem wvL_set (l : List Int) (i : Nat) (x : Int) : (wv l).set i (.int .u64 x) = wv (l.set i x) := by
  unfold wv
  rw [List.map_set]
end Go.Sg
end
section

/-
  The walk of shellgamelaw10.shown.
-/
namespace Go.Proofs.Ythchfdobdghdoaa
open Go Go.RowKit Go.Sg
set_option maxHeartbeats 4000000 in
set_option maxRecDepth 100000 in
theorem lshown_any (w : World) : Calls Try.prog 5 #[] w fun e w' => e = .returned (.bool true) ∧ Below w.heap.size w w' := by
  obtain ⟨s1, s2, s3, s4, s5, s6, ⟨o1, o2, o3, o4⟩, ⟨v1, v2, v3⟩, ⟨l1, l2, l3, l4⟩⟩ := shown_plain
  have KM : Hid (Calls Try.prog 7 #[.agg #[.int .i64 1, .int .i64 1, .int .i64 2]] w fun e w' => ∃ p q ib, e = .returned (.tuple #[.pointer (some ⟨p, 0, none⟩), .pointer (some ⟨q, 0, none⟩)]) ∧ LvR w w' p q ib c112 1 (mkL c112) (fun _ => False) (fun _ => True)) := Lib.hid (lmade_any c112 c112_ok c112_new c112_lev w)
  have KD := Lib.hid (fun w' => ldata_any 1 ⟨by decide, by decide⟩ w')
  have A1 : Hid (∀ (w1 : World) (p q ib : Nat) (D : Nat → Prop) (X : World → Prop), Keeps D X → LvR w w1 p q ib c112 1 (mkL c112) D X → Calls Try.prog 10 #[.pointer (some ⟨q, 0, none⟩), .int .i64 1, .int .u64 7, .int .i64 0, .agg (cw (datL 1)), .int .i64 0, .int .i64 0] w1 fun e w' => e = .returned (.tuple #[.agg (cw zero8), .bool false]) ∧ LvR w w' p q ib c112 1 e1S D X) := Lib.hid fun w1 p q ib D X hK h => by
    have := lAccess_any hK c112 c112_ok c112_right 1 (by decide) 1 7 0 0 0 (datL 1) (datL_len 1) (datL_word 1) ⟨by decide, by decide⟩ q ib (mkL c112) (by omega) o1 (by show (0 : Nat) ≤ _; omega) h
    rw [s1] at this
    exact this
  have A2 : Hid (∀ (w1 : World) (p q ib : Nat) (D : Nat → Prop) (X : World → Prop), Keeps D X → LvR w w1 p q ib c112 1 e1S D X → Calls Try.prog 10 #[.pointer (some ⟨q, 0, none⟩), .int .i64 0, .int .u64 7, .int .i64 0, .agg (cw zero8), .int .i64 0, .int .i64 0] w1 fun e w' => e = .returned (.tuple #[.agg (cw (datL 1)), .bool true]) ∧ LvR w w' p q ib c112 1 e2S D X) := Lib.hid fun w1 p q ib D X hK h => by
    have := lAccess_any hK c112 c112_ok c112_right 1 (by decide) 0 7 0 0 0 zero8 zero8_ok.1 zero8_ok.2 ⟨by decide, by decide⟩ q ib e1S (by omega) o2 (by omega) h
    rw [s2] at this
    exact this
  have A3 : Hid (∀ (w1 : World) (p q ib : Nat) (D : Nat → Prop) (X : World → Prop), Keeps D X → LvR w w1 p q ib c112 1 e2S D X → Calls Try.prog 10 #[.pointer (some ⟨q, 0, none⟩), .int .i64 3, .int .u64 7, .int .i64 0, .agg (cw zero8), .int .i64 0, .int .i64 0] w1 fun e w' => e = .returned (.tuple #[.agg (cw (datL 1)), .bool true]) ∧ LvR w w' p q ib c112 1 e3S D X) := Lib.hid fun w1 p q ib D X hK h => by
    have := lAccess_any hK c112 c112_ok c112_right 1 (by decide) 3 7 0 0 0 zero8 zero8_ok.1 zero8_ok.2 ⟨by decide, by decide⟩ q ib e2S (by omega) o3 (by omega) h
    rw [s3] at this
    exact this
  have A4 : Hid (∀ (w1 : World) (p q ib : Nat) (D : Nat → Prop) (X : World → Prop), Keeps D X → LvR w w1 p q ib c112 1 e3S D X → Calls Try.prog 10 #[.pointer (some ⟨q, 0, none⟩), .int .i64 0, .int .u64 7, .int .i64 0, .agg (cw zero8), .int .i64 0, .int .i64 0] w1 fun e w' => e = .returned (.tuple #[.agg (cw zero8), .bool false]) ∧ LvR w w' p q ib c112 1 e4S D X) := Lib.hid fun w1 p q ib D X hK h => by
    have := lAccess_any hK c112 c112_ok c112_right 1 (by decide) 0 7 0 0 0 zero8 zero8_ok.1 zero8_ok.2 ⟨by decide, by decide⟩ q ib e3S (by omega) o4 (by omega) h
    rw [s4] at this
    exact this
  have HOV : Hid (e4S.over = false ∧ cntL e4S.ids = 1) := Lib.hid ⟨s5, s6⟩
  have HDL : Hid ((datL 1).length = 8) := Lib.hid (datL_len 1)
  clear s1 s2 s3 s4 s5 s6 o1 o2 o3 o4 v1 v2 v3 l1 l2 l3 l4
  generalize datL 1 = dl at *
  generalize e1S = E1 at *
  generalize e2S = E2 at *
  generalize e3S = E3 at *
  generalize e4S = E4 at *
  go_enter Try.func5, Try.ntmps5
  go_wp2_with fail
  refine KM.out.mono ?_
  rintro e w1 ⟨p, q, ib, rfl, h1⟩
  obtain ⟨N, hN⟩ : ∃ N, w1.heap.size = N := ⟨_, rfl⟩
  have h2 := h1.box keeps_true (cw zero8) 41
  rw [hN] at h2
  have H2 := Lib.hid h2
  clear h1 h2 KM
  go_upto_region 5 with fail
  rw [show w1.alloc (.cells #[.int .u64 0, .int .u64 0, .int .u64 0, .int .u64 0, .int .u64 0, .int .u64 0, .int .u64 0, .int .u64 0] 41) = w1.alloc (.cells (cw zero8) 41) from rfl]
  refine at_world (fun w' => LvR w w' p q ib c112 1 (mkL c112) (fun k => False ∨ k = N) (fun w => True ∧ Blk w N (cw zero8) 41)) H2.out ?_
  intro w2 h2
  have HKN := Lib.hid (keeps_and keeps_true (keeps_blk N (cw zero8) 41))
  have H2 := Lib.hid h2
  have HI0 : Hid ((Try.prog.info? 41).map (·.size) = some (cw zero8).size) := Lib.hid (info_dataL zero8 rfl)
  have HO0 : Hid ((cw zero8).all (·.oneCell') = true) := Lib.hid (cw_all _)
  have HID : Hid ((Try.prog.info? 41).map (·.size) = some (cw dl).size) := Lib.hid (info_dataL dl HDL.out)
  have HOD : Hid ((cw dl).all (·.oneCell') = true) := Lib.hid (cw_all _)
  have HZD : Hid ((#[.int .u64 0, .int .u64 0, .int .u64 0, .int .u64 0, .int .u64 0, .int .u64 0, .int .u64 0, .int .u64 0] : Array Value).size = (cw dl).size) := Lib.hid (by rw [cw_size, HDL.out]; rfl)
  clear h2
  go_wp2_with fail
  refine (KD.out _).mono ?_
  rintro e w3 ⟨rfl, hb3⟩
  have H3 := Lib.hid (H2.out.below HKN.out hb3)
  clear hb3 H2
  go_wp2_with fail
  refine (A1.out _ _ _ _ _ _ HKN.out H3.out).mono ?_
  rintro e w4 ⟨rfl, h4⟩
  obtain ⟨N4, hN4⟩ : ∃ N4, w4.heap.size = N4 := ⟨_, rfl⟩
  have hbx := h4.box HKN.out #[.int .u64 0, .int .u64 0, .int .u64 0, .int .u64 0, .int .u64 0, .int .u64 0, .int .u64 0, .int .u64 0] 41
  have hfl := h4.fill HKN.out #[.int .u64 0, .int .u64 0, .int .u64 0, .int .u64 0, .int .u64 0, .int .u64 0, .int .u64 0, .int .u64 0] (cw zero8) 41
  rw [hN4] at hbx hfl
  have HBX := Lib.hid hbx
  have HFL := Lib.hid (hfl.less (E := fun k => False ∨ k = N) (Y := fun w => True ∧ Blk w N (cw zero8) 41) (fun k hk => .inl hk) (fun _ hx => hx.1))
  clear h4 hbx hfl H3 A1
  go_upto_region 6 with (first
    | (refine wpList_store_row rfl 41 (.tmp 4) (.tmp 23) rfl N4 (cw zero8) rfl rfl 41 _ HBX.out.x.2 HI0.out (by rfl) HO0.out ?_)
    | fail)
  refine at_world (fun w' => LvR w w' p q ib c112 1 E1 (fun k => False ∨ k = N) (fun w => True ∧ Blk w N (cw zero8) 41)) HFL.out ?_
  intro w5 h5
  have H5 := Lib.hid h5
  clear h5 HBX HFL hN4
  go_wp2_with (first
    | (refine wpList_load_row rfl 41 (.tmp 3) rfl N rfl 41 (cw zero8) (0, 0) _ H5.out.x.2 Try.underlying41 rfl HI0.out ?_)
    | fail)
  refine (A2.out _ _ _ _ _ _ HKN.out H5.out).mono ?_
  rintro e w6 ⟨rfl, h6⟩
  obtain ⟨N6, hN6⟩ : ∃ N6, w6.heap.size = N6 := ⟨_, rfl⟩
  have hbx := h6.box HKN.out #[.int .u64 0, .int .u64 0, .int .u64 0, .int .u64 0, .int .u64 0, .int .u64 0, .int .u64 0, .int .u64 0] 41
  have hfl := h6.fill HKN.out #[.int .u64 0, .int .u64 0, .int .u64 0, .int .u64 0, .int .u64 0, .int .u64 0, .int .u64 0, .int .u64 0] (cw dl) 41
  rw [hN6] at hbx hfl
  have HBX := Lib.hid hbx
  have HFL := Lib.hid hfl
  have HK6 := Lib.hid (keeps_and HKN.out (keeps_blk N6 (cw dl) 41))
  clear h6 hbx hfl H5 A2
  go_upto_region 7 with (first
    | (refine wpList_store_row rfl 41 (.tmp 6) (.tmp 29) rfl N6 (cw dl) rfl rfl 41 _ HBX.out.x.2 HID.out HZD.out HOD.out ?_)
    | fail)
  refine at_world (fun w' => LvR w w' p q ib c112 1 E2 (fun k => (False ∨ k = N) ∨ k = N6) (fun w => (True ∧ Blk w N (cw zero8) 41) ∧ Blk w N6 (cw dl) 41)) HFL.out ?_
  intro w7 h7
  have H7 := Lib.hid h7
  clear h7 HBX HFL hN6
  go_wp2_with (first
    | (refine wpList_load_row rfl 41 (.tmp 3) rfl N rfl 41 (cw zero8) (0, 0) _ H7.out.x.1.2 Try.underlying41 rfl HI0.out ?_)
    | fail)
  refine (A3.out _ _ _ _ _ _ HK6.out H7.out).mono ?_
  rintro e w8 ⟨rfl, h8⟩
  obtain ⟨N8, hN8⟩ : ∃ N8, w8.heap.size = N8 := ⟨_, rfl⟩
  have hbx := h8.box HK6.out #[.int .u64 0, .int .u64 0, .int .u64 0, .int .u64 0, .int .u64 0, .int .u64 0, .int .u64 0, .int .u64 0] 41
  have hfl := h8.fill HK6.out #[.int .u64 0, .int .u64 0, .int .u64 0, .int .u64 0, .int .u64 0, .int .u64 0, .int .u64 0, .int .u64 0] (cw dl) 41
  rw [hN8] at hbx hfl
  have HBX := Lib.hid hbx
  have HFL := Lib.hid hfl
  have HK8 := Lib.hid (keeps_and HK6.out (keeps_blk N8 (cw dl) 41))
  clear h8 hbx hfl H7 A3
  go_upto_region 8 with (first
    | (refine wpList_store_row rfl 41 (.tmp 8) (.tmp 35) rfl N8 (cw dl) rfl rfl 41 _ HBX.out.x.2 HID.out HZD.out HOD.out ?_)
    | fail)
  refine at_world (fun w' => LvR w w' p q ib c112 1 E3 (fun k => ((False ∨ k = N) ∨ k = N6) ∨ k = N8) (fun w => ((True ∧ Blk w N (cw zero8) 41) ∧ Blk w N6 (cw dl) 41) ∧ Blk w N8 (cw dl) 41)) HFL.out ?_
  intro w9 h9
  have H9 := Lib.hid h9
  clear h9 HBX HFL hN8
  go_wp2_with (first
    | (refine wpList_load_row rfl 41 (.tmp 3) rfl N rfl 41 (cw zero8) (0, 0) _ H9.out.x.1.1.2 Try.underlying41 rfl HI0.out ?_)
    | fail)
  refine (A4.out _ _ _ _ _ _ HK8.out H9.out).mono ?_
  rintro e wa ⟨rfl, ha⟩
  obtain ⟨NA, hNA⟩ : ∃ NA, wa.heap.size = NA := ⟨_, rfl⟩
  have hbx := ha.box HK8.out #[.int .u64 0, .int .u64 0, .int .u64 0, .int .u64 0, .int .u64 0, .int .u64 0, .int .u64 0, .int .u64 0] 41
  have hfl := ha.fill HK8.out #[.int .u64 0, .int .u64 0, .int .u64 0, .int .u64 0, .int .u64 0, .int .u64 0, .int .u64 0, .int .u64 0] (cw zero8) 41
  rw [hNA] at hbx hfl
  have HBX := Lib.hid hbx
  have HFL := Lib.hid (hfl.less (E := (fun k => ((False ∨ k = N) ∨ k = N6) ∨ k = N8)) (Y := (fun w => ((True ∧ Blk w N (cw zero8) 41) ∧ Blk w N6 (cw dl) 41) ∧ Blk w N8 (cw dl) 41)) (fun k hk => .inl hk) (fun _ hx => hx.1))
  clear ha hbx hfl H9 A4
  go_upto_region 9 with (first
    | (refine wpList_store_row rfl 41 (.tmp 10) (.tmp 41) rfl NA (cw zero8) rfl rfl 41 _ HBX.out.x.2 HI0.out (by rfl) HO0.out ?_)
    | fail)
  refine at_world (fun w' => LvR w w' p q ib c112 1 E4 (fun k => ((False ∨ k = N) ∨ k = N6) ∨ k = N8) (fun w => ((True ∧ Blk w N (cw zero8) 41) ∧ Blk w N6 (cw dl) 41) ∧ Blk w N8 (cw dl) 41)) HFL.out ?_
  intro wb hb
  have HB := Lib.hid hb
  clear hb HBX HFL hNA
  have hdl : ∃ x0 x1 x2 x3 x4 x5 x6 x7, dl = [x0, x1, x2, x3, x4, x5, x6, x7] := by
    have hl := HDL.out
    match dl, hl with
    | [x0, x1, x2, x3, x4, x5, x6, x7], _ => exact ⟨x0, x1, x2, x3, x4, x5, x6, x7, rfl⟩
  obtain ⟨x0, x1, x2, x3, x4, x5, x6, x7, rfl⟩ := hdl
  have EQ : ∀ w, (Op.equalIn 10000 41 (.agg #[.int .u64 x0, .int .u64 x1, .int .u64 x2, .int .u64 x3, .int .u64 x4, .int .u64 x5, .int .u64 x6, .int .u64 x7]) (.agg #[.int .u64 x0, .int .u64 x1, .int .u64 x2, .int .u64 x3, .int .u64 x4, .int .u64 x5, .int .u64 x6, .int .u64 x7])).run Try.prog w = .ok true w := fun w => by
    have h := run_eqdata [x0, x1, x2, x3, x4, x5, x6, x7] [x0, x1, x2, x3, x4, x5, x6, x7] rfl rfl w
    rw [decide_eq_true rfl] at h
    exact h
  have HID8 : Hid ((Try.prog.info? 41).map (·.size) = some ((#[.int .u64 x0, .int .u64 x1, .int .u64 x2, .int .u64 x3, .int .u64 x4, .int .u64 x5, .int .u64 x6, .int .u64 x7] : Array Value)).size) := Lib.hid (by kernel_rfl)
  have hd := HB.out.below HK8.out ((Below.refl _ _).drew)
  have HRG : Hid (∀ w', LvR w w' p q ib c112 1 E4 (fun k => ((False ∨ k = N) ∨ k = N6) ∨ k = N8) (fun w => ((True ∧ Blk w N (cw zero8) 41) ∧ Blk w N6 (cw [x0, x1, x2, x3, x4, x5, x6, x7]) 41) ∧ Blk w N8 (cw [x0, x1, x2, x3, x4, x5, x6, x7]) 41) → w'.cell? ⟨N6, 0, none⟩ = some (.int .u64 x0) ∧ w'.cell? ⟨N6, 1, none⟩ = some (.int .u64 x1) ∧ w'.cell? ⟨N6, 2, none⟩ = some (.int .u64 x2) ∧ w'.cell? ⟨N6, 3, none⟩ = some (.int .u64 x3) ∧ w'.cell? ⟨N6, 4, none⟩ = some (.int .u64 x4) ∧ w'.cell? ⟨N6, 5, none⟩ = some (.int .u64 x5) ∧ w'.cell? ⟨N6, 6, none⟩ = some (.int .u64 x6) ∧ w'.cell? ⟨N6, 7, none⟩ = some (.int .u64 x7) ∧ w'.cell? ⟨N8, 0, none⟩ = some (.int .u64 x0) ∧ w'.cell? ⟨N8, 1, none⟩ = some (.int .u64 x1) ∧ w'.cell? ⟨N8, 2, none⟩ = some (.int .u64 x2) ∧ w'.cell? ⟨N8, 3, none⟩ = some (.int .u64 x3) ∧ w'.cell? ⟨N8, 4, none⟩ = some (.int .u64 x4) ∧ w'.cell? ⟨N8, 5, none⟩ = some (.int .u64 x5) ∧ w'.cell? ⟨N8, 6, none⟩ = some (.int .u64 x6) ∧ w'.cell? ⟨N8, 7, none⟩ = some (.int .u64 x7)) := Lib.hid fun w' h => ⟨h.x.1.2.cell 0, h.x.1.2.cell 1, h.x.1.2.cell 2, h.x.1.2.cell 3, h.x.1.2.cell 4, h.x.1.2.cell 5, h.x.1.2.cell 6, h.x.1.2.cell 7, h.x.2.cell 0, h.x.2.cell 1, h.x.2.cell 2, h.x.2.cell 3, h.x.2.cell 4, h.x.2.cell 5, h.x.2.cell 6, h.x.2.cell 7⟩
  have HLV : Hid (∀ w', LvR w w' p q ib c112 1 E4 (fun k => ((False ∨ k = N) ∨ k = N6) ∨ k = N8) (fun w => ((True ∧ Blk w N (cw zero8) 41) ∧ Blk w N6 (cw [x0, x1, x2, x3, x4, x5, x6, x7]) 41) ∧ Blk w N8 (cw [x0, x1, x2, x3, x4, x5, x6, x7]) 41) → Calls Try.prog 12 #[.pointer (some ⟨q, 0, none⟩)] w' (fun e w2 => e = .returned (.bool false) ∧ w2 = w') ∧ Calls Try.prog 17 #[.pointer (some ⟨q, 0, none⟩)] w' (fun e w2 => e = .returned (.int .i64 1) ∧ w2 = w')) := Lib.hid fun w' h => by
    have h1 := lOver_any p q ib c112 1 E4.over w' h.lv.1
    have h2 := lBlocks_any p q ib c112 1 E4.over E4.ids w' h.lv
    rw [HOV.out.1] at h1
    rw [HOV.out.2] at h2
    exact ⟨h1, h2⟩
  have KD8 : Hid (∀ w', Calls Try.prog 11 #[.int .u64 1] w' fun e w2 => e = .returned (.agg #[.int .u64 x0, .int .u64 x1, .int .u64 x2, .int .u64 x3, .int .u64 x4, .int .u64 x5, .int .u64 x6, .int .u64 x7]) ∧ Below w'.heap.size w' w2) := Lib.hid (fun w' => KD.out w')
  clear HI0 HO0 HID HOD HZD HOV KD
  go_upto_region 9 with fail
  go_region_held3 (fun w' => w'.cell? ⟨N6, 0, none⟩ = some (.int .u64 x0) ∧ w'.cell? ⟨N6, 1, none⟩ = some (.int .u64 x1) ∧ w'.cell? ⟨N6, 2, none⟩ = some (.int .u64 x2) ∧ w'.cell? ⟨N6, 3, none⟩ = some (.int .u64 x3) ∧ w'.cell? ⟨N6, 4, none⟩ = some (.int .u64 x4) ∧ w'.cell? ⟨N6, 5, none⟩ = some (.int .u64 x5) ∧ w'.cell? ⟨N6, 6, none⟩ = some (.int .u64 x6) ∧ w'.cell? ⟨N6, 7, none⟩ = some (.int .u64 x7) ∧ w'.cell? ⟨N8, 0, none⟩ = some (.int .u64 x0) ∧ w'.cell? ⟨N8, 1, none⟩ = some (.int .u64 x1) ∧ w'.cell? ⟨N8, 2, none⟩ = some (.int .u64 x2) ∧ w'.cell? ⟨N8, 3, none⟩ = some (.int .u64 x3) ∧ w'.cell? ⟨N8, 4, none⟩ = some (.int .u64 x4) ∧ w'.cell? ⟨N8, 5, none⟩ = some (.int .u64 x5) ∧ w'.cell? ⟨N8, 6, none⟩ = some (.int .u64 x6) ∧ w'.cell? ⟨N8, 7, none⟩ = some (.int .u64 x7)) (first | exact HRG.out _ hd | exact HRG.out _ hx1 | exact HRG.out _ hx2) (first
    | (go_at_call 11; with_reducible refine (KD8.out _).mono ?_; rintro e wx ⟨rfl, hbx⟩; first | have hx2 := hx1.below HK8.out hbx | have hx1 := hd.below HK8.out hbx)
    | (go_at_call 12; with_reducible refine (HLV.out _ (by assumption)).1.mono ?_; rintro e wy ⟨rfl, rfl⟩)
    | (go_at_call 17; with_reducible refine (HLV.out _ (by assumption)).2.mono ?_; rintro e wy ⟨rfl, rfl⟩))
  all_goals
    have HF := Lib.hid hx2.one.old
    clear hx2 hx1 hd
    go_wp2
    go_ret
    exact ⟨rfl, HF.out⟩
end Go.Proofs.Ythchfdobdghdoaa
end
section

/-
  A level, and a box of data that is filled later.
-/
namespace Go.Proofs.Ythchfdobdghdoaa
open Go Go.RowKit Go.Sg
variable {w0 w w' : World} {p q ib : Nat} {c : Lc} {first : Int} {S : Ls} {D : Nat → Prop} {X : World → Prop}
def zd8 : Array Value := #[.int .u64 0, .int .u64 0, .int .u64 0, .int .u64 0, .int .u64 0, .int .u64 0, .int .u64 0, .int .u64 0]
/-- a new box lies beside a level -/
structure LvB (w0 w : World) (p q ib : Nat) (c : Lc) (first : Int) (S : Ls) (D : Nat → Prop) (X : World → Prop) (b : Nat) : Prop where
  one : LvR w0 w p q ib c first S (fun k => D k ∨ k = b) (fun w' => X w' ∧ Blk w' b zd8 41)
  keeps : Keeps D X
  ne : ∀ k, D k → k ≠ b
  ge : w0.heap.size ≤ b
theorem LvB.new (hK : Keeps D X) (h : LvR w0 w p q ib c first S D X) : LvB w0 (w.alloc (.cells zd8 41)) p q ib c first S D X w.heap.size :=
  ⟨h.box hK zd8 _, hK, fun k hk => Nat.ne_of_lt (h.lt.1 k hk), h.one.old.size⟩
theorem LvB.below {b : Nat} (h : LvB w0 w p q ib c first S D X b) (hb : Below w.heap.size w w') : LvB w0 w' p q ib c first S D X b :=
  ⟨h.one.below (keeps_and h.keeps (keeps_blk _ _ _)) hb, h.keeps, h.ne, h.ge⟩
theorem LvB.there {b : Nat} (h : LvB w0 w p q ib c first S D X b) (vs : List Value) (hl : vs.length = 8) : w.there b 0 vs.length := by
  rw [hl]; exact h.one.x.2.there 8 (by decide)
theorem LvB.x {b : Nat} (h : LvB w0 w p q ib c first S D X b) : X w := h.one.x.1
theorem LvB.call {b : Nat} {P : Program} {f : FuncId} {args : Array Value} {R : Ending → Prop} {S' : Ls} (h : LvB w0 w p q ib c first S D X b)
    (hc : ∀ (D' : Nat → Prop) (X' : World → Prop), Keeps D' X' → LvR w0 w p q ib c first S D' X' → Calls P f args w fun e w' => R e ∧ LvR w0 w' p q ib c first S' D' X') :
    Calls P f args w fun e w' => R e ∧ LvB w0 w' p q ib c first S' D X b :=
  (hc _ _ (keeps_and h.keeps (keeps_blk _ _ _)) h.one).mono fun e w' ⟨he, hx⟩ => ⟨he, hx, h.keeps, h.ne, h.ge⟩
theorem LvB.fill {b : Nat} (h : LvB w0 w p q ib c first S D X b) (vs : List Value) (hl : vs.length = 8) :
    LvR w0 (w.setCells b 0 vs) p q ib c first S (fun k => D k ∨ k = b) (fun w' => X w' ∧ Blk w' b vs.toArray 41) := by
  have hoff := h.one.off b (.inr rfl)
  have hx := h.one.one.x
  have hother : ∀ k, k ≠ b → (w.setCells b 0 vs).heap[k]? = w.heap[k]? := fun k hk => heap_setCells_neL vs 0 w k hk
  have hsz : w.heap.size ≤ (w.setCells b 0 vs).heap.size := by rw [size_setCells]; exact Nat.le_refl _
  refine ⟨h.one.one.turn (fun k hk => hk) ((MFrame.refl _ _).setCells vs 0 (.inl ⟨.inl (.inr rfl), h.ge⟩)) ⟨⟨?_, ?_⟩, ?_⟩, h.one.off, h.one.ne, h.one.ge⟩
  · exact h.keeps w _ hsz (fun k hk => hother k (h.ne k hk)) hx.1.1
  · exact blk_all vs hx.1.2 (by rw [hl]; rfl)
  · exact keeps_lv p q ib c first S.over S.ids w _ hsz (fun k hk => hother k (by rcases hk with rfl | rfl; exact fun e => hoff.1 e.symm; exact fun e => hoff.2 e.symm)) hx.2
/-- a cell beside a level is written -/
theorem LvR.poke {Y : World → Prop} {b : Nat} (hD : D b) (hge : w0.heap.size ≤ b) (h : LvR w0 w p q ib c first S D X) (i : Nat) (v : Value) (hY : Y (w.setCell ⟨b, i, none⟩ v)) : LvR w0 (w.setCell ⟨b, i, none⟩ v) p q ib c first S D Y := by
  have hoff := h.off b hD
  have hx := h.one.x
  have hother : ∀ k, k ≠ b → (w.setCell ⟨b, i, none⟩ v).heap[k]? = w.heap[k]? := fun k hk => Below.heap_setCell w ⟨b, i, none⟩ v k hk
  have hsz : (w.setCell ⟨b, i, none⟩ v).heap.size = w.heap.size := World.size_setCell w _ _
  refine ⟨h.one.turn (fun k hk => hk) ((MFrame.refl _ _).set (p := ⟨b, i, none⟩) (.inl ⟨.inl hD, hge⟩) v) ⟨hY, ?_⟩, h.off, h.ne, h.ge⟩
  exact keeps_lv p q ib c first S.over S.ids w _ (by rw [hsz]; exact Nat.le_refl _) (fun k hk => hother k (by rcases hk with rfl | rfl; exact fun e => hoff.1 e.symm; exact fun e => hoff.2 e.symm)) hx.2
/-- cells beside a level are written -/
theorem LvR.pokes {Y : World → Prop} {b : Nat} (hD : D b) (hge : w0.heap.size ≤ b) (h : LvR w0 w p q ib c first S D X) (o : Nat) (vs : List Value) (hY : Y (w.setCells b o vs)) : LvR w0 (w.setCells b o vs) p q ib c first S D Y := by
  have hoff := h.off b hD
  have hx := h.one.x
  have hother : ∀ k, k ≠ b → (w.setCells b o vs).heap[k]? = w.heap[k]? := fun k hk => heap_setCells_neL vs o w k hk
  refine ⟨h.one.turn (fun k hk => hk) ((MFrame.refl _ _).setCells vs o (.inl ⟨.inl hD, hge⟩)) ⟨hY, ?_⟩, h.off, h.ne, h.ge⟩
  exact keeps_lv p q ib c first S.over S.ids w _ (by rw [size_setCells]; exact Nat.le_refl _) (fun k hk => hother k (by rcases hk with rfl | rfl; exact fun e => hoff.1 e.symm; exact fun e => hoff.2 e.symm)) hx.2
theorem info_dataR (l : List Int) (h : l.length = 8) : (Try.prog.info? 41).map (·.size) = some (wv l).length := by rw [wv_len, h]; kernel_rfl
end Go.Proofs.Ythchfdobdghdoaa
end
