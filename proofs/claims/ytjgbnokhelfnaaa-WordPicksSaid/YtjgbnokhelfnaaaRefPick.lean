/-
  The walks of shellgameref1.Pick and PickCell.
-/
import Derived.Test.YtjgbnokhelfnaaaCells
namespace Go.Proofs.Ytjgbnokhelfnaaa
open Go.RowKit Go.Sg

theorem refPick_any (m a b : Int) (hm : Word m) (ha : Word a) (hb : Word b) (w : World) :
    Calls Try.prog 26 #[.int .u64 m, .int .u64 a, .int .u64 b] w fun e w' => e = .returned (.int .u64 (pk m a b)) ∧ w' = w := by
  have Hm := Lib.hid hm
  have Ha := Lib.hid ha
  have Hb := Lib.hid hb
  clear hm ha hb
  go_enter Try.func26, Try.ntmps26
  go_wp2
  go_loop [7, 8] (fun x i => ∃ (k : Nat) (c : Int), k ≤ 64 ∧ i = .int .i64 k ∧ x = .int .u64 c ∧ Hid (c = pk m a b % 2 ^ k)) (fun _ i => 64 - (intOf i).toNat)
  case atStart => exact ⟨0, 0, by omega, rfl, rfl, Lib.hid (by simp)⟩
  case round =>
    obtain ⟨k, c, hk, rfl, rfl, HC⟩ := hrel
    by_cases hlt : k < 64
    · have E1 := Lib.hid (bit_eq Hm.out k)
      have E2 := Lib.hid (bit_eq Ha.out k)
      have E3 := Lib.hid (bit_eq Hb.out k)
      have E4 := Lib.hid (pk_bit Hm.out Ha.out Hb.out k)
      have HP := Lib.hid (pk_word Hm.out Ha.out Hb.out)
      go_wp2
      · go_round
        case rel =>
          refine ⟨k + 1, _, by omega, by go_num, rfl, Lib.hid ?_⟩
          have hb : (bits .and .u64 (m / 2 ^ k) 1 == 1) = true := by assumption
          have h1 := E4.out
          rw [E1.out] at hb
          rw [if_pos (by simpa using hb)] at h1
          rw [E2.out, HC.out]
          exact pick_step HP.out k h1
        case measure => simp [intOf]; omega
      · go_round
        case rel =>
          refine ⟨k + 1, _, by omega, by go_num, rfl, Lib.hid ?_⟩
          have hb : (bits .and .u64 (m / 2 ^ k) 1 == 1) = false := by assumption
          have h1 := E4.out
          rw [E1.out] at hb
          rw [if_neg (by simpa using hb)] at h1
          rw [E3.out, HC.out]
          exact pick_step HP.out k h1
        case measure => simp [intOf]; omega
    · have HP := Lib.hid (pk_word Hm.out Ha.out Hb.out)
      have hk64 : 64 ≤ k := by omega
      go_wp2
      go_ret
      refine ⟨ret_u64 ?_, rfl⟩
      have hp := HP.out
      have e : k = 64 := by omega
      rw [HC.out, e]
      have e64 : (2 : Int) ^ 64 = 18446744073709551616 := by decide
      rw [e64]
      exact Int.emod_eq_of_lt hp.1 hp.2

/-- The world inside shellgameref1.PickCell. -/
structure RefPickW (w : World) (p a b : List Int) (k : Nat) (wr : World) : Prop where
  one : Blk wr w.heap.size (cw a) 38
  two : Blk wr (w.heap.size + 1) (cw b) 38
  out : Blk wr (w.heap.size + 1 + 1) z12 38
  res : Blk wr (w.heap.size + 1 + 1 + 1) (cw (mixed p b k)) 38
  old : Below w.heap.size w wr

theorem RefPickW.step {w wr : World} {p a b : List Int} {k : Nat} (h : RefPickW w p a b k wr) (hp : p.length = 12) (hb : b.length = 12) (hk : k < 12) {x : Int} (hx : x = p[k]) :
    RefPickW w p a b (k + 1) (wr.drew.setCell ⟨w.heap.size + 1 + 1 + 1, k, none⟩ (.int .u64 x)) := by
  subst hx
  refine ⟨?_, ?_, ?_, ?_, ?_⟩
  · exact h.one.drew.other _ _ (by show w.heap.size ≠ w.heap.size + 1 + 1 + 1; omega)
  · exact h.two.drew.other _ _ (by show w.heap.size + 1 ≠ w.heap.size + 1 + 1 + 1; omega)
  · exact h.out.drew.other _ _ (by show w.heap.size + 1 + 1 ≠ w.heap.size + 1 + 1 + 1; omega)
  · have := h.res.drew.set k (.int .u64 p[k])
    rw [cw_set, mixed_set (by rw [hp, hb]) (by omega)] at this
    exact this
  · exact h.old.drew.setCell (by show w.heap.size ≤ w.heap.size + 1 + 1 + 1; omega) _

set_option maxHeartbeats 1000000 in
theorem refPickCell_any (m : Int) (a b : List Int) (hm : Word m) (ha : a.length = 12) (hb : b.length = 12) (wa : ∀ x ∈ a, Word x) (wb : ∀ x ∈ b, Word x) (w : World) :
    Calls Try.prog 28 #[.int .u64 m, .agg (cw a), .agg (cw b)] w fun e w' => e = .returned (.agg (cw (List.zipWith (pk m) a b))) ∧ Below w.heap.size w w' := by
  have HP := Lib.hid (show (List.zipWith (pk m) a b).length = 12 by simp [ha, hb])
  have HA := Lib.hid ha
  have HB := Lib.hid hb
  have HI : Hid ((Try.prog.info? 38).map (·.size) = some (cw b).size) := Lib.hid (by rw [cw_size, hb]; kernel_rfl)
  clear ha hb
  have B1 : Blk (((w.alloc (.cells (cw a) 38)).alloc (.cells (cw b) 38)).alloc (.cells z12 38)) (w.heap.size + 1) (cw b) 38 := by
    have := (Blk.new (w.alloc (.cells (cw a) 38)) (cw b) 38).alloc (.cells z12 38)
    rw [World.size_alloc] at this
    exact this
  have HB1 := Lib.hid B1
  clear B1
  have B2 : Blk ((((w.alloc (.cells (cw a) 38)).alloc (.cells (cw b) 38)).alloc (.cells z12 38)).alloc (.cells z12 38)) (w.heap.size + 1 + 1 + 1) z12 38 := by
    have := Blk.new (((w.alloc (.cells (cw a) 38)).alloc (.cells (cw b) 38)).alloc (.cells z12 38)) z12 38
    rw [World.size_alloc, World.size_alloc, World.size_alloc] at this
    exact this
  have HB2 := Lib.hid B2
  clear B2
  go_enter Try.func28, Try.ntmps28
  go_wp2_with (first
        | (refine wpList_load_row rfl 38 (.tmp 5) rfl (w.heap.size + 1) rfl 38 (cw b) (0, 0) _ HB1.out Try.underlying38 rfl HI.out ?_)
        | (refine wpList_store_row rfl 38 (.tmp 7) (.tmp 9) rfl (w.heap.size + 1 + 1 + 1) (cw b) rfl rfl 38 _ HB2.out HI.out (by rw [cw_size, HB.out]; rfl) (cw_one _) ?_))
  go_loopw [8] (fun i wr => ∃ k : Nat, k ≤ 12 ∧ i = .int .i64 k ∧ RefPickW w (List.zipWith (pk m) a b) a b k wr) (fun i _ => 12 - (intOf i).toNat)
  case atStart =>
    refine ⟨0, by omega, rfl, ?_, ?_, ?_, ?_, ?_⟩
    · exact (((Blk.new w _ _).alloc _).alloc _).alloc _ |>.rowOther _ (by show w.heap.size ≠ w.heap.size + 1 + 1 + 1; omega)
    · exact (HB1.out.alloc _).rowOther _ (by show w.heap.size + 1 ≠ w.heap.size + 1 + 1 + 1; omega)
    · have := (Blk.new ((w.alloc (.cells (cw a) 38)).alloc (.cells (cw b) 38)) z12 38).alloc (.cells z12 38)
      rw [World.size_alloc, World.size_alloc] at this
      exact this.rowOther _ (by show w.heap.size + 1 + 1 ≠ w.heap.size + 1 + 1 + 1; omega)
    · rw [mixed_zero]; exact HB2.out.setRow _
    · exact below_setRow (((((Below.refl _ _).alloc (Nat.le_refl _) _).alloc (by simp) _).alloc (by simp; omega) _).alloc (by simp; omega) _) (by omega) _
  case round =>
    obtain ⟨k, hk, rfl, hW⟩ := hrel
    by_cases hlt : k < 12
    · have hak : k < a.length := by rw [HA.out]; exact hlt
      have hbk : k < b.length := by rw [HB.out]; exact hlt
      have c1 : wr.cell? ⟨w.heap.size, k, none⟩ = some (.int .u64 a[k]) := by rw [hW.one.cell, cw_get hak]
      have c2 : wr.cell? ⟨w.heap.size + 1, k, none⟩ = some (.int .u64 b[k]) := by rw [hW.two.cell, cw_get hbk]
      have c3 : ∃ v, wr.cell? ⟨w.heap.size + 1 + 1 + 1, k, none⟩ = some v := by
        rw [hW.res.cell, cw_get (by rw [mixed_len (by rw [HP.out, HB.out]) (by omega)]; exact hbk)]
        exact ⟨_, rfl⟩
      obtain ⟨v3, c3⟩ := c3
      have f1 : wr.frozen? ⟨w.heap.size + 1 + 1 + 1, k, none⟩ = false := hW.res.free k
      have HW := Lib.hid hW
      clear hW
      have hp := Lib.hid (refPick_any m a[k] b[k] hm (wa _ (List.getElem_mem _)) (wb _ (List.getElem_mem _)))
      go_wp2_with fail
      go_region_with (go_at_call 26; refine (hp.out _).mono ?_; rintro e w' ⟨rfl, rfl⟩)
      all_goals
        go_wp2
        go_roundw
        case rel => exact ⟨k + 1, by omega, by go_num, HW.out.step HP.out HB.out hlt (by simp)⟩
        case measure => simp [intOf]; omega
    · have hge : 12 ≤ k := by omega
      have hrow := hW.res
      rw [mixed_end HP.out HB.out hge] at hrow
      have hn : (cw (List.zipWith (pk m) a b)).size = 12 := by rw [cw_size, HP.out]
      have HW := Lib.hid hW
      have HR := Lib.hid hrow
      have hi : (Try.prog.info? 38).map (·.size) = some (cw (List.zipWith (pk m) a b)).size := by rw [hn]; kernel_rfl
      have HJ := Lib.hid hi
      have HN := Lib.hid hn
      clear hn hW hrow hi
      go_wp2_with (first
        | (refine wpList_load_row rfl 38 (.tmp 7) rfl (w.heap.size + 1 + 1 + 1) rfl 38 (cw (List.zipWith (pk m) a b)) (0, 0) _ HR.out Try.underlying38 rfl HJ.out ?_)
        | (refine wpList_store_row rfl 38 (.tmp 6) (.tmp 24) rfl (w.heap.size + 1 + 1) (cw (List.zipWith (pk m) a b)) rfl rfl 38 _ HW.out.out HJ.out (by rw [HN.out]; rfl) (cw_one _) ?_))
      refine bodyPost_ret (results_cell_row rfl _ _ (w.heap.size + 1 + 1) 38 _ (0, 0) _ rfl (HW.out.out.setRow _) Try.underlying38 rfl HJ.out) rfl ⟨rfl, ?_⟩
      exact below_setRow HW.out.old (by omega) _
end Go.Proofs.Ytjgbnokhelfnaaa
