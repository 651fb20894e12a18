/-
  The walk of shellgamelaw3.cell.
-/
import Derived.Test.YtngpaibppdehdaaProg
import Derived.Test.YtngpaibppdehdaaBlk
import Derived.Test.YtngpaibppdehdaaPure1
import Derived.Deep.LoopGhost
namespace Go.Proofs.Ytngpaibppdehdaa
open Go.RowKit Go.Sg

structure CellW3 (w : World) (n : Int) (k : Nat) (wr : World) : Prop where
  out : Blk wr w.heap.size z12 44
  one : Blk wr (w.heap.size + 1) (cw (mixed (cellL n) zeros k)) 44
  old : Below w.heap.size w wr

theorem CellW3.step {w wr : World} {n : Int} {k : Nat} (h : CellW3 w n k wr) (hk : k < 12) {x : Int} (hx : x = cellAt n k) :
    CellW3 w n (k + 1) (wr.setCell ⟨w.heap.size + 1, k, none⟩ (.int .u64 x)) := by
  have hl := cellL_len n
  refine ⟨h.out.other _ _ (by show w.heap.size ≠ w.heap.size + 1; omega), ?_, h.old.setCell (by show w.heap.size ≤ w.heap.size + 1; omega) _⟩
  have := h.one.set k (.int .u64 x)
  rw [hx, ← cellL_get (n := n) (k := k) (by omega), cw_set, mixed_set (by rw [hl]; rfl) (by show k < 12; exact hk)] at this
  rwa [hx, ← cellL_get (n := n) (k := k) (by omega)]

theorem cell3_val (n : Int) (k : Nat) : IntKind.u64.wrap (IntKind.u64.wrap (n * (2 * (k : Int) + 1)) + (k : Int)) = cellAt n k := by
  rw [IntKind.wrap_u64, IntKind.wrap_u64]
  unfold cellAt
  omega

set_option maxRecDepth 100000 in
set_option maxHeartbeats 1000000 in
theorem cell3_any (n : Int) (w : World) : Calls Try.prog 34 #[.int .u64 n] w fun e w' => e = .returned (.agg (cw (cellL n))) ∧ Below w.heap.size w w' := by
  have HL := Lib.hid (cellL_len n)
  go_enter Try.func34, Try.ntmps34
  go_wp2_with fail
  go_loopw [4] (fun i wr => ∃ k : Nat, k ≤ 12 ∧ i = .int .i64 k ∧ CellW3 w n k wr) (fun i _ => 12 - (intOf i).toNat)
  case atStart =>
    refine ⟨0, by omega, rfl, ?_, ?_, ?_⟩
    · exact (Blk.new w _ _).alloc _
    · have := Blk.new (w.alloc (.cells z12 44)) z12 44
      rw [World.size_alloc] at this
      rw [mixed_zero]
      exact this
    · exact ((Below.refl _ _).alloc (Nat.le_refl _) _).alloc (by simp) _
  case round =>
    obtain ⟨k, hk, rfl, hW⟩ := hrel
    by_cases hlt : k < 12
    · have c1 : ∃ v, wr.cell? ⟨w.heap.size + 1, k, none⟩ = some v := by
        rw [hW.one.cell, cw_get (by rw [mixed_len (by rw [HL.out]; rfl) (by show k ≤ 12; omega)]; exact hlt)]
        exact ⟨_, rfl⟩
      obtain ⟨v, c1⟩ := c1
      have f1 : wr.frozen? ⟨w.heap.size + 1, k, none⟩ = false := hW.one.free k
      have HW := Lib.hid hW
      clear hW
      go_wp2
      go_roundw
      case rel => exact ⟨k + 1, by omega, by go_num, HW.out.step hlt (cell3_val n k)⟩
      case measure => simp [intOf]; omega
    · have hge : 12 ≤ k := by omega
      have hrow := hW.one
      rw [mixed_end HL.out rfl hge] at hrow
      have HR := Lib.hid hrow
      have HW := Lib.hid hW
      have HI : Hid ((Try.prog.info? 44).map (·.size) = some (cw (cellL n)).size) := Lib.hid (by rw [cw_size, HL.out]; kernel_rfl)
      clear hW hrow
      go_wp2_with (first
        | (refine wpList_load_row rfl 44 (.tmp 3) rfl (w.heap.size + 1) rfl 44 (cw (cellL n)) (0, 0) _ HR.out Try.underlying44 rfl HI.out ?_)
        | (refine wpList_store_row rfl 44 (.tmp 2) (.tmp 20) rfl w.heap.size (cw (cellL n)) rfl rfl 44 _ HW.out.out HI.out (by rw [cw_size, HL.out]; rfl) (cw_one _) ?_))
      refine bodyPost_ret (results_cell_row rfl _ _ w.heap.size 44 _ (0, 0) _ rfl (HW.out.out.setRow _) Try.underlying44 rfl HI.out) rfl ⟨rfl, ?_⟩
      exact below_setRow HW.out.old (Nat.le_refl _) _
end Go.Proofs.Ytngpaibppdehdaa
