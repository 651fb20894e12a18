/-
  Joined texts: Cells.
-/
import Derived.Test.YthchfdobdghdoaaGreatHaf
import Derived.Test.YthchfdobdghdoaaGreatHad
import Derived.Deep.LoopGhost
import Derived.Deep.QuietTactic
import Derived.BigQuiet
import Derived.Deep.RegionWith
import Derived.Deep.RegionHeld3
import Derived.Deep.RegionLaw
import Derived.Laws.CopyOwn
set_option linter.unusedVariables false
set_option linter.unusedSimpArgs false
set_option linter.unusedSectionVars false
set_option linter.unnecessarySimpa false
section

/-
  The walks of word.PickCell and word.SwapCell.
-/
namespace Go.Proofs.YthchfdobdghdoaaGreat
open Go.RowKit Go.Sg

/-- The world inside PickCell, when k words are picked. -/
structure PickW (w : World) (p a b : List Int) (k : Nat) (wr : World) : Prop where
  one : Blk wr w.heap.size (cw (mixed p a k)) 74
  two : Blk wr (w.heap.size + 1) (cw b) 74
  out : Blk wr (w.heap.size + 1 + 1) z12 74
  old : Below w.heap.size w wr

theorem PickW.step {w wr : World} {p a b : List Int} {k : Nat} (h : PickW w p a b k wr) (hp : p.length = 12) (ha : a.length = 12) (hk : k < 12) {x : Int} (hx : x = p[k]) :
    PickW w p a b (k + 1) (wr.drew.setCell ⟨w.heap.size, k, none⟩ (.int .u64 x)) := by
  subst hx
  refine ⟨?_, ?_, ?_, ?_⟩
  · have := h.one.drew.set k (.int .u64 p[k])
    rw [cw_set, mixed_set (by rw [hp, ha]) (by omega)] at this
    exact this
  · exact h.two.drew.other _ _ (by simp)
  · exact h.out.drew.other _ _ (by show w.heap.size + 1 + 1 ≠ w.heap.size; omega)
  · exact h.old.drew.setCell (Nat.le_refl _) _

/-- The world inside SwapCell, when k words are turned. -/
structure SwapW (w : World) (p q a b : List Int) (k : Nat) (wr : World) : Prop where
  one : Blk wr w.heap.size (cw (mixed p a k)) 74
  two : Blk wr (w.heap.size + 1) (cw (mixed q b k)) 74
  out : Blk wr (w.heap.size + 1 + 1) z12 74
  out2 : Blk wr (w.heap.size + 1 + 1 + 1) z12 74
  old : Below w.heap.size w wr

theorem SwapW.step {w wr : World} {p q a b : List Int} {k : Nat} (h : SwapW w p q a b k wr) (hp : p.length = 12) (hq : q.length = 12) (ha : a.length = 12) (hb : b.length = 12) (hk : k < 12) {x y : Int} (hx : x = p[k]) (hy : y = q[k]) :
    SwapW w p q a b (k + 1) ((wr.drew.setCell ⟨w.heap.size, k, none⟩ (.int .u64 x)).setCell ⟨w.heap.size + 1, k, none⟩ (.int .u64 y)) := by
  subst hx hy
  refine ⟨?_, ?_, ?_, ?_, ?_⟩
  · have := (h.one.drew.set k (.int .u64 p[k])).other ⟨w.heap.size + 1, k, none⟩ (.int .u64 q[k]) (by show w.heap.size ≠ w.heap.size + 1; omega)
    rw [cw_set, mixed_set (by rw [hp, ha]) (by omega)] at this
    exact this
  · have := (h.two.drew.other ⟨w.heap.size, k, none⟩ (.int .u64 p[k]) (by show w.heap.size + 1 ≠ w.heap.size; omega)).set k (.int .u64 q[k])
    rw [cw_set, mixed_set (by rw [hq, hb]) (by omega)] at this
    exact this
  · exact (h.out.drew.other _ _ (by show w.heap.size + 1 + 1 ≠ w.heap.size; omega)).other _ _ (by show w.heap.size + 1 + 1 ≠ w.heap.size + 1; omega)
  · exact (h.out2.drew.other _ _ (by show w.heap.size + 1 + 1 + 1 ≠ w.heap.size; omega)).other _ _ (by show w.heap.size + 1 + 1 + 1 ≠ w.heap.size + 1; omega)
  · exact (h.old.drew.setCell (Nat.le_refl _) _).setCell (by show w.heap.size ≤ w.heap.size + 1; omega) _

theorem swapW_start (w : World) (p q a b : List Int) :
    SwapW w p q a b 0 ((((w.alloc (.cells (cw a) 74)).alloc (.cells (cw b) 74)).alloc (.cells z12 74)).alloc (.cells z12 74)) := by
  refine ⟨?_, ?_, ?_, ?_, ?_⟩
  · rw [mixed_zero]; exact (((Blk.new w _ _).alloc _).alloc _).alloc _
  · rw [mixed_zero]
    have := ((Blk.new (w.alloc (.cells (cw a) 74)) (cw b) 74).alloc (.cells z12 74)).alloc (.cells z12 74)
    rw [World.size_alloc] at this
    exact this
  · have := (Blk.new ((w.alloc (.cells (cw a) 74)).alloc (.cells (cw b) 74)) z12 74).alloc (.cells z12 74)
    rw [World.size_alloc, World.size_alloc] at this
    exact this
  · have := Blk.new (((w.alloc (.cells (cw a) 74)).alloc (.cells (cw b) 74)).alloc (.cells z12 74)) z12 74
    rw [World.size_alloc, World.size_alloc, World.size_alloc] at this
    exact this
  · exact ((((Below.refl _ _).alloc (Nat.le_refl _) _).alloc (by simp) _).alloc (by simp; omega) _).alloc (by simp; omega) _

/-- Two rows that are read, two variables that are written. -/
structure TwoRows (N : Nat) (p q : List Value) (w w' : World) : Prop where
  one : w'.rangeAt N 0 p
  two : w'.rangeAt (N + 1) 0 q
  out : w'.there (N + 1 + 1) 0 p.length
  out2 : w'.there (N + 1 + 1 + 1) 0 q.length
  old : Below N w w'
theorem TwoRows.store1 {N : Nat} {p q : List Value} {w w' : World} (h : TwoRows N p q w w') : TwoRows N p q w (w'.setCells (N + 1 + 1) 0 p) :=
  ⟨World.rangeAt_setCells_apart h.one _ _ _ (.inl (by omega)), World.rangeAt_setCells_apart h.two _ _ _ (.inl (by omega)), World.there_setCells h.out _ _ _, World.there_setCells h.out2 _ _ _, below_setCells (by omega) _ _ h.old⟩
theorem TwoRows.store2 {N : Nat} {p q : List Value} {w w' : World} (h : TwoRows N p q w w') : TwoRows N p q w (w'.setCells (N + 1 + 1 + 1) 0 q) :=
  ⟨World.rangeAt_setCells_apart h.one _ _ _ (.inl (by omega)), World.rangeAt_setCells_apart h.two _ _ _ (.inl (by omega)), World.there_setCells h.out _ _ _, World.there_setCells h.out2 _ _ _, below_setCells (by omega) _ _ h.old⟩

set_option maxHeartbeats 2000000 in
set_option maxRecDepth 100000 in
theorem swapCell_any (m : Int) (a b : List Int) (hm : Word m) (ha : a.length = 12) (hb : b.length = 12) (wa : ∀ x ∈ a, Word x) (wb : ∀ x ∈ b, Word x) (w : World) :
    Calls Tryz.prog 102 #[.int .u64 m, .agg (cw a), .agg (cw b)] w fun e w' => e = .returned (.tuple #[.agg (cw (List.zipWith (sw1 m) a b)), .agg (cw (List.zipWith (pk m) a b))]) ∧ Below w.heap.size w w' := by
  have hpl : (List.zipWith (sw1 m) a b).length = 12 := by simp [ha, hb]
  have hql : (List.zipWith (pk m) a b).length = 12 := by simp [ha, hb]
  have HP := Lib.hid hpl
  have HQ := Lib.hid hql
  have HA := Lib.hid ha
  have HB := Lib.hid hb
  clear hpl hql ha hb
  go_enter Tryz.func102, Tryz.ntmps102
  go_wp2_with fail
  go_loopw [9] (fun i wr => ∃ k : Nat, k ≤ 12 ∧ i = .int .i64 k ∧ SwapW w (List.zipWith (sw1 m) a b) (List.zipWith (pk m) a b) a b k wr) (fun i _ => 12 - (intOf i).toNat)
  case atStart => exact ⟨0, by omega, rfl, swapW_start w _ _ a b⟩
  case round =>
    obtain ⟨k, hk, rfl, hW⟩ := hrel
    by_cases hlt : k < 12
    · have hak : k < a.length := by rw [HA.out]; exact hlt
      have hbk : k < b.length := by rw [HB.out]; exact hlt
      have c1 : wr.cell? ⟨w.heap.size, k, none⟩ = some (.int .u64 a[k]) := by
        rw [hW.one.cell, cw_get (by rw [mixed_len (by rw [HP.out, HA.out]) (by omega)]; exact hak), mixed_at (by rw [HP.out, HA.out]) hak]
      have c2 : wr.cell? ⟨w.heap.size + 1, k, none⟩ = some (.int .u64 b[k]) := by
        rw [hW.two.cell, cw_get (by rw [mixed_len (by rw [HQ.out, HB.out]) (by omega)]; exact hbk), mixed_at (by rw [HQ.out, HB.out]) hbk]
      have f1 : wr.frozen? ⟨w.heap.size, k, none⟩ = false := hW.one.free k
      have f2 : wr.frozen? ⟨w.heap.size + 1, k, none⟩ = false := hW.two.free k
      have HW := Lib.hid hW
      clear hW
      have hp := Lib.hid (swap_any m a[k] b[k] hm (wa _ (List.getElem_mem _)) (wb _ (List.getElem_mem _)))
      go_wp2_with fail
      go_region_with (go_at_call 114; refine (hp.out _).mono ?_; rintro e w' ⟨rfl, rfl⟩)
      all_goals
        go_wp2
        go_roundw
        case rel => exact ⟨k + 1, by omega, by go_num, HW.out.step HP.out HQ.out HA.out HB.out hlt (by simp) (by simp)⟩
        case measure => simp [intOf]; omega
    · have hge : 12 ≤ k := by omega
      have r1 : wr.rangeAt w.heap.size 0 ((List.zipWith (sw1 m) a b).map (Value.int .u64)) := by
        have := hW.one
        rw [mixed_end HP.out HA.out hge] at this
        exact this.range
      have r2 : wr.rangeAt (w.heap.size + 1) 0 ((List.zipWith (pk m) a b).map (Value.int .u64)) := by
        have := hW.two
        rw [mixed_end HQ.out HB.out hge] at this
        exact this.range
      have t1 : wr.there (w.heap.size + 1 + 1) 0 12 := hW.out.there 12 (by decide)
      have t2 : wr.there (w.heap.size + 1 + 1 + 1) 0 12 := hW.out2.there 12 (by decide)
      have hb : Below w.heap.size w wr := hW.old
      clear hW
      have l1 : ((List.zipWith (sw1 m) a b).map (Value.int .u64)).length = 12 := by rw [List.length_map, HP.out]
      have l2 : ((List.zipWith (pk m) a b).map (Value.int .u64)).length = 12 := by rw [List.length_map, HQ.out]
      have o1 : ∀ v ∈ (List.zipWith (sw1 m) a b).map (Value.int .u64), v.oneCell' = true := by
        intro v hv; obtain ⟨_, _, rfl⟩ := List.mem_map.1 hv; rfl
      have o2 : ∀ v ∈ (List.zipWith (pk m) a b).map (Value.int .u64), v.oneCell' = true := by
        intro v hv; obtain ⟨_, _, rfl⟩ := List.mem_map.1 hv; rfl
      have i1 : (Tryz.prog.info? 74).map (·.size) = some ((List.zipWith (sw1 m) a b).map (Value.int .u64)).length := by rw [l1]; kernel_rfl
      have i2 : (Tryz.prog.info? 74).map (·.size) = some ((List.zipWith (pk m) a b).map (Value.int .u64)).length := by rw [l2]; kernel_rfl
      go_wp2_with fail
      refine wp_region_held_drew (S := TwoRows w.heap.size ((List.zipWith (sw1 m) a b).map (Value.int .u64)) ((List.zipWith (pk m) a b).map (Value.int .u64)) w) (by kernel_rfl) ⟨r1, r2, by rw [l1]; exact t1, by rw [l2]; exact t2, hb.drew⟩ (fun hH => ?_)
      refine wpAnyH_take (i := 0) (oi := _) (v := .agg ((List.zipWith (sw1 m) a b).map (Value.int .u64)).toArray) rfl (by kernel_rfl) (by kernel_rfl) (by kernel_rfl) (fun _ _ _ h => h) (yieldsIf_load_mid (by rfl) _ _ rfl _ _ rfl ((List.zipWith (sw1 m) a b).map (Value.int .u64)) _ (fun w hw => hw.one) Tryz.underlying74 rfl i1) hH ?_
      refine wpAnyH_take (i := 1) (oi := _) (v := .agg ((List.zipWith (pk m) a b).map (Value.int .u64)).toArray) rfl (by kernel_rfl) (by kernel_rfl) (by kernel_rfl) (fun _ _ _ h => h) (yieldsIf_load_mid (by rfl) _ _ rfl _ _ rfl ((List.zipWith (pk m) a b).map (Value.int .u64)) _ (fun w hw => hw.two) Tryz.underlying74 rfl i2) hH ?_
      refine wpAnyH_ready (rs := [2]) (by kernel_rfl) (by simp) ?_
      refine AllReadyH.cons (o := _) rfl (fun K hK => ?_) AllReadyH.nil
      rw [if_pos (by rfl)]
      refine wp_store_mid _ _ _ rfl _ _ ((List.zipWith (sw1 m) a b).map (Value.int .u64)).toArray rfl rfl (by simpa using hH.out) (by simpa using i1) (all_oneCell_toArray o1) ?_
      refine hK.out _ _ hH.store1 (fun hH' => ?_)
      refine wpAnyH_ready (rs := [3]) (by kernel_rfl) (by simp) ?_
      refine AllReadyH.cons (o := _) rfl (fun K hK => ?_) AllReadyH.nil
      rw [if_pos (by rfl)]
      refine wp_store_mid _ _ _ rfl _ _ ((List.zipWith (pk m) a b).map (Value.int .u64)).toArray rfl rfl (by simpa using hH'.out2) (by simpa using i2) (all_oneCell_toArray o2) ?_
      refine hK.out _ _ hH'.store2 (fun hH'' => ?_)
      refine wpAnyH_done (by kernel_rfl) ?_ _
      have f1 := World.rangeAt_setCells_apart (World.rangeAt_setCells_same _ _ _ _ hH.out) (w.heap.size + 1 + 1 + 1) 0 ((List.zipWith (pk m) a b).map (Value.int .u64)) (.inl (by omega))
      have f2 := World.rangeAt_setCells_same _ _ _ _ hH'.out2
      have f3 := hH''.old
      generalize (wr.drew.setCells (w.heap.size + 1 + 1) 0 ((List.zipWith (sw1 m) a b).map (Value.int .u64))).setCells (w.heap.size + 1 + 1 + 1) 0 ((List.zipWith (pk m) a b).map (Value.int .u64)) = w2 at f1 f2 f3 ⊢
      clear hH hH' hH''
      go_wp2
      exact bodyPost_ret (results_two_rows rfl _ _ (w.heap.size + 1 + 1) (w.heap.size + 1 + 1 + 1) ((List.zipWith (sw1 m) a b).map (Value.int .u64)) ((List.zipWith (pk m) a b).map (Value.int .u64)) _ rfl rfl f1 f2 Tryz.underlying74 rfl i1 i2) rfl ⟨rfl, f3⟩
end Go.Proofs.YthchfdobdghdoaaGreat
end
