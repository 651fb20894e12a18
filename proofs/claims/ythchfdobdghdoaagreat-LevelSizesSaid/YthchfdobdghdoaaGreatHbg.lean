/-
  Joined texts: LevS, RvA.
-/
import Derived.Test.YthchfdobdghdoaaGreatHbf
import Derived.Test.YthchfdobdghdoaaGreatHak
import Derived.Test.YthchfdobdghdoaaGreatHay
import Derived.Test.YthchfdobdghdoaaGreatHad
import Derived.Deep.RegionHeld3
import Derived.StillTailTactics
import Derived.Test.YthchfdobdghdoaaGreatHal
set_option linter.unusedVariables false
set_option linter.unusedSimpArgs false
set_option linter.unusedSectionVars false
set_option linter.unnecessarySimpa false
section

/-
  The walks of a level's config: its shape, its table, whether it is right, how many cells it needs.
-/
namespace Go.Sg
open Go Go.RowKit
/-- a level's config: leaves, slots, stash -/
abbrev Lc := Int × Int × Int
def lcSh (c : Lc) : Sh := (depthI c.1, c.2.1, c.2.2)
def lcTab (c : Lc) : Int := roundI (placesD (lcSh c))
def lcRight (c : Lc) : Bool := rightB c.1 && (rightD (lcSh c) && decide (lcTab c ≤ 1024))
def LcOk (c : Lc) : Prop := Num c.1 ∧ Num c.2.1 ∧ Num c.2.2
theorem below_rowS {B : Nat} {a w : World} (h : Below B a w) (g : Nat) (cs : Array Value) (hg : B ≤ g) : Below B a (w.setRow g cs) := by
  refine ⟨h.os, h.tape, h.output, ?_, fun k hk => ?_⟩
  · have := h.size
    simpa [World.setRow] using this
  · rw [← h.block k hk]
    have : g ≠ k := by omega
    simp [World.setRow, Array.getElem?_modify, this]
end Go.Sg
namespace Go.Proofs.YthchfdobdghdoaaGreat
open Go Go.RowKit Go.Sg
theorem info_shL (x y z : Int) : (Tryz.prog.info? 83).map (·.size) = some (#[Value.int .i64 x, .int .i64 y, .int .i64 z] : Array Value).size := by kernel_rfl
set_option maxHeartbeats 1000000 in
set_option maxRecDepth 100000 in
theorem shape_any (c : Lc) (hc : LcOk c) (w : World) :
    Calls Tryz.prog 40 #[.agg #[.int .i64 c.1, .int .i64 c.2.1, .int .i64 c.2.2]] w fun e w' => e = .returned (.agg #[.int .i64 (lcSh c).1, .int .i64 (lcSh c).2.1, .int .i64 (lcSh c).2.2]) ∧ Below w.heap.size w w' := by
  have KD := Lib.hid (fun w' => pathDepth_any c.1 hc.1 w')
  obtain ⟨w2, hw2⟩ : ∃ w2, (w.alloc (.cells #[.int .i64 c.1, .int .i64 c.2.1, .int .i64 c.2.2] 23)).alloc (.cells #[.int .i64 0, .int .i64 0, .int .i64 0] 83) = w2 := ⟨_, rfl⟩
  obtain ⟨B, hB⟩ : ∃ B, w.heap.size = B := ⟨_, rfl⟩
  have hb2 : Below w.heap.size w w2 := by rw [← hw2]; exact ((Below.refl _ _).alloc (Nat.le_refl _) _).alloc (by simp) _
  have h1 : Blk w2 B #[.int .i64 c.1, .int .i64 c.2.1, .int .i64 c.2.2] 23 := by rw [← hw2, ← hB]; exact (Blk.new w _ _).alloc _
  have h2 : Blk w2 (B + 1) #[.int .i64 0, .int .i64 0, .int .i64 0] 83 := by
    rw [← hw2, ← hB]
    have := Blk.new (w.alloc (.cells #[.int .i64 c.1, .int .i64 c.2.1, .int .i64 c.2.2] 23)) #[.int .i64 0, .int .i64 0, .int .i64 0] 83
    simpa using this
  have HB2 := Lib.hid hb2
  have H2 := Lib.hid h2
  have c0 : w2.drew.cell? ⟨B, 0, none⟩ = some (.int .i64 c.1) := h1.cell 0
  have c1 : w2.drew.cell? ⟨B, 1, none⟩ = some (.int .i64 c.2.1) := h1.cell 1
  have c2 : w2.drew.cell? ⟨B, 2, none⟩ = some (.int .i64 c.2.2) := h1.cell 2
  have ht : w2.drew.there (B + 1) 0 3 := h2.there 3 (by decide)
  have HBB : Hid (w.heap.size ≤ B + 1) := Lib.hid (by omega)
  clear hb2 h1 h2
  show Calls Tryz.prog 40 #[.agg #[.int .i64 c.1, .int .i64 c.2.1, .int .i64 c.2.2]] w fun e w' => e = .returned (.agg #[.int .i64 (depthI c.1), .int .i64 c.2.1, .int .i64 c.2.2]) ∧ Below w.heap.size w w'
  generalize depthI c.1 = dd at *
  obtain ⟨L, S, T⟩ := c
  simp only at *
  go_enter Tryz.func40, Tryz.ntmps40
  have HI := Lib.hid (info_shL dd S T)
  go_wp2_with fail
  go_still_tail 8, (by kernel_rfl)
  refine wpStill_step (fun K hK => ?_)
  go_simp
  refine ⟨_, KD.out _, hK _ ?_⟩
  clear hK K
  repeat still_step
  refine wpStill_nil ?_
  change wpList _ _ _ _ _ w2.drew
  refine wpList_store_row rfl 83 (.tmp 2) (.tmp 10) rfl (B + 1) #[.int .i64 dd, .int .i64 S, .int .i64 T] rfl rfl 83 _ H2.out.drew HI.out (by rfl) (by simp [Value.oneCell']) ?_
  go_wp2
  have HBF : Hid (Below w.heap.size w (w2.drew.setRow (B + 1) #[.int .i64 dd, .int .i64 S, .int .i64 T])) := Lib.hid (below_rowS HB2.out.drew _ _ HBB.out)
  refine bodyPost_ret (results_cell_row rfl _ _ (B + 1) 83 _ (0, 0) _ rfl (H2.out.drew.setRow _) Tryz.underlying83 rfl HI.out) rfl ⟨rfl, HBF.out⟩
end Go.Proofs.YthchfdobdghdoaaGreat
namespace Go.Sg
open Go Go.RowKit
theorem roundI_low {n : Int} (h0 : 0 ≤ n) (h : n ≤ 256) : ∃ t : Nat, t ≤ 8 ∧ roundI n = 2 ^ t ∧ n ≤ 2 ^ t := by
  obtain ⟨j, hj, e, h1, h2⟩ := roundI_pow (n := n) ⟨by omega, by omega⟩
  have hj8 : j ≤ 8 := by
    rcases h1 with h1 | h1
    · omega
    · rcases Nat.lt_or_ge j 9 with h3 | h3
      · omega
      · have h4 := pow_mono' 8 (j - 1) (by omega)
        have h5 : (2 : Int) ^ 8 = 256 := by decide
        omega
  refine ⟨j, hj8, e, ?_⟩
  rcases h2 with h2 | h2
  · exact h2
  · omega
theorem lcTab_pow (c : Lc) : ∃ t : Nat, t ≤ 8 ∧ lcTab c = 2 ^ t ∧ placesD (lcSh c) ≤ 2 ^ t := by
  have := placesD_bd (lcSh c)
  exact roundI_low (by omega) (by omega)
theorem lcTab_bd (c : Lc) : 1 ≤ lcTab c ∧ lcTab c ≤ 256 ∧ placesD (lcSh c) ≤ lcTab c ∧ rightB (lcTab c) = true := by
  obtain ⟨t, ht, e, h⟩ := lcTab_pow c
  have h1 := pow_mono' 0 t (by omega)
  have h2 := pow_mono' t 8 ht
  have h3 : (2 : Int) ^ 8 = 256 := by decide
  have h4 : (2 : Int) ^ 0 = 1 := by decide
  exact ⟨by omega, by omega, by omega, by rw [e]; exact rightB_pow t (by omega)⟩
end Go.Sg
namespace Go.Proofs.YthchfdobdghdoaaGreat
open Go Go.RowKit Go.Sg
set_option maxHeartbeats 1000000 in
set_option maxRecDepth 100000 in
theorem table_any (c : Lc) (hc : LcOk c) (w : World) :
    Calls Tryz.prog 33 #[.agg #[.int .i64 c.1, .int .i64 c.2.1, .int .i64 c.2.2]] w fun e w' => e = .returned (.int .i64 (lcTab c)) ∧ Below w.heap.size w w' := by
  have KS := Lib.hid (fun w' => shape_any c hc w')
  have KP := Lib.hid (fun w' => places_any (lcSh c) w')
  have hb := placesD_bd (lcSh c)
  have KR := Lib.hid (fun w' => round_any (placesD (lcSh c)) (by omega) (by omega) w')
  show Calls Tryz.prog 33 #[.agg #[.int .i64 c.1, .int .i64 c.2.1, .int .i64 c.2.2]] w fun e w' => e = .returned (.int .i64 (roundI (placesD (lcSh c)))) ∧ Below w.heap.size w w'
  generalize lcSh c = sh at *
  obtain ⟨L, S, T⟩ := c
  simp only at *
  generalize placesD sh = pp at *
  generalize roundI pp = rr at *
  obtain ⟨sd, ss, st⟩ := sh
  simp only at *
  have HB1 : Hid (Below w.heap.size w (w.alloc (.cells #[.int .i64 L, .int .i64 S, .int .i64 T] 23))) := Lib.hid ((Below.refl _ _).alloc (Nat.le_refl _) _)
  clear hc hb
  go_enter Tryz.func33, Tryz.ntmps33
  go_wp2_with fail
  refine (KS.out _).mono ?_
  rintro e w2 ⟨rfl, hb2⟩
  have HB2 : Hid (Below w.heap.size w w2) := Lib.hid (HB1.out.trans (hb2.mono HB1.out.size))
  clear hb2
  go_wp2_with fail
  refine (KP.out _).mono ?_
  rintro e w3 ⟨rfl, hb3⟩
  have HB3 : Hid (Below w.heap.size w w3) := Lib.hid (HB2.out.trans (hb3.mono HB2.out.size))
  clear hb3
  go_wp2_with fail
  refine (KR.out _).mono ?_
  rintro e w4 ⟨rfl, rfl⟩
  go_wp2
  go_ret
  exact ⟨rfl, HB3.out⟩
set_option maxHeartbeats 1000000 in
set_option maxRecDepth 100000 in
theorem lright_any (c : Lc) (hc : LcOk c) (w : World) :
    Calls Tryz.prog 9 #[.agg #[.int .i64 c.1, .int .i64 c.2.1, .int .i64 c.2.2]] w fun e w' => e = .returned (.bool (lcRight c)) ∧ Below w.heap.size w w' := by
  have KA := Lib.hid (fun w' => pathRight_any c.1 hc.1 w')
  have KS := Lib.hid (fun w' => shape_any c hc w')
  have KR := Lib.hid (fun w' => right_any (lcSh c) w')
  have KT := Lib.hid (fun w' => table_any c hc w')
  have HV : Hid (lcRight c = (rightB c.1 && (rightD (lcSh c) && decide (lcTab c ≤ 1024)))) := Lib.hid rfl
  generalize lcRight c = x at *
  generalize lcSh c = sh at *
  generalize lcTab c = tt at *
  obtain ⟨L, S, T⟩ := c
  simp only at *
  obtain ⟨sd, ss, st⟩ := sh
  simp only at *
  generalize rightD (sd, ss, st) = rd at *
  generalize rightB L = rb at *
  have HB1 : Hid (Below w.heap.size w (w.alloc (.cells #[.int .i64 L, .int .i64 S, .int .i64 T] 23))) := Lib.hid ((Below.refl _ _).alloc (Nat.le_refl _) _)
  have HK1 : Hid (Blk (w.alloc (.cells #[.int .i64 L, .int .i64 S, .int .i64 T] 23)) w.heap.size #[.int .i64 L, .int .i64 S, .int .i64 T] 23) := Lib.hid (Blk.new w _ _)
  obtain ⟨B, hB⟩ : ∃ B, w.heap.size = B := ⟨_, rfl⟩
  rw [hB] at HK1
  clear hc
  go_enter Tryz.func9, Tryz.ntmps9
  cases rb with
  | false =>
    have hx : x = false := by have := HV.out; simpa using this
    subst hx
    go_wp2_with (first
      | (go_at_call 38; refine (KA.out _).mono ?_; rintro e w' ⟨rfl, rfl⟩)
      | fail)
    go_ret
    exact ⟨rfl, HB1.out⟩
  | true =>
    go_wp2_with (first
      | (go_at_call 38; refine (KA.out _).mono ?_; rintro e w' ⟨rfl, rfl⟩)
      | fail)
    refine (KS.out _).mono ?_
    rintro e w2 ⟨rfl, hb2⟩
    have HB2 : Hid (Below w.heap.size w w2) := Lib.hid (HB1.out.trans (hb2.mono HB1.out.size))
    have HK2 := Lib.hid (HK1.out.below hb2 HK1.out.lt)
    clear hb2
    go_wp2_with fail
    refine (KR.out _).mono ?_
    rintro e w3 ⟨rfl, hb3⟩
    have HB3 : Hid (Below w.heap.size w w3) := Lib.hid (HB2.out.trans (hb3.mono HB2.out.size))
    have HK3 := Lib.hid (HK2.out.below hb3 HK2.out.lt)
    have c0 : w3.cell? ⟨B, 0, none⟩ = some (.int .i64 L) := HK3.out.cell 0
    have c1 : w3.cell? ⟨B, 1, none⟩ = some (.int .i64 S) := HK3.out.cell 1
    have c2 : w3.cell? ⟨B, 2, none⟩ = some (.int .i64 T) := HK3.out.cell 2
    clear hb3
    cases rd with
    | false =>
      have hx : x = false := by have := HV.out; simpa using this
      subst hx
      go_wp2
      go_ret
      exact ⟨rfl, HB3.out⟩
    | true =>
      have hx : x = decide (tt ≤ 1024) := by have := HV.out; simpa using this
      subst hx
      go_wp2_with fail
      refine (KT.out _).mono ?_
      rintro e w4 ⟨rfl, hb4⟩
      have HB4 : Hid (Below w.heap.size w w4) := Lib.hid (HB3.out.trans (hb4.mono HB3.out.size))
      clear hb4
      go_wp2
      go_ret
      exact ⟨by simp, HB4.out⟩
end Go.Proofs.YthchfdobdghdoaaGreat
end
section
/-
  The walks of shellgameref10's shape, Right and Sizes: they tell what level's do.
-/
namespace Go.Proofs.YthchfdobdghdoaaGreat
open Go Go.RowKit Go.Sg
theorem info_rshL (x y z : Int) : (Tryz.prog.info? 79).map (·.size) = some (#[Value.int .i64 x, .int .i64 y, .int .i64 z] : Array Value).size := by kernel_rfl
theorem info_rcL (c : Lc) : (Tryz.prog.info? 28).map (·.size) = some (#[.int .i64 c.1, .int .i64 c.2.1, .int .i64 c.2.2] : Array Value).size := by kernel_rfl
set_option maxHeartbeats 1000000 in
set_option maxRecDepth 100000 in
theorem rshape_any (c : Lc) (hc : LcOk c) (w : World) :
    Calls Tryz.prog 37 #[.agg #[.int .i64 c.1, .int .i64 c.2.1, .int .i64 c.2.2]] w fun e w' => e = .returned (.agg #[.int .i64 (lcSh c).1, .int .i64 (lcSh c).2.1, .int .i64 (lcSh c).2.2]) ∧ Below w.heap.size w w' := by
  have KD := Lib.hid (fun w' => ref8Depth_any c.1 hc.1 w')
  obtain ⟨w2, hw2⟩ : ∃ w2, (w.alloc (.cells #[.int .i64 c.1, .int .i64 c.2.1, .int .i64 c.2.2] 28)).alloc (.cells #[.int .i64 0, .int .i64 0, .int .i64 0] 79) = w2 := ⟨_, rfl⟩
  obtain ⟨B, hB⟩ : ∃ B, w.heap.size = B := ⟨_, rfl⟩
  have hb2 : Below w.heap.size w w2 := by rw [← hw2]; exact ((Below.refl _ _).alloc (Nat.le_refl _) _).alloc (by simp) _
  have h1 : Blk w2 B #[.int .i64 c.1, .int .i64 c.2.1, .int .i64 c.2.2] 28 := by rw [← hw2, ← hB]; exact (Blk.new w _ _).alloc _
  have h2 : Blk w2 (B + 1) #[.int .i64 0, .int .i64 0, .int .i64 0] 79 := by
    rw [← hw2, ← hB]
    have := Blk.new (w.alloc (.cells #[.int .i64 c.1, .int .i64 c.2.1, .int .i64 c.2.2] 28)) #[.int .i64 0, .int .i64 0, .int .i64 0] 79
    simpa using this
  have HB2 := Lib.hid hb2
  have H2 := Lib.hid h2
  have c0 : w2.drew.cell? ⟨B, 0, none⟩ = some (.int .i64 c.1) := h1.cell 0
  have c1 : w2.drew.cell? ⟨B, 1, none⟩ = some (.int .i64 c.2.1) := h1.cell 1
  have c2 : w2.drew.cell? ⟨B, 2, none⟩ = some (.int .i64 c.2.2) := h1.cell 2
  have ht : w2.drew.there (B + 1) 0 3 := h2.there 3 (by decide)
  have HBB : Hid (w.heap.size ≤ B + 1) := Lib.hid (by omega)
  clear hb2 h1 h2
  show Calls Tryz.prog 37 #[.agg #[.int .i64 c.1, .int .i64 c.2.1, .int .i64 c.2.2]] w fun e w' => e = .returned (.agg #[.int .i64 (depthI c.1), .int .i64 c.2.1, .int .i64 c.2.2]) ∧ Below w.heap.size w w'
  generalize depthI c.1 = dd at *
  obtain ⟨L, S, T⟩ := c
  simp only at *
  go_enter Tryz.func37, Tryz.ntmps37
  have HI := Lib.hid (info_rshL dd S T)
  go_wp2_with fail
  go_still_tail 8, (by kernel_rfl)
  refine wpStill_step (fun K hK => ?_)
  go_simp
  refine ⟨_, KD.out _, hK _ ?_⟩
  clear hK K
  repeat still_step
  refine wpStill_nil ?_
  change wpList _ _ _ _ _ w2.drew
  refine wpList_store_row rfl 79 (.tmp 2) (.tmp 10) rfl (B + 1) #[.int .i64 dd, .int .i64 S, .int .i64 T] rfl rfl 79 _ H2.out.drew HI.out (by rfl) (by simp [Value.oneCell']) ?_
  go_wp2
  have HBF : Hid (Below w.heap.size w (w2.drew.setRow (B + 1) #[.int .i64 dd, .int .i64 S, .int .i64 T])) := Lib.hid (below_rowS HB2.out.drew _ _ HBB.out)
  refine bodyPost_ret (results_cell_row rfl _ _ (B + 1) 79 _ (0, 0) _ rfl (H2.out.drew.setRow _) Tryz.underlying79 rfl HI.out) rfl ⟨rfl, HBF.out⟩
set_option maxHeartbeats 1000000 in
set_option maxRecDepth 100000 in
theorem rvright_any (c : Lc) (hc : LcOk c) (w : World) :
    Calls Tryz.prog 10 #[.agg #[.int .i64 c.1, .int .i64 c.2.1, .int .i64 c.2.2]] w fun e w' => e = .returned (.bool (lcRight c)) ∧ Below w.heap.size w w' := by
  have KA := Lib.hid (fun w' => ref8Right_any c.1 hc.1 w')
  have KS := Lib.hid (fun w' => rshape_any c hc w')
  have KR := Lib.hid (fun w' => rright_any (lcSh c) w')
  have KP := Lib.hid (fun w' => rplaces_any (lcSh c) w')
  have KO := Lib.hid (fun w' => refRound_any (placesD (lcSh c)) (by have := placesD_bd (lcSh c); unfold Num; omega) w')
  rw [show roundI (placesD (lcSh c)) = lcTab c from rfl] at KO
  have HV : Hid (lcRight c = (rightB c.1 && (rightD (lcSh c) && decide (lcTab c ≤ 1024)))) := Lib.hid rfl
  generalize lcRight c = x at *
  generalize lcSh c = sh at *
  generalize placesD sh = pp at *
  generalize lcTab c = tt at *
  obtain ⟨L, S, T⟩ := c
  simp only at *
  obtain ⟨sd, ss, st⟩ := sh
  simp only at *
  generalize rightD (sd, ss, st) = rd at *
  generalize rightB L = rb at *
  have HB1 : Hid (Below w.heap.size w (w.alloc (.cells #[.int .i64 L, .int .i64 S, .int .i64 T] 28))) := Lib.hid ((Below.refl _ _).alloc (Nat.le_refl _) _)
  have HK1 : Hid (Blk (w.alloc (.cells #[.int .i64 L, .int .i64 S, .int .i64 T] 28)) w.heap.size #[.int .i64 L, .int .i64 S, .int .i64 T] 28) := Lib.hid (Blk.new w _ _)
  obtain ⟨B, hB⟩ : ∃ B, w.heap.size = B := ⟨_, rfl⟩
  rw [hB] at HK1
  clear hc
  go_enter Tryz.func10, Tryz.ntmps10
  cases rb with
  | false =>
    have hx : x = false := by have := HV.out; simpa using this
    subst hx
    go_wp2_with (first
      | (go_at_call 41; refine (KA.out _).mono ?_; rintro e w' ⟨rfl, rfl⟩)
      | fail)
    go_ret
    exact ⟨rfl, HB1.out⟩
  | true =>
    go_wp2_with (first
      | (go_at_call 41; refine (KA.out _).mono ?_; rintro e w' ⟨rfl, rfl⟩)
      | fail)
    refine (KS.out _).mono ?_
    rintro e w2 ⟨rfl, hb2⟩
    have HB2 : Hid (Below w.heap.size w w2) := Lib.hid (HB1.out.trans (hb2.mono HB1.out.size))
    have HK2 := Lib.hid (HK1.out.below hb2 HK1.out.lt)
    clear hb2
    go_wp2_with fail
    refine (KR.out _).mono ?_
    rintro e w3 ⟨rfl, hb3⟩
    have HB3 : Hid (Below w.heap.size w w3) := Lib.hid (HB2.out.trans (hb3.mono HB2.out.size))
    have HK3 := Lib.hid (HK2.out.below hb3 HK2.out.lt)
    have c0 : w3.cell? ⟨B, 0, none⟩ = some (.int .i64 L) := HK3.out.cell 0
    have c1 : w3.cell? ⟨B, 1, none⟩ = some (.int .i64 S) := HK3.out.cell 1
    have c2 : w3.cell? ⟨B, 2, none⟩ = some (.int .i64 T) := HK3.out.cell 2
    clear hb3
    cases rd with
    | false =>
      have hx : x = false := by have := HV.out; simpa using this
      subst hx
      go_wp2
      go_ret
      exact ⟨rfl, HB3.out⟩
    | true =>
      have hx : x = decide (tt ≤ 1024) := by have := HV.out; simpa using this
      subst hx
      go_wp2_with fail
      refine (KS.out _).mono ?_
      rintro e w4 ⟨rfl, hb4⟩
      have HB4 : Hid (Below w.heap.size w w4) := Lib.hid (HB3.out.trans (hb4.mono HB3.out.size))
      clear hb4
      go_wp2_with fail
      refine (KP.out _).mono ?_
      rintro e w5 ⟨rfl, hb5⟩
      have HB5 : Hid (Below w.heap.size w w5) := Lib.hid (HB4.out.trans (hb5.mono HB4.out.size))
      clear hb5
      go_wp2_with fail
      refine (KO.out _).mono ?_
      rintro e w6 ⟨rfl, rfl⟩
      go_wp2
      go_ret
      exact ⟨by simp, HB5.out⟩
end Go.Proofs.YthchfdobdghdoaaGreat
end
