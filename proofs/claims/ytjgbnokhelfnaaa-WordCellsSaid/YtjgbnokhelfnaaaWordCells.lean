/-
  The walk of shellgamelaw1.WordCells.
-/
import Derived.Test.YtjgbnokhelfnaaaLaw1
import Derived.Test.YtjgbnokhelfnaaaCells
import Derived.Test.YtjgbnokhelfnaaaCellFn1
import Derived.Test.YtjgbnokhelfnaaaCellEq
import Derived.Test.YtjgbnokhelfnaaaReg
namespace Go.Proofs.Ytjgbnokhelfnaaa
open Go.RowKit Go.Sg

structure FourW (w : World) (x y p q : List Int) (g1 g2 g3 g4 : Nat) (w' : World) : Prop where
  one : Blk w' g1 (cw x) 38
  two : Blk w' g2 (cw y) 38
  three : Blk w' g3 (cw p) 38
  four : Blk w' g4 (cw q) 38
  old : Below w.heap.size w w'

theorem FourW.below {w : World} {x y p q : List Int} {g1 g2 g3 g4 : Nat} {w' w'' : World} (h : FourW w x y p q g1 g2 g3 g4 w') (hb : Below w'.heap.size w' w'') : FourW w x y p q g1 g2 g3 g4 w'' :=
  ⟨h.one.below hb h.one.lt, h.two.below hb h.two.lt, h.three.below hb h.three.lt, h.four.below hb h.four.lt, h.old.trans (hb.mono h.old.size)⟩

set_option maxHeartbeats 4000000 in
theorem WordCells_walk (m a b : Int) (hm : Word m) (_ha : Word a) (_hb : Word b) (w : World) :
    Calls Try.prog 10 #[.int .u64 m, .int .u64 a, .int .u64 b] w fun e w' => e = .returned (.bool true) ∧ Below w.heap.size w w' := by
  have Ka := Lib.hid (cell1_any a)
  have Kb := Lib.hid (cell1_any b)
  have la := cellL_len a
  have lb := cellL_len b
  have wa : ∀ z ∈ cellL a, Word z := cellL_word a
  have wb : ∀ z ∈ cellL b, Word z := cellL_word b
  generalize cellL a = x at *
  generalize cellL b = y at *
  have lab : x.length = y.length := by rw [la, lb]
  obtain ⟨t1, t2⟩ := zip_twice hm x y lab wa wb
  have wp : ∀ z ∈ List.zipWith (sw1 m) x y, Word z := zip_word (fun _ _ h1 h2 => sw1_word hm h1 h2) x y wa wb
  have wq : ∀ z ∈ List.zipWith (pk m) x y, Word z := zip_word (fun _ _ h1 h2 => pk_word hm h1 h2) x y wa wb
  have lp : (List.zipWith (sw1 m) x y).length = 12 := by simp [la, lb]
  have lq : (List.zipWith (pk m) x y).length = 12 := by simp [la, lb]
  have KS : Hid (∀ w, Calls Try.prog 24 #[.int .u64 m, .agg (cw x), .agg (cw y)] w fun e w' => e = .returned (.tuple #[.agg (cw (List.zipWith (sw1 m) x y)), .agg (cw (List.zipWith (pk m) x y))]) ∧ Below w.heap.size w w') :=
    Lib.hid fun w => swapCell_any m x y hm la lb wa wb w
  have KT : Hid (∀ w, Calls Try.prog 24 #[.int .u64 m, .agg (cw (List.zipWith (sw1 m) x y)), .agg (cw (List.zipWith (pk m) x y))] w fun e w' => e = .returned (.tuple #[.agg (cw x), .agg (cw y)]) ∧ Below w.heap.size w w') :=
    Lib.hid fun w => by
      have := swapCell_any m _ _ hm lp lq wp wq w
      rwa [t1, t2] at this
  have hx : Hid (∀ k (h1 : k < x.length) (h2 : k < y.length) (h3 : k < (List.zipWith (sw1 m) x y).length) (h4 : k < (List.zipWith (pk m) x y).length),
      bits .xor .u64 (List.zipWith (sw1 m) x y)[k] (List.zipWith (pk m) x y)[k] = bits .xor .u64 x[k] y[k] ∧
      bits .and .u64 (List.zipWith (sw1 m) x y)[k] (List.zipWith (pk m) x y)[k] = bits .and .u64 x[k] y[k] ∧
      bits .or .u64 (List.zipWith (sw1 m) x y)[k] (List.zipWith (pk m) x y)[k] = bits .or .u64 x[k] y[k]) := Lib.hid fun k h1 h2 h3 h4 => by
    have ex := wa _ (List.getElem_mem h1)
    have ey := wb _ (List.getElem_mem h2)
    rw [List.getElem_zipWith, List.getElem_zipWith]
    rw [bits_xr (sw1_word hm ex ey) (pk_word hm ex ey), bits_xr ex ey, bits_an (sw1_word hm ex ey) (pk_word hm ex ey), bits_an ex ey, bits_rr (sw1_word hm ex ey) (pk_word hm ex ey), bits_rr ex ey]
    exact ⟨sw_xr ex ey hm, sw_an ex ey hm, sw_rr ex ey hm⟩
  have K1 : Hid (∀ w, Calls Try.prog 27 #[.int .u64 m, .agg (cw x), .agg (cw x)] w fun e w' => e = .returned (.agg (cw x)) ∧ Below w.heap.size w w') := Lib.hid fun w => by
    have := pickCell_any m x x hm la la wa wa w
    rwa [zip_same x wa] at this
  have K2 : Hid (∀ w, Calls Try.prog 27 #[.int .u64 0, .agg (cw x), .agg (cw y)] w fun e w' => e = .returned (.agg (cw y)) ∧ Below w.heap.size w w') := Lib.hid fun w => by
    have := pickCell_any 0 x y zero_word la lb wa wb w
    rwa [zip_zero x y lab wa wb] at this
  have K3 : Hid (∀ w, Calls Try.prog 27 #[.int .u64 18446744073709551615, .agg (cw x), .agg (cw y)] w fun e w' => e = .returned (.agg (cw x)) ∧ Below w.heap.size w w') := Lib.hid fun w => by
    have := pickCell_any 18446744073709551615 x y (by simp [Word]) la lb wa wb w
    rwa [zip_max x y lab wa wb] at this
  have q1 : ∀ w, (Op.equalIn 10000 38 (.agg (cw x)) (.agg (cw x))).run Try.prog w = .ok true w := fun w => by rw [run_eqcell x x la la w]; simp
  have q2 : ∀ w, (Op.equalIn 10000 38 (.agg (cw y)) (.agg (cw y))).run Try.prog w = .ok true w := fun w => by rw [run_eqcell y y lb lb w]; simp
  have Q1 := Lib.hid q1
  have Q2 := Lib.hid q2
  have HX := Lib.hid la
  have HY := Lib.hid lb
  have HP := Lib.hid lp
  have HQ := Lib.hid lq
  have I : ∀ l : List Int, l.length = 12 → (Try.prog.info? 38).map (·.size) = some (cw l).size := fun l h => by rw [cw_size, h]; kernel_rfl
  have HI1 := Lib.hid (I x la)
  have HI2 := Lib.hid (I y lb)
  have HI3 := Lib.hid (I _ lp)
  have HI4 := Lib.hid (I _ lq)
  clear q1 q2 t1 t2 wa wb wp wq la lb lp lq lab I hm
  generalize List.zipWith (sw1 m) x y = p at *
  generalize List.zipWith (pk m) x y = q at *
  go_enter Try.func10, Try.ntmps10
  go_wp2_with fail
  refine (shown1 _).mono ?_; rintro e wA ⟨rfl, rfl⟩
  go_wp2_with fail
  refine (Ka.out _).mono ?_; rintro e w1 ⟨rfl, hb1⟩
  have B1 := Lib.hid (Blk.new w1 z12 38)
  go_wp2_with (first
    | (refine wpList_store_row rfl 38 (.tmp 8) (.tmp 17) rfl w1.heap.size (cw x) rfl rfl 38 _ B1.out HI1.out (by rw [cw_size, HX.out]; rfl) (cw_one _) ?_)
    | fail)
  refine (Kb.out _).mono ?_; rintro e w2 ⟨rfl, hb2⟩
  have o1 : Below wA.heap.size wA w2 := (below_setRow ((hb1.alloc hb1.size _)) hb1.size _).trans (hb2.mono (by simp; have := hb1.size; omega))
  have r1 : Blk w2 w1.heap.size (cw x) 38 := (B1.out.setRow (cw x)).below hb2 (by simp)
  clear hb1 hb2 B1
  generalize w1.heap.size = g1 at *
  have B2 := Lib.hid (Blk.new w2 z12 38)
  have O1 := Lib.hid o1
  have R1 := Lib.hid r1
  have h12 : g1 < w2.heap.size := r1.lt
  clear o1 r1
  go_wp2_with (first
    | (refine wpList_store_row rfl 38 (.tmp 9) (.tmp 19) rfl w2.heap.size (cw y) rfl rfl 38 _ B2.out HI2.out (by rw [cw_size, HY.out]; rfl) (cw_one _) ?_)
    | (refine wpList_load_row rfl 38 (.tmp 8) rfl g1 rfl 38 (cw x) (0, 0) _ ((R1.out.alloc _).rowOther _ (by omega)) Try.underlying38 rfl HI1.out ?_)
    | (refine wpList_load_row rfl 38 (.tmp 9) rfl w2.heap.size rfl 38 (cw y) (0, 0) _ (B2.out.setRow _) Try.underlying38 rfl HI2.out ?_)
    | fail)
  refine (KS.out _).mono ?_; rintro e w3 ⟨rfl, hb3⟩
  have o3 : Below wA.heap.size wA w3 := (below_setRow (O1.out.alloc O1.out.size _) O1.out.size _).trans (hb3.mono (by simp; have := O1.out.size; omega))
  have r3 : Blk w3 g1 (cw x) 38 := ((R1.out.alloc _).rowOther _ (by omega)).below hb3 (by simp; omega)
  have s3 : Blk w3 w2.heap.size (cw y) 38 := (B2.out.setRow _).below hb3 (by simp)
  clear O1 R1 B2 hb3
  generalize w2.heap.size = g2 at *
  have h23 : g2 < w3.heap.size := s3.lt
  have O3 := Lib.hid o3
  have R3 := Lib.hid r3
  have S3 := Lib.hid s3
  have B3 : Hid (Blk ((w3.alloc (.cells z12 38)).alloc (.cells z12 38)) w3.heap.size z12 38) := Lib.hid ((Blk.new w3 _ _).alloc _)
  have B4 : Hid (Blk ((w3.alloc (.cells z12 38)).alloc (.cells z12 38)) (w3.heap.size + 1) z12 38) := Lib.hid (by
    have := Blk.new (w3.alloc (.cells z12 38)) z12 38
    rw [World.size_alloc] at this
    exact this)
  clear o3 r3 s3
  go_wp2_with (first
    | (refine wpList_store_row rfl 38 (.tmp 10) (.tmp 25) rfl w3.heap.size (cw p) rfl rfl 38 _ B3.out HI3.out (by rw [cw_size, HP.out]; rfl) (cw_one _) ?_)
    | (refine wpList_store_row rfl 38 (.tmp 11) (.tmp 26) rfl (w3.heap.size + 1) (cw q) rfl rfl 38 _ (B4.out.rowOther _ (by omega)) HI4.out (by rw [cw_size, HQ.out]; rfl) (cw_one _) ?_)
    | (refine wpList_load_row rfl 38 (.tmp 10) rfl w3.heap.size rfl 38 (cw p) (0, 0) _ ((B3.out.setRow _).rowOther _ (by omega)) Try.underlying38 rfl HI3.out ?_)
    | (refine wpList_load_row rfl 38 (.tmp 11) rfl (w3.heap.size + 1) rfl 38 (cw q) (0, 0) _ ((B4.out.rowOther _ (by omega)).setRow _) Try.underlying38 rfl HI4.out ?_)
    | fail)
  refine (KT.out _).mono ?_; rintro e w4 ⟨rfl, hb4⟩
  have F4 : Hid (FourW wA x y p q g1 g2 w3.heap.size (w3.heap.size + 1) w4) := Lib.hid
    ⟨((((R3.out.alloc _).alloc _).rowOther _ (by omega)).rowOther _ (by omega)).below hb4 (by simp; omega),
     ((((S3.out.alloc _).alloc _).rowOther _ (by omega)).rowOther _ (by omega)).below hb4 (by simp; omega),
     ((B3.out.setRow _).rowOther _ (by omega)).below hb4 (by simp; omega),
     ((B4.out.rowOther _ (by omega)).setRow _).below hb4 (by simp),
     (below_setRow (below_setRow ((O3.out.alloc O3.out.size _).alloc (by simp; have := O3.out.size; omega) _) O3.out.size _) (by have := O3.out.size; omega) _).trans (hb4.mono (by simp; have := O3.out.size; omega))⟩
  clear O3 R3 S3 B3 B4 hb4 h12 h23
  generalize w3.heap.size = g3 at *
  generalize g3 + 1 = g4 at *
  have B5 : Hid (Blk ((w4.alloc (.cells z12 38)).alloc (.cells z12 38)) w4.heap.size z12 38) := Lib.hid ((Blk.new w4 _ _).alloc _)
  have B6 : Hid (Blk ((w4.alloc (.cells z12 38)).alloc (.cells z12 38)) (w4.heap.size + 1) z12 38) := Lib.hid (by
    have := Blk.new (w4.alloc (.cells z12 38)) z12 38
    rw [World.size_alloc] at this
    exact this)
  go_wp2_with (first
    | (refine wpList_store_row rfl 38 (.tmp 12) (.tmp 32) rfl w4.heap.size (cw x) rfl rfl 38 _ B5.out HI1.out (by rw [cw_size, HX.out]; rfl) (cw_one _) ?_)
    | (refine wpList_store_row rfl 38 (.tmp 13) (.tmp 33) rfl (w4.heap.size + 1) (cw y) rfl rfl 38 _ (B6.out.rowOther _ (by omega)) HI2.out (by rw [cw_size, HY.out]; rfl) (cw_one _) ?_)
    | fail)
  have F5 : FourW wA x y p q g1 g2 g3 g4 ((((w4.alloc (.cells z12 38)).alloc (.cells z12 38)).setRow w4.heap.size (cw x)).setRow (w4.heap.size + 1) (cw y)) := by
    have := F4.out
    have l1 := this.one.lt; have l2 := this.two.lt; have l3 := this.three.lt; have l4 := this.four.lt
    exact ⟨(((this.one.alloc _).alloc _).rowOther _ (by omega)).rowOther _ (by omega), (((this.two.alloc _).alloc _).rowOther _ (by omega)).rowOther _ (by omega),
      (((this.three.alloc _).alloc _).rowOther _ (by omega)).rowOther _ (by omega), (((this.four.alloc _).alloc _).rowOther _ (by omega)).rowOther _ (by omega),
      below_setRow (below_setRow ((this.old.alloc this.old.size _).alloc (by simp; have := this.old.size; omega) _) this.old.size _) (by have := this.old.size; omega) _⟩
  refine at_world (fun w' => FourW wA x y p q g1 g2 g3 g4 w' ∧ Blk w' w4.heap.size (cw x) 38 ∧ Blk w' (w4.heap.size + 1) (cw y) 38)
    ⟨F5, (B5.out.setRow _).rowOther _ (by omega), (B6.out.rowOther _ (by omega)).setRow _⟩ ?_
  clear F4 F5 B5 B6
  generalize w4.heap.size = g5
  generalize g5 + 1 = g6
  rintro wR ⟨hF, h5, h6⟩
  have F := Lib.hid hF
  have H5 := Lib.hid h5
  have H6 := Lib.hid h6
  clear hF h5 h6
  simp only [Act.put]
  have q1 := Q1.out
  have q2 := Q2.out
  refine wp_region_cls (fun w' => Below wR.heap.size wR w') (by kernel_rfl) (by kernel_rfl) ((Below.refl _ _).drew) ?_
  repeat (first
    | (refine wpQuiet_step (fun K hK => ?_)
       refine qs_load_row (by rfl) 38 (.tmp 8) rfl g1 rfl 38 (cw x) _ (fun w hw => F.out.one.below hw F.out.one.lt) Try.underlying38 rfl HI1.out (hK _ ?_)
       clear hK K)
    | (refine wpQuiet_step (fun K hK => ?_)
       refine qs_load_row (by rfl) 38 (.tmp 9) rfl g2 rfl 38 (cw y) _ (fun w hw => F.out.two.below hw F.out.two.lt) Try.underlying38 rfl HI2.out (hK _ ?_)
       clear hK K)
    | (refine wpQuiet_step (fun K hK => ?_)
       refine qs_load_row (by rfl) 38 (.tmp 12) rfl g5 rfl 38 (cw x) _ (fun w hw => H5.out.below hw H5.out.lt) Try.underlying38 rfl HI1.out (hK _ ?_)
       clear hK K)
    | (refine wpQuiet_step (fun K hK => ?_)
       refine qs_load_row (by rfl) 38 (.tmp 13) rfl g6 rfl 38 (cw y) _ (fun w hw => H6.out.below hw H6.out.lt) Try.underlying38 rfl HI2.out (hK _ ?_)
       clear hK K)
    | (refine wpQuiet_step (fun K hK => ?_)
       go_simp
       first
         | (refine hK _ ?_; clear hK K)
         | (refine ⟨_, fun _ _ => rfl, hK _ ?_⟩; clear hK K)
         | (apply Exists.intro
            refine ⟨fun _ hC => ?_, hK _ ?_⟩
            (first | with_reducible exact cls_call K1.out (Nat.le_refl _) hC | with_reducible exact cls_call K2.out (Nat.le_refl _) hC | with_reducible exact cls_call K3.out (Nat.le_refl _) hC)
            clear hK K)))
  refine wpQuiet_nil ?_
  intro w5 hb5
  have F6 := Lib.hid (F.out.below hb5)
  clear F H5 H6 hb5 wR q1 q2 Q1 Q2 K1 K2 K3 KS KT Ka Kb HI1 HI2 HI3 HI4
  go_wp2
  go_loopw [14] (fun i wr => ∃ k : Nat, k ≤ 12 ∧ i = .int .i64 k ∧ FourW wA x y p q g1 g2 g3 g4 wr) (fun i _ => 12 - (intOf i).toNat)
  case atStart => exact ⟨0, by omega, rfl, F6.out⟩
  case round =>
    obtain ⟨k, hk, rfl, hW⟩ := hrel
    by_cases hlt : k < 12
    · have k1 : k < x.length := by rw [HX.out]; exact hlt
      have k2 : k < y.length := by rw [HY.out]; exact hlt
      have k3 : k < p.length := by rw [HP.out]; exact hlt
      have k4 : k < q.length := by rw [HQ.out]; exact hlt
      have c1 : wr.cell? ⟨g1, k, none⟩ = some (.int .u64 x[k]) := by rw [hW.one.cell, cw_get k1]
      have c2 : wr.cell? ⟨g2, k, none⟩ = some (.int .u64 y[k]) := by rw [hW.two.cell, cw_get k2]
      have c3 : wr.cell? ⟨g3, k, none⟩ = some (.int .u64 p[k]) := by rw [hW.three.cell, cw_get k3]
      have c4 : wr.cell? ⟨g4, k, none⟩ = some (.int .u64 q[k]) := by rw [hW.four.cell, cw_get k4]
      obtain ⟨e1, e2, e3⟩ := hx.out k k1 k2 k3 k4
      have HW := Lib.hid hW
      have hk0 : (0 : Int) ≤ (k : Int) := by omega
      have hk1 : (k : Int) < 12 := by omega
      clear hW
      go_wp2_with fail
      go_quiet (fail)
      have HD := Lib.hid (show Below wr.heap.size wr (wr.drewN nq) from below_drewN' (Below.refl _ _))
      go_wp2
      go_roundw
      case rel => exact ⟨k + 1, by omega, by go_num, HW.out.below HD.out⟩
      case measure => simp [intOf]; omega
    · go_wp2
      go_ret
      exact ⟨rfl, hW.old⟩
end Go.Proofs.Ytjgbnokhelfnaaa
