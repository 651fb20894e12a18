/-
  The walk of shellgamelaw3.MemOthers.
-/
import Derived.Test.YtngpaibppdehdaaMemPlain
import Derived.Deep.DeepCutAuto
import Derived.BigQuiet
namespace Go.Sg
open Go Go.RowKit
theorem below_drewN {B : Nat} {a w : World} (h : Below B a w) (n : Nat) : Below B a (w.drewN n) := ⟨h.os, h.tape, h.output, h.size, h.block⟩
theorem qs_skip {P : Program} {ops : Array Oper} {C : World → Prop} {o : Oper} {a : Act} {K : Act → Prop} (hw : Region.wanted o (yielded ops a.tmps) = false) (hK : K (a.put o.dst undef)) :
    if Region.wanted o (yielded ops a.tmps) = true then o.quiet P a C K else K (a.put o.dst undef) := by
  rw [if_neg (by rw [hw]; exact Bool.false_ne_true)]
  exact hK
theorem others_x (M : Mm) (ra aa rb ab : Int) (ca cb : List Int) : (((M.write ra aa ca).write rb ab cb).read ra aa = zeros ∧ M.has ra aa = false) ∨ (M.has ra aa = true ∧ ((rb = ra ∧ ab = aa ∧ ((M.write ra aa ca).write rb ab cb).read ra aa = cb) ∨ (¬ (rb = ra ∧ ab = aa) ∧ ((M.write ra aa ca).write rb ab cb).read ra aa = ca))) := by
  rw [Mm.read_write, Mm.read_write, Mm.write_has]
  cases h : M.has ra aa with
  | false => left; simp [Mm.read_nohas h]
  | true =>
    right
    by_cases e : rb = ra ∧ ab = aa
    · exact ⟨rfl, .inl ⟨e.1, e.2, by rw [if_pos ⟨rfl, e⟩]⟩⟩
    · exact ⟨rfl, .inr ⟨e, by rw [if_neg (fun h => e h.2), if_pos ⟨rfl, rfl, rfl⟩]⟩⟩
theorem others_y (M : Mm) (ra aa rb ab : Int) (ca cb : List Int) : ((((M.write ra aa ca).write rb ab cb).look ra aa false).read rb ab = zeros ∧ M.has rb ab = false) ∨ (M.has rb ab = true ∧ (((M.write ra aa ca).write rb ab cb).look ra aa false).read rb ab = cb) := by
  rw [Mm.read_look, Mm.read_write, Mm.write_has]
  cases h : M.has rb ab with
  | false => left; simp [Mm.read_write, Mm.read_nohas h, h]
  | true => right; simp
end Go.Sg
namespace Go.Proofs.Ytngpaibppdehdaa
open Go.RowKit Go.Sg

set_option maxHeartbeats 40000000 in
set_option maxRecDepth 100000 in
theorem MemOthers_go (ra aa na : Int) (ba : Bool) (rb ab nb : Int) (bb : Bool) (w : World) (h1 : Num ra) (h2 : Num aa) (h3 : Word na) (h4 : Num rb) (h5 : Num ab) (h6 : Word nb) :
    Calls Try.prog 8 #[.agg #[.int .i64 ra, .int .i64 aa, .int .u64 na, .bool ba], .agg #[.int .i64 rb, .int .i64 ab, .int .u64 nb, .bool bb]] w fun e w' => e = .returned (.bool true) ∧ Below w.heap.size w w' := by
  obtain ⟨w0, hw0⟩ : ∃ x, (w.alloc (.cells #[.int .i64 ra, .int .i64 aa, .int .u64 na, .bool ba] 41)).alloc (.cells #[.int .i64 rb, .int .i64 ab, .int .u64 nb, .bool bb] 41) = x := ⟨_, rfl⟩
  have hba : Blk w0 w.heap.size #[.int .i64 ra, .int .i64 aa, .int .u64 na, .bool ba] 41 := by rw [← hw0]; exact (Blk.new w _ _).alloc _
  have hbb : Blk w0 (w.heap.size + 1) #[.int .i64 rb, .int .i64 ab, .int .u64 nb, .bool bb] 41 := by
    rw [← hw0]
    have := Blk.new (w.alloc (.cells #[.int .i64 ra, .int .i64 aa, .int .u64 na, .bool ba] 41)) #[.int .i64 rb, .int .i64 ab, .int .u64 nb, .bool bb] 41
    rw [World.size_alloc] at this
    exact this
  have HB0 : Hid (Below w.heap.size w w0) := Lib.hid (by rw [← hw0]; exact below_alloc' (below_alloc' (Below.refl _ _) _) _)
  have HC : Hid (∀ w', Below w0.heap.size w0 w' → (w'.cell? ⟨w.heap.size, 0, none⟩ = some (.int .i64 ra) ∧ w'.cell? ⟨w.heap.size, 1, none⟩ = some (.int .i64 aa) ∧ w'.cell? ⟨w.heap.size, 2, none⟩ = some (.int .u64 na)) ∧
      (w'.cell? ⟨w.heap.size + 1, 0, none⟩ = some (.int .i64 rb) ∧ w'.cell? ⟨w.heap.size + 1, 1, none⟩ = some (.int .i64 ab) ∧ w'.cell? ⟨w.heap.size + 1, 2, none⟩ = some (.int .u64 nb))) := Lib.hid fun w' h => by
    have k1 := hba.below h hba.lt
    have k2 := hbb.below h hbb.lt
    exact ⟨⟨k1.cell 0, k1.cell 1, k1.cell 2⟩, k2.cell 0, k2.cell 1, k2.cell 2⟩
  clear hba hbb
  go_enter Try.func8, Try.ntmps8
  go_wp2_with fail
  try rw [hw0]
  clear hw0
  obtain ⟨bA, hbA⟩ : ∃ x, w.heap.size = x := ⟨_, rfl⟩
  rw [hbA] at HC
  rw [hbA]

  refine (shown3 w0).mono ?_
  rintro e w1 ⟨rfl, hb1⟩
  have HB1 := Lib.hid hb1
  clear hb1
  go_wp2_with fail
  refine (memNew_any _ [4, 3, 2] _ (Sl1.of_owns (owns_lit (base := 0) #[.int .i64 4, .int .i64 3, .int .i64 2] (by omega) (by simp [maxLen])))).mono ?_
  rintro e w2 ⟨hb2, hr⟩
  rcases hr with ⟨h0, _⟩ | ⟨_, p, F, rfl, hm, hF⟩
  · exact absurd h0 (by decide)
  have HB2 : Hid (Below w0.heap.size w0 w2) := Lib.hid ((below_alloc' HB1.out _).trans (hb2.mono (below_alloc' HB1.out _).size))
  have HF : Hid (∀ k, F k → w0.heap.size ≤ k) := Lib.hid fun k hk => by have h8 := hF k hk; have h9 := HB1.out.size; rw [World.size_alloc] at h8; omega
  have HM := Lib.hid hm
  have HE : Hid ((Mm.fresh [4, 3, 2]).evs.length = 0) := Lib.hid rfl
  clear hb2 hm hF HB1
  generalize Mm.fresh [4, 3, 2] = M at *
  obtain ⟨⟨a0, a1, a2⟩, b0, b1, b2⟩ := HC.out w2 HB2.out
  have hb1 : Below w0.heap.size w0 w2.drew := HB2.out.drew
  have hm1 : MemRep w2.drew 108 p M F := HM.out.keep (Nat.le_refl _) (fun _ _ => rfl)
  go_wp2_with fail
  go_region_held3 (fun w' => w'.cell? ⟨bA, 0, none⟩ = some (.int .i64 ra) ∧ w'.cell? ⟨bA, 1, none⟩ = some (.int .i64 aa) ∧ w'.cell? ⟨bA, 2, none⟩ = some (.int .u64 na)) (first | exact (HC.out _ (by assumption)).1) (first
    | (go_at_call 34; refine (cell3_any na _).mono ?_; rintro e wA ⟨rfl, hbA⟩; have hb2 := hb1.trans (hbA.mono hb1.size); have hm2 := hm1.below hbA)
    | (go_at_call 33; refine (memWrite_any ra aa (cellL na) (cellL_len na) (cellL_words na) _ hm2 (by rw [HE.out]; omega)).mono ?_; rintro e wB ⟨rfl, hpB⟩; have hbF := memrep_below hpB hb2 HF.out; have hb3 := hbF.1))
  have HM1 := Lib.hid hpB.1
  have HB3 := Lib.hid hb3
  have HF1 := Lib.hid hbF.2
  have HE1 : Hid ((M.write ra aa (cellL na)).evs.length ≤ 1) := Lib.hid (by have := HE.out; rw [Mm.write_evs]; split; (rw [List.length_append]; simp only [List.length_cons, List.length_nil]; omega); omega)
  clear hbF hb3 hpB hm2 hm1 hb1 hb2 a0 a1 a2 b0 b1 b2 hbA HM HB2 HF
  generalize Grow F wA wB = F1 at *
  obtain ⟨⟨a0, a1, a2⟩, b0, b1, b2⟩ := HC.out wB HB3.out
  have hb1 : Below w0.heap.size w0 wB.drew := HB3.out.drew
  have hm1 : MemRep wB.drew 108 p (M.write ra aa (cellL na)) F1 := HM1.out.keep (Nat.le_refl _) (fun _ _ => rfl)
  go_wp2_with fail
  go_region_held3 (fun w' => w'.cell? ⟨bA + 1, 0, none⟩ = some (.int .i64 rb) ∧ w'.cell? ⟨bA + 1, 1, none⟩ = some (.int .i64 ab) ∧ w'.cell? ⟨bA + 1, 2, none⟩ = some (.int .u64 nb)) (first | exact (HC.out _ (by assumption)).2) (first
    | (go_at_call 34; refine (cell3_any nb _).mono ?_; rintro e wC ⟨rfl, hbC⟩; have hb2 := hb1.trans (hbC.mono hb1.size); have hm2 := hm1.below hbC)
    | (go_at_call 33; refine (memWrite_any rb ab (cellL nb) (cellL_len nb) (cellL_words nb) _ hm2 (by have := HE1.out; omega)).mono ?_; rintro e wD ⟨rfl, hpD⟩; have hbF := memrep_below hpD hb2 HF1.out; have hb3 := hbF.1))
  have HM2 := Lib.hid hpD.1
  have HB4 := Lib.hid hb3
  have HF2 := Lib.hid hbF.2
  have HE2 : Hid (((M.write ra aa (cellL na)).write rb ab (cellL nb)).evs.length ≤ 2) := Lib.hid (by rw [Mm.write_evs]; have := HE1.out; split <;> simp <;> omega)
  clear hbF hb3 hpD hm2 hm1 hb1 hb2 a0 a1 a2 b0 b1 b2 hbC HM1 HB3 HF1
  generalize Grow F1 wC wD = F2 at *
  have HX := Lib.hid (others_x M ra aa rb ab (cellL na) (cellL nb))
  have HY := Lib.hid (others_y M ra aa rb ab (cellL na) (cellL nb))
  have HHA : Hid (∀ r, ((M.write ra aa (cellL na)).write rb ab (cellL nb)).size r = M.size r) := Lib.hid fun r => by rw [Mm.write_size, Mm.write_size]
  generalize (M.write ra aa (cellL na)).write rb ab (cellL nb) = M2 at *
  obtain ⟨⟨a0, a1, a2⟩, b0, b1, b2⟩ := HC.out wD HB4.out
  go_wp2_with fail
  refine (memRead_any ra aa _ HM2.out (by have := HE2.out; omega)).mono ?_
  rintro e w4 ⟨rfl, hp4⟩
  obtain ⟨hb4, hF4⟩ := memrep_below hp4 HB4.out HF2.out
  have HM4 := Lib.hid hp4.1
  have HB5 := Lib.hid hb4
  have HF4 := Lib.hid hF4
  have HL1 : Hid ((M2.read ra aa).length = 12) := Lib.hid (Mm.read_ok HM2.out.ok ra aa).1
  have HE4 : Hid ((M2.look ra aa false).evs.length ≤ 3) := Lib.hid (by rw [Mm.look_evs]; have := HE2.out; split <;> simp <;> omega)
  clear hp4 hb4 hF4 a0 a1 a2 b0 b1 b2 HB4 HF2
  generalize Grow F2 wD w4 = F4 at *
  have HHA2 : Hid (∀ r, (M2.look ra aa false).size r = M.size r) := Lib.hid fun r => by rw [Mm.look_size, HHA.out]
  clear HHA
  generalize M2.look ra aa false = M4 at *
  generalize M2.read ra aa = X at *
  have B1 := Lib.hid (Blk.new w4 z12 44)
  have HIc : Hid ((Try.prog.info? 44).map (·.size) = some (cw X).size) := Lib.hid (by rw [cw_size, HL1.out]; kernel_rfl)
  go_upto_region 8 with (first
    | (refine wpList_store_row rfl 44 (.tmp 8) (.tmp 48) rfl w4.heap.size (cw X) rfl rfl 44 _ B1.out HIc.out (by rw [cw_size, HL1.out]; rfl) (cw_one _) ?_)
    | fail)
  obtain ⟨w5, hw5⟩ : ∃ x, (w4.alloc (.cells #[.int .u64 0, .int .u64 0, .int .u64 0, .int .u64 0, .int .u64 0, .int .u64 0, .int .u64 0, .int .u64 0, .int .u64 0, .int .u64 0, .int .u64 0, .int .u64 0] 44)).setRow w4.heap.size (cw X) = x := ⟨_, rfl⟩
  have hbk : Blk w5 w4.heap.size (cw X) 44 := by rw [← hw5]; exact B1.out.setRow (cw X)
  have hbe : Below w4.heap.size w4 w5 := by rw [← hw5]; exact below_setRow ((Below.refl _ _).alloc (Nat.le_refl _) _) (Nat.le_refl _) _
  rw [hw5]
  obtain ⟨bX, hbX⟩ : ∃ x, w4.heap.size = x := ⟨_, rfl⟩
  rw [hbX] at hbk ⊢
  have HM5 := Lib.hid (HM4.out.below hbe)
  have HB6 := Lib.hid (HB5.out.trans (hbe.mono HB5.out.size))
  have HFX : Hid (∀ k, F4 k → k < bX) := Lib.hid fun k hk => by rw [← hbX]; exact HM4.out.lt k hk
  have HBX := Lib.hid hbk
  clear hbe hbk hw5 B1 HM4 HB5 HM2 hbX
  obtain ⟨⟨a0, a1, a2⟩, b0, b1, b2⟩ := HC.out w5 HB6.out
  go_wp2_with fail
  refine (memRead_any rb ab _ HM5.out (by have := HE4.out; omega)).mono ?_
  rintro e w6 ⟨rfl, hp6⟩
  obtain ⟨hb6, hF6⟩ := memrep_below hp6 HB6.out HF4.out
  have HM6 := Lib.hid hp6.1
  have HB7 := Lib.hid hb6
  have HBX2 : Hid (Blk w6 bX (cw X) 44) := Lib.hid (Blk_keep HBX.out (hp6.2.block bX HBX.out.lt (fun h => by have := HFX.out bX h; omega)))
  have HL2 : Hid ((M4.read rb ab).length = 12) := Lib.hid (Mm.read_ok HM5.out.ok rb ab).1
  have HHA3 : Hid (∀ r, (M4.look rb ab false).size r = M.size r) := Lib.hid fun r => by rw [Mm.look_size, HHA2.out]
  clear hp6 hb6 hF6 a0 a1 a2 b0 b1 b2 HB6 HF4 HBX HM5 HE4 HE2 HE1 HE HHA2
  generalize Grow F4 w5 w6 = F6 at *
  generalize M4.look rb ab false = M6 at *
  generalize M4.read rb ab = Y at *
  have B1 := Lib.hid (Blk.new w6 z12 44)
  have HIy : Hid ((Try.prog.info? 44).map (·.size) = some (cw Y).size) := Lib.hid (by rw [cw_size, HL2.out]; kernel_rfl)
  go_upto_region 9 with (first
    | (refine wpList_store_row rfl 44 (.tmp 9) (.tmp 54) rfl w6.heap.size (cw Y) rfl rfl 44 _ B1.out HIy.out (by rw [cw_size, HL2.out]; rfl) (cw_one _) ?_)
    | fail)
  obtain ⟨w7, hw7⟩ : ∃ x, (w6.alloc (.cells #[.int .u64 0, .int .u64 0, .int .u64 0, .int .u64 0, .int .u64 0, .int .u64 0, .int .u64 0, .int .u64 0, .int .u64 0, .int .u64 0, .int .u64 0, .int .u64 0] 44)).setRow w6.heap.size (cw Y) = x := ⟨_, rfl⟩
  have hbk : Blk w7 w6.heap.size (cw Y) 44 := by rw [← hw7]; exact B1.out.setRow (cw Y)
  have hbe : Below w6.heap.size w6 w7 := by rw [← hw7]; exact below_setRow ((Below.refl _ _).alloc (Nat.le_refl _) _) (Nat.le_refl _) _
  rw [hw7]
  obtain ⟨bY, hbY⟩ : ∃ x, w6.heap.size = x := ⟨_, rfl⟩
  have HBX3 := Lib.hid (HBX2.out.below hbe HBX2.out.lt)
  rw [hbY] at hbk ⊢
  have HBY := Lib.hid hbk
  have HM7 := Lib.hid (HM6.out.below hbe)
  have HB8 := Lib.hid (HB7.out.trans (hbe.mono HB7.out.size))
  clear hbe hbk hw7 B1 HM6 HB7 HBX2 hbY

  dsimp only [Act.put]
  go_cut [10] (fun o wx => o = .bool (M.has ra aa) ∧ Hid (MemRep wx 108 p M6 F6) ∧ Hid (Blk wx bX (cw X) 44) ∧ Hid (Blk wx bY (cw Y) 44) ∧ Hid (Below w0.heap.size w0 wx))
  case first =>
    obtain ⟨⟨a0, a1, a2⟩, b0, b1, b2⟩ := HC.out w7 HB8.out
    have KA : Hid (∀ n, Calls Try.prog 39 #[.pointer (some ⟨p, 0, none⟩), .int .i64 ra] (w7.drewN n) fun e w' => e = .returned (.int .i64 (M.size ra)) ∧ w' = w7.drewN n) := Lib.hid fun n => by have := memSize_any ra _ (HM7.out.drewN n); rw [HHA3.out] at this; exact this
    by_cases h : 0 ≤ aa
    · have d : decide (0 ≤ aa) = true := decide_eq_true h
      go_quiet (first | (go_at_call 39; refine Calls.quiet_of_same (KA.out _)))
      go_wp2_with fail
      go_meet
      exact ⟨by unfold Mm.has; rw [d]; rfl, Lib.hid (HM7.out.drewN _), Lib.hid HBX3.out, Lib.hid HBY.out, Lib.hid (below_drewN HB8.out _)⟩
    · have d : decide (0 ≤ aa) = false := decide_eq_false h
      go_quiet (fail)
      go_wp2_with fail
      go_meet
      exact ⟨by unfold Mm.has; rw [d]; rfl, Lib.hid (HM7.out.drewN _), Lib.hid HBX3.out, Lib.hid HBY.out, Lib.hid (below_drewN HB8.out _)⟩
  case rest =>
  clear HM7 HBX3 HBY HB8
  obtain ⟨rfl, HM7, HBX3, HBY, HB8⟩ := hcut
  generalize wc = w8 at *
  go_upto_region 10 with fail
  go_cut [11] (fun o wx => o = .bool (M.has rb ab) ∧ Hid (MemRep wx 108 p M6 F6) ∧ Hid (Blk wx bX (cw X) 44) ∧ Hid (Blk wx bY (cw Y) 44) ∧ Hid (Below w0.heap.size w0 wx))
  case first =>
    obtain ⟨⟨a0, a1, a2⟩, b0, b1, b2⟩ := HC.out w8 HB8.out
    have KA : Hid (∀ n, Calls Try.prog 39 #[.pointer (some ⟨p, 0, none⟩), .int .i64 rb] (w8.drewN n) fun e w' => e = .returned (.int .i64 (M.size rb)) ∧ w' = w8.drewN n) := Lib.hid fun n => by have := memSize_any rb _ (HM7.out.drewN n); rw [HHA3.out] at this; exact this
    by_cases h : 0 ≤ ab
    · have d : decide (0 ≤ ab) = true := decide_eq_true h
      go_quiet (first | (go_at_call 39; refine Calls.quiet_of_same (KA.out _)))
      go_wp2_with fail
      go_meet
      exact ⟨by unfold Mm.has; rw [d]; rfl, Lib.hid (HM7.out.drewN _), Lib.hid HBX3.out, Lib.hid HBY.out, Lib.hid (below_drewN HB8.out _)⟩
    · have d : decide (0 ≤ ab) = false := decide_eq_false h
      go_quiet (fail)
      go_wp2_with fail
      go_meet
      exact ⟨by unfold Mm.has; rw [d]; rfl, Lib.hid (HM7.out.drewN _), Lib.hid HBX3.out, Lib.hid HBY.out, Lib.hid (below_drewN HB8.out _)⟩
  case rest =>
  clear HM7 HBX3 HBY HB8
  obtain ⟨rfl, HM7, HBX3, HBY, HB8⟩ := hcut
  generalize wc = w9 at *
  go_upto_region 11 with fail
  go_cut [12] (fun o wx => o = .bool (decide (rb = ra ∧ ab = aa)) ∧ wx = w9)
  case first =>
    obtain ⟨⟨a0, a1, a2⟩, b0, b1, b2⟩ := HC.out w9 HB8.out
    by_cases h : ra = rb
    · have d : (ra == rb) = true := by simp [h]
      have d1 : decide (ra = rb) = true := decide_eq_true h
      go_wp2_with fail
      go_meet
      exact ⟨congrArg Value.bool (by rw [Bool.eq_iff_iff, beq_iff_eq, decide_eq_true_eq]; exact ⟨fun e => ⟨h.symm, e.symm⟩, fun e => e.2.symm⟩), rfl⟩
    · have d : (ra == rb) = false := by simp [h]
      have d1 : decide (ra = rb) = false := decide_eq_false h
      go_wp2_with fail
      go_meet
      exact ⟨congrArg Value.bool (by rw [eq_comm]; exact decide_eq_false (fun e => h e.1.symm)), rfl⟩
  case rest =>
  obtain ⟨rfl, rfl⟩ := hcut
  generalize wc = w9 at *
  have EQ : ∀ x y : List Int, x.length = 12 → y.length = 12 → ∀ w, (Op.equalIn 10000 44 (.agg (cw x)) (.agg (cw y))).run Try.prog w = .ok (decide (x = y)) w := run_eqcell
  have QXZ := EQ X zeros HL1.out rfl
  have QYZ := EQ Y zeros HL2.out rfl
  have QYB := EQ Y (cellL nb) HL2.out (cellL_len nb)
  have QXB := EQ X (cellL nb) HL1.out (cellL_len nb)
  have QXA := EQ X (cellL na) HL1.out (cellL_len na)
  rw [show cw zeros = #[.int .u64 0, .int .u64 0, .int .u64 0, .int .u64 0, .int .u64 0, .int .u64 0, .int .u64 0, .int .u64 0, .int .u64 0, .int .u64 0, .int .u64 0, .int .u64 0] from rfl] at QXZ QYZ
  have HNN : Hid (∀ w', Below w9.heap.size w9 w' → (w'.cell? ⟨bA, 2, none⟩ = some (.int .u64 na) ∧ w'.cell? ⟨bA + 1, 2, none⟩ = some (.int .u64 nb))) := Lib.hid fun w' h => by
    obtain ⟨⟨_, _, a2⟩, _, _, b2⟩ := HC.out w' (HB8.out.trans (h.mono HB8.out.size))
    exact ⟨a2, b2⟩
  have KB := Lib.hid (fun w' (h : Below w9.heap.size w9 w') => cls_call (P := Try.prog) (cell3_any nb) (Nat.le_refl _) h)
  have KA := Lib.hid (fun w' (h : Below w9.heap.size w9 w') => cls_call (P := Try.prog) (cell3_any na) (Nat.le_refl _) h)
  have HIX : (Try.prog.info? 44).map (·.size) = some (cw X).size := by rw [cw_size, HL1.out]; kernel_rfl
  have HIY : (Try.prog.info? 44).map (·.size) = some (cw Y).size := by rw [cw_size, HL2.out]; kernel_rfl
  have hcases : (M.has ra aa = false ∧ decide (X = zeros) = true) ∨ (M.has ra aa = true ∧ decide (rb = ra ∧ ab = aa) = true ∧ decide (X = cellL nb) = true) ∨ (M.has ra aa = true ∧ decide (rb = ra ∧ ab = aa) = false ∧ decide (X = cellL na) = true) := by
    rcases HX.out with ⟨h1, h2⟩ | ⟨h1, ⟨h2, h3, h4⟩ | ⟨h2, h3⟩⟩
    · exact .inl ⟨h2, decide_eq_true h1⟩
    · exact .inr (.inl ⟨h1, decide_eq_true ⟨h2, h3⟩, decide_eq_true h4⟩)
    · exact .inr (.inr ⟨h1, decide_eq_false h2, decide_eq_true h3⟩)
  have hcases2 : (M.has rb ab = false ∧ decide (Y = zeros) = true) ∨ (M.has rb ab = true ∧ decide (Y = cellL nb) = true) := by
    rcases HY.out with ⟨h1, h2⟩ | ⟨h1, h2⟩
    · exact .inl ⟨h2, decide_eq_true h1⟩
    · exact .inr ⟨h1, decide_eq_true h2⟩
  clear HX HY EQ HC HIc HIy HL1 HL2 HFX HHA3 HM7
  generalize decide (X = zeros) = bXZ at *
  generalize decide (Y = zeros) = bYZ at *
  generalize decide (X = cellL nb) = bXB at *
  generalize decide (X = cellL na) = bXA at *
  generalize decide (Y = cellL nb) = bYB at *
  generalize decide (rb = ra ∧ ab = aa) = bS at *
  generalize M.has ra aa = bO at *
  generalize M.has rb ab = bT at *
  generalize cw X = xs at *
  generalize cw Y = ys at *
  generalize cw (cellL nb) = cb at *
  generalize cw (cellL na) = ca at *
  go_upto_region 12 with fail
  go_cut [116] (fun r wx => r = .bool false ∧ Below w9.heap.size w9 wx)
  case first =>
    have hc1 : (bO = false ∧ bXZ = true) ∨ bO = true := by
      rcases hcases with ⟨h1, h2⟩ | ⟨h1, _⟩ | ⟨h1, _⟩
      · exact .inl ⟨h1, h2⟩
      · exact .inr h1
      · exact .inr h1
    clear hcases KA QXB QXA
    rcases hc1 with ⟨rfl, rfl⟩ | rfl <;> rcases hcases2 with ⟨rfl, rfl⟩ | ⟨rfl, rfl⟩
    all_goals
      refine wp_region_cls (fun w' => Below w9.heap.size w9 w') (by kernel_rfl) (by kernel_rfl) ((Below.refl _ _).drew) ?_
      repeat (first
        | (with_reducible refine wpQuiet_step ?_
           intro K hK
           refine qs_skip (by rfl) (hK _ ?_)
           clear hK K
           try simp only [Act.put, List.setIfInBounds_toArray, List.set_cons_zero, List.set_cons_succ])
        | (with_reducible refine wpQuiet_step ?_
           intro K hK
           refine qs_load_row (by rfl) 44 _ rfl bX rfl 44 xs _ (fun w hw => HBX3.out.below hw HBX3.out.lt) Try.underlying44 rfl HIX (hK _ ?_)
           clear hK K
           try simp only [Act.put, List.setIfInBounds_toArray, List.set_cons_zero, List.set_cons_succ])
        | (with_reducible refine wpQuiet_step ?_
           intro K hK
           refine qs_load_row (by rfl) 44 _ rfl bY rfl 44 ys _ (fun w hw => HBY.out.below hw HBY.out.lt) Try.underlying44 rfl HIY (hK _ ?_)
           clear hK K
           try simp only [Act.put, List.setIfInBounds_toArray, List.set_cons_zero, List.set_cons_succ])
        | (with_reducible refine wpQuiet_step ?_
           intro K hK
           refine qs_load_cell (by rfl) 39 _ rfl ⟨bA + 1, 2, none⟩ rfl (.int .u64 nb) (fun w hw => (HNN.out w hw).2) Try.isAgg39 (hK _ ?_)
           clear hK K
           try simp only [Act.put, List.setIfInBounds_toArray, List.set_cons_zero, List.set_cons_succ])
        | (with_reducible refine wpQuiet_step ?_
           intro K hK
           go_simp
           first
             | (refine hK _ ?_; clear hK K)
             | (refine ⟨_, fun _ _ => rfl, hK _ ?_⟩; clear hK K)
             | (apply Exists.intro; refine ⟨fun _ hC => ?_, hK _ ?_⟩; (with_reducible exact KB.out _ hC); clear hK K; try simp only [Act.put, List.setIfInBounds_toArray, List.set_cons_zero, List.set_cons_succ])))
      refine wpQuiet_nil ?_
      intro wx hbx
      go_wp2_with fail
      go_meet
      exact ⟨rfl, hbx⟩
  case rest =>
  obtain ⟨rfl, hbx⟩ := hcut
  clear hcases2 QYB QYZ QXZ
  go_upto_region 14 with fail
  rcases hcases with ⟨rfl, rfl⟩ | ⟨rfl, rfl, rfl⟩ | ⟨rfl, rfl, rfl⟩
  all_goals
    refine wp_region_cls (fun w' => Below w9.heap.size w9 w') (by kernel_rfl) (by kernel_rfl) (hbx.drew) ?_
    repeat (first
      | (with_reducible refine wpQuiet_step ?_
         intro K hK
         refine qs_skip (by rfl) (hK _ ?_)
         clear hK K
         try simp only [Act.put, List.setIfInBounds_toArray, List.set_cons_zero, List.set_cons_succ])
      | (with_reducible refine wpQuiet_step ?_
         intro K hK
         refine qs_load_row (by rfl) 44 _ rfl bX rfl 44 xs _ (fun w hw => HBX3.out.below hw HBX3.out.lt) Try.underlying44 rfl HIX (hK _ ?_)
         clear hK K
         try simp only [Act.put, List.setIfInBounds_toArray, List.set_cons_zero, List.set_cons_succ])
      | (with_reducible refine wpQuiet_step ?_
         intro K hK
         refine qs_load_cell (by rfl) 39 _ rfl ⟨bA, 2, none⟩ rfl (.int .u64 na) (fun w hw => (HNN.out w hw).1) Try.isAgg39 (hK _ ?_)
         clear hK K
         try simp only [Act.put, List.setIfInBounds_toArray, List.set_cons_zero, List.set_cons_succ])
      | (with_reducible refine wpQuiet_step ?_
         intro K hK
         refine qs_load_cell (by rfl) 39 _ rfl ⟨bA + 1, 2, none⟩ rfl (.int .u64 nb) (fun w hw => (HNN.out w hw).2) Try.isAgg39 (hK _ ?_)
         clear hK K
         try simp only [Act.put, List.setIfInBounds_toArray, List.set_cons_zero, List.set_cons_succ])
      | (with_reducible refine wpQuiet_step ?_
         intro K hK
         go_simp
         first
           | (refine hK _ ?_; clear hK K)
           | (refine ⟨_, fun _ _ => rfl, hK _ ?_⟩; clear hK K)
           | (apply Exists.intro; refine ⟨fun _ hC => ?_, hK _ ?_⟩; (with_reducible exact KA.out _ hC); clear hK K; try simp only [Act.put, List.setIfInBounds_toArray, List.set_cons_zero, List.set_cons_succ])
           | (apply Exists.intro; refine ⟨fun _ hC => ?_, hK _ ?_⟩; (with_reducible exact KB.out _ hC); clear hK K; try simp only [Act.put, List.setIfInBounds_toArray, List.set_cons_zero, List.set_cons_succ])))
    refine wpQuiet_nil ?_
    intro wy hby
    go_wp2_with fail
    go_ret
    exact ⟨rfl, HB0.out.trans ((HB8.out.trans (hby.mono HB8.out.size)).mono HB0.out.size)⟩

theorem MemOthers_walk (x y : Lk) (w : World) (hx : lkOk x) (hy : lkOk y) :
    Calls Try.prog 8 #[.agg (lkV x).toArray, .agg (lkV y).toArray] w fun e w' => e = .returned (.bool true) ∧ Below w.heap.size w w' :=
  MemOthers_go x.1 x.2.1 x.2.2.1 x.2.2.2 y.1 y.2.1 y.2.2.1 y.2.2.2 w hx.1 hx.2.1 hx.2.2 hy.1 hy.2.1 hy.2.2
end Go.Proofs.Ytngpaibppdehdaa
