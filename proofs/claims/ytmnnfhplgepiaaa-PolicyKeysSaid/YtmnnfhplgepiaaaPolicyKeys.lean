/-
  The walk of the law PolicyKeys: an expired item's key is below that of one that is not, both below a blank's; of two alike the lesser rank has the lesser key.
-/
import Derived.Test.YtmnnfhplgepiaaaPolS
import Derived.Test.YtmnnfhplgepiaaaAs16
namespace Go.Proofs.Ytmnnfhplgepiaaa
open Go Go.RowKit Go.Sg
set_option maxRecDepth 100000 in
theorem PolicyKeys_walk (a b : It) (c : Int) (w : World) (ha : ItOk a) (hb : ItOk b) (_ : Num c) :
    Calls Try.prog 8 #[.agg (itV a).toArray, .agg (itV b).toArray, .int .i64 c] w fun e w' => e = .returned (.bool true) ∧ Below w.heap.size w w' := by
  obtain ⟨ac, ar, ae⟩ := a
  obtain ⟨bc, br, be⟩ := b
  obtain ⟨hac, har⟩ := ha
  obtain ⟨hbc, hbr⟩ := hb
  have hl : ∀ x y z, (itV (x, y, z)).toArray = #[.int .i64 x, .int .u64 y, .bool z] := fun _ _ _ => rfl
  rw [hl, hl]
  have KS := Lib.hid (fun w' => shown16 w')
  go_enter Try.func8, Try.ntmps8
  go_wp2_with fail
  refine (KS.out _).mono ?_
  rintro e w1 ⟨rfl, hb1⟩
  obtain ⟨o1, ho1⟩ : ∃ o1 : Obj, o1 = Obj.cells #[.int .i64 ac, .int .u64 ar, .bool ae] 28 := ⟨_, rfl⟩
  obtain ⟨o2, ho2⟩ : ∃ o2 : Obj, o2 = Obj.cells #[.int .i64 bc, .int .u64 br, .bool be] 28 := ⟨_, rfl⟩
  have HB1 : Hid (Below w.heap.size w w1) := Lib.hid (below_alloc (below_alloc hb1))
  have HA1 : Hid (Blk w1 w.heap.size #[.int .i64 ac, .int .u64 ar, .bool ae] 28) := Lib.hid (((Blk.new w _ _).alloc _).below hb1 (by simp; omega))
  have HC1 : Hid (Blk w1 (w.heap.size + 1) #[.int .i64 bc, .int .u64 br, .bool be] 28) := Lib.hid (by
    have := (Blk.new (w.alloc (.cells #[.int .i64 ac, .int .u64 ar, .bool ae] 28)) #[.int .i64 bc, .int .u64 br, .bool be] 28).below hb1 (by simp)
    simpa using this)
  clear hb1 ho1 ho2 o1 o2
  obtain ⟨A, hA⟩ : ∃ A, A = w.heap.size := ⟨_, rfl⟩
  obtain ⟨C, hC⟩ : ∃ C, C = w.heap.size + 1 := ⟨_, rfl⟩
  rw [← hC, ← hA]
  rw [← hA] at HA1
  rw [← hC] at HC1
  have HAC := Lib.hid (show A ≠ C ∧ w.heap.size ≤ A ∧ w.heap.size ≤ C by omega)
  clear hA hC
  have c0 := HA1.out.cell 1
  have f0 := HA1.out.free 1
  simp only [List.getElem?_toArray, List.getElem?_cons_succ, List.getElem?_cons_zero] at c0
  have m1 : ar.tmod 4611686018427387904 = ar % 4611686018427387904 := Int.tmod_eq_emod_of_nonneg har.1
  have m2 : br.tmod 4611686018427387904 = br % 4611686018427387904 := Int.tmod_eq_emod_of_nonneg hbr.1
  go_upto_region 3 with fail
  refine at_world (fun w' => Blk w' A #[.int .i64 ac, .int .u64 (ar % 4611686018427387904), .bool ae] 28 ∧ Blk w' C #[.int .i64 bc, .int .u64 br, .bool be] 28 ∧ Below w.heap.size w w') ⟨HA1.out.set 1 _, HC1.out.other _ _ (Ne.symm HAC.out.1), below_setCells HAC.out.2.1 [_] 1 HB1.out⟩ ?_
  rintro w2 ⟨hA2, hC2, hB2⟩
  have c1 := hC2.cell 1
  have f1 := hC2.free 1
  simp only [List.getElem?_toArray, List.getElem?_cons_succ, List.getElem?_cons_zero] at c1
  have HA2 := Lib.hid hA2
  have HC2 := Lib.hid hC2
  have HB2 := Lib.hid hB2
  clear c0 f0 m1 HA1 HC1 HB1 hA2 hC2 hB2
  go_upto_region 4 with fail
  refine at_world (fun w' => Blk w' A #[.int .i64 ac, .int .u64 (ar % 4611686018427387904), .bool ae] 28 ∧ Blk w' C #[.int .i64 bc, .int .u64 (br % 4611686018427387904), .bool be] 28 ∧ Below w.heap.size w w') ⟨HA2.out.other _ _ HAC.out.1, HC2.out.set 1 _, below_setCells HAC.out.2.2 [_] 1 HB2.out⟩ ?_
  rintro w3 ⟨hA3, hC3, hB3⟩
  have HA3 := Lib.hid hA3
  have HC3 := Lib.hid hC3
  have HB3 := Lib.hid hB3
  clear c1 f1 HA2 HC2 HB2 hA3 hC3 hB3
  have ka := Lib.hid (fun w' => key_any (ac, ar % 4611686018427387904, ae) (show Word (ar % 4611686018427387904) from ⟨by omega, by omega⟩) w')
  have kb := Lib.hid (fun w' => key_any (bc, br % 4611686018427387904, be) (show Word (br % 4611686018427387904) from ⟨by omega, by omega⟩) w')
  have KB := Lib.hid (fun w' => blank_any c w')
  have c0 := HA3.out.cell 0
  have c1 := HA3.out.cell 1
  have c2 := HA3.out.cell 2
  simp only [List.getElem?_toArray, List.getElem?_cons_succ, List.getElem?_cons_zero] at c0 c1 c2
  go_wp2_with fail
  refine (ka.out _).mono ?_
  rintro e w4 ⟨rfl, hb4⟩
  have HB4 := Lib.hid (HB3.out.trans (hb4.mono HB3.out.size))
  have HA4 := Lib.hid (HA3.out.below hb4 HA3.out.lt)
  have HC4 := Lib.hid (HC3.out.below hb4 HC3.out.lt)
  clear hb4 c0 c1 c2 HA3 HC3 HB3
  have c0 := HC4.out.cell 0
  have c1 := HC4.out.cell 1
  have c2 := HC4.out.cell 2
  simp only [List.getElem?_toArray, List.getElem?_cons_succ, List.getElem?_cons_zero] at c0 c1 c2
  go_wp2_with fail
  refine (kb.out _).mono ?_
  rintro e w5 ⟨rfl, hb5⟩
  have HB5 := Lib.hid (HB4.out.trans (hb5.mono HB4.out.size))
  have HA5 := Lib.hid (HA4.out.below hb5 HA4.out.lt)
  have HC5 := Lib.hid (HC4.out.below hb5 HC4.out.lt)
  clear hb5 c0 c1 c2 HA4 HC4 HB4
  have c0 := HA5.out.cell 1
  have c1 := HA5.out.cell 2
  have c2 := HC5.out.cell 1
  have c3 := HC5.out.cell 2
  simp only [List.getElem?_toArray, List.getElem?_cons_succ, List.getElem?_cons_zero] at c0 c1 c2 c3
  obtain ⟨kx, hkx⟩ : ∃ kx, keyI (ac, ar % 4611686018427387904, ae) = kx := ⟨_, rfl⟩
  obtain ⟨ky, hky⟩ : ∃ ky, keyI (bc, br % 4611686018427387904, be) = ky := ⟨_, rfl⟩
  rw [hkx, hky]
  have hw1 : IntKind.u64.wrap c % 2147483648 = c % 2147483648 := by rw [IntKind.wrap_u64]; omega
  have hw0 : (IntKind.u64.wrap c).tmod 2147483648 = c % 2147483648 := by
    rw [IntKind.wrap_u64, Int.tmod_eq_emod_of_nonneg (by omega)]
    omega
  have hw2 : IntKind.u64.wrap (9223372036854775808 + c % 2147483648) = blankI c := by rw [IntKind.wrap_u64]; unfold blankI; omega
  have hbl : 9223372036854775808 ≤ blankI c := by unfold blankI; omega
  unfold keyI at hkx hky
  clear ka kb m2
  cases ae <;> cases be <;> simp only [if_pos, if_neg, Bool.false_eq_true, not_false_eq_true] at hkx hky
  · have d1 : decide (kx < blankI c) = true := decide_eq_true (by omega)
    have d2 : decide (blankI c ≤ kx) = false := decide_eq_false (by omega)
    have d3 : Hid (decide (kx < ky) = decide (ar % 4611686018427387904 < br % 4611686018427387904)) := Lib.hid (decide_eq_decide.2 (by omega))
    clear hkx hky
    go_wp2_with (first | (go_at_call 16; refine (KB.out _).mono ?_; rintro e w' ⟨rfl, rfl⟩) | fail)
    go_ret
    exact ⟨by rw [d3.out]; simp, HB5.out⟩
  · have d1 : decide (kx < blankI c) = true := decide_eq_true (by omega)
    have d2 : decide (blankI c ≤ kx) = false := decide_eq_false (by omega)
    have d3 : decide (kx < ky) = false := decide_eq_false (by omega)
    clear hkx hky
    go_wp2_with (first | (go_at_call 16; refine (KB.out _).mono ?_; rintro e w' ⟨rfl, rfl⟩) | fail)
    go_ret
    exact ⟨by simp, HB5.out⟩
  · have d1 : decide (kx < blankI c) = true := decide_eq_true (by omega)
    have d2 : decide (blankI c ≤ kx) = false := decide_eq_false (by omega)
    have d3 : decide (kx < ky) = true := decide_eq_true (by omega)
    clear hkx hky
    go_wp2_with (first | (go_at_call 16; refine (KB.out _).mono ?_; rintro e w' ⟨rfl, rfl⟩) | fail)
    go_ret
    exact ⟨by simp, HB5.out⟩
  · have d1 : decide (kx < blankI c) = true := decide_eq_true (by omega)
    have d2 : decide (blankI c ≤ kx) = false := decide_eq_false (by omega)
    have d3 : Hid (decide (kx < ky) = decide (ar % 4611686018427387904 < br % 4611686018427387904)) := Lib.hid (decide_eq_decide.2 (by omega))
    clear hkx hky
    go_wp2_with (first | (go_at_call 16; refine (KB.out _).mono ?_; rintro e w' ⟨rfl, rfl⟩) | fail)
    go_ret
    exact ⟨by rw [d3.out]; simp, HB5.out⟩
end Go.Proofs.Ytmnnfhplgepiaaa
