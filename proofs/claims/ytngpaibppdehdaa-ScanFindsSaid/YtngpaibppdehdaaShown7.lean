/-
  The head of chapter 7's laws.
-/
import Derived.Test.YtngpaibppdehdaaLaid7
import Derived.Test.YtngpaibppdehdaaScanFind
import Derived.Test.YtngpaibppdehdaaShown3
namespace Go.Proofs.Ytngpaibppdehdaa
open Go Go.RowKit Go.Sg

set_option maxHeartbeats 4000000 in
set_option maxRecDepth 100000 in
theorem shown7 (w : World) : Calls Try.prog 46 #[] w fun e w' => e = .returned (.bool true) ∧ Below w.heap.size w w' := by
  have hwz : ∀ x ∈ [(7 : Int), 9, 9], Word x := fun x hx => by simp at hx; rcases hx with rfl | rfl <;> exact ⟨by omega, by omega⟩
  go_enter Try.func46, Try.ntmps46
  go_wp2_with fail
  refine (laid7_any 1 3 (by decide) (by decide) (by decide) (by decide) _ [7, 9, 9] hwz _ (Sl1.of_owns (owns_lit (base := 0) #[.int .u64 7, .int .u64 9, .int .u64 9] (by omega) (by simp [maxLen])))).mono ?_
  rintro e w1 ⟨p, q, rfl, hP⟩
  have hx := hP.left
  obtain ⟨wa, hwa⟩ : ∃ wa, w.alloc (.cells #[.int .u64 7, .int .u64 9, .int .u64 9] 39) = wa := ⟨_, rfl⟩
  have hwab : Below w.heap.size w wa := by rw [← hwa]; exact (Below.refl _ _).alloc (Nat.le_refl _) _
  have HW := Lib.hid hwab
  have hev : (laidM 1 3 [7, 9, 9]).evs.length ≤ 1099511600000 := by have := (laid_f (r := 1) (c := 3) [7, 9, 9] (by decide)).evs; omega
  have e1 : placeK (laidM 1 3 [7, 9, 9]) 0 0 9 ((laidM 1 3 [7, 9, 9]).size 0) = 1 := by decide +kernel
  have e2 : outK (laidM 1 3 [7, 9, 9]) 0 0 9 ((laidM 1 3 [7, 9, 9]).size 0) = cellL 9 := by decide +kernel
  have e3 : foundK (laidM 1 3 [7, 9, 9]) 0 0 9 ((laidM 1 3 [7, 9, 9]).size 0) = true := by decide +kernel
  have e4 : (laidM 1 3 [7, 9, 9]).read 0 1 = cellL 9 := by decide +kernel
  have HX : Hid (OneX 108 wa w1 p (laidM 1 3 [7, 9, 9]) (fun _ => False) (fun _ => True)) := Lib.hid (by rw [← hwa]; exact hx)
  clear hP hx hwa hwab
  have KF := Lib.hid (one_find keeps_true 0 0 9 ⟨by decide, by decide⟩ ⟨by decide, by decide⟩ HX.out hev)
  rw [e1, e2, e3] at KF
  have hE4 : ((laidM 1 3 [7, 9, 9]).noted (readsL 0 ((laidM 1 3 [7, 9, 9]).size 0))).read 0 1 = cellL 9 := e4
  have hev2 : ((laidM 1 3 [7, 9, 9]).noted (readsL 0 ((laidM 1 3 [7, 9, 9]).size 0))).evs.length ≤ 1099511600000 := by decide +kernel
  generalize (laidM 1 3 [7, 9, 9]).noted (readsL 0 ((laidM 1 3 [7, 9, 9]).size 0)) = M2 at *
  clear e1 e2 e3 e4 hev HX
  go_wp2_with fail
  refine KF.out.mono ?_
  rintro e w2 ⟨rfl, hX2⟩
  have HX2 := Lib.hid (hX2.box keeps_true z12 44)
  obtain ⟨g, hg⟩ : ∃ g, w2.heap.size = g := ⟨_, rfl⟩
  have hgw : wa.heap.size ≤ g := by rw [← hg]; exact hX2.old.size
  rw [hg] at HX2
  clear hX2 KF
  have HIc : Hid ((Try.prog.info? 44).map (·.size) = some (cw (cellL 9)).size) := Lib.hid (by rw [cw_size, cellL_len]; kernel_rfl)
  go_upto_region 5 with (first
    | (refine wpList_store_row rfl 44 (.tmp 4) (.tmp 17) rfl g (cw (cellL 9)) rfl rfl 44 _ HX2.out.x.2 HIc.out (by rw [cw_size, cellL_len]; rfl) (cw_one _) ?_)
    | fail)
  refine at_world (fun w' => OneX 108 wa w' p M2 (fun i => False ∨ i = g) (fun w' => True ∧ Blk w' g (cw (cellL 9)) 44)) (HX2.out.turn (fun _ h => h) (mframe_setRow (MFrame.refl _ _) ⟨.inr rfl, hgw⟩ _) ⟨trivial, HX2.out.x.2.setRow _⟩) ?_
  intro w3 hX3
  have HK3 : Hid (Keeps (fun i => False ∨ i = g) (fun w' => True ∧ Blk w' g (cw (cellL 9)) 44)) := Lib.hid (keeps_and keeps_true (keeps_blk _ _ _))
  have HR : Hid (∀ w' M', OneX 108 wa w' p M' (fun i => False ∨ i = g) (fun w' => True ∧ Blk w' g (cw (cellL 9)) 44) → w'.rangeAt g 0 (wv (cellL 9))) := Lib.hid fun w' M' h => h.x.2.range
  have QC : ∀ w, (Op.equalIn 10000 44 (.agg (wv (cellL 9)).toArray) (.agg (wv (cellL 9)).toArray)).run Try.prog w = .ok true w := fun w => by
    have := run_eqcell _ _ (cellL_len 9) (cellL_len 9) w
    rw [cw_eq] at this
    rw [this]; simp
  have KC := Lib.hid (fun w' => cell7_any 9 w')
  have KG := Lib.hid (fun w' (h' : OneX 108 wa w' p M2 (fun i => False ∨ i = g) (fun w' => True ∧ Blk w' g (cw (cellL 9)) 44)) => one_get HK3.out 0 1 ⟨by decide, by decide⟩ h' hev2)
  rw [hE4] at KG
  have hm : mk true = 18446744073709551615 := rfl
  rw [hm]
  have hi5 : (Try.prog.info? 44).map (·.size) = some (wv (cellL 9)).length := by rw [wv_len, cellL_len]; kernel_rfl
  simp only [cw_eq] at KC KG HK3 hX3 HR
  have U44 := Try.underlying44
  have hX4 := hX3.drew HK3.out
  have hr4 := HR.out _ _ hX4
  generalize M2.noted (readsL 0 (M2.size 0)) = M5 at *
  clear HIc HX2 hE4 hev2
  generalize wv (cellL 9) = ls at *
  go_region_held3 (fun w' => w'.rangeAt g 0 ls) (first | assumption | exact HR.out _ _ (by assumption)) (first
    | (go_at_call 49; refine (KC.out _).mono ?_; rintro e wA ⟨rfl, hbA⟩; have hXA := OneX.below HK3.out (by assumption) hbA)
    | (go_at_call 50; refine (KG.out _ (by assumption)).mono ?_; rintro e wB ⟨rfl, hXB⟩))
  all_goals
    go_wp2
    go_ret
    refine ⟨by simp, HW.out.trans (Below.mono (OneX.old (by assumption)) HW.out.size)⟩
end Go.Proofs.Ytngpaibppdehdaa
