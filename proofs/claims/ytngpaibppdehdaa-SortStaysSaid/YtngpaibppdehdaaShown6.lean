/-
  The head of chapter 6's laws.
-/
import Derived.Test.YtngpaibppdehdaaLaid6
import Derived.Test.YtngpaibppdehdaaSortRun
import Derived.Test.YtngpaibppdehdaaShown3
namespace Go.Proofs.Ytngpaibppdehdaa
open Go Go.RowKit Go.Sg

theorem eq_cellF (c : List Int) (h : c.length = 12) (w : World) : (Op.equalIn 10000 44 (.agg (cw c)) (.agg (cw c))).run Try.prog w = .ok true w := by
  have := run_eqcell _ _ h h w
  rw [decide_eq_true rfl] at this
  exact this

set_option maxHeartbeats 4000000 in
set_option maxRecDepth 100000 in
theorem shown6 (w : World) : Calls Try.prog 57 #[] w fun e w' => e = .returned (.bool true) ∧ Below w.heap.size w w' := by
  have hwz : ∀ x ∈ [(5 : Int), 3], Word x := fun x hx => by simp at hx; rcases hx with rfl | rfl <;> exact ⟨by omega, by omega⟩
  go_enter Try.func57, Try.ntmps57
  go_wp2_with fail
  refine (laid6_any 1 2 (by decide) (by decide) (by decide) (by decide) _ [5, 3] hwz _ (Sl1.of_owns (owns_lit (base := 0) #[.int .u64 5, .int .u64 3] (by omega) (by simp [maxLen])))).mono ?_
  rintro e w1 ⟨p, q, rfl, hP⟩
  have hx := hP.left
  obtain ⟨wa, hwa⟩ : ∃ wa, w.alloc (.cells #[.int .u64 5, .int .u64 3] 39) = wa := ⟨_, rfl⟩
  have hwab : Below w.heap.size w wa := by rw [← hwa]; exact (Below.refl _ _).alloc (Nat.le_refl _) _
  have HW := Lib.hid hwab
  have hev : (laidM 1 2 [5, 3]).evs.length ≤ 40 := by have := (laid_f (r := 1) (c := 2) [5, 3] (by decide)).evs; omega
  have hsz : (laidM 1 2 [5, 3]).size 0 = 2 := by decide +kernel
  have HX : Hid (OneX 108 wa w1 p (laidM 1 2 [5, 3]) (fun _ => False) (fun _ => True)) := Lib.hid (by rw [← hwa]; exact hx)
  clear hP hx hwa hwab
  have hn1 : (netP (2 ^ 1) 1) = [(0, 1, true)] := by decide +kernel
  have KR := Lib.hid (one_run_yes keeps_true 1 (by omega) 0 0 (by omega) (by rw [hsz]; decide) HX.out (by omega))
  rw [hn1] at KR
  have hel : (((laidM 1 2 [5, 3]).srt 0 0 [(0, 1, true)]).noted (evsS 0 [(0, 1, true)])).evs.length = (laidM 1 2 [5, 3]).evs.length + 4 := by rw [Mm.noted_evs, Mm.srt_evs, List.length_append]; rfl
  have e1 : (((laidM 1 2 [5, 3]).srt 0 0 [(0, 1, true)]).noted (evsS 0 [(0, 1, true)])).read 0 0 = cellL 3 := by decide +kernel
  have e2 : ((((laidM 1 2 [5, 3]).srt 0 0 [(0, 1, true)]).noted (evsS 0 [(0, 1, true)])).look 0 0 false).read 0 1 = cellL 5 := by decide +kernel
  have KM1 := Lib.hid (one_many HX.out)
  go_wp2_with fail
  refine KM1.out.mono ?_
  rintro e wM ⟨rfl, rfl⟩
  go_wp2_with fail
  refine KR.out.mono ?_
  rintro e w2 ⟨rfl, hX2⟩
  have HX2 := Lib.hid hX2
  have KM2 := Lib.hid (one_many hX2)
  rw [hel] at KM2
  clear hX2 KR KM1 HX
  have hev2 : (((laidM 1 2 [5, 3]).srt 0 0 [(0, 1, true)]).noted (evsS 0 [(0, 1, true)])).evs.length ≤ 50 := by omega
  generalize (laidM 1 2 [5, 3]).evs.length = m0 at *
  generalize ((laidM 1 2 [5, 3]).srt 0 0 [(0, 1, true)]).noted (evsS 0 [(0, 1, true)]) = M2 at *
  clear hel hsz hn1
  go_wp2_with fail
  refine KM2.out.mono ?_
  rintro e wM2 ⟨rfl, rfl⟩
  have hsub : (m0 : Int) + 4 - (m0 : Int) = 4 := by omega
  have KA := Lib.hid (one_read keeps_true 0 0 HX2.out (by omega))
  rw [e1] at KA
  have hl := look_evs_le M2 0 0 false
  have KB := Lib.hid (fun w' (h' : OneX 108 wa w' p (M2.look 0 0 false) (fun _ => False) (fun _ => True)) => one_read keeps_true 0 1 h' (by omega))
  rw [e2] at KB
  have Q3 := eq_cellF _ (cellL_len 3)
  have Q5 := eq_cellF _ (cellL_len 5)
  have KC3 := Lib.hid (fun w' => cell6_any 3 w')
  have KC5 := Lib.hid (fun w' => cell6_any 5 w')
  clear e1 e2 HX2 KM2 hl hev2
  generalize cw (cellL 3) = c3 at *
  generalize cw (cellL 5) = c5 at *
  go_wp2_with fail
  refine KA.out.mono ?_
  rintro e wA ⟨rfl, hA⟩
  go_wp2_with fail
  refine (KC3.out _).mono ?_
  rintro e wB ⟨rfl, hbB⟩
  have KB2 := Lib.hid (KB.out _ (hA.below keeps_true hbB))
  clear KB hA hbB
  go_wp2_with fail
  refine KB2.out.mono ?_
  rintro e wC ⟨rfl, hC⟩
  go_wp2_with fail
  refine (KC5.out _).mono ?_
  rintro e wD ⟨rfl, hbD⟩
  have HD := Lib.hid (hC.below keeps_true hbD)
  clear hC hbD
  go_wp2
  go_ret
  exact ⟨rfl, HW.out.trans (HD.out.old.mono HW.out.size)⟩
end Go.Proofs.Ytngpaibppdehdaa
