/-
  The walk of shellgamelaw6.sameEvents, at looks.
-/
import Derived.Test.YtngpaibppdehdaaEvEq
namespace Go.Proofs.Ytngpaibppdehdaa
open Go.RowKit Go.Sg

set_option maxRecDepth 100000 in
theorem sameE6_any (v1 v2 : Value) (xs ys : List Ev) (w : World) (h1 : SlE w v1 xs) (h2 : SlE w v2 ys) :
    Calls Try.prog 71 #[v1, v2] w fun e w' => e = .returned (.bool (decide (xs = ys))) ∧ Below w.heap.size w w' := by
  obtain ⟨a1, cap1, rfl, p1, p2, p3⟩ := h1
  obtain ⟨a2, cap2, rfl, q1, q2, q3⟩ := h2
  by_cases hlen : xs.length = ys.length
  · by_cases h0 : xs = []
    · subst h0
      have : ys = [] := List.length_eq_zero_iff.1 hlen.symm
      subst this
      clear p3 q3 hlen
      go_enter Try.func71, Try.ntmps71
      go_wp2
      go_loop [5] (fun i => i = .int .i64 0) (fun _ => 0)
      case atStart => rfl
      case round =>
        subst hrel
        go_wp2
        go_ret
        exact ⟨rfl, Below.refl _ _⟩
    · have h0' : ys ≠ [] := fun e => h0 (List.length_eq_zero_iff.1 (by rw [hlen, e]; rfl))
      obtain ⟨b1, off1, rfl, hlt1, hr1⟩ := p3 h0
      obtain ⟨b2, off2, rfl, hlt2, hr2⟩ := q3 h0'
      have R1 := Lib.hid hr1
      have R2 := Lib.hid hr2
      have L1 := Lib.hid hlt1
      have L2 := Lib.hid hlt2
      have HL := Lib.hid hlen
      have g1 : ((xs.length : Int) != (xs.length : Int)) = false := by simp
      have hmx : xs.length ≤ maxLen := by omega
      unfold maxLen at hmx
      rw [← hlen]
      clear p3 q3 hr1 hr2 hlt1 hlt2 h0 h0' hlen p1 p2 q1 q2
      go_enter Try.func71, Try.ntmps71
      go_wp2
      go_loopw [5] (fun i wr => ∃ k : Nat, k ≤ xs.length ∧ i = .int .i64 k ∧ Hid (∀ r (h : r < xs.length) (h' : r < ys.length), r < k → xs[r] = ys[r]) ∧ Below w.heap.size w wr) (fun i _ => xs.length - (intOf i).toNat)
      case atStart => exact ⟨0, by omega, rfl, Lib.hid (fun r _ _ h => by omega), Below.refl _ _⟩
      case round =>
        obtain ⟨k, hk, rfl, HE, hW⟩ := hrel
        have HW := Lib.hid hW
        by_cases hlt : k < xs.length
        · have hlt' : k < ys.length := by have := HL.out; omega
          have r1 : wr.rangeAt b1 (off1 + k * 3) (evV xs[k]) := fun j v hv => (hW.cell (p := ⟨b1, off1 + k * 3 + j, none⟩) L1.out).trans (rangeAt_ev R1.out k hlt j v hv)
          have r2 : wr.rangeAt b2 (off2 + k * 3) (evV ys[k]) := fun j v hv => (hW.cell (p := ⟨b2, off2 + k * 3 + j, none⟩) L2.out).trans (rangeAt_ev R2.out k hlt' j v hv)
          have i0 : (0 : Int) ≤ (k : Int) := by omega
          have i1 : (k : Int) < (xs.length : Int) := by omega
          have RR1 := Lib.hid r1
          have RR2 := Lib.hid r2
          have QE := fun w => run_eqev xs[k] ys[k] w
          have HX : Hid (decide (xs[k] = ys[k]) = true → ∀ r (h : r < xs.length) (h' : r < ys.length), r < k + 1 → xs[r] = ys[r]) := Lib.hid fun e r h h' hr => by
            rcases Nat.lt_or_ge r k with h3 | h3
            · exact HE.out r h h' h3
            · obtain rfl : r = k := by omega
              exact of_decide_eq_true e
          have HY : Hid (decide (xs[k] = ys[k]) = false → decide (xs = ys) = false) := Lib.hid fun e => decide_eq_false fun h => of_decide_eq_false e (by simp [h])
          clear hW r1 r2
          generalize xs[k] = x at *
          generalize ys[k] = y at *
          generalize decide (x = y) = bb at *
          go_wp2_with fail
          refine wp_region_cls (fun w' => ∃ n, w' = wr.drewN n) (by kernel_rfl) (by kernel_rfl) ⟨1, rfl⟩ ?_
          repeat (first
            | (refine wpQuiet_step (fun K hK => ?_)
               refine qs_load_mid (by rfl) 52 (.tmp 19) rfl b1 (off1 + k * 3) rfl (evV x) _ (fun w ⟨n, hw⟩ => by subst hw; exact RR1.out) Try.underlying52 rfl (info_ev3 _) (hK _ ?_)
               clear hK K)
            | (refine wpQuiet_step (fun K hK => ?_)
               refine qs_load_mid (by rfl) 52 (.tmp 23) rfl b2 (off2 + k * 3) rfl (evV y) _ (fun w ⟨n, hw⟩ => by subst hw; exact RR2.out) Try.underlying52 rfl (info_ev3 _) (hK _ ?_)
               clear hK K)
            | (refine wpQuiet_step (fun K hK => ?_)
               go_simp
               first
                 | (refine hK _ ?_; clear hK K)
                 | (refine ⟨_, fun _ _ => rfl, hK _ ?_⟩; clear hK K)))
          refine wpQuiet_nil ?_
          rintro w'' ⟨nq, rfl⟩
          have HD := Lib.hid (show Below wr.heap.size wr (wr.drewN nq) from below_drewN' (Below.refl _ _))
          cases bb with
          | true =>
            clear QE
            go_wp2
            go_roundw
            case rel => exact ⟨k + 1, by omega, by go_num, Lib.hid (HX.out (by first | rfl | trivial)), HW.out.trans (HD.out.mono HW.out.size)⟩
            case measure => simp [intOf]; omega
          | false =>
            clear QE
            go_wp2
            go_ret
            exact ⟨congrArg (fun b => Ending.returned (Value.bool b)) (HY.out (by first | rfl | trivial)).symm, HW.out.trans (HD.out.mono HW.out.size)⟩
        · have HN : Hid (decide (xs = ys) = true) := Lib.hid (decide_eq_true (List.ext_getElem HL.out fun r h h' => HE.out r h h' (by omega)))
          clear hW
          go_wp2
          go_ret
          exact ⟨congrArg (fun b => Ending.returned (Value.bool b)) HN.out.symm, HW.out⟩
  · have HN : Hid (decide (xs = ys) = false) := Lib.hid (decide_eq_false fun h => hlen (by rw [h]))
    have g1 : ((xs.length : Int) != (ys.length : Int)) = true := by rw [bne_iff_ne]; omega
    clear p3 q3 hlen
    go_enter Try.func71, Try.ntmps71
    go_wp2
    go_ret
    exact ⟨congrArg (fun b => Ending.returned (Value.bool b)) HN.out.symm, Below.refl _ _⟩
end Go.Proofs.Ytngpaibppdehdaa
