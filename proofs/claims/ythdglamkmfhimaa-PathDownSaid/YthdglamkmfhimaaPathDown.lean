/-
  The walk of shellgamelaw8.PathDown.
-/
import Derived.Test.YthdglamkmfhimaaRefPath
import Derived.Deep.OwnRows
namespace Go.Proofs.Ythdglamkmfhimaa
open Go.RowKit Go.Sg

theorem rowIs_below {w w' : World} {b n : Nat} {t : TypeId} {f : Nat → Value} (h : w.rowIs b t n f) (hb : Below w.heap.size w w') : w'.rowIs b t n f := h.of_block (hb.block b h.lt)

set_option maxRecDepth 100000 in
theorem PathDown_walk (L : Int) (w : World) (hL : Num L) :
    Calls Try.prog 7 #[.int .i64 L] w fun e w' => e = .returned (.bool true) ∧ Below w.heap.size w w' := by
  have KS := Lib.hid (fun w' (h : Below w.heap.size w w') => cls_call (P := Try.prog) shown8 (Nat.le_refl _) h)
  have hB : Below w.heap.size w w := Below.refl _ _
  by_cases c1 : L < 0
  · have b1 : decide (L < 0) = true := decide_eq_true c1
    go_enter Try.func7, Try.ntmps7
    go_wp2_with (go_at_call 9; (with_reducible refine (KS.out _ (by assumption)).mono ?_); rintro e w' ⟨rfl, hb1⟩)
    go_ret
    exact ⟨rfl, by assumption⟩
  · have b1 : decide (L < 0) = false := decide_eq_false c1
    by_cases c2 : 8 < L
    · have b2 : decide (8 < L) = true := decide_eq_true c2
      go_enter Try.func7, Try.ntmps7
      go_wp2_with (go_at_call 9; (with_reducible refine (KS.out _ (by assumption)).mono ?_); rintro e w' ⟨rfl, hb1⟩)
      go_ret
      exact ⟨rfl, by assumption⟩
    · have b2 : decide (8 < L) = false := decide_eq_false c2
      obtain ⟨D, rfl⟩ : ∃ D : Nat, L = D := ⟨L.toNat, by omega⟩
      have hD : D ≤ 8 := by omega
      have hD10 : D ≤ 10 := by omega
      obtain ⟨M, hM⟩ : ∃ M : Nat, (M : Int) = 2 ^ D := ⟨2 ^ D, by simp⟩
      have hNb : 1 ≤ M ∧ M ≤ 256 := by
        have := pow_le_62 D (by omega)
        have e := pow_mono' D 8 hD
        have e9 : (2 : Int) ^ 8 = 256 := by decide
        omega
      obtain ⟨n0, n1⟩ := hNb
      have hw := wrap64_pow D (by omega)
      have hNn : Num (M : Int) := ⟨by omega, by omega⟩
      have hr : rightB (M : Int) = true := by rw [hM]; exact rightB_pow D hD10
      have hnod : nodesI (M : Int) = 2 * (M : Int) - 1 := by rw [nodesI, if_pos hr]
      have hdepth : depthI (M : Int) = D := by rw [hM]; exact depthI_pow D hD10
      have KN : Hid (∀ w', Calls Try.prog 18 #[.int .i64 (M : Int)] w' fun e w'' => e = .returned (.int .i64 (2 * (M : Int) - 1)) ∧ w'' = w') := Lib.hid fun w' => by
        have := pathNodes_any (M : Int) hNn w'
        rwa [hnod] at this
      have KD : Hid (∀ w', Calls Try.prog 16 #[.int .i64 (M : Int)] w' fun e w'' => e = .returned (.int .i64 (D : Int)) ∧ w'' = w') := Lib.hid fun w' => by
        have := pathDepth_any (M : Int) hNn w'
        rwa [hdepth] at this
      have KP := Lib.hid (fun (k : Int) w' => pathPathN_any (M : Int) k hNn w')
      have HLN : Hid (∀ k : Nat, k < M → (ints (pathL M k)).length = D + 1 ∧ (∀ i (h : i < (ints (pathL M k)).length), (ints (pathL M k))[i] = .int .i64 (nodeI M k (i : Int))) ∧
          (∀ i : Nat, i ≤ D → 0 ≤ nodeI M k (i : Int) ∧ nodeI M k (i : Int) < 2 * (M : Int) - 1) ∧ nodeI M k 0 = 0 ∧ nodeI M k (D : Int) = (M : Int) - 1 + k ∧
          (∀ i : Nat, i + 1 ≤ D → nodeI M k ((i + 1 : Nat) : Int) = 2 * nodeI M k (i : Int) + 1 ∨ nodeI M k ((i + 1 : Nat) : Int) = 2 * nodeI M k (i : Int) + 2)) := Lib.hid fun k hk => by
        have hk2 : (k : Int) < 2 ^ D := by omega
        have hh : hasB M k = true := by rw [hM]; exact hasB_pow hD10 (by omega) hk2
        refine ⟨by rw [ints_len, pathL_len hh, hdepth]; omega, fun i h => ?_, fun i hi => ?_, ?_, ?_, fun i hi => ?_⟩
        · simp only [ints, List.getElem_map]
          rw [pathL_at hh]
        · rw [hM]
          have := node_bd hD10 (by omega) hk2 i hi
          have := pow_mono' (i + 1) (D + 1) (by omega)
          rw [Int.pow_succ 2 D] at this
          have := pow_mono' 0 i (by omega)
          simp at this
          omega
        · rw [hM]
          have := nodeI_at hD10 (by omega) hk2 0 (by omega)
          simp only [Nat.sub_zero, leaf_top (by omega : (0 : Int) ≤ k) hk2] at this
          simpa using this
        · rw [hM]
          have := nodeI_at hD10 (by omega) hk2 D (Nat.le_refl _)
          simp only [Nat.sub_self] at this
          rw [this]
          simp
        · rw [hM]
          exact node_down hD10 (by omega) hk2 i hi
      have HCS : Hid (∀ k i j : Nat, k < M → i ≤ D → j < 4096 → cnt D k (i + 1) j = cnt D k i j + (if (j : Int) = nodeI M k (i : Int) then 1 else 0)) := Lib.hid fun k i j hk hi hj => by
        rw [hM]
        exact cnt_step hD10 (by omega) hi hj
      have HDL : Hid (∀ j : Nat, (j : Int) < 2 * (M : Int) - 1 → dep j ≤ D) := Lib.hid fun j hj => dep_le hD10 (by rw [← hM]; exact hj)
      have HCE : Hid (∀ j : Nat, (j : Int) < 2 * (M : Int) - 1 → cnt D M 0 j = (M : Int) / 2 ^ dep j) := Lib.hid fun j hj => by
        rw [cnt_end hM (dep_le hD10 (by rw [← hM]; exact hj)) (by omega), hM]
      rw [← hM] at hw
      obtain ⟨i0, hi, hz0, hz1, hz2⟩ := info_parts info_int
      have HI := Lib.hid hi
      have HZ := Lib.hid hz0
      have HS := Lib.hid hz1
      have HY := Lib.hid hz2
      clear hi hz0 hz1 hz2 hnod hdepth hr hNn hL
      go_enter Try.func7, Try.ntmps7
      go_wp2_with (first
        | (go_at_call 9; (with_reducible refine (KS.out _ (by assumption)).mono ?_); rintro e w' ⟨rfl, hb1⟩)
        | (at_make; go_loud (refine wpList_make_row _ rfl (.tmp 27) (.tmp 27) 26 rfl 3 i0 (.int .i64 0) Try.underlying26 HI.out HZ.out HS.out rfl .i64 .i64 (2 * M) ?l1 ?l1 (by rw [HY.out]; omega) (by omega) ?_))
        | fail)
      case l1 =>
        set_option maxRecDepth 100000 in
        exact congrArg (Value.int .i64) (show (2 * 2 ^ D : Int) = ((2 * M : Nat) : Int) by rw [← hM, Int.natCast_mul]; rfl)
      rw [← hM]
      obtain ⟨G, hG⟩ : ∃ G, w'.heap.size = G := ⟨_, rfl⟩
      have hrow := World.rowIs_made w' (.int .i64 0) (2 * M) 3
      have hbel := hb1.alloc hb1.size (.cells (madeCells #[.int .i64 0] (2 * M)) 3)
      have hGw : w.heap.size ≤ G := by rw [← hG]; exact hb1.size
      rw [hG] at hrow ⊢
      have HR := Lib.hid hrow
      have HB := Lib.hid hbel
      have HM := Lib.hid hM
      have HGw := Lib.hid hGw
      clear hrow hbel hG hM hb1 hw hGw
      generalize w'.alloc (.cells (madeCells #[.int .i64 0] (2 * M)) 3) = w1 at *
      go_loopw [6] (fun i wr => ∃ k : Nat, k ≤ M ∧ i = .int .i64 k ∧ Hid (∃ f : Nat → Int, wr.rowIs G 3 (2 * M) (fun j => .int .i64 (f j)) ∧ ∀ j : Nat, (j : Int) < 2 * (M : Int) - 1 → f j = cnt D k 0 j) ∧ Hid (Below w.heap.size w wr)) (fun i _ => M - (intOf i).toNat)
      case atStart => exact ⟨0, by omega, rfl, Lib.hid ⟨fun _ => 0, HR.out, fun j hj => (cnt_zero (by omega)).symm⟩, HB⟩
      case round =>
        obtain ⟨k, hk, rfl, HF, HW⟩ := hrel
        by_cases hlt : k < M
        · obtain ⟨hl1, hl2, hl3, hl4, hl5, hl6⟩ := HLN.out k hlt
          have HL1 := Lib.hid hl1
          have HL2 := Lib.hid hl2
          have HL3 := Lib.hid hl3
          have HL4 := Lib.hid hl4
          have HL5 := Lib.hid hl5
          have HL6 := Lib.hid hl6
          have HC := Lib.hid (fun i j => HCS.out k i j hlt)
          clear hl1 hl2 hl3 hl4 hl5 hl6
          generalize nodeI (M : Int) (k : Int) = nd at *
          go_wp2_with fail
          refine (KP.out (k : Int) _).mono ?_
          rintro _ w2 ⟨v, rfl, hs, hbel, hnew⟩
          have HF2 : Hid (∃ f : Nat → Int, w2.rowIs G 3 (2 * M) (fun j => .int .i64 (f j)) ∧ ∀ j : Nat, (j : Int) < 2 * (M : Int) - 1 → f j = cnt D k 0 j) := Lib.hid (by
            obtain ⟨f, h1, h2⟩ := HF.out
            exact ⟨f, rowIs_below h1 hbel, h2⟩)
          have hGlt : G < wr.heap.size := by obtain ⟨f, h1, _⟩ := HF.out; exact h1.lt
          have HW2 := Lib.hid (HW.out.trans (hbel.mono HW.out.size))
          rcases hs with ⟨e1, _⟩ | ⟨_, p, o, cap, rfl, hl, hm, hlt2, hc⟩
          · exfalso
            have := HL1.out
            rw [e1] at this
            simp at this
          rw [HL1.out] at hl ⊢
          have hpG : G ≠ p := by have := hnew p rfl; omega
          have HpG := Lib.hid hpG
          have HPl := Lib.hid hlt2
          have HC2 : Hid (∀ i : Nat, i ≤ D → w2.cell? ⟨p, o + i, none⟩ = some (.int .i64 (nd (i : Int)))) := Lib.hid fun i hi => by
            rw [hc i (by rw [HL1.out]; omega), HL2.out]
          have h0 := HC2.out 0 (by omega)
          have hD' := HC2.out D (Nat.le_refl _)
          rw [HL5.out] at hD'
          rw [show ((0 : Nat) : Int) = 0 from rfl, HL4.out, Nat.add_zero] at h0
          clear hc hbel hnew hGlt hpG HF HW hlt2
          go_wp2
          go_loopw [8] (fun i wr => ∃ m : Nat, m ≤ D + 1 ∧ i = .int .i64 m ∧ Hid (∃ f : Nat → Int, wr.rowIs G 3 (2 * M) (fun j => .int .i64 (f j)) ∧ ∀ j : Nat, (j : Int) < 2 * (M : Int) - 1 → f j = cnt D k m j) ∧ Hid (Below w.heap.size w wr) ∧ Hid (∀ i : Nat, i ≤ D → wr.cell? ⟨p, o + i, none⟩ = some (.int .i64 (nd (i : Int))))) (fun i _ => D + 1 - (intOf i).toNat)
          case atStart => exact ⟨0, by omega, rfl, HF2, HW2, HC2⟩
          case round =>
            obtain ⟨m, hm, rfl, HF3, HW3, HC3⟩ := hrel
            by_cases hml : m < D + 1
            · have cm := HC3.out m (by omega)
              obtain ⟨y0, y1⟩ := HL3.out m (by omega)
              have HCm := Lib.hid (fun j => HC.out m j (by omega))
              have i0 : (0 : Int) ≤ (m : Int) := by omega
              have i1 : (m : Int) < (D : Int) + 1 := by omega
              have hdn : 0 < m → ∃ z : Int, wr.cell? ⟨p, o + (m - 1), none⟩ = some (.int .i64 z) ∧ (0 ≤ z ∧ z < 2 * (M : Int) - 1) ∧ (nd (m : Int) = 2 * z + 1 ∨ nd (m : Int) = 2 * z + 2) := fun h => by
                obtain ⟨m', rfl⟩ : ∃ m', m = m' + 1 := ⟨m - 1, by omega⟩
                refine ⟨nd (m' : Int), HC3.out m' (by omega), HL3.out m' (by omega), HL6.out m' (by omega)⟩
              have HDN := Lib.hid hdn
              clear hdn
              generalize nd (m : Int) = y at *
              obtain ⟨y', rfl⟩ : ∃ y' : Nat, y = y' := ⟨y.toNat, by omega⟩
              obtain ⟨f, hrw, hff⟩ := HF3.out
              have HRW := Lib.hid hrw
              have HFF := Lib.hid hff
              have hfb : 0 ≤ f y' ∧ f y' ≤ 1024 := by rw [hff y' y1]; exact cnt_bd hD10
              obtain ⟨fb0, fb1⟩ := hfb
              clear hrw hff HF3
              have g1 : decide ((y' : Int) < 0) = false := decide_eq_false (by omega)
              have g2 : decide (2 * (M : Int) - 1 ≤ (y' : Int)) = false := decide_eq_false (by omega)
              by_cases hm0 : 0 < m
              · obtain ⟨m', rfl⟩ : ∃ m', m = m' + 1 := ⟨m - 1, by omega⟩
                obtain ⟨z, cz, ⟨z0, z1⟩, hz⟩ := HDN.out hm0
                have g3 : decide (0 < ((m' : Int) + 1)) = true := decide_eq_true (by omega)
                have i2 : (0 : Int) ≤ (m' : Int) := by omega
                have i3 : (m' : Int) < (D : Int) + 1 := by omega
                rw [Nat.add_sub_cancel] at cz
                by_cases hz1 : (y' : Int) = 2 * z + 1
                · have g4 : ((y' : Int) != 2 * z + 1) = false := by simp [hz1]
                  have HZ1 := Lib.hid hz1
                  clear hz hz1 HDN
                  go_wp2_with fail
                  go_quiet (first | (go_at_call 18; refine Calls.quiet_of_same (KN.out _)))
                  have HR3 := Lib.hid (show (wr.drewN nq).rowIs G 3 (2 * M) (fun j => .int .i64 (f j)) from HRW.out)
                  have HW4 := Lib.hid (show Below w.heap.size w (wr.drewN nq) from HW3.out.trans ((below_drewN' (Below.refl _ _)).mono HW3.out.size))
                  have cm4 : (wr.drewN nq).cell? ⟨p, o + (m' + 1), none⟩ = some (.int .i64 y') := cm
                  have HC4 : Hid (∀ i : Nat, i ≤ D → (wr.drewN nq).cell? ⟨p, o + i, none⟩ = some (.int .i64 (nd (i : Int)))) := Lib.hid HC3.out
                  have cG : (wr.drewN nq).cell? ⟨G, y', none⟩ = some (.int .i64 (f y')) := HR3.out.cell (by omega)
                  have fG : (wr.drewN nq).frozen? ⟨G, y', none⟩ = false := HR3.out.frozen y'
                  generalize wr.drewN nq = wq at *
                  generalize hfv : f y' = fv at *
                  have HFV := Lib.hid hfv
                  clear hfv
                  go_wp2
                  go_roundw
                  case rel =>
                    refine ⟨(m' + 1) + 1, by omega, by go_num, Lib.hid ⟨fun j => if j = y' then fv + 1 else f j, (HR3.out.set y' _).congr fun j _ => by dsimp only; split <;> rfl, fun j hj => ?_⟩, Lib.hid (HW4.out.setCell HGw.out _), Lib.hid fun i hi => ?_⟩
                    · rw [HCm.out j (by omega), ← HFF.out j hj]
                      dsimp only
                      by_cases hjy : j = y'
                      · subst hjy
                        rw [if_pos rfl, if_pos rfl, HFV.out]
                      · rw [if_neg hjy, if_neg (by omega)]; omega
                    · rw [World.cell?_setCell_other (h := fun h => HpG.out (congrArg Addr.block h))]
                      exact HC4.out i hi
                  case measure => simp [intOf]; omega
                · have g4 : ((y' : Int) != 2 * z + 1) = true := by simpa using hz1
                  have g5 : ((y' : Int) != 2 * z + 2) = false := by rw [bne_eq_false_iff_eq]; omega
                  clear hz hz1 HDN
                  go_wp2_with fail
                  go_quiet (first | (go_at_call 18; refine Calls.quiet_of_same (KN.out _)))
                  have HR3 := Lib.hid (show (wr.drewN nq).rowIs G 3 (2 * M) (fun j => .int .i64 (f j)) from HRW.out)
                  have HW4 := Lib.hid (show Below w.heap.size w (wr.drewN nq) from HW3.out.trans ((below_drewN' (Below.refl _ _)).mono HW3.out.size))
                  have cm4 : (wr.drewN nq).cell? ⟨p, o + (m' + 1), none⟩ = some (.int .i64 y') := cm
                  have HC4 : Hid (∀ i : Nat, i ≤ D → (wr.drewN nq).cell? ⟨p, o + i, none⟩ = some (.int .i64 (nd (i : Int)))) := Lib.hid HC3.out
                  have cG : (wr.drewN nq).cell? ⟨G, y', none⟩ = some (.int .i64 (f y')) := HR3.out.cell (by omega)
                  have fG : (wr.drewN nq).frozen? ⟨G, y', none⟩ = false := HR3.out.frozen y'
                  generalize wr.drewN nq = wq at *
                  generalize hfv : f y' = fv at *
                  have HFV := Lib.hid hfv
                  clear hfv
                  go_wp2
                  go_roundw
                  case rel =>
                    refine ⟨(m' + 1) + 1, by omega, by go_num, Lib.hid ⟨fun j => if j = y' then fv + 1 else f j, (HR3.out.set y' _).congr fun j _ => by dsimp only; split <;> rfl, fun j hj => ?_⟩, Lib.hid (HW4.out.setCell HGw.out _), Lib.hid fun i hi => ?_⟩
                    · rw [HCm.out j (by omega), ← HFF.out j hj]
                      dsimp only
                      by_cases hjy : j = y'
                      · subst hjy
                        rw [if_pos rfl, if_pos rfl, HFV.out]
                      · rw [if_neg hjy, if_neg (by omega)]; omega
                    · rw [World.cell?_setCell_other (h := fun h => HpG.out (congrArg Addr.block h))]
                      exact HC4.out i hi
                  case measure => simp [intOf]; omega
              · obtain rfl : m = 0 := by omega
                have g3 : decide (0 < (0 : Int)) = false := by decide
                have i5 : (0 : Int) < (D : Int) + 1 := by omega
                rw [Nat.add_zero] at cm
                rw [show ((0 : Nat) : Int) = 0 from rfl] at i0 i1 ⊢
                clear HDN
                go_wp2_with fail
                go_quiet (first | (go_at_call 18; refine Calls.quiet_of_same (KN.out _)))
                have HR3 := Lib.hid (show (wr.drewN nq).rowIs G 3 (2 * M) (fun j => .int .i64 (f j)) from HRW.out)
                have HW4 := Lib.hid (show Below w.heap.size w (wr.drewN nq) from HW3.out.trans ((below_drewN' (Below.refl _ _)).mono HW3.out.size))
                have cm4 : (wr.drewN nq).cell? ⟨p, o, none⟩ = some (.int .i64 y') := cm
                have HC4 : Hid (∀ i : Nat, i ≤ D → (wr.drewN nq).cell? ⟨p, o + i, none⟩ = some (.int .i64 (nd (i : Int)))) := Lib.hid HC3.out
                have cG : (wr.drewN nq).cell? ⟨G, y', none⟩ = some (.int .i64 (f y')) := HR3.out.cell (by omega)
                have fG : (wr.drewN nq).frozen? ⟨G, y', none⟩ = false := HR3.out.frozen y'
                generalize wr.drewN nq = wq at *
                generalize hfv : f y' = fv at *
                have HFV := Lib.hid hfv
                clear hfv
                go_wp2
                go_roundw
                case rel =>
                  refine ⟨0 + 1, by omega, by go_num, Lib.hid ⟨fun j => if j = y' then fv + 1 else f j, (HR3.out.set y' _).congr fun j _ => by dsimp only; split <;> rfl, fun j hj => ?_⟩, Lib.hid (HW4.out.setCell HGw.out _), Lib.hid fun i hi => ?_⟩
                  · rw [HCm.out j (by omega), ← HFF.out j hj]
                    dsimp only
                    by_cases hjy : j = y'
                    · subst hjy
                      rw [if_pos rfl, if_pos rfl, HFV.out]
                    · rw [if_neg hjy, if_neg (by omega)]; omega
                  · rw [World.cell?_setCell_other (h := fun h => HpG.out (congrArg Addr.block h))]
                    exact HC4.out i hi
                case measure => simp [intOf]
            · have hmD : m = D + 1 := by omega
              subst hmD
              go_wp2
              go_roundw
              case rel =>
                refine ⟨k + 1, by omega, by go_num, Lib.hid ?_, HW3⟩
                obtain ⟨f, h1, h2⟩ := HF3.out
                exact ⟨f, h1, fun j hj => by rw [h2 j hj, cnt_next (HDL.out j hj)]⟩
              case measure => simp [intOf]; omega
        · obtain rfl : k = M := by omega
          obtain ⟨f, hrw, hff⟩ := HF.out
          have HRW := Lib.hid hrw
          have HFF : Hid (∀ j : Nat, (j : Int) < 2 * (k : Int) - 1 → f j = (k : Int) / 2 ^ dep j) := Lib.hid fun j hj => by rw [hff j hj, HCE.out j hj]
          clear hrw hff HF HCS HCE HDL HLN KP
          go_wp2
          go_loopw [9] (fun i w2 => ∃ m : Nat, (m : Int) ≤ 2 * (k : Int) - 1 ∧ i = .int .i64 m ∧ Hid (w2.rowIs G 3 (2 * k) (fun j => .int .i64 (f j))) ∧ Hid (Below w.heap.size w w2)) (fun i _ => 2 * k - (intOf i).toNat)
          case atStart => exact ⟨0, by omega, rfl, HRW, HW⟩
          case round =>
            obtain ⟨m, hm, rfl, HR2, HW2⟩ := hrel
            by_cases hml : (m : Int) < 2 * (k : Int) - 1
            · have hdp := dep_le hD10 (by rw [← HM.out]; exact hml)
              have cm := HR2.out.cell (i := m) (by omega)
              rw [HFF.out m hml] at cm
              have i0 : (0 : Int) ≤ (m : Int) := by omega
              have i1 : (m : Int) < 2 * (k : Int) := by omega
              go_wp2_with (first
                | (go_at_call 18; (with_reducible refine (KN.out _).mono ?_); rintro _ w' ⟨rfl, rfl⟩)
                | fail)
              have HLG : Hid (logI ((m : Int) + 1) = (dep m : Int)) := Lib.hid (by unfold dep; have := logI_bd ((m : Int) + 1); omega)
              go_loop [10, 11] (fun d c => ∃ (j : Nat) (x : Int), d = .int .i64 j ∧ c = .int .i64 x ∧ j ≤ 20 ∧ 1 ≤ x ∧ x ≤ 1024 ∧ Hid ((j : Int) + logI x = dep m)) (fun _ c => (intOf c).toNat)
              case atStart => exact ⟨0, (m : Int) + 1, rfl, rfl, by omega, by omega, by omega, Lib.hid (by rw [HLG.out]; omega)⟩
              case round =>
                obtain ⟨j, x, rfl, rfl, hj, x0, x1, HJ⟩ := hrel
                by_cases hx : 1 < x
                · have HH := Lib.hid (logI_half (a := x) ⟨by omega, by omega⟩ hx)
                  have hj2 : j + 1 ≤ 20 := by
                    have h1 := HJ.out
                    have h2 := HH.out
                    have h3 := logI_bd (x / 2)
                    omega
                  go_wp2
                  go_round
                  case rel => exact ⟨j + 1, x / 2, by go_num, rfl, by omega, by omega, by omega, Lib.hid (by have h1 := HJ.out; have h2 := HH.out; omega)⟩
                  case measure => simp [intOf]; omega
                · have hjd : j = dep m := by
                    have h1 := HJ.out
                    have h2 := logI_low (a := x) (by omega)
                    omega
                  have g0 : (0 : Int) ≤ (j : Int) := by omega
                  rw [← hjd] at cm
                  have HJD := Lib.hid hjd
                  clear hjd
                  go_wp2_with fail
                  go_quiet (fail)
                  have HW5 := Lib.hid (show Below w.heap.size w (w'.drewN nq) from HW2.out.trans ((below_drewN' (Below.refl _ _)).mono HW2.out.size))
                  have HR5 := Lib.hid (show (w'.drewN nq).rowIs G 3 (2 * k) (fun j => .int .i64 (f j)) from HR2.out)
                  go_wp2
                  go_roundw
                  case rel => exact ⟨m + 1, by omega, by go_num, HR5, HW5⟩
                  case measure => simp [intOf]; omega
            · have hme : (m : Int) = 2 * (k : Int) - 1 := by omega
              rw [hme]
              go_wp2_with (first
                | (go_at_call 18; (with_reducible refine (KN.out _).mono ?_); rintro _ w' ⟨rfl, rfl⟩)
                | (go_at_call 16; (with_reducible refine (KD.out _).mono ?_); rintro _ w' ⟨rfl, rfl⟩)
                | fail)
              go_ret
              exact ⟨rfl, HW2.out⟩
end Go.Proofs.Ythdglamkmfhimaa
