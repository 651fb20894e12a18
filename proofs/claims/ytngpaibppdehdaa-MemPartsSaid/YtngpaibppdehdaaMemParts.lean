/-
  The walk of shellgamelaw3.MemParts.
-/
import Derived.Test.YtngpaibppdehdaaMemRun
namespace Go.Sg
open Go Go.RowKit
theorem fresh43 {N : Mm} (h : N.regs = (Mm.fresh [4, 3]).regs) (j : Nat) (hj : j < 4) : N.read 0 (j : Int) = zeros ∧ N.has 0 (j : Int) = true := by
  obtain ⟨regs, evs, fault⟩ := N
  simp only at h
  subst h
  have : j = 0 ∨ j = 1 ∨ j = 2 ∨ j = 3 := by omega
  rcases this with rfl | rfl | rfl | rfl <;> exact ⟨rfl, rfl⟩
theorem lk_cells {w : World} {b o : Nat} {l : Lk} (h : w.rangeAt b o (lkV l)) :
    w.cell? ⟨b, o, none⟩ = some (.int .i64 l.1) ∧ w.cell? ⟨b, o + 1, none⟩ = some (.int .i64 l.2.1) ∧ w.cell? ⟨b, o + 2, none⟩ = some (.int .u64 l.2.2.1) ∧ w.cell? ⟨b, o + 3, none⟩ = some (.bool l.2.2.2) :=
  ⟨h 0 _ rfl, h 1 _ rfl, h 2 _ rfl, h 3 _ rfl⟩
end Go.Sg
namespace Go.Proofs.Ytngpaibppdehdaa
open Go.RowKit Go.Sg

theorem elem_evs : Try.prog.underlying 48 = some (.slice (Try.prog.elem 48)) := by kernel_rfl

set_option maxHeartbeats 4000000 in
set_option maxRecDepth 100000 in
theorem MemParts_walk (v : Value) (ls : List Lk) (fr : Int) (w : World) (hv : SlL w v ls) (_hf : Num fr) :
    Calls Try.prog 10 #[v, .int .i64 fr] w fun e w' => e = .returned (.bool true) ∧ Below w.heap.size w w' := by
  have KS := Lib.hid (fun w' (h : Below w.heap.size w w') => cls_call (P := Try.prog) shown3 (Nat.le_refl _) h)
  obtain ⟨va, vcap, rfl, v1, v2, v3, v4⟩ := hv
  have V3 := Lib.hid v3
  have V4 := Lib.hid v4
  clear v3 v4
  have hB : Below w.heap.size w w := Below.refl _ _
  unfold maxLen at v2
  go_enter Try.func10, Try.ntmps10
  go_wp2_with fail
  refine (KS.out _ hB).mono ?_
  rintro e w1 ⟨rfl, hb1⟩
  have HB1 := Lib.hid hb1
  clear hb1
  go_wp2_with fail
  refine (memNew_any _ [4, 3] _ (Sl1.of_owns (owns_lit (base := 0) #[.int .i64 4, .int .i64 3] (by omega) (by simp [maxLen])))).mono ?_
  rintro e w2 ⟨hb2, hr⟩
  rcases hr with ⟨h0, _⟩ | ⟨_, p, F, rfl, hm, hF⟩
  · exact absurd h0 (by decide)
  have HB2 : Hid (Below w.heap.size w w2) := Lib.hid ((below_alloc' HB1.out _).trans (hb2.mono (below_alloc' HB1.out _).size))
  have HF : Hid (∀ k, F k → w.heap.size ≤ k) := Lib.hid fun k hk => by have := hF k hk; have := HB1.out.size; simp at *; omega
  have HM := Lib.hid hm
  clear hb2 hm hF
  go_wp2_with fail
  refine (memNew_any _ [4, 3] _ (Sl1.of_owns (owns_lit (base := 0) #[.int .i64 4, .int .i64 3] (by omega) (by simp [maxLen])))).mono ?_
  rintro e w3 ⟨hb3, hr⟩
  rcases hr with ⟨h0, _⟩ | ⟨_, o, Fo, rfl, hm, hF⟩
  · exact absurd h0 (by decide)
  have hb3' := ((Below.refl w2.heap.size w2).alloc (Nat.le_refl _) (.cells #[.int .i64 4, .int .i64 3] 3)).trans (hb3.mono (by simp))
  have HB3 : Hid (Below w.heap.size w w3) := Lib.hid (HB2.out.trans (hb3'.mono HB2.out.size))
  have HFo : Hid (∀ k, Fo k → w2.heap.size ≤ k) := Lib.hid fun k hk => by have := hF k hk; simp at this; omega
  have HMo := Lib.hid hm
  have HM3 := Lib.hid (HM.out.below hb3')
  have HDis : Hid (∀ k, F k → ¬ Fo k) := Lib.hid fun k hk ho => by have := HM.out.lt k hk; have := HFo.out k ho; omega
  have HFo2 : Hid (∀ k, Fo k → w.heap.size ≤ k) := Lib.hid fun k hk => by have := HFo.out k hk; have := HB2.out.size; omega
  clear hb3 hb3' hm hF HM HFo HB2 HB1
  by_cases h60 : 60 < ls.length
  · have b1 : decide ((60 : Int) < (ls.length : Int)) = true := decide_eq_true (by omega)
    go_wp2
    go_ret
    exact ⟨rfl, HB3.out⟩
  · have b1 : decide ((60 : Int) < (ls.length : Int)) = false := decide_eq_false (by omega)
    go_wp2
    go_loopw [10] (fun i wr => ∃ k : Nat, k ≤ ls.length ∧ i = .int .i64 k ∧ Hid (∃ G, MemRep wr 108 p ((Mm.fresh [4, 3]).run (ls.take k)) G ∧ (∀ j, G j → w.heap.size ≤ j) ∧ (∀ j, G j → ¬ Fo j)) ∧ Hid (MemRep wr 108 o (Mm.fresh [4, 3]) Fo) ∧ Hid (Below w.heap.size w wr)) (fun i _ => ls.length - (intOf i).toNat)
    case atStart => exact ⟨0, by omega, rfl, Lib.hid ⟨F, HM3.out, HF.out, HDis.out⟩, HMo, HB3⟩
    case round =>
      obtain ⟨k, hk, rfl, HG, HO, HW⟩ := hrel
      by_cases hlt : k < ls.length
      · obtain ⟨vb, voff, rfl, hvlt, hvr⟩ := V4.out (fun e => by rw [e] at hlt; simp at hlt)
        have hcell : ∀ w', Below w.heap.size w w' → w'.rangeAt vb (voff + k * 4) (lkV ls[k]) := fun w' hb j u hu => (hb.cell (p := ⟨vb, voff + k * 4 + j, none⟩) hvlt).trans (hvr k hlt j u hu)
        have HCL : Hid (∀ w', Below w.heap.size w w' → w'.cell? ⟨vb, voff + k * 4, none⟩ = some (.int .i64 ls[k].1) ∧ w'.cell? ⟨vb, voff + k * 4 + 1, none⟩ = some (.int .i64 ls[k].2.1) ∧ w'.cell? ⟨vb, voff + k * 4 + 2, none⟩ = some (.int .u64 ls[k].2.2.1)) := Lib.hid fun w' hb => by
          obtain ⟨q0, q1, q2, _⟩ := lk_cells (hcell w' hb)
          exact ⟨q0, q1, q2⟩
        have hc3 := (lk_cells (hcell wr HW.out)).2.2.2
        have HRUN := Lib.hid (Mm.run_snoc (Mm.fresh [4, 3]) ls k hlt)
        obtain ⟨G, hG1, hG2, hG3⟩ := HG.out
        have HG1 := Lib.hid hG1
        have HG2 := Lib.hid hG2
        have HG3 := Lib.hid hG3
        have HEV : Hid (((Mm.fresh [4, 3]).run (ls.take k)).evs.length ≤ 1099511627776) := Lib.hid (by
          have := Mm.run_evs_le (Mm.fresh [4, 3]) (ls.take k)
          simp [Mm.fresh] at this
          have h2 : min k ls.length ≤ k := Nat.min_le_left _ _
          simp [Mm.fresh]
          omega)
        obtain ⟨c0, c1, c2⟩ := HCL.out wr HW.out
        clear hcell hvr hG1 hG2 hG3 HG
        generalize (Mm.fresh [4, 3]).run (ls.take k) = M at *
        generalize ls[k] = x at *
        cases hwr : x.2.2.2 with
        | true =>
          rw [hwr] at hc3
          have HST : Hid (M.step x = M.write x.1 x.2.1 (cellL x.2.2.1)) := Lib.hid (by simp [Mm.step, hwr])
          clear hwr
          generalize x.1 = xr at *
          generalize x.2.1 = xa at *
          generalize x.2.2.1 = xn at *
          have hb0 : Below w.heap.size w wr := HW.out
          have hb1 : Below w.heap.size w wr.drew := HW.out.drew
          have hm1 : MemRep wr.drew 108 p M G := HG1.out.keep (Nat.le_refl _) (fun _ _ => rfl)
          have ho1 : MemRep wr.drew 108 o (Mm.fresh [4, 3]) Fo := HO.out.keep (Nat.le_refl _) (fun _ _ => rfl)
          go_wp2_with fail
          go_region_held3 (fun w' => w'.cell? ⟨vb, voff + k * 4, none⟩ = some (.int .i64 xr) ∧ w'.cell? ⟨vb, voff + k * 4 + 1, none⟩ = some (.int .i64 xa) ∧ w'.cell? ⟨vb, voff + k * 4 + 2, none⟩ = some (.int .u64 xn)) (first | exact HCL.out _ (by assumption)) (first
            | (go_at_call 34; refine (cell3_any xn _).mono ?_; rintro e wA ⟨rfl, hbA⟩; have hb2 := hb1.trans (hbA.mono hb1.size); have hm2 := hm1.below hbA; have ho2 := ho1.below hbA)
            | (go_at_call 33; refine (memWrite_any xr xa (cellL xn) (cellL_len xn) (cellL_words xn) _ hm2 HEV.out).mono ?_; rintro e wB ⟨rfl, hpB⟩; have hbF := memrep_below hpB hb2 HG2.out; have hb3 := hbF.1))
          have hx2 : MemRep wB 108 p (M.step x) (Grow G wA wB) := by rw [HST.out]; exact hpB.1
          have hxo : MemRep wB 108 o (Mm.fresh [4, 3]) Fo := ho2.frame hpB.2 (fun j hj hg => HG3.out j hg hj)
          have hxd : ∀ j, Grow G wA wB j → ¬ Fo j := fun j hj ho => by
            rcases hj with hj | hj
            · exact HG3.out j hj ho
            · have := ho2.lt j ho; omega
          have HX2 := Lib.hid hx2
          have HXO := Lib.hid hxo
          have HXD := Lib.hid hxd
          have HXB := Lib.hid hbF
          clear hx2 hxo hxd hbF hpB hm2 ho2 hm1 ho1
          go_wp2
          go_roundw
          case rel => exact ⟨k + 1, by omega, by go_num, Lib.hid ⟨_, by rw [HRUN.out]; exact HX2.out, HXB.out.2, HXD.out⟩, HXO, Lib.hid HXB.out.1⟩
          case measure => simp [intOf]; omega
        | false =>
          rw [hwr] at hc3
          have HST : Hid (M.step x = M.look x.1 x.2.1 false) := Lib.hid (by simp [Mm.step, hwr])
          clear hwr
          generalize x.1 = xr at *
          generalize x.2.1 = xa at *
          generalize x.2.2.1 = xn at *
          have hb0 : Below w.heap.size w wr := HW.out
          have hb1 : Below w.heap.size w wr.drew := HW.out.drew
          have hm1 : MemRep wr.drew 108 p M G := HG1.out.keep (Nat.le_refl _) (fun _ _ => rfl)
          have ho1 : MemRep wr.drew 108 o (Mm.fresh [4, 3]) Fo := HO.out.keep (Nat.le_refl _) (fun _ _ => rfl)
          go_wp2_with fail
          go_region_held3 (fun w' => w'.cell? ⟨vb, voff + k * 4, none⟩ = some (.int .i64 xr) ∧ w'.cell? ⟨vb, voff + k * 4 + 1, none⟩ = some (.int .i64 xa) ∧ w'.cell? ⟨vb, voff + k * 4 + 2, none⟩ = some (.int .u64 xn)) (first | exact HCL.out _ (by assumption)) (first
            | (go_at_call 35; refine (memRead_any xr xa _ hm1 HEV.out).mono ?_; rintro e wB ⟨rfl, hpB⟩; have hbF := memrep_below hpB hb1 HG2.out; have hb3 := hbF.1))
          have hx2 : MemRep wB 108 p (M.step x) (Grow G wr.drew wB) := by rw [HST.out]; exact hpB.1
          have hxo : MemRep wB 108 o (Mm.fresh [4, 3]) Fo := ho1.frame hpB.2 (fun j hj hg => HG3.out j hg hj)
          have hxd : ∀ j, Grow G wr.drew wB j → ¬ Fo j := fun j hj ho => by
            rcases hj with hj | hj
            · exact HG3.out j hj ho
            · have := ho1.lt j ho; omega
          have HX2 := Lib.hid hx2
          have HXO := Lib.hid hxo
          have HXD := Lib.hid hxd
          have HXB := Lib.hid hbF
          clear hx2 hxo hxd hbF hpB hm1 ho1
          go_wp2
          go_roundw
          case rel => exact ⟨k + 1, by omega, by go_num, Lib.hid ⟨_, by rw [HRUN.out]; exact HX2.out, HXB.out.2, HXD.out⟩, HXO, Lib.hid HXB.out.1⟩
          case measure => simp [intOf]; omega
      · have hkl : k = ls.length := by omega
        obtain ⟨G, hG1, hG2, hG3⟩ := HG.out
        rw [hkl, List.take_length] at hG1
        have hev : ((Mm.fresh [4, 3]).run ls).evs.length ≤ ls.length := by
          have := Mm.run_evs_le (Mm.fresh [4, 3]) ls
          simpa [Mm.fresh] using this
        have hft : ((Mm.fresh [4, 3]).run ls).fault = decide (((Mm.fresh [4, 3]).run ls).evs.length < ls.length) := by
          have := Mm.run_fault (Mm.fresh [4, 3]) ls
          simpa [Mm.fresh] using this
        have hs2 : ((Mm.fresh [4, 3]).run ls).size 2 = 0 := by rw [Mm.run_size]; decide
        have hs0 : ((Mm.fresh [4, 3]).run ls).size 0 = 4 := by rw [Mm.run_size]; decide
        have HFT := Lib.hid hft
        have HS2 := Lib.hid hs2
        have HS0 := Lib.hid hs0
        have HG1 := Lib.hid hG1
        have HG2 := Lib.hid hG2
        have HG3 := Lib.hid hG3
        clear hft hs2 hs0 hG1 hG2 hG3 HG HM3 HDis HMo HB3
        generalize (Mm.fresh [4, 3]).run ls = M at *
        obtain ⟨n, hn⟩ : ∃ n, M.evs.length = n := ⟨_, rfl⟩
        have HNN := Lib.hid hn
        rw [hn] at hev HFT
        subst hkl
        clear hn
        go_wp2_with fail
        refine (memTrace_any wr HG1.out (by rw [HNN.out]; omega)).mono ?_
        rintro e w4 ⟨tv, rfl, hst, hbt, _⟩
        have hG4 := HG1.out.below hbt
        have hO4 := HO.out.below hbt
        have hB4 := HW.out.trans (hbt.mono HW.out.size)
        obtain ⟨ta, tcap, rfl, t1, t2, t3⟩ := hst
        rw [HNN.out] at t1 ⊢
        obtain ⟨kk, hkk, hkn⟩ : ∃ kk : Nat, max 0 (min fr (n : Int)) = kk ∧ kk ≤ n := ⟨(max 0 (min fr (n : Int))).toNat, by omega, by omega⟩
        have KSi := Lib.hid (memSince_any fr w4 hG4 (by rw [HNN.out]; omega) kk (by rw [HNN.out]; exact hkk))
        obtain ⟨x, hx⟩ : ∃ x : Int, (if (n : Int) < fr then (n : Int) else fr) = x := ⟨_, rfl⟩
        have hx2 : (if 0 < x then x else 0) = (kk : Int) := by
          rw [← hkk, ← hx]
          split <;> split <;> omega
        have HKK := Lib.hid hkk
        have HG4 := Lib.hid hG4
        have HO4 := Lib.hid hO4
        have HB4 := Lib.hid hB4
        have HT3 := Lib.hid t3
        clear hbt hG4 hO4 hB4 t3 HG1 HO HW hkk
        go_wp2_with fail
        refine KSi.out.mono ?_
        rintro e w5 ⟨sv, rfl, hss, hbs, _⟩
        have hG5 := HG4.out.below hbs
        have hO5 := HO4.out.below hbs
        have hB5 := HB4.out.trans (hbs.mono HB4.out.size)
        have HG5 := Lib.hid hG5
        have HO5 := Lib.hid hO5
        have HB5 := Lib.hid hB5
        have HSS := Lib.hid hss
        have HBS := Lib.hid hbs
        clear hG5 hO5 hB5 hss hbs HG4 HO4 HB4 KSi hx hx2
        have hts : SlE w5 (.slice ta n tcap) M.evs := by
          refine ⟨ta, tcap, by rw [HNN.out], by rw [HNN.out]; exact t1, t2, fun hne => ?_⟩
          obtain ⟨b, off, hb, hlt, hr⟩ := HT3.out hne
          exact ⟨b, off, hb, Nat.lt_of_lt_of_le hlt HBS.out.size, fun j u hu => (HBS.out.cell (p := ⟨b, off + j, none⟩) hlt).trans (hr j u hu)⟩
        have hts2 := SlE_sliced hts hkn
        have HTS : Hid (∀ v2, (tcap = kk ∧ v2 = .slice ta (n - kk) 0 ∨ ¬ tcap = kk ∧ v2 = .slice (Option.map (fun x => x.add (kk * 3)) ta) (n - kk) (tcap - kk)) → SlE w5 v2 (M.evs.drop kk)) := Lib.hid (by
          rintro v2 (⟨h1, rfl⟩ | ⟨h1, rfl⟩)
          · unfold sliced at hts2; rw [if_pos h1] at hts2; rw [h1, Nat.sub_self] at hts2; exact hts2
          · unfold sliced at hts2; rw [if_neg h1] at hts2; exact hts2)
        clear hts hts2
        go_wp2_with fail
        all_goals (
          refine (sameE3_any sv _ (M.evs.drop kk) (M.evs.drop kk) _ HSS.out (HTS.out _ (by first | exact .inl ⟨by assumption, rfl⟩ | exact .inr ⟨by assumption, rfl⟩))).mono ?_
          rintro e w6 ⟨rfl, hb6⟩
          have HB6 := Lib.hid (HB5.out.trans (hb6.mono HB5.out.size))
          have HG6 := Lib.hid (HG5.out.below hb6)
          have HO6 := Lib.hid (HO5.out.below hb6)
          clear hb6
          rw [show decide (M.evs.drop kk = M.evs.drop kk) = true from decide_eq_true rfl]
          have KM := Lib.hid (memMany_any w6 HG6.out)
          rw [HNN.out] at KM
          have KF := Lib.hid (memFault_any w6 HG6.out)
          rw [HFT.out] at KF
          have d1 : decide ((ls.length : Int) < (n : Int)) = false := decide_eq_false (by omega)
          go_wp2_with (first
            | (go_at_call 43; (with_reducible refine (KM.out).mono ?_); rintro e w' ⟨rfl, rfl⟩)
            | (go_at_call 38; (with_reducible refine (KF.out).mono ?_); rintro e w' ⟨rfl, rfl⟩)
            | fail)
          have QZ : ∀ w, (Op.equalIn 10000 44 (.agg #[.int .u64 0, .int .u64 0, .int .u64 0, .int .u64 0, .int .u64 0, .int .u64 0, .int .u64 0, .int .u64 0, .int .u64 0, .int .u64 0, .int .u64 0, .int .u64 0]) (.agg #[.int .u64 0, .int .u64 0, .int .u64 0, .int .u64 0, .int .u64 0, .int .u64 0, .int .u64 0, .int .u64 0, .int .u64 0, .int .u64 0, .int .u64 0, .int .u64 0])).run Try.prog w = .ok true w := fun w => by
            have := run_eqcell zeros zeros rfl rfl w
            rw [decide_eq_true rfl] at this
            exact this
          clear KM KF HG5 HO5 HB5 HSS HBS
          rw [decide_eq_false (show ¬ ls.length < n by omega)]
          go_loopw [14] (fun i wr => ∃ j : Nat, j ≤ 4 ∧ i = .int .i64 j ∧ Hid (∃ (N : Mm) (Fo' : Nat → Prop), MemRep wr 108 o N Fo' ∧ N.evs.length ≤ j ∧ N.fault = false ∧ N.regs = (Mm.fresh [4, 3]).regs ∧ (∀ q, Fo' q → w.heap.size ≤ q) ∧ (∀ q, G q → ¬ Fo' q)) ∧ Hid (MemRep wr 108 p M G) ∧ Hid (Below w.heap.size w wr)) (fun i _ => 4 - (intOf i).toNat)
          case atStart => exact ⟨0, by omega, rfl, Lib.hid ⟨Mm.fresh [4, 3], Fo, HO6.out, by simp [Mm.fresh], rfl, rfl, HFo2.out, HG3.out⟩, HG6, HB6⟩
          case round =>
            obtain ⟨j, hj, rfl, HN, HP, HW⟩ := hrel
            obtain ⟨N, Fo', hn1, hn2, hn3, hn4, hn5, hn6⟩ := HN.out
            by_cases hj4 : j < 4
            · obtain ⟨hz1, hz2⟩ := fresh43 hn4 j hj4
              have KR := Lib.hid (memRead_any 0 (j : Int) _ hn1 (by omega))
              rw [hz1, show N.look 0 (j : Int) false = { N with evs := N.evs ++ [(0, (j : Int), false)] } by simp [Mm.look, hz2]] at KR
              have HN5 := Lib.hid hn5
              have HN6 := Lib.hid hn6
              have HN2 := Lib.hid hn2
              have HN3 := Lib.hid hn3
              have HN4 := Lib.hid hn4
              clear hn1 hn2 hn3 hn4 hn5 hn6 hz1 hz2 HN
              go_wp2_with fail
              refine KR.out.mono ?_
              rintro e w7 ⟨rfl, hp7⟩
              rw [show cw zeros = #[.int .u64 0, .int .u64 0, .int .u64 0, .int .u64 0, .int .u64 0, .int .u64 0, .int .u64 0, .int .u64 0, .int .u64 0, .int .u64 0, .int .u64 0, .int .u64 0] from rfl]
              have hbF := memrep_below hp7 HW.out HN5.out
              have HX1 := Lib.hid hp7.1
              have HX2 := Lib.hid (HP.out.frame hp7.2 HN6.out)
              have HX3 : Hid (∀ q, G q → ¬ Grow Fo' wr w7 q) := Lib.hid fun q hq hg => by
                rcases hg with hg | hg
                · exact HN6.out q hq hg
                · have := HP.out.lt q hq; omega
              have HX4 := Lib.hid hbF
              clear hp7 hbF
              go_wp2
              go_roundw
              case rel =>
                exact ⟨j + 1, by omega, by go_num, Lib.hid ⟨_, _, HX1.out, by have := HN2.out; simp; omega, HN3.out, HN4.out, HX4.out.2, HX3.out⟩, HX2, Lib.hid HX4.out.1⟩
              case measure => simp [intOf]; omega
            · have KM2 := Lib.hid (memMany_any wr HP.out)
              rw [HNN.out] at KM2
              have hhas : M.has 2 0 = false := by simp [Mm.has, HS2.out]
              have KR := Lib.hid (memRead_any 2 0 _ HP.out (by rw [HNN.out]; omega))
              rw [show M.read 2 0 = zeros by simp [Mm.read, hhas], show M.look 2 0 false = { M with fault := true } by simp [Mm.look, hhas]] at KR
              clear hhas
              have HN1 := Lib.hid hn1
              have HN6 := Lib.hid hn6
              have HN3 := Lib.hid hn3
              clear hn1 hn2 hn3 hn4 hn5 hn6 HN
              go_wp2_with (first
                | (go_at_call 43; (with_reducible refine (KM2.out).mono ?_); rintro e w' ⟨rfl, rfl⟩)
                | fail)
              refine KR.out.mono ?_
              rintro e w7 ⟨rfl, hp7⟩
              have HX1 := Lib.hid hp7.1
              have HX2 := Lib.hid (HN1.out.frame hp7.2 (fun k hk hg => HN6.out k hg hk))
              have hbF := memrep_below hp7 (by first | exact HW.out | assumption) HG2.out
              have HX4 := Lib.hid hbF.1
              have HM7 := Lib.hid hp7.1
              clear hp7 hbF
              have B1 := Lib.hid (Blk.new w7 z12 44)
              have HIc : Hid ((Try.prog.info? 44).map (·.size) = some (cw zeros).size) := Lib.hid (by rw [cw_size]; kernel_rfl)
              have HBK := Lib.hid (B1.out.setRow (cw zeros))
              have hbe : Below w7.heap.size w7 ((w7.alloc (.cells z12 44)).setRow w7.heap.size (cw zeros)) := below_setRow ((Below.refl _ _).alloc (Nat.le_refl _) _) (Nat.le_refl _) _
              have HBE := Lib.hid hbe
              have KF2 : Hid (∀ w', Below w7.heap.size w7 w' → Calls Try.prog 38 #[.pointer (some ⟨p, 0, none⟩)] w' fun e w'' => e = .returned (.bool true) ∧ w'' = w') := Lib.hid fun w' h => memFault_any w' (HM7.out.below h)
              have KFo : Hid (∀ w', Below w7.heap.size w7 w' → Calls Try.prog 38 #[.pointer (some ⟨o, 0, none⟩)] w' fun e w'' => e = .returned (.bool false) ∧ w'' = w') := Lib.hid fun w' h => by have := memFault_any w' (HX2.out.below h); rw [HN3.out] at this; exact this
              have KMx : Hid (∀ w', Below w7.heap.size w7 w' → Calls Try.prog 43 #[.pointer (some ⟨p, 0, none⟩)] w' fun e w'' => e = .returned (.int .i64 n) ∧ w'' = w') := Lib.hid fun w' h => by have := memMany_any w' (HM7.out.below h); rw [show ({ M with fault := true } : Mm).evs.length = n from HNN.out] at this; exact this
              have KS2 : Hid (∀ w', Below w7.heap.size w7 w' → Calls Try.prog 39 #[.pointer (some ⟨p, 0, none⟩), .int .i64 2] w' fun e w'' => e = .returned (.int .i64 0) ∧ w'' = w') := Lib.hid fun w' h => by have := memSize_any 2 w' (HM7.out.below h); rw [show ({ M with fault := true } : Mm).size 2 = 0 from HS2.out] at this; exact this
              have KS0 : Hid (∀ w', Below w7.heap.size w7 w' → Calls Try.prog 39 #[.pointer (some ⟨p, 0, none⟩), .int .i64 0] w' fun e w'' => e = .returned (.int .i64 4) ∧ w'' = w') := Lib.hid fun w' h => by have := memSize_any 0 w' (HM7.out.below h); rw [show ({ M with fault := true } : Mm).size 0 = 4 from HS0.out] at this; exact this
              have QZ2 : ∀ w, (Op.equalIn 10000 44 (.agg (cw zeros)) (.agg #[.int .u64 0, .int .u64 0, .int .u64 0, .int .u64 0, .int .u64 0, .int .u64 0, .int .u64 0, .int .u64 0, .int .u64 0, .int .u64 0, .int .u64 0, .int .u64 0])).run Try.prog w = .ok true w := QZ
              clear hbe
              go_wp2_with (first
                | (refine wpList_store_row rfl 44 (.tmp 16) (.tmp 145) rfl w7.heap.size (cw zeros) rfl rfl 44 _ B1.out HIc.out (by rw [cw_size]; rfl) (cw_one _) ?_)
                | (refine wpList_load_row rfl 44 (.tmp 16) rfl w7.heap.size rfl 44 (cw zeros) (0, 0) _ HBK.out Try.underlying44 rfl HIc.out ?_)
                | fail)
              change Calls _ _ _ ((w7.alloc (.cells z12 44)).setRow w7.heap.size (cw zeros)) _
              generalize (w7.alloc (.cells z12 44)).setRow w7.heap.size (cw zeros) = w8 at *
              (with_reducible refine (KF2.out _ HBE.out).mono ?_)
              rintro e w' ⟨rfl, rfl⟩
              go_wp2_with (first
                | (go_at_call 43; (with_reducible refine (KMx.out _ HBE.out).mono ?_); rintro e w' ⟨rfl, rfl⟩)
                | (go_at_call 38; (with_reducible refine (KFo.out _ HBE.out).mono ?_); rintro e w' ⟨rfl, rfl⟩)
                | (go_at_call 39; (with_reducible refine (KS2.out _ HBE.out).mono ?_); rintro e w' ⟨rfl, rfl⟩)
                | (go_at_call 39; (with_reducible refine (KS0.out _ HBE.out).mono ?_); rintro e w' ⟨rfl, rfl⟩)
                | fail)
              go_ret
              exact ⟨rfl, HX4.out.trans (HBE.out.mono HX4.out.size)⟩)
end Go.Proofs.Ytngpaibppdehdaa
