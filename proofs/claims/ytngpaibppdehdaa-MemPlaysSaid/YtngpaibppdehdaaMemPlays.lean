/-
  The walk of shellgamelaw3.MemPlays.
-/
import Derived.Test.YtngpaibppdehdaaTwo
import Derived.BigQuiet
import Derived.Deep.DeepCutAuto
namespace Go.Proofs.Ytngpaibppdehdaa
open Go.RowKit Go.Sg
/-- the cells of a memory that tell its looks and its fault -/
theorem memrep_cells {w : World} {T p : Nat} {M : Mm} {F : Nat → Prop} (h : MemRep w T p M F) : ∃ a cap, w.cell? ⟨p, 1, none⟩ = some (.slice a M.evs.length cap) ∧ w.cell? ⟨p, 2, none⟩ = some (.bool M.fault) ∧ SlE w (.slice a M.evs.length cap) M.evs := by
  obtain ⟨rb, cap, cur, g, ev, h⟩ := h
  obtain ⟨ea, ec, rfl⟩ := owns_slice h.evs
  exact ⟨ea, ec, by rw [h.box.cell]; rfl, by rw [h.box.cell]; rfl, SlE.of_owns h.evs⟩

set_option maxHeartbeats 4000000 in
set_option maxRecDepth 100000 in
theorem MemPlays_walk (v : Value) (zs : List Int) (vl : Value) (ls : List Lk) (fr : Int) (w : World) (hv : SlI .i64 w v zs) (hl : SlL w vl ls) (_hf : Num fr) :
    Calls Try.prog 9 #[v, vl, .int .i64 fr] w fun e w' => e = .returned (.bool true) ∧ Below w.heap.size w w' := by
  have HV := Lib.hid (Sl1.of_SlI hv)
  obtain ⟨va, vcap, rfl, v1, v2, v3, v4⟩ := hl
  have V3 := Lib.hid v3
  have V4 := Lib.hid v4
  obtain ⟨za, zcap, rfl⟩ : ∃ a c, v = .slice a zs.length c := by have := HV.out.len; rwa [List.length_map] at this
  clear v3 v4 hv
  unfold maxLen at v2
  go_enter Try.func9, Try.ntmps9
  go_wp2_with fail
  refine (shown3 w).mono ?_
  rintro e w1 ⟨rfl, hb1⟩
  have HB1 := Lib.hid hb1
  have HV1 := Lib.hid (HV.out.below hb1)
  clear hb1
  by_cases h80 : 80 < ls.length
  · have d : decide ((80 : Int) < (ls.length : Int)) = true := decide_eq_true (by omega)
    go_wp2
    go_ret
    exact ⟨rfl, HB1.out⟩
  have d : decide ((80 : Int) < (ls.length : Int)) = false := decide_eq_false (by omega)
  by_cases h40 : 40 < zs.length
  · have d : decide ((40 : Int) < (zs.length : Int)) = true := decide_eq_true (by omega)
    go_wp2
    go_ret
    exact ⟨rfl, HB1.out⟩
  have d2 : decide ((40 : Int) < (zs.length : Int)) = false := decide_eq_false (by omega)
  go_wp2_with fail
  refine (memNew_any _ zs _ HV1.out).mono ?_
  rintro e w2 ⟨hb2, hr⟩
  have HB2 := Lib.hid hb2
  have HV2 := Lib.hid (HV1.out.below hb2)
  rcases hr with ⟨hz, rfl⟩ | ⟨hz, p, F, rfl, hm, hF⟩
  · clear hb2
    go_wp2_with fail
    refine (ref3New_any _ zs _ HV2.out).mono ?_
    rintro e w3 ⟨hb3, hr⟩
    rcases hr with ⟨_, rfl⟩ | ⟨h0, _⟩
    · have HB3 := Lib.hid ((HB1.out.trans (HB2.out.mono HB1.out.size)).trans (hb3.mono (Nat.le_trans HB1.out.size HB2.out.size)))
      clear hb3
      go_wp2
      go_ret
      exact ⟨rfl, HB3.out⟩
    · rw [hz] at h0; cases h0
  · have HM := Lib.hid hm
    have HF := Lib.hid hF
    clear hb2 hm hF
    go_wp2_with fail
    refine (ref3New_any _ zs _ HV2.out).mono ?_
    rintro e w3 ⟨hb3, hr⟩
    rcases hr with ⟨h0, _⟩ | ⟨_, q, G, rfl, hm, hG⟩
    · rw [hz] at h0; cases h0
    have HT : Hid (TwoR 108 60 w w3 p q (Mm.fresh zs) (Mm.fresh zs)) := Lib.hid (two_new HB1.out HM.out HF.out HB2.out hm hG hb3)
    clear hb3 hm hG HM HF HB1 HB2 HV1 HV2
    go_wp2
    go_loopw [12] (fun i wr => ∃ k : Nat, k ≤ ls.length ∧ i = .int .i64 k ∧ Hid (∃ M, TwoR 108 60 w wr p q M M ∧ M.evs.length ≤ k)) (fun i _ => ls.length - (intOf i).toNat)
    case atStart => exact ⟨0, by omega, rfl, Lib.hid ⟨_, HT.out, by simp [Mm.fresh]⟩⟩
    case round =>
      obtain ⟨k, hk, rfl, HS⟩ := hrel
      by_cases hlt : k < ls.length
      · obtain ⟨vb, voff, rfl, hvlt, hvr⟩ := V4.out (fun e => by rw [e] at hlt; simp at hlt)
        obtain ⟨M, hT, hE⟩ := HS.out
        have hld : wr.rangeAt vb (voff + k * 4) (lkV ls[k]) := fun j u hu => (hT.old.cell (p := ⟨vb, voff + k * 4 + j, none⟩) hvlt).trans (hvr k hlt j u hu)
        have hok := V3.out ls[k] (List.getElem_mem hlt)
        have HTk := Lib.hid hT
        have HE := Lib.hid hE
        clear hT hE hvr HS
        generalize ls[k] = x at *
        obtain ⟨xr, xa, xn, xb⟩ := x
        obtain ⟨k1, k2, k3⟩ := hok
        obtain ⟨c0, c1, c2, c3⟩ := lk_at hld
        simp only at k1 k2 k3 c0 c1 c2 c3
        clear hld
        go_upto_region 12 with fail
        obtain ⟨wb, hwb⟩ : ∃ y, wr.alloc (.cells #[.int .i64 xr, .int .i64 xa, .int .u64 xn, .bool xb] 41) = y := ⟨_, rfl⟩
        have HTB : Hid (TwoB 108 60 w wb p q M M wr.heap.size #[.int .i64 xr, .int .i64 xa, .int .u64 xn, .bool xb] 41) := Lib.hid (by rw [← hwb]; exact HTk.out.box _ _)
        rw [hwb]
        clear hwb c0 c1 c2 c3 HTk
        generalize wr.heap.size = bq at *
        have HS : Hid (∀ w' M N, TwoB 108 60 w w' p q M N bq #[.int .i64 xr, .int .i64 xa, .int .u64 xn, .bool xb] 41 → (w'.cell? ⟨bq, 0, none⟩ = some (.int .i64 xr) ∧ w'.cell? ⟨bq, 1, none⟩ = some (.int .i64 xa) ∧ w'.cell? ⟨bq, 2, none⟩ = some (.int .u64 xn))) := Lib.hid fun w' M N h => ⟨h.blk.cell 0, h.blk.cell 1, h.blk.cell 2⟩
        have c0 : wb.cell? ⟨bq, 0, none⟩ = some (.int .i64 xr) := HTB.out.blk.cell 0
        have c1 : wb.cell? ⟨bq, 1, none⟩ = some (.int .i64 xa) := HTB.out.blk.cell 1
        have c2 : wb.cell? ⟨bq, 2, none⟩ = some (.int .u64 xn) := HTB.out.blk.cell 2
        have c3 : wb.cell? ⟨bq, 3, none⟩ = some (.bool xb) := HTB.out.blk.cell 3
        have hrl := (Mm.read_ok HTB.out.two.ok.1 xr xa).1
        have QR : ∀ w, (Op.equalIn 10000 44 (.agg (cw (M.read xr xa))) (.agg (cw (M.read xr xa)))).run Try.prog w = .ok true w := fun w => by
          have := run_eqcell _ _ hrl hrl w
          rw [decide_eq_true rfl] at this
          exact this
        clear hrl
        cases xb
        focus
          have hT1 := HTB.out.drew
          go_wp2_with fail
          go_region_held3 (fun w' => w'.cell? ⟨bq, 0, none⟩ = some (.int .i64 xr) ∧ w'.cell? ⟨bq, 1, none⟩ = some (.int .i64 xa) ∧ w'.cell? ⟨bq, 2, none⟩ = some (.int .u64 xn)) (first | exact HS.out _ _ _ (by assumption)) (first
            | (go_at_call 35; refine (two_read1 xr xa hT1 (by have := HE.out; omega)).mono ?_; rintro e wB ⟨rfl, hT2⟩)
            | (go_at_call 42; refine (two_rread2 xr xa hT2 (by have := HE.out; omega)).mono ?_; rintro e wD ⟨rfl, hT4⟩))
          have HT4 := Lib.hid hT4
          have HE4 : Hid ((M.look xr xa false).evs.length ≤ k + 1) := Lib.hid (by have := HE.out; have := look_evs_le M xr xa false; omega)
          clear hT4 hT2 hT1 HE
          generalize M.look xr xa false = M4 at *
          go_upto_region 17 with fail
        rotate_left
        focus
          have hT1 := HTB.out.drew
          go_wp2_with fail
          go_region_held3 (fun w' => w'.cell? ⟨bq, 0, none⟩ = some (.int .i64 xr) ∧ w'.cell? ⟨bq, 1, none⟩ = some (.int .i64 xa) ∧ w'.cell? ⟨bq, 2, none⟩ = some (.int .u64 xn)) (first | exact HS.out _ _ _ (by assumption)) (first
            | (go_at_call 34; refine (cell3_any xn _).mono ?_; rintro e wA ⟨rfl, hbA⟩; have hT2 := hT1.below hbA)
            | (go_at_call 33; refine (two_write1 xr xa (cellL xn) (cellL_len xn) (cellL_words xn) hT2 (by have := HE.out; omega)).mono ?_; rintro e wB ⟨rfl, hT3⟩))
          have HT3 := Lib.hid hT3
          clear hT3 hT2 hT1 c0 c1 c2 c3 HTB
          have hT1 := HT3.out.drew
          go_wp2_with fail
          go_region_held3 (fun w' => w'.cell? ⟨bq, 0, none⟩ = some (.int .i64 xr) ∧ w'.cell? ⟨bq, 1, none⟩ = some (.int .i64 xa) ∧ w'.cell? ⟨bq, 2, none⟩ = some (.int .u64 xn)) (first | exact HS.out _ _ _ (by assumption)) (first
            | (go_at_call 34; refine (cell3_any xn _).mono ?_; rintro e wC ⟨rfl, hbC⟩; have hT2 := hT1.below hbC)
            | (go_at_call 41; refine (two_rwrite2 xr xa (cellL xn) (cellL_len xn) (cellL_words xn) hT2 (by have := HE.out; omega)).mono ?_; rintro e wD ⟨rfl, hT4⟩))
          have HT4 := Lib.hid hT4
          have HE4 : Hid ((M.write xr xa (cellL xn)).evs.length ≤ k + 1) := Lib.hid (by have := HE.out; have := write_evs_le M xr xa (cellL xn); omega)
          clear hT4 hT2 hT1 HT3 HE
          generalize M.write xr xa (cellL xn) = M4 at *
          go_upto_region 17 with fail
        all_goals
          obtain ⟨F', G', m1, m2, m3, m4, m5, m6⟩ := HT4.out.two
          obtain ⟨ea, ec, e1, e2, _⟩ := memrep_cells m2
          obtain ⟨c0, c1, c2⟩ := HS.out _ _ _ HT4.out
          have KF := Lib.hid (fun n => memFault_any _ (m1.drewN n))
          have KM := Lib.hid (fun n => memMany_any _ (m1.drewN n))
          have KZ := Lib.hid (fun n => memSize_any xr _ (m1.drewN n))
          have KZ2 := Lib.hid (fun n => ref3Size_any xr _ (m2.drewN n))
          clear m1 m2 m3 m4 m5 m6
          have d3 : (M4.fault != M4.fault) = false := by simp
          have d4 : ((M4.evs.length : Int) != (M4.evs.length : Int)) = false := by simp
          have d5 : ((M4.size xr : Int) != (M4.size xr : Int)) = false := by simp
          go_quiet (first
            | (go_at_call 38; refine Calls.quiet_of_same (KF.out _))
            | (go_at_call 43; refine Calls.quiet_of_same (KM.out _))
            | (go_at_call 39; refine Calls.quiet_of_same (KZ.out _))
            | (go_at_call 44; refine Calls.quiet_of_same (KZ2.out _)))
          go_wp2
          go_roundw
          case rel => exact ⟨k + 1, by omega, by go_num, Lib.hid ⟨_, HT4.out.two.below (below_drewN' (Below.refl _ _)), by have := HE4.out; omega⟩⟩
          case measure => simp [intOf]; omega
      · have hkl : k = ls.length := by omega
        obtain ⟨M, hT, hE⟩ := HS.out
        obtain ⟨F', G', m1, m2, m3, m4, m5, m6⟩ := hT
        obtain ⟨ea, ec, e1, e2, e3⟩ := memrep_cells m2
        have he3 := e3
        obtain ⟨_, _, eqs, t1, t2, _⟩ := he3
        simp only [Value.slice.injEq] at eqs
        obtain ⟨rfl, _, rfl⟩ := eqs
        obtain ⟨n, hn⟩ : ∃ n, M.evs.length = n := ⟨_, rfl⟩
        have hn80 : n ≤ 80 := by omega
        obtain ⟨kk, hkk, hkn⟩ : ∃ kk : Nat, max 0 (min fr (n : Int)) = kk ∧ kk ≤ n := ⟨(max 0 (min fr (n : Int))).toNat, by omega, by omega⟩
        have hts2 := SlE_sliced (kk := kk) (by rw [hn] at e3; exact e3) hkn
        have t1' : n ≤ ec := by omega
        have HTS : Hid (∀ w', Below wr.heap.size wr w' → ∀ v2, (ec = kk ∧ v2 = .slice ea 0 0 ∨ ¬ ec = kk ∧ v2 = .slice (Option.map (fun x => x.add (kk * 3)) ea) (n - kk) (ec - kk)) → SlE w' v2 (M.evs.drop kk)) := Lib.hid (by
          rintro w' hb v2 (⟨h1, rfl⟩ | ⟨h1, rfl⟩)
          · unfold sliced at hts2; rw [if_pos h1, h1, Nat.sub_self, show n - kk = 0 by omega] at hts2; exact hts2.below hb
          · unfold sliced at hts2; rw [if_neg h1] at hts2; exact hts2.below hb)
        have KT := Lib.hid (fun w' (h : Below wr.heap.size wr w') => cls_RetE (memTrace_any w' (m1.below h) (by omega)) h)
        have KN := Lib.hid (fun w' (h : Below wr.heap.size wr w') => cls_RetE (memSince_any fr w' (m1.below h) (by omega) kk (by rw [hn]; exact hkk)) h)
        rw [hn] at e1 e3 t1
        have HSE : Hid (∀ w', Below wr.heap.size wr w' → SlE w' (.slice ea n ec) M.evs) := Lib.hid fun w' hb => e3.below hb
        have HE1 : Hid (∀ w', Below wr.heap.size wr w' → w'.cell? ⟨q, 1, none⟩ = some (.slice ea n ec)) := Lib.hid fun w' hb => by
          obtain ⟨_, _, _, _, _, h⟩ := memrep_cells (m2.below hb)
          exact (hb.cell (p := ⟨q, 1, none⟩) (by obtain ⟨_, _, _, _, _, g⟩ := m2; exact g.box.lt)).trans e1
        have HB := Lib.hid m6
        obtain ⟨x, hx⟩ : ∃ x : Int, (if (n : Int) < fr then (n : Int) else fr) = x := ⟨_, rfl⟩
        have hx2 : (if 0 < x then x else 0) = (kk : Int) := by
          rw [← hkk, ← hx]
          split <;> split <;> omega
        clear m1 m2 m3 m4 m5 m6 hE HS e3 e2 hts2 hkk
        have hb0 : Below wr.heap.size wr wr := Below.refl _ _
        have hb1 : Below wr.heap.size wr wr.drew := hb0.drew
        go_upto_region 20 with fail
        clear hx hx2
        by_cases hck : ec = kk
        focus subst hck
        all_goals
          go_region_held3 (fun w' => Below wr.heap.size wr w' ∧ w'.cell? ⟨q, 1, none⟩ = some (.slice ea n ec)) (first | exact ⟨by assumption, HE1.out _ (by assumption)⟩) (first
            | (go_at_call 37; (with_reducible refine (KT.out _ (by assumption)).mono ?_); rintro e wT ⟨v1, rfl, hs1, hbT, hbT2, _⟩)
            | (go_at_call 45; (with_reducible refine (KN.out _ (by assumption)).mono ?_); rintro e wN ⟨v3, rfl, hs3, hbN, hbN2, _⟩)
            | (go_at_call 36; with_reducible refine (cls_one (w0 := wr) (sameE3_any _ _ (M.evs.drop _) (M.evs.drop _) _ hs3 (HTS.out _ (by assumption) _ (by first | exact .inl ⟨by trivial, rfl⟩ | exact .inr ⟨by assumption, rfl⟩))) (by assumption)).mono ?_; rintro e wS2 ⟨rfl, hbS2⟩)
            | (go_at_call 36; with_reducible refine (cls_one (w0 := wr) (sameE3_any _ _ M.evs M.evs _ hs1 (HSE.out _ (by assumption))) (by assumption)).mono ?_; rintro e wS ⟨rfl, hbS⟩; try rw [decide_eq_true rfl]))
        all_goals
          go_wp2
          go_ret
          exact ⟨by simp, HB.out.trans (Below.mono (by assumption) HB.out.size)⟩
end Go.Proofs.Ytngpaibppdehdaa
