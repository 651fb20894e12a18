/-
  The walk of shellgamelaw7.ScanLooks.
-/
import Derived.Test.YtngpaibppdehdaaPairF
namespace Go.Proofs.Ytngpaibppdehdaa
open Go Go.RowKit Go.Sg

set_option maxHeartbeats 4000000 in
set_option maxRecDepth 100000 in
theorem ScanLooks_walk (v : Value) (zs : List Int) (r at' : Int) (put : Bool) (key n : Int) (w : World) (hv : SlI .u64 w v zs) (_hr : Num r) (hat : Word at') (hkey : Num key) (hn : Word n) :
    Calls Try.prog 21 #[v, .int .i64 r, .int .u64 at', .bool put, .int .i64 key, .int .u64 n] w fun e w' => e = .returned (.bool true) ∧ Below w.heap.size w w' := by
  have HWZ := Lib.hid (slI_words' hv)
  have HV := Lib.hid (Sl1.of_SlI hv)
  have hlen : zs.length ≤ maxLen := by have := HV.out.len_le; rwa [List.length_map] at this
  obtain ⟨va, vc, rfl⟩ : ∃ a c, v = .slice a zs.length c := by have := HV.out.len; rwa [List.length_map] at this
  unfold maxLen at hlen
  clear hv
  go_enter Try.func21, Try.ntmps21
  go_wp2_with fail
  refine (shown7 w).mono ?_
  rintro e w1 ⟨rfl, hb1⟩
  have HB1 := Lib.hid hb1
  have HV1 := Lib.hid (HV.out.below hb1)
  clear hb1
  by_cases h40 : 40 < zs.length
  · have d : decide ((40 : Int) < (zs.length : Int)) = true := decide_eq_true (by omega)
    go_wp2
    go_ret
    exact ⟨rfl, HB1.out⟩
  have d : decide ((40 : Int) < (zs.length : Int)) = false := decide_eq_false (by omega)
  go_wp2_with fail
  refine (laid7_any 2 20 (by decide) (by decide) (by decide) (by decide) _ zs HWZ.out _ HV1.out).mono ?_
  rintro e w2 ⟨p, q, rfl, hP⟩
  have HP := Lib.hid hP
  have HL := Lib.hid (laid_f (r := 2) (c := 20) zs (by decide))
  have hev0 : (laidM 2 20 zs).evs.length ≤ 20 := HL.out.evs.2
  clear hP HV HV1 HWZ HL
  obtain ⟨mb, hmb⟩ : ∃ mb, mk put = mb := ⟨_, rfl⟩
  obtain ⟨pb, HMB⟩ : ∃ pb, Hid (mk pb = mb) := ⟨_, Lib.hid hmb⟩
  generalize laidM 2 20 zs = M0 at *
  have hs0 := Mm.size_le HP.out.ok.1 r
  -- Get
  have hc0 := (Mm.read_ok HP.out.ok.1 r at').1
  have QG := eq_cell_run _ hc0
  have K1 := Lib.hid (HP.out.call (R := fun e => e = .returned (.agg (cw (M0.read r at')))) keeps_true fun D' X' hK' h' => one_get hK' r at' hat h' (by omega))
  have K2 := Lib.hid (fun w' (h' : PairX 108 60 w1 w' p q (M0.noted (readsL r (M0.size r))) M0 (fun _ => False) (fun _ => True)) => h'.call2 (R := fun e => e = .returned (.agg (cw (M0.read r at')))) keeps_true fun D' X' hK' h' => one_rget hK' r at' hat h' (by omega))
  have hev1 : (M0.noted (readsL r (M0.size r))).evs.length ≤ 5000 := by rw [noted_len, readsL_len]; omega
  generalize cw (M0.read r at') = rc at *
  generalize M0.noted (readsL r (M0.size r)) = M1 at *
  go_upto_region 8 with fail
  cases put
  all_goals
    first
      | (obtain rfl : mb = 18446744073709551615 := hmb.symm)
      | (obtain rfl : mb = 0 := hmb.symm)
    clear hmb
    go_wp2_with fail
    refine K1.out.mono ?_
    rintro e wA ⟨rfl, hA⟩
    go_wp2_with fail
    refine (K2.out _ hA).mono ?_
    rintro e wB ⟨rfl, hB⟩
    have HP1 := Lib.hid hB
    clear hA hB K1 K2 HP hc0 hs0 hev0
    have hs1 := Mm.size_le HP1.out.ok.1 r
    -- Put
    go_wp2_with fail
    refine (cell7_any n _).mono ?_
    rintro e wC ⟨rfl, hbC⟩
    have HP2 := Lib.hid (HP1.out.below keeps_true hbC)
    have K3 := Lib.hid (HP2.out.call (R := fun e => e = .returned (.tuple #[])) keeps_true fun D' X' hK' h' => one_put hK' r at' hat (cellL n) (cellL_len n) (cellL_words n) pb h' (by omega))
    rw [HMB.out] at K3
    clear hbC HP1
    go_wp2_with fail
    refine K3.out.mono ?_
    rintro e wD ⟨rfl, hD⟩
    have HP3 := Lib.hid hD
    clear hD K3 HP2
    go_wp2_with fail
    refine (cell7_any n _).mono ?_
    rintro e wE ⟨rfl, hbE⟩
    have HP4 := Lib.hid (HP3.out.below keeps_true hbE)
    have K4 := Lib.hid (HP4.out.call2 (R := fun e => e = .returned (.tuple #[])) keeps_true fun D' X' hK' h' => one_rput hK' r at' hat (cellL n) (cellL_len n) (cellL_words n) pb h' (by omega))
    rw [HMB.out] at K4
    clear hbE HP3
    go_wp2_with fail
    refine K4.out.mono ?_
    rintro e wF ⟨rfl, hF⟩
    have HP5 := Lib.hid hF
    clear hF K4 HP4
    have hev2 : ((M1.putIf pb r at' (cellL n) (M1.size r)).noted (writesL r (M1.size r))).evs.length ≤ 20000 := by rw [noted_len, Mm.putIf_evs, writesL_len]; omega
    generalize (M1.putIf pb r at' (cellL n) (M1.size r)).noted (writesL r (M1.size r)) = M2 at *
    clear hev1 hs1 QG
    -- Find
    have hs2 := Mm.size_le HP5.out.ok.1 r
    have hou := (outK_ok HP5.out.ok.1 r key n (M2.size r)).1
    have K5 := Lib.hid (HP5.out.call keeps_true fun D' X' hK' h' => one_find hK' r key n hkey hn h' (by omega))
    have K6 := Lib.hid (fun w' D (X : World → Prop) (hK : Keeps D X) (h' : PairX 108 60 w1 w' p q (M2.noted (readsL r (M2.size r))) M2 D X) => h'.call2 hK fun D' X' hK' h' => one_rfind hK' r key n h' (by omega))
    have hev3 : (M2.noted (readsL r (M2.size r))).evs.length ≤ 30000 := by rw [noted_len, readsL_len]; omega
    have hm1 : bits .and .u64 0 0 = 0 := by decide
    clear hm1
    have hz : (cw (outK M2 r key n (M2.size r))).size = 12 := by rw [cw_size, hou]
    have HI : Hid ((Try.prog.info? 44).map (·.size) = some (cw (outK M2 r key n (M2.size r))).size) := Lib.hid (by rw [hz]; kernel_rfl)
    have HO : Hid ((cw (outK M2 r key n (M2.size r))).all (·.oneCell') = true) := Lib.hid (cw_one _)
    have QF := eq_cell_run _ hou
    clear hou
    generalize cw (outK M2 r key n (M2.size r)) = oc at *
    generalize placeK M2 r key n (M2.size r) = pl at *
    generalize mk (foundK M2 r key n (M2.size r)) = fo at *
    generalize M2.noted (readsL r (M2.size r)) = M3 at *
    clear hs2
    go_wp2_with fail
    refine K5.out.mono ?_
    rintro e wG ⟨rfl, hG⟩
    obtain ⟨g1, hg1⟩ : ∃ g, wG.heap.size = g := ⟨_, rfl⟩
    have hbx := hG.box keeps_true z12 44
    have hfl := hG.fill keeps_true z12 oc 44
    rw [hg1] at hbx hfl
    have HBX := Lib.hid hbx
    have HFL := Lib.hid hfl
    clear hbx hfl hG K5 HP5
    go_upto_region 15 with (first
      | (refine wpList_store_row rfl 44 (.tmp 18) (.tmp 75) rfl g1 oc rfl rfl 44 _ HBX.out.x.2 HI.out (by rw [hz]; rfl) HO.out ?_)
      | fail)
    refine at_world (fun w' => PairX 108 60 w1 w' p q M3 M2 (fun i => False ∨ i = g1) (fun w' => True ∧ Blk w' g1 oc 44)) HFL.out ?_
    intro wH hH
    have HK1 : Hid (Keeps (fun i => False ∨ i = g1) (fun w' => True ∧ Blk w' g1 oc 44)) := Lib.hid (keeps_and keeps_true (keeps_blk _ _ _))
    have K7 := Lib.hid (K6.out _ _ _ HK1.out hH)
    clear hH HFL HBX hg1 K6
    go_wp2_with fail
    refine K7.out.mono ?_
    rintro e wI ⟨rfl, hI⟩
    obtain ⟨g2, hg2⟩ : ∃ g, wI.heap.size = g := ⟨_, rfl⟩
    have hbx := hI.box HK1.out z12 44
    have hfl := hI.fill HK1.out z12 oc 44
    rw [hg2] at hbx hfl
    have HBX := Lib.hid hbx
    have HFL := Lib.hid hfl
    clear hbx hfl hI K7
    go_upto_region 16 with (first
      | (refine wpList_store_row rfl 44 (.tmp 21) (.tmp 84) rfl g2 oc rfl rfl 44 _ HBX.out.x.2 HI.out (by rw [hz]; rfl) HO.out ?_)
      | fail)
    refine at_world (fun w' => PairX 108 60 w1 w' p q M3 M3 (fun i => (False ∨ i = g1) ∨ i = g2) (fun w' => (True ∧ Blk w' g1 oc 44) ∧ Blk w' g2 oc 44)) HFL.out ?_
    intro wJ hJ
    have HK2 : Hid (Keeps (fun i => (False ∨ i = g1) ∨ i = g2) (fun w' => (True ∧ Blk w' g1 oc 44) ∧ Blk w' g2 oc 44)) := Lib.hid (keeps_and HK1.out (keeps_blk _ _ _))
    have HPJ := Lib.hid hJ
    clear hJ HFL HBX hg2 HK1
    -- Size
    have KS : Hid (Calls Try.prog 44 #[.pointer (some ⟨q, 0, none⟩), .int .i64 r] wJ fun e w' => e = .returned (.int .i64 (M3.size r)) ∧ w' = wJ) := Lib.hid (by
      obtain ⟨G, h1, _⟩ := HPJ.out.swap
      exact one_rsize r h1)
    have hs3 := Mm.size_le HPJ.out.ok.1 r
    have K8 := Lib.hid (HPJ.out.call HK2.out fun D' X' hK' h' => one_count hK' r key n hkey hn h' (by omega))
    have K9 := Lib.hid (fun w' (h' : PairX 108 60 w1 w' p q (M3.noted (readsL r (M3.size r))) M3 (fun i => (False ∨ i = g1) ∨ i = g2) (fun w' => (True ∧ Blk w' g1 oc 44) ∧ Blk w' g2 oc 44)) => h'.call2 HK2.out fun D' X' hK' h' => one_rcount hK' r key n h' (by omega))
    have hev4 : (M3.noted (readsL r (M3.size r))).evs.length ≤ 40000 := by rw [noted_len, readsL_len]; omega
    generalize cntI' (keyAt M3 r key n) (M3.size r) = ct at *
    generalize M3.noted (readsL r (M3.size r)) = M4 at *
    have dp : ((pl : Int) != (pl : Int)) = false := by simp
    have df : (fo != fo) = false := by simp
    have dc : ((ct : Int) != (ct : Int)) = false := by simp
    have KR1 := Lib.hid (fun w' => scanReads_any r (M3.size r) (by omega) w')
    have KR2 := Lib.hid (fun w' => refReads_any r (M3.size r) (by omega) w')
    have KW1 := Lib.hid (fun w' => scanWrites_any r (M3.size r) (by omega) w')
    have KW2 := Lib.hid (fun w' => refWrites_any r (M3.size r) (by omega) w')
    generalize hsz3 : M3.size r = sz at *
    clear hs3 hsz3
    go_wp2_with fail
    refine KS.out.mono ?_
    rintro e wS ⟨rfl, rfl⟩
    go_wp2_with (first
      | (refine wpList_load_rowIf (by rfl) 44 (.tmp 18) rfl g1 rfl 44 oc (0, 0) _ HPJ.out.x.1.2 Try.underlying44 rfl HI.out ?_)
      | (refine wpList_load_rowIf (by rfl) 44 (.tmp 21) rfl g2 rfl 44 oc (0, 0) _ HPJ.out.x.2 Try.underlying44 rfl HI.out ?_)
      | fail)
    refine K8.out.mono ?_
    rintro e wK ⟨rfl, hK⟩
    go_wp2_with fail
    refine (K9.out _ hK).mono ?_
    rintro e wL ⟨rfl, hL⟩
    have HPL := Lib.hid hL
    clear hK hL K8 K9 HPJ KS
    go_wp2_with fail
    refine (KR1.out _).mono ?_
    rintro e wM ⟨v1, rfl, hs1, hbM, _⟩
    have HPM := Lib.hid (HPL.out.below HK2.out hbM)
    clear hbM
    go_wp2_with fail
    refine (KR2.out _).mono ?_
    rintro e wN ⟨v2, rfl, hs2, hbN, _⟩
    have HPN := Lib.hid (HPM.out.below HK2.out hbN)
    have HQ := Lib.hid (sameE7_any v1 v2 _ _ _ (hs1.below hbN) hs2)
    rw [decide_eq_true rfl] at HQ
    clear hs1 hs2 hbN HPL HPM
    go_wp2_with fail
    refine HQ.out.mono ?_
    rintro e wO ⟨rfl, hbO⟩
    have HPO := Lib.hid (HPN.out.below HK2.out hbO)
    clear hbO HQ HPN
    go_wp2_with fail
    refine (KW1.out _).mono ?_
    rintro e wM ⟨v1, rfl, hs1, hbM, _⟩
    have HPM := Lib.hid (HPO.out.below HK2.out hbM)
    clear hbM
    go_wp2_with fail
    refine (KW2.out _).mono ?_
    rintro e wN ⟨v2, rfl, hs2, hbN, _⟩
    have HPN := Lib.hid (HPM.out.below HK2.out hbN)
    have HQ := Lib.hid (sameE7_any v1 v2 _ _ _ (hs1.below hbN) hs2)
    rw [decide_eq_true rfl] at HQ
    clear hs1 hs2 hbN HPO HPM
    go_wp2_with fail
    refine HQ.out.mono ?_
    rintro e wO ⟨rfl, hbO⟩
    have HPO := Lib.hid (HPN.out.below HK2.out hbO)
    have KA := Lib.hid (alike7_any HK2.out HPO.out (by omega))
    clear hbO HQ HPN
    go_wp2_with fail
    refine KA.out.mono ?_
    rintro e wZ ⟨rfl, hbZ⟩
    have HBZ := Lib.hid (HB1.out.trans (hbZ.mono HB1.out.size))
    clear hbZ KA
    go_wp2
    go_ret
    exact ⟨rfl, HBZ.out⟩
end Go.Proofs.Ytngpaibppdehdaa
