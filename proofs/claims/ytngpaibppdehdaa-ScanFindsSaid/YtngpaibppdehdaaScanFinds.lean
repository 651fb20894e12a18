/-
  The walk of shellgamelaw7.ScanFinds.
-/
import Derived.Test.YtngpaibppdehdaaTwiceL
import Derived.Test.YtngpaibppdehdaaScanAll
namespace Go.Sg
open Go Go.RowKit
theorem qs_skip7 {P : Program} {ops : Array Oper} {C : World → Prop} {o : Oper} {a : Act} {K : Act → Prop} (hw : Region.wanted o (yielded ops a.tmps) = false) (hK : K (a.put o.dst undef)) :
    if Region.wanted o (yielded ops a.tmps) = true then o.quiet P a C K else K (a.put o.dst undef) := by
  rw [if_neg (by rw [hw]; exact Bool.false_ne_true)]
  exact hK
end Go.Sg
namespace Go.Proofs.Ytngpaibppdehdaa
open Go Go.RowKit Go.Sg

set_option maxHeartbeats 4000000 in
set_option maxRecDepth 100000 in
theorem ScanFinds_walk (v : Value) (zs : List Int) (key a b : Int) (w : World) (hv : SlI .u64 w v zs) (hkey : Num key) (ha : Word a) (hb : Word b) :
    Calls Try.prog 16 #[v, .int .i64 key, .int .u64 a, .int .u64 b] w fun e w' => e = .returned (.bool true) ∧ Below w.heap.size w w' := by
  have HWZ := Lib.hid (slI_words' hv)
  have HV := Lib.hid (Sl1.of_SlI hv)
  have hlen : zs.length ≤ maxLen := by have := HV.out.len_le; rwa [List.length_map] at this
  obtain ⟨va, vc, rfl⟩ : ∃ a c, v = .slice a zs.length c := by have := HV.out.len; rwa [List.length_map] at this
  unfold maxLen at hlen
  clear hv
  go_enter Try.func16, Try.ntmps16
  go_wp2_with fail
  refine (shown7 w).mono ?_
  rintro e w1 ⟨rfl, hb1⟩
  have HB1 := Lib.hid hb1
  have HV1 := Lib.hid (HV.out.below hb1)
  clear hb1
  by_cases h40 : 40 < zs.length
  · have d : decide ((40 : Int) < (zs.length : Int)) = true := decide_eq_true (by omega)
    go_wp2
    go_ret
    exact ⟨rfl, HB1.out⟩
  have d : decide ((40 : Int) < (zs.length : Int)) = false := decide_eq_false (by omega)
  by_cases hk0 : key < 0
  · have dk : decide (key < 0) = true := decide_eq_true hk0
    go_wp2
    go_ret
    exact ⟨rfl, HB1.out⟩
  have dk0 : decide (key < 0) = false := decide_eq_false hk0
  by_cases hk1 : 11 < key
  · have dk : decide (11 < key) = true := decide_eq_true hk1
    go_wp2
    go_ret
    exact ⟨rfl, HB1.out⟩
  have dk1 : decide (11 < key) = false := decide_eq_false hk1
  go_wp2_with fail
  refine (laid7_any 1 20 (by decide) (by decide) (by decide) (by decide) _ zs HWZ.out _ HV1.out).mono ?_
  rintro e w2 ⟨p, q, rfl, hP⟩
  have HX0 := Lib.hid hP.left
  have HL := Lib.hid (laid_f (r := 1) (c := 20) zs (by decide))
  have hev0 : (laidM 1 20 zs).evs.length ≤ 20 := HL.out.evs.2
  have hsz : (laidM 1 20 zs).size 0 = 20 := HL.out.size 0
  clear hP HV HV1 HWZ HL
  generalize laidM 1 20 zs = M0 at *
  obtain ⟨kn, rfl⟩ : ∃ kn : Nat, key = kn := ⟨key.toNat, by omega⟩
  have hkn : kn < 12 := by omega
  clear hk0 hk1
  have HOK0 := HX0.out.ok
  -- Many, Find
  have KM1 := Lib.hid (one_many HX0.out)
  have K1 := Lib.hid (one_find keeps_true 0 (kn : Int) a hkey ha HX0.out (by omega))
  rw [hsz] at K1
  go_wp2_with fail
  refine KM1.out.mono ?_
  rintro e wS ⟨rfl, rfl⟩
  go_wp2_with fail
  refine K1.out.mono ?_
  rintro e wA ⟨rfl, hA⟩
  have hou := (outK_ok HOK0 0 (kn : Int) a 20).1
  have hz : (cw (outK M0 0 (kn : Int) a 20)).size = 12 := by rw [cw_size, hou]
  have HI : Hid ((Try.prog.info? 44).map (·.size) = some (cw (outK M0 0 (kn : Int) a 20)).size) := Lib.hid (by rw [hz]; kernel_rfl)
  have HO : Hid ((cw (outK M0 0 (kn : Int) a 20)).all (·.oneCell') = true) := Lib.hid (cw_one _)
  have HOC : Hid (∀ w g, Blk w g (cw (outK M0 0 (kn : Int) a 20)) 44 → True) := Lib.hid fun _ _ _ => trivial
  obtain ⟨g, hg⟩ : ∃ g, wA.heap.size = g := ⟨_, rfl⟩
  have hbx := hA.box keeps_true z12 44
  have hfl := hA.fill keeps_true z12 (cw (outK M0 0 (kn : Int) a 20)) 44
  rw [hg] at hbx hfl
  have HBX := Lib.hid hbx
  have HFL := Lib.hid hfl
  clear hbx hfl hA K1 KM1 HOC HX0
  obtain ⟨oc, hoc⟩ : ∃ oc, cw (outK M0 0 (kn : Int) a 20) = oc := ⟨_, rfl⟩
  rw [hoc] at HI HO HFL hz ⊢
  obtain ⟨pl, hpl⟩ : ∃ pl, placeK M0 0 (kn : Int) a 20 = pl := ⟨_, rfl⟩
  obtain ⟨fk, hfk⟩ : ∃ fk, foundK M0 0 (kn : Int) a 20 = fk := ⟨_, rfl⟩
  rw [hpl, hfk]
  have HPL := Lib.hid hpl
  have HFK := Lib.hid hfk
  have HOCC := Lib.hid hoc
  clear hpl hfk hoc
  obtain ⟨fm, hfm⟩ : ∃ fm, mk fk = fm := ⟨_, rfl⟩
  rw [hfm]
  have HFM := Lib.hid hfm
  clear hfm
  go_upto_region 9 with (first
    | (refine wpList_store_row rfl 44 (.tmp 14) (.tmp 54) rfl g oc rfl rfl 44 _ HBX.out.x.2 HI.out (by rw [hz]; rfl) HO.out ?_)
    | fail)
  refine at_world (fun w' => OneX 108 w1 w' p (M0.noted (readsL 0 20)) (fun i => False ∨ i = g) (fun w' => True ∧ Blk w' g oc 44)) HFL.out ?_
  intro wB hB
  have HD0 : Hid (Keeps (fun i => False ∨ i = g) (fun w' => True ∧ Blk w' g oc 44)) := Lib.hid (keeps_and keeps_true (keeps_blk _ _ _))
  clear HFL HBX hg
  -- Since
  have K2 := Lib.hid (one_since HD0.out (M0.evs.length : Int) hB (by rw [noted_len, readsL_len]; omega) M0.evs.length (by rw [noted_len]; omega))
  rw [drop_noted] at K2
  clear hB
  go_wp2_with fail
  refine K2.out.mono ?_
  rintro e wC ⟨v1, rfl, hC, _, _⟩
  have HD1 := Lib.hid (keeps_and HD0.out (keeps_slE v1 (readsL 0 20)))
  have hev1 : (M0.noted (readsL 0 20)).evs.length ≤ 100 := by rw [noted_len, readsL_len]; omega
  have HXC := Lib.hid hC
  clear K2 hC
  -- Many, Find, Since
  have KM2 := Lib.hid (one_many HXC.out)
  have K3 := Lib.hid (one_find HD1.out 0 (kn : Int) b hkey hb HXC.out (by omega))
  rw [show (M0.noted (readsL 0 20)).size 0 = 20 from hsz] at K3
  go_wp2_with fail
  refine KM2.out.mono ?_
  rintro e wS ⟨rfl, rfl⟩
  go_wp2_with fail
  refine K3.out.mono ?_
  rintro e wD ⟨rfl, hD⟩
  have K4 := Lib.hid (one_since HD1.out ((M0.noted (readsL 0 20)).evs.length : Int) hD (by rw [noted_len, readsL_len]; omega) (M0.noted (readsL 0 20)).evs.length (by rw [noted_len (M := M0.noted (readsL 0 20))]; omega))
  rw [drop_noted] at K4
  clear hD K3 KM2 HXC
  go_wp2_with fail
  refine K4.out.mono ?_
  rintro e wE ⟨v2, rfl, hE, _, _⟩
  have HD2 := Lib.hid (keeps_and HD1.out (keeps_slE v2 (readsL 0 20)))
  rw [Mm.noted_noted] at hE
  have HXE := Lib.hid hE
  have hes : (readsL 0 20 ++ readsL 0 20).length ≤ 40 := by simp [readsL_len]
  clear hE K4 hev1
  -- Count
  have K5 := Lib.hid (one_count HD2.out 0 (kn : Int) a hkey ha HXE.out (by rw [noted_len]; omega))
  rw [Mm.noted_size, hsz, Mm.noted_noted] at K5
  have hct : cntI' (keyAt (M0.noted (readsL 0 20 ++ readsL 0 20)) 0 (kn : Int) a) 20 = cntI' (keyAt M0 0 (kn : Int) a) 20 := rfl
  rw [hct] at K5
  have hes2 : (readsL 0 20 ++ readsL 0 20 ++ readsL 0 20).length ≤ 60 := by simp [readsL_len]
  clear hct hes HXE
  generalize readsL 0 20 ++ readsL 0 20 ++ readsL 0 20 = es at *
  obtain ⟨ct, hct⟩ : ∃ ct, cntI' (keyAt M0 0 (kn : Int) a) 20 = ct := ⟨_, rfl⟩
  rw [hct] at K5
  have HCT := Lib.hid hct
  have hc20 : ct ≤ 20 := by rw [← hct]; exact cntI'_le _ _
  clear hct
  go_wp2_with fail
  refine K5.out.mono ?_
  rintro e wF ⟨rfl, hF⟩
  have HXF := Lib.hid hF
  clear hF K5
  go_upto_region 14 with fail
  have HHD : Hid (∀ k : Nat, k < 20 → ∃ x, (cw (M0.read 0 (k : Int)))[kn]? = some (.int .u64 x) ∧ keyAt M0 0 (kn : Int) a k = (x == a)) := Lib.hid fun k hk => by
    have hl := (Mm.read_ok HOK0 0 (k : Int)).1
    exact keyB_in hl a kn hkn
  have HSE := Lib.hid (fun w' (es' : List Ev) (h : OneX 108 w1 w' p (M0.noted es') (fun i => ((False ∨ i = g) ∨ OwnE v1 (readsL 0 20) i) ∨ OwnE v2 (readsL 0 20) i) (fun w' => ((True ∧ Blk w' g oc 44) ∧ SlE w' v1 (readsL 0 20)) ∧ SlE w' v2 (readsL 0 20))) => (sameE7_any v1 v2 _ _ w' h.x.1.2 h.x.2).mono fun e w'' ⟨he, hb⟩ => (⟨he, h.below HD2.out hb⟩ : e = Ending.returned (.bool (decide (readsL 0 20 = readsL 0 20))) ∧ OneX 108 w1 w'' p (M0.noted es') (fun i => ((False ∨ i = g) ∨ OwnE v1 (readsL 0 20) i) ∨ OwnE v2 (readsL 0 20) i) (fun w' => ((True ∧ Blk w' g oc 44) ∧ SlE w' v1 (readsL 0 20)) ∧ SlE w' v2 (readsL 0 20))))
  rw [decide_eq_true rfl] at HSE
  cases fk
  case true =>
    have g0 : ∃ t, firstI (keyAt M0 0 (kn : Int) a) 20 = some t := by
      have := HFK.out
      unfold foundK at this
      exact Option.isSome_iff_exists.1 this
    obtain ⟨t, ht⟩ := g0
    obtain ⟨t1, t2, t3⟩ := firstI_some ht
    have htp : pl = t := by rw [← HPL.out]; unfold placeK; rw [ht]; rfl
    subst htp
    have HPF : Hid (∀ k, k < 20 → keyAt M0 0 (kn : Int) a k = true → pl ≤ k) := Lib.hid fun k _ hk => by
      rcases Nat.lt_or_ge k pl with h | h
      · rw [t3 k h] at hk; cases hk
      · exact h
    have hor : oc = cw (M0.read 0 (pl : Int)) := by rw [← HOCC.out]; unfold outK; rw [ht]
    obtain ⟨x0, hx0, hx1⟩ := keyB_in (c := M0.read 0 (pl : Int)) (Mm.read_ok HOK0 0 (pl : Int)).1 a kn hkn
    have hxa : x0 = a := by
      rw [show keyB (M0.read 0 (pl : Int)) (kn : Int) a = keyAt M0 0 (kn : Int) a pl from rfl, t2] at hx1
      simpa using hx1.symm
    have hxb := hxa.symm
    subst hxb
    have HOX : Hid (oc[kn]? = some (.int .u64 a)) := Lib.hid (by rw [hor]; exact hx0)
    have hct0 : ct ≠ 0 := fun e => by
      have := HCT.out
      rw [e] at this
      rw [cntI'_zero.1 this] at ht
      cases ht
    have dct : ((ct : Int) == 0) = false := by simp only [beq_eq_false_iff_ne]; omega
    obtain rfl : fm = 18446744073709551615 := HFM.out.symm
    have htm : (pl : Int).tmod 20 = (pl : Int) := by rw [Int.tmod_eq_emod_of_nonneg (by omega)]; omega
    have hwp : IntKind.i64.wrap (pl : Int) = (pl : Int) := by rw [IntKind.wrap_i64]; omega
    have hhas : M0.has 0 (pl : Int) = true := Mm.has_lt (by omega)
    have hlo : ∀ es : List Ev, (M0.noted es).look 0 (pl : Int) false = M0.noted (es ++ [((0 : Int), (pl : Int), false)]) := fun es => by
      rw [Mm.look_noted (by rw [Mm.noted_has]; exact hhas), Mm.noted_noted]
    have hrl := (Mm.read_ok HOK0 0 (pl : Int)).1
    have KRD := Lib.hid (fun w' (h' : OneX 108 w1 w' p (M0.noted es) (fun i => ((False ∨ i = g) ∨ OwnE v1 (readsL 0 20) i) ∨ OwnE v2 (readsL 0 20) i) (fun w' => ((True ∧ Blk w' g oc 44) ∧ SlE w' v1 (readsL 0 20)) ∧ SlE w' v2 (readsL 0 20))) => one_read HD2.out 0 (pl : Int) h' (by rw [noted_len]; omega))
    rw [hlo, Mm.noted_read, ← hor] at KRD
    have hes3 : (es ++ [((0 : Int), (pl : Int), false)]).length ≤ 200 + 0 := by simp; omega
    have QO : ∀ w, (Op.equalIn 10000 44 (.agg oc) (.agg oc)).run Try.prog w = .ok true w := by
      rw [hor]
      exact eq_cell_run _ hrl
    obtain ⟨ol, hol⟩ : ∃ ol : List Value, oc = ol.toArray := ⟨oc.toList, by simp⟩
    subst hol
    have hol12 : ol.length = 12 := by rw [← hz, List.size_toArray]
    have HRG : Hid (∀ w' M', OneX 108 w1 w' p M' (fun i => ((False ∨ i = g) ∨ OwnE v1 (readsL 0 20) i) ∨ OwnE v2 (readsL 0 20) i) (fun w' => ((True ∧ Blk w' g ol.toArray 44) ∧ SlE w' v1 (readsL 0 20)) ∧ SlE w' v2 (readsL 0 20)) → w'.rangeAt g 0 ol ∧ w'.cell? ⟨g, kn, none⟩ = some (.int .u64 a)) := Lib.hid fun w' M' h => ⟨h.x.1.1.2.range, by rw [h.x.1.1.2.cell]; exact HOX.out⟩
    have hk0 : (0 : Int) ≤ (kn : Int) := by omega
    have hk1 : (kn : Int) < 12 := by omega
    have hX1 := HXF.out.drew HD2.out
    have hr1 := HRG.out _ _ hX1
    have hc1 := hr1.2
    have hio : (Try.prog.info? 44).map (·.size) = some ol.length := HI.out
    have U := Try.underlying44
    clear ht t1 t2 t3 hor hx0 hx1 hct0 hhas hlo hrl
    generalize es ++ [((0 : Int), (pl : Int), false)] = es3 at *
    go_region_held3 (fun w' => w'.rangeAt g 0 ol ∧ w'.cell? ⟨g, kn, none⟩ = some (.int .u64 a)) (first | assumption | exact HRG.out _ _ (by assumption)) (first
      | (go_at_call 56; refine (HSE.out _ _ hX1).mono ?_; rintro e w7 ⟨rfl, hX2⟩)
      | (go_at_call 35; refine (KRD.out _ hX2).mono ?_; rintro e w8 ⟨rfl, hX3⟩))
    all_goals
      have HXG := Lib.hid (show ∃ es : List Ev, es.length ≤ 200 + 0 ∧ OneX 108 w1 w8 p (M0.noted es) (fun i => ((False ∨ i = g) ∨ OwnE v1 (readsL 0 20) i) ∨ OwnE v2 (readsL 0 20) i) (fun w' => ((True ∧ Blk w' g ol.toArray 44) ∧ SlE w' v1 (readsL 0 20)) ∧ SlE w' v2 (readsL 0 20)) from ⟨es3, hes3, hX3⟩)
      clear hX3 hX2 hX1 hr1 hc1 hio
      go_wp2_with fail
      go_loopw [19, 20] (fun mv i wr => ∃ k : Nat, k ≤ 20 ∧ i = .int .i64 k ∧ mv = .int .i64 (cntI' (keyAt M0 0 (kn : Int) a) k : Int) ∧ Hid (∃ es : List Ev, es.length ≤ 200 + k ∧ OneX 108 w1 wr p (M0.noted es) (fun i => ((False ∨ i = g) ∨ OwnE v1 (readsL 0 20) i) ∨ OwnE v2 (readsL 0 20) i) (fun w' => ((True ∧ Blk w' g ol.toArray 44) ∧ SlE w' v1 (readsL 0 20)) ∧ SlE w' v2 (readsL 0 20)))) (fun _ i _ => 20 - (intOf i).toNat)
      case atStart => exact ⟨0, by omega, rfl, rfl, HXG⟩
      case round =>
        obtain ⟨k, hk, rfl, rfl, HX⟩ := hrel
        obtain ⟨es', hes', hX⟩ := HX.out
        have HXr := Lib.hid hX
        clear hX
        have hcl := cntI'_le (keyAt M0 0 (kn : Int) a) k
        by_cases hlt : k < 20
        · have hd : decide ((k : Int) < 20) = true := decide_eq_true (by omega)
          have hwk : IntKind.u64.wrap (k : Int) = (k : Int) := Go.Sg.wrap_small (by omega) (by omega)
          have hhas : M0.has 0 (k : Int) = true := Mm.has_lt (by omega)
          have hlo : (M0.noted es').look 0 (k : Int) false = M0.noted (es' ++ [((0 : Int), (k : Int), false)]) := by
            rw [Mm.look_noted (by rw [Mm.noted_has]; exact hhas), Mm.noted_noted]
          have K8 := Lib.hid (one_read HD2.out 0 (k : Int) HXr.out (by rw [noted_len]; omega))
          rw [hlo, Mm.noted_read] at K8
          have hes2 : (es' ++ [((0 : Int), (k : Int), false)]).length ≤ 200 + (k + 1) := by simp; omega
          have hrl := (Mm.read_ok HOK0 0 (k : Int)).1
          obtain ⟨x, hx1, hx2⟩ := HHD.out k hlt
          have HST : Hid (cntI' (keyAt M0 0 (kn : Int) a) (k + 1) = cntI' (keyAt M0 0 (kn : Int) a) k + (if (x == a) then 1 else 0)) := Lib.hid (by rw [← hx2]; rfl)
          have HPK : Hid ((x == a) = true → (pl : Int) ≤ (k : Int)) := Lib.hid fun e => by
            rw [← hx2] at e
            have := HPF.out k hlt e
            omega
          have hz1 : (cw (M0.read 0 (k : Int))).size = 12 := by rw [cw_size, hrl]
          have HI1 : Hid ((Try.prog.info? 44).map (·.size) = some (cw (M0.read 0 (k : Int))).size) := Lib.hid (by rw [hz1]; kernel_rfl)
          have HO1 : Hid ((cw (M0.read 0 (k : Int))).all (·.oneCell') = true) := Lib.hid (cw_one _)
          clear hhas hlo hrl hx2 HXr
          generalize cw (M0.read 0 (k : Int)) = rc at *
          generalize es' ++ [((0 : Int), (k : Int), false)] = es2 at *
          generalize cntI' (keyAt M0 0 (kn : Int) a) k = ck at *
          go_wp2_with fail
          refine K8.out.mono ?_
          rintro e wM ⟨rfl, hM⟩
          obtain ⟨Bc, hBc⟩ : ∃ g, wM.heap.size = g := ⟨_, rfl⟩
          have hbx := hM.box HD2.out z12 44
          have hfl := hM.fill HD2.out z12 rc 44
          rw [hBc] at hbx hfl
          have HBX := Lib.hid hbx
          have HFL := Lib.hid hfl
          clear hbx hfl hM K8
          go_upto_region 21 with (first
            | (refine wpList_store_row rfl 44 (.tmp 21) (.tmp 113) rfl Bc rc rfl rfl 44 _ HBX.out.x.2 HI1.out (by rw [hz1]; rfl) HO1.out ?_)
            | fail)
          refine at_world (fun w' => OneX 108 w1 w' p (M0.noted es2) (fun i => (fun i => ((False ∨ i = g) ∨ OwnE v1 (readsL 0 20) i) ∨ OwnE v2 (readsL 0 20) i) i ∨ i = Bc) (fun w' => (fun w' => ((True ∧ Blk w' g ol.toArray 44) ∧ SlE w' v1 (readsL 0 20)) ∧ SlE w' v2 (readsL 0 20)) w' ∧ Blk w' Bc rc 44)) HFL.out ?_
          intro wN hN
          have c1 : wN.cell? ⟨Bc, kn, none⟩ = some (.int .u64 x) := by rw [hN.x.2.cell]; exact hx1
          have hk0 : (0 : Int) ≤ (kn : Int) := by omega
          have hk1 : (kn : Int) < 12 := by omega
          have HXN := Lib.hid (hN.less (E := (fun i => ((False ∨ i = g) ∨ OwnE v1 (readsL 0 20) i) ∨ OwnE v2 (readsL 0 20) i)) (Y := (fun w' => ((True ∧ Blk w' g ol.toArray 44) ∧ SlE w' v1 (readsL 0 20)) ∧ SlE w' v2 (readsL 0 20))) (fun _ h => .inl h) (fun h => h.1))
          clear hN HBX HFL hBc hx1
          cases hxx : (x == a)
          · rw [hxx] at HST
            go_wp2
            go_roundw
            case rel => exact ⟨k + 1, by omega, by go_num, by rw [HST.out]; rfl, Lib.hid ⟨es2, hes2, HXN.out⟩⟩
            case measure => simp [intOf]; omega
          · rw [hxx] at HST
            have hnl : decide ((k : Int) < (pl : Int)) = false := decide_eq_false (Int.not_lt.2 (HPK.out hxx))
            have hnl2 : decide (k < pl) = false := decide_eq_false (by have := HPK.out hxx; omega)
            go_wp2
            go_roundw
            case rel => exact ⟨k + 1, by omega, by go_num, by rw [HST.out]; rfl, Lib.hid ⟨es2, hes2, HXN.out⟩⟩
            case measure => simp [intOf]; omega
        · obtain rfl : k = 20 := by omega
          have hd : decide (((20 : Nat) : Int) < 20) = false := by decide
          have HB9 : Hid (Below w.heap.size w wr) := Lib.hid (HB1.out.trans (HXr.out.old.mono HB1.out.size))
          rw [HCT.out]
          clear HXr
          go_wp2
          go_ret
          exact ⟨by first | rfl | simp, HB9.out⟩
  case false =>
    have hno : firstI (keyAt M0 0 (kn : Int) a) 20 = none := by
      have := HFK.out
      unfold foundK at this
      exact Option.isNone_iff_eq_none.1 (by rw [← Option.not_isSome, this]; rfl)
    obtain rfl : pl = 0 := by rw [← HPL.out]; unfold placeK; rw [hno]; rfl
    obtain rfl : ct = 0 := by rw [← HCT.out]; exact cntI'_zero.2 hno
    obtain rfl : fm = 0 := HFM.out.symm
    obtain rfl : oc = z12 := by rw [← HOCC.out]; unfold outK; rw [hno]; rfl
    have HPF : Hid (∀ k, k < 20 → keyAt M0 0 (kn : Int) a k = true → 0 ≤ k) := Lib.hid fun _ _ _ => Nat.zero_le _
    clear hno
    have QZ := eq_cell_run zeros rfl
    rw [cw_zeros] at QZ
    have hX1 := HXF.out.drew HD2.out
    obtain ⟨C, hCi, hCo, hCs⟩ : ∃ C : World → Prop, C wF.drew ∧ (∀ w', C w' → OneX 108 w1 w' p (M0.noted es) (fun i => ((False ∨ i = g) ∨ OwnE v1 (readsL 0 20) i) ∨ OwnE v2 (readsL 0 20) i) (fun w' => ((True ∧ Blk w' g z12 44) ∧ SlE w' v1 (readsL 0 20)) ∧ SlE w' v2 (readsL 0 20))) ∧ (∀ w', C w' → Calls Try.prog 56 #[v1, v2] w' fun e w'' => e = .returned (.bool true) ∧ C w'') := ⟨_, hX1, fun _ h => h, fun w' h => HSE.out w' es h⟩
    have HCO := Lib.hid hCo
    have HCS := Lib.hid hCs
    clear hCo hCs
    refine wp_region_cls C (by kernel_rfl) (by kernel_rfl) hCi ?_
    repeat (first
      | (with_reducible refine wpQuiet_step ?_
         intro K hK
         refine qs_skip7 (by rfl) (hK _ ?_)
         clear hK K
         try simp only [Act.put, List.setIfInBounds_toArray, List.set_cons_zero, List.set_cons_succ])
      | (with_reducible refine wpQuiet_step ?_
         intro K hK
         go_simp
         first
           | (with_reducible refine hK _ ?_; clear hK K)
           | (with_reducible refine ⟨_, fun _ _ => rfl, hK _ ?_⟩; clear hK K)
           | (with_reducible apply Exists.intro
              with_reducible refine ⟨fun _ hC => ?_, hK _ ?_⟩
              (with_reducible exact HCS.out _ hC)
              clear hK K)))
    refine wpQuiet_nil ?_
    intro w8 hC8
    have hX3 := HCO.out _ hC8
    have HXG := Lib.hid (show ∃ es : List Ev, es.length ≤ 200 + 0 ∧ OneX 108 w1 w8 p (M0.noted es) (fun i => ((False ∨ i = g) ∨ OwnE v1 (readsL 0 20) i) ∨ OwnE v2 (readsL 0 20) i) (fun w' => ((True ∧ Blk w' g z12 44) ∧ SlE w' v1 (readsL 0 20)) ∧ SlE w' v2 (readsL 0 20)) from ⟨es, by omega, hX3⟩)
    clear hX3 hX1
    go_wp2_with fail
    go_loopw [19, 20] (fun mv i wr => ∃ k : Nat, k ≤ 20 ∧ i = .int .i64 k ∧ mv = .int .i64 (cntI' (keyAt M0 0 (kn : Int) a) k : Int) ∧ Hid (∃ es : List Ev, es.length ≤ 200 + k ∧ OneX 108 w1 wr p (M0.noted es) (fun i => ((False ∨ i = g) ∨ OwnE v1 (readsL 0 20) i) ∨ OwnE v2 (readsL 0 20) i) (fun w' => ((True ∧ Blk w' g z12 44) ∧ SlE w' v1 (readsL 0 20)) ∧ SlE w' v2 (readsL 0 20)))) (fun _ i _ => 20 - (intOf i).toNat)
    case atStart => exact ⟨0, by omega, rfl, rfl, HXG⟩
    case round =>
      obtain ⟨k, hk, rfl, rfl, HX⟩ := hrel
      obtain ⟨es', hes', hX⟩ := HX.out
      have HXr := Lib.hid hX
      clear hX
      have hcl := cntI'_le (keyAt M0 0 (kn : Int) a) k
      by_cases hlt : k < 20
      · have hd : decide ((k : Int) < 20) = true := decide_eq_true (by omega)
        have hwk : IntKind.u64.wrap (k : Int) = (k : Int) := Go.Sg.wrap_small (by omega) (by omega)
        have hhas : M0.has 0 (k : Int) = true := Mm.has_lt (by omega)
        have hlo : (M0.noted es').look 0 (k : Int) false = M0.noted (es' ++ [((0 : Int), (k : Int), false)]) := by
          rw [Mm.look_noted (by rw [Mm.noted_has]; exact hhas), Mm.noted_noted]
        have K8 := Lib.hid (one_read HD2.out 0 (k : Int) HXr.out (by rw [noted_len]; omega))
        rw [hlo, Mm.noted_read] at K8
        have hes2 : (es' ++ [((0 : Int), (k : Int), false)]).length ≤ 200 + (k + 1) := by simp; omega
        have hrl := (Mm.read_ok HOK0 0 (k : Int)).1
        obtain ⟨x, hx1, hx2⟩ := HHD.out k hlt
        have HST : Hid (cntI' (keyAt M0 0 (kn : Int) a) (k + 1) = cntI' (keyAt M0 0 (kn : Int) a) k + (if (x == a) then 1 else 0)) := Lib.hid (by rw [← hx2]; rfl)
        have HPK : Hid (0 ≤ k) := Lib.hid (Nat.zero_le _)
        have hz1 : (cw (M0.read 0 (k : Int))).size = 12 := by rw [cw_size, hrl]
        have HI1 : Hid ((Try.prog.info? 44).map (·.size) = some (cw (M0.read 0 (k : Int))).size) := Lib.hid (by rw [hz1]; kernel_rfl)
        have HO1 : Hid ((cw (M0.read 0 (k : Int))).all (·.oneCell') = true) := Lib.hid (cw_one _)
        clear hhas hlo hrl hx2 HXr
        generalize cw (M0.read 0 (k : Int)) = rc at *
        generalize es' ++ [((0 : Int), (k : Int), false)] = es2 at *
        generalize cntI' (keyAt M0 0 (kn : Int) a) k = ck at *
        go_wp2_with fail
        refine K8.out.mono ?_
        rintro e wM ⟨rfl, hM⟩
        obtain ⟨Bc, hBc⟩ : ∃ g, wM.heap.size = g := ⟨_, rfl⟩
        have hbx := hM.box HD2.out z12 44
        have hfl := hM.fill HD2.out z12 rc 44
        rw [hBc] at hbx hfl
        have HBX := Lib.hid hbx
        have HFL := Lib.hid hfl
        clear hbx hfl hM K8
        go_upto_region 21 with (first
          | (refine wpList_store_row rfl 44 (.tmp 21) (.tmp 113) rfl Bc rc rfl rfl 44 _ HBX.out.x.2 HI1.out (by rw [hz1]; rfl) HO1.out ?_)
          | fail)
        refine at_world (fun w' => OneX 108 w1 w' p (M0.noted es2) (fun i => (fun i => ((False ∨ i = g) ∨ OwnE v1 (readsL 0 20) i) ∨ OwnE v2 (readsL 0 20) i) i ∨ i = Bc) (fun w' => (fun w' => ((True ∧ Blk w' g z12 44) ∧ SlE w' v1 (readsL 0 20)) ∧ SlE w' v2 (readsL 0 20)) w' ∧ Blk w' Bc rc 44)) HFL.out ?_
        intro wN hN
        have c1 : wN.cell? ⟨Bc, kn, none⟩ = some (.int .u64 x) := by rw [hN.x.2.cell]; exact hx1
        have hk0 : (0 : Int) ≤ (kn : Int) := by omega
        have hk1 : (kn : Int) < 12 := by omega
        have HXN := Lib.hid (hN.less (E := (fun i => ((False ∨ i = g) ∨ OwnE v1 (readsL 0 20) i) ∨ OwnE v2 (readsL 0 20) i)) (Y := (fun w' => ((True ∧ Blk w' g z12 44) ∧ SlE w' v1 (readsL 0 20)) ∧ SlE w' v2 (readsL 0 20))) (fun _ h => .inl h) (fun h => h.1))
        clear hN HBX HFL hBc hx1
        cases hxx : (x == a)
        · rw [hxx] at HST
          go_wp2
          go_roundw
          case rel => exact ⟨k + 1, by omega, by go_num, by rw [HST.out]; rfl, Lib.hid ⟨es2, hes2, HXN.out⟩⟩
          case measure => simp [intOf]; omega
        · rw [hxx] at HST
          have hnl : decide ((k : Int) < 0) = false := decide_eq_false (by omega)
          have hnl2 : decide (k < 0) = false := decide_eq_false (by omega)
          go_wp2
          go_roundw
          case rel => exact ⟨k + 1, by omega, by go_num, by rw [HST.out]; rfl, Lib.hid ⟨es2, hes2, HXN.out⟩⟩
          case measure => simp [intOf]; omega
      · obtain rfl : k = 20 := by omega
        have hd : decide (((20 : Nat) : Int) < 20) = false := by decide
        have HB9 : Hid (Below w.heap.size w wr) := Lib.hid (HB1.out.trans (HXr.out.old.mono HB1.out.size))
        rw [HCT.out]
        have HBZ := Lib.hid HXr.out.x.1.1.2
        have QZ2 : ∀ w, (Op.equalIn 10000 44 (.agg z12) (.agg #[.int .u64 0, .int .u64 0, .int .u64 0, .int .u64 0, .int .u64 0, .int .u64 0, .int .u64 0, .int .u64 0, .int .u64 0, .int .u64 0, .int .u64 0, .int .u64 0])).run Try.prog w = .ok true w := QZ
        clear HXr
        go_wp2_with (first
          | (refine wpList_load_rowIf (by rfl) 44 (.tmp 14) rfl g rfl 44 z12 (0, 0) _ HBZ.out Try.underlying44 rfl HI.out ?_)
          | fail)
        go_ret
        exact ⟨by first | rfl | simp, HB9.out⟩
end Go.Proofs.Ytngpaibppdehdaa
