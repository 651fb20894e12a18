/-
  The walk of shellgamelaw7.ScanTwice.
-/
import Derived.Test.YtngpaibppdehdaaTwiceL
namespace Go.Proofs.Ytngpaibppdehdaa
open Go Go.RowKit Go.Sg

set_option maxHeartbeats 4000000 in
set_option maxRecDepth 100000 in
theorem ScanTwice_walk (v : Value) (zs : List Int) (i0 k0 a b : Int) (w : World) (hv : SlI .u64 w v zs) (hi : Word i0) (hk : Word k0) (ha : Word a) (hb : Word b) :
    Calls Try.prog 11 #[v, .int .u64 i0, .int .u64 k0, .int .u64 a, .int .u64 b] w fun e w' => e = .returned (.bool true) ∧ Below w.heap.size w w' := by
  have HWZ := Lib.hid (slI_words' hv)
  have HV := Lib.hid (Sl1.of_SlI hv)
  have hlen : zs.length ≤ maxLen := by have := HV.out.len_le; rwa [List.length_map] at this
  obtain ⟨va, vc, rfl⟩ : ∃ a c, v = .slice a zs.length c := by have := HV.out.len; rwa [List.length_map] at this
  unfold maxLen at hlen
  clear hv
  go_enter Try.func11, Try.ntmps11
  go_wp2_with fail
  refine (shown7 w).mono ?_
  rintro e w1 ⟨rfl, hb1⟩
  have HB1 := Lib.hid hb1
  have HV1 := Lib.hid (HV.out.below hb1)
  clear hb1
  by_cases h40 : 40 < zs.length
  · have d : decide ((40 : Int) < (zs.length : Int)) = true := decide_eq_true (by omega)
    go_wp2
    go_ret
    exact ⟨rfl, HB1.out⟩
  have d : decide ((40 : Int) < (zs.length : Int)) = false := decide_eq_false (by omega)
  go_wp2_with fail
  refine (laid7_any 1 16 (by decide) (by decide) (by decide) (by decide) _ zs HWZ.out _ HV1.out).mono ?_
  rintro e w2 ⟨p, q, rfl, hP⟩
  have HX0 := Lib.hid hP.left
  have HL := Lib.hid (laid_f (r := 1) (c := 16) zs (by decide))
  have hev0 : (laidM 1 16 zs).evs.length ≤ 16 := HL.out.evs.2
  have hsz : (laidM 1 16 zs).size 0 = 16 := HL.out.size 0
  clear hP HV HV1 HWZ HL
  generalize laidM 1 16 zs = M0 at *
  go_upto_region 10 with fail
  obtain ⟨i, hi16, hie⟩ : ∃ i : Nat, i < 16 ∧ i0.tmod 16 = i := ⟨(i0.tmod 16).toNat, by
    have := hi.1
    rw [Int.tmod_eq_emod_of_nonneg this]
    omega, by
    have := hi.1
    rw [Int.tmod_eq_emod_of_nonneg this]
    omega⟩
  obtain ⟨k, hk16, hke⟩ : ∃ k : Nat, k < 16 ∧ k0.tmod 16 = k := ⟨(k0.tmod 16).toNat, by
    have := hk.1
    rw [Int.tmod_eq_emod_of_nonneg this]
    omega, by
    have := hk.1
    rw [Int.tmod_eq_emod_of_nonneg this]
    omega⟩
  rw [hie, hke]
  clear hie hke hi hk
  have hiw : Word (i : Int) := ⟨by omega, by omega⟩
  have hkw : Word (k : Int) := ⟨by omega, by omega⟩
  -- Put, Put
  have hmk : mk true = 18446744073709551615 := rfl
  go_wp2_with fail
  refine (cell7_any a _).mono ?_
  rintro e wC ⟨rfl, hbC⟩
  have K1 := Lib.hid (one_put keeps_true 0 (i : Int) hiw (cellL a) (cellL_len a) (cellL_words a) true (HX0.out.below keeps_true hbC) (by omega))
  rw [hmk, hsz] at K1
  have hev1 : ((M0.putIf true 0 (i : Int) (cellL a) 16).noted (writesL 0 16)).evs.length ≤ 100 := by rw [noted_len, Mm.putIf_evs, writesL_len]; omega
  have hsz1 : ((M0.putIf true 0 (i : Int) (cellL a) 16).noted (writesL 0 16)).size 0 = 16 := by rw [Mm.noted_size, Mm.putIf_size]; exact hsz
  have hrd1 : ((M0.putIf true 0 (i : Int) (cellL a) 16).noted (writesL 0 16)).read 0 (i : Int) = cellL a := by
    rw [Mm.noted_read, Mm.putIf_read true (cellL a) hiw.1 (by omega), if_pos ⟨rfl, by omega, rfl, rfl⟩]
  clear hbC HX0 hev0 hsz
  generalize (M0.putIf true 0 (i : Int) (cellL a) 16).noted (writesL 0 16) = M1 at *
  go_wp2_with fail
  refine K1.out.mono ?_
  rintro e wD ⟨rfl, hD⟩
  have HX1 := Lib.hid hD
  clear hD K1
  go_wp2_with fail
  refine (cell7_any b _).mono ?_
  rintro e wE ⟨rfl, hbE⟩
  have K2 := Lib.hid (one_put keeps_true 0 (k : Int) hkw (cellL b) (cellL_len b) (cellL_words b) true (HX1.out.below keeps_true hbE) (by omega))
  rw [hmk, hsz1] at K2
  have hev2 : ((M1.putIf true 0 (k : Int) (cellL b) 16).noted (writesL 0 16)).evs.length ≤ 200 := by rw [noted_len, Mm.putIf_evs, writesL_len]; omega
  have hsz2 : ((M1.putIf true 0 (k : Int) (cellL b) 16).noted (writesL 0 16)).size 0 = 16 := by rw [Mm.noted_size, Mm.putIf_size]; exact hsz1
  have hrd2 : ((M1.putIf true 0 (k : Int) (cellL b) 16).noted (writesL 0 16)).read 0 (k : Int) = cellL b := by
    rw [Mm.noted_read, Mm.putIf_read true (cellL b) hkw.1 (by omega), if_pos ⟨rfl, by omega, rfl, rfl⟩]
  have hrd3 : i ≠ k → ((M1.putIf true 0 (k : Int) (cellL b) 16).noted (writesL 0 16)).read 0 (i : Int) = cellL a := fun h => by
    rw [Mm.noted_read, Mm.putIf_read true (cellL b) hkw.1 (by omega), if_neg (by rintro ⟨_, _, _, h2⟩; omega)]
    exact hrd1
  clear hbE HX1 hev1 hsz1 hrd1
  generalize (M1.putIf true 0 (k : Int) (cellL b) 16).noted (writesL 0 16) = M2 at *
  go_wp2_with fail
  refine K2.out.mono ?_
  rintro e wF ⟨rfl, hF⟩
  -- Get
  have K3 := Lib.hid (one_get keeps_true 0 (k : Int) hkw hF (by omega))
  rw [hrd2] at K3
  clear hF K2
  go_wp2_with fail
  refine K3.out.mono ?_
  rintro e wG ⟨rfl, hG⟩
  have hev3 : (M2.noted (readsL 0 (M2.size 0))).evs.length ≤ 300 := by rw [noted_len, readsL_len]; omega
  have hsz3 : (M2.noted (readsL 0 (M2.size 0))).size 0 = 16 := hsz2
  have hrd4 : (M2.noted (readsL 0 (M2.size 0))).read 0 (k : Int) = cellL b := hrd2
  have hrd5 : i ≠ k → (M2.noted (readsL 0 (M2.size 0))).read 0 (i : Int) = cellL a := hrd3
  clear K3 hev2 hsz2 hrd2 hrd3
  generalize M2.noted (readsL 0 (M2.size 0)) = M3 at *
  have Qa := eq_cell_run (cellL a) (cellL_len a)
  have Qb := eq_cell_run (cellL b) (cellL_len b)
  have HX3 := Lib.hid hG
  clear hG
  go_wp2_with fail
  refine (cell7_any b _).mono ?_
  rintro e wH ⟨rfl, hbH⟩
  have HX4 := Lib.hid (HX3.out.below keeps_true hbH)
  clear hbH HX3
  by_cases hik : i = k
  focus
    have hki := hik.symm
    subst hki
    have dn : ((k : Int) != (k : Int)) = false := by simp
    clear hrd5
    go_upto_region 14 with fail
    have hrd6 := hrd4
    have hev6 := hev3
    have hsz6 := hsz3
    have HX6 := HX4
    clear HX4 hrd4 hev3 hsz3
    generalize M3 = M6 at *
  rotate_left
  focus
    have dn : ((i : Int) != (k : Int)) = true := by rw [bne_iff_ne]; omega
    have K4 := Lib.hid (one_get keeps_true 0 (i : Int) hiw HX4.out (by omega))
    rw [hrd5 hik] at K4
    clear HX4 hrd5
    go_wp2_with fail
    refine K4.out.mono ?_
    rintro e wI ⟨rfl, hI⟩
    go_wp2_with fail
    refine (cell7_any a _).mono ?_
    rintro e wJ ⟨rfl, hbJ⟩
    have HX6 := Lib.hid (hI.below keeps_true hbJ)
    have hev6 : (M3.noted (readsL 0 (M3.size 0))).evs.length ≤ 400 := by rw [noted_len, readsL_len]; omega
    have hsz6 : (M3.noted (readsL 0 (M3.size 0))).size 0 = 16 := hsz3
    have hrd6 : (M3.noted (readsL 0 (M3.size 0))).read 0 (k : Int) = cellL b := hrd4
    clear hbJ hI K4 hev3 hsz3 hrd4
    generalize M3.noted (readsL 0 (M3.size 0)) = M6 at *
    go_upto_region 14 with fail
  rotate_left
  all_goals
    have hkey6 : keyAt M6 0 0 b k = true := by
      unfold keyAt
      rw [hrd6]
      exact cellL_key hb
    have hok6 := HX6.out.ok
    obtain ⟨g0, g1', g2', g3', g4'⟩ := found_first hk16 hkey6
    have K7 := Lib.hid (one_find keeps_true 0 0 b ⟨by decide, by decide⟩ hb HX6.out (by omega))
    rw [hsz6, g0, g4', hmk] at K7
    have hev7 : (M6.noted (readsL 0 16)).evs.length ≤ 500 := by rw [noted_len, readsL_len]; omega
    have hpk : ((placeK M6 0 0 b 16 : Nat) : Int) ≤ (k : Int) := by omega
    have HEQ : Hid (((placeK M6 0 0 b 16 : Int) == (k : Int)) = !foundK M6 0 0 b k) := Lib.hid (by
      cases hf : foundK M6 0 0 b k with
      | false => rw [g2'.2 hf]; simp
      | true =>
        have : ¬ placeK M6 0 0 b 16 = k := fun e => by rw [g2'.1 e] at hf; cases hf
        simp only [Bool.not_true, beq_eq_false_iff_ne, ne_eq]
        omega)
    have hoc := (Mm.read_ok hok6 0 (placeK M6 0 0 b 16 : Int)).1
    have HC0 : Hid ((cw (M6.read 0 (placeK M6 0 0 b 16 : Int)))[0]? = some (.int .u64 b)) := Lib.hid (by
      have h1 := g3'
      unfold keyAt keyB at h1
      simp only [Bool.and_eq_true, decide_eq_true_eq] at h1
      have h2 := h1.2
      rw [show (0 : Int).toNat = 0 from rfl] at h2
      rw [cw_get (by omega)]
      rw [List.getElem?_eq_getElem (by omega)] at h2
      injection h2 with h2
      rw [h2])
    have hz : (cw (M6.read 0 (placeK M6 0 0 b 16 : Int))).size = 12 := by rw [cw_size, hoc]
    have HI : Hid ((Try.prog.info? 44).map (·.size) = some (cw (M6.read 0 (placeK M6 0 0 b 16 : Int))).size) := Lib.hid (by rw [hz]; kernel_rfl)
    have HO : Hid ((cw (M6.read 0 (placeK M6 0 0 b 16 : Int))).all (·.oneCell') = true) := Lib.hid (cw_one _)
    have HOK := Lib.hid hok6
    have HRE : Hid (∀ j : Nat, ∃ x, (cw (M6.read 0 (j : Int)))[0]? = some (.int .u64 x) ∧ keyAt M6 0 0 b j = (x == b)) := Lib.hid fun j => by
      have hl := (Mm.read_ok hok6 0 (j : Int)).1
      obtain ⟨x, h1, h2⟩ := keyB_in hl b 0 (by omega)
      exact ⟨x, h1, h2⟩
    clear g0 g1' g2' g3' g4' hkey6 hoc hok6 hrd6 hmk
    generalize cw (M6.read 0 (placeK M6 0 0 b 16 : Int)) = oc at *
    generalize placeK M6 0 0 b 16 = t at *
    have HX7 : Hid (∀ w', OneX 108 w1 w' p (M6.noted (readsL 0 16)) (fun _ => False) (fun _ => True) → True) := Lib.hid fun _ _ => trivial
    clear HX7 HX6 hev6
    go_wp2_with fail
    refine K7.out.mono ?_
    rintro e wK ⟨rfl, hK⟩
    obtain ⟨g, hg⟩ : ∃ g, wK.heap.size = g := ⟨_, rfl⟩
    have hbx := hK.box keeps_true z12 44
    have hfl := hK.fill keeps_true z12 oc 44
    rw [hg] at hbx hfl
    have HBX := Lib.hid hbx
    have HFL := Lib.hid hfl
    clear hbx hfl hK K7
    go_upto_region 15 with (first
      | (refine wpList_store_row rfl 44 (.tmp 16) (.tmp 77) rfl g oc rfl rfl 44 _ HBX.out.x.2 HI.out (by rw [hz]; rfl) HO.out ?_)
      | fail)
    refine at_world (fun w' => OneX 108 w1 w' p (M6.noted (readsL 0 16)) (fun i => False ∨ i = g) (fun w' => True ∧ Blk w' g oc 44)) HFL.out ?_
    intro wL hL
    have HK : Hid (Keeps (fun i => False ∨ i = g) (fun w' => True ∧ Blk w' g oc 44)) := Lib.hid (keeps_and keeps_true (keeps_blk _ _ _))
    have HXL : Hid (∃ es : List Ev, es.length ≤ 600 ∧ OneX 108 w1 wL p (M6.noted es) (fun i => False ∨ i = g) (fun w' => True ∧ Blk w' g oc 44)) := Lib.hid ⟨_, by rw [readsL_len]; omega, hL⟩
    have hev8 : M6.evs.length ≤ 500 := by rw [noted_len] at hev7; omega
    clear hL HFL HBX hg hev7 HI HO
    go_wp2_with fail
    go_loopw [18, 19] (fun ah jv wr => ∃ j : Nat, j ≤ k ∧ jv = .int .u64 (j : Int) ∧ ah = .bool (foundK M6 0 0 b j) ∧ Hid (∃ es : List Ev, es.length ≤ 600 + j ∧ OneX 108 w1 wr p (M6.noted es) (fun i => False ∨ i = g) (fun w' => True ∧ Blk w' g oc 44))) (fun _ jv _ => k - (intOf jv).toNat)
    case atStart => exact ⟨0, by omega, rfl, rfl, HXL⟩
    case round =>
      obtain ⟨j, hj, rfl, rfl, HX⟩ := hrel
      obtain ⟨es, hes, hX⟩ := HX.out
      have HXr := Lib.hid hX
      clear hX
      by_cases hlt : j < k
      · have hwj : IntKind.i64.wrap (j : Int) = (j : Int) := by rw [IntKind.wrap_i64]; omega
        have hhas : M6.has 0 (j : Int) = true := Mm.has_lt (by omega)
        have hlo : (M6.noted es).look 0 (j : Int) false = M6.noted (es ++ [((0 : Int), (j : Int), false)]) := by
          rw [Mm.look_noted (by rw [Mm.noted_has]; exact hhas), Mm.noted_noted]
        have K8 := Lib.hid (one_read HK.out 0 (j : Int) HXr.out (by rw [noted_len]; omega))
        rw [hlo, Mm.noted_read] at K8
        have hes2 : (es ++ [((0 : Int), (j : Int), false)]).length ≤ 600 + (j + 1) := by simp; omega
        have hrl := (Mm.read_ok HOK.out 0 (j : Int)).1
        obtain ⟨x, hx1, hx2⟩ := HRE.out j
        have HST : Hid (foundK M6 0 0 b (j + 1) = (foundK M6 0 0 b j || (x == b))) := Lib.hid (by rw [foundK_succ, hx2])
        have hz1 : (cw (M6.read 0 (j : Int))).size = 12 := by rw [cw_size, hrl]
        have HI1 : Hid ((Try.prog.info? 44).map (·.size) = some (cw (M6.read 0 (j : Int))).size) := Lib.hid (by rw [hz1]; kernel_rfl)
        have HO1 : Hid ((cw (M6.read 0 (j : Int))).all (·.oneCell') = true) := Lib.hid (cw_one _)
        clear hhas hlo hrl hx2 HXr
        generalize cw (M6.read 0 (j : Int)) = rc at *
        generalize es ++ [((0 : Int), (j : Int), false)] = es2 at *
        go_wp2_with fail
        refine K8.out.mono ?_
        rintro e wM ⟨rfl, hM⟩
        obtain ⟨Bc, hBc⟩ : ∃ g, wM.heap.size = g := ⟨_, rfl⟩
        have hbx := hM.box HK.out z12 44
        have hfl := hM.fill HK.out z12 rc 44
        rw [hBc] at hbx hfl
        have HBX := Lib.hid hbx
        have HFL := Lib.hid hfl
        clear hbx hfl hM K8
        go_upto_region 20 with (first
          | (refine wpList_store_row rfl 44 (.tmp 20) (.tmp 87) rfl Bc rc rfl rfl 44 _ HBX.out.x.2 HI1.out (by rw [hz1]; rfl) HO1.out ?_)
          | fail)
        refine at_world (fun w' => OneX 108 w1 w' p (M6.noted es2) (fun i => (False ∨ i = g) ∨ i = Bc) (fun w' => (True ∧ Blk w' g oc 44) ∧ Blk w' Bc rc 44)) HFL.out ?_
        intro wN hN
        have c1 : wN.cell? ⟨Bc, 0, none⟩ = some (.int .u64 x) := by rw [hN.x.2.cell]; exact hx1
        have HXN := Lib.hid (hN.less (E := fun i => False ∨ i = g) (Y := fun w' => True ∧ Blk w' g oc 44) (fun _ h => .inl h) (fun h => h.1))
        clear hN HBX HFL hBc hx1
        cases hfj : foundK M6 0 0 b j
        · rw [hfj] at HST
          cases hxx : (x == b)
          · rw [hxx] at HST
            go_wp2
            go_roundw
            case rel => exact ⟨j + 1, by omega, by go_num, by rw [HST.out]; rfl, Lib.hid ⟨es2, hes2, HXN.out⟩⟩
            case measure => simp [intOf]; omega
          · rw [hxx] at HST
            go_wp2
            go_roundw
            case rel => exact ⟨j + 1, by omega, by go_num, by rw [HST.out]; rfl, Lib.hid ⟨es2, hes2, HXN.out⟩⟩
            case measure => simp [intOf]; omega
        · rw [hfj] at HST
          go_wp2
          go_roundw
          case rel => exact ⟨j + 1, by omega, by go_num, by rw [HST.out]; rfl, Lib.hid ⟨es2, hes2, HXN.out⟩⟩
          case measure => simp [intOf]; omega
      · obtain rfl : j = k := by omega
        have c2 : wr.cell? ⟨g, 0, none⟩ = some (.int .u64 b) := by rw [HXr.out.x.2.cell]; exact HC0.out
        have HF : Hid (Below w.heap.size w wr) := Lib.hid (HB1.out.trans (HXr.out.old.mono HB1.out.size))
        clear HXr HC0
        cases hf : foundK M6 0 0 b j
        · rw [hf] at HEQ
          have he := HEQ.out
          simp only [Bool.not_false] at he
          go_wp2
          go_ret
          exact ⟨by first | rfl | simp, HF.out⟩
        · rw [hf] at HEQ
          have he := HEQ.out
          simp only [Bool.not_true] at he
          go_wp2
          go_ret
          exact ⟨by first | rfl | simp, HF.out⟩
end Go.Proofs.Ytngpaibppdehdaa
