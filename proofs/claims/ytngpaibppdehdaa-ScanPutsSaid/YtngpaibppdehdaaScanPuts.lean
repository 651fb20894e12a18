/-
  The walk of shellgamelaw7.ScanPuts.
-/
import Derived.Test.YtngpaibppdehdaaPutsL
namespace Go.Proofs.Ytngpaibppdehdaa
open Go Go.RowKit Go.Sg

set_option maxHeartbeats 4000000 in
set_option maxRecDepth 100000 in
theorem ScanPuts_walk (v : Value) (zs : List Int) (at' n : Int) (put : Bool) (w : World) (hv : SlI .u64 w v zs) (hat : Word at') (_hn : Word n) :
    Calls Try.prog 19 #[v, .int .u64 at', .int .u64 n, .bool put] w fun e w' => e = .returned (.bool true) ∧ Below w.heap.size w w' := by
  have HWZ := Lib.hid (slI_words' hv)
  have HV := Lib.hid (Sl1.of_SlI hv)
  have hlen : zs.length ≤ maxLen := by have := HV.out.len_le; rwa [List.length_map] at this
  obtain ⟨va, vc, rfl⟩ : ∃ a c, v = .slice a zs.length c := by have := HV.out.len; rwa [List.length_map] at this
  unfold maxLen at hlen
  clear hv
  go_enter Try.func19, Try.ntmps19
  go_wp2_with fail
  refine (shown7 w).mono ?_
  rintro e w1 ⟨rfl, hb1⟩
  have HB1 := Lib.hid hb1
  have HV1 := Lib.hid (HV.out.below hb1)
  clear hb1
  by_cases h40 : 40 < zs.length
  · have d : decide ((40 : Int) < (zs.length : Int)) = true := decide_eq_true (by omega)
    go_wp2
    go_ret
    exact ⟨rfl, HB1.out⟩
  have d : decide ((40 : Int) < (zs.length : Int)) = false := decide_eq_false (by omega)
  go_wp2_with fail
  refine (laid7_any 1 20 (by decide) (by decide) (by decide) (by decide) _ zs HWZ.out _ HV1.out).mono ?_
  rintro e w2 ⟨p, q, rfl, hP⟩
  have HX0 := Lib.hid hP.left
  have HL := Lib.hid (laid_f (r := 1) (c := 20) zs (by decide))
  have hev0 : (laidM 1 20 zs).evs.length ≤ 20 := HL.out.evs.2
  have hsz : (laidM 1 20 zs).size 0 = 20 := HL.out.size 0
  clear hP HV HV1 HWZ HL
  generalize laidM 1 20 zs = M0 at *
  have HOK := Lib.hid HX0.out.ok
  obtain ⟨i0, hi0, hz0, hz1, hz2⟩ := info_parts info_cell
  have HI := Lib.hid hi0
  have HZ := Lib.hid hz0
  have HS := Lib.hid hz1
  have HY := Lib.hid hz2
  clear hi0 hz0 hz1 hz2
  have HXS : Hid (∃ es : List Ev, es.length ≤ 0 ∧ OneX 108 w1 w2 p (M0.noted es) (fun i => (Value.slice none 0 0).ownBlock = some i) (fun w' => w'.ownsRow w1.heap.size 44 12 (.slice none 0 0) 0 (wasV M0 0))) := Lib.hid ⟨[], by simp, by
    rw [Mm.noted_nil]
    exact HX0.out.grow (MFrame.refl _ _) (fun k hk => by simp [Value.ownBlock] at hk) (World.ownsRow_nil _ _ _ _)⟩
  clear HX0
  go_wp2_with fail
  go_loopw [12, 13] (fun sv i wr => ∃ k : Nat, k ≤ 20 ∧ i = .int .i64 k ∧ Hid (∃ es : List Ev, es.length ≤ k ∧ OneX 108 w1 wr p (M0.noted es) (fun i => sv.ownBlock = some i) (fun w' => w'.ownsRow w1.heap.size 44 12 sv k (wasV M0 k)))) (fun _ i _ => 20 - (intOf i).toNat)
  case atStart => exact ⟨0, by omega, rfl, HXS⟩
  case round =>
    obtain ⟨k, hk, rfl, HX⟩ := hrel
    obtain ⟨es, hes, hX⟩ := HX.out
    have HXr := Lib.hid hX
    clear hX
    by_cases hlt : k < 20
    · have hd : decide ((k : Int) < 20) = true := decide_eq_true (by omega)
      have hhas : M0.has 0 (k : Int) = true := Mm.has_lt (by omega)
      have hlo : (M0.noted es).look 0 (k : Int) false = M0.noted (es ++ [((0 : Int), (k : Int), false)]) := by
        rw [Mm.look_noted (by rw [Mm.noted_has]; exact hhas), Mm.noted_noted]
      have K1 := Lib.hid (one_read (keeps_own _ _ _ _ _ _) 0 (k : Int) HXr.out (by rw [noted_len]; omega))
      rw [hlo, Mm.noted_read, cw_eq] at K1
      have hes2 : (es ++ [((0 : Int), (k : Int), false)]).length ≤ k + 1 := by simp; omega
      have hrl := (Mm.read_ok HOK.out 0 (k : Int)).1
      have HWS := Lib.hid (wasV_succ M0 k)
      have hwl : (wv (M0.read 0 (k : Int))).length = 12 := by rw [wv_len, hrl]
      have HWO := Lib.hid (wv_one (M0.read 0 (k : Int)))
      clear hhas hlo hrl HXr
      generalize wv (M0.read 0 (k : Int)) = rc at *
      generalize es ++ [((0 : Int), (k : Int), false)] = es2 at *
      go_wp2_with fail
      refine K1.out.mono ?_
      rintro e wA ⟨rfl, hA⟩
      have HA := Lib.hid hA
      clear hA K1
      have hsz1 := HA.out.old.size
      obtain ⟨a0, a1, a2, a3, a4, a5, a6, a7, a8, a9, a10, a11, rfl⟩ := twelve hwl
      go_wp2_with (first
        | (at_builtin; go_loud (refine wpList_append_own_at _ rfl (.tmp 39) (.tmp 43) 86 rfl w1.heap.size 44 i0 (.agg z12) 12 96 Try.underlying86 HI.out HZ.out HS.out HY.out rfl (by decide) _ k (wasV M0 k) rfl (HA.out.x.alloc _) ⟨wA.heap.size, 0, none⟩ 1 1 [a0, a1, a2, a3, a4, a5, a6, a7, a8, a9, a10, a11] rfl rfl (row_cells _ _ _) HWO.out (by unfold maxLen; omega) (by omega) (by simp; omega) ?_))
        | fail)
      intro v' w4 hown hgrow _ hat
      have HXN : Hid (OneX 108 w1 w4 p (M0.noted es2) (fun i => v'.ownBlock = some i) (fun w' => w'.ownsRow w1.heap.size 44 12 v' (k + 1) (wasV M0 (k + 1)))) := Lib.hid (by
        have hsz2 : wA.heap.size + 1 ≤ w4.heap.size := by have := hgrow.size; rw [World.size_alloc] at this; exact this
        refine HA.out.grow ⟨hgrow.os, hgrow.tape, hgrow.output, by omega, fun k' hk' hn => ?_⟩ (fun k' hk' => ?_) (by rw [HWS.out]; exact hown)
        · exact (hgrow.block k' (by rw [World.size_alloc]; omega) (fun e => hn ⟨e.symm, owns_ge HA.out.x k' e.symm⟩)).trans (Below.heap_alloc wA _ k' hk')
        · have hlt := (hown.lt k' hk').2
          refine ⟨?_, hlt⟩
          rcases hat with h1 | h1
          · exact .inl (h1 ▸ hk')
          · rw [h1] at hk'
            injection hk' with hk'
            exact .inr (by omega))
      clear hown hgrow hat HA
      go_wp2
      go_roundw
      case rel => exact ⟨k + 1, by omega, by go_num, Lib.hid ⟨es2, hes2, HXN.out⟩⟩
      case measure => simp [intOf]; omega
    · obtain rfl : k = 20 := by omega
      have hd : decide (((20 : Nat) : Int) < 20) = false := by decide
      have hev1 : (M0.noted es).evs.length ≤ 40 := by rw [noted_len]; omega
      have hsz1 : (M0.noted es).size 0 = 20 := hsz
      have HRD : Hid (∀ j : Nat, M0.read 0 (j : Int) = (M0.noted es).read 0 (j : Int)) := Lib.hid fun j => rfl
      obtain ⟨g, cap, rfl, hnc, hcm, _⟩ := own_range HOK.out HXr.out.x (show 0 < 20 by omega)
      generalize M0.noted es = M1 at *
      obtain ⟨mb, hmb⟩ : ∃ mb, mk put = mb := ⟨_, rfl⟩
      obtain ⟨pb, HMB, HPB⟩ : ∃ pb, Hid (mk pb = mb) ∧ Hid (put = pb) := ⟨_, Lib.hid hmb, Lib.hid rfl⟩
      go_upto_region 13 with fail
      cases put
      all_goals
        first
          | (obtain rfl : mb = 18446744073709551615 := hmb.symm)
          | (obtain rfl : mb = 0 := hmb.symm)
        clear hmb hes hlt hd HX
        have KM := Lib.hid (one_many HXr.out)
        go_wp2_with fail
        refine KM.out.mono ?_
        rintro e wS ⟨rfl, rfl⟩
        go_wp2_with fail
        refine (cell7_any n _).mono ?_
        rintro e wC ⟨rfl, hbC⟩
        have HK0 := Lib.hid (keeps_own w1.heap.size 44 12 (.slice (some ⟨g, 0, none⟩) 20 cap) 20 (wasV M0 20))
        have K2 := Lib.hid (one_put HK0.out 0 at' hat (cellL n) (cellL_len n) (cellL_words n) pb (HXr.out.below HK0.out hbC) (by omega))
        rw [HMB.out, hsz1] at K2
        have hev2 : ((M1.putIf pb 0 at' (cellL n) 20).noted (writesL 0 20)).evs.length ≤ 100 := by rw [noted_len, Mm.putIf_evs, writesL_len]; omega
        have hsz2 : ((M1.putIf pb 0 at' (cellL n) 20).noted (writesL 0 20)).size 0 = 20 := by rw [Mm.noted_size, Mm.putIf_size]; exact hsz1
        have HR2 : Hid (∀ j : Nat, j < 20 → ((M1.putIf pb 0 at' (cellL n) 20).noted (writesL 0 20)).read 0 (j : Int) = if pb = true ∧ (j : Int) = at' then cellL n else M0.read 0 (j : Int)) := Lib.hid fun j hj => by
          rw [Mm.noted_read, Mm.putIf_read pb (cellL n) hat.1 (by omega), HRD.out]
          by_cases e : pb = true ∧ (j : Int) = at'
          · rw [if_pos e, if_pos ⟨e.1, by have := e.2; omega, rfl, e.2.symm⟩]
          · rw [if_neg e, if_neg (fun h => e ⟨h.1, h.2.2.2.symm⟩)]
        have hdr : ((M1.putIf pb 0 at' (cellL n) 20).noted (writesL 0 20)).evs.drop M1.evs.length = writesL 0 20 := by rw [Mm.noted_evs, Mm.putIf_evs, List.drop_left]
        have hge : M1.evs.length ≤ ((M1.putIf pb 0 at' (cellL n) 20).noted (writesL 0 20)).evs.length := by rw [noted_len, Mm.putIf_evs]; omega
        clear HXr KM hbC
        generalize (M1.putIf pb 0 at' (cellL n) 20).noted (writesL 0 20) = M2 at *
        go_wp2_with fail
        refine K2.out.mono ?_
        rintro e wD ⟨rfl, hD⟩
        have K3 := Lib.hid (one_since HK0.out (M1.evs.length : Int) hD (by omega) M1.evs.length (by omega))
        rw [hdr] at K3
        clear K2 hD hdr hge
        go_wp2_with fail
        refine K3.out.mono ?_
        rintro e wE ⟨v2, rfl, hE, _, _⟩
        have HKE := Lib.hid (keeps_and HK0.out (keeps_slE v2 (writesL 0 20)))
        have hvE := hE.x.2
        obtain ⟨a2, c2, rfl⟩ := hvE.get
        rw [show (writesL 0 20).length = 40 from writesL_len 0 20] at *
        have HXE : Hid (∃ es : List Ev, es.length ≤ 0 ∧ OneX 108 w1 wE p (M2.noted es) (fun i => (Value.slice (some ⟨g, 0, none⟩) 20 cap).ownBlock = some i ∨ OwnE (.slice a2 40 c2) (writesL 0 20) i) (fun w' => w'.ownsRow w1.heap.size 44 12 (.slice (some ⟨g, 0, none⟩) 20 cap) 20 (wasV M0 20) ∧ SlE w' (.slice a2 40 c2) (writesL 0 20))) := Lib.hid ⟨[], by simp, by rw [Mm.noted_nil]; exact hE⟩
        clear K3 hE hvE HK0
        generalize hD2 : (fun i => (Value.slice (some ⟨g, 0, none⟩) 20 cap).ownBlock = some i ∨ OwnE (.slice a2 40 c2) (writesL 0 20) i) = D2 at *
        have hnc20 : (20 : Nat) ≤ cap := hnc
        go_wp2_with fail
        go_loopw [17] (fun i wr => ∃ k : Nat, k ≤ 20 ∧ i = .int .i64 k ∧ Hid (∃ es : List Ev, es.length ≤ k * 20 ∧ OneX 108 w1 wr p (M2.noted es) D2 (fun w' => w'.ownsRow w1.heap.size 44 12 (.slice (some ⟨g, 0, none⟩) 20 cap) 20 (wasV M0 20) ∧ SlE w' (.slice a2 40 c2) (writesL 0 20)))) (fun i _ => 20 - (intOf i).toNat)
        case atStart => exact ⟨0, by omega, rfl, by simpa using HXE⟩
        case round =>
          obtain ⟨k, hk, rfl, HX⟩ := hrel
          obtain ⟨es, hes, hX⟩ := HX.out
          have HXr := Lib.hid hX
          clear hX
          by_cases hlt : k < 20
          · have hd : decide ((k : Int) < 20) = true := decide_eq_true (by omega)
            have hwk : IntKind.u64.wrap (k : Int) = (k : Int) := Go.Sg.wrap_small (by omega) (by omega)
            have i0' : (0 : Int) ≤ (k : Int) := by omega
            have i1' : (k : Int) < ((20 : Nat) : Int) := by omega
            have i2' : (k : Int) < 20 := by omega
            obtain ⟨g', cap', he, _, _, hrg⟩ := own_range HOK.out HXr.out.x.1 hlt
            simp only [Value.slice.injEq, Option.some.injEq, Addr.mk.injEq, and_true, true_and] at he
            obtain ⟨rfl, rfl⟩ := he
            have hrl := (Mm.read_ok HOK.out 0 (k : Int)).1
            have hwl : (wv (M0.read 0 (k : Int))).length = 12 := by rw [wv_len, hrl]
            have HI0 := Lib.hid (info_c12 _ hrl)
            have HIC : Hid ((Try.prog.info? 44).map (·.size) = some (wv (cellL n)).toArray.size) := Lib.hid (by rw [List.size_toArray]; exact info_c12 _ (cellL_len n))
            have HIR : Hid ((Try.prog.info? 44).map (·.size) = some (wv (M0.read 0 (k : Int))).toArray.size) := Lib.hid (by rw [List.size_toArray]; exact info_c12 _ hrl)
            have HOR := Lib.hid (all_oneCell_toArray (wv_one (M0.read 0 (k : Int))))
            have HOC := Lib.hid (all_oneCell_toArray (wv_one (cellL n)))
            have hcl : (wv (cellL n)).toArray.size = 12 := by rw [List.size_toArray, wv_len, cellL_len]
            have hzr : (wv (M0.read 0 (k : Int))).toArray.size = 12 := by rw [List.size_toArray, hwl]
            have HRG := Lib.hid hrg
            have HKR : Hid (Keeps D2 (fun w' => w'.ownsRow w1.heap.size 44 12 (.slice (some ⟨g, 0, none⟩) 20 cap) 20 (wasV M0 20) ∧ SlE w' (.slice a2 40 c2) (writesL 0 20))) := HKE
            have KG := Lib.hid (fun w' D X (hK : Keeps D X) (h' : OneX 108 w1 w' p (M2.noted es) D X) => one_get hK 0 (k : Int) ⟨by omega, by omega⟩ h' (by rw [noted_len]; omega))
            rw [Mm.noted_read, HR2.out k hlt, cw_eq, Mm.noted_noted, Mm.noted_size, hsz2] at KG
            have hes2 : (es ++ readsL 0 20).length ≤ (k + 1) * 20 := by rw [List.length_append, readsL_len]; omega
            have QR : ∀ w, (Op.equalIn 10000 44 (.agg (wv (M0.read 0 (k : Int))).toArray) (.agg (wv (M0.read 0 (k : Int))).toArray)).run Try.prog w = .ok true w := eq_cell_run _ hrl
            have QC : ∀ w, (Op.equalIn 10000 44 (.agg (wv (cellL n)).toArray) (.agg (wv (cellL n)).toArray)).run Try.prog w = .ok true w := eq_cell_run _ (cellL_len n)
            have KC := Lib.hid (fun w' => cell7_any n w')
            simp only [cw_eq] at KC
            have hbx := HXr.out.box HKR.out z12 44
            have hfl := HXr.out.fill HKR.out z12 (wv (M0.read 0 (k : Int))).toArray 44
            obtain ⟨Bc, hBc⟩ : ∃ b, wr.heap.size = b := ⟨_, rfl⟩
            have hBw : w1.heap.size ≤ Bc := by rw [← hBc]; exact HXr.out.old.size
            have HBD : Hid (∀ i, D2 i → i < Bc) := Lib.hid fun i hi => by rw [← hBc]; exact HXr.out.dlt i hi
            rw [hBc] at hbx hfl
            have HBX := Lib.hid hbx
            have HFL := Lib.hid hfl
            clear hbx hfl hrg hrl HXr
            have HWC : Hid (pb = true ∧ (k : Int) = at' → wv (if pb = true ∧ (k : Int) = at' then cellL n else M0.read 0 (k : Int)) = wv (cellL n)) := Lib.hid fun e => by rw [if_pos e]
            have HWN : Hid (¬ (pb = true ∧ (k : Int) = at') → wv (if pb = true ∧ (k : Int) = at' then cellL n else M0.read 0 (k : Int)) = wv (M0.read 0 (k : Int))) := Lib.hid fun e => by rw [if_neg e]
            generalize wv (if pb = true ∧ (k : Int) = at' then cellL n else M0.read 0 (k : Int)) = nl at *
            generalize wv (M0.read 0 (k : Int)) = rl at *
            generalize wv (cellL n) = cl at *
            generalize es ++ readsL 0 20 = es2 at *
            go_upto_region 22 with (first
              | (refine wpList_load_mid rfl 44 (.tmp 63) rfl g (k * 12) rfl rl _ HRG.out Try.underlying44 rfl HI0.out ?_)
              | (refine wpList_store_row rfl 44 (.tmp 18) (.tmp 64) rfl Bc rl.toArray rfl rfl 44 _ HBX.out.x.2 HIR.out (by rw [hzr]; rfl) HOR.out ?_)
              | fail)
            refine at_world (fun w' => OneX 108 w1 w' p (M2.noted es) (fun i => D2 i ∨ i = Bc) (fun w' => (w'.ownsRow w1.heap.size 44 12 (.slice (some ⟨g, 0, none⟩) 20 cap) 20 (wasV M0 20) ∧ SlE w' (.slice a2 40 c2) (writesL 0 20)) ∧ Blk w' Bc rl.toArray 44)) HFL.out ?_
            intro w3 h3
            have HX3 := Lib.hid h3
            clear h3 HFL HBX hBc
            have HK3 := Lib.hid (keeps_and HKR.out (keeps_blk Bc rl.toArray 44))
            have HSTO : Hid (∀ w', OneX 108 w1 w' p (M2.noted es) (fun i => D2 i ∨ i = Bc) (fun w' => (w'.ownsRow w1.heap.size 44 12 (.slice (some ⟨g, 0, none⟩) 20 cap) 20 (wasV M0 20) ∧ SlE w' (.slice a2 40 c2) (writesL 0 20)) ∧ Blk w' Bc rl.toArray 44) → OneX 108 w1 (w'.setRow Bc cl.toArray) p (M2.noted es) (fun i => D2 i ∨ i = Bc) (fun w' => (w'.ownsRow w1.heap.size 44 12 (.slice (some ⟨g, 0, none⟩) 20 cap) 20 (wasV M0 20) ∧ SlE w' (.slice a2 40 c2) (writesL 0 20)) ∧ Blk w' Bc cl.toArray 44)) := Lib.hid fun w' h =>
              h.turn (fun _ h => h) (mframe_setRow (MFrame.refl _ _) ⟨.inr rfl, hBw⟩ _) ⟨HKR.out _ _ (by simp [World.setRow]) (fun i hi => setRow_other _ _ _ _ (Nat.ne_of_lt (HBD.out i hi))) h.x.1, h.x.2.setRow _⟩
            have hcs : (pb = true ∧ (k : Int) = at') ∨ ¬ (pb = true ∧ (k : Int) = at') := Classical.em _
            rcases hcs with hyes | hnn
            case inl =>
              first
                | (exfalso; have := HPB.out.trans hyes.1; cases this; done)
                | (obtain ⟨hb, hat'⟩ := hyes
                   have hd2 : ((k : Int) == at') = true := by simp [hat']
                   rw [HWC.out ⟨hb, hat'⟩] at KG
                   clear hb HPB hat'
                   go_wp2_with fail
                   refine (KC.out _).mono ?_
                   rintro e w4 ⟨rfl, hb4⟩
                   have HX4 := Lib.hid (HX3.out.below HK3.out hb4)
                   clear hb4 HX3
                   go_upto_region 24 with (first
                     | (refine wpList_store_row rfl 44 (.tmp 18) (.tmp 73) rfl Bc cl.toArray rfl rfl 44 _ HX4.out.x.2 HIC.out (by rw [hzr, hcl]) HOC.out ?_)
                     | fail)
                   refine at_world (fun w' => OneX 108 w1 w' p (M2.noted es) (fun i => D2 i ∨ i = Bc) (fun w' => (w'.ownsRow w1.heap.size 44 12 (.slice (some ⟨g, 0, none⟩) 20 cap) 20 (wasV M0 20) ∧ SlE w' (.slice a2 40 c2) (writesL 0 20)) ∧ Blk w' Bc cl.toArray 44)) (HSTO.out _ HX4.out) ?_
                   intro w5 h5
                   have HX5 := Lib.hid h5
                   have HICC : Hid ((Try.prog.info? 44).map (·.size) = some cl.length) := HIC
                   clear h5 HX4
                   have HKc := Lib.hid (keeps_and HKR.out (keeps_blk Bc cl.toArray 44))
                   have HR : Hid (∀ w' M', OneX 108 w1 w' p M' (fun i => D2 i ∨ i = Bc) (fun w' => (w'.ownsRow w1.heap.size 44 12 (.slice (some ⟨g, 0, none⟩) 20 cap) 20 (wasV M0 20) ∧ SlE w' (.slice a2 40 c2) (writesL 0 20)) ∧ Blk w' Bc cl.toArray 44) → w'.rangeAt Bc 0 cl) := Lib.hid fun w' M' h => h.x.2.range
                   have hX6 := HX5.out.drew HKc.out
                   have hr6 := HR.out _ _ hX6
                   have U := Try.underlying44
                   have hic := HICC.out
                   go_upto_region 24 with fail
                   go_region_held3 (fun w' => w'.rangeAt Bc 0 cl) (first | assumption | exact HR.out _ _ (by assumption)) (first
                     | (go_at_call 50; refine (KG.out _ _ _ HKc.out hX6).mono ?_; rintro e w7 ⟨rfl, hX7⟩))
                   all_goals
                     have HX8 := Lib.hid (hX7.less (E := D2) (Y := fun w' => w'.ownsRow w1.heap.size 44 12 (.slice (some ⟨g, 0, none⟩) 20 cap) 20 (wasV M0 20) ∧ SlE w' (.slice a2 40 c2) (writesL 0 20)) (fun _ h => .inl h) (fun h => h.1))
                     clear hX7 hX6 hr6
                     go_wp2
                     go_roundw
                     case rel => exact ⟨k + 1, by omega, by go_num, Lib.hid ⟨es2, hes2, HX8.out⟩⟩
                     case measure => simp [intOf]; omega)
            case inr =>
              first
                | (have hd2 : ((k : Int) == at') = false := by simp only [beq_eq_false_iff_ne]; intro e; exact hnn ⟨HPB.out.symm, e⟩)
                | skip
              rw [HWN.out hnn] at KG
              have HX5 := HX3
              have HICC := HI0
              clear HPB hnn HX3
              have HKc := Lib.hid (keeps_and HKR.out (keeps_blk Bc rl.toArray 44))
              have HR : Hid (∀ w' M', OneX 108 w1 w' p M' (fun i => D2 i ∨ i = Bc) (fun w' => (w'.ownsRow w1.heap.size 44 12 (.slice (some ⟨g, 0, none⟩) 20 cap) 20 (wasV M0 20) ∧ SlE w' (.slice a2 40 c2) (writesL 0 20)) ∧ Blk w' Bc rl.toArray 44) → w'.rangeAt Bc 0 rl) := Lib.hid fun w' M' h => h.x.2.range
              have hX6 := HX5.out.drew HKc.out
              have hr6 := HR.out _ _ hX6
              have U := Try.underlying44
              have hic := HICC.out
              go_upto_region 24 with fail
              go_region_held3 (fun w' => w'.rangeAt Bc 0 rl) (first | assumption | exact HR.out _ _ (by assumption)) (first
                | (go_at_call 50; refine (KG.out _ _ _ HKc.out hX6).mono ?_; rintro e w7 ⟨rfl, hX7⟩))
              all_goals
                have HX8 := Lib.hid (hX7.less (E := D2) (Y := fun w' => w'.ownsRow w1.heap.size 44 12 (.slice (some ⟨g, 0, none⟩) 20 cap) 20 (wasV M0 20) ∧ SlE w' (.slice a2 40 c2) (writesL 0 20)) (fun _ h => .inl h) (fun h => h.1))
                clear hX7 hX6 hr6
                go_wp2
                go_roundw
                case rel => exact ⟨k + 1, by omega, by go_num, Lib.hid ⟨es2, hes2, HX8.out⟩⟩
                case measure => simp [intOf]; omega
          · obtain rfl : k = 20 := by omega
            have hd : decide (((20 : Nat) : Int) < 20) = false := by decide
            have HQ := Lib.hid (HXr.out.x.2)
            have HB2 : Hid (Below w.heap.size w wr) := Lib.hid (HB1.out.trans (HXr.out.old.mono HB1.out.size))
            clear HXr
            go_wp2_with fail
            refine (scanWrites_any 0 20 (by omega) _).mono ?_
            rintro e wF ⟨v5, rfl, hs5, hbF, _⟩
            have KE := Lib.hid (cls_one (w0 := wr) (sameE7_any _ _ _ _ _ (HQ.out.below hbF) hs5) hbF)
            rw [decide_eq_true rfl] at KE
            clear hs5 hbF HQ
            go_wp2_with fail
            refine KE.out.mono ?_
            rintro e wH ⟨rfl, hbH⟩
            have HBH := Lib.hid (HB2.out.trans (hbH.mono HB2.out.size))
            clear hbH KE
            go_wp2
            go_ret
            exact ⟨rfl, HBH.out⟩
end Go.Proofs.Ytngpaibppdehdaa
