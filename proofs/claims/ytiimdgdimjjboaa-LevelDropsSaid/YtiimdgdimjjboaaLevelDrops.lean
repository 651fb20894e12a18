/-
  The walk of the law LevelDrops: a block that was dropped is not there, and takes no place.
-/
import Derived.Test.YtiimdgdimjjboaaLvFill
import Derived.Test.YtiimdgdimjjboaaHbp
import Derived.BigQuiet
import Derived.Deep.DeepCutAuto
set_option linter.unusedVariables false
set_option linter.unusedSimpArgs false
set_option linter.unusedSectionVars false
set_option linter.unnecessarySimpa false
namespace Go.Sg
open Go Go.RowKit
theorem slI_nums {w : World} {v : Value} {xs : List Int} (h : SlI .i64 w v xs) : ∀ x ∈ xs, Num x := by
  rcases h with ⟨rfl, _⟩ | ⟨_, b, off, cap, _, _, _, _, _, h⟩
  · intro x hx; cases hx
  · exact fun x hx => i64_of (h x hx)
end Go.Sg
namespace Go.Proofs.Ytiimdgdimjjboaa
open Go Go.RowKit Go.Sg
set_option maxHeartbeats 8000000 in
set_option maxRecDepth 100000 in
theorem LevelDrops_walk (n turns : Int) (v : Value) (zs : List Int) (w : World) (hn : Num n) (htu : Num turns) (hv : SlI .i64 w v zs) :
    Calls Try.prog 12 #[.int .i64 n, .int .i64 turns, v] w fun e w' => e = .returned (.bool true) ∧ Below w.heap.size w w' := by
  have KS := Lib.hid (fun w' => lshown_any w')
  have KC := Lib.hid (fun w' => lconfig_any n hn w')
  have HZ64 := Lib.hid (slI_nums hv)
  have HV := Lib.hid (Sl1.of_SlI hv)
  obtain ⟨va, vc, rfl⟩ : ∃ a c, v = .slice a zs.length c := by have := HV.out.len; rwa [List.length_map] at this
  clear hv
  by_cases hL3 : 100 < zs.length
  · have d3 : decide ((100 : Int) < (zs.length : Int)) = true := decide_eq_true (by omega)
    have d3' : decide (100 < zs.length) = true := decide_eq_true hL3
    go_enter Try.func12, Try.ntmps12
    go_wp2_with fail
    refine (KS.out _).mono ?_
    rintro e w1 ⟨rfl, hb1⟩
    have HB1 := Lib.hid hb1
    clear hb1
    go_wp2
    go_ret
    exact ⟨rfl, HB1.out⟩
  have d3 : decide ((100 : Int) < (zs.length : Int)) = false := decide_eq_false (by omega)
  have d3' : decide (100 < zs.length) = false := decide_eq_false hL3
  have HC := Lib.hid (cfg_ok n)
  have KM := Lib.hid (fun w' => lmade_any (cfgL n) HC.out.ok HC.out.new HC.out.lev w')
  have HS0 := Lib.hid (drop_start HC.out)
  obtain ⟨b1, b1'⟩ := HC.out.b1
  obtain ⟨b3, b3'⟩ := HC.out.b3
  obtain ⟨c, hc⟩ : ∃ c, cfgL n = c := ⟨_, rfl⟩
  rw [hc] at HC KM HS0 KC b1 b1' b3 b3'
  clear hc
  go_enter Try.func12, Try.ntmps12
  go_wp2_with fail
  refine (KS.out _).mono ?_
  rintro e w1 ⟨rfl, hb1⟩
  have HB1 := Lib.hid hb1
  clear hb1 KS
  go_wp2_with fail
  refine (KC.out _).mono ?_
  rintro e w2 ⟨rfl, hb2⟩
  have HB2 : Hid (Below w.heap.size w w2) := Lib.hid (HB1.out.trans (hb2.mono HB1.out.size))
  clear hb2 KC
  obtain ⟨A, hA⟩ : ∃ A, w2.heap.size = A := ⟨_, rfl⟩
  have hbx : Blk (w2.alloc (.cells #[.int .i64 0, .int .i64 0, .int .i64 0] 55)) A #[.int .i64 0, .int .i64 0, .int .i64 0] 55 := by rw [← hA]; exact Blk.new w2 _ _
  have HBX := Lib.hid hbx
  have HI3 : Hid ((Try.prog.info? 55).map (·.size) = some (#[.int .i64 c.1, .int .i64 c.2.1, .int .i64 c.2.2] : Array Value).size) := Lib.hid (by kernel_rfl)
  have HW3 : Hid (Blk ((w2.alloc (.cells #[.int .i64 0, .int .i64 0, .int .i64 0] 55)).setRow A #[.int .i64 c.1, .int .i64 c.2.1, .int .i64 c.2.2]) A #[.int .i64 c.1, .int .i64 c.2.1, .int .i64 c.2.2] 55 ∧ Below w.heap.size w ((w2.alloc (.cells #[.int .i64 0, .int .i64 0, .int .i64 0] 55)).setRow A #[.int .i64 c.1, .int .i64 c.2.1, .int .i64 c.2.2])) :=
    Lib.hid ⟨HBX.out.setRow _, below_rowS (HB2.out.alloc HB2.out.size _) _ _ (by rw [← hA]; exact HB2.out.size)⟩
  clear hbx
  go_upto_region 5 with (first
    | (refine wpList_store_row rfl 55 (.tmp 8) (.tmp 32) rfl A #[.int .i64 c.1, .int .i64 c.2.1, .int .i64 c.2.2] rfl rfl 55 _ HBX.out HI3.out (by rfl) (by simp [Value.oneCell']) ?_)
    | fail)
  generalize (w2.alloc (.cells #[.int .i64 0, .int .i64 0, .int .i64 0] 55)).setRow A #[.int .i64 c.1, .int .i64 c.2.1, .int .i64 c.2.2] = w3 at *
  have HAWA := Lib.hid HW3.out.1.lt
  have HB3 := Lib.hid HW3.out.2
  have HCF : Hid (∀ w', Below w3.heap.size w3 w' → w'.cell? ⟨A, 0, none⟩ = some (.int .i64 c.1) ∧ w'.cell? ⟨A, 1, none⟩ = some (.int .i64 c.2.1) ∧ w'.cell? ⟨A, 2, none⟩ = some (.int .i64 c.2.2) ∧ Below w.heap.size w w') := Lib.hid fun w' hb => ⟨(HW3.out.1.below hb HAWA.out).cell 0, (HW3.out.1.below hb HAWA.out).cell 1, (HW3.out.1.below hb HAWA.out).cell 2, HW3.out.2.trans (hb.mono HW3.out.2.size)⟩
  clear hA HBX HI3 HB2 HW3 HAWA HB1
  have HIL := Lib.hid (info_lcL c)
  obtain ⟨a0, a1, a2, -⟩ := HCF.out _ (Below.refl _ _)
  go_wp2_with fail
  refine (KM.out _).mono ?_
  rintro e w4 ⟨p, q, ib, rfl, h4⟩
  have H4 := Lib.hid h4
  clear a0 a1 a2 KM h4
  obtain ⟨r, hr⟩ : ∃ r : Nat, pickD turns 3 = r := ⟨(pickD turns 3).toNat, by have := (pickD_bd (c := turns) (n := 3) (by omega)).1; omega⟩
  have br := pickD_bd (c := turns) (n := 3) (by omega)
  have KT := Lib.hid (fun w' => lpick_any turns 3 htu (by omega) (by omega) w')
  rw [hr] at br KT
  clear hr
  obtain ⟨N, hN⟩ : ∃ N : Nat, c.2.2 = N := ⟨c.2.2.toNat, by omega⟩
  have HN := Lib.hid hN
  rw [hN] at HCF b3 b3'
  clear hN
  obtain ⟨i0, hi, hz0, hz1, hz2⟩ := info_parts info_int
  have HI := Lib.hid hi
  have HZ := Lib.hid hz0
  have HS := Lib.hid hz1
  have HY := Lib.hid hz2
  clear hi hz0 hz1 hz2
  have KA := Lib.hid (fun (D : Nat → Prop) (X : World → Prop) (hK : Keeps D X) (w' : World) (op id at' fr lf : Int) (d : List Int) (hd : d.length = 8 ∧ ∀ x ∈ d, Word x) (hid : Word id) (S : Ls) (k : Nat) (hk : k ≤ 1000) (hS : LsFit c 1 S k) (h : LvR w3 w' p q ib c 1 S D X) => fitAccess hK HC.out 1 (by decide) op id at' fr lf d hd hid q ib S k hk hS h)
  have w1r : IntKind.i64.wrap (1 + (r : Int)) = 1 + (r : Int) := by rw [IntKind.wrap_i64]; omega
  go_wp2_with fail
  go_loopw [11, 12, 13, 14, 15, 16, 17, 18, 19, 20, 21] (fun kv tv _ _ _ _ _ _ _ _ _ wr => ∃ kk t : Nat, t ≤ 1 + r ∧ kk ≤ 8 * t ∧ kv = .int .i64 kk ∧ tv = .int .i64 t ∧ Hid (∃ S m, m ≤ 24 * t ∧ DropI c S [] m ∧ LvR w3 wr p q ib c 1 S (fun _ => False) (fun _ => True))) (fun _ tv _ _ _ _ _ _ _ _ _ _ => 1 + r - (intOf tv).toNat)
  case atStart => exact ⟨0, 0, by omega, by omega, rfl, rfl, Lib.hid ⟨_, 0, by omega, HS0.out, H4.out⟩⟩
  case round =>
    obtain ⟨kk, t, ht, hkk, rfl, rfl, HR⟩ := hrel
    by_cases hlt : t < 1 + r
    · have g1 : decide ((t : Int) < 1 + (r : Int)) = true := decide_eq_true (by omega)
      obtain ⟨S, m, hm, hI, hL⟩ := HR.out
      have HDI := Lib.hid hI
      have HL := Lib.hid hL
      clear hI hL HR
      go_wp2_with fail
      refine (KT.out _).mono ?_
      rintro e wt ⟨rfl, rfl⟩
      obtain ⟨-, -, f2, -⟩ := HCF.out _ HL.out.one.old
      go_upto_region 13 with (first
        | (at_make; go_loud (refine wpList_make_row _ rfl (.tmp 48) (.tmp 48) 30 rfl 3 i0 (.int .i64 0) Try.underlying30 HI.out HZ.out HS.out rfl .i64 .i64 N rfl rfl (by rw [HY.out]; omega) (by omega) ?_))
        | fail)
      obtain ⟨G, hG⟩ : ∃ G, wt.heap.size = G := ⟨_, rfl⟩
      have h5 := HL.out.box keeps_true (madeCells #[.int .i64 0] N) 3
      rw [made_ints wt] at h5 ⊢
      rw [hG] at h5 ⊢
      have HGE : Hid (w3.heap.size ≤ G) := Lib.hid (by rw [← hG]; exact HL.out.one.old.size)
      have H5 := Lib.hid h5
      generalize wt.alloc (.cells (ints (List.replicate N 0)).toArray 3) = w5 at *
      have HKP := Lib.hid (fun (al : List Int) => keeps_and keeps_true (keeps_blk G (ints al).toArray 3))
      have t0 : (0 : Int) ≤ (t : Int) := by omega
      have t1 : (t : Int) < 3 := by omega
      have wt1 : IntKind.i64.wrap (100 * (t : Int)) = 100 * (t : Int) := by rw [IntKind.wrap_i64]; omega
      have hz64 : (0 : Int) < c.1 := by omega
      clear f2 h5 hG HL
      go_wp2_with fail
      go_loopw [11, 14, 15, 16] (fun kv jv _ _ wr => ∃ k2 j : Nat, j ≤ N ∧ k2 ≤ 8 * t + j ∧ kv = .int .i64 k2 ∧ jv = .int .i64 j ∧ Hid (∃ S al m, m ≤ 24 * t + j ∧ DropI c S ((List.range j).map (bkT t al)) m ∧ al.length = N ∧ (∀ x ∈ al, 0 ≤ x ∧ x < c.1) ∧ LvR w3 wr p q ib c 1 S (fun k => False ∨ k = G) (fun w' => True ∧ Blk w' G (ints al).toArray 3))) (fun _ jv _ _ _ => N - (intOf jv).toNat)
      case atStart =>
        have h0 : Hid (∀ x ∈ List.replicate N (0 : Int), 0 ≤ x ∧ x < c.1) := Lib.hid fun x hx => by rw [(List.mem_replicate.1 hx).2]; omega
        exact ⟨kk, 0, by omega, by omega, rfl, rfl, Lib.hid ⟨_, _, m, by omega, HDI.out, List.length_replicate, h0.out, H5.out⟩⟩
      case round =>
        obtain ⟨k2, j, hj, hk2, rfl, rfl, HR⟩ := hrel
        obtain ⟨S, al, m, hm, hI, hal, hbd, hL⟩ := HR.out
        have HDI := Lib.hid hI
        have HL := Lib.hid hL
        have HBD := Lib.hid hbd
        obtain ⟨f0, -, f2, -⟩ := HCF.out _ HL.out.one.old
        by_cases hjn : j < N
        · have g2 : decide ((j : Int) < (N : Int)) = true := decide_eq_true (by omega)
          have g2' : decide (j < N) = true := decide_eq_true hjn
          have j0 : (0 : Int) ≤ (j : Int) := by omega
          have j1 : (j : Int) < (N : Int) := by omega
          have c6 : wr.cell? ⟨G, j, none⟩ = some (.int .i64 (al.getD j 0)) := (HL.out.one.x.1.2.cell j).trans (intsL_at (by omega))
          have f6 : wr.frozen? ⟨G, j, none⟩ = false := HL.out.one.x.1.2.free j
          clear hI hL HR hbd
          have HAO : Hid (∀ al2 : List Int, (al2 = al ∨ ∃ te, al2 = al.set j te ∧ 0 ≤ te ∧ te < c.1) → al2.length = N ∧ (∀ x ∈ al2, 0 ≤ x ∧ x < c.1) ∧ DropI c S ((List.range j).map (bkT t al2)) m) := Lib.hid fun al2 h => by
            rcases h with rfl | ⟨te, rfl, h1, h2⟩
            · exact ⟨hal, HBD.out, HDI.out⟩
            · refine ⟨by rw [List.length_set]; exact hal, fun x hx => ?_, ?_⟩
              · rcases List.mem_or_eq_of_mem_set hx with h3 | h3
                · exact HBD.out x h3
                · rw [h3]; exact ⟨h1, h2⟩
              · have e : (List.range j).map (bkT t (al.set j te)) = (List.range j).map (bkT t al) := List.map_congr_left fun i hi => by
                  have := List.mem_range.1 hi
                  unfold bkT
                  rw [getD_setU (by omega), if_neg (by omega)]
                rw [e]
                exact HDI.out
          go_upto_if 58 with fail
          go_cut [11] (fun kv wx => ∃ (k3 : Nat) (al2 : List Int), k3 ≤ 8 * t + j + 1 ∧ kv = .int .i64 k3 ∧ Hid (al2.length = N ∧ (∀ x ∈ al2, 0 ≤ x ∧ x < c.1) ∧ DropI c S ((List.range j).map (bkT t al2)) m) ∧ Hid (LvR w3 wx p q ib c 1 S (fun k => False ∨ k = G) (fun w' => True ∧ Blk w' G (ints al2).toArray 3)))
          case first =>
            by_cases hz : 0 < zs.length
            · have d16 : decide ((0 : Int) < (zs.length : Int)) = true := decide_eq_true (by omega)
              have d16' : decide (0 < zs.length) = true := decide_eq_true hz
              obtain ⟨r2, hr2⟩ : ∃ r2, k2 % zs.length = r2 := ⟨_, rfl⟩
              have hr2b : r2 < zs.length := by rw [← hr2]; exact Nat.mod_lt _ hz
              have hrem : ((k2 : Int)).tmod (zs.length : Int) = (r2 : Int) := by
                rw [← hr2, Int.tmod_eq_emod_of_nonneg (by omega)]
                simp
              have hw2 : IntKind.i64.wrap (r2 : Int) = (r2 : Int) := by rw [IntKind.wrap_i64]; omega
              have hN1 : ¬ ((zs.length : Int) = 0) := by omega
              have hN2 : ¬ (zs.length = 0) := by omega
              have r0' : (0 : Int) ≤ (r2 : Int) := by omega
              have r1' : (r2 : Int) < (zs.length : Int) := by omega
              have hvx : ∃ b off, va = some ⟨b, off, none⟩ ∧ b < w.heap.size ∧ ∀ i (h : i < zs.length), w.cell? ⟨b, off + i, none⟩ = some (.int .i64 zs[i]) := by
                rcases HV.out with ⟨h, _⟩ | ⟨-, b, off, cap, hvv, -, -, hvlt, hvc⟩
                · rw [List.map_eq_nil_iff] at h; rw [h] at hz; cases hz
                · simp only [Value.slice.injEq] at hvv
                  exact ⟨b, off, hvv.1, hvlt, fun i hi => by have := hvc i (by simpa using hi); simpa using this⟩
              obtain ⟨b, off, rfl, hvlt, hvc⟩ := hvx
              have hzn := HZ64.out zs[r2] (List.getElem_mem hr2b)
              have hcell := hvc r2 hr2b
              clear hvc hr2
              generalize zs[r2] = z at *
              obtain ⟨te, hte⟩ : ∃ te, pickD z c.1 = te := ⟨_, rfl⟩
              have bte := pickD_bd (c := z) (n := c.1) (by omega)
              have KP := Lib.hid (fun w' => lpick_any z c.1 hzn (by omega) (by omega) w')
              rw [hte] at bte KP
              have HF : Hid (∀ w', Below w3.heap.size w3 w' → w'.cell? ⟨A, 0, none⟩ = some (.int .i64 c.1) ∧ w'.cell? ⟨b, off + r2, none⟩ = some (.int .i64 z)) := Lib.hid fun w' h => by
                have h1 := HCF.out w' h
                exact ⟨h1.1, (h1.2.2.2.cell (p := ⟨b, off + r2, none⟩) hvlt).trans hcell⟩
              have hset := HL.out.set keeps_true (fun _ h => h.elim) HGE.out j (.int .i64 te)
              rw [intsL_set] at hset
              have HSET := Lib.hid hset
              have hb0 := HL.out.one.old
              have hs0 : Hid (Below w3.heap.size w3 (wr.drew.setCell ⟨G, j, none⟩ (.int .i64 te))) := Lib.hid ((HL.out.one.old.drew).setCell (p := ⟨G, j, none⟩) HGE.out _)
              have hs1 : Hid (Below w3.heap.size w3 (wr.setCell ⟨G, j, none⟩ (.int .i64 te)).drew) := Lib.hid (((HL.out.one.old).setCell (p := ⟨G, j, none⟩) HGE.out _).drew)
              have hs2 : Hid (Below w3.heap.size w3 wr.drew) := Lib.hid HL.out.one.old.drew
              obtain ⟨e0, e1⟩ := HF.out wr hb0
              clear hzn hte hset hcell
              go_wp2_with fail
              go_region_held3 (fun w' => w'.cell? ⟨A, 0, none⟩ = some (.int .i64 c.1) ∧ w'.cell? ⟨b, off + r2, none⟩ = some (.int .i64 z)) (first | exact HF.out _ hs2.out | exact HF.out _ hb0 | exact HF.out _ hs0.out | exact HF.out _ hs1.out) (first
                | (go_at_call 31; with_reducible refine (KP.out _).mono ?_; rintro e wx ⟨rfl, rfl⟩))
              obtain ⟨wq, hwq⟩ : ∃ wq, (wr.setCell ⟨G, j, none⟩ (.int .i64 te)).drew = wq := ⟨_, rfl⟩
              have hlq := HSET.out.below (HKP.out _) ((Below.refl _ _).drew)
              rw [hwq] at hlq ⊢
              have HLq := Lib.hid hlq
              clear hlq hwq HSET hs0 hs1 hs2 hb0 HF KP e0 e1 c6 f6 f0 f2 HL hw2 hN1 hN2 r0' r1'
              go_wp2_with fail
              go_meet
              exact ⟨k2 + 1, _, by omega, by go_num, Lib.hid (HAO.out _ (.inr ⟨te, rfl, bte.1, bte.2⟩)), HLq⟩
            · have d16 : decide ((0 : Int) < (zs.length : Int)) = false := decide_eq_false (by omega)
              have d16' : decide (0 < zs.length) = false := decide_eq_false hz
              clear c6 f6 f0 f2
              go_wp2_with fail
              go_meet
              exact ⟨k2, _, by omega, rfl, Lib.hid (HAO.out _ (.inl rfl)), HL⟩
          case rest =>
            obtain ⟨k3, al2, hk3, rfl, HA2, HLq⟩ := hcut
            generalize wc = wq at *
            have hfr : 0 ≤ al2.getD j 0 ∧ al2.getD j 0 < c.1 := by
              have e : al2.getD j 0 = al2[j]'(by rw [HA2.out.1]; exact hjn) := by rw [List.getD_eq_getElem?_getD, List.getElem?_eq_getElem (by rw [HA2.out.1]; exact hjn)]; rfl
              rw [e]
              exact HA2.out.2.1 _ (List.getElem_mem _)
            have HPUT := Lib.hid (drop_put HC.out (by omega) (by rw [HN.out]; omega) HA2.out.2.2 hfr)
            have KAp := Lib.hid (fun D X hK w' (h : LvR w3 w' p q ib c 1 S D X) => KA.out D X hK w' 1 (100 * (t : Int) + j) 0 0 (al2.getD j 0) (datL j) (datL_ok j) ⟨by omega, by omega⟩ S m (by omega) HA2.out.2.2.fit h)
            have HAL := Lib.hid (intsL_at (a := al2) (i := j) (by rw [HA2.out.1]; exact hjn))
            obtain ⟨S2, hS2⟩ : ∃ S2, S.acc 1 c 1 (100 * (t : Int) + j) 0 (datL j) 0 (al2.getD j 0) = S2 := ⟨_, rfl⟩
            rw [hS2] at HPUT KAp
            obtain ⟨fr, hfre⟩ : ∃ fr, al2.getD j 0 = fr := ⟨_, rfl⟩
            rw [hfre] at KAp HAL HPUT
            obtain ⟨xs, hxs⟩ : ∃ xs, wv zero8 = xs := ⟨_, rfl⟩
            have hlx : xs.length = 8 := by rw [← hxs]; rfl
            have hox : ∀ v ∈ xs, v.oneCell' = true := by rw [← hxs]; exact wv_one zero8
            have hix : (Try.prog.info? 66).map (·.size) = some xs.length := by rw [← hxs]; exact info_dataR zero8 rfl
            have KAq : Hid (∀ D X, Keeps D X → ∀ w', LvR w3 w' p q ib c 1 S D X → Calls Try.prog 33 #[.pointer (some ⟨q, 0, none⟩), .int .i64 1, .int .u64 (100 * (t : Int) + j), .int .i64 0, .agg (cw (datL j)), .int .i64 0, .int .i64 fr] w' fun e w' => e = .returned (.tuple #[.agg xs.toArray, .bool false]) ∧ LvR w3 w' p q ib c 1 S2 D X) := Lib.hid fun D X hK w' h => by
              have := KAp.out D X hK w' h
              rw [HPUT.out.1] at this
              simp only at this
              rw [cw_eq zero8, hxs] at this
              exact this
            have KD := Lib.hid (fun w' => ldata_any (j : Int) ⟨by omega, by omega⟩ w')
            generalize datL (j : Int) = dl at *
            have wj1 : IntKind.i64.wrap (100 * (t : Int) + j) = 100 * (t : Int) + j := by rw [IntKind.wrap_i64]; omega
            have wj2 : IntKind.u64.wrap (100 * (t : Int) + j) = 100 * (t : Int) + j := by rw [IntKind.wrap_u64]; omega
            have wj3 : IntKind.u64.wrap (j : Int) = (j : Int) := by rw [IntKind.wrap_u64]; omega
            obtain ⟨DD, hDD⟩ : ∃ DD : Nat → Prop, DD = (fun k => False ∨ k = G) := ⟨_, rfl⟩
            obtain ⟨XX, hXX⟩ : ∃ XX : World → Prop, XX = (fun w' => True ∧ Blk w' G (ints al2).toArray 3) := ⟨_, rfl⟩
            have HSX : Hid (∀ w', XX w' → w'.cell? ⟨G, j, none⟩ = some (.int .i64 fr)) := Lib.hid fun w' h => by rw [hXX] at h; exact (h.2.cell j).trans HAL.out
            have hd := HLq.out.below (HKP.out al2) ((Below.refl _ _).drew)
            have HKX := Lib.hid (HKP.out al2)
            have HOUT : Hid (∀ w' V, LvR w3 w' p q ib c 1 S2 (fun k => DD k ∨ k = V) (fun w => XX w ∧ Blk w V xs.toArray 66) → LvR w3 w' p q ib c 1 S2 (fun k => False ∨ k = G) (fun w' => True ∧ Blk w' G (ints al2).toArray 3)) := Lib.hid fun w' V h => by
              rw [hDD, hXX] at h
              exact h.less (fun k hk => .inl hk) (fun _ hx => hx.1)
            rw [← hDD, ← hXX] at hd HKX
            clear KAp HAL hS2 hfre hxs hfr hDD hXX c6 f6 f0 f2 HAO HDI HL HBD HLq
            go_upto_region 19 with fail
            go_cut [15, 16] (fun bv tv wx => ∃ V : Nat, bv = .pointer (some ⟨V, 0, none⟩) ∧ tv = .bool false ∧ Hid (LvR w3 wx p q ib c 1 S2 (fun k => DD k ∨ k = V) (fun w => XX w ∧ Blk w V xs.toArray 66) ∧ (∀ k, DD k → k ≠ V) ∧ w3.heap.size ≤ V))
            case first =>
              refine wp_region_held_drew (S := (fun w' => w'.cell? ⟨G, j, none⟩ = some (.int .i64 fr))) (by kernel_rfl) (HSX.out _ hd.one.x.1) (fun hHeld => ?_)
              refine wpAnyH_take (i := 0) (oi := _) (v := ?_) rfl (by kernel_rfl) (by kernel_rfl) (by kernel_rfl) (fun _ _ _ h => h) (Or.inl ⟨by rfl, ?_⟩) (by assumption) ?_
              rotate_left
              · (intro wS hSw; (try dsimp only at hSw); go_simp; try with_reducible rfl)
              try simp only [Act.put, List.setIfInBounds_toArray, List.set_cons_zero, List.set_cons_succ]
              refine wpAnyH_take (i := 1) (oi := _) (v := ?_) rfl (by kernel_rfl) (by kernel_rfl) (by kernel_rfl) (fun _ _ _ h => h) (Or.inl ⟨by rfl, ?_⟩) (by assumption) ?_
              rotate_left
              · (intro wS hSw; (try dsimp only at hSw); go_simp; try with_reducible rfl)
              try simp only [Act.put, List.setIfInBounds_toArray, List.set_cons_zero, List.set_cons_succ]
              refine wpAnyH_take (i := 2) (oi := _) (v := ?_) rfl (by kernel_rfl) (by kernel_rfl) (by kernel_rfl) (fun _ _ _ h => h) (Or.inl ⟨by rfl, ?_⟩) (by assumption) ?_
              rotate_left
              · (intro wS hSw; (try dsimp only at hSw); go_simp; try with_reducible rfl)
              try simp only [Act.put, List.setIfInBounds_toArray, List.set_cons_zero, List.set_cons_succ]
              refine wpAnyH_take (i := 3) (oi := _) (v := ?_) rfl (by kernel_rfl) (by kernel_rfl) (by kernel_rfl) (fun _ _ _ h => h) (Or.inl ⟨by rfl, ?_⟩) (by assumption) ?_
              rotate_left
              · (intro wS hSw; (try dsimp only at hSw); go_simp; try with_reducible rfl)
              try simp only [Act.put, List.setIfInBounds_toArray, List.set_cons_zero, List.set_cons_succ]
              refine wpAnyH_take (i := 4) (oi := _) (v := ?_) rfl (by kernel_rfl) (by kernel_rfl) (by kernel_rfl) (fun _ _ _ h => h) (Or.inl ⟨by rfl, ?_⟩) (by assumption) ?_
              rotate_left
              · (intro wS hSw; (try dsimp only at hSw); go_simp; try with_reducible rfl)
              try simp only [Act.put, List.setIfInBounds_toArray, List.set_cons_zero, List.set_cons_succ]
              refine wpAnyH_take (i := 5) (oi := _) (v := ?_) rfl (by kernel_rfl) (by kernel_rfl) (by kernel_rfl) (fun _ _ _ h => h) (Or.inl ⟨by rfl, ?_⟩) (by assumption) ?_
              rotate_left
              · (intro wS hSw; (try dsimp only at hSw); go_simp; try with_reducible rfl)
              try simp only [Act.put, List.setIfInBounds_toArray, List.set_cons_zero, List.set_cons_succ]
              refine wpAnyH_take (i := 6) (oi := _) (v := ?_) rfl (by kernel_rfl) (by kernel_rfl) (by kernel_rfl) (fun _ _ _ h => h) (Or.inl ⟨by rfl, ?_⟩) (by assumption) ?_
              rotate_left
              · (intro wS hSw; (try dsimp only at hSw); go_simp; try with_reducible rfl)
              try simp only [Act.put, List.setIfInBounds_toArray, List.set_cons_zero, List.set_cons_succ]
              refine wpAnyH_take (i := 7) (oi := _) (v := ?_) rfl (by kernel_rfl) (by kernel_rfl) (by kernel_rfl) (fun _ _ _ h => h) (Or.inl ⟨by rfl, ?_⟩) (by assumption) ?_
              rotate_left
              · (intro wS hSw; (try dsimp only at hSw); go_simp; try with_reducible rfl)
              try simp only [Act.put, List.setIfInBounds_toArray, List.set_cons_zero, List.set_cons_succ]
              refine wpAnyH_take (i := 9) (oi := _) (v := ?_) rfl (by kernel_rfl) (by kernel_rfl) (by kernel_rfl) (fun _ _ _ h => h) (Or.inl ⟨by rfl, ?_⟩) (by assumption) ?_
              rotate_left
              · (intro wS hSw; (try dsimp only at hSw); go_simp; try with_reducible rfl)
              try simp only [Act.put, List.setIfInBounds_toArray, List.set_cons_zero, List.set_cons_succ]
              refine wpAnyH_take (i := 10) (oi := _) (v := ?_) rfl (by kernel_rfl) (by kernel_rfl) (by kernel_rfl) (fun _ _ _ h => h) (Or.inl ⟨by rfl, ?_⟩) (by assumption) ?_
              rotate_left
              · (intro wS hSw; (try dsimp only at hSw); go_simp; try with_reducible rfl)
              try simp only [Act.put, List.setIfInBounds_toArray, List.set_cons_zero, List.set_cons_succ]
              refine wpAnyH_take (i := 11) (oi := _) (v := ?_) rfl (by kernel_rfl) (by kernel_rfl) (by kernel_rfl) (fun _ _ _ h => h) (Or.inl ⟨by rfl, ?_⟩) (by assumption) ?_
              rotate_left
              · (intro wS hSw; (try dsimp only at hSw); go_simp; try with_reducible rfl)
              try simp only [Act.put, List.setIfInBounds_toArray, List.set_cons_zero, List.set_cons_succ]
              refine wpAnyH_take (i := 12) (oi := _) (v := ?_) rfl (by kernel_rfl) (by kernel_rfl) (by kernel_rfl) (fun _ _ _ h => h) (Or.inl ⟨by rfl, ?_⟩) (by assumption) ?_
              rotate_left
              · (intro wS hSw; (try dsimp only at hSw); go_simp; try with_reducible rfl)
              try simp only [Act.put, List.setIfInBounds_toArray, List.set_cons_zero, List.set_cons_succ]
              refine wpAnyH_ready (rs := [8, 17]) (by kernel_rfl) (by simp) ?_
              refine (AllReadyH.cons (o := _) rfl (fun K hK => ?_) (AllReadyH.cons (o := _) rfl (fun K hK => ?_) AllReadyH.nil))
              focus
                go_simp
                refine (KD.out _).mono ?_
                rintro e wx1 ⟨rfl, hbx1⟩
                have k1 := hd.below HKX.out hbx1
                refine hK.out _ _ (HSX.out _ k1.one.x.1) (fun hHeld => ?_)
                clear hK K
                try simp only [Act.put, List.setIfInBounds_toArray, List.set_cons_zero, List.set_cons_succ]
                refine wpAnyH_ready (rs := [13, 17]) (by kernel_rfl) (by simp) ?_
                refine (AllReadyH.cons (o := _) rfl (fun K hK => ?_) (AllReadyH.cons (o := _) rfl (fun K hK => ?_) AllReadyH.nil))
                focus
                  go_simp
                  refine (KAq.out _ _ HKX.out _ k1).mono ?_
                  rintro e wx2 ⟨rfl, k2⟩
                  refine hK.out _ _ (HSX.out _ k2.one.x.1) (fun hHeld => ?_)
                  clear hK K
                  try simp only [Act.put, List.setIfInBounds_toArray, List.set_cons_zero, List.set_cons_succ]
                  refine wpAnyH_take (i := 14) (oi := _) (v := ?_) rfl (by kernel_rfl) (by kernel_rfl) (by kernel_rfl) (fun _ _ _ h => h) (Or.inl ⟨by rfl, ?_⟩) (by assumption) ?_
                  rotate_left
                  · (intro wS hSw; (try dsimp only at hSw); go_simp; try with_reducible rfl)
                  try simp only [Act.put, List.setIfInBounds_toArray, List.set_cons_zero, List.set_cons_succ]
                  refine wpAnyH_take (i := 15) (oi := _) (v := ?_) rfl (by kernel_rfl) (by kernel_rfl) (by kernel_rfl) (fun _ _ _ h => h) (Or.inl ⟨by rfl, ?_⟩) (by assumption) ?_
                  rotate_left
                  · (intro wS hSw; (try dsimp only at hSw); go_simp; try with_reducible rfl)
                  try simp only [Act.put, List.setIfInBounds_toArray, List.set_cons_zero, List.set_cons_succ]
                  refine wpAnyH_take (i := 16) (oi := _) (v := ?_) rfl (by kernel_rfl) (by kernel_rfl) (by kernel_rfl) (fun _ _ _ h => h) (Or.inl ⟨by rfl, ?_⟩) (by assumption) ?_
                  rotate_left
                  · (intro wS hSw; (try dsimp only at hSw); go_simp; try with_reducible rfl)
                  try simp only [Act.put, List.setIfInBounds_toArray, List.set_cons_zero, List.set_cons_succ]
                  refine wpAnyH_ready (rs := [17]) (by kernel_rfl) (by simp) ?_
                  refine (AllReadyH.cons (o := _) rfl (fun K hK => ?_) AllReadyH.nil)
                  focus
                    go_simp
                    have k3 := LvB.new HKX.out k2
                    try simp only [World.size_alloc] at k3
                    refine hK.out _ _ (HSX.out _ k3.x) (fun hHeld => ?_)
                    clear hK K
                    try simp only [Act.put, List.setIfInBounds_toArray, List.set_cons_zero, List.set_cons_succ]
                    refine wpAnyH_ready (rs := [18]) (by kernel_rfl) (by simp) ?_
                    refine (AllReadyH.cons (o := _) rfl (fun K hK => ?_) AllReadyH.nil)
                    focus
                      rw [if_pos (by rfl)]
                      refine wp_store_mid _ _ _ rfl _ 0 xs.toArray rfl rfl (k3.there xs hlx) hix (all_oneCell_toArray hox) ?_
                      refine hK.out _ _ (HSX.out _ (k3.fill xs hlx).one.x.1.1) (fun hHeld => ?_)
                      clear hK K
                      try simp only [Act.put, List.setIfInBounds_toArray, List.set_cons_zero, List.set_cons_succ]
                      refine wpAnyH_take (i := 19) (oi := _) (v := ?_) rfl (by kernel_rfl) (by kernel_rfl) (by kernel_rfl) (fun _ _ _ h => h) (Or.inl ⟨by rfl, ?_⟩) (by assumption) ?_
                      rotate_left
                      · (intro wS hSw; (try dsimp only at hSw); go_simp; try with_reducible rfl)
                      try simp only [Act.put, List.setIfInBounds_toArray, List.set_cons_zero, List.set_cons_succ]
                      refine wpAnyH_done (by kernel_rfl) ?_ _
                      go_wp2_with fail
                      go_meet
                      exact ⟨_, rfl, rfl, Lib.hid ⟨k3.fill xs hlx, k3.ne, k3.ge⟩⟩
                focus
                  go_simp
                  have k2 := LvB.new HKX.out k1
                  try simp only [World.size_alloc] at k2
                  refine hK.out _ _ (HSX.out _ k2.x) (fun hHeld => ?_)
                  clear hK K
                  try simp only [Act.put, List.setIfInBounds_toArray, List.set_cons_zero, List.set_cons_succ]
                  refine wpAnyH_ready (rs := [13]) (by kernel_rfl) (by simp) ?_
                  refine (AllReadyH.cons (o := _) rfl (fun K hK => ?_) AllReadyH.nil)
                  focus
                    go_simp
                    refine (k2.call (fun D' X' hK' h' => KAq.out D' X' hK' _ h')).mono ?_
                    rintro e wx3 ⟨rfl, k3⟩
                    refine hK.out _ _ (HSX.out _ k3.x) (fun hHeld => ?_)
                    clear hK K
                    try simp only [Act.put, List.setIfInBounds_toArray, List.set_cons_zero, List.set_cons_succ]
                    refine wpAnyH_take (i := 14) (oi := _) (v := ?_) rfl (by kernel_rfl) (by kernel_rfl) (by kernel_rfl) (fun _ _ _ h => h) (Or.inl ⟨by rfl, ?_⟩) (by assumption) ?_
                    rotate_left
                    · (intro wS hSw; (try dsimp only at hSw); go_simp; try with_reducible rfl)
                    try simp only [Act.put, List.setIfInBounds_toArray, List.set_cons_zero, List.set_cons_succ]
                    refine wpAnyH_take (i := 15) (oi := _) (v := ?_) rfl (by kernel_rfl) (by kernel_rfl) (by kernel_rfl) (fun _ _ _ h => h) (Or.inl ⟨by rfl, ?_⟩) (by assumption) ?_
                    rotate_left
                    · (intro wS hSw; (try dsimp only at hSw); go_simp; try with_reducible rfl)
                    try simp only [Act.put, List.setIfInBounds_toArray, List.set_cons_zero, List.set_cons_succ]
                    refine wpAnyH_take (i := 16) (oi := _) (v := ?_) rfl (by kernel_rfl) (by kernel_rfl) (by kernel_rfl) (fun _ _ _ h => h) (Or.inl ⟨by rfl, ?_⟩) (by assumption) ?_
                    rotate_left
                    · (intro wS hSw; (try dsimp only at hSw); go_simp; try with_reducible rfl)
                    try simp only [Act.put, List.setIfInBounds_toArray, List.set_cons_zero, List.set_cons_succ]
                    refine wpAnyH_ready (rs := [18]) (by kernel_rfl) (by simp) ?_
                    refine (AllReadyH.cons (o := _) rfl (fun K hK => ?_) AllReadyH.nil)
                    focus
                      rw [if_pos (by rfl)]
                      refine wp_store_mid _ _ _ rfl _ 0 xs.toArray rfl rfl (k3.there xs hlx) hix (all_oneCell_toArray hox) ?_
                      refine hK.out _ _ (HSX.out _ (k3.fill xs hlx).one.x.1.1) (fun hHeld => ?_)
                      clear hK K
                      try simp only [Act.put, List.setIfInBounds_toArray, List.set_cons_zero, List.set_cons_succ]
                      refine wpAnyH_take (i := 19) (oi := _) (v := ?_) rfl (by kernel_rfl) (by kernel_rfl) (by kernel_rfl) (fun _ _ _ h => h) (Or.inl ⟨by rfl, ?_⟩) (by assumption) ?_
                      rotate_left
                      · (intro wS hSw; (try dsimp only at hSw); go_simp; try with_reducible rfl)
                      try simp only [Act.put, List.setIfInBounds_toArray, List.set_cons_zero, List.set_cons_succ]
                      refine wpAnyH_done (by kernel_rfl) ?_ _
                      go_wp2_with fail
                      go_meet
                      exact ⟨_, rfl, rfl, Lib.hid ⟨k3.fill xs hlx, k3.ne, k3.ge⟩⟩
              focus
                go_simp
                have k1 := LvB.new HKX.out hd
                try simp only [World.size_alloc] at k1
                refine hK.out _ _ (HSX.out _ k1.x) (fun hHeld => ?_)
                clear hK K
                try simp only [Act.put, List.setIfInBounds_toArray, List.set_cons_zero, List.set_cons_succ]
                refine wpAnyH_ready (rs := [8]) (by kernel_rfl) (by simp) ?_
                refine (AllReadyH.cons (o := _) rfl (fun K hK => ?_) AllReadyH.nil)
                focus
                  go_simp
                  refine (KD.out _).mono ?_
                  rintro e wx1 ⟨rfl, hbx1⟩
                  have k2 := k1.below hbx1
                  refine hK.out _ _ (HSX.out _ k2.x) (fun hHeld => ?_)
                  clear hK K
                  try simp only [Act.put, List.setIfInBounds_toArray, List.set_cons_zero, List.set_cons_succ]
                  refine wpAnyH_ready (rs := [13]) (by kernel_rfl) (by simp) ?_
                  refine (AllReadyH.cons (o := _) rfl (fun K hK => ?_) AllReadyH.nil)
                  focus
                    go_simp
                    refine (k2.call (fun D' X' hK' h' => KAq.out D' X' hK' _ h')).mono ?_
                    rintro e wx3 ⟨rfl, k3⟩
                    refine hK.out _ _ (HSX.out _ k3.x) (fun hHeld => ?_)
                    clear hK K
                    try simp only [Act.put, List.setIfInBounds_toArray, List.set_cons_zero, List.set_cons_succ]
                    refine wpAnyH_take (i := 14) (oi := _) (v := ?_) rfl (by kernel_rfl) (by kernel_rfl) (by kernel_rfl) (fun _ _ _ h => h) (Or.inl ⟨by rfl, ?_⟩) (by assumption) ?_
                    rotate_left
                    · (intro wS hSw; (try dsimp only at hSw); go_simp; try with_reducible rfl)
                    try simp only [Act.put, List.setIfInBounds_toArray, List.set_cons_zero, List.set_cons_succ]
                    refine wpAnyH_take (i := 15) (oi := _) (v := ?_) rfl (by kernel_rfl) (by kernel_rfl) (by kernel_rfl) (fun _ _ _ h => h) (Or.inl ⟨by rfl, ?_⟩) (by assumption) ?_
                    rotate_left
                    · (intro wS hSw; (try dsimp only at hSw); go_simp; try with_reducible rfl)
                    try simp only [Act.put, List.setIfInBounds_toArray, List.set_cons_zero, List.set_cons_succ]
                    refine wpAnyH_take (i := 16) (oi := _) (v := ?_) rfl (by kernel_rfl) (by kernel_rfl) (by kernel_rfl) (fun _ _ _ h => h) (Or.inl ⟨by rfl, ?_⟩) (by assumption) ?_
                    rotate_left
                    · (intro wS hSw; (try dsimp only at hSw); go_simp; try with_reducible rfl)
                    try simp only [Act.put, List.setIfInBounds_toArray, List.set_cons_zero, List.set_cons_succ]
                    refine wpAnyH_ready (rs := [18]) (by kernel_rfl) (by simp) ?_
                    refine (AllReadyH.cons (o := _) rfl (fun K hK => ?_) AllReadyH.nil)
                    focus
                      rw [if_pos (by rfl)]
                      refine wp_store_mid _ _ _ rfl _ 0 xs.toArray rfl rfl (k3.there xs hlx) hix (all_oneCell_toArray hox) ?_
                      refine hK.out _ _ (HSX.out _ (k3.fill xs hlx).one.x.1.1) (fun hHeld => ?_)
                      clear hK K
                      try simp only [Act.put, List.setIfInBounds_toArray, List.set_cons_zero, List.set_cons_succ]
                      refine wpAnyH_take (i := 19) (oi := _) (v := ?_) rfl (by kernel_rfl) (by kernel_rfl) (by kernel_rfl) (fun _ _ _ h => h) (Or.inl ⟨by rfl, ?_⟩) (by assumption) ?_
                      rotate_left
                      · (intro wS hSw; (try dsimp only at hSw); go_simp; try with_reducible rfl)
                      try simp only [Act.put, List.setIfInBounds_toArray, List.set_cons_zero, List.set_cons_succ]
                      refine wpAnyH_done (by kernel_rfl) ?_ _
                      go_wp2_with fail
                      go_meet
                      exact ⟨_, rfl, rfl, Lib.hid ⟨k3.fill xs hlx, k3.ne, k3.ge⟩⟩
            case rest =>
              obtain ⟨V, rfl, rfl, HV2⟩ := hcut
              generalize wc = wz at *
              have HLz := Lib.hid (HOUT.out _ _ HV2.out.1)
              clear HV2 HOUT hd HKX HSX KAq KD
              have KO := Lib.hid (lOver_any p q ib c 1 S2.over wz HLz.out.lv.1)
              rw [HPUT.out.2.1] at KO
              go_wp2_with fail
              refine KO.out.mono ?_
              rintro e wo ⟨rfl, rfl⟩
              go_wp2_with fail
              go_roundw
              case rel => exact ⟨k3, j + 1, by omega, by omega, rfl, by go_num, Lib.hid ⟨_, al2, m + 1, by omega, HPUT.out.2.2, HA2.out.1, HA2.out.2.1, HLz.out⟩⟩
              case measure => simp [intOf]; omega
        · obtain rfl : j = N := by omega
          have g2 : decide ((j : Int) < (j : Int)) = false := by simp
          have HDI0 : Hid (DropI c S (((List.range j).drop 0).map (bkT t al)) m) := Lib.hid (by rw [List.drop_zero]; exact HDI.out)
          clear hI hL HR hbd HDI f0
          go_wp2_with fail
          go_loopw [17, 18, 19, 20, 21] (fun jv _ _ _ _ wr => ∃ i : Nat, i ≤ j ∧ jv = .int .i64 i ∧ Hid (∃ S m2, m2 ≤ m + 2 * i ∧ DropI c S (((List.range j).drop i).map (bkT t al)) m2 ∧ LvR w3 wr p q ib c 1 S (fun k => False ∨ k = G) (fun w' => True ∧ Blk w' G (ints al).toArray 3))) (fun jv _ _ _ _ _ => j - (intOf jv).toNat)
          case atStart => exact ⟨0, by omega, rfl, Lib.hid ⟨S, m, by omega, HDI0.out, HL.out⟩⟩
          case round =>
            obtain ⟨i, hi, rfl, HR⟩ := hrel
            obtain ⟨S, m2, hm2, hI, hL⟩ := HR.out
            have HDI := Lib.hid hI
            have HL := Lib.hid hL
            obtain ⟨-, -, f2, -⟩ := HCF.out _ HL.out.one.old
            by_cases hij : i < j
            · have g3 : decide ((i : Int) < (j : Int)) = true := decide_eq_true (by omega)
              have g3' : decide (i < j) = true := decide_eq_true hij
              have hfr : 0 ≤ al.getD i 0 ∧ al.getD i 0 < c.1 := by
                have e : al.getD i 0 = al[i]'(by rw [hal]; exact hij) := by rw [List.getD_eq_getElem?_getD, List.getElem?_eq_getElem (by rw [hal]; exact hij)]; rfl
                rw [e]
                exact HBD.out _ (List.getElem_mem _)
              obtain ⟨S1, hS1⟩ : ∃ S1, S1 = S.acc 1 c 3 (100 * (t : Int) + i) 0 zero8 (al.getD i 0) 0 := ⟨_, rfl⟩
              obtain ⟨p1, p2, p3, p4, p5⟩ := drop_drop HC.out (by omega) hij HN.out.symm hI hfr hS1
              have KA1 := Lib.hid (fun D X hK w' (h : LvR w3 w' p q ib c 1 S D X) => KA.out D X hK w' 3 (100 * (t : Int) + i) 0 (al.getD i 0) 0 zero8 zero8_ok ⟨by omega, by omega⟩ S m2 (by omega) hI.fit h)
              have KA2 := Lib.hid (fun D X hK w' (h : LvR w3 w' p q ib c 1 S1 D X) => KA.out D X hK w' 0 (100 * (t : Int) + i) 0 (al.getD i 0) 0 zero8 zero8_ok ⟨by omega, by omega⟩ S1 (m2 + 1) (by omega) p2 h)
              have HAL := Lib.hid (intsL_at (a := al) (i := i) (by omega))
              obtain ⟨S2, hS2⟩ : ∃ S2, S1.acc 1 c 0 (100 * (t : Int) + i) 0 zero8 (al.getD i 0) 0 = S2 := ⟨_, rfl⟩
              rw [hS2] at p4 p5 KA2
              rw [← hS1, p1] at KA1
              rw [p3] at KA2
              obtain ⟨fr, hfre⟩ : ∃ fr, al.getD i 0 = fr := ⟨_, rfl⟩
              rw [hfre] at KA1 KA2 HAL
              have HP5 := Lib.hid p5
              have KD := Lib.hid (fun w' => ldata_any (i : Int) ⟨by omega, by omega⟩ w')
              have hdl := datL_len (i : Int)
              have hz8 := zero8_ok.1
              generalize datL (i : Int) = dl at *
              have wj1 : IntKind.i64.wrap (100 * (t : Int) + i) = 100 * (t : Int) + i := by rw [IntKind.wrap_i64]; omega
              have wj2 : IntKind.u64.wrap (100 * (t : Int) + i) = 100 * (t : Int) + i := by rw [IntKind.wrap_u64]; omega
              have wj3 : IntKind.u64.wrap (i : Int) = (i : Int) := by rw [IntKind.wrap_u64]; omega
              have j0 : (0 : Int) ≤ (i : Int) := by omega
              have j1 : (i : Int) < (j : Int) := by omega
              have c6 : wr.cell? ⟨G, i, none⟩ = some (.int .i64 fr) := (HL.out.one.x.1.2.cell i).trans HAL.out
              clear hI hL HR hfr hS1 hS2 p1 p2 p3 p5 hfre HDI HDI0
              go_wp2_with fail
              refine (KA1.out _ _ (HKP.out al) _ HL.out).mono ?_
              rintro e gaw ⟨rfl, ga⟩
              obtain ⟨N1, hN1⟩ : ∃ N1, gaw.heap.size = N1 := ⟨_, rfl⟩
              have hbx := ga.box (HKP.out al) #[.int .u64 0, .int .u64 0, .int .u64 0, .int .u64 0, .int .u64 0, .int .u64 0, .int .u64 0, .int .u64 0] 66
              have hfl := ga.fill (HKP.out al) #[.int .u64 0, .int .u64 0, .int .u64 0, .int .u64 0, .int .u64 0, .int .u64 0, .int .u64 0, .int .u64 0] (cw dl) 66
              rw [hN1] at hbx hfl
              have HBX := Lib.hid hbx
              have HFL := Lib.hid hfl
              have HID := Lib.hid (info_dataL dl hdl)
              have HOD : Hid ((cw dl).all (·.oneCell') = true) := Lib.hid (cw_all _)
              have HZD := Lib.hid (cw_sz8 hdl)
              clear ga hbx hfl KA1 HL c6
              go_upto_region 26 with (first
                | (refine wpList_store_row rfl 66 (.tmp 18) (.tmp 115) rfl N1 (cw dl) rfl rfl 66 _ HBX.out.x.2 HID.out HZD.out HOD.out ?_)
                | fail)
              refine at_world (fun w' => LvR w3 w' p q ib c 1 S1 (fun k => (False ∨ k = G) ∨ k = N1) (fun w => (True ∧ Blk w G (ints al).toArray 3) ∧ Blk w N1 (cw dl) 66)) HFL.out ?_
              intro HGw hg
              have HG := Lib.hid hg
              clear hg HBX HFL hN1 HID HOD HZD
              have HK1 := Lib.hid (keeps_and (HKP.out al) (keeps_blk N1 (cw dl) 66))
              have c6 : HGw.cell? ⟨G, i, none⟩ = some (.int .i64 fr) := (HG.out.one.x.1.1.2.cell i).trans HAL.out
              go_wp2_with fail
              refine (KA2.out _ _ HK1.out _ HG.out).mono ?_
              rintro e gbw ⟨rfl, gb⟩
              obtain ⟨N2, hN2⟩ : ∃ N2, gbw.heap.size = N2 := ⟨_, rfl⟩
              have hbx := gb.box HK1.out #[.int .u64 0, .int .u64 0, .int .u64 0, .int .u64 0, .int .u64 0, .int .u64 0, .int .u64 0, .int .u64 0] 66
              have hfl := gb.fill HK1.out #[.int .u64 0, .int .u64 0, .int .u64 0, .int .u64 0, .int .u64 0, .int .u64 0, .int .u64 0, .int .u64 0] (cw zero8) 66
              rw [hN2] at hbx hfl
              have HBX := Lib.hid hbx
              have HFL := Lib.hid hfl
              have HID := Lib.hid (info_dataL zero8 hz8)
              have HOD : Hid ((cw zero8).all (·.oneCell') = true) := Lib.hid (cw_all _)
              have HZD := Lib.hid (cw_sz8 hz8)
              clear gb hbx hfl KA2 HG
              go_upto_region 27 with (first
                | (refine wpList_store_row rfl 66 (.tmp 20) (.tmp 130) rfl N2 (cw zero8) rfl rfl 66 _ HBX.out.x.2 HID.out HZD.out HOD.out ?_)
                | fail)
              refine at_world (fun w' => LvR w3 w' p q ib c 1 S2 (fun k => ((False ∨ k = G) ∨ k = N1) ∨ k = N2) (fun w => ((True ∧ Blk w G (ints al).toArray 3) ∧ Blk w N1 (cw dl) 66) ∧ Blk w N2 (cw zero8) 66)) HFL.out ?_
              intro HMw hm
              have HM := Lib.hid hm
              clear hm HBX HFL hN2 HID HOD HZD
              obtain ⟨x0, x1, x2, x3, x4, x5, x6, x7, rfl⟩ := eightL hdl
              have HK2 := Lib.hid (keeps_and HK1.out (keeps_blk N2 (cw zero8) 66))
              have EQX : ∀ w, (Op.equalIn 10000 66 (.agg #[.int .u64 x0, .int .u64 x1, .int .u64 x2, .int .u64 x3, .int .u64 x4, .int .u64 x5, .int .u64 x6, .int .u64 x7]) (.agg #[.int .u64 x0, .int .u64 x1, .int .u64 x2, .int .u64 x3, .int .u64 x4, .int .u64 x5, .int .u64 x6, .int .u64 x7])).run Try.prog w = .ok true w := fun w => by
                have h := run_eqdata [x0, x1, x2, x3, x4, x5, x6, x7] [x0, x1, x2, x3, x4, x5, x6, x7] rfl rfl w
                rw [decide_eq_true rfl] at h
                exact h
              have HRG : Hid (∀ w', LvR w3 w' p q ib c 1 S2 (fun k => (False ∨ k = G ∨ False) ∨ True) (fun _ => True) → True) := Lib.hid (fun _ _ => trivial)
              have HRX : Hid (∀ w', Blk w' N1 (cw [x0, x1, x2, x3, x4, x5, x6, x7]) 66 → w'.cell? ⟨N1, 0, none⟩ = some (.int .u64 x0) ∧ w'.cell? ⟨N1, 1, none⟩ = some (.int .u64 x1) ∧ w'.cell? ⟨N1, 2, none⟩ = some (.int .u64 x2) ∧ w'.cell? ⟨N1, 3, none⟩ = some (.int .u64 x3) ∧ w'.cell? ⟨N1, 4, none⟩ = some (.int .u64 x4) ∧ w'.cell? ⟨N1, 5, none⟩ = some (.int .u64 x5) ∧ w'.cell? ⟨N1, 6, none⟩ = some (.int .u64 x6) ∧ w'.cell? ⟨N1, 7, none⟩ = some (.int .u64 x7)) := Lib.hid fun w' h => ⟨h.cell 0, h.cell 1, h.cell 2, h.cell 3, h.cell 4, h.cell 5, h.cell 6, h.cell 7⟩
              have KD8 : Hid (∀ w', Calls Try.prog 34 #[.int .u64 i] w' fun e w2 => e = .returned (.agg #[.int .u64 x0, .int .u64 x1, .int .u64 x2, .int .u64 x3, .int .u64 x4, .int .u64 x5, .int .u64 x6, .int .u64 x7]) ∧ Below w'.heap.size w' w2) := Lib.hid (fun w' => KD.out w')
              have KO : Hid (∀ (D : Nat → Prop) (X : World → Prop) w', LvR w3 w' p q ib c 1 S2 D X → Calls Try.prog 35 #[.pointer (some ⟨q, 0, none⟩)] w' (fun e w2 => e = .returned (.bool false) ∧ w2 = w')) := Lib.hid fun D X w' h => by
                have h1 := lOver_any p q ib c 1 S2.over w' h.lv.1
                rw [p4] at h1
                exact h1
              have hd := HM.out.below HK2.out ((Below.refl _ _).drew)
              clear KD c6 hdl HAL HRG
              go_wp2_with fail
              go_region_held3 (fun w' => w'.cell? ⟨N1, 0, none⟩ = some (.int .u64 x0) ∧ w'.cell? ⟨N1, 1, none⟩ = some (.int .u64 x1) ∧ w'.cell? ⟨N1, 2, none⟩ = some (.int .u64 x2) ∧ w'.cell? ⟨N1, 3, none⟩ = some (.int .u64 x3) ∧ w'.cell? ⟨N1, 4, none⟩ = some (.int .u64 x4) ∧ w'.cell? ⟨N1, 5, none⟩ = some (.int .u64 x5) ∧ w'.cell? ⟨N1, 6, none⟩ = some (.int .u64 x6) ∧ w'.cell? ⟨N1, 7, none⟩ = some (.int .u64 x7)) (first | exact HRX.out _ hd.one.x.1.1.2 | exact HRX.out _ hd2.one.x.1.1.2) (first
                | (go_at_call 34; with_reducible refine (KD8.out _).mono ?_; rintro e wx ⟨rfl, hbx⟩; have hd2 := hd.below HK2.out hbx)
                | (go_at_call 35; first | (with_reducible refine (KO.out _ _ _ hd2).mono ?_; rintro e wy ⟨rfl, rfl⟩) | (with_reducible refine (KO.out _ _ _ hd).mono ?_; rintro e wy ⟨rfl, rfl⟩)))
              all_goals
                have HLe : Hid (LvR w3 _ p q ib c 1 S2 (fun k => False ∨ k = G) (fun w' => True ∧ Blk w' G (ints al).toArray 3)) := Lib.hid (hd2.less (fun k hk => .inl (.inl hk)) (fun _ hx => hx.1.1))
                clear hd2 hd
                go_wp2_with fail
                go_roundw
                case rel => exact ⟨i + 1, by omega, by go_num, Lib.hid ⟨_, m2 + 2, by omega, HP5.out, HLe.out⟩⟩
                case measure => simp [intOf]; omega
            · obtain rfl : i = j := by omega
              have g3 : decide ((i : Int) < (i : Int)) = false := by simp
              have HLe : Hid (LvR w3 wr p q ib c 1 S (fun _ => False) (fun _ => True)) := Lib.hid (HL.out.less (fun k hk => hk.elim) (fun _ _ => trivial))
              have HDe : Hid (DropI c S [] m2) := Lib.hid (by
                have h := HDI.out
                have e : (List.range i).drop i = [] := List.drop_eq_nil_of_le (by rw [List.length_range]; exact Nat.le_refl _)
                rw [e] at h
                exact h)
              clear hI hL HR HL HDI
              go_wp2_with fail
              go_roundw
              case rel => exact ⟨k2, t + 1, by omega, by omega, rfl, by go_num, Lib.hid ⟨_, m2, by omega, HDe.out, HLe.out⟩⟩
              case measure => simp [intOf]; omega
    · have g1 : decide ((t : Int) < 1 + (r : Int)) = false := decide_eq_false (by omega)
      obtain ⟨S, m, hm, hI, hL⟩ := HR.out
      have HBE := Lib.hid (HCF.out _ hL.one.old).2.2.2
      clear hI hL HR
      go_wp2_with fail
      refine (KT.out _).mono ?_
      rintro e wt ⟨rfl, rfl⟩
      go_wp2
      go_ret
      exact ⟨rfl, HBE.out⟩
end Go.Proofs.Ytiimdgdimjjboaa
