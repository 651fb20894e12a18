
/-
  The walk of the law LevelKeeps: as long as none is lost, each block that is looked for is what was put last.
-/
import Derived.Test.YthchfdobdghdoaaHbq
import Derived.Test.YthchfdobdghdoaaHbp
import Derived.BigQuiet
import Derived.Deep.DeepCutAuto
set_option linter.unusedVariables false
set_option linter.unusedSimpArgs false
set_option linter.unusedSectionVars false
set_option linter.unnecessarySimpa false
namespace Go.Proofs.Ythchfdobdghdoaa
open Go Go.RowKit Go.Sg
theorem info_boolK : (Try.prog.info? 4).map (fun i => (i.zero, i.size, i.bytes)) = some (some (.bool false), 1, 1) := by kernel_rfl
theorem info_dataK : (Try.prog.info? 41).map (fun i => (i.zero, i.size, i.bytes)) = some (some (.agg zd8), 8, 64) := by kernel_rfl
theorem u64_words {w : World} {v : Value} {xs : List Int} (h : SlI .u64 w v xs) : ∀ x ∈ xs, Word x := by
  rcases h with ⟨rfl, _⟩ | ⟨_, b, off, cap, _, _, _, _, _, h⟩
  · intro x hx; cases hx
  · exact fun x hx => u64_of (h x hx)
set_option maxHeartbeats 40000000 in
set_option maxRecDepth 100000 in
theorem LevelKeeps_walk (n : Int) (v : Value) (l : List Sx) (v2 : Value) (tz : List Int) (w : World) (hn : Num n) (hv : SlK sxV w v l) (ho : ∀ x ∈ l, SxOk x) (hv2 : SlI .u64 w v2 tz) :
    Calls Try.prog 3 #[.int .i64 n, v, v2] w fun e w' => e = .returned (.bool true) ∧ Below w.heap.size w w' := by
  have KS := Lib.hid (fun w' => lshown_any w')
  have KC := Lib.hid (fun w' => lconfig_any n hn w')
  have HO := Lib.hid ho
  have HTW := Lib.hid (u64_words hv2)
  have HV := Lib.hid (Sl1.of_SlI hv2)
  obtain ⟨va, vc, rfl⟩ : ∃ a c, v2 = .slice a tz.length c := by have := HV.out.len; rwa [List.length_map] at this
  obtain ⟨a, cap, rfl, hmx, hat⟩ := sxV_at hv
  have HAT := Lib.hid hat
  unfold maxLen at hmx
  clear hv ho hat hv2
  by_cases hL3 : 40 < l.length
  · have d3 : decide ((40 : Int) < (l.length : Int)) = true := decide_eq_true (by omega)
    have d3' : decide (40 < l.length) = true := decide_eq_true hL3
    go_enter Try.func3, Try.ntmps3
    go_wp2_with fail
    refine (KS.out _).mono ?_
    rintro e w1 ⟨rfl, hb1⟩
    have HB1 := Lib.hid hb1
    clear hb1
    go_wp2
    go_ret
    exact ⟨rfl, HB1.out⟩
  have d3 : decide ((40 : Int) < (l.length : Int)) = false := decide_eq_false (by omega)
  have d3' : decide (40 < l.length) = false := decide_eq_false hL3
  by_cases hL4 : 200 < tz.length
  · have d4 : decide ((200 : Int) < (tz.length : Int)) = true := decide_eq_true (by omega)
    have d4' : decide (200 < tz.length) = true := decide_eq_true hL4
    go_enter Try.func3, Try.ntmps3
    go_wp2_with fail
    refine (KS.out _).mono ?_
    rintro e w1 ⟨rfl, hb1⟩
    have HB1 := Lib.hid hb1
    clear hb1
    go_wp2
    go_ret
    exact ⟨rfl, HB1.out⟩
  have d4 : decide ((200 : Int) < (tz.length : Int)) = false := decide_eq_false (by omega)
  have d4' : decide (200 < tz.length) = false := decide_eq_false hL4
  have HC := Lib.hid (cfg_ok n)
  have KM := Lib.hid (fun w' => lmade_any (cfgL n) HC.out.ok HC.out.new HC.out.lev w')
  have HS0 := Lib.hid (keep_start HC.out)
  obtain ⟨b1, b1'⟩ := HC.out.b1
  obtain ⟨c, hc⟩ : ∃ c, cfgL n = c := ⟨_, rfl⟩
  rw [hc] at HC KM HS0 KC b1 b1'
  clear hc
  go_enter Try.func3, Try.ntmps3
  go_wp2_with fail
  refine (KS.out _).mono ?_
  rintro e w1 ⟨rfl, hb1⟩
  have HB1 := Lib.hid hb1
  clear hb1 KS
  go_wp2_with fail
  refine (KC.out _).mono ?_
  rintro e w2 ⟨rfl, hb2⟩
  have HB2 : Hid (Below w.heap.size w w2) := Lib.hid (HB1.out.trans (hb2.mono HB1.out.size))
  clear hb2 KC
  obtain ⟨A, hA⟩ : ∃ A, w2.heap.size = A := ⟨_, rfl⟩
  have hbx : Blk (w2.alloc (.cells #[.int .i64 0, .int .i64 0, .int .i64 0] 26)) A #[.int .i64 0, .int .i64 0, .int .i64 0] 26 := by rw [← hA]; exact Blk.new w2 _ _
  have HBX := Lib.hid hbx
  have HI3 : Hid ((Try.prog.info? 26).map (·.size) = some (#[.int .i64 c.1, .int .i64 c.2.1, .int .i64 c.2.2] : Array Value).size) := Lib.hid (by kernel_rfl)
  have HW3 : Hid (Blk ((w2.alloc (.cells #[.int .i64 0, .int .i64 0, .int .i64 0] 26)).setRow A #[.int .i64 c.1, .int .i64 c.2.1, .int .i64 c.2.2]) A #[.int .i64 c.1, .int .i64 c.2.1, .int .i64 c.2.2] 26 ∧ Below w.heap.size w ((w2.alloc (.cells #[.int .i64 0, .int .i64 0, .int .i64 0] 26)).setRow A #[.int .i64 c.1, .int .i64 c.2.1, .int .i64 c.2.2])) :=
    Lib.hid ⟨HBX.out.setRow _, below_rowS (HB2.out.alloc HB2.out.size _) _ _ (by rw [← hA]; exact HB2.out.size)⟩
  clear hbx
  go_upto_region 5 with (first
    | (refine wpList_store_row rfl 26 (.tmp 8) (.tmp 37) rfl A #[.int .i64 c.1, .int .i64 c.2.1, .int .i64 c.2.2] rfl rfl 26 _ HBX.out HI3.out (by rfl) (by simp [Value.oneCell']) ?_)
    | fail)
  generalize (w2.alloc (.cells #[.int .i64 0, .int .i64 0, .int .i64 0] 26)).setRow A #[.int .i64 c.1, .int .i64 c.2.1, .int .i64 c.2.2] = w3 at *
  have HAWA := Lib.hid HW3.out.1.lt
  have HB3 := Lib.hid HW3.out.2
  have HCF : Hid (∀ w', Below w3.heap.size w3 w' → w'.cell? ⟨A, 0, none⟩ = some (.int .i64 c.1) ∧ w'.cell? ⟨A, 1, none⟩ = some (.int .i64 c.2.1) ∧ w'.cell? ⟨A, 2, none⟩ = some (.int .i64 c.2.2) ∧ Below w.heap.size w w') := Lib.hid fun w' hb => ⟨(HW3.out.1.below hb HAWA.out).cell 0, (HW3.out.1.below hb HAWA.out).cell 1, (HW3.out.1.below hb HAWA.out).cell 2, HW3.out.2.trans (hb.mono HW3.out.2.size)⟩
  clear hA HBX HI3 HB2 HW3 HAWA HB1
  have HIL := Lib.hid (info_lcL c)
  obtain ⟨a0, a1, a2, -⟩ := HCF.out _ (Below.refl _ _)
  go_wp2_with fail
  refine (KM.out _).mono ?_
  rintro e w4 ⟨p, q, ib, rfl, h4⟩
  have H4 := Lib.hid h4
  clear a0 a1 a2 KM h4
  obtain ⟨i0, hi, hz0, hz1, hz2⟩ := info_parts info_int
  have HI := Lib.hid hi
  have HZ := Lib.hid hz0
  have HS := Lib.hid hz1
  have HY := Lib.hid hz2
  obtain ⟨ib0, hib, hbz0, hbz1, hbz2⟩ := info_parts info_boolK
  have HIb := Lib.hid hib
  have HZb := Lib.hid hbz0
  have HSb := Lib.hid hbz1
  have HYb := Lib.hid hbz2
  obtain ⟨id0, hid, hdz0, hdz1, hdz2⟩ := info_parts info_dataK
  obtain ⟨ZL, hZL⟩ : ∃ ZL, List.replicate 8 zero8 = ZL := ⟨_, rfl⟩
  rw [hZL] at HS0
  have hmk : ∀ w, (Instr.makeSlice 34 (.int .i64 8) (.int .i64 8)).run Try.prog w = .ok (.slice (some ⟨w.heap.size, 0, none⟩) 8 8) (w.alloc (.cells (flatV wv ZL).toArray 41)) := fun w => by
    have := run_make_cells (P := Try.prog) 34 41 id0 zd8 8 Try.underlying34 hid hdz0 hdz1 64 hdz2 .i64 .i64 8 (by omega) (by omega) w
    rw [made_u, hZL] at this
    exact this
  clear hi hz0 hz1 hz2 hib hbz0 hbz1 hbz2 hid hdz0 hdz1 hdz2 hZL
  go_upto_region 9 with (first
    | (at_make; go_loud (refine wpList_make_row _ rfl (.const (.int .i64 8)) (.const (.int .i64 8)) 32 rfl 3 i0 (.int .i64 0) Try.underlying32 HI.out HZ.out HS.out rfl .i64 .i64 8 rfl rfl (by rw [HY.out]; omega) (by omega) ?_))
    | fail)
  obtain ⟨G1, hG1⟩ : ∃ G, w4.heap.size = G := ⟨_, rfl⟩
  have h5 := H4.out.box keeps_true (madeCells #[.int .i64 0] 8) 3
  rw [made_ints w4] at h5 ⊢
  rw [hG1] at h5 ⊢
  have HGE1 : Hid (w3.heap.size ≤ G1) := Lib.hid (by rw [← hG1]; exact H4.out.one.old.size)
  have H5 := Lib.hid h5
  generalize w4.alloc (.cells (ints (List.replicate 8 0)).toArray 3) = w5 at *
  clear h5 hG1 H4
  go_upto_region 10 with (first
    | (at_make; go_loud (refine wpList_make_row _ rfl (.const (.int .i64 8)) (.const (.int .i64 8)) 33 rfl 4 ib0 (.bool false) Try.underlying33 HIb.out HZb.out HSb.out rfl .i64 .i64 8 rfl rfl (by rw [HYb.out]; omega) (by omega) ?_))
    | fail)
  have HK5 := Lib.hid (keeps_and keeps_true (keeps_blk G1 (ints (List.replicate 8 0)).toArray 3))
  obtain ⟨G2, hG2⟩ : ∃ G, w5.heap.size = G := ⟨_, rfl⟩
  have h6 := H5.out.box HK5.out (madeCells #[.bool false] 8) 4
  rw [made_bools w5] at h6 ⊢
  rw [hG2] at h6 ⊢
  have HGE2 : Hid (G1 < G2) := Lib.hid (by rw [← hG2]; exact H5.out.lt.1 G1 (.inr rfl))
  have H6 := Lib.hid h6
  generalize w5.alloc (.cells (bools (List.replicate 8 false)).toArray 4) = w6 at *
  clear h6 hG2 H5
  go_upto_region 11 with fail
  have HK6 := Lib.hid (keeps_and HK5.out (keeps_blk G2 (bools (List.replicate 8 false)).toArray 4))
  obtain ⟨G3, hG3⟩ : ∃ G, w6.heap.size = G := ⟨_, rfl⟩
  have h7 := H6.out.box HK6.out (flatV wv ZL).toArray 41
  rw [hG3] at h7 ⊢
  have HGE3 : Hid (G2 < G3) := Lib.hid (by rw [← hG3]; exact H6.out.lt.1 G2 (.inr rfl))
  have H7 : Hid (LvR w3 (w6.alloc (.cells (flatV wv ZL).toArray 41)) p q ib c 1 (mkL c) (KpD G1 G2 G3) (KpX 3 4 41 G1 G2 G3 (List.replicate 8 0) (List.replicate 8 false) ZL)) := Lib.hid (h7.less (fun k hk => by
    rcases hk with (rfl | rfl) | rfl
    · exact .inl (.inl (.inr rfl))
    · exact .inl (.inr rfl)
    · exact .inr rfl) (fun w hx => ⟨⟨hx.1.1.2, hx.1.2⟩, hx.2⟩))
  generalize w6.alloc (.cells (flatV wv ZL).toArray 41) = w7 at *
  have hgg : G1 ≠ G2 ∧ G1 ≠ G3 ∧ G2 ≠ G3 ∧ w3.heap.size ≤ G1 ∧ w3.heap.size ≤ G2 ∧ w3.heap.size ≤ G3 := by
    have := HGE1.out
    have := HGE2.out
    have := HGE3.out
    omega
  have HGG := Lib.hid hgg
  clear h7 hG3 H6 HGE1 HGE2 HGE3 HK5 HK6 hmk hgg HI HZ HS HY HIb HZb HSb HYb
  have HKP := Lib.hid (fun al bl ul => keeps_kp 3 4 41 G1 G2 G3 al bl ul)
  have KA := Lib.hid (fun (D : Nat → Prop) (X : World → Prop) (hK : Keeps D X) (w' : World) (op id at' fr lf : Int) (d : List Int) (hd : d.length = 8 ∧ ∀ x ∈ d, Word x) (hid : Word id) (S : Ls) (k : Nat) (hk : k ≤ 1000) (hS : LsFit c 1 S k) (h : LvR w3 w' p q ib c 1 S D X) => fitAccess hK HC.out 1 (by decide) op id at' fr lf d hd hid q ib S k hk hS h)
  go_wp2_with fail
  go_loopw [14, 15, 16, 17, 18, 19, 20, 21] (fun iv _ _ _ _ _ _ _ wr => ∃ k : Nat, k ≤ l.length ∧ iv = .int .i64 k ∧ Hid (∃ S al bl ul, KeepI c S al bl ul k ∧ LvR w3 wr p q ib c 1 S (KpD G1 G2 G3) (KpX 3 4 41 G1 G2 G3 al bl ul))) (fun iv _ _ _ _ _ _ _ _ => l.length - (intOf iv).toNat)
  case atStart => exact ⟨0, by omega, rfl, Lib.hid ⟨_, _, _, _, HS0.out, H7.out⟩⟩
  case round =>
    obtain ⟨k, hk, rfl, HR⟩ := hrel
    by_cases hlt : k < l.length
    · have g1 : decide ((k : Int) < (l.length : Int)) = true := decide_eq_true (by omega)
      have g1' : decide (k < l.length) = true := decide_eq_true hlt
      have k0 : (0 : Int) ≤ (k : Int) := by omega
      have k1 : (k : Int) < (l.length : Int) := by omega
      obtain ⟨S, al, bl, ul, hI, hL⟩ := HR.out
      have HI := Lib.hid hI
      have HL := Lib.hid hL
      clear hI hL HR
      obtain ⟨b, off, rfl, hlb, hcells⟩ := HAT.out k hlt
      have hx := HO.out l[k] (List.getElem_mem hlt)
      have HCE := Lib.hid hcells
      clear hcells
      generalize l[k] = x at *
      obtain ⟨xo, xi, xa, xn, xf, xt⟩ := x
      simp only at hx HCE
      obtain ⟨n1, n2, n3, n4, n5, n6⟩ := hx
      simp only at n1 n2 n3 n4 n5 n6
      obtain ⟨y, hy, hy0, hy1, hyw⟩ := and65535 n2
      obtain ⟨id, hid⟩ : ∃ id : Nat, pickD y 8 = id := ⟨(pickD y 8).toNat, by have := (pickD_bd (c := y) (n := 8) (by omega)).1; omega⟩
      have bid := pickD_bd (c := y) (n := 8) (by omega)
      have KP1 := Lib.hid (fun w' => lpick_any y 8 ⟨by omega, by omega⟩ (by omega) (by omega) w')
      rw [hid] at bid KP1
      clear hid
      obtain ⟨op, hop⟩ : ∃ op, pickD xo 4 = op := ⟨_, rfl⟩
      have bop := pickD_bd (c := xo) (n := 4) (by omega)
      have KP2 := Lib.hid (fun w' => lpick_any xo 4 n1 (by omega) (by omega) w')
      rw [hop] at bop KP2
      clear hop
      obtain ⟨ai, hai⟩ : ∃ ai : Nat, pickD xa 7 = ai := ⟨(pickD xa 7).toNat, by have := (pickD_bd (c := xa) (n := 7) (by omega)).1; omega⟩
      have bai := pickD_bd (c := xa) (n := 7) (by omega)
      have KP3 := Lib.hid (fun w' => lpick_any xa 7 n3 (by omega) (by omega) w')
      rw [hai] at bai KP3
      clear hai
      obtain ⟨t0, ht0⟩ : ∃ t0, pickD xt c.1 = t0 := ⟨_, rfl⟩
      have bt0 := pickD_bd (c := xt) (n := c.1) (by omega)
      have KP4 := Lib.hid (fun w' => lpick_any xt c.1 n6 (by omega) (by omega) w')
      rw [ht0] at bt0 KP4
      clear ht0
      have HLC : Hid (∀ w', Below w3.heap.size w3 w' → (w'.cell? ⟨A, 0, none⟩ = some (.int .i64 c.1)) ∧ w'.cell? ⟨b, off + k * 6, none⟩ = some (.int .i64 xo) ∧ w'.cell? ⟨b, off + k * 6 + 1, none⟩ = some (.int .u64 xi) ∧ w'.cell? ⟨b, off + k * 6 + 2, none⟩ = some (.int .i64 xa) ∧ w'.cell? ⟨b, off + k * 6 + 3, none⟩ = some (.int .u64 xn) ∧ w'.cell? ⟨b, off + k * 6 + 5, none⟩ = some (.int .i64 xt)) := Lib.hid fun w' h => by
        have h1 := HCF.out w' h
        have h2 := HCE.out w' h1.2.2.2
        exact ⟨h1.1, h2.1, h2.2.1, h2.2.2.1, h2.2.2.2.1, h2.2.2.2.2.2⟩
      have HN4 := Lib.hid n4
      clear HCE n1 n2 n3 n4 n5 n6
      obtain ⟨f0, e0, e1, e2, e3, e5⟩ := HLC.out _ HL.out.one.old
      go_wp2_with fail
      refine (KP1.out _).mono ?_
      rintro e wa ⟨rfl, rfl⟩
      go_wp2_with fail
      refine (KP2.out _).mono ?_
      rintro e wb ⟨rfl, rfl⟩
      go_wp2_with fail
      refine (KP3.out _).mono ?_
      rintro e wd ⟨rfl, rfl⟩
      go_wp2_with fail
      go_quiet (first | (go_at_call 8; refine Calls.quiet_of_same (KP4.out _)))
      obtain ⟨wq, hwq, hbq⟩ : ∃ wq, wd.drewN nq = wq ∧ Below wd.heap.size wd wq := ⟨_, rfl, below_drewN' (Below.refl _ _)⟩
      rw [hwq]
      have HLq := Lib.hid (HL.out.below (HKP.out al bl ul) hbq)
      clear f0 e0 e1 e2 e3 e5 hwq hbq HL KP1 KP2 KP3 KP4
      go_upto_if 85 with fail
      go_cut [18] (fun tv wx => ∃ te : Int, tv = .int .i64 te ∧ 0 ≤ te ∧ te < c.1 ∧ Hid (LvR w3 wx p q ib c 1 S (KpD G1 G2 G3) (KpX 3 4 41 G1 G2 G3 al bl ul)))
      case first =>
        as_aux_lemma =>
          by_cases htl : k < tz.length
          · have d85 : decide ((k : Int) < (tz.length : Int)) = true := decide_eq_true (by omega)
            have d85' : decide (k < tz.length) = true := decide_eq_true htl
            have k2 : (k : Int) < (tz.length : Int) := by omega
            have hvx : ∃ b off, va = some ⟨b, off, none⟩ ∧ b < w.heap.size ∧ ∀ i (h : i < tz.length), w.cell? ⟨b, off + i, none⟩ = some (.int .u64 tz[i]) := by
              rcases HV.out with ⟨h, _⟩ | ⟨-, b, off, cap, hvv, -, -, hvlt, hvc⟩
              · rw [List.map_eq_nil_iff] at h; rw [h] at htl; cases htl
              · simp only [Value.slice.injEq] at hvv
                exact ⟨b, off, hvv.1, hvlt, fun i hi => by have := hvc i (by simpa using hi); simpa using this⟩
            obtain ⟨b2, off2, rfl, hvlt, hvc⟩ := hvx
            have hzn := HTW.out tz[k] (List.getElem_mem htl)
            have hcell := hvc k htl
            clear hvc
            generalize tz[k] = z at *
            have KL := Lib.hid (fun w' => lleaf_any z c.1 hzn ⟨by omega, by omega⟩ w')
            obtain ⟨te, hte⟩ : ∃ te, z % c.1 = te := ⟨_, rfl⟩
            have bte : 0 ≤ te ∧ te < c.1 := by rw [← hte]; exact ⟨Int.emod_nonneg _ (by omega), Int.emod_lt_of_pos _ (by omega)⟩
            rw [hte] at KL
            have h1 := HCF.out _ HLq.out.one.old
            have f0 := h1.1
            have e9 := (h1.2.2.2.cell (p := ⟨b2, off2 + k, none⟩) hvlt).trans hcell
            clear hcell hzn hte h1
            go_wp2_with fail
            go_quiet (first | (go_at_call 9; refine Calls.quiet_of_same (KL.out _)))
            have HLf := Lib.hid (HLq.out.below (HKP.out al bl ul) (below_drewN' (n := nq) (Below.refl _ _)))
            clear f0 e9 HLq KL
            go_wp2_with fail
            go_meet
            exact ⟨te, rfl, bte.1, bte.2, HLf⟩
          · have d85 : decide ((k : Int) < (tz.length : Int)) = false := decide_eq_false (by omega)
            have d85' : decide (k < tz.length) = false := decide_eq_false htl
            go_wp2_with fail
            go_meet
            exact ⟨t0, rfl, bt0.1, bt0.2, HLq⟩
      case rest =>
      obtain ⟨te, rfl, bte0, bte1, HLs⟩ := hcut
      generalize wc = ws at *
      clear HLq
      have HKT := Lib.hid (keep_tell HC.out HI.out (op := op) (te := te) (i := id) (at' := ai) (d := datL xn) (by omega) bop ⟨bte0, bte1⟩ (datL_ok xn) (by omega))
      have KAp := Lib.hid (fun D X hK w' (h : LvR w3 w' p q ib c 1 S D X) => KA.out D X hK w' op id ai (al.getD id 0) te (datL xn) (datL_ok xn) ⟨by omega, by omega⟩ S k (by omega) HI.out.fit h)
      have hla := HI.out.la
      have hlb := HI.out.lb
      have hlu := HI.out.lu
      have HUL : Hid (∀ x ∈ ul, x.length = 8) := Lib.hid fun x hx => (HI.out.wu x hx).1
      have HALa := Lib.hid (intsL_at (a := al) (i := id) (by omega))
      have HALb := Lib.hid (bools_at (l := bl) (i := id) (by omega))
      have HALu := Lib.hid (fun j (hj : j < 8) => flat8_at ul id j HUL.out (by omega) hj)
      have HU8 := Lib.hid (getU_ok HI.out.wu id).1
      obtain ⟨S2, hS2⟩ : ∃ S2, S.acc 1 c op id ai (datL xn) (al.getD id 0) te = S2 := ⟨_, rfl⟩
      rw [hS2] at HKT KAp
      obtain ⟨fr, hfre⟩ : ∃ fr, al.getD id 0 = fr := ⟨_, rfl⟩
      rw [hfre] at KAp HALa HKT
      obtain ⟨bi, hbi⟩ : ∃ bi, bl.getD id false = bi := ⟨_, rfl⟩
      obtain ⟨ui, hui⟩ : ∃ ui, ul.getD id zero8 = ui := ⟨_, rfl⟩
      rw [hbi] at HALb HKT
      rw [hui] at HALu HU8 HKT
      have HBI := Lib.hid hbi
      have HUI := Lib.hid hui
      clear hbi hui
      obtain ⟨xs, hxs⟩ : ∃ xs, wv (knowB bi ui).1 = xs := ⟨_, rfl⟩
      have hk8 : (knowB bi ui).1.length = 8 := by
        unfold knowB
        split
        · exact HU8.out
        · rfl
      have hk2 : (knowB bi ui).2 = bi := by cases bi <;> rfl
      have hlx : xs.length = 8 := by rw [← hxs, wv_len, hk8]
      have hox : ∀ v ∈ xs, v.oneCell' = true := by rw [← hxs]; exact wv_one _
      have hix : (Try.prog.info? 41).map (·.size) = some xs.length := by rw [← hxs]; exact info_dataR _ hk8
      have KAq : Hid (∀ D X, Keeps D X → ∀ w', LvR w3 w' p q ib c 1 S D X → Calls Try.prog 10 #[.pointer (some ⟨q, 0, none⟩), .int .i64 op, .int .u64 id, .int .i64 ai, .agg (cw (datL xn)), .int .i64 fr, .int .i64 te] w' fun e w' => e = .returned (.tuple #[.agg xs.toArray, .bool bi]) ∧ LvR w3 w' p q ib c 1 S2 D X) := Lib.hid fun D X hK w' h => by
        have := KAp.out D X hK w' h
        rw [HKT.out.1, hk2, cw_eq (knowB bi ui).1, hxs] at this
        exact this
      have HNX := Lib.hid HKT.out.2
      have KD := Lib.hid (fun w' => ldata_any xn HN4.out w')
      have HDL := Lib.hid (datL_len xn)
      generalize datL xn = dl at *
      have wj3 : IntKind.u64.wrap (id : Int) = (id : Int) := by rw [IntKind.wrap_u64]; omega
      have j0 : (0 : Int) ≤ (id : Int) := by omega
      have j1 : (id : Int) < 8 := by omega
      obtain ⟨XX, hXX⟩ : ∃ XX : World → Prop, XX = (KpX 3 4 41 G1 G2 G3 al bl ul) := ⟨_, rfl⟩
      have HSX : Hid (∀ w', XX w' → Below w3.heap.size w3 w' → w'.cell? ⟨b, off + k * 6 + 3, none⟩ = some (.int .u64 xn) ∧ w'.cell? ⟨G1, id, none⟩ = some (.int .i64 fr)) := Lib.hid fun w' h hb => by rw [hXX] at h; exact ⟨(HLC.out w' hb).2.2.2.2.1, (h.1.1.cell id).trans HALa.out⟩
      have hd := HLs.out.below (HKP.out al bl ul) ((Below.refl _ _).drew)
      have HKX := Lib.hid (HKP.out al bl ul)
      have HOUT : Hid (∀ w' V, LvR w3 w' p q ib c 1 S2 (fun k => (KpD G1 G2 G3) k ∨ k = V) (fun w => XX w ∧ Blk w V xs.toArray 41) → LvR w3 w' p q ib c 1 S2 (fun k => (KpD G1 G2 G3) k ∨ k = V) (fun w => (KpX 3 4 41 G1 G2 G3 al bl ul) w ∧ Blk w V xs.toArray 41)) := Lib.hid fun w' V h => by
        rw [hXX] at h
        exact h
      rw [← hXX] at hd HKX
      clear KAp HALa hS2 hfre hXX HLs HKT KA hk2
      go_upto_region 20 with fail
      go_cut [19, 20] (fun bv tv wx => ∃ V : Nat, bv = .pointer (some ⟨V, 0, none⟩) ∧ tv = .bool bi ∧ Hid (LvR w3 wx p q ib c 1 S2 (fun k => (KpD G1 G2 G3) k ∨ k = V) (fun w => XX w ∧ Blk w V xs.toArray 41) ∧ (∀ k, (KpD G1 G2 G3) k → k ≠ V) ∧ w3.heap.size ≤ V))
      case first =>
        refine wp_region_held_drew (S := (fun w' => w'.cell? ⟨b, off + k * 6 + 3, none⟩ = some (.int .u64 xn) ∧ w'.cell? ⟨G1, id, none⟩ = some (.int .i64 fr))) (by as_aux_lemma => kernel_rfl) (HSX.out _ hd.one.x.1 hd.one.old) (fun hHeld => ?_)
        refine wpAnyH_take (i := 0) (oi := _) (v := ?_) rfl (by as_aux_lemma => kernel_rfl) (by as_aux_lemma => kernel_rfl) (by as_aux_lemma => kernel_rfl) (fun _ _ _ h => h) (Or.inl ⟨by rfl, ?_⟩) (by assumption) ?_
        rotate_left
        · (intro wS hSw; (try dsimp only at hSw); go_simp; try with_reducible rfl)
        try simp only [Act.put, List.setIfInBounds_toArray, List.set_cons_zero, List.set_cons_succ]
        refine wpAnyH_take (i := 1) (oi := _) (v := ?_) rfl (by as_aux_lemma => kernel_rfl) (by as_aux_lemma => kernel_rfl) (by as_aux_lemma => kernel_rfl) (fun _ _ _ h => h) (Or.inl ⟨by rfl, ?_⟩) (by assumption) ?_
        rotate_left
        · (intro wS hSw; (try dsimp only at hSw); go_simp; try with_reducible rfl)
        try simp only [Act.put, List.setIfInBounds_toArray, List.set_cons_zero, List.set_cons_succ]
        refine wpAnyH_take (i := 2) (oi := _) (v := ?_) rfl (by as_aux_lemma => kernel_rfl) (by as_aux_lemma => kernel_rfl) (by as_aux_lemma => kernel_rfl) (fun _ _ _ h => h) (Or.inl ⟨by rfl, ?_⟩) (by assumption) ?_
        rotate_left
        · (intro wS hSw; (try dsimp only at hSw); go_simp; try with_reducible rfl)
        try simp only [Act.put, List.setIfInBounds_toArray, List.set_cons_zero, List.set_cons_succ]
        refine wpAnyH_take (i := 3) (oi := _) (v := ?_) rfl (by as_aux_lemma => kernel_rfl) (by as_aux_lemma => kernel_rfl) (by as_aux_lemma => kernel_rfl) (fun _ _ _ h => h) (Or.inl ⟨by rfl, ?_⟩) (by assumption) ?_
        rotate_left
        · (intro wS hSw; (try dsimp only at hSw); go_simp; try with_reducible rfl)
        try simp only [Act.put, List.setIfInBounds_toArray, List.set_cons_zero, List.set_cons_succ]
        refine wpAnyH_take (i := 4) (oi := _) (v := ?_) rfl (by as_aux_lemma => kernel_rfl) (by as_aux_lemma => kernel_rfl) (by as_aux_lemma => kernel_rfl) (fun _ _ _ h => h) (Or.inl ⟨by rfl, ?_⟩) (by assumption) ?_
        rotate_left
        · (intro wS hSw; (try dsimp only at hSw); go_simp; try with_reducible rfl)
        try simp only [Act.put, List.setIfInBounds_toArray, List.set_cons_zero, List.set_cons_succ]
        refine wpAnyH_take (i := 5) (oi := _) (v := ?_) rfl (by as_aux_lemma => kernel_rfl) (by as_aux_lemma => kernel_rfl) (by as_aux_lemma => kernel_rfl) (fun _ _ _ h => h) (Or.inl ⟨by rfl, ?_⟩) (by assumption) ?_
        rotate_left
        · (intro wS hSw; (try dsimp only at hSw); go_simp; try with_reducible rfl)
        try simp only [Act.put, List.setIfInBounds_toArray, List.set_cons_zero, List.set_cons_succ]
        refine wpAnyH_take (i := 6) (oi := _) (v := ?_) rfl (by as_aux_lemma => kernel_rfl) (by as_aux_lemma => kernel_rfl) (by as_aux_lemma => kernel_rfl) (fun _ _ _ h => h) (Or.inl ⟨by rfl, ?_⟩) (by assumption) ?_
        rotate_left
        · (intro wS hSw; (try dsimp only at hSw); go_simp; try with_reducible rfl)
        try simp only [Act.put, List.setIfInBounds_toArray, List.set_cons_zero, List.set_cons_succ]
        refine wpAnyH_take (i := 7) (oi := _) (v := ?_) rfl (by as_aux_lemma => kernel_rfl) (by as_aux_lemma => kernel_rfl) (by as_aux_lemma => kernel_rfl) (fun _ _ _ h => h) (Or.inl ⟨by rfl, ?_⟩) (by assumption) ?_
        rotate_left
        · (intro wS hSw; (try dsimp only at hSw); go_simp; try with_reducible rfl)
        try simp only [Act.put, List.setIfInBounds_toArray, List.set_cons_zero, List.set_cons_succ]
        refine wpAnyH_take (i := 8) (oi := _) (v := ?_) rfl (by as_aux_lemma => kernel_rfl) (by as_aux_lemma => kernel_rfl) (by as_aux_lemma => kernel_rfl) (fun _ _ _ h => h) (Or.inl ⟨by rfl, ?_⟩) (by assumption) ?_
        rotate_left
        · (intro wS hSw; (try dsimp only at hSw); go_simp; try with_reducible rfl)
        try simp only [Act.put, List.setIfInBounds_toArray, List.set_cons_zero, List.set_cons_succ]
        refine wpAnyH_take (i := 9) (oi := _) (v := ?_) rfl (by as_aux_lemma => kernel_rfl) (by as_aux_lemma => kernel_rfl) (by as_aux_lemma => kernel_rfl) (fun _ _ _ h => h) (Or.inl ⟨by rfl, ?_⟩) (by assumption) ?_
        rotate_left
        · (intro wS hSw; (try dsimp only at hSw); go_simp; try with_reducible rfl)
        try simp only [Act.put, List.setIfInBounds_toArray, List.set_cons_zero, List.set_cons_succ]
        refine wpAnyH_take (i := 11) (oi := _) (v := ?_) rfl (by as_aux_lemma => kernel_rfl) (by as_aux_lemma => kernel_rfl) (by as_aux_lemma => kernel_rfl) (fun _ _ _ h => h) (Or.inl ⟨by rfl, ?_⟩) (by assumption) ?_
        rotate_left
        · (intro wS hSw; (try dsimp only at hSw); go_simp; try with_reducible rfl)
        try simp only [Act.put, List.setIfInBounds_toArray, List.set_cons_zero, List.set_cons_succ]
        refine wpAnyH_take (i := 12) (oi := _) (v := ?_) rfl (by as_aux_lemma => kernel_rfl) (by as_aux_lemma => kernel_rfl) (by as_aux_lemma => kernel_rfl) (fun _ _ _ h => h) (Or.inl ⟨by rfl, ?_⟩) (by assumption) ?_
        rotate_left
        · (intro wS hSw; (try dsimp only at hSw); go_simp; try with_reducible rfl)
        try simp only [Act.put, List.setIfInBounds_toArray, List.set_cons_zero, List.set_cons_succ]
        refine wpAnyH_take (i := 13) (oi := _) (v := ?_) rfl (by as_aux_lemma => kernel_rfl) (by as_aux_lemma => kernel_rfl) (by as_aux_lemma => kernel_rfl) (fun _ _ _ h => h) (Or.inl ⟨by rfl, ?_⟩) (by assumption) ?_
        rotate_left
        · (intro wS hSw; (try dsimp only at hSw); go_simp; try with_reducible rfl)
        try simp only [Act.put, List.setIfInBounds_toArray, List.set_cons_zero, List.set_cons_succ]
        refine wpAnyH_take (i := 14) (oi := _) (v := ?_) rfl (by as_aux_lemma => kernel_rfl) (by as_aux_lemma => kernel_rfl) (by as_aux_lemma => kernel_rfl) (fun _ _ _ h => h) (Or.inl ⟨by rfl, ?_⟩) (by assumption) ?_
        rotate_left
        · (intro wS hSw; (try dsimp only at hSw); go_simp; try with_reducible rfl)
        try simp only [Act.put, List.setIfInBounds_toArray, List.set_cons_zero, List.set_cons_succ]
        refine wpAnyH_take (i := 15) (oi := _) (v := ?_) rfl (by as_aux_lemma => kernel_rfl) (by as_aux_lemma => kernel_rfl) (by as_aux_lemma => kernel_rfl) (fun _ _ _ h => h) (Or.inl ⟨by rfl, ?_⟩) (by assumption) ?_
        rotate_left
        · (intro wS hSw; (try dsimp only at hSw); go_simp; try with_reducible rfl)
        try simp only [Act.put, List.setIfInBounds_toArray, List.set_cons_zero, List.set_cons_succ]
        refine wpAnyH_ready (rs := [10, 20]) (by as_aux_lemma => kernel_rfl) (by simp) ?_
        refine (AllReadyH.cons (o := _) rfl (fun K hK => ?_) (AllReadyH.cons (o := _) rfl (fun K hK => ?_) AllReadyH.nil))
        focus
          go_simp
          refine (KD.out _).mono ?_
          rintro e wx1 ⟨rfl, hbx1⟩
          have k1 := hd.below HKX.out hbx1
          refine hK.out _ _ (HSX.out _ k1.one.x.1 k1.one.old) (fun hHeld => ?_)
          clear hK K
          try simp only [Act.put, List.setIfInBounds_toArray, List.set_cons_zero, List.set_cons_succ]
          refine wpAnyH_ready (rs := [16, 20]) (by as_aux_lemma => kernel_rfl) (by simp) ?_
          refine (AllReadyH.cons (o := _) rfl (fun K hK => ?_) (AllReadyH.cons (o := _) rfl (fun K hK => ?_) AllReadyH.nil))
          focus
            go_simp
            refine (KAq.out _ _ HKX.out _ k1).mono ?_
            rintro e wx2 ⟨rfl, k2⟩
            refine hK.out _ _ (HSX.out _ k2.one.x.1 k2.one.old) (fun hHeld => ?_)
            clear hK K
            try simp only [Act.put, List.setIfInBounds_toArray, List.set_cons_zero, List.set_cons_succ]
            refine wpAnyH_take (i := 17) (oi := _) (v := ?_) rfl (by as_aux_lemma => kernel_rfl) (by as_aux_lemma => kernel_rfl) (by as_aux_lemma => kernel_rfl) (fun _ _ _ h => h) (Or.inl ⟨by rfl, ?_⟩) (by assumption) ?_
            rotate_left
            · (intro wS hSw; (try dsimp only at hSw); go_simp; try with_reducible rfl)
            try simp only [Act.put, List.setIfInBounds_toArray, List.set_cons_zero, List.set_cons_succ]
            refine wpAnyH_take (i := 18) (oi := _) (v := ?_) rfl (by as_aux_lemma => kernel_rfl) (by as_aux_lemma => kernel_rfl) (by as_aux_lemma => kernel_rfl) (fun _ _ _ h => h) (Or.inl ⟨by rfl, ?_⟩) (by assumption) ?_
            rotate_left
            · (intro wS hSw; (try dsimp only at hSw); go_simp; try with_reducible rfl)
            try simp only [Act.put, List.setIfInBounds_toArray, List.set_cons_zero, List.set_cons_succ]
            refine wpAnyH_take (i := 19) (oi := _) (v := ?_) rfl (by as_aux_lemma => kernel_rfl) (by as_aux_lemma => kernel_rfl) (by as_aux_lemma => kernel_rfl) (fun _ _ _ h => h) (Or.inl ⟨by rfl, ?_⟩) (by assumption) ?_
            rotate_left
            · (intro wS hSw; (try dsimp only at hSw); go_simp; try with_reducible rfl)
            try simp only [Act.put, List.setIfInBounds_toArray, List.set_cons_zero, List.set_cons_succ]
            refine wpAnyH_ready (rs := [20]) (by as_aux_lemma => kernel_rfl) (by simp) ?_
            refine (AllReadyH.cons (o := _) rfl (fun K hK => ?_) AllReadyH.nil)
            focus
              go_simp
              have k3 := LvB.new HKX.out k2
              try simp only [World.size_alloc] at k3
              refine hK.out _ _ (HSX.out _ k3.x k3.one.one.old) (fun hHeld => ?_)
              clear hK K
              try simp only [Act.put, List.setIfInBounds_toArray, List.set_cons_zero, List.set_cons_succ]
              refine wpAnyH_ready (rs := [21]) (by as_aux_lemma => kernel_rfl) (by simp) ?_
              refine (AllReadyH.cons (o := _) rfl (fun K hK => ?_) AllReadyH.nil)
              focus
                rw [if_pos (by rfl)]
                refine wp_store_mid _ _ _ rfl _ 0 xs.toArray rfl rfl (k3.there xs hlx) hix (all_oneCell_toArray hox) ?_
                refine hK.out _ _ (HSX.out _ (k3.fill xs hlx).one.x.1.1 (k3.fill xs hlx).one.old) (fun hHeld => ?_)
                clear hK K
                try simp only [Act.put, List.setIfInBounds_toArray, List.set_cons_zero, List.set_cons_succ]
                refine wpAnyH_take (i := 22) (oi := _) (v := ?_) rfl (by as_aux_lemma => kernel_rfl) (by as_aux_lemma => kernel_rfl) (by as_aux_lemma => kernel_rfl) (fun _ _ _ h => h) (Or.inl ⟨by rfl, ?_⟩) (by assumption) ?_
                rotate_left
                · (intro wS hSw; (try dsimp only at hSw); go_simp; try with_reducible rfl)
                try simp only [Act.put, List.setIfInBounds_toArray, List.set_cons_zero, List.set_cons_succ]
                refine wpAnyH_done (by as_aux_lemma => kernel_rfl) ?_ _
                go_wp2_with fail
                go_meet
                exact ⟨_, rfl, rfl, Lib.hid ⟨k3.fill xs hlx, k3.ne, k3.ge⟩⟩
          focus
            go_simp
            have k2 := LvB.new HKX.out k1
            try simp only [World.size_alloc] at k2
            refine hK.out _ _ (HSX.out _ k2.x k2.one.one.old) (fun hHeld => ?_)
            clear hK K
            try simp only [Act.put, List.setIfInBounds_toArray, List.set_cons_zero, List.set_cons_succ]
            refine wpAnyH_ready (rs := [16]) (by as_aux_lemma => kernel_rfl) (by simp) ?_
            refine (AllReadyH.cons (o := _) rfl (fun K hK => ?_) AllReadyH.nil)
            focus
              go_simp
              refine (k2.call (fun D' X' hK' h' => KAq.out D' X' hK' _ h')).mono ?_
              rintro e wx3 ⟨rfl, k3⟩
              refine hK.out _ _ (HSX.out _ k3.x k3.one.one.old) (fun hHeld => ?_)
              clear hK K
              try simp only [Act.put, List.setIfInBounds_toArray, List.set_cons_zero, List.set_cons_succ]
              refine wpAnyH_take (i := 17) (oi := _) (v := ?_) rfl (by as_aux_lemma => kernel_rfl) (by as_aux_lemma => kernel_rfl) (by as_aux_lemma => kernel_rfl) (fun _ _ _ h => h) (Or.inl ⟨by rfl, ?_⟩) (by assumption) ?_
              rotate_left
              · (intro wS hSw; (try dsimp only at hSw); go_simp; try with_reducible rfl)
              try simp only [Act.put, List.setIfInBounds_toArray, List.set_cons_zero, List.set_cons_succ]
              refine wpAnyH_take (i := 18) (oi := _) (v := ?_) rfl (by as_aux_lemma => kernel_rfl) (by as_aux_lemma => kernel_rfl) (by as_aux_lemma => kernel_rfl) (fun _ _ _ h => h) (Or.inl ⟨by rfl, ?_⟩) (by assumption) ?_
              rotate_left
              · (intro wS hSw; (try dsimp only at hSw); go_simp; try with_reducible rfl)
              try simp only [Act.put, List.setIfInBounds_toArray, List.set_cons_zero, List.set_cons_succ]
              refine wpAnyH_take (i := 19) (oi := _) (v := ?_) rfl (by as_aux_lemma => kernel_rfl) (by as_aux_lemma => kernel_rfl) (by as_aux_lemma => kernel_rfl) (fun _ _ _ h => h) (Or.inl ⟨by rfl, ?_⟩) (by assumption) ?_
              rotate_left
              · (intro wS hSw; (try dsimp only at hSw); go_simp; try with_reducible rfl)
              try simp only [Act.put, List.setIfInBounds_toArray, List.set_cons_zero, List.set_cons_succ]
              refine wpAnyH_ready (rs := [21]) (by as_aux_lemma => kernel_rfl) (by simp) ?_
              refine (AllReadyH.cons (o := _) rfl (fun K hK => ?_) AllReadyH.nil)
              focus
                rw [if_pos (by rfl)]
                refine wp_store_mid _ _ _ rfl _ 0 xs.toArray rfl rfl (k3.there xs hlx) hix (all_oneCell_toArray hox) ?_
                refine hK.out _ _ (HSX.out _ (k3.fill xs hlx).one.x.1.1 (k3.fill xs hlx).one.old) (fun hHeld => ?_)
                clear hK K
                try simp only [Act.put, List.setIfInBounds_toArray, List.set_cons_zero, List.set_cons_succ]
                refine wpAnyH_take (i := 22) (oi := _) (v := ?_) rfl (by as_aux_lemma => kernel_rfl) (by as_aux_lemma => kernel_rfl) (by as_aux_lemma => kernel_rfl) (fun _ _ _ h => h) (Or.inl ⟨by rfl, ?_⟩) (by assumption) ?_
                rotate_left
                · (intro wS hSw; (try dsimp only at hSw); go_simp; try with_reducible rfl)
                try simp only [Act.put, List.setIfInBounds_toArray, List.set_cons_zero, List.set_cons_succ]
                refine wpAnyH_done (by as_aux_lemma => kernel_rfl) ?_ _
                go_wp2_with fail
                go_meet
                exact ⟨_, rfl, rfl, Lib.hid ⟨k3.fill xs hlx, k3.ne, k3.ge⟩⟩
        focus
          go_simp
          have k1 := LvB.new HKX.out hd
          try simp only [World.size_alloc] at k1
          refine hK.out _ _ (HSX.out _ k1.x k1.one.one.old) (fun hHeld => ?_)
          clear hK K
          try simp only [Act.put, List.setIfInBounds_toArray, List.set_cons_zero, List.set_cons_succ]
          refine wpAnyH_ready (rs := [10]) (by as_aux_lemma => kernel_rfl) (by simp) ?_
          refine (AllReadyH.cons (o := _) rfl (fun K hK => ?_) AllReadyH.nil)
          focus
            go_simp
            refine (KD.out _).mono ?_
            rintro e wx1 ⟨rfl, hbx1⟩
            have k2 := k1.below hbx1
            refine hK.out _ _ (HSX.out _ k2.x k2.one.one.old) (fun hHeld => ?_)
            clear hK K
            try simp only [Act.put, List.setIfInBounds_toArray, List.set_cons_zero, List.set_cons_succ]
            refine wpAnyH_ready (rs := [16]) (by as_aux_lemma => kernel_rfl) (by simp) ?_
            refine (AllReadyH.cons (o := _) rfl (fun K hK => ?_) AllReadyH.nil)
            focus
              go_simp
              refine (k2.call (fun D' X' hK' h' => KAq.out D' X' hK' _ h')).mono ?_
              rintro e wx3 ⟨rfl, k3⟩
              refine hK.out _ _ (HSX.out _ k3.x k3.one.one.old) (fun hHeld => ?_)
              clear hK K
              try simp only [Act.put, List.setIfInBounds_toArray, List.set_cons_zero, List.set_cons_succ]
              refine wpAnyH_take (i := 17) (oi := _) (v := ?_) rfl (by as_aux_lemma => kernel_rfl) (by as_aux_lemma => kernel_rfl) (by as_aux_lemma => kernel_rfl) (fun _ _ _ h => h) (Or.inl ⟨by rfl, ?_⟩) (by assumption) ?_
              rotate_left
              · (intro wS hSw; (try dsimp only at hSw); go_simp; try with_reducible rfl)
              try simp only [Act.put, List.setIfInBounds_toArray, List.set_cons_zero, List.set_cons_succ]
              refine wpAnyH_take (i := 18) (oi := _) (v := ?_) rfl (by as_aux_lemma => kernel_rfl) (by as_aux_lemma => kernel_rfl) (by as_aux_lemma => kernel_rfl) (fun _ _ _ h => h) (Or.inl ⟨by rfl, ?_⟩) (by assumption) ?_
              rotate_left
              · (intro wS hSw; (try dsimp only at hSw); go_simp; try with_reducible rfl)
              try simp only [Act.put, List.setIfInBounds_toArray, List.set_cons_zero, List.set_cons_succ]
              refine wpAnyH_take (i := 19) (oi := _) (v := ?_) rfl (by as_aux_lemma => kernel_rfl) (by as_aux_lemma => kernel_rfl) (by as_aux_lemma => kernel_rfl) (fun _ _ _ h => h) (Or.inl ⟨by rfl, ?_⟩) (by assumption) ?_
              rotate_left
              · (intro wS hSw; (try dsimp only at hSw); go_simp; try with_reducible rfl)
              try simp only [Act.put, List.setIfInBounds_toArray, List.set_cons_zero, List.set_cons_succ]
              refine wpAnyH_ready (rs := [21]) (by as_aux_lemma => kernel_rfl) (by simp) ?_
              refine (AllReadyH.cons (o := _) rfl (fun K hK => ?_) AllReadyH.nil)
              focus
                rw [if_pos (by rfl)]
                refine wp_store_mid _ _ _ rfl _ 0 xs.toArray rfl rfl (k3.there xs hlx) hix (all_oneCell_toArray hox) ?_
                refine hK.out _ _ (HSX.out _ (k3.fill xs hlx).one.x.1.1 (k3.fill xs hlx).one.old) (fun hHeld => ?_)
                clear hK K
                try simp only [Act.put, List.setIfInBounds_toArray, List.set_cons_zero, List.set_cons_succ]
                refine wpAnyH_take (i := 22) (oi := _) (v := ?_) rfl (by as_aux_lemma => kernel_rfl) (by as_aux_lemma => kernel_rfl) (by as_aux_lemma => kernel_rfl) (fun _ _ _ h => h) (Or.inl ⟨by rfl, ?_⟩) (by assumption) ?_
                rotate_left
                · (intro wS hSw; (try dsimp only at hSw); go_simp; try with_reducible rfl)
                try simp only [Act.put, List.setIfInBounds_toArray, List.set_cons_zero, List.set_cons_succ]
                refine wpAnyH_done (by as_aux_lemma => kernel_rfl) ?_ _
                go_wp2_with fail
                go_meet
                exact ⟨_, rfl, rfl, Lib.hid ⟨k3.fill xs hlx, k3.ne, k3.ge⟩⟩
      case rest =>
      obtain ⟨V, rfl, rfl, HV2⟩ := hcut
      generalize wc = wz at *
      have HLz := Lib.hid (HOUT.out _ _ HV2.out.1)
      clear HV2 HOUT hd HKX HSX KAq
      have KO := Lib.hid (lOver_any p q ib c 1 S2.over wz HLz.out.lv.1)
      obtain ⟨ov, hov⟩ : ∃ ov, S2.over = ov := ⟨_, rfl⟩
      rw [hov] at KO HNX
      clear hov
      go_wp2_with fail
      refine KO.out.mono ?_
      rintro e wo ⟨rfl, rfl⟩
      cases ov with
      | true =>
        have HBE := Lib.hid (HCF.out _ HLz.out.one.old).2.2.2
        clear HLz
        go_wp2
        go_ret
        exact ⟨rfl, HBE.out⟩
      | false =>
      have HNK := Lib.hid (HNX.out rfl)
      clear HNX KO
      obtain ⟨y0, y1, y2, y3, y4, y5, y6, y7, rfl⟩ := eightL HU8.out
      have HKV := Lib.hid (keeps_and (HKP.out al bl ul) (keeps_blk V xs.toArray 41))
      have HXS := Lib.hid hxs
      have c2i : wo.cell? ⟨G2, id, none⟩ = some (.bool bi) := (HLz.out.one.x.1.1.1.2.cell id).trans HALb.out
      go_upto_region 23 with fail
      go_cut [140] (fun bv wx => bv = .bool false ∧ Hid (LvR w3 wx p q ib c 1 S2 (fun k => (KpD G1 G2 G3) k ∨ k = V) (fun w => (KpX 3 4 41 G1 G2 G3 al bl ul) w ∧ Blk w V xs.toArray 41)))
      case first =>
        as_aux_lemma =>
          cases bi with
          | true =>
            have hxx : xs = [.int .u64 y0, .int .u64 y1, .int .u64 y2, .int .u64 y3, .int .u64 y4, .int .u64 y5, .int .u64 y6, .int .u64 y7] := by rw [← HXS.out]; rfl
            subst hxx
            have cv0 : wo.cell? ⟨V, 0, none⟩ = some (.int .u64 y0) := HLz.out.one.x.1.2.cell 0
            have cv1 : wo.cell? ⟨V, 1, none⟩ = some (.int .u64 y1) := HLz.out.one.x.1.2.cell 1
            have cv2 : wo.cell? ⟨V, 2, none⟩ = some (.int .u64 y2) := HLz.out.one.x.1.2.cell 2
            have cv3 : wo.cell? ⟨V, 3, none⟩ = some (.int .u64 y3) := HLz.out.one.x.1.2.cell 3
            have cv4 : wo.cell? ⟨V, 4, none⟩ = some (.int .u64 y4) := HLz.out.one.x.1.2.cell 4
            have cv5 : wo.cell? ⟨V, 5, none⟩ = some (.int .u64 y5) := HLz.out.one.x.1.2.cell 5
            have cv6 : wo.cell? ⟨V, 6, none⟩ = some (.int .u64 y6) := HLz.out.one.x.1.2.cell 6
            have cv7 : wo.cell? ⟨V, 7, none⟩ = some (.int .u64 y7) := HLz.out.one.x.1.2.cell 7
            have cg0 : wo.cell? ⟨G3, id * 8, none⟩ = some (.int .u64 y0) := (HLz.out.one.x.1.1.2.cell (id * 8 + 0)).trans (by rw [List.getElem?_toArray]; exact HALu.out 0 (by decide))
            have cg1 : wo.cell? ⟨G3, id * 8 + 1, none⟩ = some (.int .u64 y1) := (HLz.out.one.x.1.1.2.cell (id * 8 + 1)).trans (by rw [List.getElem?_toArray]; exact HALu.out 1 (by decide))
            have cg2 : wo.cell? ⟨G3, id * 8 + 2, none⟩ = some (.int .u64 y2) := (HLz.out.one.x.1.1.2.cell (id * 8 + 2)).trans (by rw [List.getElem?_toArray]; exact HALu.out 2 (by decide))
            have cg3 : wo.cell? ⟨G3, id * 8 + 3, none⟩ = some (.int .u64 y3) := (HLz.out.one.x.1.1.2.cell (id * 8 + 3)).trans (by rw [List.getElem?_toArray]; exact HALu.out 3 (by decide))
            have cg4 : wo.cell? ⟨G3, id * 8 + 4, none⟩ = some (.int .u64 y4) := (HLz.out.one.x.1.1.2.cell (id * 8 + 4)).trans (by rw [List.getElem?_toArray]; exact HALu.out 4 (by decide))
            have cg5 : wo.cell? ⟨G3, id * 8 + 5, none⟩ = some (.int .u64 y5) := (HLz.out.one.x.1.1.2.cell (id * 8 + 5)).trans (by rw [List.getElem?_toArray]; exact HALu.out 5 (by decide))
            have cg6 : wo.cell? ⟨G3, id * 8 + 6, none⟩ = some (.int .u64 y6) := (HLz.out.one.x.1.1.2.cell (id * 8 + 6)).trans (by rw [List.getElem?_toArray]; exact HALu.out 6 (by decide))
            have cg7 : wo.cell? ⟨G3, id * 8 + 7, none⟩ = some (.int .u64 y7) := (HLz.out.one.x.1.1.2.cell (id * 8 + 7)).trans (by rw [List.getElem?_toArray]; exact HALu.out 7 (by decide))
            have EQX : ∀ w, (Op.equalIn 10000 41 (.agg #[.int .u64 y0, .int .u64 y1, .int .u64 y2, .int .u64 y3, .int .u64 y4, .int .u64 y5, .int .u64 y6, .int .u64 y7]) (.agg #[.int .u64 y0, .int .u64 y1, .int .u64 y2, .int .u64 y3, .int .u64 y4, .int .u64 y5, .int .u64 y6, .int .u64 y7])).run Try.prog w = .ok true w := fun w => by
              have h := run_eqdata [y0, y1, y2, y3, y4, y5, y6, y7] [y0, y1, y2, y3, y4, y5, y6, y7] rfl rfl w
              rw [decide_eq_true rfl] at h
              exact h
            go_wp2_with fail
            go_quiet (fail)
            have HLf := Lib.hid (HLz.out.below HKV.out (below_drewN' (n := nq) (Below.refl _ _)))
            clear HLz
            go_wp2_with fail
            go_meet
            exact ⟨rfl, HLf⟩
          | false =>
            have hxx : xs = [.int .u64 0, .int .u64 0, .int .u64 0, .int .u64 0, .int .u64 0, .int .u64 0, .int .u64 0, .int .u64 0] := by rw [← HXS.out]; rfl
            subst hxx
            have cv0 : wo.cell? ⟨V, 0, none⟩ = some (.int .u64 0) := HLz.out.one.x.1.2.cell 0
            have cv1 : wo.cell? ⟨V, 1, none⟩ = some (.int .u64 0) := HLz.out.one.x.1.2.cell 1
            have cv2 : wo.cell? ⟨V, 2, none⟩ = some (.int .u64 0) := HLz.out.one.x.1.2.cell 2
            have cv3 : wo.cell? ⟨V, 3, none⟩ = some (.int .u64 0) := HLz.out.one.x.1.2.cell 3
            have cv4 : wo.cell? ⟨V, 4, none⟩ = some (.int .u64 0) := HLz.out.one.x.1.2.cell 4
            have cv5 : wo.cell? ⟨V, 5, none⟩ = some (.int .u64 0) := HLz.out.one.x.1.2.cell 5
            have cv6 : wo.cell? ⟨V, 6, none⟩ = some (.int .u64 0) := HLz.out.one.x.1.2.cell 6
            have cv7 : wo.cell? ⟨V, 7, none⟩ = some (.int .u64 0) := HLz.out.one.x.1.2.cell 7
            have EQ0 : ∀ w, (Op.equalIn 10000 41 (.agg #[.int .u64 0, .int .u64 0, .int .u64 0, .int .u64 0, .int .u64 0, .int .u64 0, .int .u64 0, .int .u64 0]) (.agg #[.int .u64 0, .int .u64 0, .int .u64 0, .int .u64 0, .int .u64 0, .int .u64 0, .int .u64 0, .int .u64 0])).run Try.prog w = .ok true w := fun w => by
              have h := run_eqdata zero8 zero8 rfl rfl w
              rw [decide_eq_true rfl] at h
              exact h
            go_wp2_with fail
            go_quiet (fail)
            have HLf := Lib.hid (HLz.out.below HKV.out (below_drewN' (n := nq) (Below.refl _ _)))
            clear HLz
            go_wp2_with fail
            go_meet
            exact ⟨rfl, HLf⟩
      case rest =>
      obtain ⟨rfl, HLw⟩ := hcut
      generalize wc = wk at *
      have HLk : Hid (LvR w3 wk p q ib c 1 S2 (KpD G1 G2 G3) (KpX 3 4 41 G1 G2 G3 al bl ul)) := Lib.hid (HLw.out.less (fun k hk => .inl hk) (fun _ hx => hx.1))
      clear HLw HLz c2i HKV
      have e3 := (HLC.out _ HLk.out.one.old).2.2.2.2.1
      go_wp2_with fail
      refine (KD.out _).mono ?_
      rintro e gcw ⟨rfl, hbc⟩
      have gc := HLk.out.below (HKP.out al bl ul) hbc
      obtain ⟨V2, hV2⟩ : ∃ V2, gcw.heap.size = V2 := ⟨_, rfl⟩
      have HLTV2 : Hid (∀ k, (KpD G1 G2 G3) k → k < V2) := Lib.hid (fun k hk => by rw [← hV2]; exact gc.lt.1 k hk)
      have HGEV2 : Hid (w3.heap.size ≤ V2) := Lib.hid (by rw [← hV2]; exact gc.one.old.size)
      have hbx := gc.box (HKP.out al bl ul) #[.int .u64 0, .int .u64 0, .int .u64 0, .int .u64 0, .int .u64 0, .int .u64 0, .int .u64 0, .int .u64 0] 41
      have hfl := gc.fill (HKP.out al bl ul) #[.int .u64 0, .int .u64 0, .int .u64 0, .int .u64 0, .int .u64 0, .int .u64 0, .int .u64 0, .int .u64 0] (cw dl) 41
      rw [hV2] at hbx hfl
      have HBX := Lib.hid hbx
      have HFL := Lib.hid hfl
      have HID := Lib.hid (info_dataL dl HDL.out)
      have HOD : Hid ((cw dl).all (·.oneCell') = true) := Lib.hid (cw_all _)
      have HZD := Lib.hid (cw_sz8 HDL.out)
      clear gc hbx hfl KD hbc HLk e3
      go_upto_region 26 with (first
        | (refine wpList_store_row rfl 41 (.tmp 21) (.tmp 146) rfl V2 (cw dl) rfl rfl 41 _ HBX.out.x.2 HID.out HZD.out HOD.out ?_)
        | fail)
      refine at_world (fun w' => LvR w3 w' p q ib c 1 S2 (fun k => (KpD G1 G2 G3) k ∨ k = V2) (fun w => (KpX 3 4 41 G1 G2 G3 al bl ul) w ∧ Blk w V2 (cw dl) 41)) HFL.out ?_
      intro HPw hp
      have HP := Lib.hid hp
      clear hp HBX HFL hV2 HID HOD HZD
      have hDL8 := HDL.out
      have hV2 : V2 ≠ G1 ∧ V2 ≠ G2 ∧ V2 ≠ G3 := by
        have h1 := HLTV2.out G1 (.inl (.inl rfl))
        have h2 := HLTV2.out G2 (.inl (.inr rfl))
        have h3 := HLTV2.out G3 (.inr rfl)
        omega
      have HV2N := Lib.hid hV2
      have HUO : Hid ((knowB bi [y0, y1, y2, y3, y4, y5, y6, y7]).1.length = 8) := Lib.hid hk8
      obtain ⟨uo, huo⟩ : ∃ uo, (knowB bi [y0, y1, y2, y3, y4, y5, y6, y7]).1 = uo := ⟨_, rfl⟩
      rw [huo] at HUO
      have HUOE := Lib.hid huo
      obtain ⟨d0, hd0⟩ : ∃ d0, dl.getD 0 0 = d0 := ⟨_, rfl⟩
      obtain ⟨d1, hd1⟩ : ∃ d1, dl.getD 1 0 = d1 := ⟨_, rfl⟩
      have HD0 : Hid ((cw dl)[0]? = some (.int .u64 d0)) := Lib.hid (by rw [← hd0]; exact cwL_at (by omega))
      have HD1 : Hid ((cw dl)[1]? = some (.int .u64 d1)) := Lib.hid (by rw [← hd1]; exact cwL_at (by omega))
      obtain ⟨uA, huA⟩ : ∃ uA, (if op = 2 then ul.set id ((uo.set ai d0).set (ai + 1) d1) else ul) = uA := ⟨_, rfl⟩
      have HUA := Lib.hid huA
      have HUAL : Hid ((∀ x ∈ uA, x.length = 8) ∧ uA.length = 8) := Lib.hid (by
        rw [← huA]
        split
        · exact ⟨setL_len HUL.out (by rw [List.length_set, List.length_set]; exact HUO.out), by rw [List.length_set]; exact hlu⟩
        · exact ⟨HUL.out, hlu⟩)
      obtain ⟨uB, huB⟩ : ∃ uB, (if op = 1 then ul.set id dl else uA) = uB := ⟨_, rfl⟩
      have HUB : Hid (keepU op id ai dl bl ul = uB) := Lib.hid (by
        unfold keepU
        rw [HBI.out, HUI.out, HUOE.out, ← huB, ← huA, hd0, hd1])
      have HUBE := Lib.hid huB
      have HOP : Hid (op = 0 ∨ op = 1 ∨ op = 2 ∨ op = 3) := Lib.hid (by omega)
      obtain ⟨a1, ha1⟩ : ∃ a1 : Nat, ai + 1 = a1 := ⟨_, rfl⟩
      have wa1 : IntKind.i64.wrap ((ai : Int) + 1) = (a1 : Int) := by rw [IntKind.wrap_i64]; omega
      have i0' : (0 : Int) ≤ (ai : Int) := by omega
      have i1' : (ai : Int) < 8 := by omega
      have i2' : (0 : Int) ≤ (a1 : Int) := by omega
      have i3' : (a1 : Int) < 8 := by omega
      have HA1 := Lib.hid ha1
      have HID8 : Hid ((Try.prog.info? 41).map (·.size) = some (cw dl).size) := Lib.hid (info_dataL dl HDL.out)
      have HOD8 : Hid ((cw dl).all (·.oneCell') = true) := Lib.hid (cw_all _)
      clear huA huB huo hd0 hd1 ha1 hk8 hxs hlx hox hix HXS
      go_upto_if 148 with fail
      go_cut [] (fun wx => Hid (LvR w3 wx p q ib c 1 S2 (fun k => (KpD G1 G2 G3) k ∨ k = V2) (fun w => (KpX 3 4 41 G1 G2 G3 al bl uA) w ∧ Blk w V2 (cw dl) 41)))
      case first =>
        as_aux_lemma =>
          by_cases ho2 : op = 2
          · have d148 : (op == 2) = true := beq_iff_eq.2 ho2
            have d148' : decide (op = 2) = true := decide_eq_true ho2
            have HO2 := Lib.hid ho2
            clear ho2
            have c2i : HPw.cell? ⟨G2, id, none⟩ = some (.bool bi) := (HP.out.one.x.1.1.1.2.cell id).trans HALb.out
            go_upto_if 153 with fail
            go_cut [] (fun wx => Hid (LvR w3 wx p q ib c 1 S2 (fun k => (KpD G1 G2 G3) k ∨ k = V2) (fun w => (KpX 3 4 41 G1 G2 G3 al bl (ul.set id uo)) w ∧ Blk w V2 (cw dl) 41)))
            case first =>
              as_aux_lemma =>
                cases bi with
                | true =>
                  have e : ul.set id uo = ul := by
                    rw [← HUOE.out]
                    show ul.set id [y0, y1, y2, y3, y4, y5, y6, y7] = ul
                    rw [← HUI.out, List.getD_eq_getElem?_getD, List.getElem?_eq_getElem (show id < ul.length by omega)]
                    exact List.set_getElem_self _
                  have HP2 := HP
                  rw [← e] at HP2
                  clear e
                  clear c2i
                  go_wp2_with fail
                  go_meet
                  exact HP2
                | false =>
                  have hz : uo = zero8 := by rw [← HUOE.out]; rfl
                  have HT3 := Lib.hid (blk_there (HP.out.one.x.1.1.2) (id * 8) 8 (by rw [List.size_toArray, flat8_len ul HUL.out]; omega))
                  have HIZ : Hid ((Try.prog.info? 41).map (·.size) = some (#[.int .u64 0, .int .u64 0, .int .u64 0, .int .u64 0, .int .u64 0, .int .u64 0, .int .u64 0, .int .u64 0] : Array Value).size) := Lib.hid (by kernel_rfl)
                  have HP2 := Lib.hid (HP.out.pokes (Y := fun w => (KpX 3 4 41 G1 G2 G3 al bl (ul.set id uo)) w ∧ Blk w V2 (cw dl) 41) (b := G3) (.inl (.inr rfl)) HGG.out.2.2.2.2.2 (id * 8) (wv zero8) ⟨by rw [hz]; exact kp_row3 HP.out.one.x.1.1 HGG.out.2.1 HGG.out.2.2.1 HUL.out (by omega) rfl, Blk_keep HP.out.one.x.1.2 (heap_setCells_neL _ _ _ V2 HV2N.out.2.2)⟩)
                  clear c2i
                  go_wp2_with (first
                    | (refine wpList_store_mid rfl 41 (.tmp 157) (.tmp 156) rfl G3 (id * 8) #[.int .u64 0, .int .u64 0, .int .u64 0, .int .u64 0, .int .u64 0, .int .u64 0, .int .u64 0, .int .u64 0] rfl rfl HT3.out HIZ.out (by simp [Value.oneCell']) ?_)
                    | fail)
                  go_meet
                  exact HP2
            case rest =>
            have HP2 := hcut
            clear hcut
            generalize wc = wp at *
            clear HP c2i
            have hUOl : ∀ x ∈ ul.set id uo, x.length = 8 := setL_len HUL.out HUO.out
            have hUOn : id < (ul.set id uo).length := by rw [List.length_set]; omega
            have hget : (ul.set id uo).getD id zero8 = uo := by rw [getD_setU (by omega), if_pos rfl]
            have hp3 := HP2.out.poke (Y := fun w => (KpX 3 4 41 G1 G2 G3 al bl (ul.set id (uo.set ai d0))) w ∧ Blk w V2 (cw dl) 41) (b := G3) (.inl (.inr rfl)) HGG.out.2.2.2.2.2 (id * 8 + ai) (.int .u64 d0) ⟨by
              have := kp_set3 HP2.out.one.x.1.1 HGG.out.2.1 HGG.out.2.2.1 hUOl hUOn (j := ai) (by omega) d0
              rw [hget, List.set_set] at this
              exact this, HP2.out.one.x.1.2.other _ _ HV2N.out.2.2⟩
            have HP3 := Lib.hid hp3
            have cv0 : wp.cell? ⟨V2, 0, none⟩ = some (.int .u64 d0) := (HP2.out.one.x.1.2.cell 0).trans HD0.out
            have hS1 := (HP3.out.one.x.1.2.cell 0).trans HD0.out
            have hl3 : id * 8 + ai < (flatV wv (ul.set id uo)).length := by rw [flat8_len _ hUOl, List.length_set, hlu]; omega
            have c3a : ∃ z, wp.cell? ⟨G3, id * 8 + ai, none⟩ = some z := by
              have h := HP2.out.one.x.1.1.2.cell (id * 8 + ai)
              rw [List.getElem?_toArray, List.getElem?_eq_getElem hl3] at h
              exact ⟨_, h⟩
            have f3a : wp.frozen? ⟨G3, id * 8 + ai, none⟩ = false := HP2.out.one.x.1.1.2.free (id * 8 + ai)
            obtain ⟨z3, c3a⟩ := c3a
            clear hp3 hUOl hUOn hget hl3
            go_wp2_with fail
            go_region_held3 (fun w' => w'.cell? ⟨V2, 0, none⟩ = some (.int .u64 d0)) (first | exact cv0 | exact hS1) (first | fail)
            obtain ⟨ws2, hws2⟩ : ∃ ws2, (wp.setCell ⟨G3, id * 8 + ai, none⟩ (.int .u64 d0)).drew = ws2 := ⟨_, rfl⟩
            have hp4 := HP3.out.below (keeps_and (HKP.out al bl _) (keeps_blk V2 _ _)) ((Below.refl _ _).drew)
            rw [hws2] at hp4 ⊢
            have HP4 := Lib.hid hp4
            clear hp4 hws2 HP3 HP2 cv0 hS1 c3a f3a
            have hUOl : ∀ x ∈ ul.set id (uo.set ai d0), x.length = 8 := setL_len HUL.out (by rw [List.length_set]; exact HUO.out)
            have hUOn : id < (ul.set id (uo.set ai d0)).length := by rw [List.length_set]; omega
            have hget : (ul.set id (uo.set ai d0)).getD id zero8 = uo.set ai d0 := by rw [getD_setU (by omega), if_pos rfl]
            have hp5 := HP4.out.poke (Y := fun w => (KpX 3 4 41 G1 G2 G3 al bl uA) w ∧ Blk w V2 (cw dl) 41) (b := G3) (.inl (.inr rfl)) HGG.out.2.2.2.2.2 (id * 8 + a1) (.int .u64 d1) ⟨by
              have := kp_set3 HP4.out.one.x.1.1 HGG.out.2.1 HGG.out.2.2.1 hUOl hUOn (j := a1) (by omega) d1
              rw [hget, List.set_set, ← HA1.out] at this
              rw [← HUA.out, if_pos HO2.out, ← HA1.out]
              exact this, HP4.out.one.x.1.2.other _ _ HV2N.out.2.2⟩
            have HP5 := Lib.hid hp5
            have cv1 : ws2.cell? ⟨V2, 1, none⟩ = some (.int .u64 d1) := (HP4.out.one.x.1.2.cell 1).trans HD1.out
            have hS2 := (HP5.out.one.x.1.2.cell 1).trans HD1.out
            have hl3 : id * 8 + a1 < (flatV wv (ul.set id (uo.set ai d0))).length := by rw [flat8_len _ hUOl, List.length_set, hlu]; omega
            have c3b : ∃ z, ws2.cell? ⟨G3, id * 8 + a1, none⟩ = some z := by
              have h := HP4.out.one.x.1.1.2.cell (id * 8 + a1)
              rw [List.getElem?_toArray, List.getElem?_eq_getElem hl3] at h
              exact ⟨_, h⟩
            have f3b : ws2.frozen? ⟨G3, id * 8 + a1, none⟩ = false := HP4.out.one.x.1.1.2.free (id * 8 + a1)
            obtain ⟨z4, c3b⟩ := c3b
            clear hp5 hUOl hUOn hget hl3
            go_wp2_with fail
            go_region_held3 (fun w' => w'.cell? ⟨V2, 1, none⟩ = some (.int .u64 d1)) (first | exact cv1 | exact hS2) (first | fail)
            have HP6 := Lib.hid (HP5.out.below (keeps_and (HKP.out al bl _) (keeps_blk V2 _ _)) ((Below.refl _ _).drew))
            clear HP5 HP4 cv1 hS2 c3b f3b
            go_wp2_with fail
            go_meet
            exact HP6
          · have d148 : (op == 2) = false := beq_eq_false_iff_ne.2 ho2
            have d148' : decide (op = 2) = false := decide_eq_false ho2
            have HP2 := HP
            have e : ul = uA := by rw [← HUA.out, if_neg ho2]
            rw [e] at HP2
            clear e ho2
            go_wp2_with fail
            go_meet
            exact HP2
      case rest =>
      have HPA := hcut
      clear hcut
      generalize wc = wv1 at *
      clear HP
      go_upto_if 174 with fail
      go_cut [] (fun wx => Hid (LvR w3 wx p q ib c 1 S2 (fun k => (KpD G1 G2 G3) k ∨ k = V2) (fun w => (KpX 3 4 41 G1 G2 G3 al bl uB) w ∧ Blk w V2 (cw dl) 41)))
      case first =>
        as_aux_lemma =>
          by_cases ho1 : op = 1
          · have d174 : (op == 1) = true := beq_iff_eq.2 ho1
            have d174' : decide (op = 1) = true := decide_eq_true ho1
            have e : uA = ul := by rw [← HUA.out, if_neg (by omega)]
            have e2 : ul.set id dl = uB := by rw [← HUBE.out, if_pos ho1]
            have HT3 : Hid (wv1.there G3 (id * 8) (cw dl).size) := Lib.hid (by rw [cw_size, hDL8]; exact blk_there (HPA.out.one.x.1.1.2) (id * 8) 8 (by rw [List.size_toArray, flat8_len uA HUAL.out.1, HUAL.out.2]; omega))
            have hp := HPA.out.pokes (Y := fun w => (KpX 3 4 41 G1 G2 G3 al bl uB) w ∧ Blk w V2 (cw dl) 41) (b := G3) (.inl (.inr rfl)) HGG.out.2.2.2.2.2 (id * 8) (wv dl) ⟨by
              have := kp_row3 HPA.out.one.x.1.1 HGG.out.2.1 HGG.out.2.2.1 HUAL.out.1 (i := id) (by rw [HUAL.out.2]; omega) hDL8
              rw [e, e2] at this
              exact this, Blk_keep HPA.out.one.x.1.2 (heap_setCells_neL _ _ _ V2 HV2N.out.2.2)⟩
            have hcl : (cw dl).toList = wv dl := by rw [cw_eq]
            rw [← hcl] at hp
            have HP2 := Lib.hid hp
            clear hp hcl e e2 ho1
            go_wp2_with (first
              | (refine wpList_load_row rfl 41 (.tmp 21) rfl V2 rfl 41 (cw dl) (0, 0) _ HPA.out.one.x.1.2 Try.underlying41 rfl HID8.out ?_)
              | (refine wpList_store_mid rfl 41 (.tmp 178) (.tmp 177) rfl G3 (id * 8) (cw dl) rfl rfl HT3.out HID8.out HOD8.out ?_)
              | fail)
            go_meet
            exact HP2
          · have d174 : (op == 1) = false := beq_eq_false_iff_ne.2 ho1
            have d174' : decide (op = 1) = false := decide_eq_false ho1
            have HP2 := HPA
            have e : uA = uB := by rw [← HUBE.out, if_neg ho1]
            rw [e] at HP2
            clear e ho1
            go_wp2_with fail
            go_meet
            exact HP2
      case rest =>
      have HPB := hcut
      clear hcut
      generalize wc = wv2 at *
      try clear HPA
      obtain ⟨bB, hbB⟩ : ∃ bB, keepB op id bl = bB := ⟨_, rfl⟩
      have HBB := Lib.hid hbB
      have c2 : wv2.cell? ⟨G2, id, none⟩ = some (.bool bi) := (HPB.out.one.x.1.1.1.2.cell id).trans HALb.out
      have f2 : wv2.frozen? ⟨G2, id, none⟩ = false := HPB.out.one.x.1.1.1.2.free id
      have HPK := Lib.hid (fun x => HPB.out.poke (Y := fun w => (KpX 3 4 41 G1 G2 G3 al (bl.set id x) uB) w ∧ Blk w V2 (cw dl) 41) (b := G2) (.inl (.inl (.inr rfl))) HGG.out.2.2.2.2.1 id (.bool x) ⟨kp_set2 HPB.out.one.x.1.1 HGG.out.1 HGG.out.2.2.1 id x, HPB.out.one.x.1.2.other _ _ HV2N.out.2.1⟩)
      clear hbB
      go_upto_region 33 with fail
      go_cut [] (fun wx => Hid (LvR w3 wx p q ib c 1 S2 (fun k => (KpD G1 G2 G3) k ∨ k = V2) (fun w => (KpX 3 4 41 G1 G2 G3 al bB uB) w ∧ Blk w V2 (cw dl) 41)))
      case first =>
        as_aux_lemma =>
          have hbx : ∀ x, (decide (op = 1) || (decide (op = 2) || (decide (op = 0) && bi))) = x → bl.set id x = bB := fun x hx => by
            rw [← HBB.out, ← hx]
            unfold keepB
            rw [HBI.out]
          have HBXX := Lib.hid hbx
          clear hbx HNK HUA HUB HUBE HUAL
          rcases HOP.out with ho | ho | ho | ho
          · have HQ := Lib.hid (HPK.out bi)
            have q0 : (op == 0) = true := by simp [ho]
            have q0' : decide (op = 0) = true := by simp [ho]
            have q1 : (op == 1) = false := by simp [ho]
            have q1' : decide (op = 1) = false := by simp [ho]
            have q2 : (op == 2) = false := by simp [ho]
            have q2' : decide (op = 2) = false := by simp [ho]
            rw [HBXX.out bi (by simp [ho])] at HQ
            clear HPB HPK ho
            go_wp2_with fail
            go_meet
            exact HQ
          · have HQ := Lib.hid (HPK.out true)
            have q0 : (op == 0) = false := by simp [ho]
            have q0' : decide (op = 0) = false := by simp [ho]
            have q1 : (op == 1) = true := by simp [ho]
            have q1' : decide (op = 1) = true := by simp [ho]
            have q2 : (op == 2) = false := by simp [ho]
            have q2' : decide (op = 2) = false := by simp [ho]
            rw [HBXX.out true (by simp [ho])] at HQ
            clear HPB HPK ho
            go_wp2_with fail
            go_meet
            exact HQ
          · have HQ := Lib.hid (HPK.out true)
            have q0 : (op == 0) = false := by simp [ho]
            have q0' : decide (op = 0) = false := by simp [ho]
            have q1 : (op == 1) = false := by simp [ho]
            have q1' : decide (op = 1) = false := by simp [ho]
            have q2 : (op == 2) = true := by simp [ho]
            have q2' : decide (op = 2) = true := by simp [ho]
            rw [HBXX.out true (by simp [ho])] at HQ
            clear HPB HPK ho
            go_wp2_with fail
            go_meet
            exact HQ
          · have HQ := Lib.hid (HPK.out false)
            have q0 : (op == 0) = false := by simp [ho]
            have q0' : decide (op = 0) = false := by simp [ho]
            have q1 : (op == 1) = false := by simp [ho]
            have q1' : decide (op = 1) = false := by simp [ho]
            have q2 : (op == 2) = false := by simp [ho]
            have q2' : decide (op = 2) = false := by simp [ho]
            rw [HBXX.out false (by simp [ho])] at HQ
            clear HPB HPK ho
            go_wp2_with fail
            go_meet
            exact HQ
      case rest =>
      have HPC := hcut
      clear hcut
      generalize wc = wv3 at *
      try clear HPB
      try clear HPK
      clear c2 f2
      have c1 : ∃ z, wv3.cell? ⟨G1, id, none⟩ = some z := ⟨_, (HPC.out.one.x.1.1.1.1.cell id).trans (intsL_at (by omega))⟩
      have f1 : wv3.frozen? ⟨G1, id, none⟩ = false := HPC.out.one.x.1.1.1.1.free id
      obtain ⟨z5, c1⟩ := c1
      have hp9 := HPC.out.poke (Y := fun w => (KpX 3 4 41 G1 G2 G3 (al.set id te) bB uB) w ∧ Blk w V2 (cw dl) 41) (b := G1) (.inl (.inl (.inl rfl))) HGG.out.2.2.2.1 id (.int .i64 te) ⟨kp_set1 HPC.out.one.x.1.1 HGG.out.1 HGG.out.2.1 id te, HPC.out.one.x.1.2.other _ _ HV2N.out.1⟩
      have HP9 := Lib.hid (hp9.less (E := (KpD G1 G2 G3)) (Y := (KpX 3 4 41 G1 G2 G3 (al.set id te) bB uB)) (fun k hk => .inl hk) (fun _ hx => hx.1))
      have HNK2 : Hid (KeepI c S2 (al.set id te) bB uB (k + 1)) := Lib.hid (by have := HNK.out; rwa [HBB.out, HUB.out] at this)
      clear hp9 HPC
      go_wp2_with fail
      go_roundw
      case rel => exact ⟨k + 1, by omega, by go_num, Lib.hid ⟨_, _, _, _, HNK2.out, HP9.out⟩⟩
      case measure => simp [intOf]; omega
    · have hkl : k = l.length := by omega
      have g1 : decide ((k : Int) < (l.length : Int)) = false := decide_eq_false (by omega)
      have g1' : decide (k < l.length) = false := decide_eq_false hlt
      obtain ⟨S, al, bl, ul, hI, hL⟩ := HR.out
      have HBE := Lib.hid (HCF.out _ hL.one.old).2.2.2
      clear hI hL HR
      go_wp2
      go_ret
      exact ⟨rfl, HBE.out⟩
end Go.Proofs.Ythchfdobdghdoaa
