/-
  The walk of the law LevelMoves: a block that is looked at is from then on on the way to its new leaf, or in the stash.
-/
import Derived.Test.YtiimdgdimjjboaaHbp
import Derived.BigQuiet
set_option linter.unusedVariables false
set_option linter.unusedSimpArgs false
set_option linter.unusedSectionVars false
set_option linter.unnecessarySimpa false
namespace Go.Proofs.Ytiimdgdimjjboaa
open Go Go.RowKit Go.Sg
set_option maxHeartbeats 8000000 in
set_option maxRecDepth 100000 in
theorem LevelMoves_walk (n : Int) (v : Value) (l : List Sx) (at' na nb tt : Int) (w : World) (hn : Num n) (hv : SlK sxV w v l) (ho : ∀ x ∈ l, SxOk x) (hat' : Num at') (hna : Word na) (hnb : Word nb) (htt : Num tt) :
    Calls Try.prog 11 #[.int .i64 n, v, .int .i64 at', .int .u64 na, .int .u64 nb, .int .i64 tt] w fun e w' => e = .returned (.bool true) ∧ Below w.heap.size w w' := by
  have KS := Lib.hid (fun w' => lshown_any w')
  have KC := Lib.hid (fun w' => lconfig_any n hn w')
  have HO := Lib.hid ho
  obtain ⟨a, cap, rfl, hmx, hat⟩ := sxV_at hv
  have HAT := Lib.hid hat
  unfold maxLen at hmx
  clear hv ho hat
  by_cases hL3 : 12 < l.length
  · have d3 : decide ((12 : Int) < (l.length : Int)) = true := decide_eq_true (by omega)
    have d3' : decide (12 < l.length) = true := decide_eq_true hL3
    go_enter Try.func11, Try.ntmps11
    go_wp2_with fail
    refine (KS.out _).mono ?_
    rintro e w1 ⟨rfl, hb1⟩
    have HB1 := Lib.hid hb1
    clear hb1
    go_wp2
    go_ret
    exact ⟨rfl, HB1.out⟩
  have d3 : decide ((12 : Int) < (l.length : Int)) = false := decide_eq_false (by omega)
  have d3' : decide (12 < l.length) = false := decide_eq_false hL3
  have HC := Lib.hid (cfg_ok n)
  have KM := Lib.hid (fun w' => lmade_any (cfgL n) HC.out.ok HC.out.new HC.out.lev w')
  have HS0 := Lib.hid (move_start HC.out)
  obtain ⟨b1, b1'⟩ := HC.out.b1
  obtain ⟨c, hc⟩ : ∃ c, cfgL n = c := ⟨_, rfl⟩
  rw [hc] at HC KM HS0 KC b1 b1'
  clear hc
  go_enter Try.func11, Try.ntmps11
  go_wp2_with fail
  refine (KS.out _).mono ?_
  rintro e w1 ⟨rfl, hb1⟩
  have HB1 := Lib.hid hb1
  clear hb1 KS
  go_wp2_with fail
  refine (KC.out _).mono ?_
  rintro e w2 ⟨rfl, hb2⟩
  have HB2 : Hid (Below w.heap.size w w2) := Lib.hid (HB1.out.trans (hb2.mono HB1.out.size))
  clear hb2 KC
  obtain ⟨A, hA⟩ : ∃ A, w2.heap.size = A := ⟨_, rfl⟩
  have hbx : Blk (w2.alloc (.cells #[.int .i64 0, .int .i64 0, .int .i64 0] 55)) A #[.int .i64 0, .int .i64 0, .int .i64 0] 55 := by rw [← hA]; exact Blk.new w2 _ _
  have HBX := Lib.hid hbx
  have HI3 : Hid ((Try.prog.info? 55).map (·.size) = some (#[.int .i64 c.1, .int .i64 c.2.1, .int .i64 c.2.2] : Array Value).size) := Lib.hid (by kernel_rfl)
  have HW3 : Hid (Blk ((w2.alloc (.cells #[.int .i64 0, .int .i64 0, .int .i64 0] 55)).setRow A #[.int .i64 c.1, .int .i64 c.2.1, .int .i64 c.2.2]) A #[.int .i64 c.1, .int .i64 c.2.1, .int .i64 c.2.2] 55 ∧ Below w.heap.size w ((w2.alloc (.cells #[.int .i64 0, .int .i64 0, .int .i64 0] 55)).setRow A #[.int .i64 c.1, .int .i64 c.2.1, .int .i64 c.2.2])) :=
    Lib.hid ⟨HBX.out.setRow _, below_rowS (HB2.out.alloc HB2.out.size _) _ _ (by rw [← hA]; exact HB2.out.size)⟩
  clear hbx
  go_upto_region 5 with (first
    | (refine wpList_store_row rfl 55 (.tmp 14) (.tmp 36) rfl A #[.int .i64 c.1, .int .i64 c.2.1, .int .i64 c.2.2] rfl rfl 55 _ HBX.out HI3.out (by rfl) (by simp [Value.oneCell']) ?_)
    | fail)
  generalize (w2.alloc (.cells #[.int .i64 0, .int .i64 0, .int .i64 0] 55)).setRow A #[.int .i64 c.1, .int .i64 c.2.1, .int .i64 c.2.2] = w3 at *
  have HAWA := Lib.hid HW3.out.1.lt
  have HB3 := Lib.hid HW3.out.2
  have HCF : Hid (∀ w', Below w3.heap.size w3 w' → w'.cell? ⟨A, 0, none⟩ = some (.int .i64 c.1) ∧ w'.cell? ⟨A, 1, none⟩ = some (.int .i64 c.2.1) ∧ w'.cell? ⟨A, 2, none⟩ = some (.int .i64 c.2.2) ∧ Below w.heap.size w w') := Lib.hid fun w' hb => ⟨(HW3.out.1.below hb HAWA.out).cell 0, (HW3.out.1.below hb HAWA.out).cell 1, (HW3.out.1.below hb HAWA.out).cell 2, HW3.out.2.trans (hb.mono HW3.out.2.size)⟩
  clear hA HBX HI3 HB2 HW3 HAWA HB1
  have HIL := Lib.hid (info_lcL c)
  obtain ⟨a0, a1, a2, -⟩ := HCF.out _ (Below.refl _ _)
  go_wp2_with fail
  refine (KM.out _).mono ?_
  rintro e w4 ⟨p, q, ib, rfl, h4⟩
  have H4 := Lib.hid h4
  clear a0 a1 a2 KM h4
  have KA := Lib.hid (fun (D : Nat → Prop) (X : World → Prop) (hK : Keeps D X) (w' : World) (op id at' fr lf : Int) (d : List Int) (hd : d.length = 8 ∧ ∀ x ∈ d, Word x) (hid : Word id) (S : Ls) (k : Nat) (hk : k ≤ 1000) (hS : LsFit c 1 S k) (h : LvR w3 w' p q ib c 1 S D X) => fitAccess hK HC.out 1 (by decide) op id at' fr lf d hd hid q ib S k hk hS h)
  go_wp2_with fail
  go_loopw [17] (fun iv wr => ∃ k : Nat, k ≤ l.length ∧ iv = .int .i64 k ∧ Hid (∃ S, MoveI c S k ∧ LvR w3 wr p q ib c 1 S (fun _ => False) (fun _ => True))) (fun iv _ => l.length - (intOf iv).toNat)
  case atStart => exact ⟨0, by omega, rfl, Lib.hid ⟨_, HS0.out, H4.out⟩⟩
  case round =>
    obtain ⟨k, hk, rfl, HR⟩ := hrel
    by_cases hlt : k < l.length
    · have g1 : decide ((k : Int) < (l.length : Int)) = true := decide_eq_true (by omega)
      have g1' : decide (k < l.length) = true := decide_eq_true hlt
      have k0 : (0 : Int) ≤ (k : Int) := by omega
      have k1 : (k : Int) < (l.length : Int) := by omega
      obtain ⟨S, hI, hL⟩ := HR.out
      have HI := Lib.hid hI
      have HL := Lib.hid hL
      clear hI hL HR
      obtain ⟨b, off, rfl, hlb, hcells⟩ := HAT.out k hlt
      have hx := HO.out l[k] (List.getElem_mem hlt)
      have HCE := Lib.hid hcells
      clear hcells
      generalize l[k] = x at *
      obtain ⟨xo, xi, xa, xn, xf, xt⟩ := x
      simp only at hx HCE
      obtain ⟨n1, n2, n3, n4, n5, n6⟩ := hx
      simp only at n1 n2 n3 n4 n5 n6
      obtain ⟨op, hop⟩ : ∃ op, pickD xo 4 = op := ⟨_, rfl⟩
      have bop := pickD_bd (c := xo) (n := 4) (by omega)
      have KP3 := Lib.hid (fun w' => lpick_any xo 4 n1 (by omega) (by omega) w')
      rw [hop] at bop KP3
      clear hop
      obtain ⟨ai, hai⟩ : ∃ ai, pickD xa 7 = ai := ⟨_, rfl⟩
      have bai := pickD_bd (c := xa) (n := 7) (by omega)
      have KP4 := Lib.hid (fun w' => lpick_any xa 7 n3 (by omega) (by omega) w')
      rw [hai] at bai KP4
      clear hai
      obtain ⟨id, hid, hid0, hid1⟩ : ∃ id, xi.tmod 6 = id ∧ 0 ≤ id ∧ id < 6 := ⟨_, rfl, Int.tmod_nonneg _ n2.1, by rw [Int.tmod_eq_emod_of_nonneg n2.1]; omega⟩
      have hiw : IntKind.u64.wrap id = id := by rw [IntKind.wrap_u64]; omega
      have KD := Lib.hid (fun w' => ldata_any xn n4 w')
      have HNX := Lib.hid (move_step HC.out HI.out (op := op) (id := id) (at' := ai) (d := datL xn) ⟨hid0, hid1⟩ bop (datL_ok xn) bai)
      have KA1 := Lib.hid (fun w' (h : LvR w3 w' p q ib c 1 S (fun _ => False) (fun _ => True)) => KA.out _ _ keeps_true w' op id ai 0 0 (datL xn) (datL_ok xn) ⟨by omega, by omega⟩ S k (by omega) HI.out.fit h)
      obtain ⟨S2, hS2⟩ : ∃ S2, S.acc 1 c op id ai (datL xn) 0 0 = S2 := ⟨_, rfl⟩
      rw [hS2] at HNX KA1
      obtain ⟨tl, htl⟩ : ∃ tl, S.tell 1 c op id ai 0 0 = tl := ⟨_, rfl⟩
      rw [htl] at KA1
      obtain ⟨t1, t2⟩ := tl
      obtain ⟨dl, hdl⟩ : ∃ dl, datL xn = dl := ⟨_, rfl⟩
      rw [hdl] at KA1 KD
      have HF : Hid (∀ S' w', LvR w3 w' p q ib c 1 S' (fun _ => False) (fun _ => True) → w'.cell? ⟨b, off + k * 6, none⟩ = some (.int .i64 xo) ∧ w'.cell? ⟨b, off + k * 6 + 1, none⟩ = some (.int .u64 xi) ∧ w'.cell? ⟨b, off + k * 6 + 2, none⟩ = some (.int .i64 xa) ∧ w'.cell? ⟨b, off + k * 6 + 3, none⟩ = some (.int .u64 xn)) := Lib.hid fun S' w' h => by
        have h1 := HCF.out w' h.one.old
        have h2 := HCE.out w' h1.2.2.2
        exact ⟨h2.1, h2.2.1, h2.2.2.1, h2.2.2.2.1⟩
      have hd := HL.out.below keeps_true ((Below.refl _ _).drew)
      clear hS2 htl hdl n1 n2 n3 n4 n5 n6 HCE
      go_wp2_with fail
      go_region_held3 (fun w' => w'.cell? ⟨b, off + k * 6, none⟩ = some (.int .i64 xo) ∧ w'.cell? ⟨b, off + k * 6 + 1, none⟩ = some (.int .u64 xi) ∧ w'.cell? ⟨b, off + k * 6 + 2, none⟩ = some (.int .i64 xa) ∧ w'.cell? ⟨b, off + k * 6 + 3, none⟩ = some (.int .u64 xn)) (first | exact HF.out _ _ (by assumption)) (first
        | (go_at_call 31; first | (with_reducible refine (KP3.out _).mono ?_; rintro e wx ⟨rfl, rfl⟩) | (with_reducible refine (KP4.out _).mono ?_; rintro e wx ⟨rfl, rfl⟩))
        | (go_at_call 34; with_reducible refine (KD.out _).mono ?_; rintro e wx ⟨rfl, hbx⟩; have hd2 := hd.below keeps_true hbx)
        | (go_at_call 33; with_reducible refine (KA1.out _ hd2).mono ?_; rintro e wy ⟨rfl, hLy⟩))
      all_goals
        have HLy := Lib.hid hLy
        clear hLy hd2 hd HL KD KA1 KP3 KP4 hbx
        go_wp2_with fail
        go_roundw
        case rel => exact ⟨k + 1, by omega, by go_num, Lib.hid ⟨_, HNX.out, HLy.out⟩⟩
        case measure => simp [intOf]; omega
    · have hkl : k = l.length := by omega
      have g1 : decide ((k : Int) < (l.length : Int)) = false := decide_eq_false (by omega)
      have g1' : decide (k < l.length) = false := decide_eq_false hlt
      obtain ⟨S, hI, hL⟩ := HR.out
      have HI := Lib.hid hI
      have HL := Lib.hid hL
      clear hI hL HR H4 HS0 HAT HO
      obtain ⟨te, hte⟩ : ∃ te, pickD tt c.1 = te := ⟨_, rfl⟩
      have bte := pickD_bd (c := tt) (n := c.1) (by omega)
      have KP5 := Lib.hid (fun w' => lpick_any tt c.1 htt (by omega) (by omega) w')
      rw [hte] at bte KP5
      clear hte
      obtain ⟨ai, hai⟩ : ∃ ai : Nat, pickD at' 7 = ai := ⟨(pickD at' 7).toNat, by have := (pickD_bd (c := at') (n := 7) (by omega)).1; omega⟩
      have bai := pickD_bd (c := at') (n := 7) (by omega)
      have KP6 := Lib.hid (fun w' => lpick_any at' 7 hat' (by omega) (by omega) w')
      rw [hai] at bai KP6
      clear hai
      have KDA := Lib.hid (fun w' => ldata_any na hna w')
      have KDB := Lib.hid (fun w' => ldata_any nb hnb w')
      have HDA := Lib.hid (datL_ok na)
      have HDB := Lib.hid (datL_ok nb)
      clear hna hnb htt hat'
      generalize datL na = da at *
      generalize datL nb = db at *
      obtain ⟨S1, e1⟩ : ∃ S1, S1 = S.acc 1 c 3 7 0 zero8 0 0 := ⟨_, rfl⟩
      obtain ⟨S2, e2⟩ : ∃ S2, S2 = S1.acc 1 c 1 7 0 da 0 te := ⟨_, rfl⟩
      obtain ⟨S3, e3⟩ : ∃ S3, S3 = S2.acc 1 c 2 7 ai db te 0 := ⟨_, rfl⟩
      obtain ⟨S4, e4⟩ : ∃ S4, S4 = S3.acc 1 c 0 7 0 zero8 0 te := ⟨_, rfl⟩
      have HEND := Lib.hid (fun ho => move_end HC.out HI.out (te := te) (at' := ai) (x := da) (y := db) bte (by omega) HDA.out HDB.out e1 e2 e3 e4 ho)
      have hf0 := HI.out.fit
      have hf1 := fit_step (op := 3) (id := 7) (at' := 0) (fr := 0) (lf := 0) (d := zero8) HC.out.right (by decide) hf0 (by decide) zero8_ok
      rw [← e1] at hf1
      have hf2 := fit_step (op := 1) (id := 7) (at' := 0) (fr := 0) (lf := te) (d := da) HC.out.right (by decide) hf1 (by decide) HDA.out
      rw [← e2] at hf2
      have hf3 := fit_step (op := 2) (id := 7) (at' := (ai : Int)) (fr := te) (lf := 0) (d := db) HC.out.right (by decide) hf2 (by decide) HDB.out
      rw [← e3] at hf3
      have hf4 := fit_step (op := 0) (id := 7) (at' := 0) (fr := 0) (lf := te) (d := zero8) HC.out.right (by decide) hf3 (by decide) zero8_ok
      rw [← e4] at hf4
      obtain ⟨T2, hT2⟩ : ∃ T2, S2.tell 1 c 2 7 ai te 0 = T2 := ⟨_, rfl⟩
      obtain ⟨T3, hT3⟩ : ∃ T3, S3.tell 1 c 0 7 0 0 te = T3 := ⟨_, rfl⟩
      obtain ⟨T4, hT4⟩ : ∃ T4, S4.tell 1 c 0 8 0 te te = T4 := ⟨_, rfl⟩
      rw [hT2, hT3, hT4] at HEND
      have hl2 := (tell_ok HC.out.right hf2 2 7 ai te 0).1
      have hl3 := (tell_ok HC.out.right hf3 0 7 0 0 te).1
      have hl4 := (tell_ok HC.out.right hf4 0 8 0 te te).1
      rw [hT2] at hl2
      rw [hT3] at hl3
      rw [hT4] at hl4
      have hl5 := (tell_ok HC.out.right hf4 0 8 0 te te).1
      have KA1 := Lib.hid (fun w' (h : LvR w3 w' p q ib c 1 S (fun _ => False) (fun _ => True)) => KA.out _ _ keeps_true w' 3 7 0 0 0 zero8 zero8_ok ⟨by decide, by decide⟩ S k (by omega) hf0 h)
      have KA2 := Lib.hid (fun w' (h : LvR w3 w' p q ib c 1 S1 (fun _ => False) (fun _ => True)) => KA.out _ _ keeps_true w' 1 7 0 0 te da HDA.out ⟨by decide, by decide⟩ S1 (k + 1) (by omega) hf1 h)
      have KA3 := Lib.hid (fun w' (h : LvR w3 w' p q ib c 1 S2 (fun _ => False) (fun _ => True)) => KA.out _ _ keeps_true w' 2 7 ai te 0 db HDB.out ⟨by decide, by decide⟩ S2 (k + 1 + 1) (by omega) hf2 h)
      have KA4 := Lib.hid (fun D X hK w' (h : LvR w3 w' p q ib c 1 S3 D X) => KA.out D X hK w' 0 7 0 0 te zero8 zero8_ok ⟨by decide, by decide⟩ S3 (k + 1 + 1 + 1) (by omega) hf3 h)
      have KA5 := Lib.hid (fun D X hK w' (h : LvR w3 w' p q ib c 1 S4 D X) => KA.out D X hK w' 0 8 0 te te zero8 zero8_ok ⟨by decide, by decide⟩ S4 (k + 1 + 1 + 1 + 1) (by omega) hf4 h)
      rw [← e1] at KA1
      rw [← e2] at KA2
      rw [← e3, hT2] at KA3
      rw [← e4, hT3] at KA4
      rw [hT4] at KA5
      obtain ⟨y1, o1⟩ := T2
      obtain ⟨y2, o2⟩ := T3
      obtain ⟨y3, o3⟩ := T4
      obtain ⟨T1, hT1⟩ : ∃ T1, S.tell 1 c 3 7 0 0 0 = T1 := ⟨_, rfl⟩
      obtain ⟨Tb, hTb⟩ : ∃ T1, S1.tell 1 c 1 7 0 0 te = T1 := ⟨_, rfl⟩
      rw [hT1] at KA1
      rw [hTb] at KA2
      simp only at hl2 hl3 hl4 KA3 KA4 KA5
      clear e1 e2 e3 e4 hT1 hT2 hT3 hT4 hTb hf0 hf1 hf2 hf3 hf4 hl5 KA HI
      obtain ⟨f0, f1, f2, -⟩ := HCF.out _ HL.out.one.old
      have i0' : (0 : Int) ≤ (ai : Int) := by omega
      have i1' : (ai : Int) < 8 := by omega
      go_wp2_with fail
      refine (KP5.out _).mono ?_
      rintro e wx ⟨rfl, rfl⟩
      go_wp2_with fail
      refine (KP6.out _).mono ?_
      rintro e wy ⟨rfl, rfl⟩
      generalize wy = w5 at *
      clear f0 f1 f2
      go_wp2_with fail
      refine (KA1.out _ HL.out).mono ?_
      rintro e w6 ⟨rfl, h6⟩
      have H6 := Lib.hid h6
      clear h6 KA1 HL
      go_wp2_with fail
      refine (KDA.out _).mono ?_
      rintro e w7 ⟨rfl, hb7⟩
      have H7 := Lib.hid (H6.out.below keeps_true hb7)
      clear hb7 H6
      go_wp2_with fail
      refine (KA2.out _ H7.out).mono ?_
      rintro e w8 ⟨rfl, h8⟩
      have H8 := Lib.hid h8
      clear h8 KA2 H7
      go_wp2_with fail
      refine (KDB.out _).mono ?_
      rintro e w9 ⟨rfl, hb9⟩
      have H9 := Lib.hid (H8.out.below keeps_true hb9)
      clear hb9 H8
      go_wp2_with fail
      refine (KA3.out _ H9.out).mono ?_
      rintro e gaw ⟨rfl, ga⟩
      obtain ⟨N1, hN1⟩ : ∃ N1, gaw.heap.size = N1 := ⟨_, rfl⟩
      have hbx := ga.box keeps_true #[.int .u64 0, .int .u64 0, .int .u64 0, .int .u64 0, .int .u64 0, .int .u64 0, .int .u64 0, .int .u64 0] 66
      have hfl := ga.fill keeps_true #[.int .u64 0, .int .u64 0, .int .u64 0, .int .u64 0, .int .u64 0, .int .u64 0, .int .u64 0, .int .u64 0] (cw y1) 66
      rw [hN1] at hbx hfl
      have HBX := Lib.hid hbx
      have HFL := Lib.hid hfl
      have HID := Lib.hid (info_dataL y1 hl2)
      have HOD : Hid ((cw y1).all (·.oneCell') = true) := Lib.hid (cw_all _)
      have HZD := Lib.hid (cw_sz8 hl2)
      clear ga hbx hfl KA3 H9
      go_upto_region 17 with (first
        | (refine wpList_store_row rfl 66 (.tmp 18) (.tmp 97) rfl N1 (cw y1) rfl rfl 66 _ HBX.out.x.2 HID.out HZD.out HOD.out ?_)
        | fail)
      refine at_world (fun w' => LvR w3 w' p q ib c 1 S3 (fun k => False ∨ k = N1) (fun w => True ∧ Blk w N1 (cw y1) 66)) HFL.out ?_
      intro HGw hg
      have HG := Lib.hid hg
      clear hg HBX HFL hN1 HID HOD HZD
      have HK1 := Lib.hid (keeps_and keeps_true (keeps_blk N1 (cw y1) 66))
      go_wp2_with fail
      refine (KA4.out _ _ HK1.out _ HG.out).mono ?_
      rintro e gbw ⟨rfl, gb⟩
      obtain ⟨N2, hN2⟩ : ∃ N2, gbw.heap.size = N2 := ⟨_, rfl⟩
      have hbx := gb.box HK1.out #[.int .u64 0, .int .u64 0, .int .u64 0, .int .u64 0, .int .u64 0, .int .u64 0, .int .u64 0, .int .u64 0] 66
      have hfl := gb.fill HK1.out #[.int .u64 0, .int .u64 0, .int .u64 0, .int .u64 0, .int .u64 0, .int .u64 0, .int .u64 0, .int .u64 0] (cw y2) 66
      rw [hN2] at hbx hfl
      have HBX := Lib.hid hbx
      have HFL := Lib.hid hfl
      have HID := Lib.hid (info_dataL y2 hl3)
      have HOD : Hid ((cw y2).all (·.oneCell') = true) := Lib.hid (cw_all _)
      have HZD := Lib.hid (cw_sz8 hl3)
      clear gb hbx hfl KA4 HG
      go_upto_region 18 with (first
        | (refine wpList_store_row rfl 66 (.tmp 20) (.tmp 104) rfl N2 (cw y2) rfl rfl 66 _ HBX.out.x.2 HID.out HZD.out HOD.out ?_)
        | fail)
      refine at_world (fun w' => LvR w3 w' p q ib c 1 S4 (fun k => (False ∨ k = N1) ∨ k = N2) (fun w => (True ∧ Blk w N1 (cw y1) 66) ∧ Blk w N2 (cw y2) 66)) HFL.out ?_
      intro HMw hm
      have HM := Lib.hid hm
      clear hm HBX HFL hN2 HID HOD HZD
      have HK2 := Lib.hid (keeps_and HK1.out (keeps_blk N2 (cw y2) 66))
      have KO := Lib.hid (lOver_any p q ib c 1 S4.over HMw HM.out.lv.1)
      obtain ⟨ov, hov⟩ : ∃ ov, S4.over = ov := ⟨_, rfl⟩
      rw [hov] at KO HEND
      clear hov
      go_wp2_with fail
      refine KO.out.mono ?_
      rintro e wo ⟨rfl, rfl⟩
      cases ov with
      | true =>
        have HBE := Lib.hid (HCF.out _ HM.out.one.old).2.2.2
        clear HM
        go_wp2
        go_ret
        exact ⟨rfl, HBE.out⟩
      | false =>
        obtain ⟨q1, q2, q3⟩ := HEND.out rfl
        obtain ⟨hy1, ho1⟩ : y1 = da ∧ o1 = true := by simpa using q1
        obtain ⟨hy2, ho2⟩ : y2 = partL da ai db ∧ o2 = true := by simpa using q2
        obtain ⟨hy3, ho3⟩ : y3 = zero8 ∧ o3 = false := by simpa using q3
        subst hy1
        subst ho1 ho2 ho3 hy3
        have HY2 : Hid (((wv y1).set ai (.int .u64 (db.getD 0 0))).set (ai + 1) (.int .u64 (db.getD 1 0)) = wv y2) := Lib.hid (by rw [hy2, partL_set HDA.out.1 HDB.out.1 (by omega), wvL_set, wvL_set])
        obtain ⟨a1, ha1⟩ : ∃ a1 : Nat, ai + 1 = a1 := ⟨_, rfl⟩
        have wa1 : IntKind.i64.wrap ((ai : Int) + 1) = (a1 : Int) := by rw [IntKind.wrap_i64]; omega
        have i2' : (0 : Int) ≤ (a1 : Int) := by omega
        have i3' : (a1 : Int) < 8 := by omega
        rw [ha1] at HY2
        clear q1 q2 q3 hy2 HEND ha1
        go_wp2_with fail
        refine (KDA.out _).mono ?_
        rintro e gcw ⟨rfl, hbc⟩
        have gc := HM.out.below HK2.out hbc
        obtain ⟨N3, hN3⟩ : ∃ N3, gcw.heap.size = N3 := ⟨_, rfl⟩
        have HLTN3 : Hid (∀ k, (fun k => (False ∨ k = N1) ∨ k = N2) k → k < N3) := Lib.hid (fun k hk => by rw [← hN3]; exact gc.lt.1 k hk)
        have HGEN3 : Hid (w3.heap.size ≤ N3) := Lib.hid (by rw [← hN3]; exact gc.one.old.size)
        have hbx := gc.box HK2.out #[.int .u64 0, .int .u64 0, .int .u64 0, .int .u64 0, .int .u64 0, .int .u64 0, .int .u64 0, .int .u64 0] 66
        have hfl := gc.fill HK2.out #[.int .u64 0, .int .u64 0, .int .u64 0, .int .u64 0, .int .u64 0, .int .u64 0, .int .u64 0, .int .u64 0] (cw y1) 66
        rw [hN3] at hbx hfl
        have HBX := Lib.hid hbx
        have HFL := Lib.hid hfl
        have HID := Lib.hid (info_dataL y1 HDA.out.1)
        have HOD : Hid ((cw y1).all (·.oneCell') = true) := Lib.hid (cw_all _)
        have HZD := Lib.hid (cw_sz8 HDA.out.1)
        clear gc hbx hfl HM hbc
        go_upto_region 21 with (first
          | (refine wpList_store_row rfl 66 (.tmp 22) (.tmp 109) rfl N3 (cw y1) rfl rfl 66 _ HBX.out.x.2 HID.out HZD.out HOD.out ?_)
          | fail)
        refine at_world (fun w' => LvR w3 w' p q ib c 1 S4 (fun k => ((False ∨ k = N1) ∨ k = N2) ∨ k = N3) (fun w => ((True ∧ Blk w N1 (cw y1) 66) ∧ Blk w N2 (cw y2) 66) ∧ Blk w N3 (cw y1) 66)) HFL.out ?_
        intro HPw hp
        have HP := Lib.hid hp
        clear hp HBX HFL hN3 HID HOD HZD
        have HK3 := Lib.hid (keeps_and HK2.out (keeps_blk N3 (cw y1) 66))
        go_wp2_with fail
        refine (KDB.out _).mono ?_
        rintro e gdw ⟨rfl, hbd⟩
        have gd := HP.out.below HK3.out hbd
        obtain ⟨N4, hN4⟩ : ∃ N4, gdw.heap.size = N4 := ⟨_, rfl⟩
        have HLTN4 : Hid (∀ k, (fun k => ((False ∨ k = N1) ∨ k = N2) ∨ k = N3) k → k < N4) := Lib.hid (fun k hk => by rw [← hN4]; exact gd.lt.1 k hk)
        have HGEN4 : Hid (w3.heap.size ≤ N4) := Lib.hid (by rw [← hN4]; exact gd.one.old.size)
        have hbx := gd.box HK3.out #[.int .u64 0, .int .u64 0, .int .u64 0, .int .u64 0, .int .u64 0, .int .u64 0, .int .u64 0, .int .u64 0] 66
        have hfl := gd.fill HK3.out #[.int .u64 0, .int .u64 0, .int .u64 0, .int .u64 0, .int .u64 0, .int .u64 0, .int .u64 0, .int .u64 0] (cw db) 66
        rw [hN4] at hbx hfl
        have HBX := Lib.hid hbx
        have HFL := Lib.hid hfl
        have HID := Lib.hid (info_dataL db HDB.out.1)
        have HOD : Hid ((cw db).all (·.oneCell') = true) := Lib.hid (cw_all _)
        have HZD := Lib.hid (cw_sz8 HDB.out.1)
        clear gd hbx hfl HP hbd
        go_upto_region 22 with (first
          | (refine wpList_store_row rfl 66 (.tmp 23) (.tmp 111) rfl N4 (cw db) rfl rfl 66 _ HBX.out.x.2 HID.out HZD.out HOD.out ?_)
          | fail)
        refine at_world (fun w' => LvR w3 w' p q ib c 1 S4 (fun k => (((False ∨ k = N1) ∨ k = N2) ∨ k = N3) ∨ k = N4) (fun w => (((True ∧ Blk w N1 (cw y1) 66) ∧ Blk w N2 (cw y2) 66) ∧ Blk w N3 (cw y1) 66) ∧ Blk w N4 (cw db) 66)) HFL.out ?_
        intro HQw hq
        have HQ := Lib.hid hq
        clear hq HBX HFL hN4 HID HOD HZD
        have HK4 := Lib.hid (keeps_and HK2.out (keeps_blk N4 (cw db) 66))
        have HNE : Hid (∀ k, (((False ∨ k = N1) ∨ k = N2) ∨ k = N4) → k ≠ N3) := Lib.hid fun k hk => by
          have h1 := HLTN4.out N3 (.inr rfl)
          rcases hk with hk | hk
          · have := HLTN3.out k hk; omega
          · omega
        have hq2 : LvR w3 HQw p q ib c 1 S4 (fun k => (((False ∨ k = N1) ∨ k = N2) ∨ k = N4) ∨ k = N3) (fun w => (((True ∧ Blk w N1 (cw y1) 66) ∧ Blk w N2 (cw y2) 66) ∧ Blk w N4 (cw db) 66) ∧ Blk w N3 (wv y1).toArray 66) := HQ.out.less (fun k hk => by
          rcases hk with (hk | hk) | hk
          · exact .inl (.inl hk)
          · exact .inr hk
          · exact .inl (.inr hk)) (fun w hx => ⟨⟨hx.1.1, hx.2⟩, by have := hx.1.2; rwa [cw_eq] at this⟩)
        have H22 := Lib.hid hq2
        have hs22 := hq2.set HK4.out HNE.out HGEN3.out ai (.int .u64 (db.getD 0 0))
        have HS22 := Lib.hid hs22
        have c40 : HQw.cell? ⟨N4, 0, none⟩ = some (.int .u64 (db.getD 0 0)) := (H22.out.one.x.1.1.2.cell 0).trans (cwL_at (by rw [HDB.out.1]; decide))
        have c3a : ∃ z, HQw.cell? ⟨N3, ai, none⟩ = some z := ⟨_, (H22.out.one.x.1.2.cell ai).trans (by rw [← cw_eq]; exact cwL_at (by rw [HDA.out.1]; omega))⟩
        have f3a : HQw.frozen? ⟨N3, ai, none⟩ = false := H22.out.one.x.1.2.free ai
        obtain ⟨z3, c3a⟩ := c3a
        clear hq2 hs22 H22 HQ
        go_upto_region 23 with fail
        refine at_world (fun w' => LvR w3 w' p q ib c 1 S4 (fun k => (((False ∨ k = N1) ∨ k = N2) ∨ k = N4) ∨ k = N3) (fun w => (((True ∧ Blk w N1 (cw y1) 66) ∧ Blk w N2 (cw y2) 66) ∧ Blk w N4 (cw db) 66) ∧ Blk w N3 ((wv y1).set ai (.int .u64 (db.getD 0 0))).toArray 66)) HS22.out ?_
        intro w22 h22
        have H22 := Lib.hid h22
        have hs23 := h22.set HK4.out HNE.out HGEN3.out a1 (.int .u64 (db.getD 1 0))
        rw [HY2.out, ← cw_eq] at hs23
        have HS23 := Lib.hid hs23
        have c41 : w22.cell? ⟨N4, 1, none⟩ = some (.int .u64 (db.getD 1 0)) := (H22.out.one.x.1.1.2.cell 1).trans (cwL_at (by rw [HDB.out.1]; decide))
        have c3b : ∃ z, w22.cell? ⟨N3, a1, none⟩ = some z := by
          have h := H22.out.one.x.1.2.cell a1
          have hl : a1 < ((wv y1).set ai (.int .u64 (db.getD 0 0))).length := by rw [List.length_set, wv_len, HDA.out.1]; omega
          rw [List.getElem?_toArray, List.getElem?_eq_getElem hl] at h
          exact ⟨_, h⟩
        have f3b : w22.frozen? ⟨N3, a1, none⟩ = false := H22.out.one.x.1.2.free a1
        obtain ⟨z3b, c3b⟩ := c3b
        clear h22 hs23 H22 HS22 c40 c3a f3a
        go_upto_region 24 with fail
        refine at_world (fun w' => LvR w3 w' p q ib c 1 S4 (fun k => (((False ∨ k = N1) ∨ k = N2) ∨ k = N4) ∨ k = N3) (fun w => (((True ∧ Blk w N1 (cw y1) 66) ∧ Blk w N2 (cw y2) 66) ∧ Blk w N4 (cw db) 66) ∧ Blk w N3 (cw y2) 66)) HS23.out ?_
        intro w23 h23
        have H23 := Lib.hid h23
        have HK5 := Lib.hid (keeps_and HK4.out (keeps_blk N3 (cw y2) 66))
        clear h23 HS23 c41 c3b f3b HY2
        go_wp2_with fail
        refine (KA5.out _ _ HK5.out _ H23.out).mono ?_
        rintro e gew ⟨rfl, ge⟩
        obtain ⟨S5, hS5⟩ : ∃ S5, S4.acc 1 c 0 8 0 zero8 te te = S5 := ⟨_, rfl⟩
        rw [hS5] at ge
        obtain ⟨N5, hN5⟩ : ∃ N5, gew.heap.size = N5 := ⟨_, rfl⟩
        have hbx := ge.box HK5.out #[.int .u64 0, .int .u64 0, .int .u64 0, .int .u64 0, .int .u64 0, .int .u64 0, .int .u64 0, .int .u64 0] 66
        have hfl := ge.fill HK5.out #[.int .u64 0, .int .u64 0, .int .u64 0, .int .u64 0, .int .u64 0, .int .u64 0, .int .u64 0, .int .u64 0] (cw zero8) 66
        rw [hN5] at hbx hfl
        have HBX := Lib.hid hbx
        have HFL := Lib.hid hfl
        have HID := Lib.hid (info_dataL zero8 hl4)
        have HOD : Hid ((cw zero8).all (·.oneCell') = true) := Lib.hid (cw_all _)
        have HZD := Lib.hid (cw_sz8 hl4)
        clear ge hbx hfl H23 KA5 hS5
        go_upto_region 25 with (first
          | (refine wpList_store_row rfl 66 (.tmp 24) (.tmp 127) rfl N5 (cw zero8) rfl rfl 66 _ HBX.out.x.2 HID.out HZD.out HOD.out ?_)
          | fail)
        refine at_world (fun w' => LvR w3 w' p q ib c 1 S5 (fun k => ((((False ∨ k = N1) ∨ k = N2) ∨ k = N4) ∨ k = N3) ∨ k = N5) (fun w => ((((True ∧ Blk w N1 (cw y1) 66) ∧ Blk w N2 (cw y2) 66) ∧ Blk w N4 (cw db) 66) ∧ Blk w N3 (cw y2) 66) ∧ Blk w N5 (cw zero8) 66)) HFL.out ?_
        intro HRw hr
        have HR := Lib.hid hr
        clear hr HBX HFL hN5 HID HOD HZD
        have HK6 := Lib.hid (keeps_and HK5.out (keeps_blk N5 (cw zero8) 66))
        obtain ⟨x0, x1, x2, x3, x4, x5, x6, x7, rfl⟩ := eightL HDA.out.1
        obtain ⟨z0, z1, z2, z3, z4, z5, z6, z7, rfl⟩ := eightL hl3
        have EQX : ∀ w, (Op.equalIn 10000 66 (.agg #[.int .u64 x0, .int .u64 x1, .int .u64 x2, .int .u64 x3, .int .u64 x4, .int .u64 x5, .int .u64 x6, .int .u64 x7]) (.agg #[.int .u64 x0, .int .u64 x1, .int .u64 x2, .int .u64 x3, .int .u64 x4, .int .u64 x5, .int .u64 x6, .int .u64 x7])).run Try.prog w = .ok true w := fun w => by
          have h := run_eqdata [x0, x1, x2, x3, x4, x5, x6, x7] [x0, x1, x2, x3, x4, x5, x6, x7] rfl rfl w
          rw [decide_eq_true rfl] at h
          exact h
        have EQZ : ∀ w, (Op.equalIn 10000 66 (.agg #[.int .u64 z0, .int .u64 z1, .int .u64 z2, .int .u64 z3, .int .u64 z4, .int .u64 z5, .int .u64 z6, .int .u64 z7]) (.agg #[.int .u64 z0, .int .u64 z1, .int .u64 z2, .int .u64 z3, .int .u64 z4, .int .u64 z5, .int .u64 z6, .int .u64 z7])).run Try.prog w = .ok true w := fun w => by
          have h := run_eqdata [z0, z1, z2, z3, z4, z5, z6, z7] [z0, z1, z2, z3, z4, z5, z6, z7] rfl rfl w
          rw [decide_eq_true rfl] at h
          exact h
        have EQ0 : ∀ w, (Op.equalIn 10000 66 (.agg #[.int .u64 0, .int .u64 0, .int .u64 0, .int .u64 0, .int .u64 0, .int .u64 0, .int .u64 0, .int .u64 0]) (.agg #[.int .u64 0, .int .u64 0, .int .u64 0, .int .u64 0, .int .u64 0, .int .u64 0, .int .u64 0, .int .u64 0])).run Try.prog w = .ok true w := fun w => by
          have h := run_eqdata zero8 zero8 rfl rfl w
          rw [decide_eq_true rfl] at h
          exact h
        have HRG : Hid (∀ w', LvR w3 w' p q ib c 1 S5 (fun k => ((((False ∨ k = N1) ∨ k = N2) ∨ k = N4) ∨ k = N3) ∨ k = N5) (fun w => ((((True ∧ Blk w N1 (cw [x0, x1, x2, x3, x4, x5, x6, x7]) 66) ∧ Blk w N2 (cw [z0, z1, z2, z3, z4, z5, z6, z7]) 66) ∧ Blk w N4 (cw db) 66) ∧ Blk w N3 (cw [z0, z1, z2, z3, z4, z5, z6, z7]) 66) ∧ Blk w N5 (cw zero8) 66) → w'.cell? ⟨N1, 0, none⟩ = some (.int .u64 x0) ∧ w'.cell? ⟨N1, 1, none⟩ = some (.int .u64 x1) ∧ w'.cell? ⟨N1, 2, none⟩ = some (.int .u64 x2) ∧ w'.cell? ⟨N1, 3, none⟩ = some (.int .u64 x3) ∧ w'.cell? ⟨N1, 4, none⟩ = some (.int .u64 x4) ∧ w'.cell? ⟨N1, 5, none⟩ = some (.int .u64 x5) ∧ w'.cell? ⟨N1, 6, none⟩ = some (.int .u64 x6) ∧ w'.cell? ⟨N1, 7, none⟩ = some (.int .u64 x7) ∧ w'.cell? ⟨N2, 0, none⟩ = some (.int .u64 z0) ∧ w'.cell? ⟨N2, 1, none⟩ = some (.int .u64 z1) ∧ w'.cell? ⟨N2, 2, none⟩ = some (.int .u64 z2) ∧ w'.cell? ⟨N2, 3, none⟩ = some (.int .u64 z3) ∧ w'.cell? ⟨N2, 4, none⟩ = some (.int .u64 z4) ∧ w'.cell? ⟨N2, 5, none⟩ = some (.int .u64 z5) ∧ w'.cell? ⟨N2, 6, none⟩ = some (.int .u64 z6) ∧ w'.cell? ⟨N2, 7, none⟩ = some (.int .u64 z7) ∧ w'.cell? ⟨N3, 0, none⟩ = some (.int .u64 z0) ∧ w'.cell? ⟨N3, 1, none⟩ = some (.int .u64 z1) ∧ w'.cell? ⟨N3, 2, none⟩ = some (.int .u64 z2) ∧ w'.cell? ⟨N3, 3, none⟩ = some (.int .u64 z3) ∧ w'.cell? ⟨N3, 4, none⟩ = some (.int .u64 z4) ∧ w'.cell? ⟨N3, 5, none⟩ = some (.int .u64 z5) ∧ w'.cell? ⟨N3, 6, none⟩ = some (.int .u64 z6) ∧ w'.cell? ⟨N3, 7, none⟩ = some (.int .u64 z7) ∧ w'.cell? ⟨N5, 0, none⟩ = some (.int .u64 0) ∧ w'.cell? ⟨N5, 1, none⟩ = some (.int .u64 0) ∧ w'.cell? ⟨N5, 2, none⟩ = some (.int .u64 0) ∧ w'.cell? ⟨N5, 3, none⟩ = some (.int .u64 0) ∧ w'.cell? ⟨N5, 4, none⟩ = some (.int .u64 0) ∧ w'.cell? ⟨N5, 5, none⟩ = some (.int .u64 0) ∧ w'.cell? ⟨N5, 6, none⟩ = some (.int .u64 0) ∧ w'.cell? ⟨N5, 7, none⟩ = some (.int .u64 0)) := Lib.hid fun w' h => ⟨h.x.1.1.1.1.2.cell 0, h.x.1.1.1.1.2.cell 1, h.x.1.1.1.1.2.cell 2, h.x.1.1.1.1.2.cell 3, h.x.1.1.1.1.2.cell 4, h.x.1.1.1.1.2.cell 5, h.x.1.1.1.1.2.cell 6, h.x.1.1.1.1.2.cell 7, h.x.1.1.1.2.cell 0, h.x.1.1.1.2.cell 1, h.x.1.1.1.2.cell 2, h.x.1.1.1.2.cell 3, h.x.1.1.1.2.cell 4, h.x.1.1.1.2.cell 5, h.x.1.1.1.2.cell 6, h.x.1.1.1.2.cell 7, h.x.1.2.cell 0, h.x.1.2.cell 1, h.x.1.2.cell 2, h.x.1.2.cell 3, h.x.1.2.cell 4, h.x.1.2.cell 5, h.x.1.2.cell 6, h.x.1.2.cell 7, h.x.2.cell 0, h.x.2.cell 1, h.x.2.cell 2, h.x.2.cell 3, h.x.2.cell 4, h.x.2.cell 5, h.x.2.cell 6, h.x.2.cell 7⟩
        have KD8 : Hid (∀ w', Calls Try.prog 34 #[.int .u64 na] w' fun e w2 => e = .returned (.agg #[.int .u64 x0, .int .u64 x1, .int .u64 x2, .int .u64 x3, .int .u64 x4, .int .u64 x5, .int .u64 x6, .int .u64 x7]) ∧ Below w'.heap.size w' w2) := Lib.hid (fun w' => KDA.out w')
        have hd := HR.out.below HK6.out ((Below.refl _ _).drew)
        clear KDA KDB HDA HDB hl2 hl3 hl4
        go_wp2_with fail
        go_region_held3 (fun w' => w'.cell? ⟨N1, 0, none⟩ = some (.int .u64 x0) ∧ w'.cell? ⟨N1, 1, none⟩ = some (.int .u64 x1) ∧ w'.cell? ⟨N1, 2, none⟩ = some (.int .u64 x2) ∧ w'.cell? ⟨N1, 3, none⟩ = some (.int .u64 x3) ∧ w'.cell? ⟨N1, 4, none⟩ = some (.int .u64 x4) ∧ w'.cell? ⟨N1, 5, none⟩ = some (.int .u64 x5) ∧ w'.cell? ⟨N1, 6, none⟩ = some (.int .u64 x6) ∧ w'.cell? ⟨N1, 7, none⟩ = some (.int .u64 x7) ∧ w'.cell? ⟨N2, 0, none⟩ = some (.int .u64 z0) ∧ w'.cell? ⟨N2, 1, none⟩ = some (.int .u64 z1) ∧ w'.cell? ⟨N2, 2, none⟩ = some (.int .u64 z2) ∧ w'.cell? ⟨N2, 3, none⟩ = some (.int .u64 z3) ∧ w'.cell? ⟨N2, 4, none⟩ = some (.int .u64 z4) ∧ w'.cell? ⟨N2, 5, none⟩ = some (.int .u64 z5) ∧ w'.cell? ⟨N2, 6, none⟩ = some (.int .u64 z6) ∧ w'.cell? ⟨N2, 7, none⟩ = some (.int .u64 z7) ∧ w'.cell? ⟨N3, 0, none⟩ = some (.int .u64 z0) ∧ w'.cell? ⟨N3, 1, none⟩ = some (.int .u64 z1) ∧ w'.cell? ⟨N3, 2, none⟩ = some (.int .u64 z2) ∧ w'.cell? ⟨N3, 3, none⟩ = some (.int .u64 z3) ∧ w'.cell? ⟨N3, 4, none⟩ = some (.int .u64 z4) ∧ w'.cell? ⟨N3, 5, none⟩ = some (.int .u64 z5) ∧ w'.cell? ⟨N3, 6, none⟩ = some (.int .u64 z6) ∧ w'.cell? ⟨N3, 7, none⟩ = some (.int .u64 z7) ∧ w'.cell? ⟨N5, 0, none⟩ = some (.int .u64 0) ∧ w'.cell? ⟨N5, 1, none⟩ = some (.int .u64 0) ∧ w'.cell? ⟨N5, 2, none⟩ = some (.int .u64 0) ∧ w'.cell? ⟨N5, 3, none⟩ = some (.int .u64 0) ∧ w'.cell? ⟨N5, 4, none⟩ = some (.int .u64 0) ∧ w'.cell? ⟨N5, 5, none⟩ = some (.int .u64 0) ∧ w'.cell? ⟨N5, 6, none⟩ = some (.int .u64 0) ∧ w'.cell? ⟨N5, 7, none⟩ = some (.int .u64 0)) (first | exact HRG.out _ hd | exact HRG.out _ hx1) (first
          | (go_at_call 34; with_reducible refine (KD8.out _).mono ?_; rintro e wx ⟨rfl, hbx⟩; have hx1 := hd.below HK6.out hbx))
        all_goals
          have HF := Lib.hid (HCF.out _ hx1.one.old).2.2.2
          clear hx1 hd
          go_wp2
          go_ret
          exact ⟨rfl, HF.out⟩
end Go.Proofs.Ytiimdgdimjjboaa
