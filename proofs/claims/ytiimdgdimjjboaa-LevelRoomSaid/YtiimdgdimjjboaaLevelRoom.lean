/-
  The walk of the law LevelRoom: while no more than Stash blocks were ever put, each looked for where it is, none is lost.
-/
import Derived.Test.YtiimdgdimjjboaaHbp
import Derived.BigQuiet
set_option linter.unusedVariables false
set_option linter.unusedSimpArgs false
set_option linter.unusedSectionVars false
set_option linter.unnecessarySimpa false
namespace Go.Proofs.Ytiimdgdimjjboaa
open Go Go.RowKit Go.Sg
set_option maxHeartbeats 8000000 in
set_option maxRecDepth 100000 in
theorem LevelRoom_walk (n : Int) (v : Value) (l : List Sx) (w : World) (hn : Num n) (hv : SlK sxV w v l) (ho : ∀ x ∈ l, SxOk x) :
    Calls Try.prog 10 #[.int .i64 n, v] w fun e w' => e = .returned (.bool true) ∧ Below w.heap.size w w' := by
  have KS := Lib.hid (fun w' => lshown_any w')
  have KC := Lib.hid (fun w' => lconfig_any n hn w')
  have HO := Lib.hid ho
  obtain ⟨a, cap, rfl, hmx, hat⟩ := sxV_at hv
  have HAT := Lib.hid hat
  unfold maxLen at hmx
  clear hv ho hat
  by_cases hL : 40 < l.length
  · have d3 : decide ((40 : Int) < (l.length : Int)) = true := decide_eq_true (by omega)
    have d3' : decide (40 < l.length) = true := decide_eq_true hL
    go_enter Try.func10, Try.ntmps10
    go_wp2_with fail
    refine (KS.out _).mono ?_
    rintro e w1 ⟨rfl, hb1⟩
    have HB1 := Lib.hid hb1
    clear hb1
    go_wp2
    go_ret
    exact ⟨rfl, HB1.out⟩
  have d3 : decide ((40 : Int) < (l.length : Int)) = false := decide_eq_false (by omega)
  have d3' : decide (40 < l.length) = false := decide_eq_false hL
  have HC := Lib.hid (cfg_ok n)
  have KM := Lib.hid (fun w' => lmade_any (cfgL n) HC.out.ok HC.out.new HC.out.lev w')
  have HS0 := Lib.hid (room_start HC.out)
  have HST := Lib.hid (fun (S : Ls) (a : List Int) (k : Nat) (h : RoomI (cfgL n) S a k) (op at' te : Int) (d : List Int) (i : Nat) (hi : i < a.length) (hop : 0 ≤ op ∧ op < 4) (hto : 0 ≤ te ∧ te < (cfgL n).1) (hd : d.length = 8 ∧ ∀ x ∈ d, Word x) (hat : 0 ≤ at' ∧ at' < 7) => room_step HC.out h (op := op) (at' := at') (te := te) (d := d) hi hop hto hd hat)
  have HTL := Lib.hid (fun (S : Ls) (a : List Int) (k : Nat) (h : RoomI (cfgL n) S a k) => room_tell HC.out h)
  obtain ⟨b1, b1'⟩ := HC.out.b1
  obtain ⟨b3, b3'⟩ := HC.out.b3
  obtain ⟨c, hc⟩ : ∃ c, cfgL n = c := ⟨_, rfl⟩
  rw [hc] at HC KM HS0 HST HTL KC b1 b1' b3 b3'
  clear hc
  go_enter Try.func10, Try.ntmps10
  go_wp2_with fail
  refine (KS.out _).mono ?_
  rintro e w1 ⟨rfl, hb1⟩
  have HB1 := Lib.hid hb1
  clear hb1 KS
  go_wp2_with fail
  refine (KC.out _).mono ?_
  rintro e w2 ⟨rfl, hb2⟩
  have HB2 : Hid (Below w.heap.size w w2) := Lib.hid (HB1.out.trans (hb2.mono HB1.out.size))
  clear hb2 HB1 KC
  obtain ⟨A, hA⟩ : ∃ A, w2.heap.size = A := ⟨_, rfl⟩
  have HIL := Lib.hid (info_lcL c)
  have hbx : Blk (w2.alloc (.cells #[.int .i64 0, .int .i64 0, .int .i64 0] 55)) A #[.int .i64 0, .int .i64 0, .int .i64 0] 55 := by rw [← hA]; exact Blk.new w2 _ _
  have HBX := Lib.hid hbx
  have HI3 : Hid ((Try.prog.info? 55).map (·.size) = some (#[.int .i64 c.1, .int .i64 c.2.1, .int .i64 c.2.2] : Array Value).size) := Lib.hid (by kernel_rfl)
  have HW3 : Hid (Blk ((w2.alloc (.cells #[.int .i64 0, .int .i64 0, .int .i64 0] 55)).setRow A #[.int .i64 c.1, .int .i64 c.2.1, .int .i64 c.2.2]) A #[.int .i64 c.1, .int .i64 c.2.1, .int .i64 c.2.2] 55 ∧ Below w.heap.size w ((w2.alloc (.cells #[.int .i64 0, .int .i64 0, .int .i64 0] 55)).setRow A #[.int .i64 c.1, .int .i64 c.2.1, .int .i64 c.2.2])) :=
    Lib.hid ⟨HBX.out.setRow _, below_rowS (HB2.out.alloc HB2.out.size _) _ _ (by rw [← hA]; exact HB2.out.size)⟩
  clear hbx
  go_upto_region 5 with (first
    | (refine wpList_store_row rfl 55 (.tmp 6) (.tmp 23) rfl A #[.int .i64 c.1, .int .i64 c.2.1, .int .i64 c.2.2] rfl rfl 55 _ HBX.out HI3.out (by rfl) (by simp [Value.oneCell']) ?_)
    | fail)
  generalize (w2.alloc (.cells #[.int .i64 0, .int .i64 0, .int .i64 0] 55)).setRow A #[.int .i64 c.1, .int .i64 c.2.1, .int .i64 c.2.2] = w3 at *
  have a0 : w3.cell? ⟨A, 0, none⟩ = some (.int .i64 c.1) := HW3.out.1.cell 0
  have a1 : w3.cell? ⟨A, 1, none⟩ = some (.int .i64 c.2.1) := HW3.out.1.cell 1
  have a2 : w3.cell? ⟨A, 2, none⟩ = some (.int .i64 c.2.2) := HW3.out.1.cell 2
  have HAW := Lib.hid HW3.out.1.lt
  clear hA HBX HI3 HB2
  go_wp2_with fail
  refine (KM.out _).mono ?_
  rintro e w4 ⟨p, q, ib, rfl, h4⟩
  have H4 := Lib.hid h4
  have HCF : Hid (∀ w', Below w3.heap.size w3 w' → w'.cell? ⟨A, 0, none⟩ = some (.int .i64 c.1) ∧ w'.cell? ⟨A, 2, none⟩ = some (.int .i64 c.2.2) ∧ Below w.heap.size w w') := Lib.hid fun w' hb => ⟨(HW3.out.1.below hb HAW.out).cell 0, (HW3.out.1.below hb HAW.out).cell 2, HW3.out.2.trans (hb.mono HW3.out.2.size)⟩
  clear a0 a1 a2 KM h4
  obtain ⟨N, hN⟩ : ∃ N : Nat, c.2.2 = N := ⟨c.2.2.toNat, by omega⟩
  have HN := Lib.hid hN
  rw [hN] at HCF b3 b3'
  have a2 : w4.cell? ⟨A, 2, none⟩ = some (.int .i64 N) := (HCF.out _ H4.out.one.old).2.1
  obtain ⟨i0, hi, hz0, hz1, hz2⟩ := info_parts info_int
  have HI := Lib.hid hi
  have HZ := Lib.hid hz0
  have HS := Lib.hid hz1
  have HY := Lib.hid hz2
  clear hi hz0 hz1 hz2
  go_upto_region 9 with (first
    | (at_make; go_loud (refine wpList_make_row _ rfl (.tmp 32) (.tmp 32) 30 rfl 3 i0 (.int .i64 0) Try.underlying30 HI.out HZ.out HS.out rfl .i64 .i64 N rfl rfl (by rw [HY.out]; omega) (by omega) ?_))
    | fail)
  obtain ⟨G, hG⟩ : ∃ G, w4.heap.size = G := ⟨_, rfl⟩
  have h5 := H4.out.box keeps_true (madeCells #[.int .i64 0] N) 3
  rw [made_ints w4] at h5 ⊢
  rw [hG] at h5 ⊢
  have HGE : Hid (w3.heap.size ≤ G) := Lib.hid (by rw [← hG]; exact H4.out.one.old.size)
  have H5 := Lib.hid h5
  generalize w4.alloc (.cells (ints (List.replicate N 0)).toArray 3) = w5 at *
  have HS0' : Hid (RoomI c (mkL c) (List.replicate N 0) 0) := Lib.hid (by have := HS0.out; rw [hN] at this; simpa using this)
  clear a2 h5 hG H4 HS0 hN HI HZ HS HY
  go_wp2_with fail
  have HK := Lib.hid (keeps_and keeps_true (keeps_blk G #[] 3))
  clear HK
  go_loopw [10, 11, 12] (fun iv _ _ wr => ∃ k : Nat, k ≤ l.length ∧ iv = .int .i64 k ∧ Hid (∃ S al, RoomI c S al k ∧ LvR w3 wr p q ib c 1 S (fun k => False ∨ k = G) (fun w' => True ∧ Blk w' G (ints al).toArray 3))) (fun iv _ _ _ => l.length - (intOf iv).toNat)
  case atStart => exact ⟨0, by omega, rfl, Lib.hid ⟨_, _, HS0'.out, H5.out⟩⟩
  case round =>
    obtain ⟨k, hk, rfl, HR⟩ := hrel
    by_cases hlt : k < l.length
    · have g1 : decide ((k : Int) < (l.length : Int)) = true := decide_eq_true (by omega)
      have g1' : decide (k < l.length) = true := decide_eq_true hlt
      have k0 : (0 : Int) ≤ (k : Int) := by omega
      have k1 : (k : Int) < (l.length : Int) := by omega
      obtain ⟨S, al, hI, hL⟩ := HR.out
      have HI := Lib.hid hI
      have HL := Lib.hid hL
      obtain ⟨b, off, rfl, hlb, hcells⟩ := HAT.out k hlt
      have hx := HO.out l[k] (List.getElem_mem hlt)
      have HCE := Lib.hid hcells
      have hll : al.length = N := by have := hI.len; rw [HN.out] at this; omega
      clear hI hL HR hcells
      generalize l[k] = x at *
      obtain ⟨xo, xi, xa, xn, xf, xt⟩ := x
      simp only at hx HCE
      obtain ⟨n1, n2, n3, n4, n5, n6⟩ := hx
      simp only at n1 n2 n3 n4 n5 n6
      obtain ⟨y, hy, hy0, hy1, hyw⟩ := and65535 n2
      obtain ⟨i, hi⟩ : ∃ i : Nat, pickD y N = i := ⟨(pickD y N).toNat, by have := (pickD_bd (c := y) (n := N) (by omega)).1; omega⟩
      have hib := pickD_bd (c := y) (n := N) (by omega)
      rw [hi] at hib
      have hiN : i < N := by omega
      obtain ⟨te, hte⟩ : ∃ te, pickD xt c.1 = te := ⟨_, rfl⟩
      have htb := pickD_bd (c := xt) (n := c.1) (by omega)
      rw [hte] at htb
      obtain ⟨op, hop⟩ : ∃ op, pickD xo 4 = op := ⟨_, rfl⟩
      have hob := pickD_bd (c := xo) (n := 4) (by omega)
      rw [hop] at hob
      obtain ⟨ai, hai⟩ : ∃ ai, pickD xa 7 = ai := ⟨_, rfl⟩
      have hab := pickD_bd (c := xa) (n := 7) (by omega)
      rw [hai] at hab
      have KP1 := Lib.hid (fun w' => lpick_any y N ⟨by omega, by omega⟩ (by omega) (by omega) w')
      have KP2 := Lib.hid (fun w' => lpick_any xt c.1 n6 (by omega) (by omega) w')
      have KP3 := Lib.hid (fun w' => lpick_any xo 4 n1 (by omega) (by omega) w')
      have KP4 := Lib.hid (fun w' => lpick_any xa 7 n3 (by omega) (by omega) w')
      have KD := Lib.hid (fun w' => ldata_any xn n4 w')
      rw [hi] at KP1
      rw [hte] at KP2
      rw [hop] at KP3
      rw [hai] at KP4
      have HNX := Lib.hid (HST.out S al k HI.out op ai te (datL xn) i (by omega) hob htb (datL_ok xn) hab)
      have HKP := Lib.hid (fun (al : List Int) => keeps_and keeps_true (keeps_blk G (ints al).toArray 3))
      have KA := Lib.hid (fun w' (h : LvR w3 w' p q ib c 1 S (fun k => False ∨ k = G) (fun w' => True ∧ Blk w' G (ints al).toArray 3)) => fitAccess (HKP.out al) HC.out 1 (by decide) op i ai (al.getD i 0) te (datL xn) (datL_ok xn) ⟨by omega, by omega⟩ q ib S k (by omega) HI.out.fit h)
      have HAL := Lib.hid (intsL_at (a := al) (i := i) (by omega))
      obtain ⟨S2, hS2⟩ : ∃ S2, S.acc 1 c op i ai (datL xn) (al.getD i 0) te = S2 := ⟨_, rfl⟩
      rw [hS2] at HNX KA
      obtain ⟨fr, hfr⟩ : ∃ fr, al.getD i 0 = fr := ⟨_, rfl⟩
      rw [hfr] at KA HAL
      obtain ⟨tl, htl⟩ : ∃ tl, S.tell 1 c op i ai fr te = tl := ⟨_, rfl⟩
      rw [htl] at KA
      obtain ⟨t1, t2⟩ := tl
      obtain ⟨dl, hdl⟩ : ∃ dl, datL xn = dl := ⟨_, rfl⟩
      rw [hdl] at KA KD
      clear hS2 hfr htl hdl hi hte hop hai n1 n2 n3 n4 n5 n6 HST
      have HF : Hid (∀ S' w', LvR w3 w' p q ib c 1 S' (fun k => False ∨ k = G) (fun w' => True ∧ Blk w' G (ints al).toArray 3) → (w'.cell? ⟨A, 0, none⟩ = some (.int .i64 c.1) ∧ w'.cell? ⟨A, 2, none⟩ = some (.int .i64 N)) ∧ w'.cell? ⟨G, i, none⟩ = some (.int .i64 fr) ∧ w'.cell? ⟨b, off + k * 6, none⟩ = some (.int .i64 xo) ∧ w'.cell? ⟨b, off + k * 6 + 1, none⟩ = some (.int .u64 xi) ∧ w'.cell? ⟨b, off + k * 6 + 2, none⟩ = some (.int .i64 xa) ∧ w'.cell? ⟨b, off + k * 6 + 3, none⟩ = some (.int .u64 xn) ∧ w'.cell? ⟨b, off + k * 6 + 5, none⟩ = some (.int .i64 xt)) := Lib.hid fun S' w' h => by
        have h1 := HCF.out w' h.one.old
        have h2 := HCE.out w' h1.2.2
        exact ⟨⟨h1.1, h1.2.1⟩, (h.one.x.1.2.cell i).trans HAL.out, h2.1, h2.2.1, h2.2.2.1, h2.2.2.2.1, h2.2.2.2.2.2⟩
      have hiw : IntKind.u64.wrap (i : Int) = (i : Int) := by rw [IntKind.wrap_u64]; omega
      have i0' : (0 : Int) ≤ (i : Int) := by omega
      have i1' : (i : Int) < (N : Int) := by omega
      clear HCE HAL
      obtain ⟨⟨f0, f2⟩, -, -, e1, -, -, -⟩ := HF.out _ _ HL.out
      go_wp2_with fail
      go_quiet (first | (go_at_call 31; refine Calls.quiet_of_same (KP1.out _)))
      obtain ⟨wq, hwq, hbq⟩ : ∃ wq, wr.drewN nq = wq ∧ Below wr.heap.size wr wq := ⟨_, rfl, below_drewN' (Below.refl _ _)⟩
      rw [hwq]
      have HLq := Lib.hid (HL.out.below (HKP.out al) hbq)
      clear e1 f0 f2 hwq hbq HL KP1
      obtain ⟨⟨f0, f2⟩, -, -, -, -, -, e5⟩ := HF.out _ _ HLq.out
      go_wp2_with fail
      go_quiet (first | (go_at_call 31; refine Calls.quiet_of_same (KP2.out _)))
      obtain ⟨ws, hws, hbs⟩ : ∃ ws, wq.drewN nq = ws ∧ Below wq.heap.size wq ws := ⟨_, rfl, below_drewN' (Below.refl _ _)⟩
      rw [hws]
      have HLs := Lib.hid (HLq.out.below (HKP.out al) hbs)
      clear e5 f0 f2 hws hbs HLq KP2
      have hd := HLs.out.below (HKP.out al) ((Below.refl _ _).drew)
      go_wp2_with fail
      go_region_held3 (fun w' => (w'.cell? ⟨A, 0, none⟩ = some (.int .i64 c.1) ∧ w'.cell? ⟨A, 2, none⟩ = some (.int .i64 N)) ∧ w'.cell? ⟨G, i, none⟩ = some (.int .i64 fr) ∧ w'.cell? ⟨b, off + k * 6, none⟩ = some (.int .i64 xo) ∧ w'.cell? ⟨b, off + k * 6 + 1, none⟩ = some (.int .u64 xi) ∧ w'.cell? ⟨b, off + k * 6 + 2, none⟩ = some (.int .i64 xa) ∧ w'.cell? ⟨b, off + k * 6 + 3, none⟩ = some (.int .u64 xn) ∧ w'.cell? ⟨b, off + k * 6 + 5, none⟩ = some (.int .i64 xt)) (first | exact HF.out _ _ (by assumption)) (first
        | (go_at_call 31; first | (with_reducible refine (KP3.out _).mono ?_; rintro e wx ⟨rfl, rfl⟩) | (with_reducible refine (KP4.out _).mono ?_; rintro e wx ⟨rfl, rfl⟩))
        | (go_at_call 34; with_reducible refine (KD.out _).mono ?_; rintro e wx ⟨rfl, hbx⟩; have hd2 := hd.below (HKP.out al) hbx)
        | (go_at_call 33; with_reducible refine (KA.out _ hd2).mono ?_; rintro e wy ⟨rfl, hLy⟩))
      all_goals
        have HLy := Lib.hid hLy
        clear hLy hd2 hd HLs KD KA KP3 KP4 hbx
        have e6 := (HF.out _ _ HLy.out).2.1
        have f6 : wy.frozen? ⟨G, i, none⟩ = false := HLy.out.one.x.1.2.free i
        have hL2 := HLy.out.set keeps_true (fun _ h => h.elim) HGE.out i (.int .i64 te)
        rw [intsL_set] at hL2
        have HL2 := Lib.hid hL2
        clear hL2
        go_upto_region 16 with fail
        obtain ⟨wz, hwz⟩ : ∃ wz, wy.setCell ⟨G, i, none⟩ (.int .i64 te) = wz := ⟨_, rfl⟩
        rw [hwz] at HL2 ⊢
        clear e6 f6 hwz HLy
        have HTT := Lib.hid (HTL.out S2 (al.set i te) (k + 1) HNX.out)
        obtain ⟨cn, hcn⟩ : ∃ cn, cntL S2.ids = cn := ⟨_, rfl⟩
        have HOV : Hid (∀ w', LvR w3 w' p q ib c 1 S2 (fun k => False ∨ k = G) (fun w' => True ∧ Blk w' G (ints (al.set i te)).toArray 3) → Calls Try.prog 35 #[.pointer (some ⟨q, 0, none⟩)] w' (fun e w2 => e = .returned (.bool false) ∧ w2 = w') ∧ Calls Try.prog 36 #[.pointer (some ⟨q, 0, none⟩)] w' (fun e w2 => e = .returned (.int .i64 cn) ∧ w2 = w')) := Lib.hid fun w' h => by
          have h1 := lOver_any p q ib c 1 S2.over w' h.lv.1
          have h2 := lBlocks_any p q ib c 1 S2.over S2.ids w' h.lv
          rw [HTT.out.1] at h1
          rw [hcn] at h2
          exact ⟨h1, h2⟩
        have hcb := HTT.out.2
        rw [hcn, HN.out] at hcb
        have dcn : decide ((N : Int) < (cn : Int)) = false := decide_eq_false (by omega)
        have dcn' : decide (N < cn) = false := decide_eq_false (by omega)
        have HF2 : Hid (∀ w', LvR w3 w' p q ib c 1 S2 (fun k => False ∨ k = G) (fun w' => True ∧ Blk w' G (ints (al.set i te)).toArray 3) → w'.cell? ⟨A, 2, none⟩ = some (.int .i64 N)) := Lib.hid fun w' h => (HCF.out w' h.one.old).2.1
        have hd := HL2.out.below (HKP.out _) ((Below.refl _ _).drew)
        have f2 := HF2.out _ HL2.out
        go_wp2_with fail
        go_region_held3 (fun w' => w'.cell? ⟨A, 2, none⟩ = some (.int .i64 N)) (first | exact HF2.out _ (by assumption)) (first
          | (go_at_call 35; with_reducible refine (HOV.out _ hd).1.mono ?_; rintro e wx ⟨rfl, rfl⟩)
          | (go_at_call 36; with_reducible refine (HOV.out _ hd).2.mono ?_; rintro e wx ⟨rfl, rfl⟩))
        have HLd := Lib.hid hd
        clear hd f2 hcb hcn
        go_wp2_with fail
        go_roundw
        case rel => exact ⟨k + 1, by omega, by go_num, Lib.hid ⟨_, _, HNX.out, HLd.out⟩⟩
        case measure => simp [intOf]; omega
    · have hkl : k = l.length := by omega
      obtain ⟨S, al, hI, hL⟩ := HR.out
      have HBE := Lib.hid (HCF.out wr hL.one.old).2.2
      have g1 : decide ((k : Int) < (l.length : Int)) = false := decide_eq_false (by omega)
      have g1' : decide (k < l.length) = false := decide_eq_false hlt
      clear hI hL HR
      go_wp2
      go_ret
      exact ⟨rfl, HBE.out⟩
end Go.Proofs.Ytiimdgdimjjboaa
