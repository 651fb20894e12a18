
/-
  The walk of the law LevelBlind: the events of an access hang on the leaf that it comes from alone.
-/
import Derived.Test.YthchfdobdghdoaaHbq
import Derived.Test.YthchfdobdghdoaaHbp
import Derived.BigQuiet
import Derived.Deep.DeepCutAuto
set_option linter.unusedVariables false
set_option linter.unusedSimpArgs false
set_option linter.unusedSectionVars false
set_option linter.unnecessarySimpa false
namespace Go.Sg
open Go Go.RowKit
theorem SlE.form {w : World} {v : Value} {es : List Ev} (h : SlE w v es) : ∃ a cap, v = .slice a es.length cap := by
  obtain ⟨a, cap, h1, _⟩ := h
  exact ⟨a, cap, h1⟩
end Go.Sg
namespace Go.Proofs.Ythchfdobdghdoaa
open Go Go.RowKit Go.Sg
set_option maxHeartbeats 8000000 in
set_option maxRecDepth 100000 in
theorem LevelBlind_walk (n : Int) (v : Value) (l : List Sx) (v2 : Value) (l2 : List Sx) (sa sb : Sx) (w : World) (hn : Num n) (hv : SlK sxV w v l) (ho : ∀ x ∈ l, SxOk x) (hv2 : SlK sxV w v2 l2) (ho2 : ∀ x ∈ l2, SxOk x) (hsa : SxOk sa) (hsb : SxOk sb) :
    Calls Try.prog 4 #[.int .i64 n, v, v2, .agg (sxV sa).toArray, .agg (sxV sb).toArray] w fun e w' => e = .returned (.bool true) ∧ Below w.heap.size w w' := by
  show Calls Try.prog 4 #[.int .i64 n, v, v2, .agg #[.int .i64 sa.1, .int .u64 sa.2.1, .int .i64 sa.2.2.1, .int .u64 sa.2.2.2.1, .int .i64 sa.2.2.2.2.1, .int .i64 sa.2.2.2.2.2], .agg #[.int .i64 sb.1, .int .u64 sb.2.1, .int .i64 sb.2.2.1, .int .u64 sb.2.2.2.1, .int .i64 sb.2.2.2.2.1, .int .i64 sb.2.2.2.2.2]] w fun e w' => e = .returned (.bool true) ∧ Below w.heap.size w w'
  have KS := Lib.hid (fun w' => lshown_any w')
  have KC := Lib.hid (fun w' => lconfig_any n hn w')
  have HO := Lib.hid ho
  have HO2 := Lib.hid ho2
  obtain ⟨a, cap, rfl, hmx, hat⟩ := sxV_at hv
  obtain ⟨a2, cap2, rfl, hmx2, hat2⟩ := sxV_at hv2
  have HAT := Lib.hid hat
  have HAT2 := Lib.hid hat2
  unfold maxLen at hmx hmx2
  clear hv ho hat hv2 ho2 hat2
  obtain ⟨a1', a2', a3', a4', a5', a6'⟩ := hsa
  obtain ⟨b1', b2', b3', b4', b5', b6'⟩ := hsb
  obtain ⟨ao, ai, aa, an, af, at'⟩ := sa
  obtain ⟨bo, bi, ba, bn, bf, bt⟩ := sb
  simp only at a1' a2' a3' a4' a5' a6' b1' b2' b3' b4' b5' b6' ⊢
  obtain ⟨Q, hQ⟩ : ∃ Q, w.heap.size = Q := ⟨_, rfl⟩
  obtain ⟨wA, hwA⟩ : ∃ wA, (w.alloc (.cells #[.int .i64 ao, .int .u64 ai, .int .i64 aa, .int .u64 an, .int .i64 af, .int .i64 at'] 38)).alloc (.cells #[.int .i64 bo, .int .u64 bi, .int .i64 ba, .int .u64 bn, .int .i64 bf, .int .i64 bt] 38) = wA := ⟨_, rfl⟩
  have hb0 : Below w.heap.size w wA := by rw [← hwA]; exact ((Below.refl _ _).alloc (Nat.le_refl _) _).alloc (by simp) _
  have kA : Blk wA Q #[.int .i64 ao, .int .u64 ai, .int .i64 aa, .int .u64 an, .int .i64 af, .int .i64 at'] 38 := by rw [← hwA, ← hQ]; exact (Blk.new w _ _).alloc _
  have kB : Blk wA (Q + 1) #[.int .i64 bo, .int .u64 bi, .int .i64 ba, .int .u64 bn, .int .i64 bf, .int .i64 bt] 38 := by
    rw [← hwA, ← hQ]
    have := Blk.new (w.alloc (.cells #[.int .i64 ao, .int .u64 ai, .int .i64 aa, .int .u64 an, .int .i64 af, .int .i64 at'] 38)) #[.int .i64 bo, .int .u64 bi, .int .i64 ba, .int .u64 bn, .int .i64 bf, .int .i64 bt] 38
    simpa using this
  have HB0 := Lib.hid hb0
  have HKA := Lib.hid kA
  have HKB := Lib.hid kB
  have HW0 := Lib.hid hwA
  clear hb0 kA kB hwA
  by_cases hL3 : 12 < l.length
  · have d3 : decide ((12 : Int) < (l.length : Int)) = true := decide_eq_true (by omega)
    have d3' : decide (12 < l.length) = true := decide_eq_true hL3
    go_enter Try.func4, Try.ntmps4
    go_wp2_with fail
    rw [HW0.out]
    refine (KS.out _).mono ?_
    rintro e w1 ⟨rfl, hb1⟩
    have HB1 := Lib.hid hb1
    clear hb1
    go_wp2
    go_ret
    exact ⟨rfl, HB0.out.trans (HB1.out.mono HB0.out.size)⟩
  have d3 : decide ((12 : Int) < (l.length : Int)) = false := decide_eq_false (by omega)
  have d3' : decide (12 < l.length) = false := decide_eq_false hL3
  by_cases hL4 : 12 < l2.length
  · have d4 : decide ((12 : Int) < (l2.length : Int)) = true := decide_eq_true (by omega)
    have d4' : decide (12 < l2.length) = true := decide_eq_true hL4
    go_enter Try.func4, Try.ntmps4
    go_wp2_with fail
    rw [HW0.out]
    refine (KS.out _).mono ?_
    rintro e w1 ⟨rfl, hb1⟩
    have HB1 := Lib.hid hb1
    clear hb1
    go_wp2
    go_ret
    exact ⟨rfl, HB0.out.trans (HB1.out.mono HB0.out.size)⟩
  have d4 : decide ((12 : Int) < (l2.length : Int)) = false := decide_eq_false (by omega)
  have d4' : decide (12 < l2.length) = false := decide_eq_false hL4
  have HC := Lib.hid (cfg_ok n)
  have KM := Lib.hid (fun w' => lmade_any (cfgL n) HC.out.ok HC.out.new HC.out.lev w')
  have HF0 := Lib.hid (fit_start HC.out.right)
  obtain ⟨b1, b1x⟩ := HC.out.b1
  obtain ⟨c, hc⟩ : ∃ c, cfgL n = c := ⟨_, rfl⟩
  rw [hc] at HC KM HF0 KC b1 b1x
  clear hc
  go_enter Try.func4, Try.ntmps4
  go_wp2_with fail
  rw [HW0.out]
  refine (KS.out _).mono ?_
  rintro e w1 ⟨rfl, hb1⟩
  have HB1 : Hid (Below wA.heap.size wA w1) := Lib.hid hb1
  clear hb1 KS
  go_wp2_with fail
  refine (KC.out _).mono ?_
  rintro e w2 ⟨rfl, hb2⟩
  have HB2 : Hid (Below wA.heap.size wA w2) := Lib.hid (HB1.out.trans (hb2.mono HB1.out.size))
  clear hb2 KC
  obtain ⟨A, hA⟩ : ∃ A, w2.heap.size = A := ⟨_, rfl⟩
  have hbx : Blk (w2.alloc (.cells #[.int .i64 0, .int .i64 0, .int .i64 0] 26)) A #[.int .i64 0, .int .i64 0, .int .i64 0] 26 := by rw [← hA]; exact Blk.new w2 _ _
  have HBX := Lib.hid hbx
  have HI3 : Hid ((Try.prog.info? 26).map (·.size) = some (#[.int .i64 c.1, .int .i64 c.2.1, .int .i64 c.2.2] : Array Value).size) := Lib.hid (by kernel_rfl)
  have HW3 : Hid (Blk ((w2.alloc (.cells #[.int .i64 0, .int .i64 0, .int .i64 0] 26)).setRow A #[.int .i64 c.1, .int .i64 c.2.1, .int .i64 c.2.2]) A #[.int .i64 c.1, .int .i64 c.2.1, .int .i64 c.2.2] 26 ∧ Below wA.heap.size wA ((w2.alloc (.cells #[.int .i64 0, .int .i64 0, .int .i64 0] 26)).setRow A #[.int .i64 c.1, .int .i64 c.2.1, .int .i64 c.2.2])) :=
    Lib.hid ⟨HBX.out.setRow _, below_rowS (HB2.out.alloc HB2.out.size _) _ _ (by rw [← hA]; exact HB2.out.size)⟩
  clear hbx
  go_upto_region 5 with (first
    | (refine wpList_store_row rfl 26 (.tmp 12) (.tmp 37) rfl A #[.int .i64 c.1, .int .i64 c.2.1, .int .i64 c.2.2] rfl rfl 26 _ HBX.out HI3.out (by rfl) (by simp [Value.oneCell']) ?_)
    | fail)
  generalize (w2.alloc (.cells #[.int .i64 0, .int .i64 0, .int .i64 0] 26)).setRow A #[.int .i64 c.1, .int .i64 c.2.1, .int .i64 c.2.2] = w3 at *
  have HAWA := Lib.hid HW3.out.1.lt
  have HB3 := Lib.hid HW3.out.2
  have HCF : Hid (∀ w', Below w3.heap.size w3 w' → w'.cell? ⟨A, 0, none⟩ = some (.int .i64 c.1) ∧ w'.cell? ⟨A, 1, none⟩ = some (.int .i64 c.2.1) ∧ w'.cell? ⟨A, 2, none⟩ = some (.int .i64 c.2.2) ∧ Below wA.heap.size wA w') := Lib.hid fun w' hb => ⟨(HW3.out.1.below hb HAWA.out).cell 0, (HW3.out.1.below hb HAWA.out).cell 1, (HW3.out.1.below hb HAWA.out).cell 2, HW3.out.2.trans (hb.mono HW3.out.2.size)⟩
  clear hA HBX HI3 HB2 HW3 HAWA HB1
  have HIL := Lib.hid (info_lcL c)
  obtain ⟨a0, a1, a2, -⟩ := HCF.out _ (Below.refl _ _)
  go_wp2_with fail
  refine (KM.out _).mono ?_
  rintro e w4 ⟨p, qx, ix, rfl, h4⟩
  have H4 := Lib.hid h4
  clear a0 a1 a2 h4
  obtain ⟨a0, a1, a2, -⟩ := HCF.out _ H4.out.one.old
  go_wp2_with fail
  refine (KM.out _).mono ?_
  rintro e w5 ⟨p2, qz, iz, rfl, h5⟩
  have HBL := Lib.hid (bl_made H4.out h5)
  clear a0 a1 a2 KM h5 H4
  obtain ⟨P, hP⟩ : ∃ P : BlP, P = ⟨p, p2, qx, ix, qz, iz⟩ := ⟨_, rfl⟩
  rw [← hP] at HBL
  have HP : Hid (P.p = p ∧ P.p2 = p2 ∧ P.qx = qx ∧ P.qz = qz) := Lib.hid (by rw [hP]; exact ⟨rfl, rfl, rfl, rfl⟩)
  clear hP
  have KX : Hid (∀ (S Z : Ls) (k : Nat), k ≤ 1000 → LsFit c 1 S k → ∀ (w' : World) (op id at' fr lf : Int) (d : List Int), (d.length = 8 ∧ ∀ x ∈ d, Word x) → Word id → BlR w3 w' P c S Z (fun _ => False) (fun _ => True) → Calls Try.prog 10 #[.pointer (some ⟨qx, 0, none⟩), .int .i64 op, .int .u64 id, .int .i64 at', .agg (cw d), .int .i64 fr, .int .i64 lf] w' fun e w2 =>
      e = .returned (.tuple #[.agg (cw (S.tell 1 c op id at' fr lf).1), .bool (S.tell 1 c op id at' fr lf).2]) ∧ BlR w3 w2 P c (S.acc 1 c op id at' d fr lf) Z (fun _ => False) (fun _ => True)) := Lib.hid fun S Z k hk hS w' op id at' fr lf d hd hid h => by
    have := bl_x (Q := Try.prog) (f := 10) (args := #[.pointer (some ⟨P.qx, 0, none⟩), .int .i64 op, .int .u64 id, .int .i64 at', .agg (cw d), .int .i64 fr, .int .i64 lf]) (R := fun e => e = .returned (.tuple #[.agg (cw (S.tell 1 c op id at' fr lf).1), .bool (S.tell 1 c op id at' fr lf).2])) (S' := S.acc 1 c op id at' d fr lf) keeps_true h (fun D' X' hK' h' => fitAccess hK' HC.out 1 (by decide) op id at' fr lf d hd hid P.qx P.ix S k hk hS h')
    rw [HP.out.2.2.1] at this
    exact this
  have KZ : Hid (∀ (S Z : Ls) (k : Nat), k ≤ 1000 → LsFit c 1 Z k → ∀ (w' : World) (op id at' fr lf : Int) (d : List Int), (d.length = 8 ∧ ∀ x ∈ d, Word x) → Word id → BlR w3 w' P c S Z (fun _ => False) (fun _ => True) → Calls Try.prog 10 #[.pointer (some ⟨qz, 0, none⟩), .int .i64 op, .int .u64 id, .int .i64 at', .agg (cw d), .int .i64 fr, .int .i64 lf] w' fun e w2 =>
      e = .returned (.tuple #[.agg (cw (Z.tell 1 c op id at' fr lf).1), .bool (Z.tell 1 c op id at' fr lf).2]) ∧ BlR w3 w2 P c S (Z.acc 1 c op id at' d fr lf) (fun _ => False) (fun _ => True)) := Lib.hid fun S Z k hk hS w' op id at' fr lf d hd hid h => by
    have := bl_z (Q := Try.prog) (f := 10) (args := #[.pointer (some ⟨P.qz, 0, none⟩), .int .i64 op, .int .u64 id, .int .i64 at', .agg (cw d), .int .i64 fr, .int .i64 lf]) (R := fun e => e = .returned (.tuple #[.agg (cw (Z.tell 1 c op id at' fr lf).1), .bool (Z.tell 1 c op id at' fr lf).2])) (Z' := Z.acc 1 c op id at' d fr lf) keeps_true h (fun D' X' hK' h' => fitAccess hK' HC.out 1 (by decide) op id at' fr lf d hd hid P.qz P.iz Z k hk hS h')
    rw [HP.out.2.2.2] at this
    exact this
  go_wp2_with fail
  go_loopw [17] (fun iv wr => ∃ k : Nat, k ≤ l.length ∧ iv = .int .i64 k ∧ Hid (∃ S, LsFit c 1 S k ∧ BlR w3 wr P c S (mkL c) (fun _ => False) (fun _ => True))) (fun iv _ => l.length - (intOf iv).toNat)
  case atStart => exact ⟨0, by omega, rfl, Lib.hid ⟨_, HF0.out, HBL.out⟩⟩
  case round =>
    obtain ⟨k, hk, rfl, HR⟩ := hrel
    by_cases hlt : k < l.length
    · have g1 : decide ((k : Int) < (l.length : Int)) = true := decide_eq_true (by omega)
      have g1' : decide (k < l.length) = true := decide_eq_true hlt
      have k0 : (0 : Int) ≤ (k : Int) := by omega
      have k1 : (k : Int) < (l.length : Int) := by omega
      obtain ⟨S, hI, hL⟩ := HR.out
      have HI := Lib.hid hI
      have HL := Lib.hid hL
      clear hI hL HR HBL
      obtain ⟨b, off, rfl, hlb, hcells⟩ := HAT.out k hlt
      have hx := HO.out l[k] (List.getElem_mem hlt)
      have HCE := Lib.hid hcells
      clear hcells
      generalize l[k] = x at *
      obtain ⟨xo, xi, xa, xn, xf, xt⟩ := x
      simp only at hx HCE
      obtain ⟨n1, n2, n3, n4, n5, n6⟩ := hx
      simp only at n1 n2 n3 n4 n5 n6
      have HLC : Hid (∀ w', Below w3.heap.size w3 w' → w'.cell? ⟨b, off + k * 6, none⟩ = some (.int .i64 xo) ∧ w'.cell? ⟨b, off + k * 6 + 1, none⟩ = some (.int .u64 xi) ∧ w'.cell? ⟨b, off + k * 6 + 2, none⟩ = some (.int .i64 xa) ∧ w'.cell? ⟨b, off + k * 6 + 3, none⟩ = some (.int .u64 xn) ∧ w'.cell? ⟨b, off + k * 6 + 4, none⟩ = some (.int .i64 xf) ∧ w'.cell? ⟨b, off + k * 6 + 5, none⟩ = some (.int .i64 xt)) := Lib.hid fun w' h => HCE.out w' (HB0.out.trans ((HCF.out w' h).2.2.2.mono HB0.out.size))
      have KD := Lib.hid (fun w' => ldata_any xn n4 w')
      have HNX := Lib.hid (fit_step (op := xo) (at' := xa) (fr := xf) (lf := xt) HC.out.right (by decide) HI.out n2.1 (datL_ok xn))
      have KA1 := Lib.hid (fun w' h => KX.out S (mkL c) k (by omega) HI.out w' xo xi xa xf xt (datL xn) (datL_ok xn) n2 h)
      obtain ⟨S2, hS2⟩ : ∃ S2, S.acc 1 c xo xi xa (datL xn) xf xt = S2 := ⟨_, rfl⟩
      rw [hS2] at HNX KA1
      obtain ⟨tl, htl⟩ : ∃ tl, S.tell 1 c xo xi xa xf xt = tl := ⟨_, rfl⟩
      rw [htl] at KA1
      obtain ⟨t1, t2⟩ := tl
      obtain ⟨dl, hdl⟩ : ∃ dl, datL xn = dl := ⟨_, rfl⟩
      rw [hdl] at KA1 KD
      have hd := HL.out.below keeps_true ((Below.refl _ _).drew)
      obtain ⟨e0, e1, e2, e3, e4, e5⟩ := HLC.out _ HL.out.old
      clear hS2 htl hdl n1 n2 n3 n4 n5 n6 HCE
      go_wp2_with fail
      go_region_held3 (fun w' => w'.cell? ⟨b, off + k * 6, none⟩ = some (.int .i64 xo) ∧ w'.cell? ⟨b, off + k * 6 + 1, none⟩ = some (.int .u64 xi) ∧ w'.cell? ⟨b, off + k * 6 + 2, none⟩ = some (.int .i64 xa) ∧ w'.cell? ⟨b, off + k * 6 + 3, none⟩ = some (.int .u64 xn) ∧ w'.cell? ⟨b, off + k * 6 + 4, none⟩ = some (.int .i64 xf) ∧ w'.cell? ⟨b, off + k * 6 + 5, none⟩ = some (.int .i64 xt)) (first | exact HLC.out _ hd.old | exact HLC.out _ hd2.old | exact HLC.out _ hLy.old) (first
        | (go_at_call 11; with_reducible refine (KD.out _).mono ?_; rintro e wx ⟨rfl, hbx⟩; have hd2 := hd.below keeps_true hbx)
        | (go_at_call 10; with_reducible refine (KA1.out _ hd2).mono ?_; rintro e wy ⟨rfl, hLy⟩))
      all_goals
        have HLy := Lib.hid hLy
        clear hLy hd2 hd HL KD KA1 hbx e0 e1 e2 e3 e4 e5
        go_wp2_with fail
        go_roundw
        case rel => exact ⟨k + 1, by omega, by go_num, Lib.hid ⟨_, HNX.out, HLy.out⟩⟩
        case measure => simp [intOf]; omega
    · have g1 : decide ((k : Int) < (l.length : Int)) = false := decide_eq_false (by omega)
      have g1' : decide (k < l.length) = false := decide_eq_false hlt
      obtain ⟨S, hI, hL⟩ := HR.out
      have HI := Lib.hid hI
      have HL := Lib.hid hL
      clear hI hL HR HBL
      go_wp2_with fail
      have HFZ : Hid (LsFit c 1 (mkL c) 0) := HF0
      go_loopw [18] (fun iv wr => ∃ m : Nat, m ≤ l2.length ∧ iv = .int .i64 m ∧ Hid (∃ Z, LsFit c 1 Z m ∧ BlR w3 wr P c S Z (fun _ => False) (fun _ => True))) (fun iv _ => l2.length - (intOf iv).toNat)
      case atStart => exact ⟨0, by omega, rfl, Lib.hid ⟨_, HFZ.out, HL.out⟩⟩
      case round =>
        clear HL HFZ
        obtain ⟨m, hm, rfl, HR⟩ := hrel
        by_cases hmt : m < l2.length
        · have g2 : decide ((m : Int) < (l2.length : Int)) = true := decide_eq_true (by omega)
          have g2' : decide (m < l2.length) = true := decide_eq_true hmt
          have m0 : (0 : Int) ≤ (m : Int) := by omega
          have m1 : (m : Int) < (l2.length : Int) := by omega
          obtain ⟨Z, hI, hL⟩ := HR.out
          have HIZ := Lib.hid hI
          have HL := Lib.hid hL
          clear hI hL HR
          obtain ⟨b, off, rfl, hlb, hcells⟩ := HAT2.out m hmt
          have hx := HO2.out l2[m] (List.getElem_mem hmt)
          have HCE := Lib.hid hcells
          clear hcells
          generalize l2[m] = x at *
          obtain ⟨xo, xi, xa, xn, xf, xt⟩ := x
          simp only at hx HCE
          obtain ⟨n1, n2, n3, n4, n5, n6⟩ := hx
          simp only at n1 n2 n3 n4 n5 n6
          have HLC : Hid (∀ w', Below w3.heap.size w3 w' → w'.cell? ⟨b, off + m * 6, none⟩ = some (.int .i64 xo) ∧ w'.cell? ⟨b, off + m * 6 + 1, none⟩ = some (.int .u64 xi) ∧ w'.cell? ⟨b, off + m * 6 + 2, none⟩ = some (.int .i64 xa) ∧ w'.cell? ⟨b, off + m * 6 + 3, none⟩ = some (.int .u64 xn) ∧ w'.cell? ⟨b, off + m * 6 + 4, none⟩ = some (.int .i64 xf) ∧ w'.cell? ⟨b, off + m * 6 + 5, none⟩ = some (.int .i64 xt)) := Lib.hid fun w' h => HCE.out w' (HB0.out.trans ((HCF.out w' h).2.2.2.mono HB0.out.size))
          have KD := Lib.hid (fun w' => ldata_any xn n4 w')
          have HNX := Lib.hid (fit_step (op := xo) (at' := xa) (fr := xf) (lf := xt) HC.out.right (by decide) HIZ.out n2.1 (datL_ok xn))
          have KA1 := Lib.hid (fun w' h => KZ.out S Z m (by omega) HIZ.out w' xo xi xa xf xt (datL xn) (datL_ok xn) n2 h)
          obtain ⟨Z2, hZ2⟩ : ∃ Z2, Z.acc 1 c xo xi xa (datL xn) xf xt = Z2 := ⟨_, rfl⟩
          rw [hZ2] at HNX KA1
          obtain ⟨tl, htl⟩ : ∃ tl, Z.tell 1 c xo xi xa xf xt = tl := ⟨_, rfl⟩
          rw [htl] at KA1
          obtain ⟨t1, t2⟩ := tl
          obtain ⟨dl, hdl⟩ : ∃ dl, datL xn = dl := ⟨_, rfl⟩
          rw [hdl] at KA1 KD
          have hd := HL.out.below keeps_true ((Below.refl _ _).drew)
          obtain ⟨e0, e1, e2, e3, e4, e5⟩ := HLC.out _ HL.out.old
          clear hZ2 htl hdl n1 n2 n3 n4 n5 n6 HCE
          go_wp2_with fail
          go_region_held3 (fun w' => w'.cell? ⟨b, off + m * 6, none⟩ = some (.int .i64 xo) ∧ w'.cell? ⟨b, off + m * 6 + 1, none⟩ = some (.int .u64 xi) ∧ w'.cell? ⟨b, off + m * 6 + 2, none⟩ = some (.int .i64 xa) ∧ w'.cell? ⟨b, off + m * 6 + 3, none⟩ = some (.int .u64 xn) ∧ w'.cell? ⟨b, off + m * 6 + 4, none⟩ = some (.int .i64 xf) ∧ w'.cell? ⟨b, off + m * 6 + 5, none⟩ = some (.int .i64 xt)) (first | exact HLC.out _ hd.old | exact HLC.out _ hd2.old | exact HLC.out _ hLy.old) (first
            | (go_at_call 11; with_reducible refine (KD.out _).mono ?_; rintro e wx ⟨rfl, hbx⟩; have hd2 := hd.below keeps_true hbx)
            | (go_at_call 10; with_reducible refine (KA1.out _ hd2).mono ?_; rintro e wy ⟨rfl, hLy⟩))
          all_goals
            have HLy := Lib.hid hLy
            clear hLy hd2 hd HL KD KA1 hbx e0 e1 e2 e3 e4 e5
            go_wp2_with fail
            go_roundw
            case rel => exact ⟨m + 1, by omega, by go_num, Lib.hid ⟨_, HNX.out, HLy.out⟩⟩
            case measure => simp [intOf]; omega
        · have g2 : decide ((m : Int) < (l2.length : Int)) = false := decide_eq_false (by omega)
          have g2' : decide (m < l2.length) = false := decide_eq_false hmt
          obtain ⟨Z, hI, hL⟩ := HR.out
          have HIZ := Lib.hid hI
          have HL := Lib.hid hL
          clear hI hL HR HAT HAT2 HO HO2
          have HAC : Hid (∀ w', Below w3.heap.size w3 w' → w'.cell? ⟨A, 0, none⟩ = some (.int .i64 c.1) ∧ (w'.cell? ⟨Q, 0, none⟩ = some (.int .i64 ao) ∧ w'.cell? ⟨Q, 1, none⟩ = some (.int .u64 ai) ∧ w'.cell? ⟨Q, 2, none⟩ = some (.int .i64 aa) ∧ w'.cell? ⟨Q, 3, none⟩ = some (.int .u64 an) ∧ w'.cell? ⟨Q, 4, none⟩ = some (.int .i64 af) ∧ w'.cell? ⟨Q, 5, none⟩ = some (.int .i64 at')) ∧ (w'.cell? ⟨Q + 1, 0, none⟩ = some (.int .i64 bo) ∧ w'.cell? ⟨Q + 1, 1, none⟩ = some (.int .u64 bi) ∧ w'.cell? ⟨Q + 1, 2, none⟩ = some (.int .i64 ba) ∧ w'.cell? ⟨Q + 1, 3, none⟩ = some (.int .u64 bn) ∧ w'.cell? ⟨Q + 1, 4, none⟩ = some (.int .i64 bf) ∧ w'.cell? ⟨Q + 1, 5, none⟩ = some (.int .i64 bt))) := Lib.hid fun w' h => by
            have h1 := HCF.out w' h
            have ka := HKA.out.below h1.2.2.2 HKA.out.lt
            have kb := HKB.out.below h1.2.2.2 HKB.out.lt
            exact ⟨h1.1, ⟨ka.cell 0, ka.cell 1, ka.cell 2, ka.cell 3, ka.cell 4, ka.cell 5⟩, ⟨kb.cell 0, kb.cell 1, kb.cell 2, kb.cell 3, kb.cell 4, kb.cell 5⟩⟩
          have HKA1 : Hid (∀ w', Below w3.heap.size w3 w' → w'.cell? ⟨A, 0, none⟩ = some (.int .i64 c.1) ∧ (w'.cell? ⟨Q, 0, none⟩ = some (.int .i64 ao) ∧ w'.cell? ⟨Q, 1, none⟩ = some (.int .u64 ai) ∧ w'.cell? ⟨Q, 2, none⟩ = some (.int .i64 aa) ∧ w'.cell? ⟨Q, 3, none⟩ = some (.int .u64 an) ∧ w'.cell? ⟨Q, 4, none⟩ = some (.int .i64 af) ∧ w'.cell? ⟨Q, 5, none⟩ = some (.int .i64 at'))) := Lib.hid fun w' h => ⟨(HAC.out w' h).1, (HAC.out w' h).2.1⟩
          have HKA2 : Hid (∀ w', Below w3.heap.size w3 w' → w'.cell? ⟨A, 0, none⟩ = some (.int .i64 c.1) ∧ (w'.cell? ⟨Q + 1, 0, none⟩ = some (.int .i64 bo) ∧ w'.cell? ⟨Q + 1, 1, none⟩ = some (.int .u64 bi) ∧ w'.cell? ⟨Q + 1, 2, none⟩ = some (.int .i64 ba) ∧ w'.cell? ⟨Q + 1, 3, none⟩ = some (.int .u64 bn) ∧ w'.cell? ⟨Q + 1, 4, none⟩ = some (.int .i64 bf) ∧ w'.cell? ⟨Q + 1, 5, none⟩ = some (.int .i64 bt))) := Lib.hid fun w' h => ⟨(HAC.out w' h).1, (HAC.out w' h).2.2⟩
          obtain ⟨fr, hfr⟩ : ∃ fr, pickD af c.1 = fr := ⟨_, rfl⟩
          have bfr := pickD_bd (c := af) (n := c.1) (by omega)
          have KF := Lib.hid (fun w' => lpick_any af c.1 a5' (by omega) (by omega) w')
          rw [hfr] at bfr KF
          clear hfr
          obtain ⟨o1, ho1⟩ : ∃ o1, pickD ao 4 = o1 := ⟨_, rfl⟩
          have bo1 := pickD_bd (c := ao) (n := 4) (by omega)
          have KP1 := Lib.hid (fun w' => lpick_any ao 4 a1' (by omega) (by omega) w')
          rw [ho1] at bo1 KP1
          clear ho1
          obtain ⟨p1, hp1⟩ : ∃ p1, pickD aa 7 = p1 := ⟨_, rfl⟩
          have bp1 := pickD_bd (c := aa) (n := 7) (by omega)
          have KP2 := Lib.hid (fun w' => lpick_any aa 7 a3' (by omega) (by omega) w')
          rw [hp1] at bp1 KP2
          clear hp1
          obtain ⟨t1, ht1⟩ : ∃ t1, pickD at' c.1 = t1 := ⟨_, rfl⟩
          have bt1 := pickD_bd (c := at') (n := c.1) (by omega)
          have KP3 := Lib.hid (fun w' => lpick_any at' c.1 a6' (by omega) (by omega) w')
          rw [ht1] at bt1 KP3
          clear ht1
          obtain ⟨o2, ho2⟩ : ∃ o2, pickD bo 4 = o2 := ⟨_, rfl⟩
          have bo2 := pickD_bd (c := bo) (n := 4) (by omega)
          have KP4 := Lib.hid (fun w' => lpick_any bo 4 b1' (by omega) (by omega) w')
          rw [ho2] at bo2 KP4
          clear ho2
          obtain ⟨r2, hr2⟩ : ∃ r2, pickD ba 7 = r2 := ⟨_, rfl⟩
          have br2 := pickD_bd (c := ba) (n := 7) (by omega)
          have KP5 := Lib.hid (fun w' => lpick_any ba 7 b3' (by omega) (by omega) w')
          rw [hr2] at br2 KP5
          clear hr2
          obtain ⟨t2, ht2⟩ : ∃ t2, pickD bt c.1 = t2 := ⟨_, rfl⟩
          have bt2 := pickD_bd (c := bt) (n := c.1) (by omega)
          have KP6 := Lib.hid (fun w' => lpick_any bt c.1 b6' (by omega) (by omega) w')
          rw [ht2] at bt2 KP6
          clear ht2
          obtain ⟨i1, hi1, hi10, hi11⟩ : ∃ id, ai.tmod 1000 = id ∧ 0 ≤ id ∧ id < 1000 := ⟨_, rfl, Int.tmod_nonneg _ a2'.1, by rw [Int.tmod_eq_emod_of_nonneg a2'.1]; omega⟩
          obtain ⟨i2, hi2, hi20, hi21⟩ : ∃ id, bi.tmod 1000 = id ∧ 0 ≤ id ∧ id < 1000 := ⟨_, rfl, Int.tmod_nonneg _ b2'.1, by rw [Int.tmod_eq_emod_of_nonneg b2'.1]; omega⟩
          have hiw1 : IntKind.u64.wrap i1 = i1 := by rw [IntKind.wrap_u64]; omega
          have hiw2 : IntKind.u64.wrap i2 = i2 := by rw [IntKind.wrap_u64]; omega
          have KDa := Lib.hid (fun w' => ldata_any an a4' w')
          have KDb := Lib.hid (fun w' => ldata_any bn b4' w')
          have HM1 : Hid (∀ w', BlR w3 w' P c S Z (fun _ => False) (fun _ => True) → Calls Try.prog 13 #[.pointer (some ⟨p, 0, none⟩)] w' fun e w2 => e = .returned (.int .i64 S.M.evs.length) ∧ w2 = w') := Lib.hid fun w' h => by have := bl_many1 h; rwa [HP.out.1] at this
          have HM2 : Hid (∀ w', BlR w3 w' P c S Z (fun _ => False) (fun _ => True) → Calls Try.prog 13 #[.pointer (some ⟨p2, 0, none⟩)] w' fun e w2 => e = .returned (.int .i64 Z.M.evs.length) ∧ w2 = w') := Lib.hid fun w' h => by have := bl_many2 h; rwa [HP.out.2.1] at this
          have hbad1 := badA_of (c := c) (op := o1) (id := i1) (at' := p1) (fr := fr) (lf := t1) ⟨bo1.1, by omega⟩ (by omega) bfr bt1 (fun _ => ⟨bp1.1, by omega⟩)
          have hbad2 := badA_of (c := c) (op := o2) (id := i2) (at' := r2) (fr := fr) (lf := t2) ⟨bo2.1, by omega⟩ (by omega) bfr bt2 (fun _ => ⟨br2.1, by omega⟩)
          have HE1 := Lib.hid (acc_evs (first := 1) (S := S) (d := datL an) hbad1)
          have HE2 := Lib.hid (acc_evs (first := 1) (S := Z) (d := datL bn) hbad2)
          have HFS := Lib.hid (fit_step (op := o1) (at' := p1) (fr := fr) (lf := t1) HC.out.right (by decide) HI.out hi10 (datL_ok an))
          have HFZ2 := Lib.hid (fit_step (op := o2) (at' := r2) (fr := fr) (lf := t2) HC.out.right (by decide) HIZ.out hi20 (datL_ok bn))
          have KA1 := Lib.hid (fun w' h => KX.out S Z k (by omega) HI.out w' o1 i1 p1 fr t1 (datL an) (datL_ok an) ⟨by omega, by omega⟩ h)
          obtain ⟨S2, hS2⟩ : ∃ S2, S.acc 1 c o1 i1 p1 (datL an) fr t1 = S2 := ⟨_, rfl⟩
          rw [hS2] at KA1 HE1 HFS
          have KA2 := Lib.hid (fun w' h => KZ.out S2 Z m (by omega) HIZ.out w' o2 i2 r2 fr t2 (datL bn) (datL_ok bn) ⟨by omega, by omega⟩ h)
          obtain ⟨Z2, hZ2⟩ : ∃ Z2, Z.acc 1 c o2 i2 r2 (datL bn) fr t2 = Z2 := ⟨_, rfl⟩
          rw [hZ2] at KA2 HE2 HFZ2
          obtain ⟨ta, hta⟩ : ∃ tl, S.tell 1 c o1 i1 p1 fr t1 = tl := ⟨_, rfl⟩
          rw [hta] at KA1
          obtain ⟨tb, htb⟩ : ∃ tl, Z.tell 1 c o2 i2 r2 fr t2 = tl := ⟨_, rfl⟩
          rw [htb] at KA2
          obtain ⟨ta1, ta2⟩ := ta
          obtain ⟨tb1, tb2⟩ := tb
          generalize datL an = da at *
          generalize datL bn = db at *
          have HFR := Lib.hid bfr
          clear hS2 hZ2 hta htb hbad1 hbad2 HKA HKB
          obtain ⟨f0, ⟨e0, e1, e2, e3, e4, e5⟩, -⟩ := HAC.out _ HL.out.old
          go_wp2_with fail
          refine (KF.out _).mono ?_
          rintro e w6 ⟨rfl, rfl⟩
          clear f0 e0 e1 e2 e3 e4 e5
          go_wp2_with fail
          refine (HM1.out _ HL.out).mono ?_
          rintro e w7 ⟨rfl, rfl⟩
          go_wp2_with fail
          refine (HM2.out _ HL.out).mono ?_
          rintro e w8 ⟨rfl, rfl⟩
          clear HM1 HM2
          have hd := HL.out.below keeps_true ((Below.refl _ _).drew)
          obtain ⟨f0, qa, qb⟩ := HAC.out _ HL.out.old
          obtain ⟨e0, e1, e2, e3, e4, e5⟩ := qa
          go_wp2_with fail
          go_region_held3 (fun w' => w'.cell? ⟨A, 0, none⟩ = some (.int .i64 c.1) ∧ (w'.cell? ⟨Q, 0, none⟩ = some (.int .i64 ao) ∧ w'.cell? ⟨Q, 1, none⟩ = some (.int .u64 ai) ∧ w'.cell? ⟨Q, 2, none⟩ = some (.int .i64 aa) ∧ w'.cell? ⟨Q, 3, none⟩ = some (.int .u64 an) ∧ w'.cell? ⟨Q, 4, none⟩ = some (.int .i64 af) ∧ w'.cell? ⟨Q, 5, none⟩ = some (.int .i64 at'))) (first | exact HKA1.out _ hd.old | exact HKA1.out _ hd2.old | exact HKA1.out _ hLy.old) (first
            | (go_at_call 8; first | (with_reducible refine (KP1.out _).mono ?_; rintro e wx ⟨rfl, rfl⟩) | (with_reducible refine (KP2.out _).mono ?_; rintro e wx ⟨rfl, rfl⟩) | (with_reducible refine (KP3.out _).mono ?_; rintro e wx ⟨rfl, rfl⟩))
            | (go_at_call 11; with_reducible refine (KDa.out _).mono ?_; rintro e wx ⟨rfl, hbx⟩; have hd2 := hd.below keeps_true hbx)
            | (go_at_call 10; with_reducible refine (KA1.out _ hd2).mono ?_; rintro e wy ⟨rfl, hLy⟩))
          all_goals
            have HLy := Lib.hid hLy
            clear hLy hd2 hd HL e0 e1 e2 e3 e4 e5 f0 qb hbx KA1 KDa KP1 KP2 KP3
            have hd := HLy.out.below keeps_true ((Below.refl _ _).drew)
            obtain ⟨f0, -, ⟨e0, e1, e2, e3, e4, e5⟩⟩ := HAC.out _ HLy.out.old
            go_wp2_with fail
            go_region_held3 (fun w' => w'.cell? ⟨A, 0, none⟩ = some (.int .i64 c.1) ∧ (w'.cell? ⟨Q + 1, 0, none⟩ = some (.int .i64 bo) ∧ w'.cell? ⟨Q + 1, 1, none⟩ = some (.int .u64 bi) ∧ w'.cell? ⟨Q + 1, 2, none⟩ = some (.int .i64 ba) ∧ w'.cell? ⟨Q + 1, 3, none⟩ = some (.int .u64 bn) ∧ w'.cell? ⟨Q + 1, 4, none⟩ = some (.int .i64 bf) ∧ w'.cell? ⟨Q + 1, 5, none⟩ = some (.int .i64 bt))) (first | exact HKA2.out _ hd.old | exact HKA2.out _ hd2.old | exact HKA2.out _ hLz.old) (first
              | (go_at_call 8; first | (with_reducible refine (KP4.out _).mono ?_; rintro e wx ⟨rfl, rfl⟩) | (with_reducible refine (KP5.out _).mono ?_; rintro e wx ⟨rfl, rfl⟩) | (with_reducible refine (KP6.out _).mono ?_; rintro e wx ⟨rfl, rfl⟩))
              | (go_at_call 11; with_reducible refine (KDb.out _).mono ?_; rintro e wx ⟨rfl, hbx⟩; have hd2 := hd.below keeps_true hbx)
              | (go_at_call 10; with_reducible refine (KA2.out _ hd2).mono ?_; rintro e wz ⟨rfl, hLz⟩))
            all_goals
              have HLz := Lib.hid hLz
              clear hLz hd2 hd HLy e0 e1 e2 e3 e4 e5 f0 hbx KA2 KDb KP4 KP5 KP6
              obtain ⟨EV, hEV⟩ : ∃ EV, evA 1 c fr = EV := ⟨_, rfl⟩
              have hpos : 0 < EV.length := by
                rw [← hEV]
                unfold evA dealEv
                have h1 := evsR_pos c HC.out.right (1 + 2)
                have h2 := List.length_pos_iff.2 h1
                simp only [List.length_append]
                omega
              have dpos : decide ((0 : Int) < (EV.length : Int)) = true := decide_eq_true (by omega)
              have dpos' : decide (0 < EV.length) = true := decide_eq_true hpos
              have hS2 := HFS.out.evs
              have hZ2 := HFZ2.out.evs
              have KS1 : Hid (∀ w', Below wz.heap.size wz w' → Calls Try.prog 15 #[.pointer (some ⟨p, 0, none⟩), .int .i64 S.M.evs.length] w' fun e w2 => ∃ v, e = .returned v ∧ SlE w2 v EV ∧ Below w'.heap.size w' w2) := Lib.hid fun w' h => by
                have := bl_since1 keeps_true (HLz.out.below keeps_true h) (by omega) S.M.evs.length (by rw [HE1.out, List.length_append]; omega)
                rw [HP.out.1, HE1.out, List.drop_left, hEV] at this
                exact this
              have KS2 : Hid (∀ w', Below wz.heap.size wz w' → Calls Try.prog 15 #[.pointer (some ⟨p2, 0, none⟩), .int .i64 Z.M.evs.length] w' fun e w2 => ∃ v, e = .returned v ∧ SlE w2 v EV ∧ Below w'.heap.size w' w2) := Lib.hid fun w' h => by
                have := bl_since2 keeps_true (HLz.out.below keeps_true h) (by omega) Z.M.evs.length (by rw [HE2.out, List.length_append]; omega)
                rw [HP.out.2.1, HE2.out, List.drop_left, hEV] at this
                exact this
              have KSM := Lib.hid (fun w' v1 v2 (h1 : SlE w' v1 EV) (h2 : SlE w' v2 EV) => by
                have := sameE10_any v1 v2 EV EV w' h1 h2
                rwa [decide_eq_true rfl] at this)
              have HFB : Hid (hasB c.1 fr = true) := Lib.hid (by
                have h1 := HFR.out
                have h2 := (lcRight_iff HC.out.right).1
                unfold hasB
                rw [h2, decide_eq_true h1.1, decide_eq_true h1.2]
                rfl)
              have KEV := Lib.hid (fun w' => levEvents_any c HC.out.ok HC.out.right 1 (by decide) fr HFB.out w')
              rw [hEV] at KEV
              have HEND : Hid (∀ w', Below wz.heap.size wz w' → Below w.heap.size w w') := Lib.hid fun w' h => by
                have h3 := HLz.out.old.trans (h.mono HLz.out.old.size)
                exact HB0.out.trans ((HCF.out w' h3).2.2.2.mono HB0.out.size)
              have HC3 : Hid (∀ w', Below wz.heap.size wz w' → w'.cell? ⟨A, 0, none⟩ = some (.int .i64 c.1) ∧ w'.cell? ⟨A, 1, none⟩ = some (.int .i64 c.2.1) ∧ w'.cell? ⟨A, 2, none⟩ = some (.int .i64 c.2.2)) := Lib.hid fun w' h => by
                have h3 := HCF.out w' (HLz.out.old.trans (h.mono HLz.out.old.size))
                exact ⟨h3.1, h3.2.1, h3.2.2.1⟩
              have hb0 : Below wz.heap.size wz wz.drew := (Below.refl _ _).drew
              clear hEV hpos hS2 hZ2 HE1 HE2 HFS HFZ2 HLz HAC HKA1 HKA2 KX KZ KF
              go_upto_region 22 with fail
              go_region_held3 (fun w' => w'.cell? ⟨A, 0, none⟩ = some (.int .i64 c.1) ∧ w'.cell? ⟨A, 1, none⟩ = some (.int .i64 c.2.1) ∧ w'.cell? ⟨A, 2, none⟩ = some (.int .i64 c.2.2)) (first | exact HC3.out _ hb0 | exact HC3.out _ hb1 | exact HC3.out _ hb2 | exact HC3.out _ hb4 | exact HC3.out _ (by assumption)) (first
                | (go_at_call 15; with_reducible refine (KS1.out _ hb0).mono ?_; rintro e w1 ⟨v1, rfl, s1, hw1⟩; have hb1 := hb0.trans (hw1.mono hb0.size); (try have s2' := s2.below hw1); (try have s4' := s4.below hw1); obtain ⟨a1, c1, hv1⟩ := s1.form; subst hv1)
                | (go_at_call 15; with_reducible refine (KS1.out _ hb1).mono ?_; rintro e w1 ⟨v1, rfl, s1, hw1⟩; have hb1 := hb1.trans (hw1.mono hb1.size); (try have s2' := s2.below hw1); (try have s4' := s4.below hw1); obtain ⟨a1, c1, hv1⟩ := s1.form; subst hv1)
                | (go_at_call 15; with_reducible refine (KS1.out _ hb2).mono ?_; rintro e w1 ⟨v1, rfl, s1, hw1⟩; have hb1 := hb2.trans (hw1.mono hb2.size); (try have s2' := s2.below hw1); (try have s4' := s4.below hw1); obtain ⟨a1, c1, hv1⟩ := s1.form; subst hv1)
                | (go_at_call 15; with_reducible refine (KS1.out _ hb4).mono ?_; rintro e w1 ⟨v1, rfl, s1, hw1⟩; have hb1 := hb4.trans (hw1.mono hb4.size); (try have s2' := s2.below hw1); (try have s4' := s4.below hw1); obtain ⟨a1, c1, hv1⟩ := s1.form; subst hv1)
                | (go_at_call 15; with_reducible refine (KS1.out _ hb5).mono ?_; rintro e w1 ⟨v1, rfl, s1, hw1⟩; have hb1 := hb5.trans (hw1.mono hb5.size); (try have s2' := s2.below hw1); (try have s4' := s4.below hw1); obtain ⟨a1, c1, hv1⟩ := s1.form; subst hv1)
                | (go_at_call 15; with_reducible refine (KS2.out _ hb0).mono ?_; rintro e w2 ⟨v2, rfl, s2, hw2⟩; have hb2 := hb0.trans (hw2.mono hb0.size); (try have s1' := s1.below hw2))
                | (go_at_call 15; with_reducible refine (KS2.out _ hb1).mono ?_; rintro e w2 ⟨v2, rfl, s2, hw2⟩; have hb2 := hb1.trans (hw2.mono hb1.size); (try have s1' := s1.below hw2))
                | (go_at_call 16; go_loud (with_reducible refine (KEV.out _).mono ?_); go_loud (rintro e w4 ⟨v4, rfl, s4, hw4, -⟩); go_loud (first | have hb4 := hb1.trans (hw4.mono hb1.size) | have hb4 := hb5.trans (hw4.mono hb5.size)); (try have s1' := s1.below hw4))
                | (go_at_call 14; with_reducible refine (KSM.out _ _ _ s1' s2).mono ?_; rintro e w5 ⟨rfl, hw5⟩; (first | have hb5 := hb4.trans (hw5.mono hb4.size) | have hb5 := hb1.trans (hw5.mono hb1.size) | have hb5 := hb2.trans (hw5.mono hb2.size)))
                | (go_at_call 14; with_reducible refine (KSM.out _ _ _ s1 s2').mono ?_; rintro e w5 ⟨rfl, hw5⟩; (first | have hb5 := hb4.trans (hw5.mono hb4.size) | have hb5 := hb1.trans (hw5.mono hb1.size) | have hb5 := hb2.trans (hw5.mono hb2.size)))
                | (go_at_call 14; with_reducible refine (KSM.out _ _ _ s1' s4).mono ?_; rintro e w5 ⟨rfl, hw5⟩; (first | have hb5 := hb4.trans (hw5.mono hb4.size) | have hb5 := hb1.trans (hw5.mono hb1.size) | have hb5 := hb2.trans (hw5.mono hb2.size)))
                | (go_at_call 14; with_reducible refine (KSM.out _ _ _ s1 s4').mono ?_; rintro e w5 ⟨rfl, hw5⟩; (first | have hb5 := hb4.trans (hw5.mono hb4.size) | have hb5 := hb1.trans (hw5.mono hb1.size) | have hb5 := hb2.trans (hw5.mono hb2.size))))
              all_goals
                have HBF := Lib.hid (HEND.out _ hb1)
                clear hb1
                go_wp2
                go_ret
                exact ⟨rfl, HBF.out⟩
end Go.Proofs.Ythchfdobdghdoaa
