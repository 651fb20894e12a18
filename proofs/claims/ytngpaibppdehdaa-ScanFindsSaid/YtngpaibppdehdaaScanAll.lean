/-
  The walk of shellgamelaw7.ScanAll.
-/
import Derived.Test.YtngpaibppdehdaaPairF
import Derived.BigQuiet
namespace Go.Sg
open Go Go.RowKit
theorem SlE.get {w : World} {v : Value} {es : List Ev} (h : SlE w v es) : ∃ a cap, v = .slice a es.length cap := by
  obtain ⟨a, cap, rfl, _⟩ := h
  exact ⟨a, cap, rfl⟩
theorem SlE.at {w : World} {a : Option Addr} {n cap : Nat} {es : List Ev} (h : SlE w (.slice a n cap) es) {k : Nat} {e : Ev} (hk : es[k]? = some e) : ∃ b off, a = some ⟨b, off, none⟩ ∧ w.rangeAt b (off + k * 3) (evV e) := by
  obtain ⟨a', cap', he, _, _, h3⟩ := h
  simp only [Value.slice.injEq] at he
  obtain ⟨rfl, rfl, rfl⟩ := he
  obtain ⟨hlt, hke⟩ := List.getElem?_eq_some_iff.1 hk
  obtain ⟨b, off, rfl, _, hr⟩ := h3 (fun e => by rw [e] at hlt; cases hlt)
  exact ⟨b, off, rfl, by have := rangeAt_ev hr k hlt; rwa [hke] at this⟩
theorem drop_noted (M : Mm) (es : List Ev) : (M.noted es).evs.drop M.evs.length = es := by rw [Mm.noted_evs, List.drop_left]
theorem writesL_get (r : Int) : ∀ (n k : Nat), k < n → (writesL r n)[2 * k]? = some (r, (k : Int), false) ∧ (writesL r n)[2 * k + 1]? = some (r, (k : Int), true)
  | 0, k, h => by omega
  | n + 1, k, h => by
    rw [writesL_succ]
    rcases Nat.lt_or_ge k n with h1 | h1
    · rw [List.getElem?_append_left (by rw [writesL_len]; omega), List.getElem?_append_left (by rw [writesL_len]; omega)]
      exact writesL_get r n k h1
    · obtain rfl : k = n := by omega
      rw [List.getElem?_append_right (by rw [writesL_len]; omega), List.getElem?_append_right (by rw [writesL_len]; omega), writesL_len, Nat.sub_self, show 2 * k + 1 - 2 * k = 1 by omega]
      exact ⟨rfl, rfl⟩
end Go.Sg
namespace Go.Proofs.Ytngpaibppdehdaa
open Go Go.RowKit Go.Sg

set_option maxHeartbeats 4000000 in
set_option maxRecDepth 100000 in
theorem ScanAll_walk (v : Value) (zs : List Int) (r at' : Int) (w : World) (hv : SlI .u64 w v zs) (_hr : Num r) (hat : Word at') :
    Calls Try.prog 20 #[v, .int .i64 r, .int .u64 at'] w fun e w' => e = .returned (.bool true) ∧ Below w.heap.size w w' := by
  have HWZ := Lib.hid (slI_words' hv)
  have HV := Lib.hid (Sl1.of_SlI hv)
  have hlen : zs.length ≤ maxLen := by have := HV.out.len_le; rwa [List.length_map] at this
  obtain ⟨va, vc, rfl⟩ : ∃ a c, v = .slice a zs.length c := by have := HV.out.len; rwa [List.length_map] at this
  unfold maxLen at hlen
  clear hv
  go_enter Try.func20, Try.ntmps20
  go_wp2_with fail
  refine (shown7 w).mono ?_
  rintro e w1 ⟨rfl, hb1⟩
  have HB1 := Lib.hid hb1
  have HV1 := Lib.hid (HV.out.below hb1)
  clear hb1
  by_cases h40 : 40 < zs.length
  · have d : decide ((40 : Int) < (zs.length : Int)) = true := decide_eq_true (by omega)
    go_wp2
    go_ret
    exact ⟨rfl, HB1.out⟩
  have d : decide ((40 : Int) < (zs.length : Int)) = false := decide_eq_false (by omega)
  go_wp2_with fail
  refine (laid7_any 2 12 (by decide) (by decide) (by decide) (by decide) _ zs HWZ.out _ HV1.out).mono ?_
  rintro e w2 ⟨p, q, rfl, hP⟩
  have HX0 := Lib.hid hP.left
  have HL := Lib.hid (laid_f (r := 2) (c := 12) zs (by decide))
  have hev0 : (laidM 2 12 zs).evs.length ≤ 12 := HL.out.evs.2
  have hfl : (laidM 2 12 zs).fault = false := HL.out.fault
  clear hP HV HV1 HWZ HL
  generalize laidM 2 12 zs = M0 at *
  have hn4 := Mm.size_le HX0.out.ok r
  obtain ⟨n, hn⟩ : ∃ n, M0.size r = n := ⟨_, rfl⟩
  rw [hn] at hn4
  -- Size, Many, Get, Since
  have K1 := Lib.hid (one_size r HX0.out)
  rw [hn] at K1
  have KM1 := Lib.hid (one_many HX0.out)
  have K2 := Lib.hid (one_get keeps_true r at' hat HX0.out (by omega))
  rw [hn] at K2
  go_wp2_with fail
  refine K1.out.mono ?_
  rintro e wS ⟨rfl, rfl⟩
  go_wp2_with fail
  refine KM1.out.mono ?_
  rintro e wS ⟨rfl, rfl⟩
  go_wp2_with fail
  refine K2.out.mono ?_
  rintro e wA ⟨rfl, hA⟩
  have K3 := Lib.hid (one_since keeps_true (M0.evs.length : Int) hA (by rw [noted_len, readsL_len]; omega) M0.evs.length (by rw [noted_len]; omega))
  rw [drop_noted] at K3
  clear hA K1 KM1 K2 HX0
  go_wp2_with fail
  refine K3.out.mono ?_
  rintro e wB ⟨v1, rfl, hB, _, _⟩
  have HX1 := Lib.hid hB
  have HD1 : Hid (Keeps (fun i => False ∨ OwnE v1 (readsL r n) i) (fun w => True ∧ SlE w v1 (readsL r n))) := Lib.hid (keeps_and keeps_true (keeps_slE _ _))
  have hs1 : (M0.noted (readsL r n)).size r = n := hn
  have hf1 : (M0.noted (readsL r n)).fault = false := hfl
  have hev1 : (M0.noted (readsL r n)).evs.length ≤ 5000 := by rw [noted_len, readsL_len]; omega
  clear hB K3 hn hfl hev0
  generalize M0.noted (readsL r n) = M1 at *
  -- Many, Find, Since
  have KM2 := Lib.hid (one_many HX1.out)
  have K4 := Lib.hid (one_find HD1.out r 0 at' ⟨by decide, by decide⟩ hat HX1.out (by omega))
  rw [hs1] at K4
  go_wp2_with fail
  refine KM2.out.mono ?_
  rintro e wS ⟨rfl, rfl⟩
  go_wp2_with fail
  refine K4.out.mono ?_
  rintro e wC ⟨rfl, hC⟩
  have K5 := Lib.hid (one_since HD1.out (M1.evs.length : Int) hC (by rw [noted_len, readsL_len]; omega) M1.evs.length (by rw [noted_len]; omega))
  rw [drop_noted] at K5
  clear hC KM2 K4 HX1
  go_wp2_with fail
  refine K5.out.mono ?_
  rintro e wD ⟨v2, rfl, hD, _, _⟩
  have HX2 := Lib.hid hD
  have HD2 := Lib.hid (keeps_and HD1.out (keeps_slE v2 (readsL r n)))
  have hs2 : (M1.noted (readsL r n)).size r = n := hs1
  have hf2 : (M1.noted (readsL r n)).fault = false := hf1
  have hev2 : (M1.noted (readsL r n)).evs.length ≤ 10000 := by rw [noted_len, readsL_len]; omega
  clear hD K5 hs1 hf1 hev1 HD1
  generalize M1.noted (readsL r n) = M2 at *
  -- Many, Count, Since
  have KM3 := Lib.hid (one_many HX2.out)
  have K6 := Lib.hid (one_count HD2.out r 0 at' ⟨by decide, by decide⟩ hat HX2.out (by omega))
  rw [hs2] at K6
  go_wp2_with fail
  refine KM3.out.mono ?_
  rintro e wS ⟨rfl, rfl⟩
  go_wp2_with fail
  refine K6.out.mono ?_
  rintro e wE ⟨rfl, hE⟩
  have K7 := Lib.hid (one_since HD2.out (M2.evs.length : Int) hE (by rw [noted_len, readsL_len]; omega) M2.evs.length (by rw [noted_len]; omega))
  rw [drop_noted] at K7
  clear hE KM3 K6 HX2
  go_wp2_with fail
  refine K7.out.mono ?_
  rintro e wF ⟨v3, rfl, hF, _, _⟩
  have HX3 := Lib.hid hF
  have HD3 := Lib.hid (keeps_and HD2.out (keeps_slE v3 (readsL r n)))
  have hs3 : (M2.noted (readsL r n)).size r = n := hs2
  have hf3 : (M2.noted (readsL r n)).fault = false := hf2
  have hev3 : (M2.noted (readsL r n)).evs.length ≤ 15000 := by rw [noted_len, readsL_len]; omega
  clear hF K7 hs2 hf2 hev2 HD2
  generalize M2.noted (readsL r n) = M3 at *
  -- Many, Put, Since
  have KM4 := Lib.hid (one_many HX3.out)
  go_wp2_with fail
  refine KM4.out.mono ?_
  rintro e wS ⟨rfl, rfl⟩
  go_wp2_with fail
  refine (cell7_any 1 _).mono ?_
  rintro e wG ⟨rfl, hbG⟩
  have HX4 := Lib.hid (HX3.out.below HD3.out hbG)
  have K8 := Lib.hid (one_put HD3.out r at' hat (cellL 1) (cellL_len 1) (cellL_words 1) false HX4.out (by omega))
  have hmk : mk false = 0 := rfl
  rw [hmk, hs3] at K8
  have hpi : M3.putIf false r at' (cellL 1) n = M3 := if_neg (fun h => by cases h.1)
  rw [hpi] at K8
  clear hmk hpi HX3 hbG
  go_wp2_with fail
  refine K8.out.mono ?_
  rintro e wH ⟨rfl, hH⟩
  have K9 := Lib.hid (one_since HD3.out (M3.evs.length : Int) hH (by rw [noted_len, writesL_len]; omega) M3.evs.length (by rw [noted_len]; omega))
  rw [drop_noted] at K9
  clear hH KM4 K8 HX4
  go_wp2_with fail
  refine K9.out.mono ?_
  rintro e wI ⟨v4, rfl, hI, _, _⟩
  have HX5 := Lib.hid hI
  have hf4 : (M3.noted (writesL r n)).fault = false := hf3
  clear hI K9 HD3 hs3 hf3 hev3
  generalize M3.noted (writesL r n) = M4 at *
  have HB2 := Lib.hid (HB1.out.trans (HX5.out.old.mono HB1.out.size))
  have KF := Lib.hid (fun w' (hb : Below wI.heap.size wI w') => one_fault (HX5.out.less (E := fun _ => False) (Y := fun _ => True) (fun _ h => h.elim) (fun _ => trivial) |>.below keeps_true hb))
  rw [hf4] at KF
  obtain ⟨⟨⟨⟨_, hv1⟩, hv2⟩, hv3⟩, hv4⟩ := HX5.out.x
  clear HX5
  have HS1 : Hid (∀ w', Below wI.heap.size wI w' → SlE w' v1 (readsL r n)) := Lib.hid fun w' hb => hv1.below hb
  have HS2 : Hid (∀ w', Below wI.heap.size wI w' → SlE w' v2 (readsL r n)) := Lib.hid fun w' hb => hv2.below hb
  have HS3 : Hid (∀ w', Below wI.heap.size wI w' → SlE w' v3 (readsL r n)) := Lib.hid fun w' hb => hv3.below hb
  have HS4 : Hid (∀ w', Below wI.heap.size wI w' → SlE w' v4 (writesL r n)) := Lib.hid fun w' hb => hv4.below hb
  obtain ⟨a1, c1, rfl⟩ := hv1.get
  obtain ⟨a2, c2, rfl⟩ := hv2.get
  obtain ⟨a3, c3, rfl⟩ := hv3.get
  obtain ⟨a4, c4, rfl⟩ := hv4.get
  rw [readsL_len] at HS1 HS2 HS3 ⊢
  rw [writesL_len] at HS4 ⊢
  clear hv1 hv2 hv3 hv4 hf4
  have e1 : ((n : Int) != (n : Int)) = false := by simp
  have e2 : (((2 * n : Nat) : Int) != 2 * (n : Int)) = false := by simp
  have e2' : IntKind.i64.wrap (2 * (n : Int)) = 2 * (n : Int) := by rw [IntKind.wrap_i64]; omega
  go_wp2_with fail
  refine (cls_one (w0 := wI) (sameE7_any _ _ _ _ _ (HS1.out _ (Below.refl _ _)) (HS2.out _ (Below.refl _ _))) (Below.refl _ _)).mono ?_
  rw [decide_eq_true rfl]
  rintro e wJ ⟨rfl, hbJ⟩
  have KE := Lib.hid (cls_one (w0 := wI) (sameE7_any _ _ _ _ _ (HS1.out _ hbJ) (HS3.out _ hbJ)) hbJ)
  rw [decide_eq_true rfl] at KE
  clear hbJ
  go_wp2_with fail
  refine KE.out.mono ?_
  rintro e wK ⟨rfl, hbK⟩
  have KF2 := Lib.hid (KF.out _ hbK)
  have HBK := Lib.hid hbK
  clear KE KF hbK
  go_wp2_with fail
  refine KF2.out.mono ?_
  rintro e wS ⟨rfl, rfl⟩
  go_wp2_with fail
  refine (scanReads_any r n (by omega) _).mono ?_
  rintro e wL ⟨v5, rfl, hs5, hbL, _⟩
  obtain ⟨a5, c5, rfl⟩ := hs5.get
  rw [readsL_len]
  have HBL : Hid (Below wI.heap.size wI wL) := Lib.hid (HBK.out.trans (hbL.mono HBK.out.size))
  clear hs5 hbL KF2 HBK HS2 HS3
  go_upto_region 23 with fail
  go_loopw [16] (fun i wr => ∃ k : Nat, k ≤ n ∧ i = .int .i64 k ∧ Hid (Below wI.heap.size wI wr)) (fun i _ => n - (intOf i).toNat)
  case atStart => exact ⟨0, by omega, rfl, HBL⟩
  case round =>
    obtain ⟨k, hk, rfl, HB⟩ := hrel
    by_cases hlt : k < n
    · obtain ⟨b1, o1, rfl, hr1⟩ := (HS1.out _ HB.out).at (show (readsL r n)[k]? = some (r, (k : Int), false) from List.getElem?_eq_some_iff.2 ⟨by rw [readsL_len]; exact hlt, readsL_get _ _ _ hlt⟩)
      obtain ⟨b4, o4, rfl, hr4⟩ := (HS4.out _ HB.out).at (writesL_get r n k hlt).1
      obtain ⟨b4', o4', hb4', hr5⟩ := (HS4.out _ HB.out).at (writesL_get r n k hlt).2
      simp only [Option.some.injEq, Addr.mk.injEq, and_true] at hb4'
      obtain ⟨rfl, rfl⟩ := hb4'
      have HR1 : Hid (wr.rangeAt b1 (o1 + k * 3) [.int .i64 r, .int .i64 (k : Int), .bool false]) := Lib.hid hr1
      have HR4 : Hid (wr.rangeAt b4 (o4 + 2 * k * 3) [.int .i64 r, .int .i64 (k : Int), .bool false]) := Lib.hid hr4
      have HR5 : Hid (wr.rangeAt b4 (o4 + (2 * k + 1) * 3) [.int .i64 r, .int .i64 (k : Int), .bool true]) := Lib.hid hr5
      clear hr1 hr4 hr5
      have i0 : (0 : Int) ≤ (k : Int) := by omega
      have i1 : (k : Int) < (n : Int) := by omega
      have f1 : IntKind.i64.wrap (2 * (k : Int)) = 2 * (k : Int) := by rw [IntKind.wrap_i64]; omega
      have f2 : IntKind.i64.wrap (2 * (k : Int) + 1) = 2 * (k : Int) + 1 := by rw [IntKind.wrap_i64]; omega
      have f3 : (2 * (k : Int)).toNat = 2 * k := by omega
      have f4 : (2 * (k : Int) + 1).toNat = 2 * k + 1 := by omega
      have f5 : (0 : Int) ≤ 2 * (k : Int) := by omega
      have f6 : 2 * (k : Int) < ((2 * n : Nat) : Int) := by omega
      have f7 : (0 : Int) ≤ 2 * (k : Int) + 1 := by omega
      have f8 : 2 * (k : Int) + 1 < ((2 * n : Nat) : Int) := by omega
      have f9 : 2 * (k : Int) + 1 < 2 * (n : Int) := by omega
      have f10 : ¬ 2 * (k : Int) + 1 < 0 := by omega
      have f11 : 2 * k + 1 < 2 * n := by omega
      have QE0 := fun w => run_eqev (r, (k : Int), false) (r, (k : Int), false) w
      have QE1 := fun w => run_eqev (r, (k : Int), true) (r, (k : Int), true) w
      simp only [decide_true] at QE0 QE1
      have HIE : Hid ((Try.prog.info? 52).map (·.size) = some ([.int .i64 r, .int .i64 (k : Int), .bool false] : List Value).length) := Lib.hid (info_ev3 (r, (k : Int), false))
      have HIE2 : Hid ((Try.prog.info? 52).map (·.size) = some ([.int .i64 r, .int .i64 (k : Int), .bool true] : List Value).length) := Lib.hid (info_ev3 (r, (k : Int), true))
      go_wp2_with fail
      refine wp_region_cls (fun w' => ∃ n, w' = wr.drewN n) (by kernel_rfl) (by kernel_rfl) ⟨1, rfl⟩ ?_
      repeat (first
        | (refine wpQuiet_step (fun K hK => ?_)
           refine qs_load_mid (by rfl) 52 (.tmp 115) rfl b1 (o1 + k * 3) rfl [.int .i64 r, .int .i64 (k : Int), .bool false] _ (fun w ⟨n, hw⟩ => by subst hw; exact HR1.out) Try.underlying52 rfl HIE.out (hK _ ?_)
           clear hK K)
        | (refine wpQuiet_step (fun K hK => ?_)
           refine qs_load_mid (by rfl) 52 (.tmp 125) rfl b4 (o4 + 2 * k * 3) rfl [.int .i64 r, .int .i64 (k : Int), .bool false] _ (fun w ⟨n, hw⟩ => by subst hw; exact HR4.out) Try.underlying52 rfl HIE.out (hK _ ?_)
           clear hK K)
        | (refine wpQuiet_step (fun K hK => ?_)
           refine qs_load_mid (by rfl) 52 (.tmp 129) rfl b1 (o1 + k * 3) rfl [.int .i64 r, .int .i64 (k : Int), .bool false] _ (fun w ⟨n, hw⟩ => by subst hw; exact HR1.out) Try.underlying52 rfl HIE.out (hK _ ?_)
           clear hK K)
        | (refine wpQuiet_step (fun K hK => ?_)
           refine qs_load_mid (by rfl) 52 (.tmp 138) rfl b4 (o4 + (2 * k + 1) * 3) rfl [.int .i64 r, .int .i64 (k : Int), .bool true] _ (fun w ⟨n, hw⟩ => by subst hw; exact HR5.out) Try.underlying52 rfl HIE2.out (hK _ ?_)
           clear hK K)
        | (refine wpQuiet_step (fun K hK => ?_)
           go_simp
           first
             | (refine hK _ ?_; clear hK K)
             | (refine ⟨_, fun _ _ => rfl, hK _ ?_⟩; clear hK K)))
      refine wpQuiet_nil ?_
      rintro w'' ⟨nq, rfl⟩
      have HD : Hid (Below wI.heap.size wI (wr.drewN nq)) := Lib.hid (HB.out.trans ((below_drewN' (Below.refl _ _)).mono HB.out.size))
      clear QE0 QE1
      go_wp2
      go_roundw
      case rel => exact ⟨k + 1, by omega, by go_num, HD⟩
      case measure => simp [intOf]; omega
    · obtain rfl : k = n := by omega
      go_wp2
      go_ret
      exact ⟨rfl, HB2.out.trans (HB.out.mono HB2.out.size)⟩
end Go.Proofs.Ytngpaibppdehdaa
