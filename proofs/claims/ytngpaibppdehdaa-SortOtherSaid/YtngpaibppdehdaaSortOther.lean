/-
  The walk of shellgamelaw6.SortOther.
-/
import Derived.Test.YtngpaibppdehdaaSortedL
namespace Go.Proofs.Ytngpaibppdehdaa
open Go Go.RowKit Go.Sg

set_option maxHeartbeats 8000000 in
set_option maxRecDepth 100000 in
theorem SortOther_walk (v : Value) (zs : List Int) (log a b : Int) (w : World) (hv : SlI .u64 w v zs) (_hl : Num log) (_ha : Num a) (_hb : Num b) :
    Calls Try.prog 18 #[v, .int .i64 log, .int .i64 a, .int .i64 b] w fun e w' => e = .returned (.bool true) ∧ Below w.heap.size w w' := by
  have HWZ := Lib.hid (slI_wordsO hv)
  have HV := Lib.hid (Sl1.of_SlI hv)
  have hlen : zs.length ≤ maxLen := by have := HV.out.len_le; rwa [List.length_map] at this
  obtain ⟨va, vc, rfl⟩ : ∃ a c, v = .slice a zs.length c := by have := HV.out.len; rwa [List.length_map] at this
  unfold maxLen at hlen
  clear hv
  go_enter Try.func18, Try.ntmps18
  go_wp2_with fail
  refine (shown6 w).mono ?_
  rintro e w1 ⟨rfl, hb1⟩
  have HB1 := Lib.hid hb1
  have HV1 := Lib.hid (HV.out.below hb1)
  clear hb1 HV
  by_cases h1 : log < 0
  · have d1 : decide (log < 0) = true := decide_eq_true h1
    go_wp2
    go_ret
    exact ⟨rfl, HB1.out⟩
  have d1 : decide (log < 0) = false := decide_eq_false h1
  by_cases h2 : 6 < log
  · have d2 : decide (6 < log) = true := decide_eq_true h2
    go_wp2
    go_ret
    exact ⟨rfl, HB1.out⟩
  have d2 : decide (6 < log) = false := decide_eq_false h2
  by_cases h3 : a < 0
  · have d3 : decide (a < 0) = true := decide_eq_true h3
    go_wp2
    go_ret
    exact ⟨rfl, HB1.out⟩
  have d3 : decide (a < 0) = false := decide_eq_false h3
  by_cases h4 : 11 < a
  · have d4 : decide (11 < a) = true := decide_eq_true h4
    go_wp2
    go_ret
    exact ⟨rfl, HB1.out⟩
  have d4 : decide (11 < a) = false := decide_eq_false h4
  by_cases h5 : b < 0
  · have d5 : decide (b < 0) = true := decide_eq_true h5
    go_wp2
    go_ret
    exact ⟨rfl, HB1.out⟩
  have d5 : decide (b < 0) = false := decide_eq_false h5
  by_cases h6 : 11 < b
  · have d6 : decide (11 < b) = true := decide_eq_true h6
    go_wp2
    go_ret
    exact ⟨rfl, HB1.out⟩
  have d6 : decide (11 < b) = false := decide_eq_false h6
  obtain ⟨t, rfl⟩ : ∃ t : Nat, log = t := ⟨log.toNat, by omega⟩
  obtain ⟨ka, rfl⟩ : ∃ t : Nat, a = t := ⟨a.toNat, by omega⟩
  obtain ⟨kb, rfl⟩ : ∃ t : Nat, b = t := ⟨b.toNat, by omega⟩
  have ht : t ≤ 6 := by omega
  have hka : ka < 12 := by omega
  have hkb : kb < 12 := by omega
  have d1' : decide ((t : Int) < 0) = false := d1
  have d2' : decide (6 < t) = false := decide_eq_false (by omega)
  have d4' : decide (11 < ka) = false := decide_eq_false (by omega)
  have d6' : decide (11 < kb) = false := decide_eq_false (by omega)
  have hpw : 2 ^ t ≤ 64 := Nat.le_trans (Nat.pow_le_pow_right (by omega) ht) (by decide)
  have hp1 : 1 ≤ 2 ^ t := Nat.one_le_two_pow
  have HPL := Lib.hid (fun (M0 M1 M2 : Mm) h0 hok h1 h2 => other_plain (M0 := M0) (M1 := M1) (M2 := M2) HWZ.out ht hka hkb h0 hok h1 h2)
  have HPW0 := Lib.hid (pow_wrapO (t := t) (by omega))
  obtain ⟨NP, hNP⟩ : ∃ NP : Nat, 2 ^ t = NP := ⟨_, rfl⟩
  rw [hNP] at HPL HPW0 hpw hp1
  clear hNP
  go_wp2_with fail
  rw [HPW0.out]
  refine (laid6_any 1 NP (by decide) (by decide) hp1 (by omega) _ zs HWZ.out _ HV1.out).mono ?_
  rintro e w2 ⟨p, q, rfl, hP⟩
  have hok0 := hP.left.ok
  obtain ⟨M0, h0⟩ : ∃ M0, laidM 1 NP zs = M0 := ⟨_, rfl⟩
  obtain ⟨M1, h1⟩ : ∃ M1, runM M0 0 (NP : Int) (ka : Int) = M1 := ⟨_, rfl⟩
  obtain ⟨M2, h2⟩ : ∃ M2, runM M1 0 (NP : Int) (kb : Int) = M2 := ⟨_, rfl⟩
  rw [h0] at hP hok0
  obtain ⟨r1, r2, e0, e1, e2, ok2, hsz, hgood, hmono⟩ := HPL.out M0 M1 M2 h0 hok0 h1 h2
  have HX0 := Lib.hid hP.left
  have K1 := Lib.hid (one_run keeps_true 0 (NP : Int) (ka : Int) HX0.out (by omega))
  have K2 := Lib.hid (fun w' (h' : OneX 108 w1 w' p M1 (fun _ => False) (fun _ => True)) => one_run keeps_true 0 (NP : Int) (kb : Int) h' (by omega))
  rw [r1, h1] at K1
  rw [r2, h2] at K2
  simp only [if_true] at K1 K2
  have HGOOD := Lib.hid hgood
  have HMONO := Lib.hid hmono
  have HOK2 := Lib.hid ok2
  clear HPL HV1 HWZ hP hok0 r1 r2 h0 h1 h2 hgood hmono ok2 e0 e1
  go_wp2_with fail
  try rw [HPW0.out]
  refine K1.out.mono ?_
  rintro e wA ⟨rfl, hA⟩
  go_wp2_with fail
  try rw [HPW0.out]
  refine (K2.out _ hA).mono ?_
  rintro e wB ⟨rfl, hB⟩
  have HXB := Lib.hid hB
  clear hA hB K1 K2 HX0
  go_wp2_with fail
  try rw [HPW0.out]
  go_loopw [13, 14, 15] (fun la me i wr => ∃ k : Nat, k ≤ NP ∧ i = .int .i64 k ∧ me = .int .i64 k ∧ la = .int .u64 (lastW M2 kb k) ∧ Hid (∃ es : List Ev, es.length ≤ k ∧ OneX 108 w1 wr p (M2.noted es) (fun _ => False) (fun _ => True))) (fun _ _ i _ => NP - (intOf i).toNat)
  case atStart => exact ⟨0, by omega, rfl, rfl, rfl, Lib.hid ⟨[], by simp, by rw [Mm.noted_nil]; exact HXB.out⟩⟩
  case round =>
    obtain ⟨k, hk, rfl, rfl, rfl, HX⟩ := hrel
    obtain ⟨es', hes', hX⟩ := HX.out
    have HXr := Lib.hid hX
    clear hX
    by_cases hlt : k < NP
    · have hd : decide ((k : Int) < (NP : Int)) = true := decide_eq_true (by omega)
      have hd' : decide (k < NP) = true := decide_eq_true hlt
      have hhas : M2.has 0 (k : Int) = true := Mm.has_lt (by omega)
      have hlo : (M2.noted es').look 0 (k : Int) false = M2.noted (es' ++ [((0 : Int), (k : Int), false)]) := by
        rw [Mm.look_noted (by rw [Mm.noted_has]; exact hhas), Mm.noted_noted]
      have K8 := Lib.hid (one_read keeps_true 0 (k : Int) HXr.out (by rw [Mm.noted_evs, List.length_append]; omega))
      rw [hlo, Mm.noted_read] at K8
      have hes2 : (es' ++ [((0 : Int), (k : Int), false)]).length ≤ k + 1 := by simp; omega
      have hrl := (Mm.read_ok HOK2.out 0 (k : Int)).1
      have hmo := HMONO.out k hlt
      have HLW : Hid (lastW M2 kb (k + 1) = (M2.read 0 (k : Int)).getD kb 0) := Lib.hid rfl
      have hgd := HGOOD.out k hlt
      clear hhas hlo HXr
      obtain ⟨x, hx⟩ : ∃ x, M2.read 0 (k : Int) = x := ⟨_, rfl⟩
      rw [hx] at K8 hrl hmo hgd HLW
      clear hx
      have hgb : x[kb]? = some (x.getD kb 0) := by
        rw [List.getD_eq_getElem?_getD, List.getElem?_eq_getElem (by omega)]; rfl
      have hg0 : x[0]? = some (x.getD 0 0) := by
        rw [List.getD_eq_getElem?_getD, List.getElem?_eq_getElem (by omega)]; rfl
      have hcb : (cw x)[kb]? = some (.int .u64 (x.getD kb 0)) := by
        have hh : kb < x.length := by omega
        rw [cw_get hh]
        rw [List.getElem?_eq_getElem hh] at hgb
        rw [← Option.some.inj hgb]
      have hc0 : (cw x)[0]? = some (.int .u64 (x.getD 0 0)) := by
        have hh : 0 < x.length := by omega
        rw [cw_get hh]
        rw [List.getElem?_eq_getElem hh] at hg0
        rw [← Option.some.inj hg0]
      have Q1 : ∀ w, (Op.equalIn 10000 44 (.agg (cw x)) (.agg #[.int .u64 0, .int .u64 0, .int .u64 0, .int .u64 0, .int .u64 0, .int .u64 0, .int .u64 0, .int .u64 0, .int .u64 0, .int .u64 0, .int .u64 0, .int .u64 0])).run Try.prog w = .ok (decide (x = zeros)) w := run_eqcell x zeros hrl rfl
      have Q2 := run_eqcell x (cellL (x.getD 0 0)) hrl (cellL_len _)
      have hdec : decide (x = zeros) = true ∨ (decide (x = zeros) = false ∧ decide (x = cellL (x.getD 0 0)) = true) := by
        by_cases hz : x = zeros
        · exact .inl (decide_eq_true hz)
        · exact .inr ⟨decide_eq_false hz, decide_eq_true (hgd.resolve_left hz)⟩
      have KC := Lib.hid (fun w' => cell6_any (x.getD 0 0) w')
      have hz1 : (cw x).size = 12 := by rw [cw_size, hrl]
      clear hgd hgb hg0 hrl
      generalize decide (x = zeros) = bz at *
      generalize decide (x = cellL (x.getD 0 0)) = bc at *
      generalize cw (cellL (x.getD 0 0)) = cc at *
      generalize x.getD 0 0 = x0 at *
      generalize x.getD kb 0 = xb at *
      have HALL : Hid ((cw x).all (·.oneCell') = true) := Lib.hid (all_oneCell_toArray (wv_one x))
      generalize cw x = xs at *
      have HI1 : Hid ((Try.prog.info? 44).map (·.size) = some xs.size) := Lib.hid (by rw [hz1]; kernel_rfl)
      generalize es' ++ [((0 : Int), (k : Int), false)] = es2 at *
      go_wp2_with fail
      refine K8.out.mono ?_
      rintro e wM ⟨rfl, hM⟩
      obtain ⟨Bc, hBc⟩ : ∃ g, wM.heap.size = g := ⟨_, rfl⟩
      have hbx := hM.box keeps_true z12 44
      have hfl := hM.fillF keeps_true z12 xs 44
      rw [hBc] at hbx hfl
      have HBX := Lib.hid hbx
      have HFL := Lib.hid hfl
      have HO1 : Hid (xs.all (·.oneCell') = true) := HALL
      clear hbx hfl hM K8
      go_upto_region 14 with (first
        | (refine wpList_store_row rfl 44 (.tmp 16) (.tmp 76) rfl Bc xs rfl rfl 44 _ HBX.out.x.2 HI1.out (by rw [hz1]; rfl) HO1.out ?_)
        | fail)
      refine at_world (fun w' => OneX 108 w1 w' p (M2.noted es2) (fun i => False ∨ i = Bc) (fun w' => True ∧ Blk w' Bc xs 44)) HFL.out ?_
      intro wN hN
      have HKN : Hid (Keeps (fun i => False ∨ i = Bc) (fun w' => True ∧ Blk w' Bc xs 44)) := Lib.hid (keeps_and keeps_true (keeps_blk _ _ _))
      have c1 : wN.cell? ⟨Bc, kb, none⟩ = some (.int .u64 xb) := by rw [hN.x.2.cell]; exact hcb
      have HXN := Lib.hid hN
      have k0 : (0 : Int) ≤ (kb : Int) := by omega
      have k1 : (kb : Int) < 12 := by omega
      have dl : decide (xb < lastW M2 kb k) = false := decide_eq_false (by omega)
      clear hN HBX HFL hBc
      obtain ⟨C, hCi, hCo, hCs⟩ : ∃ C : World → Prop, C wN.drew ∧ (∀ w', C w' → OneX 108 w1 w' p (M2.noted es2) (fun i => False ∨ i = Bc) (fun w' => True ∧ Blk w' Bc xs 44)) ∧ (∀ w', C w' → Calls Try.prog 61 #[.int .u64 x0] w' fun e w'' => e = .returned (.agg cc) ∧ C w'') :=
        ⟨fun w' => OneX 108 w1 w' p (M2.noted es2) (fun i => False ∨ i = Bc) (fun w' => True ∧ Blk w' Bc xs 44), HXN.out.drew HKN.out, fun _ h => h, fun w' h => (KC.out w').mono fun e w'' ⟨he, hb⟩ => ⟨he, h.below HKN.out hb⟩⟩
      have HCO := Lib.hid hCo
      have HCS := Lib.hid hCs
      have HCB : Hid (∀ w', C w' → Blk w' Bc xs 44 ∧ w'.cell? ⟨Bc, 0, none⟩ = some (.int .u64 x0)) := Lib.hid fun w' h => by
        have hb := (hCo w' h).x.2
        exact ⟨hb, by rw [hb.cell]; exact hc0⟩
      clear hCo hCs hcb KC HXN HO1
      rcases hdec with rfl | ⟨rfl, rfl⟩
      all_goals
        go_upto_region 17 with fail
        refine wp_region_cls C (by kernel_rfl) (by kernel_rfl) hCi ?_
        repeat (first
          | (with_reducible refine wpQuiet_step ?_
             intro K hK
             refine qs_skipR (by rfl) (hK _ ?_)
             clear hK K
             try simp only [Act.put, List.setIfInBounds_toArray, List.set_cons_zero, List.set_cons_succ])
          | (with_reducible refine wpQuiet_step ?_
             intro K hK
             refine qs_load_row (by rfl) 44 _ rfl Bc rfl 44 xs _ (fun w hw => (HCB.out w hw).1) Try.underlying44 rfl HI1.out (hK _ ?_)
             clear hK K
             try simp only [Act.put, List.setIfInBounds_toArray, List.set_cons_zero, List.set_cons_succ])
          | (with_reducible refine wpQuiet_step ?_
             intro K hK
             refine qs_load_cell (by rfl) 39 _ rfl ⟨Bc, 0, none⟩ rfl (.int .u64 x0) (fun w hw => (HCB.out w hw).2) Try.isAgg39 (hK _ ?_)
             clear hK K
             try simp only [Act.put, List.setIfInBounds_toArray, List.set_cons_zero, List.set_cons_succ])
          | (with_reducible refine wpQuiet_step ?_
             intro K hK
             go_simp
             first
               | (with_reducible refine hK _ ?_; clear hK K)
               | (with_reducible refine ⟨_, fun _ _ => rfl, hK _ ?_⟩; clear hK K)
               | (with_reducible apply Exists.intro
                  with_reducible refine ⟨fun _ hC => ?_, hK _ ?_⟩
                  (with_reducible exact HCS.out _ hC)
                  clear hK K
                  try simp only [Act.put, List.setIfInBounds_toArray, List.set_cons_zero, List.set_cons_succ])))
        refine wpQuiet_nil ?_
        intro w8 hC8
        have HXE := Lib.hid (show OneX 108 w1 w8 p (M2.noted es2) (fun _ => False) (fun _ => True) from (HCO.out _ hC8).less (fun _ h => .inl h) (fun h => h.1))
        clear hC8 hCi HCO HCS HCB
        go_wp2
        go_roundw
        case rel => exact ⟨k + 1, by omega, by go_num, by go_num, by rw [HLW.out], Lib.hid ⟨es2, hes2, HXE.out⟩⟩
        case measure => simp [intOf]; omega
    · obtain rfl : k = NP := by omega
      have hd : decide ((k : Int) < (k : Int)) = false := by simp
      have HB9 : Hid (Below w.heap.size w wr) := Lib.hid (HB1.out.trans (HXr.out.old.mono HB1.out.size))
      clear HXr
      go_wp2
      go_ret
      exact ⟨by first | rfl | simp, HB9.out⟩
end Go.Proofs.Ytngpaibppdehdaa
