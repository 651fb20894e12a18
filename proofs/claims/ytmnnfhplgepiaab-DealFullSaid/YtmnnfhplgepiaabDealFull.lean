/-
  The walk of the law DealFull: items that all may lie deepest fill the levels from the deepest one up.
-/
import Derived.Test.YtmnnfhplgepiaabDealY
import Derived.Test.YtmnnfhplgepiaabDItem
import Derived.Test.YtmnnfhplgepiaabDealF
import Derived.Test.YtmnnfhplgepiaabAs9
namespace Go.Proofs.Ytmnnfhplgepiaab
open Go Go.RowKit Go.Sg
set_option maxHeartbeats 8000000 in
set_option maxRecDepth 100000 in
theorem DealFull_walk (s : Sh) (less : Int) (w : World) (_n1 : Num s.1) (_n2 : Num s.2.1) (_n3 : Num s.2.2) (hless : Num less) :
    Calls Try.prog 8 #[.agg #[.int .i64 s.1, .int .i64 s.2.1, .int .i64 s.2.2], .int .i64 less] w fun e w' => e = .returned (.bool true) ∧ Below w.heap.size w w' := by
  have KS := Lib.hid (fun w' => shown9 w')
  have KR := Lib.hid (fun w' => right_any s w')
  have KP := Lib.hid (fun w' => places_any s w')
  have HBW : Hid (Below w.heap.size w (w.alloc (.cells #[.int .i64 s.1, .int .i64 s.2.1, .int .i64 s.2.2] 23))) := Lib.hid ((Below.refl _ _).alloc (Nat.le_refl _) _)
  have HBK : Hid (Blk (w.alloc (.cells #[.int .i64 s.1, .int .i64 s.2.1, .int .i64 s.2.2] 23)) w.heap.size #[.int .i64 s.1, .int .i64 s.2.1, .int .i64 s.2.2] 23) := Lib.hid (Blk.new w _ _)
  rcases hr : rightD s with _ | _
  · rw [hr] at KR
    clear hr
    go_enter Try.func8, Try.ntmps8
    go_wp2_with fail
    refine (KS.out _).mono ?_
    rintro e w2 ⟨rfl, hb2⟩
    have HB2 : Hid (Below w.heap.size w w2) := Lib.hid (HBW.out.trans (hb2.mono HBW.out.size))
    have HK2 := Lib.hid (HBK.out.below hb2 HBK.out.lt)
    have c0 : w2.cell? ⟨w.heap.size, 0, none⟩ = some (.int .i64 s.1) := HK2.out.cell 0
    have c1 : w2.cell? ⟨w.heap.size, 1, none⟩ = some (.int .i64 s.2.1) := HK2.out.cell 1
    have c2 : w2.cell? ⟨w.heap.size, 2, none⟩ = some (.int .i64 s.2.2) := HK2.out.cell 2
    clear hb2
    go_wp2_with fail
    refine (KR.out _).mono ?_
    rintro e w3 ⟨rfl, hb3⟩
    have HB3 : Hid (Below w.heap.size w w3) := Lib.hid (HB2.out.trans (hb3.mono HB2.out.size))
    clear hb3
    go_wp2
    go_ret
    exact ⟨rfl, HB3.out⟩
  have hs' := rightD_iff.1 hr
  have hlb := levelsD_bd hr
  have hpd : placesD s = levelsD s + s.2.2 + 1 := by unfold placesD; rw [if_pos hr]
  have hpb := placesD_bd s
  obtain ⟨n, hn⟩ : ∃ n : Nat, placesD s = n := ⟨_, (Int.toNat_of_nonneg hpb.1).symm⟩
  have HFF := Lib.hid (fun (many : Nat) (h : many + 1 ≤ n) => full_facts hr hn.symm h)
  rw [hr] at KR
  rw [hn] at KP
  have hn1 : 3 ≤ n ∧ n ≤ 153 := by omega
  have hnl : levelsD s + s.2.2 + 1 = (n : Int) := by omega
  clear hpd hpb hn
  have HR := Lib.hid hr
  have HNL := Lib.hid hnl
  clear hr hnl
  obtain ⟨u1, u2, u3, u4, u5', u6⟩ := hs'
  have hpk := pickD_bd (c := less) (n := (n : Int)) (by omega)
  have KPK := Lib.hid (fun w' => pickD_any less (n : Int) hless (by omega) (by omega) w')
  obtain ⟨pk, hpk2⟩ : ∃ pk : Nat, pickD less n = pk := ⟨_, (Int.toNat_of_nonneg hpk.1).symm⟩
  rw [hpk2] at KPK hpk
  clear hpk2
  have f1 : IntKind.i64.wrap ((n : Int) - 1) = (n : Int) - 1 := by rw [IntKind.wrap_i64]; omega
  have f2 : IntKind.i64.wrap ((n : Int) - 1 - pk) = (n : Int) - 1 - pk := by rw [IntKind.wrap_i64]; omega
  have f3 : ¬ (n : Int) - 1 < (n : Int) - 1 - pk := by omega
  have f4 : ¬ (n : Int) - 1 - pk < 0 := by omega
  go_enter Try.func8, Try.ntmps8
  go_wp2_with fail
  refine (KS.out _).mono ?_
  rintro e w2 ⟨rfl, hb2⟩
  have HB2 : Hid (Below w.heap.size w w2) := Lib.hid (HBW.out.trans (hb2.mono HBW.out.size))
  have HK2 := Lib.hid (HBK.out.below hb2 HBK.out.lt)
  have c0 : w2.cell? ⟨w.heap.size, 0, none⟩ = some (.int .i64 s.1) := HK2.out.cell 0
  have c1 : w2.cell? ⟨w.heap.size, 1, none⟩ = some (.int .i64 s.2.1) := HK2.out.cell 1
  have c2 : w2.cell? ⟨w.heap.size, 2, none⟩ = some (.int .i64 s.2.2) := HK2.out.cell 2
  clear hb2 KS HBW HBK
  go_wp2_with fail
  refine (KR.out _).mono ?_
  rintro e w3 ⟨rfl, hb3⟩
  have HB3 : Hid (Below w.heap.size w w3) := Lib.hid (HB2.out.trans (hb3.mono HB2.out.size))
  have HK3 := Lib.hid (HK2.out.below hb3 HK2.out.lt)
  have c0' : w3.cell? ⟨w.heap.size, 0, none⟩ = some (.int .i64 s.1) := HK3.out.cell 0
  have c1' : w3.cell? ⟨w.heap.size, 1, none⟩ = some (.int .i64 s.2.1) := HK3.out.cell 1
  have c2' : w3.cell? ⟨w.heap.size, 2, none⟩ = some (.int .i64 s.2.2) := HK3.out.cell 2
  clear hb3 c0 c1 c2 HB2 HK2 KR
  go_wp2_with fail
  refine (KP.out _).mono ?_
  rintro e w4 ⟨rfl, hb4⟩
  have HB4 : Hid (Below w.heap.size w w4) := Lib.hid (HB3.out.trans (hb4.mono HB3.out.size))
  have HK4 := Lib.hid (HK3.out.below hb4 HK3.out.lt)
  clear hb4 c0' c1' c2' HB3 HK3 KP
  go_wp2_with fail
  refine (KPK.out _).mono ?_
  rintro e wo ⟨rfl, rfl⟩
  clear KPK
  go_upto_region 6 with fail
  have hm : (if (pk : Int) < (n : Int) - 1 then (n : Int) - 1 - (pk : Int) else 0) = ((n - 1 - pk : Nat) : Int) := by
    by_cases h : (pk : Int) < (n : Int) - 1
    · rw [if_pos h]; omega
    · rw [if_neg h]; omega
  rw [hm]
  clear hm f1 f2 f3 f4
  obtain ⟨many, hmany⟩ : ∃ many, n - 1 - pk = many := ⟨_, rfl⟩
  rw [hmany]
  have hm1 : many + 1 ≤ n := by omega
  clear hmany hpk
  have HF := Lib.hid (HFF.out many hm1)
  clear HFF
  obtain ⟨i0, hi0, hz0, hz1, hz2⟩ := info_parts info_ditem9
  have HI := Lib.hid hi0
  have HZ := Lib.hid hz0
  have HS := Lib.hid hz1
  have HY := Lib.hid hz2
  clear hi0 hz0 hz1 hz2
  go_wp2_with fail
  go_loopw [8, 9] (fun sv i wr => ∃ k : Nat, k ≤ n ∧ i = .int .i64 k ∧ Hid (wr.ownsRow wo.heap.size 44 2 sv k (flatV diV (listF s.1 many k))) ∧ Hid (Below wo.heap.size wo wr)) (fun _ i _ => n - (intOf i).toNat)
  case atStart => exact ⟨0, by omega, rfl, Lib.hid (World.ownsRow_nil _ _ _ _), Lib.hid (Below.refl _ _)⟩
  case round =>
    obtain ⟨k, hk, rfl, HO, HB⟩ := hrel
    have HKr := Lib.hid (HK4.out.below HB.out HK4.out.lt)
    by_cases hlt : k < n
    · have HE1 : Hid (flatV diV (listF s.1 many (k + 1)) = flatV diV (listF s.1 many k) ++ diV (itF s.1 many k)) := Lib.hid (flatV_mkD _ _)
      have HF2 : Hid ((flatV diV (listF s.1 many k)).length = k * 2) := Lib.hid (by rw [flatV_len diV_k, listF_len])
      have c0 : wr.cell? ⟨w.heap.size, 0, none⟩ = some (.int .i64 s.1) := HKr.out.cell 0
      have q1 : IntKind.u64.wrap (k : Int) = (k : Int) := by rw [IntKind.wrap_u64]; omega
      by_cases hkm : k < many
      · have d1 : ¬ (many : Int) ≤ (k : Int) := by omega
        have hx : itF s.1 many k = ((k : Int), s.1) := by unfold itF; rw [if_pos hkm]
        rw [hx] at HE1
        clear hx
        go_wp2_with (first
          | (at_builtin; go_loud (refine wpList_append_own_at _ rfl (.tmp 51) (.tmp 53) 24 rfl wo.heap.size 44 i0 (.agg #[.int .u64 0, .int .i64 0]) 2 16 Try.underlying24 HI.out HZ.out HS.out HY.out rfl (by decide) _ k (flatV diV (listF s.1 many k)) rfl ((HO.out.alloc _).alloc _) ⟨wr.heap.size + 1, 0, none⟩ 1 1 [.int .u64 (k : Int), .int .i64 s.1] rfl rfl (by simpa using cells_litD (wr.alloc (.cells #[.int .u64 (k : Int), .int .i64 s.1] 44)) [.int .u64 (k : Int), .int .i64 s.1] _) (by simp [Value.oneCell']) (by unfold maxLen; omega) (by omega) (by have := HB.out.size; simp; omega) ?_))
          | fail)
        intro v1 w5 hown hgrow _ _
        have HO4 : Hid (w5.ownsRow wo.heap.size 44 2 v1 (k + 1) (flatV diV (listF s.1 many (k + 1)))) := Lib.hid (by rw [HE1.out]; exact hown)
        have HB4 : Hid (Below wo.heap.size wo w5) := Lib.hid (((HB.out.alloc HB.out.size _).alloc (by have := HB.out.size; simp; omega) _).grown hgrow (by have := HB.out.size; simp; omega) (fun j hj => (HO.out.lt j hj).1))
        clear hown hgrow
        go_wp2
        go_roundw
        case rel => exact ⟨k + 1, by omega, by go_num, HO4, HB4⟩
        case measure => simp [intOf]; omega
      · have d1 : (many : Int) ≤ (k : Int) := by omega
        have hx : itF s.1 many k = ((k : Int), -1) := by unfold itF; rw [if_neg hkm]
        rw [hx] at HE1
        clear hx
        go_wp2_with (first
          | (at_builtin; go_loud (refine wpList_append_own_at _ rfl (.tmp 51) (.tmp 53) 24 rfl wo.heap.size 44 i0 (.agg #[.int .u64 0, .int .i64 0]) 2 16 Try.underlying24 HI.out HZ.out HS.out HY.out rfl (by decide) _ k (flatV diV (listF s.1 many k)) rfl ((HO.out.alloc _).alloc _) ⟨wr.heap.size + 1, 0, none⟩ 1 1 [.int .u64 (k : Int), .int .i64 (-1)] rfl rfl (by simpa using cells_litD (wr.alloc (.cells #[.int .u64 (k : Int), .int .i64 (-1)] 44)) [.int .u64 (k : Int), .int .i64 (-1)] _) (by simp [Value.oneCell']) (by unfold maxLen; omega) (by omega) (by have := HB.out.size; simp; omega) ?_))
          | fail)
        intro v1 w5 hown hgrow _ _
        have HO4 : Hid (w5.ownsRow wo.heap.size 44 2 v1 (k + 1) (flatV diV (listF s.1 many (k + 1)))) := Lib.hid (by rw [HE1.out]; exact hown)
        have HB4 : Hid (Below wo.heap.size wo w5) := Lib.hid (((HB.out.alloc HB.out.size _).alloc (by have := HB.out.size; simp; omega) _).grown hgrow (by have := HB.out.size; simp; omega) (fun j hj => (HO.out.lt j hj).1))
        clear hown hgrow
        go_wp2
        go_roundw
        case rel => exact ⟨k + 1, by omega, by go_num, HO4, HB4⟩
        case measure => simp [intOf]; omega
    · obtain rfl : k = n := by omega
      have c0 : wr.cell? ⟨w.heap.size, 0, none⟩ = some (.int .i64 s.1) := HKr.out.cell 0
      have c1 : wr.cell? ⟨w.heap.size, 1, none⟩ = some (.int .i64 s.2.1) := HKr.out.cell 1
      have c2 : wr.cell? ⟨w.heap.size, 2, none⟩ = some (.int .i64 s.2.2) := HKr.out.cell 2
      have HSL := Lib.hid (SlK.of_owns (l := listF s.1 many k) (by rw [listF_len]; exact HO.out))
      have KD := Lib.hid (deal_any s (listF s.1 many k) u8 wr HSL.out)
      have HB5 : Hid (Below w.heap.size w wr) := Lib.hid (HB4.out.trans (HB.out.mono HB4.out.size))
      obtain ⟨PL, hPL⟩ : ∃ PL, dealP s (listF s.1 many k) = PL := ⟨_, rfl⟩
      rw [hPL, HF.out.2.1] at KD
      have HFL := Lib.hid HF.out.1
      have HFG := Lib.hid HF.out.2.2
      rw [hPL] at HFL HFG
      clear hPL HF HO HB HSL HB4 HK4
      go_wp2_with fail
      refine KD.out.mono ?_
      rintro e w6 ⟨v1, v2, rfl, hv1, hv2, hb6⟩
      have HB6 : Hid (Below w.heap.size w w6) := Lib.hid (HB5.out.trans (hb6.mono HB5.out.size))
      have HK6 := Lib.hid (HKr.out.below hb6 HKr.out.lt)
      obtain ⟨a1, cc1, rfl⟩ := hv1.len
      obtain ⟨a2, cc2, rfl⟩ := hv2.len
      have HV1 := Lib.hid hv1
      rw [List.length_map, HFL.out] at HV1 ⊢
      have c0' : w6.cell? ⟨w.heap.size, 0, none⟩ = some (.int .i64 s.1) := HK6.out.cell 0
      have c1' : w6.cell? ⟨w.heap.size, 1, none⟩ = some (.int .i64 s.2.1) := HK6.out.cell 1
      have HLV := Lib.hid (show levelsD s = s.2.1 * (s.1 + 1) from rfl)
      have g1 : IntKind.i64.wrap (s.1 + 1) = s.1 + 1 := by rw [IntKind.wrap_i64]; omega
      have g2 : IntKind.i64.wrap (s.2.1 * (s.1 + 1)) = levelsD s := by rw [← HLV.out, IntKind.wrap_i64]; omega
      have g3 : ((k : Int) != (k : Int)) = false := by simp
      clear hb6 hv1 hv2 c0 c1 c2 KD HB5 HKr
      go_wp2_with fail
      clear c0' c1' g1 g2 g3
      go_loopw [14] (fun i wr => ∃ t : Nat, t ≤ many ∧ i = .int .i64 t ∧ Hid (Below w6.heap.size w6 wr)) (fun i _ => many - (intOf i).toNat)
      case atStart => exact ⟨0, by omega, rfl, Lib.hid (Below.refl _ _)⟩
      case round =>
        obtain ⟨t, ht, rfl, HB⟩ := hrel
        have HB7 : Hid (Below w.heap.size w wr) := Lib.hid (HB6.out.trans (HB.out.mono HB6.out.size))
        by_cases hlt : t < many
        · have HK7 := Lib.hid (HK6.out.below HB.out HK6.out.lt)
          obtain ⟨b, off, hab, hcell⟩ : ∃ b off, a1 = some ⟨b, off, none⟩ ∧ wr.drew.cell? ⟨b, off + t, none⟩ = some (.int .i64 (wantD s t)) := by
            rcases HV1.out.below (HB.out.drew) with ⟨h, _⟩ | ⟨_, b, off, cap, h1, _, _, _, h2⟩
            · have := congrArg List.length h
              rw [List.length_map, HFL.out] at this
              simp at this
              omega
            · have h3 := h2 t (by rw [List.length_map, HFL.out]; omega)
              have h4 := HFG.out t hlt
              simp only [Value.slice.injEq] at h1
              refine ⟨b, off, h1.1, ?_⟩
              rw [h3, List.getElem_map]
              rw [List.getElem?_eq_some_iff] at h4
              obtain ⟨_, h4⟩ := h4
              rw [h4]
          subst hab
          have hcell' : wr.cell? ⟨b, off + t, none⟩ = some (.int .i64 (wantD s t)) := hcell
          have c0 : wr.cell? ⟨w.heap.size, 0, none⟩ = some (.int .i64 s.1) := HK7.out.cell 0
          have c1 : wr.cell? ⟨w.heap.size, 1, none⟩ = some (.int .i64 s.2.1) := HK7.out.cell 1
          have c0' : wr.drew.cell? ⟨w.heap.size, 0, none⟩ = some (.int .i64 s.1) := c0
          have c1' : wr.drew.cell? ⟨w.heap.size, 1, none⟩ = some (.int .i64 s.2.1) := c1
          have t0 : (0 : Int) ≤ (t : Int) := by omega
          have t1 : (t : Int) < (k : Int) := by omega
          by_cases hlv : (t : Int) < levelsD s
          · have hw : wantD s t = (s.1 - (t : Int) / s.2.1) * s.2.1 + (t : Int) % s.2.1 := by unfold wantD; rw [if_pos hlv]
            have hr0 := Int.emod_nonneg (t : Int) (show s.2.1 ≠ 0 by omega)
            have hr1 := Int.emod_lt_of_pos (t : Int) (show 0 < s.2.1 by omega)
            have hq0 : 0 ≤ (t : Int) / s.2.1 := Int.ediv_nonneg (by omega) (by omega)
            have hqd : (t : Int) / s.2.1 < s.1 + 1 := Int.ediv_lt_of_lt_mul (by omega) (by rw [Int.mul_comm, ← HLV.out]; exact hlv)
            have e1 : (t : Int).tdiv s.2.1 = (t : Int) / s.2.1 := Int.tdiv_eq_ediv_of_nonneg t0
            have e2 : (t : Int).tmod s.2.1 = (t : Int) % s.2.1 := Int.tmod_eq_emod_of_nonneg t0
            have z1 : (s.2.1 == 0) = false := by simp; omega
            obtain ⟨q, hq⟩ : ∃ q, (t : Int) / s.2.1 = q := ⟨_, rfl⟩
            obtain ⟨r, hr⟩ : ∃ r, (t : Int) % s.2.1 = r := ⟨_, rfl⟩
            rw [hq] at hw hq0 hqd e1
            rw [hr] at hw hr0 hr1 e2
            have m0 : 0 ≤ (s.1 - q) * s.2.1 := Int.mul_nonneg (by omega) (by omega)
            have m1 : (s.1 - q) * s.2.1 ≤ 10 * s.2.1 := Int.mul_le_mul_of_nonneg_right (by omega) (by omega)
            have w1 : IntKind.i64.wrap q = q := by rw [IntKind.wrap_i64]; omega
            have w2 : IntKind.i64.wrap (s.1 - q) = s.1 - q := by rw [IntKind.wrap_i64]; omega
            have w3 : IntKind.i64.wrap ((s.1 - q) * s.2.1) = (s.1 - q) * s.2.1 := by rw [IntKind.wrap_i64]; omega
            have w4 : IntKind.i64.wrap ((s.1 - q) * s.2.1 + r) = wantD s t := by rw [hw, IntKind.wrap_i64]; omega
            have n1 : (wantD s t != wantD s t) = false := by simp
            clear hq hr hw
            generalize wantD s t = W at *
            go_upto_region 23 with fail
            go_quiet (fail)
            go_wp2_with fail
            go_roundw
            case rel => exact ⟨t + 1, by omega, by go_num, Lib.hid ⟨HB.out.os, HB.out.tape, HB.out.output, HB.out.size, HB.out.block⟩⟩
            case measure => simp [intOf]; omega
          · have hw : wantD s t = (t : Int) := by unfold wantD; rw [if_neg hlv]
            rw [hw] at hcell hcell'
            have n1 : ((t : Int) != (t : Int)) = false := by simp
            clear hw
            go_wp2_with fail
            go_roundw
            case rel => exact ⟨t + 1, by omega, by go_num, HB⟩
            case measure => simp [intOf]; omega
        · obtain rfl : t = many := by omega
          go_wp2
          go_ret
          exact ⟨rfl, HB7.out⟩
end Go.Proofs.Ytmnnfhplgepiaab
