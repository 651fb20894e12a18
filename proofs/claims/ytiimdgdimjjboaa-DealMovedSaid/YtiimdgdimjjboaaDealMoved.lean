/-
  The walk of the law DealMoved: where blocks go does not hang on where they stand.
-/
import Derived.Test.YtiimdgdimjjboaaDealY
import Derived.Test.YtiimdgdimjjboaaDealV
import Derived.Test.YtiimdgdimjjboaaDItem
namespace Go.Proofs.Ytiimdgdimjjboaa
open Go Go.RowKit Go.Sg
set_option maxHeartbeats 8000000 in
set_option maxRecDepth 100000 in
theorem DealMoved_walk (s : Sh) (v : Value) (l : List Di) (by' : Int) (w : World) (_n1 : Num s.1) (_n2 : Num s.2.1) (_n3 : Num s.2.2) (hv : SlK diV w v l) (_ho : ∀ x ∈ l, DiOk x) (hby : Num by') :
    Calls Try.prog 6 #[.agg #[.int .i64 s.1, .int .i64 s.2.1, .int .i64 s.2.2], v, .int .i64 by'] w fun e w' => e = .returned (.bool true) ∧ Below w.heap.size w w' := by
  have KS := Lib.hid (fun w' => shown9 w')
  have KR := Lib.hid (fun w' => right_any s w')
  have KP := Lib.hid (fun w' => places_any s w')
  have HV := Lib.hid hv
  obtain ⟨a, cap, rfl, h1, h2, _⟩ := hv
  unfold maxLen at h2
  have HBW : Hid (Below w.heap.size w (w.alloc (.cells #[.int .i64 s.1, .int .i64 s.2.1, .int .i64 s.2.2] 23))) := Lib.hid ((Below.refl _ _).alloc (Nat.le_refl _) _)
  have HBK : Hid (Blk (w.alloc (.cells #[.int .i64 s.1, .int .i64 s.2.1, .int .i64 s.2.2] 23)) w.heap.size #[.int .i64 s.1, .int .i64 s.2.1, .int .i64 s.2.2] 23) := Lib.hid (Blk.new w _ _)
  rcases hr : rightD s with _ | _
  · rw [hr] at KR
    clear hr
    go_enter Try.func6, Try.ntmps6
    go_wp2_with fail
    refine (KS.out _).mono ?_
    rintro e w2 ⟨rfl, hb2⟩
    have HB2 : Hid (Below w.heap.size w w2) := Lib.hid (HBW.out.trans (hb2.mono HBW.out.size))
    have HK2 := Lib.hid (HBK.out.below hb2 HBK.out.lt)
    have c0 : w2.cell? ⟨w.heap.size, 0, none⟩ = some (.int .i64 s.1) := HK2.out.cell 0
    have c1 : w2.cell? ⟨w.heap.size, 1, none⟩ = some (.int .i64 s.2.1) := HK2.out.cell 1
    have c2 : w2.cell? ⟨w.heap.size, 2, none⟩ = some (.int .i64 s.2.2) := HK2.out.cell 2
    clear hb2
    go_wp2_with fail
    refine (KR.out _).mono ?_
    rintro e w3 ⟨rfl, hb3⟩
    have HB3 : Hid (Below w.heap.size w w3) := Lib.hid (HB2.out.trans (hb3.mono HB2.out.size))
    clear hb3
    go_wp2
    go_ret
    exact ⟨rfl, HB3.out⟩
  by_cases hL : 100 < l.length
  · rw [hr] at KR
    clear hr
    have d3 : decide ((100 : Int) < (l.length : Int)) = true := decide_eq_true (by omega)
    have d3' : decide (100 < l.length) = true := decide_eq_true hL
    go_enter Try.func6, Try.ntmps6
    go_wp2_with fail
    refine (KS.out _).mono ?_
    rintro e w2 ⟨rfl, hb2⟩
    have HB2 : Hid (Below w.heap.size w w2) := Lib.hid (HBW.out.trans (hb2.mono HBW.out.size))
    have HK2 := Lib.hid (HBK.out.below hb2 HBK.out.lt)
    have c0 : w2.cell? ⟨w.heap.size, 0, none⟩ = some (.int .i64 s.1) := HK2.out.cell 0
    have c1 : w2.cell? ⟨w.heap.size, 1, none⟩ = some (.int .i64 s.2.1) := HK2.out.cell 1
    have c2 : w2.cell? ⟨w.heap.size, 2, none⟩ = some (.int .i64 s.2.2) := HK2.out.cell 2
    clear hb2
    go_wp2_with fail
    refine (KR.out _).mono ?_
    rintro e w3 ⟨rfl, hb3⟩
    have HB3 : Hid (Below w.heap.size w w3) := Lib.hid (HB2.out.trans (hb3.mono HB2.out.size))
    clear hb3
    go_wp2
    go_ret
    exact ⟨rfl, HB3.out⟩
  have d3 : decide ((100 : Int) < (l.length : Int)) = false := decide_eq_false (by omega)
  have d3' : decide (100 < l.length) = false := decide_eq_false hL
  have hs' := rightD_iff.1 hr
  have hlb := levelsD_bd hr
  have hpd : placesD s = levelsD s + s.2.2 + 1 := by unfold placesD; rw [if_pos hr]
  have hpb := placesD_bd s
  obtain ⟨n, hn⟩ : ∃ n : Nat, placesD s = n := ⟨_, (Int.toNat_of_nonneg hpb.1).symm⟩
  have HNP := Lib.hid hn.symm
  rw [hn] at KP
  have hn1 : 3 ≤ n ∧ n ≤ 153 := by omega
  have hnl : levelsD s + s.2.2 + 1 = (n : Int) := by omega
  have HRT := Lib.hid hr
  rw [hr] at KR
  have HNL := Lib.hid hnl
  clear hpd hpb hn hr hnl
  obtain ⟨u1, u2, u3, u4, u5', u6⟩ := hs'
  go_enter Try.func6, Try.ntmps6
  go_wp2_with fail
  refine (KS.out _).mono ?_
  rintro e w2 ⟨rfl, hb2⟩
  have HB2 : Hid (Below w.heap.size w w2) := Lib.hid (HBW.out.trans (hb2.mono HBW.out.size))
  have HK2 := Lib.hid (HBK.out.below hb2 HBK.out.lt)
  have c0 : w2.cell? ⟨w.heap.size, 0, none⟩ = some (.int .i64 s.1) := HK2.out.cell 0
  have c1 : w2.cell? ⟨w.heap.size, 1, none⟩ = some (.int .i64 s.2.1) := HK2.out.cell 1
  have c2 : w2.cell? ⟨w.heap.size, 2, none⟩ = some (.int .i64 s.2.2) := HK2.out.cell 2
  clear hb2 KS HBW HBK
  go_wp2_with fail
  refine (KR.out _).mono ?_
  rintro e w3 ⟨rfl, hb3⟩
  have HB3 : Hid (Below w.heap.size w w3) := Lib.hid (HB2.out.trans (hb3.mono HB2.out.size))
  have HK3 := Lib.hid (HK2.out.below hb3 HK2.out.lt)
  have c0' : w3.cell? ⟨w.heap.size, 0, none⟩ = some (.int .i64 s.1) := HK3.out.cell 0
  have c1' : w3.cell? ⟨w.heap.size, 1, none⟩ = some (.int .i64 s.2.1) := HK3.out.cell 1
  have c2' : w3.cell? ⟨w.heap.size, 2, none⟩ = some (.int .i64 s.2.2) := HK3.out.cell 2
  clear hb3 c0 c1 c2 HB2 HK2 KR
  go_wp2_with fail
  refine (KP.out _).mono ?_
  rintro e w4 ⟨rfl, hb4⟩
  have HB4 : Hid (Below w.heap.size w w4) := Lib.hid (HB3.out.trans (hb4.mono HB3.out.size))
  have HK4 := Lib.hid (HK3.out.below hb4 HK3.out.lt)
  have KF := Lib.hid (filled_any l n (by omega) _ w4 (HV.out.below HB4.out))
  clear hb4 c0' c1' c2' HB3 HK3 KP d3 d3' hL HV
  go_wp2_with fail
  refine KF.out.mono ?_
  rintro e w5 ⟨kv, rfl, hown, hb5⟩
  have HB5 : Hid (Below w.heap.size w w5) := Lib.hid (HB4.out.trans (hb5.mono HB4.out.size))
  have HK5 := Lib.hid (HK4.out.below hb5 HK4.out.lt)
  obtain ⟨K, hK⟩ : ∃ K, mkD (fillF l) n = K := ⟨_, rfl⟩
  have hKl : K.length = n := by rw [← hK, mkD_len]
  rw [hK] at hown
  subst hK
  have HK5b := Lib.hid hKl
  have hnb : Below w.heap.size w w4 := HB4.out
  obtain ⟨g, cap', hkv⟩ : ∃ g cap', kv = .slice (some ⟨g, 0, none⟩) n cap' ∧ w4.heap.size ≤ g ∧ n ≤ cap' ∧ cap' ≤ maxLen := by
    rcases hown.2 with ⟨-, h⟩ | ⟨g, cp, cur, rfl, hb, -, hn, hm, -, -⟩
    · omega
    · exact ⟨g, cp, rfl, hb, hn, hm⟩
  obtain ⟨rfl, hgb, hgn, hgc⟩ := hkv
  unfold maxLen at hgc
  have HGB := Lib.hid hgb
  have HO5 := Lib.hid hown
  have HB45 := Lib.hid hb5
  clear hown hb5 hgb KF hnb hKl
  obtain ⟨f, hf⟩ : ∃ f, fillF l = f := ⟨_, rfl⟩
  rw [hf] at HO5
  have HFW : Hid (∀ i, 0 ≤ (f i).1 ∧ (f i).1 < 18446744073709551616) := Lib.hid fun i => by
    rw [← hf]
    unfold fillF
    rw [List.getD_eq_getElem?_getD]
    by_cases hi : i < l.length
    · rw [List.getElem?_eq_getElem hi]
      have := (_ho _ (List.getElem_mem hi)).1
      exact this
    · rw [List.getElem?_eq_none (by omega)]
      exact ⟨by decide, by decide⟩
  clear hf _ho
  go_wp2_with fail
  go_loopw [10] (fun iv wr => ∃ t : Nat, t ≤ n ∧ iv = .int .i64 t ∧ Hid (wr.ownsRow w4.heap.size 44 2 (.slice (some ⟨g, 0, none⟩) n cap') n (flatV diV (mkD (fun i => if i < t then movF f i else f i) n))) ∧ Hid (Below w4.heap.size w4 wr)) (fun iv _ => n - (intOf iv).toNat)
  case atStart => exact ⟨0, by omega, rfl, Lib.hid (by simpa using HO5.out), HB45⟩
  case round =>
    obtain ⟨t, ht, rfl, HOT, HBT⟩ := hrel
    have HKT := Lib.hid (HK4.out.below HBT.out HK4.out.lt)
    by_cases hlt : t < n
    · have hx := HFW.out t
      obtain ⟨x, hx1⟩ : ∃ x, (f t).1 = x := ⟨_, rfl⟩
      rw [hx1] at hx
      have hsl := SlK.of_owns (l := mkD (fun i => if i < t then movF f i else f i) n) (by rw [mkD_len]; exact HOT.out)
      obtain ⟨_, _, e, -, -, hcl⟩ := diV_at hsl
      obtain ⟨b, off, e2, -, e3, -⟩ := hcl t (by rw [mkD_len]; exact hlt)
      simp only [Value.slice.injEq] at e
      obtain ⟨rfl, -, -⟩ := e
      simp only [Option.some.injEq, Addr.mk.injEq, and_true] at e2
      obtain ⟨rfl, rfl⟩ := e2
      rw [mkD_get, if_neg (Nat.lt_irrefl _), hx1, Nat.zero_add] at e3
      have e3' : wr.cell? ⟨g, t * 2, none⟩ = some (.int .u64 x) := e3
      obtain ⟨y, hy⟩ : ∃ y, x * 256 % 18446744073709551616 = y := ⟨_, rfl⟩
      have hy0 : 0 ≤ y ∧ y < 18446744073709551616 - 255 := by omega
      have HFT : Hid ((flatV diV (mkD (fun i => if i < t then movF f i else f i) n)).set (t * 2) (.int .u64 (y + t)) = flatV diV (mkD (fun i => if i < t + 1 then movF f i else f i) n)) := Lib.hid (by
        rw [set_flat _ hlt]
        congr 2
        funext i
        by_cases hit : i = t
        · subst hit
          rw [if_pos rfl, if_neg (Nat.lt_irrefl _), if_pos (by omega)]
          unfold movF
          rw [hx1, hy]
        · rw [if_neg hit]
          by_cases hi2 : i < t
          · rw [if_pos hi2, if_pos (by omega)]
          · rw [if_neg hi2, if_neg (by omega)])
      have HOX : Hid ((wr.setCell ⟨g, t * 2, none⟩ (.int .u64 (y + t))).ownsRow w4.heap.size 44 2 (.slice (some ⟨g, 0, none⟩) n cap') n (flatV diV (mkD (fun i => if i < t + 1 then movF f i else f i) n))) := Lib.hid (by
        rw [← HFT.out]
        exact owns_set HOT.out (by rw [flatV_len diV_k, mkD_len]; omega) _)
      have HBX : Hid (Below w4.heap.size w4 (wr.setCell ⟨g, t * 2, none⟩ (.int .u64 (y + t)))) := Lib.hid (below_setD HBT.out _ _ _ HGB.out)
      have t0 : (0 : Int) ≤ (t : Int) := by omega
      have t1 : (t : Int) < (n : Int) := by omega
      have q1 : IntKind.u64.wrap (t : Int) = (t : Int) := by rw [IntKind.wrap_u64]; omega
      have q2 : IntKind.u64.wrap (y + (t : Int)) = y + (t : Int) := by rw [IntKind.wrap_u64]; omega
      have q0 : IntKind.u64.wrap (x * 256) = y := by rw [IntKind.wrap_u64]; exact hy
      have f1 := owns_free HOT.out (t * 2)
      clear hsl hcl e3 hx1 hy
      go_wp2_with fail
      go_roundw
      case rel => exact ⟨t + 1, by omega, by go_num, HOX, HBX⟩
      case measure => simp [intOf]; omega
    · obtain rfl : n = t := by omega
      obtain ⟨wp, rfl⟩ : ∃ wp : World, wp = wr := ⟨_, rfl⟩
      obtain ⟨L, hLd⟩ : ∃ L, mkD (movF f) n = L := ⟨_, rfl⟩
      have hLl : L.length = n := by rw [← hLd, mkD_len]
      have hLf : mkD (fun i => if i < n then movF f i else f i) n = L := by
        rw [← hLd]
        unfold mkD
        exact List.map_congr_left fun i hi => by rw [if_pos (List.mem_range.1 hi)]
      rw [hLf] at HOT
      have HID : Hid (∀ i j : Int, 0 ≤ i → i < n → 0 ≤ j → j < n → (getD' L i).1 = (getD' L j).1 → i = j) := Lib.hid (by rw [← hLd]; exact mov_id f (by omega))
      clear hLf hLd HFW HO5 HB45 HK5 HB5 HK5b
      obtain ⟨t, ht, htn⟩ : ∃ t : Nat, max 0 (min by' (n : Int)) = t ∧ t ≤ n := ⟨(max 0 (min by' (n : Int))).toNat, by omega, by omega⟩
      obtain ⟨x, hx⟩ : ∃ x : Int, (if (n : Int) < by' then (n : Int) else by') = x := ⟨_, rfl⟩
      have hx2 : (if 0 < x then x else 0) = (t : Int) := by
        rw [← ht, ← hx]
        split <;> split <;> omega
      have HOP := HOT
      have HBP : Hid (Below w.heap.size w wp) := Lib.hid (HB4.out.trans (HBT.out.mono HB4.out.size))
      have HKP := HKT
      go_upto_region 11 with fail
      clear hx hx2 ht
      obtain ⟨i0, hi0, hz0, hz1, hz2⟩ := info_parts info_ditem9
      have HI := Lib.hid hi0
      have HZ0 := Lib.hid hz0
      have HS := Lib.hid hz1
      have HY := Lib.hid hz2
      clear hi0 hz0 hz1 hz2
      go_cut [12] (fun o wx => ∃ v13, o = v13 ∧ Hid (SlK diV wx v13 (L.drop t ++ L.take t)) ∧ Hid (Below wp.heap.size wp wx))
      case first =>
        have hgw : g < wp.heap.size := (HOP.out.lt g rfl).2
        have HC1 : Hid (∀ w', Below wp.heap.size wp w' → ∀ j u, (flatV diV (L.drop t))[j]? = some u → w'.cell? ((⟨g, t * 2, none⟩ : Addr).add j) = some u) := Lib.hid fun w' hb j u hu => by
          rw [addr_add, hb.cell (p := ⟨g, t * 2 + j, none⟩) hgw]
          have := HOP.out.cells rfl (t * 2 + j) u (by rw [← flatV_drop diV_k, List.getElem?_drop] at hu; exact hu)
          rwa [addr_add, Nat.zero_add] at this
        have HC2 : Hid (∀ w', Below wp.heap.size wp w' → ∀ j u, (flatV diV (L.take t))[j]? = some u → w'.cell? ((⟨g, 0, none⟩ : Addr).add j) = some u) := Lib.hid fun w' hb j u hu => by
          rw [addr_add, hb.cell (p := ⟨g, 0 + j, none⟩) hgw, ← addr_add]
          refine HOP.out.cells rfl j u ?_
          rw [← flatV_take diV_k, List.getElem?_take] at hu
          split at hu
          · exact hu
          · cases hu
        have HE0 : Hid ((wp.drew.alloc (.cells #[] 44)).ownsRow wp.heap.size 44 2 (.slice (some ⟨wp.heap.size, 0, none⟩) 0 0) 0 []) :=
          Lib.hid ⟨rfl, .inr ⟨wp.heap.size, 0, #[], rfl, Nat.le_refl _, heap_alloc_new wp.drew _, Nat.le_refl _, by simp, rfl, rfl⟩⟩
        have hl1 : (flatV diV (L.drop t)).length = (n - t) * 2 := by rw [flatV_len diV_k, List.length_drop, hLl]
        have hl2 : (flatV diV (L.take t)).length = t * 2 := by rw [flatV_len diV_k, List.length_take, hLl, Nat.min_eq_left htn]
        have ho1 := flatV_one diV_k (L.drop t)
        have ho2 := flatV_one diV_k (L.take t)
        have HAP : Hid (∀ (w : World) (v : Value), w.ownsRow wp.heap.size 44 2 v (0 + (n - t) + t) ([] ++ flatV diV (L.drop t) ++ flatV diV (L.take t)) → SlK diV w v (L.drop t ++ L.take t)) := Lib.hid fun w v h => by
          refine SlK.of_owns (k := 2) (base := wp.heap.size) (e := 44) ?_
          rw [flatV_append, List.length_append, List.length_drop, List.length_take, hLl, Nat.min_eq_left htn]
          simpa using h
        have hdn : t = n → flatV diV (L.drop t) = [] := fun e => by rw [List.drop_eq_nil_of_le (by omega)]; rfl
        generalize L.drop t ++ L.take t = TT at *
        generalize flatV diV (L.drop t) = n1 at *
        generalize flatV diV (L.take t) = n2 at *
        have g0 : (0 : Int) ≤ (t : Int) := by omega
        have g1 : (t : Int) ≤ (n : Int) := by omega
        have g2 : (t : Int) ≤ (cap' : Int) := by omega
        have g3 : (n : Int) ≤ (cap' : Int) := by omega
        have g4 : t ≤ cap' := by omega
        by_cases hcc : cap' = t
        focus
          subst hcc
          have hkc : n = cap' := by omega
          have hn1' : n1 = [] := hdn hkc.symm
          subst hkc
        all_goals
          go_region_held3 (fun w' => Below wp.heap.size wp w') (first | assumption | exact (Below.refl _ _).drew | exact Below.alloc (by assumption) (by simp) _) (first
            | (go_loud (refine step_append_own_at rfl (.tmp 62) (.tmp 65) 24 rfl wp.heap.size 44 i0 (.agg #[.int .u64 0, .int .i64 0]) 2 16 Try.underlying24 HI.out HZ0.out HS.out HY.out rfl (by decide) _ 0 [] rfl HE0.out ⟨g, t * 2, none⟩ (n - t) _ n1 rfl hl1 (HC1.out _ (by assumption)) ho1 (by unfold maxLen; omega) (by omega) (by simp) ?_); intro v1 w6 hown6 hgrow6 _; have hb6 : Below wp.heap.size wp w6 := Below.grown (show Below wp.heap.size wp _ from by assumption) hgrow6 (by simp) (fun k hk => Nat.le_of_eq (Option.some.inj hk)))
            | (go_loud (refine step_append_own_at rfl (.tmp 62) (.tmp 65) 24 rfl wp.heap.size 44 i0 (.agg #[.int .u64 0, .int .i64 0]) 2 16 Try.underlying24 HI.out HZ0.out HS.out HY.out rfl (by decide) _ 0 [] rfl HE0.out ⟨g, 0, none⟩ 0 _ [] rfl rfl (fun _ _ h => by cases h) (fun _ h => by cases h) (by unfold maxLen; omega) (by omega) (by simp) ?_); intro v1 w6 hown6 hgrow6 _; have hown6 : w6.ownsRow wp.heap.size 44 2 v1 (0 + 0) ([] ++ n1) := (by rw [hn1']; exact hown6); have hb6 : Below wp.heap.size wp w6 := Below.grown (show Below wp.heap.size wp _ from by assumption) hgrow6 (by simp) (fun k hk => Nat.le_of_eq (Option.some.inj hk)))
            | (go_loud (refine step_append_own_at rfl (.tmp 66) (.tmp 69) 24 rfl wp.heap.size 44 i0 (.agg #[.int .u64 0, .int .i64 0]) 2 16 Try.underlying24 HI.out HZ0.out HS.out HY.out rfl (by decide) _ _ _ rfl hown6 ⟨g, 0, none⟩ t _ n2 rfl hl2 (HC2.out _ (by assumption)) ho2 (by unfold maxLen; omega) (by omega) hb6.size ?_); intro v2 w7 hown7 hgrow7 _; have hb7 : Below wp.heap.size wp w7 := Below.grown hb6 hgrow7 hb6.size (fun k hk => (hown6.lt k hk).1))
            | (go_loud (refine step_append_own_at rfl (.tmp 66) (.tmp 69) 24 rfl wp.heap.size 44 i0 (.agg #[.int .u64 0, .int .i64 0]) 2 16 Try.underlying24 HI.out HZ0.out HS.out HY.out rfl (by decide) _ _ _ rfl hown6 ⟨g, 0, none⟩ n _ n2 rfl hl2 (HC2.out _ (by assumption)) ho2 (by unfold maxLen; omega) (by omega) hb6.size ?_); intro v2 w7 hown7 hgrow7 _; have hb7 : Below wp.heap.size wp w7 := Below.grown hb6 hgrow7 hb6.size (fun k hk => (hown6.lt k hk).1)))
        all_goals
          go_wp2_with fail
          go_meet
          exact ⟨_, rfl, Lib.hid (HAP.out _ _ (by simpa using hown7)), Lib.hid hb7⟩
      case rest =>
      obtain ⟨v13, rfl, HS13, HBX⟩ := hcut
      generalize wc = wx at *
      have hTl : (turnL L t).length = n := by rw [turnL_len, hLl]
      have HMF := Lib.hid (moved_facts HRT.out HNP.out hLl htn HID.out)
      have HPE1 := Lib.hid (dealP_eq HRT.out HNP.out hLl)
      have HPE2 := Lib.hid (dealP_eq HRT.out HNP.out hTl)
      have HLB : Hid (∀ x ∈ dealLost s (turnL L t), 0 ≤ x ∧ x < n) := Lib.hid fun x hx => by
        rw [dealLost_eq HRT.out HNP.out hTl] at hx
        have := (realO_mem.1 (lost_in s _ x hx)).1
        rw [hTl] at this
        exact this
      have HSL : Hid (SlK diV wp (.slice (some ⟨g, 0, none⟩) n cap') L) := Lib.hid (SlK.of_owns (l := L) (by rw [hLl]; exact HOP.out))
      have HKX := Lib.hid (HKP.out.below HBX.out HKP.out.lt)
      have KD1 := Lib.hid (deal_any s L _ wx (HSL.out.below HBX.out))
      have KD2 := Lib.hid (fun w' (h : Below wx.heap.size wx w') => deal_any s (turnL L t) _ w' (SlK.below (show SlK diV wx _ (turnL L t) from HS13.out) h))
      have hdeep : ∀ w', Below wp.heap.size wp w' → ∀ i, i < n → w'.cell? ⟨g, i * 2 + 1, none⟩ = some (.int .i64 (getD' L (i : Int)).2) := fun w' h i hi => by
        obtain ⟨a', c', e, -, -, h2⟩ := diV_at (HSL.out.below h)
        obtain ⟨b, off, e2, -, -, h4⟩ := h2 i (by omega)
        have hgd : getD' L (i : Int) = L[i] := by unfold getD'; simp [List.getD_eq_getElem?_getD, List.getElem?_eq_getElem (show i < L.length by omega)]
        simp only [Value.slice.injEq] at e
        obtain ⟨rfl, -, -⟩ := e
        simp only [Option.some.injEq, Addr.mk.injEq, and_true] at e2
        obtain ⟨rfl, rfl⟩ := e2
        rw [Nat.zero_add] at h4
        rw [hgd, h4]
      have HDP := Lib.hid hdeep
      have HBPX : Hid (Below w.heap.size w wx) := Lib.hid (HBP.out.trans (HBX.out.mono HBP.out.size))
      have HTN := Lib.hid htn
      have s0 : wx.cell? ⟨w.heap.size, 0, none⟩ = some (.int .i64 s.1) := HKX.out.cell 0
      have s1 : wx.cell? ⟨w.heap.size, 1, none⟩ = some (.int .i64 s.2.1) := HKX.out.cell 1
      have s2 : wx.cell? ⟨w.heap.size, 2, none⟩ = some (.int .i64 s.2.2) := HKX.out.cell 2
      clear hTl hdeep HS13 HSL HID HOP HOT HKT hLl
      go_wp2_with fail
      refine KD1.out.mono ?_
      rintro e w6 ⟨v1, v2, rfl, hv1, hv2, hb6⟩
      have HB6 := Lib.hid hb6
      have HK6 := Lib.hid (HKX.out.below hb6 HKX.out.lt)
      have HV1 := Lib.hid hv1
      have HV2 := Lib.hid hv2
      have s0' : w6.cell? ⟨w.heap.size, 0, none⟩ = some (.int .i64 s.1) := HK6.out.cell 0
      have s1' : w6.cell? ⟨w.heap.size, 1, none⟩ = some (.int .i64 s.2.1) := HK6.out.cell 1
      have s2' : w6.cell? ⟨w.heap.size, 2, none⟩ = some (.int .i64 s.2.2) := HK6.out.cell 2
      clear hb6 hv1 hv2 KD1 s0 s1 s2 HKX
      go_wp2_with fail
      refine (KD2.out _ HB6.out).mono ?_
      rintro e w7 ⟨v3, v4, rfl, hv3, hv4, hb7⟩
      have hv1 := HV1.out.below hb7
      have hv2 := HV2.out.below hb7
      obtain ⟨a1, cc1, rfl⟩ := hv1.len
      obtain ⟨a2, cc2, rfl⟩ := hv2.len
      obtain ⟨a3, cc3, rfl⟩ := hv3.len
      obtain ⟨a4, cc4, rfl⟩ := hv4.len
      have hp1 : (dealP s L).length = n := by rw [HPE1.out]; simp
      have hp3 : (dealP s (turnL L t)).length = n := by rw [HPE2.out]; simp
      obtain ⟨m, hm⟩ : ∃ m : Nat, (dealLost s (turnL L t)).length = m := ⟨_, rfl⟩
      have hm2 : (dealLost s L).length = m := by rw [HMF.out.1, List.length_map, hm]
      have cells : ∀ (v : Value) (zs : List Int) (k : Nat) (a : Option Addr) (c : Nat), Sl1 w7 v (zs.map (Value.int .i64)) → v = .slice a (zs.map (Value.int .i64)).length c → zs.length = k → ∀ w', Below w7.heap.size w7 w' → ∀ i (hi : i < k) (z : Int), zs[i]? = some z → ∃ b off, a = some ⟨b, off, none⟩ ∧ w'.cell? ⟨b, off + i, none⟩ = some (.int .i64 z) := fun v zs k a c hv hva hk w' h i hi z hz => by
        rcases hv.below h with ⟨h, _⟩ | ⟨_, b, off, cap, h1, _, _, _, h2⟩
        · have := congrArg List.length h
          rw [List.length_map, hk] at this
          simp at this
          omega
        · have h3 := h2 i (by rw [List.length_map, hk]; exact hi)
          rw [hva] at h1
          simp only [Value.slice.injEq] at h1
          refine ⟨b, off, h1.1, ?_⟩
          obtain ⟨h5, h4⟩ := List.getElem?_eq_some_iff.1 hz
          rw [h3, List.getElem_map, h4]
      have HP1 : Hid (∀ w', Below w7.heap.size w7 w' → ∀ i, i < n → ∃ b off, a1 = some ⟨b, off, none⟩ ∧ w'.cell? ⟨b, off + i, none⟩ = some (.int .i64 (endG s L i))) := Lib.hid fun w' h i hi => cells _ _ n a1 cc1 hv1 rfl hp1 w' h i hi _ (by rw [HPE1.out, List.getElem?_map, List.getElem?_range hi]; rfl)
      have HP3 : Hid (∀ w', Below w7.heap.size w7 w' → ∀ i, i < n → ∃ b off, a3 = some ⟨b, off, none⟩ ∧ w'.cell? ⟨b, off + i, none⟩ = some (.int .i64 (endG s (turnL L t) i))) := Lib.hid fun w' h i hi => cells _ _ n a3 cc3 hv3 rfl hp3 w' h i hi _ (by rw [HPE2.out, List.getElem?_map, List.getElem?_range hi]; rfl)
      obtain ⟨LB, hLB⟩ : ∃ LB, dealLost s (turnL L t) = LB := ⟨_, rfl⟩
      obtain ⟨LA, hLA⟩ : ∃ LA, dealLost s L = LA := ⟨_, rfl⟩
      rw [hLB] at HMF HLB hm hv4
      rw [hLA] at HMF hm2 hv2
      have HP2 : Hid (∀ w', Below w7.heap.size w7 w' → ∀ i, (hi : i < LA.length) → ∃ b off, a2 = some ⟨b, off, none⟩ ∧ w'.cell? ⟨b, off + i, none⟩ = some (.int .i64 LA[i])) := Lib.hid fun w' h i hi => cells _ _ m a2 cc2 hv2 rfl hm2 w' h i (by omega) _ (List.getElem?_eq_getElem hi)
      have HP4 : Hid (∀ w', Below w7.heap.size w7 w' → ∀ i, (hi : i < LB.length) → ∃ b off, a4 = some ⟨b, off, none⟩ ∧ w'.cell? ⟨b, off + i, none⟩ = some (.int .i64 LB[i])) := Lib.hid fun w' h i hi => cells _ _ m a4 cc4 hv4 rfl hm w' h i (by omega) _ (List.getElem?_eq_getElem hi)
      rw [List.length_map, List.length_map, List.length_map, List.length_map, hp1, hp3, hLA, hLB, hm, hm2]
      have hmm : m ≤ maxLen := by have := hv4.len_le; rwa [List.length_map, hm] at this
      unfold maxLen at hmm
      have HM := Lib.hid hm
      have HM2 := Lib.hid hm2
      have HBW7 : Hid (Below w.heap.size w w7) := Lib.hid (HBPX.out.trans ((HB6.out.trans (hb7.mono HB6.out.size)).mono HBPX.out.size))
      have HBR7 : Hid (Below wp.heap.size wp w7) := Lib.hid (HBX.out.trans ((HB6.out.trans (hb7.mono HB6.out.size)).mono HBX.out.size))
      have q1 : ((n : Int) != (n : Int)) = false := by simp
      have q2 : ((m : Int) != (m : Int)) = false := by simp
      clear hm hm2 cells hLA hLB hp1 hp3 hv1 hv2 hv3 hv4 hb7 HV1 HV2 KD2 HB6 HK6 s0' s1' s2' htn
      go_wp2_with fail
      go_loopw [17] (fun iv wr => ∃ r : Nat, r ≤ m ∧ iv = .int .i64 r ∧ Hid (Below w7.heap.size w7 wr)) (fun iv _ => m - (intOf iv).toNat)
      case atStart => exact ⟨0, by omega, rfl, Lib.hid (Below.refl _ _)⟩
      case round =>
        obtain ⟨r, hr, rfl, HBZ⟩ := hrel
        by_cases hlt : r < m
        · have hra : r < LA.length := by rw [HM2.out]; exact hlt
          have hrb : r < LB.length := by rw [HM.out]; exact hlt
          obtain ⟨b2, o2, rfl, e1⟩ := HP2.out _ HBZ.out.drew r hra
          obtain ⟨b4, o4, rfl, e2⟩ := HP4.out _ HBZ.out.drew r hrb
          have hyb := HLB.out _ (List.getElem_mem hrb)
          have hz : LA[r] = sg n t LB[r] := by simp only [HMF.out.1, List.getElem_map]
          obtain ⟨y, hy⟩ : ∃ y, LB[r] = y := ⟨_, rfl⟩
          rw [hy] at hz hyb e2
          rw [hz] at e1
          have htn := HTN.out
          have w1 : IntKind.i64.wrap (y + (t : Int)) = y + (t : Int) := by rw [IntKind.wrap_i64]; omega
          have w2 : (y + (t : Int)).tmod (n : Int) = sg n t y := by unfold sg; exact Int.tmod_eq_emod_of_nonneg (by omega)
          have z1 : ((n : Int) == 0) = false := by simp; omega
          have q3 : (sg n t y != sg n t y) = false := by simp
          have t0 : (0 : Int) ≤ (r : Int) := by omega
          have t1 : (r : Int) < (m : Int) := by omega
          clear hz hy
          generalize sg n t y = z at *
          have e1' : wr.cell? ⟨b2, o2 + r, none⟩ = some (.int .i64 z) := e1
          have e2' : wr.cell? ⟨b4, o4 + r, none⟩ = some (.int .i64 y) := e2
          go_upto_region 19 with fail
          go_quiet (fail)
          go_wp2_with fail
          go_roundw
          case rel => exact ⟨r + 1, by omega, by go_num, Lib.hid ⟨HBZ.out.os, HBZ.out.tape, HBZ.out.output, HBZ.out.size, HBZ.out.block⟩⟩
          case measure => simp [intOf]; omega
        · obtain rfl : m = r := by omega
          obtain ⟨wq, rfl⟩ : ∃ wq : World, wq = wr := ⟨_, rfl⟩
          clear HP4 HLB
          go_wp2_with fail
          go_loopw [18, 19, 20] (fun iv _ _ wr => ∃ i : Nat, i ≤ n ∧ iv = .int .i64 i ∧ Hid (Below w7.heap.size w7 wr)) (fun iv _ _ _ => n - (intOf iv).toNat)
          case atStart => exact ⟨0, by omega, rfl, HBZ⟩
          case round =>
            obtain ⟨i, hi, rfl, HBI⟩ := hrel
            by_cases hin : i < n
            · obtain ⟨wi, rfl⟩ : ∃ wi : World, wi = wr := ⟨_, rfl⟩
              go_wp2_with fail
              go_loopw [19, 20] (fun ov jv wr => ∃ j : Nat, j ≤ m ∧ ov = .bool (decide ((i : Int) ∈ LA.take j)) ∧ jv = .int .i64 j ∧ Hid (Below w7.heap.size w7 wr)) (fun _ jv _ => m - (intOf jv).toNat)
              case atStart => exact ⟨0, by omega, by simp, rfl, HBI⟩
              case round =>
                obtain ⟨j, hj, rfl, rfl, HBJ⟩ := hrel
                by_cases hjm : j < m
                · have hja : j < LA.length := by rw [HM2.out]; exact hjm
                  obtain ⟨b2, o2, rfl, e1⟩ := HP2.out _ HBJ.out j hja
                  have HTK : Hid ((i : Int) ∈ LA.take (j + 1) ↔ (i : Int) ∈ LA.take j ∨ LA[j] = (i : Int)) := Lib.hid (by
                    rw [List.take_succ_eq_append_getElem hja, List.mem_append, List.mem_singleton, eq_comm (a := (i : Int)) (b := LA[j])])
                  have t0 : (0 : Int) ≤ (j : Int) := by omega
                  have t1 : (j : Int) < (m : Int) := by omega
                  generalize LA[j] = z at *
                  by_cases h1 : (i : Int) ∈ LA.take j
                  · have d1 : decide ((i : Int) ∈ LA.take j) = true := decide_eq_true h1
                    have HD : Hid (decide ((i : Int) ∈ LA.take (j + 1)) = true) := Lib.hid (decide_eq_true (HTK.out.2 (.inl h1)))
                    clear h1
                    go_wp2_with fail
                    go_roundw
                    case rel => exact ⟨j + 1, by omega, by rw [HD.out], by go_num, HBJ⟩
                    case measure => simp [intOf]; omega
                  · have d1 : decide ((i : Int) ∈ LA.take j) = false := decide_eq_false h1
                    by_cases h2 : z = (i : Int)
                    · have d2 : (z == (i : Int)) = true := by simp [h2]
                      have HD : Hid (decide ((i : Int) ∈ LA.take (j + 1)) = true) := Lib.hid (decide_eq_true (HTK.out.2 (.inr h2)))
                      clear h1 h2
                      go_wp2_with fail
                      go_roundw
                      case rel => exact ⟨j + 1, by omega, by rw [HD.out], by go_num, HBJ⟩
                      case measure => simp [intOf]; omega
                    · have d2 : (z == (i : Int)) = false := by simp [h2]
                      have HD : Hid (decide ((i : Int) ∈ LA.take (j + 1)) = false) := Lib.hid (decide_eq_false fun h => (HTK.out.1 h).elim h1 h2)
                      clear h1 h2
                      go_wp2_with fail
                      go_roundw
                      case rel => exact ⟨j + 1, by omega, by rw [HD.out], by go_num, HBJ⟩
                      case measure => simp [intOf]; omega
                · obtain rfl : m = j := by omega
                  have HTA : Hid (LA.take m = LA) := Lib.hid (by rw [← HM2.out, List.take_length])
                  rw [HTA.out]
                  have hmf := HMF.out.2 i hin
                  obtain ⟨deep, hdp⟩ : ∃ deep, (getD' L (i : Int)).2 = deep := ⟨_, rfl⟩
                  have HBJ2 : Hid (Below wp.heap.size wp wr) := Lib.hid (HBR7.out.trans (HBJ.out.mono HBR7.out.size))
                  have k0 := HDP.out wr HBJ2.out i hin
                  rw [hdp] at k0 hmf
                  have k0' : wr.drew.cell? ⟨g, i * 2 + 1, none⟩ = some (.int .i64 deep) := k0
                  have htn := HTN.out
                  have t0 : (0 : Int) ≤ (i : Int) := by omega
                  have t1 : (i : Int) < (n : Int) := by omega
                  clear hdp
                  by_cases hd : 0 ≤ deep
                  · have d7 : decide (0 ≤ deep) = true := decide_eq_true hd
                    by_cases hio : (i : Int) ∈ LA
                    · have d8 : decide ((i : Int) ∈ LA) = true := decide_eq_true hio
                      clear hmf hio
                      go_upto_region 29 with fail
                      go_quiet (fail)
                      go_wp2_with fail
                      go_roundw
                      case rel => exact ⟨i + 1, by omega, by go_num, Lib.hid ⟨HBJ.out.os, HBJ.out.tape, HBJ.out.output, HBJ.out.size, HBJ.out.block⟩⟩
                      case measure => simp [intOf]; omega
                    · have d8 : decide ((i : Int) ∈ LA) = false := decide_eq_false hio
                      have hv := hmf hd hio
                      have hsg := sg_in (n := n) (t := n - t) (by omega) (i : Int)
                      have w1 : IntKind.i64.wrap ((i : Int) + (n : Int)) = (i : Int) + (n : Int) := by rw [IntKind.wrap_i64]; omega
                      have w2 : IntKind.i64.wrap ((i : Int) + (n : Int) - (t : Int)) = (i : Int) + (n : Int) - (t : Int) := by rw [IntKind.wrap_i64]; omega
                      have w3 : ((i : Int) + (n : Int) - (t : Int)).tmod (n : Int) = sg n (n - t) (i : Int) := by
                        unfold sg
                        rw [Int.tmod_eq_emod_of_nonneg (by omega)]
                        congr 1
                        omega
                      obtain ⟨k, hk⟩ : ∃ k : Nat, sg n (n - t) (i : Int) = k := ⟨(sg n (n - t) (i : Int)).toNat, by omega⟩
                      rw [hk] at hsg w3 hv
                      rw [Int.toNat_natCast] at hv
                      obtain ⟨b1, o1, rfl, p1⟩ := HP1.out wr HBJ.out i hin
                      obtain ⟨b3, o3, rfl, p3⟩ := HP3.out wr HBJ.out k (by omega)
                      rw [← hv] at p3
                      have z1 : ((n : Int) == 0) = false := by simp; omega
                      have q3 : (endG s L i != endG s L i) = false := by simp
                      clear hmf hio hv hk
                      generalize endG s L i = z at *
                      have p1' : wr.drew.cell? ⟨b1, o1 + i, none⟩ = some (.int .i64 z) := p1
                      have p3' : wr.drew.cell? ⟨b3, o3 + k, none⟩ = some (.int .i64 z) := p3
                      have k2 : (0 : Int) ≤ (k : Int) := by omega
                      have k3 : (k : Int) < (n : Int) := by omega
                      go_upto_region 29 with fail
                      go_quiet (fail)
                      go_wp2_with fail
                      go_roundw
                      case rel => exact ⟨i + 1, by omega, by go_num, Lib.hid ⟨HBJ.out.os, HBJ.out.tape, HBJ.out.output, HBJ.out.size, HBJ.out.block⟩⟩
                      case measure => simp [intOf]; omega
                  · have d7 : decide (0 ≤ deep) = false := decide_eq_false hd
                    clear hmf
                    go_upto_region 29 with fail
                    go_quiet (fail)
                    go_wp2_with fail
                    go_roundw
                    case rel => exact ⟨i + 1, by omega, by go_num, Lib.hid ⟨HBJ.out.os, HBJ.out.tape, HBJ.out.output, HBJ.out.size, HBJ.out.block⟩⟩
                    case measure => simp [intOf]; omega
            · obtain rfl : i = n := by omega
              have HBE : Hid (Below w.heap.size w wr) := Lib.hid (HBW7.out.trans (HBI.out.mono HBW7.out.size))
              go_wp2_with fail
              go_ret
              exact ⟨rfl, HBE.out⟩
end Go.Proofs.Ytiimdgdimjjboaa
