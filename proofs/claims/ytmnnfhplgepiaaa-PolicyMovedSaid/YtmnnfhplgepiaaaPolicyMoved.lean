/-
  The walk of the law PolicyMoved: who goes does not hang on the order in which the items are told; one more that is newer than all goes last.
-/
import Derived.Test.YtmnnfhplgepiaaaPolT
namespace Go.Sg
open Go Go.RowKit
def zM : It := (99, 4611686018427387903, false)
theorem moved_late {l : List It} (h : ∀ x ∈ l, 0 ≤ x.2.1 ∧ x.2.1 < 1099511627776 * 64 + 64) (hc : ∀ x ∈ l, x.1 ≠ 99) (hl : (l.length : Int) ≤ 1000000) :
    (victI (l ++ [zM]) 0 l.length).length = l.length ∧ ∀ y ∈ victI (l ++ [zM]) 0 l.length, y ≠ 99 := by
  have hg := go_all (l := l) (z := zM) hl
  refine ⟨by rw [victI_len, hg], fun y hy => ?_⟩
  unfold victI at hy
  rw [hg] at hy
  obtain ⟨x, hx, rfl⟩ := late_out (z := zM) (fun x hx => by
    have := h x hx
    have hz : keyI zM = 9223372036854775807 := by decide
    rw [hz]
    unfold keyI
    split <;> omega) hy
  exact hc x hx
end Go.Sg
namespace Go.Proofs.Ytmnnfhplgepiaaa
open Go Go.RowKit Go.Sg
set_option maxHeartbeats 4000000 in
set_option maxRecDepth 100000 in
theorem PolicyMoved_walk (v : Value) (zs : List Int) (cc bb by' : Int) (w : World) (hv : SlI .u64 w v zs) (_h1 : Num cc) (_h2 : Num bb) (_h3 : Num by') :
    Calls Try.prog 5 #[v, .int .i64 cc, .int .i64 bb, .int .i64 by'] w fun e w' => e = .returned (.bool true) ∧ Below w.heap.size w w' := by
  have HZ := Lib.hid (slI_words16 hv)
  obtain ⟨a, cap, rfl, h1, h2⟩ := sl1_at16 (Sl1.of_SlI hv)
  rw [List.length_map] at h1 ⊢
  unfold maxLen at h1
  have HV := Lib.hid h2
  have KS := Lib.hid (fun w' => shown16 w')
  clear hv h2 _h1 _h2 _h3
  go_enter Try.func5, Try.ntmps5
  go_wp2_with fail
  refine (KS.out _).mono ?_
  rintro e w1 ⟨rfl, hb1⟩
  have HB1 := Lib.hid hb1
  clear hb1
  by_cases hL : 40 < zs.length
  · have d3 : decide ((40 : Int) < (zs.length : Int)) = true := decide_eq_true (by omega)
    have d3' : decide (40 < zs.length) = true := decide_eq_true hL
    go_wp2
    go_ret
    exact ⟨rfl, HB1.out⟩
  have d3 : decide ((40 : Int) < (zs.length : Int)) = false := decide_eq_false (by omega)
  have d3' : decide (40 < zs.length) = false := decide_eq_false hL
  have hl : zs.length ≤ 40 := by omega
  obtain ⟨i0, hi0, hz0, hz1, hz2⟩ := info_parts info_item
  have HI := Lib.hid hi0
  have HZ0 := Lib.hid hz0
  have HS := Lib.hid hz1
  have HY := Lib.hid hz2
  clear hi0 hz0 hz1 hz2
  obtain ⟨wo, hwo⟩ : ∃ wo : World, wo = w1 := ⟨_, rfl⟩
  have HWO := Lib.hid hwo
  have HBO : Hid (Below w.heap.size w wo) := Lib.hid (by rw [hwo]; exact HB1.out)
  clear hwo
  obtain ⟨f, hf⟩ : ∃ f : Nat → It, f = fun i : Nat => ((i : Int), zs.getD i 0 % 1099511627776 * 64 + (i : Int), zs.getD i 0 % 5 == 0) := ⟨_, rfl⟩
  have HF := Lib.hid hf
  clear hf
  go_wp2_with fail
  go_loopw [10, 11] (fun sv i wr => ∃ k : Nat, k ≤ zs.length ∧ i = .int .i64 k ∧ Hid (wr.ownsRow wo.heap.size 28 3 sv k (flatV itV (mkI f k))) ∧ Hid (Below wo.heap.size wo wr)) (fun _ i _ => zs.length - (intOf i).toNat)
  case atStart => exact ⟨0, by omega, rfl, Lib.hid (World.ownsRow_nil _ _ _ _), Lib.hid (by rw [HWO.out]; exact Below.refl _ _)⟩
  case round =>
    obtain ⟨k, hk, rfl, HO, HB⟩ := hrel
    by_cases hlt : k < zs.length
    · have hd : decide ((k : Int) < (zs.length : Int)) = true := decide_eq_true (by omega)
      have hd' : decide (k < zs.length) = true := decide_eq_true hlt
      have j0 : (0 : Int) ≤ (k : Int) := by omega
      have j1 : (k : Int) < (zs.length : Int) := by omega
      have HBW : Hid (∀ w', Below wo.heap.size wo w' → Below w.heap.size w w') := Lib.hid fun w' h => HBO.out.trans (h.mono HBO.out.size)
      have hzw : Word zs[k] := HZ.out _ (List.getElem_mem hlt)
      have hfx : f k = ((k : Int), zs[k] % 1099511627776 * 64 + (k : Int), zs[k] % 5 == 0) := by rw [HF.out]; simp [List.getD_eq_getElem?_getD, List.getElem?_eq_getElem hlt]
      obtain ⟨e5, he5⟩ : ∃ e5 : Bool, (zs[k] % 5 == 0) = e5 := ⟨_, rfl⟩
      rw [he5] at hfx
      obtain ⟨r, hr⟩ : ∃ r : Int, zs[k] % 1099511627776 * 64 + (k : Int) = r := ⟨_, rfl⟩
      rw [hr] at hfx
      have HE1 : Hid (flatV itV (mkI f (k + 1)) = flatV itV (mkI f k) ++ [.int .i64 (k : Int), .int .u64 r, .bool e5]) := Lib.hid (by rw [flatV_mkI, hfx]; rfl)
      have m1 : zs[k].tmod 1099511627776 = zs[k] % 1099511627776 := Int.tmod_eq_emod_of_nonneg hzw.1
      have m2 : zs[k].tmod 5 = zs[k] % 5 := Int.tmod_eq_emod_of_nonneg hzw.1
      have m3 : IntKind.u64.wrap (zs[k] % 1099511627776 * 64) = zs[k] % 1099511627776 * 64 := by rw [IntKind.wrap_u64]; omega
      have m4 : IntKind.u64.wrap ((k : Int)) = (k : Int) := by rw [IntKind.wrap_u64]; omega
      have m5 : IntKind.u64.wrap r = r := by rw [IntKind.wrap_u64]; omega
      have hcell := fun w' h => HV.out w' (HBW.out w' h) k (.int .u64 zs[k]) (by simp [hlt])
      obtain ⟨vb, vo, rfl, hc⟩ := hcell wr HB.out
      have HC : Hid (∀ w', Below wo.heap.size wo w' → w'.cell? ⟨vb, vo + k, none⟩ = some (.int .u64 zs[k])) := Lib.hid fun w' h => by
        obtain ⟨b', o', e, hc'⟩ := hcell w' h
        simp only [Option.some.injEq, Addr.mk.injEq, and_true] at e
        obtain ⟨rfl, rfl⟩ := e
        exact hc'
      clear hfx hzw hcell hc
      generalize zs[k] = z at *
      have hb0 := HB.out.drew
      have hc0 := HC.out _ hb0
      have HO0 := Lib.hid (ownsRow_below HO.out ((Below.refl _ _).drew))
      have HF2 : Hid ((flatV itV (mkI f k)).length = k * 3) := Lib.hid (by rw [flatV_len itV_k, mkI_len])
      go_upto_region 8 with fail
      go_region_held3 (fun w' => Below wo.heap.size wo w' ∧ w'.cell? ⟨vb, vo + k, none⟩ = some (.int .u64 z)) (first | exact ⟨by assumption, HC.out _ (by assumption)⟩ | exact ⟨hb0.alloc hb0.size _, HC.out _ (hb0.alloc hb0.size _)⟩) (first
        | (go_loud (refine step_append_own_at rfl (.tmp 33) (.tmp 51) 25 rfl wo.heap.size 28 i0 (.agg #[.int .i64 0, .int .u64 0, .bool false]) 3 24 Try.underlying25 HI.out HZ0.out HS.out HY.out rfl (by decide) _ k (flatV itV (mkI f k)) rfl (HO0.out.alloc _) ⟨wr.drew.heap.size, 0, none⟩ 1 1 [.int .i64 (k : Int), .int .u64 r, .bool e5] rfl rfl (cells_lit _ _ _) (by simp [Value.oneCell']) (by unfold maxLen; omega) (by omega) (by have := HB.out.size; simp; omega) ?_); intro v' w4 hown hgrow _; have hb4 : Below wo.heap.size wo w4 := (hb0.alloc hb0.size _).grown hgrow (by have := HB.out.size; simp; omega) (fun j hj => (HO.out.lt j hj).1)))
      all_goals
        have HO4 := Lib.hid hown
        have HB4 := Lib.hid hb4
        clear hown hgrow hb4 hc0 hb0
        go_wp2
        go_roundw
        case rel => exact ⟨k + 1, by omega, by go_num, Lib.hid (by rw [HE1.out]; exact HO4.out), HB4⟩
        case measure => simp [intOf]; omega
    · obtain rfl : k = zs.length := by omega
      have hd : decide ((zs.length : Int) < (zs.length : Int)) = false := by simp
      obtain ⟨n, hn⟩ : ∃ n, zs.length = n := ⟨_, rfl⟩
      rw [hn] at HO hl d3 d3' hd ⊢
      obtain ⟨wp, rfl⟩ : ∃ wp : World, wp = wr := ⟨_, rfl⟩
      have HBP : Hid (Below w.heap.size w wp) := Lib.hid (HBO.out.trans (HB.out.mono HBO.out.size))
      have HOP : Hid (wp.ownsRow wo.heap.size 28 3 u10 n (flatV itV (mkI f n))) := HO
      have hf1 : ∀ i, (f i).1 = i := fun i => by rw [HF.out]
      have hf2 : ∀ i, i < n → 0 ≤ (f i).2.1 ∧ (f i).2.1 < 1099511627776 * 64 + 64 := fun i hi => by rw [HF.out]; simp only; omega
      have hLl : (mkI f n).length = n := mkI_len f n
      have hLr : ∀ x ∈ mkI f n, 0 ≤ x.2.1 ∧ x.2.1 < 1099511627776 * 64 + 64 := fun x hx => by
        obtain ⟨i, hi, rfl⟩ := mkI_mem.1 hx
        exact hf2 i hi
      have hLc : ∀ x ∈ mkI f n, x.1 ≠ 99 := fun x hx => by
        obtain ⟨i, hi, rfl⟩ := mkI_mem.1 hx
        rw [hf1]
        omega
      have hLw : ∀ x ∈ mkI f n, ItW x := fun x hx => by have := hLr x hx; exact ⟨by omega, by omega⟩
      have hML := moved_late (l := mkI f n) hLr hLc (by rw [hLl]; omega)
      obtain ⟨L, hLd⟩ : ∃ L, mkI f n = L := ⟨_, rfl⟩
      rw [hLd] at HOP hLl hML hLw
      rw [hLl] at hML
      clear hLr hLc hf1 hf2 HF hLd HO HB HV HZ HB1 KS hn
      obtain ⟨t, ht, htn⟩ : ∃ t : Nat, max 0 (min by' (n : Int)) = t ∧ t ≤ n := ⟨(max 0 (min by' (n : Int))).toNat, by omega, by omega⟩
      obtain ⟨x, hx⟩ : ∃ x : Int, (if (n : Int) < by' then (n : Int) else by') = x := ⟨_, rfl⟩
      have hx2 : (if 0 < x then x else 0) = (t : Int) := by
        rw [← ht, ← hx]
        split <;> split <;> omega
      have HTP : Hid ((L.drop t ++ L.take t).Perm L) := Lib.hid (by
        have := List.perm_append_comm (l₁ := L.drop t) (l₂ := L.take t)
        rwa [List.take_append_drop] at this)
      obtain ⟨la, lc, hu, hc1, hc2⟩ : ∃ la lc, u10 = .slice la n lc ∧ n ≤ lc ∧ lc ≤ maxLen := by
        obtain ⟨la, lc, h1, h2, h3, _⟩ := itV_at (SlK.of_owns (l := L) (by rw [hLl]; exact HOP.out))
        rw [hLl] at h1 h2
        exact ⟨la, lc, h1, h2, h3⟩
      subst hu
      unfold maxLen at hc2
      go_upto_region 10 with fail
      go_cut [13] (fun o wx => ∃ v13, o = v13 ∧ Hid (SlK itV wx v13 (L.drop t ++ L.take t)) ∧ Hid (Below wp.heap.size wp wx))
      case first =>
        rcases HOP.out.2 with ⟨hsl, h0⟩ | ⟨g, cp, cur, hsl, hbg, hgb, -⟩
        · simp only [Value.slice.injEq] at hsl
          obtain ⟨rfl, rfl, rfl⟩ := hsl
          obtain rfl : t = 0 := by omega
          have hL0 : L = [] := List.length_eq_zero_iff.1 hLl
          subst hL0
          go_region_held3 (fun w' => Below wp.heap.size wp w') (first | assumption | exact (Below.refl _ _).drew | exact Below.alloc (by assumption) (by simp) _) (fail)
          all_goals
            go_wp2_with fail
            go_meet
            exact ⟨_, rfl, Lib.hid ⟨_, 0, rfl, by simp, by simp, fun h => absurd rfl h⟩, Lib.hid (by assumption)⟩
        · simp only [Value.slice.injEq, true_and] at hsl
          obtain ⟨rfl, -⟩ := hsl
          have hgw : g < wp.heap.size := lt_of_block hgb
          have HC1 : Hid (∀ w', Below wp.heap.size wp w' → ∀ j u, (flatV itV (L.drop t))[j]? = some u → w'.cell? ((⟨g, t * 3, none⟩ : Addr).add j) = some u) := Lib.hid fun w' hb j u hu => by
            rw [addr_add, hb.cell (p := ⟨g, t * 3 + j, none⟩) hgw]
            have := HOP.out.cells rfl (t * 3 + j) u (by rw [← flatV_drop itV_k, List.getElem?_drop] at hu; exact hu)
            rwa [addr_add, Nat.zero_add] at this
          have HC2 : Hid (∀ w', Below wp.heap.size wp w' → ∀ j u, (flatV itV (L.take t))[j]? = some u → w'.cell? ((⟨g, 0, none⟩ : Addr).add j) = some u) := Lib.hid fun w' hb j u hu => by
            rw [addr_add, hb.cell (p := ⟨g, 0 + j, none⟩) hgw, ← addr_add]
            refine HOP.out.cells rfl j u ?_
            rw [← flatV_take itV_k, List.getElem?_take] at hu
            split at hu
            · exact hu
            · cases hu
          have HE0 : Hid ((wp.drew.alloc (.cells #[] 28)).ownsRow wp.heap.size 28 3 (.slice (some ⟨wp.heap.size, 0, none⟩) 0 0) 0 []) :=
            Lib.hid ⟨rfl, .inr ⟨wp.heap.size, 0, #[], rfl, Nat.le_refl _, heap_alloc_new wp.drew _, Nat.le_refl _, by simp, rfl, rfl⟩⟩
          have hl1 : (flatV itV (L.drop t)).length = (n - t) * 3 := by rw [flatV_len itV_k, List.length_drop, hLl]
          have hl2 : (flatV itV (L.take t)).length = t * 3 := by rw [flatV_len itV_k, List.length_take, hLl, Nat.min_eq_left htn]
          have ho1 := flatV_one itV_k (L.drop t)
          have ho2 := flatV_one itV_k (L.take t)
          have HAP : Hid (∀ (w : World) (v : Value), w.ownsRow wp.heap.size 28 3 v (0 + (n - t) + t) ([] ++ flatV itV (L.drop t) ++ flatV itV (L.take t)) → SlK itV w v (L.drop t ++ L.take t)) := Lib.hid fun w v h => by
            refine SlK.of_owns (k := 3) (base := wp.heap.size) (e := 28) ?_
            rw [flatV_append, List.length_append, List.length_drop, List.length_take, hLl, Nat.min_eq_left htn]
            simpa using h
          have hdn : t = n → flatV itV (L.drop t) = [] := fun e => by rw [List.drop_eq_nil_of_le (by omega)]; rfl
          generalize L.drop t ++ L.take t = TT at *
          generalize flatV itV (L.drop t) = n1 at *
          generalize flatV itV (L.take t) = n2 at *
          have g0 : (0 : Int) ≤ (t : Int) := by omega
          have g1 : (t : Int) ≤ (n : Int) := by omega
          have g2 : (t : Int) ≤ (lc : Int) := by omega
          have g3 : (n : Int) ≤ (lc : Int) := by omega
          have g4 : t ≤ lc := by omega
          by_cases hcc : lc = t
          focus
            subst hcc
            have hkc : n = lc := by omega
            have hn1 : n1 = [] := hdn hkc.symm
            subst hkc
          all_goals
            go_region_held3 (fun w' => Below wp.heap.size wp w') (first | assumption | exact (Below.refl _ _).drew | exact Below.alloc (by assumption) (by simp) _) (first
              | (go_loud (refine step_append_own_at rfl (.tmp 58) (.tmp 61) 25 rfl wp.heap.size 28 i0 (.agg #[.int .i64 0, .int .u64 0, .bool false]) 3 24 Try.underlying25 HI.out HZ0.out HS.out HY.out rfl (by decide) _ 0 [] rfl HE0.out ⟨g, t * 3, none⟩ (n - t) _ n1 rfl hl1 (HC1.out _ (by assumption)) ho1 (by unfold maxLen; omega) (by omega) (by simp) ?_); intro v1 w6 hown6 hgrow6 _; have hb6 : Below wp.heap.size wp w6 := Below.grown (show Below wp.heap.size wp _ from by assumption) hgrow6 (by simp) (fun k hk => Nat.le_of_eq (Option.some.inj hk)))
              | (go_loud (refine step_append_own_at rfl (.tmp 58) (.tmp 61) 25 rfl wp.heap.size 28 i0 (.agg #[.int .i64 0, .int .u64 0, .bool false]) 3 24 Try.underlying25 HI.out HZ0.out HS.out HY.out rfl (by decide) _ 0 [] rfl HE0.out ⟨g, 0, none⟩ 0 _ [] rfl rfl (fun _ _ h => by cases h) (fun _ h => by cases h) (by unfold maxLen; omega) (by omega) (by simp) ?_); intro v1 w6 hown6 hgrow6 _; have hown6 : w6.ownsRow wp.heap.size 28 3 v1 (0 + 0) ([] ++ n1) := (by rw [hn1]; exact hown6); have hb6 : Below wp.heap.size wp w6 := Below.grown (show Below wp.heap.size wp _ from by assumption) hgrow6 (by simp) (fun k hk => Nat.le_of_eq (Option.some.inj hk)))
              | (go_loud (refine step_append_own_at rfl (.tmp 62) (.tmp 65) 25 rfl wp.heap.size 28 i0 (.agg #[.int .i64 0, .int .u64 0, .bool false]) 3 24 Try.underlying25 HI.out HZ0.out HS.out HY.out rfl (by decide) _ _ _ rfl hown6 ⟨g, 0, none⟩ t _ n2 rfl hl2 (HC2.out _ (by assumption)) ho2 (by unfold maxLen; omega) (by omega) hb6.size ?_); intro v2 w7 hown7 hgrow7 _; have hb7 : Below wp.heap.size wp w7 := Below.grown hb6 hgrow7 hb6.size (fun k hk => (hown6.lt k hk).1))
              | (go_loud (refine step_append_own_at rfl (.tmp 62) (.tmp 65) 25 rfl wp.heap.size 28 i0 (.agg #[.int .i64 0, .int .u64 0, .bool false]) 3 24 Try.underlying25 HI.out HZ0.out HS.out HY.out rfl (by decide) _ _ _ rfl hown6 ⟨g, 0, none⟩ n _ n2 rfl hl2 (HC2.out _ (by assumption)) ho2 (by unfold maxLen; omega) (by omega) hb6.size ?_); intro v2 w7 hown7 hgrow7 _; have hb7 : Below wp.heap.size wp w7 := Below.grown hb6 hgrow7 hb6.size (fun k hk => (hown6.lt k hk).1)))
          all_goals
            go_wp2_with fail
            go_meet
            exact ⟨_, rfl, Lib.hid (HAP.out _ _ (by simpa using hown7)), Lib.hid hb7⟩
      case rest =>
      obtain ⟨v13, rfl, HS13, HBX⟩ := hcut
      generalize wc = wx at *
      have hTl : (L.drop t ++ L.take t).length = n := by rw [HTP.out.length_eq, hLl]
      have hTw : ∀ x ∈ L.drop t ++ L.take t, ItW x := fun x hx => hLw x (HTP.out.mem_iff.1 hx)
      have hVT : victI (L.drop t ++ L.take t) cc bb = victI L cc bb := vict_perm HTP.out cc bb
      have HSL : Hid (SlK itV wp (.slice la n lc) L) := Lib.hid (by
        have := SlK.of_owns (l := L) (by rw [hLl]; exact HOP.out)
        exact this)
      have KV1 := Lib.hid (victims_all L (by omega) hLw _ cc bb wx (HSL.out.below HBX.out))
      have KV2 := Lib.hid (fun w' (h : Below wx.heap.size wx w') => victims_all (L.drop t ++ L.take t) (by omega) hTw _ cc bb w' (HS13.out.below h))
      rw [hVT] at KV2
      generalize victI L cc bb = VA at *
      clear hTl hTw hVT HTP HS13
      go_wp2_with fail
      refine KV1.out.mono ?_
      rintro e w3 ⟨va, rfl, hsa, hb3⟩
      have HSA := Lib.hid hsa
      have HB3 := Lib.hid hb3
      clear hsa hb3 KV1
      go_wp2_with fail
      refine (KV2.out _ HB3.out).mono ?_
      rintro e w4 ⟨vb, rfl, hsb, hb4⟩
      have HSB := Lib.hid hsb
      have HSA4 := Lib.hid (HSA.out.below hb4)
      obtain ⟨wy, hwy⟩ : ∃ wy : World, w4 = wy := ⟨_, rfl⟩
      subst hwy
      have HB4 : Hid (Below wp.heap.size wp w4) := Lib.hid (HBX.out.trans ((HB3.out.trans (hb4.mono HB3.out.size)).mono HBX.out.size))
      clear hsb hb4 KV2 HSA HB3
      have HO4 := Lib.hid (ownsRow_below HOP.out HB4.out)
      have KV3 := Lib.hid (fun w' (v : Value) (h : SlK itV w' v (L ++ [zM])) => victims_all (L ++ [zM]) (by rw [List.length_append, hLl]; simp; omega) (fun x hx => by
        rcases List.mem_append.1 hx with h1 | h1
        · exact hLw x h1
        · rw [List.mem_singleton] at h1; subst h1; exact ⟨by decide, by decide⟩) v 0 (n : Int) w' h)
      obtain ⟨VL, hVL⟩ : ∃ VL, victI (L ++ [zM]) 0 (n : Int) = VL := ⟨_, rfl⟩
      rw [hVL] at KV3 hML
      obtain ⟨hM1, hM2⟩ := hML
      have HM2 := Lib.hid hM2
      clear hM2 hVL hLw
      obtain ⟨wy, rfl⟩ : ∃ wy : World, wy = w4 := ⟨_, rfl⟩
      go_upto_region 13 with fail
      go_cut [16] (fun o wx => ∃ v16, o = v16 ∧ Hid (Sl1 wx v16 (VL.map (Value.int .i64))) ∧ Hid (Below wy.heap.size wy wx))
      case first =>
        have hzf : flatV itV (L ++ [zM]) = flatV itV L ++ [.int .i64 99, .int .u64 4611686018427387903, .bool false] := by rw [flatV_snoc]; rfl
        have hown0 : (wy.alloc (.cells #[] 28)).ownsRow wy.heap.size 28 3 (.slice (some ⟨wy.heap.size, 0, none⟩) 0 0) 0 [] :=
          ⟨rfl, .inr ⟨wy.heap.size, 0, #[], rfl, Nat.le_refl _, heap_alloc_new wy _, Nat.le_refl _, by simp, rfl, rfl⟩⟩
        have HE0 := Lib.hid hown0
        have HZF := Lib.hid hzf
        have HAP : Hid (∀ (w : World) (v : Value), w.ownsRow wy.heap.size 28 3 v (n + 1) (flatV itV L ++ [.int .i64 99, .int .u64 4611686018427387903, .bool false]) → SlK itV w v (L ++ [zM])) := Lib.hid fun w v h => by
          refine SlK.of_owns (k := 3) (base := wy.heap.size) (e := 28) ?_
          rw [HZF.out, List.length_append, List.length_singleton, hLl]
          exact h
        clear hown0 hzf
        rcases HO4.out.2 with ⟨hsl, h0⟩ | ⟨g, cp, cur, hsl, hbg, hgb, -⟩
        · simp only [Value.slice.injEq] at hsl
          obtain ⟨rfl, rfl, rfl⟩ := hsl
          have hL0 : L = [] := List.length_eq_zero_iff.1 hLl
          subst hL0
          go_wp2_with (first
            | (at_builtin; go_loud (refine wpList_append_own_at _ rfl (.tmp 77) (.tmp 79) 25 rfl wy.heap.size 28 i0 (.agg #[.int .i64 0, .int .u64 0, .bool false]) 3 24 Try.underlying25 HI.out HZ0.out HS.out HY.out rfl (by decide) _ 0 [] rfl (HE0.out.alloc _) ⟨wy.heap.size + 1, 0, none⟩ 1 1 [.int .i64 99, .int .u64 4611686018427387903, .bool false] rfl rfl ?c1 (by simp [Value.oneCell']) (by unfold maxLen; omega) (by omega) (by simp; omega) ?_))
            | fail)
          intro v2 w7 hown7 hgrow7 _ _
          have hb7 : Below wy.heap.size wy w7 := (((Below.refl wy.heap.size wy).alloc (Nat.le_refl _) _).alloc (by simp) _).grown hgrow7 (by simp; omega) (by intro k hk; simp [Value.ownBlock] at hk; omega)
          have HS7 := Lib.hid (HAP.out _ _ (by simpa [flatV] using hown7))
          have HB7 := Lib.hid hb7
          clear hown7 hgrow7 hb7
          go_wp2_with fail
          refine (KV3.out _ _ HS7.out).mono ?_
          rintro e w8 ⟨v16, rfl, hs8, hb8⟩
          have HS8 := Lib.hid hs8
          have HB8 := Lib.hid (HB7.out.trans (hb8.mono HB7.out.size))
          clear hs8 hb8
          go_wp2_with fail
          go_meet
          exact ⟨_, rfl, HS8, HB8⟩
        · simp only [Value.slice.injEq, true_and] at hsl
          obtain ⟨rfl, -⟩ := hsl
          have hgw : g < wy.heap.size := lt_of_block hgb
          have hl1 : (flatV itV L).length = n * 3 := by rw [flatV_len itV_k, hLl]
          have ho1 := flatV_one itV_k L
          have HC1 : Hid (∀ j u, (flatV itV L)[j]? = some u → (wy.alloc (.cells #[] 28)).cell? ((⟨g, 0, none⟩ : Addr).add j) = some u) := Lib.hid fun j u hu => by
            have hb : Below wy.heap.size wy (wy.alloc (.cells #[] 28)) := (Below.refl _ _).alloc (Nat.le_refl _) _
            rw [addr_add, hb.cell (p := ⟨g, 0 + j, none⟩) hgw, ← addr_add]
            exact HO4.out.cells rfl j u hu
          clear hgb hbg
          generalize flatV itV L = fl at *
          go_wp2_with (first
            | (at_builtin; go_loud (refine wpList_append_own_at _ rfl (.tmp 75) (.tmp 76) 25 rfl wy.heap.size 28 i0 (.agg #[.int .i64 0, .int .u64 0, .bool false]) 3 24 Try.underlying25 HI.out HZ0.out HS.out HY.out rfl (by decide) _ 0 [] rfl HE0.out ⟨g, 0, none⟩ n lc fl rfl hl1 HC1.out ho1 (by unfold maxLen; omega) (by omega) (by simp) ?_))
            | fail)
          intro v1 w6 hown6 hgrow6 _ _
          have hb6 : Below wy.heap.size wy w6 := ((Below.refl wy.heap.size wy).alloc (Nat.le_refl _) _).grown hgrow6 (by simp) (by intro k hk; simp [Value.ownBlock] at hk; omega)
          have HO6 : Hid (w6.ownsRow wy.heap.size 28 3 v1 n fl) := Lib.hid (by simpa using hown6)
          have HB6 := Lib.hid hb6
          clear hown6 hgrow6 hb6 HC1
          go_wp2_with (first
            | (at_builtin; go_loud (refine wpList_append_own_at _ rfl (.tmp 77) (.tmp 79) 25 rfl wy.heap.size 28 i0 (.agg #[.int .i64 0, .int .u64 0, .bool false]) 3 24 Try.underlying25 HI.out HZ0.out HS.out HY.out rfl (by decide) _ n fl rfl (HO6.out.alloc _) ⟨w6.heap.size, 0, none⟩ 1 1 [.int .i64 99, .int .u64 4611686018427387903, .bool false] rfl rfl (cells_lit _ _ _) (by simp [Value.oneCell']) (by unfold maxLen; omega) (by omega) (by have := HB6.out.size; simp; omega) ?_))
            | fail)
          intro v2 w7 hown7 hgrow7 _ _
          have hb7 : Below wy.heap.size wy w7 := (HB6.out.alloc HB6.out.size _).grown hgrow7 (by have := HB6.out.size; simp; omega) (fun k hk => (HO6.out.lt k hk).1)
          have HS7 := Lib.hid (HAP.out _ _ (by simpa using hown7))
          have HB7 := Lib.hid hb7
          clear hown7 hgrow7 hb7
          go_wp2_with fail
          refine (KV3.out _ _ HS7.out).mono ?_
          rintro e w8 ⟨v16, rfl, hs8, hb8⟩
          have HS8 := Lib.hid hs8
          have HB8 := Lib.hid (HB7.out.trans (hb8.mono HB7.out.size))
          clear hs8 hb8
          go_wp2_with fail
          go_meet
          exact ⟨_, rfl, HS8, HB8⟩
      case rest =>
      obtain ⟨v16, rfl, HS16, HBY⟩ := hcut
      generalize wc = wz at *
      have HSAz := Lib.hid (HSA4.out.below HBY.out)
      have HSBz := Lib.hid (HSB.out.below HBY.out)
      have HBZ : Hid (Below w.heap.size w wz) := Lib.hid (HBP.out.trans ((HB4.out.trans (HBY.out.mono HB4.out.size)).mono HBP.out.size))
      obtain ⟨aa, ac, rfl, _, hcv⟩ := sl1_at16 HS16.out
      rw [List.length_map, hM1]
      have HCV : Hid (∀ i, i < n → ∃ b o y, aa = some ⟨b, o, none⟩ ∧ wz.cell? ⟨b, o + i, none⟩ = some (.int .i64 y) ∧ y ≠ 99) := Lib.hid fun i hi => by
        have hi' : i < VL.length := by rw [hM1]; exact hi
        obtain ⟨b, o, e1, e2⟩ := hcv wz (Below.refl _ _) i (.int .i64 VL[i]) (by simp [hi'])
        exact ⟨b, o, VL[i], e1, e2, HM2.out _ (List.getElem_mem hi')⟩
      clear hcv HS16 KV3 HSA4 HSB HM2 HO4 HOP HSL HBX
      go_wp2_with fail
      go_loop [17] (fun i => ∃ k : Nat, k ≤ n ∧ i = .int .i64 k) (fun i => n - (intOf i).toNat)
      case atStart => exact ⟨0, by omega, rfl⟩
      case round =>
        obtain ⟨k, hk, rfl⟩ := hrel
        by_cases hlt : k < n
        · have hd1 : decide ((k : Int) < (n : Int)) = true := decide_eq_true (by omega)
          have hd1' : decide (k < n) = true := decide_eq_true hlt
          obtain ⟨b1, o1, y, rfl, e1, hy⟩ := HCV.out k hlt
          have k0 : (0 : Int) ≤ (k : Int) := by omega
          have k1 : (k : Int) < (n : Int) := by omega
          have q1 : (y == 99) = false := by simpa using hy
          go_wp2
          go_round
          case rel => exact ⟨k + 1, by omega, by go_num⟩
          case measure => simp [intOf]; omega
        · obtain rfl : k = n := by omega
          have hd1 : decide ((k : Int) < (k : Int)) = false := by simp
          have q1 : ((k : Int) == (k : Int)) = true := by simp
          go_wp2_with fail
          refine (same16_any va vb VA VA wz HSAz.out HSBz.out).mono ?_
          rintro e w9 ⟨rfl, hb9⟩
          have ds : decide (VA = VA) = true := by simp
          rw [ds]
          have HB9 := Lib.hid hb9
          clear hb9
          go_wp2
          go_ret
          exact ⟨rfl, HBZ.out.trans (HB9.out.mono HBZ.out.size)⟩
end Go.Proofs.Ytmnnfhplgepiaaa
