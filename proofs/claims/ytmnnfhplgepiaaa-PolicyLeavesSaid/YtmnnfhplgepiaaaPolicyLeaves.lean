/-
  The walk of the law PolicyLeaves: no more than the capacity are left; the expired go ahead of the others; none that is left has a lesser rank than one that goes.
-/
import Derived.Test.YtmnnfhplgepiaaaPolT
import Derived.Test.YtmnnfhplgepiaaaLookB
import Derived.Test.YtmnnfhplgepiaaaPolA
import Derived.BigRegion
namespace Go.Sg
open Go Go.RowKit
theorem leaves_facts {f : Nat → It} (hf : ∀ i, (f i).1 = i) (hr : ∀ i, 0 ≤ (f i).2.1 ∧ (f i).2.1 < 4611686018427387904) (n : Nat) {c b : Int} (h0 : 0 ≤ c) (h1 : 0 ≤ b) (h2 : c ≤ 1000000) (h3 : n ≤ 1000000) (h4 : (n : Int) ≤ c + b) :
    ∃ jv : Nat → Nat, (∀ i (hi : i < (victI (mkI f n) c b).length), jv i < n ∧ (victI (mkI f n) c b)[i] = (jv i : Int)) ∧ (victI (mkI f n) c b).Nodup ∧ (n : Int) - (victI (mkI f n) c b).length ≤ c ∧ ((victI (mkI f n) c b).length : Int) ≤ b ∧ min (cntE (mkI f n) : Int) b ≤ (victI (mkI f n) c b).length
      ∧ ∀ i, i < n → ∀ k, k < n → (i : Int) ∈ victI (mkI f n) c b → (k : Int) ∉ victI (mkI f n) c b → ¬ ((f k).2.2 = true ∧ (f i).2.2 = false) ∧ ¬ ((f k).2.2 = (f i).2.2 ∧ (f k).2.1 < (f i).2.1) := by
  have hn := mkI_nodup hf n
  have hg := go_bd (l := mkI f n) (cap := c) (batch := b) h0 h1 h2 (by rw [mkI_len]; omega) (by rw [mkI_len]; exact h4)
  rw [mkI_len] at hg
  refine ⟨fun i => ((victI (mkI f n) c b).getD i 0).toNat, ?_, vict_nodup hn c b, by rw [victI_len]; exact hg.1, by rw [victI_len]; exact hg.2.1, by rw [victI_len]; exact hg.2.2, ?_⟩
  · intro i hi
    obtain ⟨j, hj, e, _⟩ := vict_place hf hi
    simp only [List.getD_eq_getElem?_getD, List.getElem?_eq_getElem hi, Option.getD_some, e]
    omega
  · intro i hi k hk h5 h6
    have h7 := leI_bad (vict_pair hn (mkI_mem.2 ⟨i, hi, rfl⟩) (mkI_mem.2 ⟨k, hk, rfl⟩) (by rw [hf]; exact h5) (by rw [hf]; exact h6))
    have e1 := hr i
    have e2 := hr k
    rw [Int.emod_eq_of_lt e1.1 e1.2, Int.emod_eq_of_lt e2.1 e2.2] at h7
    exact h7
end Go.Sg
namespace Go.Proofs.Ytmnnfhplgepiaaa
theorem info_boolL : (Try.prog.info? 4).map (fun i => (i.zero, i.size, i.bytes)) = some (some (.bool false), 1, 1) := by kernel_rfl
open Go Go.RowKit Go.Sg
set_option maxHeartbeats 8000000 in
set_option maxRecDepth 100000 in
theorem PolicyLeaves_walk (v : Value) (zs : List Int) (v2 : Value) (es : List Bool) (c b : Int) (w : World) (hv : SlI .u64 w v zs) (hv2 : Sl1 w v2 (es.map Value.bool)) (_h1 : Num c) (_h2 : Num b) :
    Calls Try.prog 3 #[v, v2, .int .i64 c, .int .i64 b] w fun e w' => e = .returned (.bool true) ∧ Below w.heap.size w w' := by
  have HZ := Lib.hid (slI_words16 hv)
  obtain ⟨a, cap, rfl, h1, h2⟩ := sl1_at16 (Sl1.of_SlI hv)
  obtain ⟨a2, cap2, rfl, h3, h4⟩ := sl1_at16 hv2
  rw [List.length_map] at h1 h3 ⊢
  rw [List.length_map]
  unfold maxLen at h1 h3
  have HV := Lib.hid h2
  have HV2 := Lib.hid h4
  have KS := Lib.hid (fun w' => shown16 w')
  obtain ⟨s, hs⟩ : ∃ s, wrap64 (c + b) = s := ⟨_, rfl⟩
  have HSS : Hid (0 ≤ c → 0 ≤ b → c ≤ 1000 → b ≤ 1000 → s = c + b) := Lib.hid fun h1 h2 h3 h4 => by
    rw [← hs]
    unfold wrap64
    omega
  clear hv hv2 h2 h4 _h1 _h2
  go_enter Try.func3, Try.ntmps3
  go_wp2_with fail
  refine (KS.out _).mono ?_
  rintro e w1 ⟨rfl, hb1⟩
  have HB1 := Lib.hid hb1
  clear hb1
  by_cases hL : 60 < zs.length
  · have d3 : decide ((60 : Int) < (zs.length : Int)) = true := decide_eq_true (by omega)
    have d3' : decide (60 < zs.length) = true := decide_eq_true hL
    go_wp2
    go_ret
    exact ⟨rfl, HB1.out⟩
  have d3 : decide ((60 : Int) < (zs.length : Int)) = false := decide_eq_false (by omega)
  have d3' : decide (60 < zs.length) = false := decide_eq_false hL
  have hl : zs.length ≤ 60 := by omega
  by_cases hc0 : c < 0
  · have d4 : decide (c < 0) = true := decide_eq_true hc0
    go_wp2
    go_ret
    exact ⟨rfl, HB1.out⟩
  have d4 : decide (c < 0) = false := decide_eq_false hc0
  by_cases hb0 : b < 0
  · have d5 : decide (b < 0) = true := decide_eq_true hb0
    go_wp2
    go_ret
    exact ⟨rfl, HB1.out⟩
  have d5 : decide (b < 0) = false := decide_eq_false hb0
  by_cases hsl : s < (zs.length : Int)
  · have d6 : decide (s < (zs.length : Int)) = true := decide_eq_true hsl
    go_wp2
    go_ret
    exact ⟨rfl, HB1.out⟩
  have d6 : decide (s < (zs.length : Int)) = false := decide_eq_false hsl
  by_cases hc1 : 1000 < c
  · have d7 : decide (1000 < c) = true := decide_eq_true hc1
    go_wp2
    go_ret
    exact ⟨rfl, HB1.out⟩
  have d7 : decide (1000 < c) = false := decide_eq_false hc1
  by_cases hb1 : 1000 < b
  · have d8 : decide (1000 < b) = true := decide_eq_true hb1
    go_wp2
    go_ret
    exact ⟨rfl, HB1.out⟩
  have d8 : decide (1000 < b) = false := decide_eq_false hb1
  have hlen : (zs.length : Int) ≤ c + b := by rw [← HSS.out (by omega) (by omega) (by omega) (by omega)]; omega
  have d6' : decide (c + b < (zs.length : Int)) = false := decide_eq_false (by omega)
  obtain ⟨i0, hi0, hz0, hz1, hz2⟩ := info_parts info_item
  have HI := Lib.hid hi0
  have HZ0 := Lib.hid hz0
  have HS := Lib.hid hz1
  have HY := Lib.hid hz2
  clear hi0 hz0 hz1 hz2
  obtain ⟨wo, hwo⟩ : ∃ wo : World, wo = w1 := ⟨_, rfl⟩
  have HWO := Lib.hid hwo
  have HBO : Hid (Below w.heap.size w wo) := Lib.hid (by rw [hwo]; exact HB1.out)
  clear hwo
  obtain ⟨f, hf⟩ : ∃ f : Nat → It, f = fun i : Nat => ((i : Int), zs.getD i 0 % 4611686018427387904, es.getD i false) := ⟨_, rfl⟩
  have HF := Lib.hid hf
  clear hf
  go_wp2_with fail
  go_loopw [10, 11, 12] (fun sv lt i wr => ∃ k : Nat, k ≤ zs.length ∧ i = .int .i64 k ∧ lt = .int .i64 (cntE (mkI f k) : Int) ∧ Hid (wr.ownsRow wo.heap.size 28 3 sv k (flatV itV (mkI f k))) ∧ Hid (Below wo.heap.size wo wr)) (fun _ _ i _ => zs.length - (intOf i).toNat)
  case atStart => exact ⟨0, by omega, rfl, rfl, Lib.hid (World.ownsRow_nil _ _ _ _), Lib.hid (by rw [HWO.out]; exact Below.refl _ _)⟩
  case round =>
    obtain ⟨k, hk, rfl, rfl, HO, HB⟩ := hrel
    by_cases hlt : k < zs.length
    · have hd : decide ((k : Int) < (zs.length : Int)) = true := decide_eq_true (by omega)
      have hd' : decide (k < zs.length) = true := decide_eq_true hlt
      have j0 : (0 : Int) ≤ (k : Int) := by omega
      have j1 : (k : Int) < (zs.length : Int) := by omega
      have HBW : Hid (∀ w', Below wo.heap.size wo w' → Below w.heap.size w w') := Lib.hid fun w' h => HBO.out.trans (h.mono HBO.out.size)
      have hzw : Word zs[k] := HZ.out _ (List.getElem_mem hlt)
      have hfx : f k = ((k : Int), zs[k] % 4611686018427387904, es.getD k false) := by rw [HF.out]; simp [List.getD_eq_getElem?_getD, List.getElem?_eq_getElem hlt]
      have HCE : Hid (cntE (mkI f (k + 1)) = cntE (mkI f k) + if es.getD k false = true then 1 else 0) := Lib.hid (by rw [cntE_succ, hfx])
      have hce : cntE (mkI f k) ≤ k := by have := cntE_le (mkI f k); rwa [mkI_len] at this
      have m1 : zs[k].tmod 4611686018427387904 = zs[k] % 4611686018427387904 := Int.tmod_eq_emod_of_nonneg hzw.1
      have hcell := fun w' h => HV.out w' (HBW.out w' h) k (.int .u64 zs[k]) (by simp [hlt])
      obtain ⟨vb, vo, rfl, hc⟩ := hcell wr HB.out
      have HC : Hid (∀ w', Below wo.heap.size wo w' → w'.cell? ⟨vb, vo + k, none⟩ = some (.int .u64 zs[k])) := Lib.hid fun w' h => by
        obtain ⟨b', o', e, hc'⟩ := hcell w' h
        simp only [Option.some.injEq, Addr.mk.injEq, and_true] at e
        obtain ⟨rfl, rfl⟩ := e
        exact hc'
      obtain ⟨e5, he5⟩ : ∃ e5 : Bool, es.getD k false = e5 := ⟨_, rfl⟩
      rw [he5] at hfx HCE
      have HE1 : Hid (flatV itV (mkI f (k + 1)) = flatV itV (mkI f k) ++ [.int .i64 (k : Int), .int .u64 (zs[k] % 4611686018427387904), .bool e5]) := Lib.hid (by rw [flatV_mkI, hfx]; rfl)
      have HC2 : Hid (∀ w', Below wo.heap.size wo w' → k < es.length → ∃ b o, a2 = some ⟨b, o, none⟩ ∧ w'.cell? ⟨b, o + k, none⟩ = some (.bool e5)) := Lib.hid fun w' h hk => HV2.out w' (HBW.out w' h) k (.bool e5) (by
        rw [← he5]
        simp [List.getD_eq_getElem?_getD, List.getElem?_eq_getElem hk])
      have hE5 : ¬ k < es.length → e5 = false := fun h => by
        rw [← he5, List.getD_eq_getElem?_getD, List.getElem?_eq_none (by omega)]
        rfl
      clear hfx hzw hcell hc he5
      generalize zs[k] = z at *
      generalize cntE (mkI f k) = ck at *
      have hb0 := HB.out.drew
      have hc0 := HC.out _ hb0
      have HF2 : Hid ((flatV itV (mkI f k)).length = k * 3) := Lib.hid (by rw [flatV_len itV_k, mkI_len])
      go_upto_region 9 with fail
      go_cut [13] (fun o wx => ∃ G, o = .pointer (some ⟨G, 0, none⟩) ∧ wo.heap.size ≤ G ∧ Hid (Blk wx G #[.int .i64 (k : Int), .int .u64 (z % 4611686018427387904), .bool e5] 28) ∧ Hid (wx.ownsRow wo.heap.size 28 3 u10 k (flatV itV (mkI f k))) ∧ Hid (u10.ownBlock ≠ some G) ∧ Hid (Below wo.heap.size wo wx))
      case first =>
        by_cases hke : k < es.length
        · have d9 : decide ((k : Int) < (es.length : Int)) = true := decide_eq_true (by omega)
          have d9' : decide (k < es.length) = true := decide_eq_true hke
          obtain ⟨eb, eo, rfl, e1⟩ := HC2.out _ hb0 hke
          have HC3 : Hid (∀ w', Below wo.heap.size wo w' → w'.cell? ⟨eb, eo + k, none⟩ = some (.bool e5)) := Lib.hid fun w' h => by
            obtain ⟨b', o', e, hc'⟩ := HC2.out w' h hke
            simp only [Option.some.injEq, Addr.mk.injEq, and_true] at e
            obtain ⟨rfl, rfl⟩ := e
            exact hc'
          have j2 : (k : Int) < (es.length : Int) := by omega
          go_region_held3 (fun w' => Below wo.heap.size wo w' ∧ w'.cell? ⟨vb, vo + k, none⟩ = some (.int .u64 z) ∧ w'.cell? ⟨eb, eo + k, none⟩ = some (.bool e5)) (first | exact ⟨by assumption, HC.out _ (by assumption), HC3.out _ (by assumption)⟩ | exact ⟨hb0.alloc hb0.size _, HC.out _ (hb0.alloc hb0.size _), HC3.out _ (hb0.alloc hb0.size _)⟩) (fail)
          all_goals
            go_wp2_with fail
            go_meet
            exact ⟨wr.heap.size, rfl, HB.out.size, Lib.hid (Blk.new wr _ _).drew, Lib.hid (ownsRow_below HO.out (((Below.refl _ _).alloc (Nat.le_refl _) _).drew)), Lib.hid (fun e => by have := (HO.out.lt _ e).2; omega), Lib.hid ((HB.out.alloc HB.out.size _).drew)⟩
        · have d9 : decide ((k : Int) < (es.length : Int)) = false := decide_eq_false (by omega)
          have d9' : decide (k < es.length) = false := decide_eq_false hke
          obtain rfl := hE5 hke
          have hcw := HC.out _ HB.out
          have hca : (wr.alloc (.cells #[.int .i64 0, .int .u64 0, .bool false] 28)).cell? ⟨vb, vo + k, none⟩ = some (.int .u64 z) := HC.out _ (HB.out.alloc HB.out.size _)
          clear hb0 hc0
          go_region
          all_goals
            go_wp2_with fail
            go_meet
            exact ⟨wr.heap.size, rfl, HB.out.size, Lib.hid (Blk.new wr _ _).drew, Lib.hid (ownsRow_below HO.out (((Below.refl _ _).alloc (Nat.le_refl _) _).drew)), Lib.hid (fun e => by have := (HO.out.lt _ e).2; omega), Lib.hid ((HB.out.alloc HB.out.size _).drew)⟩
      case rest =>
      obtain ⟨G, rfl, hGo, HG, HO2, HNG, HB2⟩ := hcut
      generalize wc = w3 at *
      have c0 := HG.out.cell 0
      have c1 := HG.out.cell 1
      have c2 := HG.out.cell 2
      simp only [List.getElem?_toArray, List.getElem?_cons_succ, List.getElem?_cons_zero] at c0 c1 c2
      clear hb0 hc0 HC2 hE5 HO HB HC
      cases e5
      all_goals
        go_wp2_with (first
          | (at_builtin; go_loud (refine wpList_append_own_at _ rfl (.tmp 79) (.tmp 81) 25 rfl wo.heap.size 28 i0 (.agg #[.int .i64 0, .int .u64 0, .bool false]) 3 24 Try.underlying25 HI.out HZ0.out HS.out HY.out rfl (by decide) _ k (flatV itV (mkI f k)) rfl (HO2.out.alloc _) ⟨w3.heap.size, 0, none⟩ 1 1 _ rfl rfl (cells_lit _ _ _) (by simp [Value.oneCell']) (by unfold maxLen; omega) (by omega) (by have := HB2.out.size; simp; omega) ?_))
          | fail)
        intro v1 w4 hown hgrow _ _
        have HO4 : Hid (w4.ownsRow wo.heap.size 28 3 v1 (k + 1) (flatV itV (mkI f (k + 1)))) := Lib.hid (by rw [HE1.out]; exact hown)
        have HB4 : Hid (Below wo.heap.size wo w4) := Lib.hid ((HB2.out.alloc HB2.out.size _).grown hgrow (by have := HB2.out.size; simp; omega) (fun j hj => (HO2.out.lt j hj).1))
        clear hown hgrow
        go_wp2
        go_roundw
        case rel => exact ⟨k + 1, by omega, by go_num, by rw [HCE.out]; simp, HO4, HB4⟩
        case measure => simp [intOf]; omega
    · obtain rfl : k = zs.length := by omega
      have hd : decide ((zs.length : Int) < (zs.length : Int)) = false := by simp
      obtain ⟨n, hn⟩ : ∃ n, zs.length = n := ⟨_, rfl⟩
      rw [hn] at HO hl hlen d3 d3' d6 d6' hd ⊢
      obtain ⟨wp, rfl⟩ : ∃ wp : World, wp = wr := ⟨_, rfl⟩
      have HBP : Hid (Below w.heap.size w wp) := Lib.hid (HBO.out.trans (HB.out.mono HBO.out.size))
      have hf1 : ∀ i, (f i).1 = i := fun i => by rw [HF.out]
      have hf3 : ∀ i, 0 ≤ (f i).2.1 ∧ (f i).2.1 < 4611686018427387904 := fun i => by rw [HF.out]; simp only; omega
      have HSL := Lib.hid (SlK.of_owns (l := mkI f n) (by rw [mkI_len]; exact HO.out))
      have HL1 : Hid ((mkI f n).length = n) := Lib.hid (mkI_len f n)
      obtain ⟨la, lc, rfl, -, hlc, -⟩ := itV_at HSL.out
      have KV := Lib.hid (victims_all (mkI f n) (by rw [HL1.out]; omega) (fun x hx => by obtain ⟨i, _, rfl⟩ := mkI_mem.1 hx; have := hf3 i; exact ⟨by omega, by omega⟩) _ c b wp HSL.out)
      have HCL : Hid (∀ w', Below wp.heap.size wp w' → ∀ j, j < n → ∃ b o, la = some ⟨b, o, none⟩ ∧ w'.cell? ⟨b, o + j * 3 + 1, none⟩ = some (.int .u64 (f j).2.1) ∧ w'.cell? ⟨b, o + j * 3 + 2, none⟩ = some (.bool (f j).2.2)) := Lib.hid fun w' h j hj => by
        obtain ⟨_, _, e, _, _, h2⟩ := itV_at (HSL.out.below h)
        obtain ⟨b, o, e2, _, _, h3, h4⟩ := h2 j (by rw [HL1.out]; exact hj)
        simp only [Value.slice.injEq, true_and] at e
        rw [mkI_get] at h3 h4
        exact ⟨b, o, by rw [e.1]; exact e2, h3, h4⟩
      obtain ⟨jv, hj1, hnd, hg1, hg2, hg3, hbad⟩ := leaves_facts hf1 hf3 n (c := c) (b := b) (by omega) (by omega) (by omega) (by omega) hlen
      rw [HL1.out] at KV ⊢
      obtain ⟨V, hV⟩ : ∃ V, victI (mkI f n) c b = V := ⟨_, rfl⟩
      have hj1' : ∀ i (hi : i < V.length), jv i < n ∧ V[i] = (jv i : Int) := by subst hV; exact hj1
      rw [hV] at KV hnd hg1 hg2 hg3 hbad
      obtain ⟨late, hlate⟩ : ∃ late, cntE (mkI f n) = late := ⟨_, rfl⟩
      have hln : late ≤ n := by rw [← hlate]; have := cntE_le (mkI f n); rwa [HL1.out] at this
      rw [hlate] at hg3 ⊢
      have HJ := Lib.hid hj1'
      have HND := Lib.hid hnd
      have HBAD := Lib.hid hbad
      obtain ⟨g, hg⟩ : ∃ g, V.length = g := ⟨_, rfl⟩
      have HG := Lib.hid hg
      have hgn : g ≤ n := by
        have h1 := victI_len (mkI f n) c b
        rw [hV, hg] at h1
        have h2 := goI_le (mkI f n) c b
        rw [HL1.out] at h2
        omega
      rw [hg] at hg1 hg2 hg3
      obtain ⟨mm, hmm⟩ : ∃ mm : Int, (if b < (late : Int) then b else (late : Int)) = mm := ⟨_, rfl⟩
      have e1 : decide (c < (n : Int) - (g : Int)) = false := decide_eq_false (by omega)
      have e2 : decide (b < (g : Int)) = false := decide_eq_false (by omega)
      have e3 : decide ((g : Int) < mm) = false := decide_eq_false (by rw [← hmm]; split <;> omega)
      obtain ⟨j0, hj0, jz0, jz1, jz2⟩ := info_parts info_boolL
      have JI := Lib.hid hj0
      have JZ := Lib.hid jz0
      have JS := Lib.hid jz1
      have JY := Lib.hid jz2
      unfold maxLen at hlc
      clear hj0 jz0 jz1 jz2 hj1 hj1' hnd hbad hV hlate hf1 hf3 HSL HL1 HO HF HV HV2 HZ HSS hs HB HBO hn hg HB1
      go_wp2_with fail
      refine KV.out.mono ?_
      rintro e w2 ⟨va, rfl, hsa, hb2⟩
      have HB2 := Lib.hid hb2
      obtain ⟨aa, ac, rfl, _, hcv⟩ := sl1_at16 hsa
      have HCV : Hid (∀ w', Below w2.heap.size w2 w' → ∀ i, i < g → ∃ b o, aa = some ⟨b, o, none⟩ ∧ w'.cell? ⟨b, o + i, none⟩ = some (.int .i64 (jv i : Int))) := Lib.hid fun w' h i hi => by
        have hi' : i < V.length := by rw [HG.out]; exact hi
        refine hcv w' h i _ ?_
        rw [List.getElem?_map, List.getElem?_eq_getElem hi', (HJ.out i hi').2]
        rfl
      rw [List.length_map, HG.out]
      clear hsa hb2 hcv KV
      go_wp2_with (first
        | (at_make; go_loud (refine wpList_make_row _ rfl (.tmp 88) (.tmp 88) 23 rfl 4 j0 (.bool false) Try.underlying23 JI.out JZ.out JS.out rfl .i64 .i64 n rfl rfl (by rw [JY.out]; omega) (by omega) ?_))
        | fail)
      obtain ⟨GB, hGB⟩ : ∃ GB, w2.heap.size = GB := ⟨_, rfl⟩
      have hrow := World.rowIs_made w2 (.bool false) n 4
      have hB3 : Below w2.heap.size w2 (w2.alloc (.cells (madeCells #[.bool false] n) 4)) := (Below.refl _ _).alloc (Nat.le_refl _) _
      have HGS : Hid (GB < (w2.alloc (.cells (madeCells #[.bool false] n) 4)).heap.size ∧ GB = w2.heap.size) := Lib.hid (by rw [← hGB]; simp)
      rw [hGB] at hrow ⊢
      have HR := Lib.hid hrow
      have HB3 := Lib.hid hB3
      clear hrow hB3 hGB
      generalize w2.alloc (.cells (madeCells #[.bool false] n) 4) = w3 at *
      go_loopw [16] (fun i wx => ∃ k : Nat, k ≤ g ∧ i = .int .i64 k ∧ Hid (wx.rowIs GB 4 n (fun j => .bool (decide ((j : Int) ∈ V.take k)))) ∧ Hid (Below w2.heap.size w2 wx)) (fun i _ => g - (intOf i).toNat)
      case atStart => exact ⟨0, by omega, rfl, Lib.hid (HR.out.congr (fun i _ => by simp)), HB3⟩
      case round =>
        obtain ⟨k, hk, rfl, HRK, HBK⟩ := hrel
        by_cases hlt : k < g
        · have hd1 : decide ((k : Int) < (g : Int)) = true := decide_eq_true (by omega)
          have hd1' : decide (k < g) = true := decide_eq_true hlt
          obtain ⟨b1, o1, rfl, x1⟩ := HCV.out wr HBK.out k hlt
          have hkV : k < V.length := by rw [HG.out]; exact hlt
          obtain ⟨hjn, hjV⟩ := HJ.out k hkV
          have HTK : Hid (V.take (k + 1) = V.take k ++ [(jv k : Int)]) := Lib.hid (by rw [List.take_succ_eq_append_getElem hkV, hjV])
          have hnm : decide ((jv k : Int) ∈ V.take k) = false := decide_eq_false fun hm => by
            have h1 := HND.out
            rw [← List.take_append_drop k V, List.nodup_append] at h1
            refine h1.2.2 _ hm _ ?_ rfl
            rw [List.drop_eq_getElem_cons hkV, hjV]
            exact List.mem_cons_self
          generalize jv k = j at *
          have c0 := HRK.out.cell hjn
          rw [hnm] at c0
          have f0 := HRK.out.frozen j
          have k0 : (0 : Int) ≤ (k : Int) := by omega
          have k1 : (k : Int) < (g : Int) := by omega
          have j0 : (0 : Int) ≤ (j : Int) := by omega
          have j1 : (j : Int) < (n : Int) := by omega
          have d5 : decide ((j : Int) < 0) = false := decide_eq_false (by omega)
          have d6 : decide ((n : Int) ≤ (j : Int)) = false := decide_eq_false (by omega)
          have d6' : decide (n ≤ j) = false := decide_eq_false (by omega)
          have HR4 : Hid ((wr.setCell ⟨GB, j, none⟩ (.bool true)).rowIs GB 4 n (fun i => .bool (decide ((i : Int) ∈ V.take (k + 1))))) := Lib.hid ((HRK.out.set j (.bool true)).congr (fun i _ => by
            rw [HTK.out]
            by_cases hij : i = j
            · subst hij; simp
            · have : ¬ ((i : Int) = (j : Int)) := by omega
              simp [hij, this]))
          have HB4 : Hid (Below w2.heap.size w2 (wr.setCell ⟨GB, j, none⟩ (.bool true))) := Lib.hid (below_set16 HBK.out _ _ _ (Nat.le_of_eq HGS.out.2.symm))
          clear hjV hnm
          go_wp2
          go_roundw
          case rel => exact ⟨k + 1, by omega, by go_num, HR4, HB4⟩
          case measure => simp [intOf]; omega
        · obtain rfl : k = g := by omega
          have hd1 : decide ((k : Int) < (k : Int)) = false := by simp
          have hVt : V.take k = V := List.take_of_length_le (by rw [HG.out]; omega)
          rw [hVt] at HRK
          obtain ⟨wq, rfl⟩ : ∃ wq : World, wq = wr := ⟨_, rfl⟩
          have HGQ : Hid (∀ w', Below wq.heap.size wq w' → w'.rowIs GB 4 n (fun j => .bool (decide ((j : Int) ∈ V)))) := Lib.hid fun w' h => HRK.out.of_block (h.block GB (HRK.out.lt))
          have HLQ : Hid (∀ w', Below wq.heap.size wq w' → ∀ j, j < n → ∃ b o, la = some ⟨b, o, none⟩ ∧ w'.cell? ⟨b, o + j * 3 + 1, none⟩ = some (.int .u64 (f j).2.1) ∧ w'.cell? ⟨b, o + j * 3 + 2, none⟩ = some (.bool (f j).2.2)) := Lib.hid fun w' h => HCL.out w' (HB2.out.trans ((HBK.out.trans (h.mono HBK.out.size)).mono HB2.out.size))
          have HBF : Hid (Below w.heap.size w wq) := Lib.hid (HBP.out.trans ((HB2.out.trans (HBK.out.mono HB2.out.size)).mono HBP.out.size))
          clear HCL HCV HRK HBK hVt
          go_wp2_with fail
          go_loopw [17, 18] (fun iv _ wx => ∃ i : Nat, i ≤ n ∧ iv = .int .i64 i ∧ Hid (Below wq.heap.size wq wx)) (fun iv _ _ => n - (intOf iv).toNat)
          case atStart => exact ⟨0, by omega, rfl, Lib.hid (Below.refl _ _)⟩
          case round =>
            obtain ⟨i, hi, rfl, HBI⟩ := hrel
            by_cases hin : i < n
            · have hd2 : decide ((i : Int) < (n : Int)) = true := decide_eq_true (by omega)
              have hd2' : decide (i < n) = true := decide_eq_true hin
              have i0' : (0 : Int) ≤ (i : Int) := by omega
              have i1' : (i : Int) < (n : Int) := by omega
              go_wp2_with fail
              go_loopw [18] (fun kv wx => ∃ k : Nat, k ≤ n ∧ kv = .int .i64 k ∧ Hid (Below wq.heap.size wq wx)) (fun kv _ => n - (intOf kv).toNat)
              case atStart => exact ⟨0, by omega, rfl, HBI⟩
              case round =>
                obtain ⟨k, hkn', rfl, HBQ⟩ := hrel
                by_cases hkn : k < n
                · have hd3 : decide ((k : Int) < (n : Int)) = true := decide_eq_true (by omega)
                  have hd3' : decide (k < n) = true := decide_eq_true hkn
                  have k0' : (0 : Int) ≤ (k : Int) := by omega
                  have k1' : (k : Int) < (n : Int) := by omega
                  have cg := (HGQ.out wr HBQ.out).cell hin
                  by_cases hiV : (i : Int) ∈ V
                  focus
                    have d10 : decide ((i : Int) ∈ V) = true := decide_eq_true hiV
                    simp only [d10] at cg
                    by_cases hkV : (k : Int) ∈ V
                    focus
                      have d11 : decide ((k : Int) ∈ V) = true := decide_eq_true hkV
                      have hgk := fun w' h => (HGQ.out w' h).cell hkn
                      simp only [d11] at hgk
                      obtain ⟨C, hCi, hCo, hCC⟩ : ∃ C : World → Prop, C wr.drew ∧ (∀ w', C w' → Below wq.heap.size wq w') ∧ (∀ w', C w' → w'.cell? ⟨GB, k, none⟩ = some (.bool true)) :=
                        ⟨fun w' => Below wq.heap.size wq w', HBQ.out.drew, fun _ h => h, hgk⟩
                      have HCO := Lib.hid hCo
                      have HCC := Lib.hid hCC
                      clear hCo hCC hgk
                      go_upto_region 29 with fail
                      refine wp_region_cls C (by kernel_rfl) (by kernel_rfl) hCi ?_
                      with_reducible refine wpQuiet_step ?_
                      intro K hK
                      go_simp
                      first
                        | (with_reducible refine hK _ ?_)
                        | (with_reducible refine ⟨_, fun _ _ => rfl, hK _ ?_⟩)
                      clear hK K
                      try simp only [Act.put, List.setIfInBounds_toArray, List.set_cons_zero, List.set_cons_succ]
                      with_reducible refine wpQuiet_step ?_
                      intro K hK
                      go_simp
                      first
                        | (with_reducible refine hK _ ?_)
                        | (with_reducible refine ⟨_, fun _ _ => rfl, hK _ ?_⟩)
                      clear hK K
                      try simp only [Act.put, List.setIfInBounds_toArray, List.set_cons_zero, List.set_cons_succ]
                      with_reducible refine wpQuiet_step ?_
                      intro K hK
                      go_simp
                      first
                        | (with_reducible refine hK _ ?_)
                        | (with_reducible refine ⟨_, fun _ _ => rfl, hK _ ?_⟩)
                      clear hK K
                      try simp only [Act.put, List.setIfInBounds_toArray, List.set_cons_zero, List.set_cons_succ]
                      with_reducible refine wpQuiet_step ?_
                      intro K hK
                      refine qs_load_cell (by rfl) 4 _ rfl ⟨GB, k, none⟩ rfl (.bool true) (fun w hw => HCC.out w hw) Try.isAgg4 (hK _ ?_)
                      clear hK K
                      try simp only [Act.put, List.setIfInBounds_toArray, List.set_cons_zero, List.set_cons_succ]
                      with_reducible refine wpQuiet_step ?_
                      intro K hK
                      go_simp
                      first
                        | (with_reducible refine hK _ ?_)
                        | (with_reducible refine ⟨_, fun _ _ => rfl, hK _ ?_⟩)
                      clear hK K
                      try simp only [Act.put, List.setIfInBounds_toArray, List.set_cons_zero, List.set_cons_succ]
                      with_reducible refine wpQuiet_step ?_
                      intro K hK
                      go_simp
                      first
                        | (with_reducible refine hK _ ?_)
                        | (with_reducible refine ⟨_, fun _ _ => rfl, hK _ ?_⟩)
                      clear hK K
                      try simp only [Act.put, List.setIfInBounds_toArray, List.set_cons_zero, List.set_cons_succ]
                      with_reducible refine wpQuiet_step ?_
                      intro K hK
                      refine qs_skipA (by rfl) (hK _ ?_)
                      clear hK K
                      try simp only [Act.put, List.setIfInBounds_toArray, List.set_cons_zero, List.set_cons_succ]
                      with_reducible refine wpQuiet_step ?_
                      intro K hK
                      refine qs_skipA (by rfl) (hK _ ?_)
                      clear hK K
                      try simp only [Act.put, List.setIfInBounds_toArray, List.set_cons_zero, List.set_cons_succ]
                      with_reducible refine wpQuiet_step ?_
                      intro K hK
                      refine qs_skipA (by rfl) (hK _ ?_)
                      clear hK K
                      try simp only [Act.put, List.setIfInBounds_toArray, List.set_cons_zero, List.set_cons_succ]
                      with_reducible refine wpQuiet_step ?_
                      intro K hK
                      refine qs_skipA (by rfl) (hK _ ?_)
                      clear hK K
                      try simp only [Act.put, List.setIfInBounds_toArray, List.set_cons_zero, List.set_cons_succ]
                      with_reducible refine wpQuiet_step ?_
                      intro K hK
                      refine qs_skipA (by rfl) (hK _ ?_)
                      clear hK K
                      try simp only [Act.put, List.setIfInBounds_toArray, List.set_cons_zero, List.set_cons_succ]
                      with_reducible refine wpQuiet_step ?_
                      intro K hK
                      refine qs_skipA (by rfl) (hK _ ?_)
                      clear hK K
                      try simp only [Act.put, List.setIfInBounds_toArray, List.set_cons_zero, List.set_cons_succ]
                      with_reducible refine wpQuiet_step ?_
                      intro K hK
                      refine qs_skipA (by rfl) (hK _ ?_)
                      clear hK K
                      try simp only [Act.put, List.setIfInBounds_toArray, List.set_cons_zero, List.set_cons_succ]
                      with_reducible refine wpQuiet_step ?_
                      intro K hK
                      refine qs_skipA (by rfl) (hK _ ?_)
                      clear hK K
                      try simp only [Act.put, List.setIfInBounds_toArray, List.set_cons_zero, List.set_cons_succ]
                      with_reducible refine wpQuiet_step ?_
                      intro K hK
                      refine qs_skipA (by rfl) (hK _ ?_)
                      clear hK K
                      try simp only [Act.put, List.setIfInBounds_toArray, List.set_cons_zero, List.set_cons_succ]
                      with_reducible refine wpQuiet_step ?_
                      intro K hK
                      refine qs_skipA (by rfl) (hK _ ?_)
                      clear hK K
                      try simp only [Act.put, List.setIfInBounds_toArray, List.set_cons_zero, List.set_cons_succ]
                      with_reducible refine wpQuiet_step ?_
                      intro K hK
                      refine qs_skipA (by rfl) (hK _ ?_)
                      clear hK K
                      try simp only [Act.put, List.setIfInBounds_toArray, List.set_cons_zero, List.set_cons_succ]
                      with_reducible refine wpQuiet_step ?_
                      intro K hK
                      refine qs_skipA (by rfl) (hK _ ?_)
                      clear hK K
                      try simp only [Act.put, List.setIfInBounds_toArray, List.set_cons_zero, List.set_cons_succ]
                      with_reducible refine wpQuiet_step ?_
                      intro K hK
                      refine qs_skipA (by rfl) (hK _ ?_)
                      clear hK K
                      try simp only [Act.put, List.setIfInBounds_toArray, List.set_cons_zero, List.set_cons_succ]
                      with_reducible refine wpQuiet_step ?_
                      intro K hK
                      refine qs_skipA (by rfl) (hK _ ?_)
                      clear hK K
                      try simp only [Act.put, List.setIfInBounds_toArray, List.set_cons_zero, List.set_cons_succ]
                      with_reducible refine wpQuiet_step ?_
                      intro K hK
                      refine qs_skipA (by rfl) (hK _ ?_)
                      clear hK K
                      try simp only [Act.put, List.setIfInBounds_toArray, List.set_cons_zero, List.set_cons_succ]
                      with_reducible refine wpQuiet_step ?_
                      intro K hK
                      refine qs_skipA (by rfl) (hK _ ?_)
                      clear hK K
                      try simp only [Act.put, List.setIfInBounds_toArray, List.set_cons_zero, List.set_cons_succ]
                      with_reducible refine wpQuiet_step ?_
                      intro K hK
                      refine qs_skipA (by rfl) (hK _ ?_)
                      clear hK K
                      try simp only [Act.put, List.setIfInBounds_toArray, List.set_cons_zero, List.set_cons_succ]
                      with_reducible refine wpQuiet_step ?_
                      intro K hK
                      refine qs_skipA (by rfl) (hK _ ?_)
                      clear hK K
                      try simp only [Act.put, List.setIfInBounds_toArray, List.set_cons_zero, List.set_cons_succ]
                      with_reducible refine wpQuiet_step ?_
                      intro K hK
                      refine qs_skipA (by rfl) (hK _ ?_)
                      clear hK K
                      try simp only [Act.put, List.setIfInBounds_toArray, List.set_cons_zero, List.set_cons_succ]
                      with_reducible refine wpQuiet_step ?_
                      intro K hK
                      refine qs_skipA (by rfl) (hK _ ?_)
                      clear hK K
                      try simp only [Act.put, List.setIfInBounds_toArray, List.set_cons_zero, List.set_cons_succ]
                      with_reducible refine wpQuiet_step ?_
                      intro K hK
                      refine qs_skipA (by rfl) (hK _ ?_)
                      clear hK K
                      try simp only [Act.put, List.setIfInBounds_toArray, List.set_cons_zero, List.set_cons_succ]
                      with_reducible refine wpQuiet_step ?_
                      intro K hK
                      refine qs_skipA (by rfl) (hK _ ?_)
                      clear hK K
                      try simp only [Act.put, List.setIfInBounds_toArray, List.set_cons_zero, List.set_cons_succ]
                      with_reducible refine wpQuiet_step ?_
                      intro K hK
                      refine qs_skipA (by rfl) (hK _ ?_)
                      clear hK K
                      try simp only [Act.put, List.setIfInBounds_toArray, List.set_cons_zero, List.set_cons_succ]
                      with_reducible refine wpQuiet_step ?_
                      intro K hK
                      refine qs_skipA (by rfl) (hK _ ?_)
                      clear hK K
                      try simp only [Act.put, List.setIfInBounds_toArray, List.set_cons_zero, List.set_cons_succ]
                      with_reducible refine wpQuiet_step ?_
                      intro K hK
                      refine qs_skipA (by rfl) (hK _ ?_)
                      clear hK K
                      try simp only [Act.put, List.setIfInBounds_toArray, List.set_cons_zero, List.set_cons_succ]
                      with_reducible refine wpQuiet_step ?_
                      intro K hK
                      refine qs_skipA (by rfl) (hK _ ?_)
                      clear hK K
                      try simp only [Act.put, List.setIfInBounds_toArray, List.set_cons_zero, List.set_cons_succ]
                      with_reducible refine wpQuiet_step ?_
                      intro K hK
                      refine qs_skipA (by rfl) (hK _ ?_)
                      clear hK K
                      try simp only [Act.put, List.setIfInBounds_toArray, List.set_cons_zero, List.set_cons_succ]
                      with_reducible refine wpQuiet_step ?_
                      intro K hK
                      refine qs_skipA (by rfl) (hK _ ?_)
                      clear hK K
                      try simp only [Act.put, List.setIfInBounds_toArray, List.set_cons_zero, List.set_cons_succ]
                      with_reducible refine wpQuiet_step ?_
                      intro K hK
                      refine qs_skipA (by rfl) (hK _ ?_)
                      clear hK K
                      try simp only [Act.put, List.setIfInBounds_toArray, List.set_cons_zero, List.set_cons_succ]
                      with_reducible refine wpQuiet_step ?_
                      intro K hK
                      refine qs_skipA (by rfl) (hK _ ?_)
                      clear hK K
                      try simp only [Act.put, List.setIfInBounds_toArray, List.set_cons_zero, List.set_cons_succ]
                      with_reducible refine wpQuiet_step ?_
                      intro K hK
                      refine qs_skipA (by rfl) (hK _ ?_)
                      clear hK K
                      try simp only [Act.put, List.setIfInBounds_toArray, List.set_cons_zero, List.set_cons_succ]
                      with_reducible refine wpQuiet_step ?_
                      intro K hK
                      refine qs_skipA (by rfl) (hK _ ?_)
                      clear hK K
                      try simp only [Act.put, List.setIfInBounds_toArray, List.set_cons_zero, List.set_cons_succ]
                      with_reducible refine wpQuiet_step ?_
                      intro K hK
                      refine qs_skipA (by rfl) (hK _ ?_)
                      clear hK K
                      try simp only [Act.put, List.setIfInBounds_toArray, List.set_cons_zero, List.set_cons_succ]
                      with_reducible refine wpQuiet_step ?_
                      intro K hK
                      refine qs_skipA (by rfl) (hK _ ?_)
                      clear hK K
                      try simp only [Act.put, List.setIfInBounds_toArray, List.set_cons_zero, List.set_cons_succ]
                      with_reducible refine wpQuiet_step ?_
                      intro K hK
                      refine qs_skipA (by rfl) (hK _ ?_)
                      clear hK K
                      try simp only [Act.put, List.setIfInBounds_toArray, List.set_cons_zero, List.set_cons_succ]
                      with_reducible refine wpQuiet_step ?_
                      intro K hK
                      refine qs_skipA (by rfl) (hK _ ?_)
                      clear hK K
                      try simp only [Act.put, List.setIfInBounds_toArray, List.set_cons_zero, List.set_cons_succ]
                      with_reducible refine wpQuiet_step ?_
                      intro K hK
                      refine qs_skipA (by rfl) (hK _ ?_)
                      clear hK K
                      try simp only [Act.put, List.setIfInBounds_toArray, List.set_cons_zero, List.set_cons_succ]
                      with_reducible refine wpQuiet_step ?_
                      intro K hK
                      refine qs_skipA (by rfl) (hK _ ?_)
                      clear hK K
                      try simp only [Act.put, List.setIfInBounds_toArray, List.set_cons_zero, List.set_cons_succ]
                      with_reducible refine wpQuiet_step ?_
                      intro K hK
                      refine qs_skipA (by rfl) (hK _ ?_)
                      clear hK K
                      try simp only [Act.put, List.setIfInBounds_toArray, List.set_cons_zero, List.set_cons_succ]
                      with_reducible refine wpQuiet_step ?_
                      intro K hK
                      go_simp
                      first
                        | (with_reducible refine hK _ ?_)
                        | (with_reducible refine ⟨_, fun _ _ => rfl, hK _ ?_⟩)
                      clear hK K
                      try simp only [Act.put, List.setIfInBounds_toArray, List.set_cons_zero, List.set_cons_succ]
                      refine wpQuiet_nil ?_
                      intro w8 hC8
                      have HX8 := Lib.hid (HCO.out _ hC8)
                      clear hC8 hCi HCO HCC
                      go_wp2
                      go_roundw
                      case rel => exact ⟨k + 1, by omega, by go_num, HX8⟩
                      case measure => simp [intOf]; omega
                    have d11 : decide ((k : Int) ∈ V) = false := decide_eq_false hkV
                    have hgk := fun w' h => (HGQ.out w' h).cell hkn
                    simp only [d11] at hgk
                    obtain ⟨lb, lo, rfl, _⟩ := HLQ.out wr HBQ.out k hkn
                    have HALL : Hid (∀ w', Below wq.heap.size wq w' → w'.cell? ⟨GB, k, none⟩ = some (.bool false) ∧ w'.cell? ⟨lb, lo + k * 3 + 2, none⟩ = some (.bool (f k).2.2) ∧ w'.cell? ⟨lb, lo + i * 3 + 2, none⟩ = some (.bool (f i).2.2) ∧ w'.cell? ⟨lb, lo + k * 3 + 1, none⟩ = some (.int .u64 (f k).2.1) ∧ w'.cell? ⟨lb, lo + i * 3 + 1, none⟩ = some (.int .u64 (f i).2.1)) := Lib.hid fun w' h => by
                      obtain ⟨_, _, x1, x2, x3⟩ := HLQ.out w' h k hkn
                      obtain ⟨_, _, y1, y2, y3⟩ := HLQ.out w' h i hin
                      simp only [Option.some.injEq, Addr.mk.injEq, and_true] at x1 y1
                      obtain ⟨rfl, rfl⟩ := x1
                      obtain ⟨rfl, rfl⟩ := y1
                      exact ⟨hgk w' h, x3, y3, x2, y2⟩
                    obtain ⟨hn1, hn2⟩ := HBAD.out i hin k hkn hiV hkV
                    clear hgk
                    generalize (f k).2.1 = rk at *
                    generalize (f i).2.1 = ri at *
                    generalize (f k).2.2 = ek at *
                    generalize (f i).2.2 = ei at *
                    cases ek <;> cases ei
                    · have d12 : decide (rk < ri) = false := decide_eq_false fun h => hn2 ⟨rfl, h⟩
                      obtain ⟨C, hCi, hCo, hCC⟩ : ∃ C : World → Prop, C wr.drew ∧ (∀ w', C w' → Below wq.heap.size wq w') ∧ (∀ w', C w' → w'.cell? ⟨GB, k, none⟩ = some (.bool false) ∧ w'.cell? ⟨lb, lo + k * 3 + 2, none⟩ = some (.bool false) ∧ w'.cell? ⟨lb, lo + i * 3 + 2, none⟩ = some (.bool false) ∧ w'.cell? ⟨lb, lo + k * 3 + 1, none⟩ = some (.int .u64 rk) ∧ w'.cell? ⟨lb, lo + i * 3 + 1, none⟩ = some (.int .u64 ri)) :=
                        ⟨fun w' => Below wq.heap.size wq w', HBQ.out.drew, fun _ h => h, HALL.out⟩
                      have HCO := Lib.hid hCo
                      have HCC := Lib.hid hCC
                      clear hCo hCC HALL
                      go_upto_region 29 with fail
                      refine wp_region_cls C (by kernel_rfl) (by kernel_rfl) hCi ?_
                      with_reducible refine wpQuiet_step ?_
                      intro K hK
                      go_simp
                      first
                        | (with_reducible refine hK _ ?_)
                        | (with_reducible refine ⟨_, fun _ _ => rfl, hK _ ?_⟩)
                      clear hK K
                      try simp only [Act.put, List.setIfInBounds_toArray, List.set_cons_zero, List.set_cons_succ]
                      with_reducible refine wpQuiet_step ?_
                      intro K hK
                      go_simp
                      first
                        | (with_reducible refine hK _ ?_)
                        | (with_reducible refine ⟨_, fun _ _ => rfl, hK _ ?_⟩)
                      clear hK K
                      try simp only [Act.put, List.setIfInBounds_toArray, List.set_cons_zero, List.set_cons_succ]
                      with_reducible refine wpQuiet_step ?_
                      intro K hK
                      go_simp
                      first
                        | (with_reducible refine hK _ ?_)
                        | (with_reducible refine ⟨_, fun _ _ => rfl, hK _ ?_⟩)
                      clear hK K
                      try simp only [Act.put, List.setIfInBounds_toArray, List.set_cons_zero, List.set_cons_succ]
                      with_reducible refine wpQuiet_step ?_
                      intro K hK
                      refine qs_load_cell (by rfl) 4 _ rfl ⟨GB, k, none⟩ rfl (.bool false) (fun w hw => (HCC.out w hw).1) Try.isAgg4 (hK _ ?_)
                      clear hK K
                      try simp only [Act.put, List.setIfInBounds_toArray, List.set_cons_zero, List.set_cons_succ]
                      with_reducible refine wpQuiet_step ?_
                      intro K hK
                      go_simp
                      first
                        | (with_reducible refine hK _ ?_)
                        | (with_reducible refine ⟨_, fun _ _ => rfl, hK _ ?_⟩)
                      clear hK K
                      try simp only [Act.put, List.setIfInBounds_toArray, List.set_cons_zero, List.set_cons_succ]
                      with_reducible refine wpQuiet_step ?_
                      intro K hK
                      go_simp
                      first
                        | (with_reducible refine hK _ ?_)
                        | (with_reducible refine ⟨_, fun _ _ => rfl, hK _ ?_⟩)
                      clear hK K
                      try simp only [Act.put, List.setIfInBounds_toArray, List.set_cons_zero, List.set_cons_succ]
                      with_reducible refine wpQuiet_step ?_
                      intro K hK
                      go_simp
                      first
                        | (with_reducible refine hK _ ?_)
                        | (with_reducible refine ⟨_, fun _ _ => rfl, hK _ ?_⟩)
                      clear hK K
                      try simp only [Act.put, List.setIfInBounds_toArray, List.set_cons_zero, List.set_cons_succ]
                      with_reducible refine wpQuiet_step ?_
                      intro K hK
                      go_simp
                      first
                        | (with_reducible refine hK _ ?_)
                        | (with_reducible refine ⟨_, fun _ _ => rfl, hK _ ?_⟩)
                      clear hK K
                      try simp only [Act.put, List.setIfInBounds_toArray, List.set_cons_zero, List.set_cons_succ]
                      with_reducible refine wpQuiet_step ?_
                      intro K hK
                      go_simp
                      first
                        | (with_reducible refine hK _ ?_)
                        | (with_reducible refine ⟨_, fun _ _ => rfl, hK _ ?_⟩)
                      clear hK K
                      try simp only [Act.put, List.setIfInBounds_toArray, List.set_cons_zero, List.set_cons_succ]
                      with_reducible refine wpQuiet_step ?_
                      intro K hK
                      go_simp
                      first
                        | (with_reducible refine hK _ ?_)
                        | (with_reducible refine ⟨_, fun _ _ => rfl, hK _ ?_⟩)
                      clear hK K
                      try simp only [Act.put, List.setIfInBounds_toArray, List.set_cons_zero, List.set_cons_succ]
                      with_reducible refine wpQuiet_step ?_
                      intro K hK
                      refine qs_load_cell (by rfl) 4 _ rfl ⟨lb, lo + k * 3 + 2, none⟩ rfl (.bool false) (fun w hw => (HCC.out w hw).2.1) Try.isAgg4 (hK _ ?_)
                      clear hK K
                      try simp only [Act.put, List.setIfInBounds_toArray, List.set_cons_zero, List.set_cons_succ]
                      with_reducible refine wpQuiet_step ?_
                      intro K hK
                      go_simp
                      first
                        | (with_reducible refine hK _ ?_)
                        | (with_reducible refine ⟨_, fun _ _ => rfl, hK _ ?_⟩)
                      clear hK K
                      try simp only [Act.put, List.setIfInBounds_toArray, List.set_cons_zero, List.set_cons_succ]
                      with_reducible refine wpQuiet_step ?_
                      intro K hK
                      refine qs_skipA (by rfl) (hK _ ?_)
                      clear hK K
                      try simp only [Act.put, List.setIfInBounds_toArray, List.set_cons_zero, List.set_cons_succ]
                      with_reducible refine wpQuiet_step ?_
                      intro K hK
                      refine qs_skipA (by rfl) (hK _ ?_)
                      clear hK K
                      try simp only [Act.put, List.setIfInBounds_toArray, List.set_cons_zero, List.set_cons_succ]
                      with_reducible refine wpQuiet_step ?_
                      intro K hK
                      refine qs_skipA (by rfl) (hK _ ?_)
                      clear hK K
                      try simp only [Act.put, List.setIfInBounds_toArray, List.set_cons_zero, List.set_cons_succ]
                      with_reducible refine wpQuiet_step ?_
                      intro K hK
                      refine qs_skipA (by rfl) (hK _ ?_)
                      clear hK K
                      try simp only [Act.put, List.setIfInBounds_toArray, List.set_cons_zero, List.set_cons_succ]
                      with_reducible refine wpQuiet_step ?_
                      intro K hK
                      refine qs_skipA (by rfl) (hK _ ?_)
                      clear hK K
                      try simp only [Act.put, List.setIfInBounds_toArray, List.set_cons_zero, List.set_cons_succ]
                      with_reducible refine wpQuiet_step ?_
                      intro K hK
                      refine qs_skipA (by rfl) (hK _ ?_)
                      clear hK K
                      try simp only [Act.put, List.setIfInBounds_toArray, List.set_cons_zero, List.set_cons_succ]
                      with_reducible refine wpQuiet_step ?_
                      intro K hK
                      go_simp
                      first
                        | (with_reducible refine hK _ ?_)
                        | (with_reducible refine ⟨_, fun _ _ => rfl, hK _ ?_⟩)
                      clear hK K
                      try simp only [Act.put, List.setIfInBounds_toArray, List.set_cons_zero, List.set_cons_succ]
                      with_reducible refine wpQuiet_step ?_
                      intro K hK
                      go_simp
                      first
                        | (with_reducible refine hK _ ?_)
                        | (with_reducible refine ⟨_, fun _ _ => rfl, hK _ ?_⟩)
                      clear hK K
                      try simp only [Act.put, List.setIfInBounds_toArray, List.set_cons_zero, List.set_cons_succ]
                      with_reducible refine wpQuiet_step ?_
                      intro K hK
                      go_simp
                      first
                        | (with_reducible refine hK _ ?_)
                        | (with_reducible refine ⟨_, fun _ _ => rfl, hK _ ?_⟩)
                      clear hK K
                      try simp only [Act.put, List.setIfInBounds_toArray, List.set_cons_zero, List.set_cons_succ]
                      with_reducible refine wpQuiet_step ?_
                      intro K hK
                      go_simp
                      first
                        | (with_reducible refine hK _ ?_)
                        | (with_reducible refine ⟨_, fun _ _ => rfl, hK _ ?_⟩)
                      clear hK K
                      try simp only [Act.put, List.setIfInBounds_toArray, List.set_cons_zero, List.set_cons_succ]
                      with_reducible refine wpQuiet_step ?_
                      intro K hK
                      go_simp
                      first
                        | (with_reducible refine hK _ ?_)
                        | (with_reducible refine ⟨_, fun _ _ => rfl, hK _ ?_⟩)
                      clear hK K
                      try simp only [Act.put, List.setIfInBounds_toArray, List.set_cons_zero, List.set_cons_succ]
                      with_reducible refine wpQuiet_step ?_
                      intro K hK
                      go_simp
                      first
                        | (with_reducible refine hK _ ?_)
                        | (with_reducible refine ⟨_, fun _ _ => rfl, hK _ ?_⟩)
                      clear hK K
                      try simp only [Act.put, List.setIfInBounds_toArray, List.set_cons_zero, List.set_cons_succ]
                      with_reducible refine wpQuiet_step ?_
                      intro K hK
                      refine qs_load_cell (by rfl) 4 _ rfl ⟨lb, lo + k * 3 + 2, none⟩ rfl (.bool false) (fun w hw => (HCC.out w hw).2.1) Try.isAgg4 (hK _ ?_)
                      clear hK K
                      try simp only [Act.put, List.setIfInBounds_toArray, List.set_cons_zero, List.set_cons_succ]
                      with_reducible refine wpQuiet_step ?_
                      intro K hK
                      go_simp
                      first
                        | (with_reducible refine hK _ ?_)
                        | (with_reducible refine ⟨_, fun _ _ => rfl, hK _ ?_⟩)
                      clear hK K
                      try simp only [Act.put, List.setIfInBounds_toArray, List.set_cons_zero, List.set_cons_succ]
                      with_reducible refine wpQuiet_step ?_
                      intro K hK
                      go_simp
                      first
                        | (with_reducible refine hK _ ?_)
                        | (with_reducible refine ⟨_, fun _ _ => rfl, hK _ ?_⟩)
                      clear hK K
                      try simp only [Act.put, List.setIfInBounds_toArray, List.set_cons_zero, List.set_cons_succ]
                      with_reducible refine wpQuiet_step ?_
                      intro K hK
                      go_simp
                      first
                        | (with_reducible refine hK _ ?_)
                        | (with_reducible refine ⟨_, fun _ _ => rfl, hK _ ?_⟩)
                      clear hK K
                      try simp only [Act.put, List.setIfInBounds_toArray, List.set_cons_zero, List.set_cons_succ]
                      with_reducible refine wpQuiet_step ?_
                      intro K hK
                      go_simp
                      first
                        | (with_reducible refine hK _ ?_)
                        | (with_reducible refine ⟨_, fun _ _ => rfl, hK _ ?_⟩)
                      clear hK K
                      try simp only [Act.put, List.setIfInBounds_toArray, List.set_cons_zero, List.set_cons_succ]
                      with_reducible refine wpQuiet_step ?_
                      intro K hK
                      refine qs_load_cell (by rfl) 4 _ rfl ⟨lb, lo + i * 3 + 2, none⟩ rfl (.bool false) (fun w hw => (HCC.out w hw).2.2.1) Try.isAgg4 (hK _ ?_)
                      clear hK K
                      try simp only [Act.put, List.setIfInBounds_toArray, List.set_cons_zero, List.set_cons_succ]
                      with_reducible refine wpQuiet_step ?_
                      intro K hK
                      go_simp
                      first
                        | (with_reducible refine hK _ ?_)
                        | (with_reducible refine ⟨_, fun _ _ => rfl, hK _ ?_⟩)
                      clear hK K
                      try simp only [Act.put, List.setIfInBounds_toArray, List.set_cons_zero, List.set_cons_succ]
                      with_reducible refine wpQuiet_step ?_
                      intro K hK
                      go_simp
                      first
                        | (with_reducible refine hK _ ?_)
                        | (with_reducible refine ⟨_, fun _ _ => rfl, hK _ ?_⟩)
                      clear hK K
                      try simp only [Act.put, List.setIfInBounds_toArray, List.set_cons_zero, List.set_cons_succ]
                      with_reducible refine wpQuiet_step ?_
                      intro K hK
                      go_simp
                      first
                        | (with_reducible refine hK _ ?_)
                        | (with_reducible refine ⟨_, fun _ _ => rfl, hK _ ?_⟩)
                      clear hK K
                      try simp only [Act.put, List.setIfInBounds_toArray, List.set_cons_zero, List.set_cons_succ]
                      with_reducible refine wpQuiet_step ?_
                      intro K hK
                      go_simp
                      first
                        | (with_reducible refine hK _ ?_)
                        | (with_reducible refine ⟨_, fun _ _ => rfl, hK _ ?_⟩)
                      clear hK K
                      try simp only [Act.put, List.setIfInBounds_toArray, List.set_cons_zero, List.set_cons_succ]
                      with_reducible refine wpQuiet_step ?_
                      intro K hK
                      go_simp
                      first
                        | (with_reducible refine hK _ ?_)
                        | (with_reducible refine ⟨_, fun _ _ => rfl, hK _ ?_⟩)
                      clear hK K
                      try simp only [Act.put, List.setIfInBounds_toArray, List.set_cons_zero, List.set_cons_succ]
                      with_reducible refine wpQuiet_step ?_
                      intro K hK
                      go_simp
                      first
                        | (with_reducible refine hK _ ?_)
                        | (with_reducible refine ⟨_, fun _ _ => rfl, hK _ ?_⟩)
                      clear hK K
                      try simp only [Act.put, List.setIfInBounds_toArray, List.set_cons_zero, List.set_cons_succ]
                      with_reducible refine wpQuiet_step ?_
                      intro K hK
                      refine qs_load_cell (by rfl) 26 _ rfl ⟨lb, lo + k * 3 + 1, none⟩ rfl (.int .u64 rk) (fun w hw => (HCC.out w hw).2.2.2.1) Try.isAgg26 (hK _ ?_)
                      clear hK K
                      try simp only [Act.put, List.setIfInBounds_toArray, List.set_cons_zero, List.set_cons_succ]
                      with_reducible refine wpQuiet_step ?_
                      intro K hK
                      go_simp
                      first
                        | (with_reducible refine hK _ ?_)
                        | (with_reducible refine ⟨_, fun _ _ => rfl, hK _ ?_⟩)
                      clear hK K
                      try simp only [Act.put, List.setIfInBounds_toArray, List.set_cons_zero, List.set_cons_succ]
                      with_reducible refine wpQuiet_step ?_
                      intro K hK
                      go_simp
                      first
                        | (with_reducible refine hK _ ?_)
                        | (with_reducible refine ⟨_, fun _ _ => rfl, hK _ ?_⟩)
                      clear hK K
                      try simp only [Act.put, List.setIfInBounds_toArray, List.set_cons_zero, List.set_cons_succ]
                      with_reducible refine wpQuiet_step ?_
                      intro K hK
                      go_simp
                      first
                        | (with_reducible refine hK _ ?_)
                        | (with_reducible refine ⟨_, fun _ _ => rfl, hK _ ?_⟩)
                      clear hK K
                      try simp only [Act.put, List.setIfInBounds_toArray, List.set_cons_zero, List.set_cons_succ]
                      with_reducible refine wpQuiet_step ?_
                      intro K hK
                      go_simp
                      first
                        | (with_reducible refine hK _ ?_)
                        | (with_reducible refine ⟨_, fun _ _ => rfl, hK _ ?_⟩)
                      clear hK K
                      try simp only [Act.put, List.setIfInBounds_toArray, List.set_cons_zero, List.set_cons_succ]
                      with_reducible refine wpQuiet_step ?_
                      intro K hK
                      refine qs_load_cell (by rfl) 26 _ rfl ⟨lb, lo + i * 3 + 1, none⟩ rfl (.int .u64 ri) (fun w hw => (HCC.out w hw).2.2.2.2) Try.isAgg26 (hK _ ?_)
                      clear hK K
                      try simp only [Act.put, List.setIfInBounds_toArray, List.set_cons_zero, List.set_cons_succ]
                      with_reducible refine wpQuiet_step ?_
                      intro K hK
                      go_simp
                      first
                        | (with_reducible refine hK _ ?_)
                        | (with_reducible refine ⟨_, fun _ _ => rfl, hK _ ?_⟩)
                      clear hK K
                      try simp only [Act.put, List.setIfInBounds_toArray, List.set_cons_zero, List.set_cons_succ]
                      with_reducible refine wpQuiet_step ?_
                      intro K hK
                      go_simp
                      first
                        | (with_reducible refine hK _ ?_)
                        | (with_reducible refine ⟨_, fun _ _ => rfl, hK _ ?_⟩)
                      clear hK K
                      try simp only [Act.put, List.setIfInBounds_toArray, List.set_cons_zero, List.set_cons_succ]
                      with_reducible refine wpQuiet_step ?_
                      intro K hK
                      go_simp
                      first
                        | (with_reducible refine hK _ ?_)
                        | (with_reducible refine ⟨_, fun _ _ => rfl, hK _ ?_⟩)
                      clear hK K
                      try simp only [Act.put, List.setIfInBounds_toArray, List.set_cons_zero, List.set_cons_succ]
                      with_reducible refine wpQuiet_step ?_
                      intro K hK
                      go_simp
                      first
                        | (with_reducible refine hK _ ?_)
                        | (with_reducible refine ⟨_, fun _ _ => rfl, hK _ ?_⟩)
                      clear hK K
                      try simp only [Act.put, List.setIfInBounds_toArray, List.set_cons_zero, List.set_cons_succ]
                      refine wpQuiet_nil ?_
                      intro w8 hC8
                      have HX8 := Lib.hid (HCO.out _ hC8)
                      clear hC8 hCi HCO HCC
                      go_wp2
                      go_roundw
                      case rel => exact ⟨k + 1, by omega, by go_num, HX8⟩
                      case measure => simp [intOf]; omega
                    · skip
                      obtain ⟨C, hCi, hCo, hCC⟩ : ∃ C : World → Prop, C wr.drew ∧ (∀ w', C w' → Below wq.heap.size wq w') ∧ (∀ w', C w' → w'.cell? ⟨GB, k, none⟩ = some (.bool false) ∧ w'.cell? ⟨lb, lo + k * 3 + 2, none⟩ = some (.bool false) ∧ w'.cell? ⟨lb, lo + i * 3 + 2, none⟩ = some (.bool true) ∧ w'.cell? ⟨lb, lo + k * 3 + 1, none⟩ = some (.int .u64 rk) ∧ w'.cell? ⟨lb, lo + i * 3 + 1, none⟩ = some (.int .u64 ri)) :=
                        ⟨fun w' => Below wq.heap.size wq w', HBQ.out.drew, fun _ h => h, HALL.out⟩
                      have HCO := Lib.hid hCo
                      have HCC := Lib.hid hCC
                      clear hCo hCC HALL
                      go_upto_region 29 with fail
                      refine wp_region_cls C (by kernel_rfl) (by kernel_rfl) hCi ?_
                      with_reducible refine wpQuiet_step ?_
                      intro K hK
                      go_simp
                      first
                        | (with_reducible refine hK _ ?_)
                        | (with_reducible refine ⟨_, fun _ _ => rfl, hK _ ?_⟩)
                      clear hK K
                      try simp only [Act.put, List.setIfInBounds_toArray, List.set_cons_zero, List.set_cons_succ]
                      with_reducible refine wpQuiet_step ?_
                      intro K hK
                      go_simp
                      first
                        | (with_reducible refine hK _ ?_)
                        | (with_reducible refine ⟨_, fun _ _ => rfl, hK _ ?_⟩)
                      clear hK K
                      try simp only [Act.put, List.setIfInBounds_toArray, List.set_cons_zero, List.set_cons_succ]
                      with_reducible refine wpQuiet_step ?_
                      intro K hK
                      go_simp
                      first
                        | (with_reducible refine hK _ ?_)
                        | (with_reducible refine ⟨_, fun _ _ => rfl, hK _ ?_⟩)
                      clear hK K
                      try simp only [Act.put, List.setIfInBounds_toArray, List.set_cons_zero, List.set_cons_succ]
                      with_reducible refine wpQuiet_step ?_
                      intro K hK
                      refine qs_load_cell (by rfl) 4 _ rfl ⟨GB, k, none⟩ rfl (.bool false) (fun w hw => (HCC.out w hw).1) Try.isAgg4 (hK _ ?_)
                      clear hK K
                      try simp only [Act.put, List.setIfInBounds_toArray, List.set_cons_zero, List.set_cons_succ]
                      with_reducible refine wpQuiet_step ?_
                      intro K hK
                      go_simp
                      first
                        | (with_reducible refine hK _ ?_)
                        | (with_reducible refine ⟨_, fun _ _ => rfl, hK _ ?_⟩)
                      clear hK K
                      try simp only [Act.put, List.setIfInBounds_toArray, List.set_cons_zero, List.set_cons_succ]
                      with_reducible refine wpQuiet_step ?_
                      intro K hK
                      go_simp
                      first
                        | (with_reducible refine hK _ ?_)
                        | (with_reducible refine ⟨_, fun _ _ => rfl, hK _ ?_⟩)
                      clear hK K
                      try simp only [Act.put, List.setIfInBounds_toArray, List.set_cons_zero, List.set_cons_succ]
                      with_reducible refine wpQuiet_step ?_
                      intro K hK
                      go_simp
                      first
                        | (with_reducible refine hK _ ?_)
                        | (with_reducible refine ⟨_, fun _ _ => rfl, hK _ ?_⟩)
                      clear hK K
                      try simp only [Act.put, List.setIfInBounds_toArray, List.set_cons_zero, List.set_cons_succ]
                      with_reducible refine wpQuiet_step ?_
                      intro K hK
                      go_simp
                      first
                        | (with_reducible refine hK _ ?_)
                        | (with_reducible refine ⟨_, fun _ _ => rfl, hK _ ?_⟩)
                      clear hK K
                      try simp only [Act.put, List.setIfInBounds_toArray, List.set_cons_zero, List.set_cons_succ]
                      with_reducible refine wpQuiet_step ?_
                      intro K hK
                      go_simp
                      first
                        | (with_reducible refine hK _ ?_)
                        | (with_reducible refine ⟨_, fun _ _ => rfl, hK _ ?_⟩)
                      clear hK K
                      try simp only [Act.put, List.setIfInBounds_toArray, List.set_cons_zero, List.set_cons_succ]
                      with_reducible refine wpQuiet_step ?_
                      intro K hK
                      go_simp
                      first
                        | (with_reducible refine hK _ ?_)
                        | (with_reducible refine ⟨_, fun _ _ => rfl, hK _ ?_⟩)
                      clear hK K
                      try simp only [Act.put, List.setIfInBounds_toArray, List.set_cons_zero, List.set_cons_succ]
                      with_reducible refine wpQuiet_step ?_
                      intro K hK
                      refine qs_load_cell (by rfl) 4 _ rfl ⟨lb, lo + k * 3 + 2, none⟩ rfl (.bool false) (fun w hw => (HCC.out w hw).2.1) Try.isAgg4 (hK _ ?_)
                      clear hK K
                      try simp only [Act.put, List.setIfInBounds_toArray, List.set_cons_zero, List.set_cons_succ]
                      with_reducible refine wpQuiet_step ?_
                      intro K hK
                      go_simp
                      first
                        | (with_reducible refine hK _ ?_)
                        | (with_reducible refine ⟨_, fun _ _ => rfl, hK _ ?_⟩)
                      clear hK K
                      try simp only [Act.put, List.setIfInBounds_toArray, List.set_cons_zero, List.set_cons_succ]
                      with_reducible refine wpQuiet_step ?_
                      intro K hK
                      refine qs_skipA (by rfl) (hK _ ?_)
                      clear hK K
                      try simp only [Act.put, List.setIfInBounds_toArray, List.set_cons_zero, List.set_cons_succ]
                      with_reducible refine wpQuiet_step ?_
                      intro K hK
                      refine qs_skipA (by rfl) (hK _ ?_)
                      clear hK K
                      try simp only [Act.put, List.setIfInBounds_toArray, List.set_cons_zero, List.set_cons_succ]
                      with_reducible refine wpQuiet_step ?_
                      intro K hK
                      refine qs_skipA (by rfl) (hK _ ?_)
                      clear hK K
                      try simp only [Act.put, List.setIfInBounds_toArray, List.set_cons_zero, List.set_cons_succ]
                      with_reducible refine wpQuiet_step ?_
                      intro K hK
                      refine qs_skipA (by rfl) (hK _ ?_)
                      clear hK K
                      try simp only [Act.put, List.setIfInBounds_toArray, List.set_cons_zero, List.set_cons_succ]
                      with_reducible refine wpQuiet_step ?_
                      intro K hK
                      refine qs_skipA (by rfl) (hK _ ?_)
                      clear hK K
                      try simp only [Act.put, List.setIfInBounds_toArray, List.set_cons_zero, List.set_cons_succ]
                      with_reducible refine wpQuiet_step ?_
                      intro K hK
                      refine qs_skipA (by rfl) (hK _ ?_)
                      clear hK K
                      try simp only [Act.put, List.setIfInBounds_toArray, List.set_cons_zero, List.set_cons_succ]
                      with_reducible refine wpQuiet_step ?_
                      intro K hK
                      go_simp
                      first
                        | (with_reducible refine hK _ ?_)
                        | (with_reducible refine ⟨_, fun _ _ => rfl, hK _ ?_⟩)
                      clear hK K
                      try simp only [Act.put, List.setIfInBounds_toArray, List.set_cons_zero, List.set_cons_succ]
                      with_reducible refine wpQuiet_step ?_
                      intro K hK
                      go_simp
                      first
                        | (with_reducible refine hK _ ?_)
                        | (with_reducible refine ⟨_, fun _ _ => rfl, hK _ ?_⟩)
                      clear hK K
                      try simp only [Act.put, List.setIfInBounds_toArray, List.set_cons_zero, List.set_cons_succ]
                      with_reducible refine wpQuiet_step ?_
                      intro K hK
                      go_simp
                      first
                        | (with_reducible refine hK _ ?_)
                        | (with_reducible refine ⟨_, fun _ _ => rfl, hK _ ?_⟩)
                      clear hK K
                      try simp only [Act.put, List.setIfInBounds_toArray, List.set_cons_zero, List.set_cons_succ]
                      with_reducible refine wpQuiet_step ?_
                      intro K hK
                      go_simp
                      first
                        | (with_reducible refine hK _ ?_)
                        | (with_reducible refine ⟨_, fun _ _ => rfl, hK _ ?_⟩)
                      clear hK K
                      try simp only [Act.put, List.setIfInBounds_toArray, List.set_cons_zero, List.set_cons_succ]
                      with_reducible refine wpQuiet_step ?_
                      intro K hK
                      go_simp
                      first
                        | (with_reducible refine hK _ ?_)
                        | (with_reducible refine ⟨_, fun _ _ => rfl, hK _ ?_⟩)
                      clear hK K
                      try simp only [Act.put, List.setIfInBounds_toArray, List.set_cons_zero, List.set_cons_succ]
                      with_reducible refine wpQuiet_step ?_
                      intro K hK
                      go_simp
                      first
                        | (with_reducible refine hK _ ?_)
                        | (with_reducible refine ⟨_, fun _ _ => rfl, hK _ ?_⟩)
                      clear hK K
                      try simp only [Act.put, List.setIfInBounds_toArray, List.set_cons_zero, List.set_cons_succ]
                      with_reducible refine wpQuiet_step ?_
                      intro K hK
                      refine qs_load_cell (by rfl) 4 _ rfl ⟨lb, lo + k * 3 + 2, none⟩ rfl (.bool false) (fun w hw => (HCC.out w hw).2.1) Try.isAgg4 (hK _ ?_)
                      clear hK K
                      try simp only [Act.put, List.setIfInBounds_toArray, List.set_cons_zero, List.set_cons_succ]
                      with_reducible refine wpQuiet_step ?_
                      intro K hK
                      go_simp
                      first
                        | (with_reducible refine hK _ ?_)
                        | (with_reducible refine ⟨_, fun _ _ => rfl, hK _ ?_⟩)
                      clear hK K
                      try simp only [Act.put, List.setIfInBounds_toArray, List.set_cons_zero, List.set_cons_succ]
                      with_reducible refine wpQuiet_step ?_
                      intro K hK
                      go_simp
                      first
                        | (with_reducible refine hK _ ?_)
                        | (with_reducible refine ⟨_, fun _ _ => rfl, hK _ ?_⟩)
                      clear hK K
                      try simp only [Act.put, List.setIfInBounds_toArray, List.set_cons_zero, List.set_cons_succ]
                      with_reducible refine wpQuiet_step ?_
                      intro K hK
                      go_simp
                      first
                        | (with_reducible refine hK _ ?_)
                        | (with_reducible refine ⟨_, fun _ _ => rfl, hK _ ?_⟩)
                      clear hK K
                      try simp only [Act.put, List.setIfInBounds_toArray, List.set_cons_zero, List.set_cons_succ]
                      with_reducible refine wpQuiet_step ?_
                      intro K hK
                      go_simp
                      first
                        | (with_reducible refine hK _ ?_)
                        | (with_reducible refine ⟨_, fun _ _ => rfl, hK _ ?_⟩)
                      clear hK K
                      try simp only [Act.put, List.setIfInBounds_toArray, List.set_cons_zero, List.set_cons_succ]
                      with_reducible refine wpQuiet_step ?_
                      intro K hK
                      refine qs_load_cell (by rfl) 4 _ rfl ⟨lb, lo + i * 3 + 2, none⟩ rfl (.bool true) (fun w hw => (HCC.out w hw).2.2.1) Try.isAgg4 (hK _ ?_)
                      clear hK K
                      try simp only [Act.put, List.setIfInBounds_toArray, List.set_cons_zero, List.set_cons_succ]
                      with_reducible refine wpQuiet_step ?_
                      intro K hK
                      go_simp
                      first
                        | (with_reducible refine hK _ ?_)
                        | (with_reducible refine ⟨_, fun _ _ => rfl, hK _ ?_⟩)
                      clear hK K
                      try simp only [Act.put, List.setIfInBounds_toArray, List.set_cons_zero, List.set_cons_succ]
                      with_reducible refine wpQuiet_step ?_
                      intro K hK
                      go_simp
                      first
                        | (with_reducible refine hK _ ?_)
                        | (with_reducible refine ⟨_, fun _ _ => rfl, hK _ ?_⟩)
                      clear hK K
                      try simp only [Act.put, List.setIfInBounds_toArray, List.set_cons_zero, List.set_cons_succ]
                      with_reducible refine wpQuiet_step ?_
                      intro K hK
                      refine qs_skipA (by rfl) (hK _ ?_)
                      clear hK K
                      try simp only [Act.put, List.setIfInBounds_toArray, List.set_cons_zero, List.set_cons_succ]
                      with_reducible refine wpQuiet_step ?_
                      intro K hK
                      refine qs_skipA (by rfl) (hK _ ?_)
                      clear hK K
                      try simp only [Act.put, List.setIfInBounds_toArray, List.set_cons_zero, List.set_cons_succ]
                      with_reducible refine wpQuiet_step ?_
                      intro K hK
                      refine qs_skipA (by rfl) (hK _ ?_)
                      clear hK K
                      try simp only [Act.put, List.setIfInBounds_toArray, List.set_cons_zero, List.set_cons_succ]
                      with_reducible refine wpQuiet_step ?_
                      intro K hK
                      refine qs_skipA (by rfl) (hK _ ?_)
                      clear hK K
                      try simp only [Act.put, List.setIfInBounds_toArray, List.set_cons_zero, List.set_cons_succ]
                      with_reducible refine wpQuiet_step ?_
                      intro K hK
                      refine qs_skipA (by rfl) (hK _ ?_)
                      clear hK K
                      try simp only [Act.put, List.setIfInBounds_toArray, List.set_cons_zero, List.set_cons_succ]
                      with_reducible refine wpQuiet_step ?_
                      intro K hK
                      refine qs_skipA (by rfl) (hK _ ?_)
                      clear hK K
                      try simp only [Act.put, List.setIfInBounds_toArray, List.set_cons_zero, List.set_cons_succ]
                      with_reducible refine wpQuiet_step ?_
                      intro K hK
                      refine qs_skipA (by rfl) (hK _ ?_)
                      clear hK K
                      try simp only [Act.put, List.setIfInBounds_toArray, List.set_cons_zero, List.set_cons_succ]
                      with_reducible refine wpQuiet_step ?_
                      intro K hK
                      refine qs_skipA (by rfl) (hK _ ?_)
                      clear hK K
                      try simp only [Act.put, List.setIfInBounds_toArray, List.set_cons_zero, List.set_cons_succ]
                      with_reducible refine wpQuiet_step ?_
                      intro K hK
                      refine qs_skipA (by rfl) (hK _ ?_)
                      clear hK K
                      try simp only [Act.put, List.setIfInBounds_toArray, List.set_cons_zero, List.set_cons_succ]
                      with_reducible refine wpQuiet_step ?_
                      intro K hK
                      refine qs_skipA (by rfl) (hK _ ?_)
                      clear hK K
                      try simp only [Act.put, List.setIfInBounds_toArray, List.set_cons_zero, List.set_cons_succ]
                      with_reducible refine wpQuiet_step ?_
                      intro K hK
                      refine qs_skipA (by rfl) (hK _ ?_)
                      clear hK K
                      try simp only [Act.put, List.setIfInBounds_toArray, List.set_cons_zero, List.set_cons_succ]
                      with_reducible refine wpQuiet_step ?_
                      intro K hK
                      go_simp
                      first
                        | (with_reducible refine hK _ ?_)
                        | (with_reducible refine ⟨_, fun _ _ => rfl, hK _ ?_⟩)
                      clear hK K
                      try simp only [Act.put, List.setIfInBounds_toArray, List.set_cons_zero, List.set_cons_succ]
                      with_reducible refine wpQuiet_step ?_
                      intro K hK
                      go_simp
                      first
                        | (with_reducible refine hK _ ?_)
                        | (with_reducible refine ⟨_, fun _ _ => rfl, hK _ ?_⟩)
                      clear hK K
                      try simp only [Act.put, List.setIfInBounds_toArray, List.set_cons_zero, List.set_cons_succ]
                      with_reducible refine wpQuiet_step ?_
                      intro K hK
                      go_simp
                      first
                        | (with_reducible refine hK _ ?_)
                        | (with_reducible refine ⟨_, fun _ _ => rfl, hK _ ?_⟩)
                      clear hK K
                      try simp only [Act.put, List.setIfInBounds_toArray, List.set_cons_zero, List.set_cons_succ]
                      refine wpQuiet_nil ?_
                      intro w8 hC8
                      have HX8 := Lib.hid (HCO.out _ hC8)
                      clear hC8 hCi HCO HCC
                      go_wp2
                      go_roundw
                      case rel => exact ⟨k + 1, by omega, by go_num, HX8⟩
                      case measure => simp [intOf]; omega
                    · exact absurd ⟨rfl, rfl⟩ hn1
                    · have d12 : decide (rk < ri) = false := decide_eq_false fun h => hn2 ⟨rfl, h⟩
                      obtain ⟨C, hCi, hCo, hCC⟩ : ∃ C : World → Prop, C wr.drew ∧ (∀ w', C w' → Below wq.heap.size wq w') ∧ (∀ w', C w' → w'.cell? ⟨GB, k, none⟩ = some (.bool false) ∧ w'.cell? ⟨lb, lo + k * 3 + 2, none⟩ = some (.bool true) ∧ w'.cell? ⟨lb, lo + i * 3 + 2, none⟩ = some (.bool true) ∧ w'.cell? ⟨lb, lo + k * 3 + 1, none⟩ = some (.int .u64 rk) ∧ w'.cell? ⟨lb, lo + i * 3 + 1, none⟩ = some (.int .u64 ri)) :=
                        ⟨fun w' => Below wq.heap.size wq w', HBQ.out.drew, fun _ h => h, HALL.out⟩
                      have HCO := Lib.hid hCo
                      have HCC := Lib.hid hCC
                      clear hCo hCC HALL
                      go_upto_region 29 with fail
                      refine wp_region_cls C (by kernel_rfl) (by kernel_rfl) hCi ?_
                      with_reducible refine wpQuiet_step ?_
                      intro K hK
                      go_simp
                      first
                        | (with_reducible refine hK _ ?_)
                        | (with_reducible refine ⟨_, fun _ _ => rfl, hK _ ?_⟩)
                      clear hK K
                      try simp only [Act.put, List.setIfInBounds_toArray, List.set_cons_zero, List.set_cons_succ]
                      with_reducible refine wpQuiet_step ?_
                      intro K hK
                      go_simp
                      first
                        | (with_reducible refine hK _ ?_)
                        | (with_reducible refine ⟨_, fun _ _ => rfl, hK _ ?_⟩)
                      clear hK K
                      try simp only [Act.put, List.setIfInBounds_toArray, List.set_cons_zero, List.set_cons_succ]
                      with_reducible refine wpQuiet_step ?_
                      intro K hK
                      go_simp
                      first
                        | (with_reducible refine hK _ ?_)
                        | (with_reducible refine ⟨_, fun _ _ => rfl, hK _ ?_⟩)
                      clear hK K
                      try simp only [Act.put, List.setIfInBounds_toArray, List.set_cons_zero, List.set_cons_succ]
                      with_reducible refine wpQuiet_step ?_
                      intro K hK
                      refine qs_load_cell (by rfl) 4 _ rfl ⟨GB, k, none⟩ rfl (.bool false) (fun w hw => (HCC.out w hw).1) Try.isAgg4 (hK _ ?_)
                      clear hK K
                      try simp only [Act.put, List.setIfInBounds_toArray, List.set_cons_zero, List.set_cons_succ]
                      with_reducible refine wpQuiet_step ?_
                      intro K hK
                      go_simp
                      first
                        | (with_reducible refine hK _ ?_)
                        | (with_reducible refine ⟨_, fun _ _ => rfl, hK _ ?_⟩)
                      clear hK K
                      try simp only [Act.put, List.setIfInBounds_toArray, List.set_cons_zero, List.set_cons_succ]
                      with_reducible refine wpQuiet_step ?_
                      intro K hK
                      go_simp
                      first
                        | (with_reducible refine hK _ ?_)
                        | (with_reducible refine ⟨_, fun _ _ => rfl, hK _ ?_⟩)
                      clear hK K
                      try simp only [Act.put, List.setIfInBounds_toArray, List.set_cons_zero, List.set_cons_succ]
                      with_reducible refine wpQuiet_step ?_
                      intro K hK
                      go_simp
                      first
                        | (with_reducible refine hK _ ?_)
                        | (with_reducible refine ⟨_, fun _ _ => rfl, hK _ ?_⟩)
                      clear hK K
                      try simp only [Act.put, List.setIfInBounds_toArray, List.set_cons_zero, List.set_cons_succ]
                      with_reducible refine wpQuiet_step ?_
                      intro K hK
                      go_simp
                      first
                        | (with_reducible refine hK _ ?_)
                        | (with_reducible refine ⟨_, fun _ _ => rfl, hK _ ?_⟩)
                      clear hK K
                      try simp only [Act.put, List.setIfInBounds_toArray, List.set_cons_zero, List.set_cons_succ]
                      with_reducible refine wpQuiet_step ?_
                      intro K hK
                      go_simp
                      first
                        | (with_reducible refine hK _ ?_)
                        | (with_reducible refine ⟨_, fun _ _ => rfl, hK _ ?_⟩)
                      clear hK K
                      try simp only [Act.put, List.setIfInBounds_toArray, List.set_cons_zero, List.set_cons_succ]
                      with_reducible refine wpQuiet_step ?_
                      intro K hK
                      go_simp
                      first
                        | (with_reducible refine hK _ ?_)
                        | (with_reducible refine ⟨_, fun _ _ => rfl, hK _ ?_⟩)
                      clear hK K
                      try simp only [Act.put, List.setIfInBounds_toArray, List.set_cons_zero, List.set_cons_succ]
                      with_reducible refine wpQuiet_step ?_
                      intro K hK
                      refine qs_load_cell (by rfl) 4 _ rfl ⟨lb, lo + k * 3 + 2, none⟩ rfl (.bool true) (fun w hw => (HCC.out w hw).2.1) Try.isAgg4 (hK _ ?_)
                      clear hK K
                      try simp only [Act.put, List.setIfInBounds_toArray, List.set_cons_zero, List.set_cons_succ]
                      with_reducible refine wpQuiet_step ?_
                      intro K hK
                      go_simp
                      first
                        | (with_reducible refine hK _ ?_)
                        | (with_reducible refine ⟨_, fun _ _ => rfl, hK _ ?_⟩)
                      clear hK K
                      try simp only [Act.put, List.setIfInBounds_toArray, List.set_cons_zero, List.set_cons_succ]
                      with_reducible refine wpQuiet_step ?_
                      intro K hK
                      go_simp
                      first
                        | (with_reducible refine hK _ ?_)
                        | (with_reducible refine ⟨_, fun _ _ => rfl, hK _ ?_⟩)
                      clear hK K
                      try simp only [Act.put, List.setIfInBounds_toArray, List.set_cons_zero, List.set_cons_succ]
                      with_reducible refine wpQuiet_step ?_
                      intro K hK
                      go_simp
                      first
                        | (with_reducible refine hK _ ?_)
                        | (with_reducible refine ⟨_, fun _ _ => rfl, hK _ ?_⟩)
                      clear hK K
                      try simp only [Act.put, List.setIfInBounds_toArray, List.set_cons_zero, List.set_cons_succ]
                      with_reducible refine wpQuiet_step ?_
                      intro K hK
                      go_simp
                      first
                        | (with_reducible refine hK _ ?_)
                        | (with_reducible refine ⟨_, fun _ _ => rfl, hK _ ?_⟩)
                      clear hK K
                      try simp only [Act.put, List.setIfInBounds_toArray, List.set_cons_zero, List.set_cons_succ]
                      with_reducible refine wpQuiet_step ?_
                      intro K hK
                      go_simp
                      first
                        | (with_reducible refine hK _ ?_)
                        | (with_reducible refine ⟨_, fun _ _ => rfl, hK _ ?_⟩)
                      clear hK K
                      try simp only [Act.put, List.setIfInBounds_toArray, List.set_cons_zero, List.set_cons_succ]
                      with_reducible refine wpQuiet_step ?_
                      intro K hK
                      refine qs_load_cell (by rfl) 4 _ rfl ⟨lb, lo + i * 3 + 2, none⟩ rfl (.bool true) (fun w hw => (HCC.out w hw).2.2.1) Try.isAgg4 (hK _ ?_)
                      clear hK K
                      try simp only [Act.put, List.setIfInBounds_toArray, List.set_cons_zero, List.set_cons_succ]
                      with_reducible refine wpQuiet_step ?_
                      intro K hK
                      go_simp
                      first
                        | (with_reducible refine hK _ ?_)
                        | (with_reducible refine ⟨_, fun _ _ => rfl, hK _ ?_⟩)
                      clear hK K
                      try simp only [Act.put, List.setIfInBounds_toArray, List.set_cons_zero, List.set_cons_succ]
                      with_reducible refine wpQuiet_step ?_
                      intro K hK
                      go_simp
                      first
                        | (with_reducible refine hK _ ?_)
                        | (with_reducible refine ⟨_, fun _ _ => rfl, hK _ ?_⟩)
                      clear hK K
                      try simp only [Act.put, List.setIfInBounds_toArray, List.set_cons_zero, List.set_cons_succ]
                      with_reducible refine wpQuiet_step ?_
                      intro K hK
                      go_simp
                      first
                        | (with_reducible refine hK _ ?_)
                        | (with_reducible refine ⟨_, fun _ _ => rfl, hK _ ?_⟩)
                      clear hK K
                      try simp only [Act.put, List.setIfInBounds_toArray, List.set_cons_zero, List.set_cons_succ]
                      with_reducible refine wpQuiet_step ?_
                      intro K hK
                      go_simp
                      first
                        | (with_reducible refine hK _ ?_)
                        | (with_reducible refine ⟨_, fun _ _ => rfl, hK _ ?_⟩)
                      clear hK K
                      try simp only [Act.put, List.setIfInBounds_toArray, List.set_cons_zero, List.set_cons_succ]
                      with_reducible refine wpQuiet_step ?_
                      intro K hK
                      go_simp
                      first
                        | (with_reducible refine hK _ ?_)
                        | (with_reducible refine ⟨_, fun _ _ => rfl, hK _ ?_⟩)
                      clear hK K
                      try simp only [Act.put, List.setIfInBounds_toArray, List.set_cons_zero, List.set_cons_succ]
                      with_reducible refine wpQuiet_step ?_
                      intro K hK
                      go_simp
                      first
                        | (with_reducible refine hK _ ?_)
                        | (with_reducible refine ⟨_, fun _ _ => rfl, hK _ ?_⟩)
                      clear hK K
                      try simp only [Act.put, List.setIfInBounds_toArray, List.set_cons_zero, List.set_cons_succ]
                      with_reducible refine wpQuiet_step ?_
                      intro K hK
                      go_simp
                      first
                        | (with_reducible refine hK _ ?_)
                        | (with_reducible refine ⟨_, fun _ _ => rfl, hK _ ?_⟩)
                      clear hK K
                      try simp only [Act.put, List.setIfInBounds_toArray, List.set_cons_zero, List.set_cons_succ]
                      with_reducible refine wpQuiet_step ?_
                      intro K hK
                      refine qs_load_cell (by rfl) 4 _ rfl ⟨lb, lo + k * 3 + 2, none⟩ rfl (.bool true) (fun w hw => (HCC.out w hw).2.1) Try.isAgg4 (hK _ ?_)
                      clear hK K
                      try simp only [Act.put, List.setIfInBounds_toArray, List.set_cons_zero, List.set_cons_succ]
                      with_reducible refine wpQuiet_step ?_
                      intro K hK
                      go_simp
                      first
                        | (with_reducible refine hK _ ?_)
                        | (with_reducible refine ⟨_, fun _ _ => rfl, hK _ ?_⟩)
                      clear hK K
                      try simp only [Act.put, List.setIfInBounds_toArray, List.set_cons_zero, List.set_cons_succ]
                      with_reducible refine wpQuiet_step ?_
                      intro K hK
                      go_simp
                      first
                        | (with_reducible refine hK _ ?_)
                        | (with_reducible refine ⟨_, fun _ _ => rfl, hK _ ?_⟩)
                      clear hK K
                      try simp only [Act.put, List.setIfInBounds_toArray, List.set_cons_zero, List.set_cons_succ]
                      with_reducible refine wpQuiet_step ?_
                      intro K hK
                      go_simp
                      first
                        | (with_reducible refine hK _ ?_)
                        | (with_reducible refine ⟨_, fun _ _ => rfl, hK _ ?_⟩)
                      clear hK K
                      try simp only [Act.put, List.setIfInBounds_toArray, List.set_cons_zero, List.set_cons_succ]
                      with_reducible refine wpQuiet_step ?_
                      intro K hK
                      go_simp
                      first
                        | (with_reducible refine hK _ ?_)
                        | (with_reducible refine ⟨_, fun _ _ => rfl, hK _ ?_⟩)
                      clear hK K
                      try simp only [Act.put, List.setIfInBounds_toArray, List.set_cons_zero, List.set_cons_succ]
                      with_reducible refine wpQuiet_step ?_
                      intro K hK
                      refine qs_load_cell (by rfl) 4 _ rfl ⟨lb, lo + i * 3 + 2, none⟩ rfl (.bool true) (fun w hw => (HCC.out w hw).2.2.1) Try.isAgg4 (hK _ ?_)
                      clear hK K
                      try simp only [Act.put, List.setIfInBounds_toArray, List.set_cons_zero, List.set_cons_succ]
                      with_reducible refine wpQuiet_step ?_
                      intro K hK
                      go_simp
                      first
                        | (with_reducible refine hK _ ?_)
                        | (with_reducible refine ⟨_, fun _ _ => rfl, hK _ ?_⟩)
                      clear hK K
                      try simp only [Act.put, List.setIfInBounds_toArray, List.set_cons_zero, List.set_cons_succ]
                      with_reducible refine wpQuiet_step ?_
                      intro K hK
                      go_simp
                      first
                        | (with_reducible refine hK _ ?_)
                        | (with_reducible refine ⟨_, fun _ _ => rfl, hK _ ?_⟩)
                      clear hK K
                      try simp only [Act.put, List.setIfInBounds_toArray, List.set_cons_zero, List.set_cons_succ]
                      with_reducible refine wpQuiet_step ?_
                      intro K hK
                      go_simp
                      first
                        | (with_reducible refine hK _ ?_)
                        | (with_reducible refine ⟨_, fun _ _ => rfl, hK _ ?_⟩)
                      clear hK K
                      try simp only [Act.put, List.setIfInBounds_toArray, List.set_cons_zero, List.set_cons_succ]
                      with_reducible refine wpQuiet_step ?_
                      intro K hK
                      go_simp
                      first
                        | (with_reducible refine hK _ ?_)
                        | (with_reducible refine ⟨_, fun _ _ => rfl, hK _ ?_⟩)
                      clear hK K
                      try simp only [Act.put, List.setIfInBounds_toArray, List.set_cons_zero, List.set_cons_succ]
                      with_reducible refine wpQuiet_step ?_
                      intro K hK
                      go_simp
                      first
                        | (with_reducible refine hK _ ?_)
                        | (with_reducible refine ⟨_, fun _ _ => rfl, hK _ ?_⟩)
                      clear hK K
                      try simp only [Act.put, List.setIfInBounds_toArray, List.set_cons_zero, List.set_cons_succ]
                      with_reducible refine wpQuiet_step ?_
                      intro K hK
                      go_simp
                      first
                        | (with_reducible refine hK _ ?_)
                        | (with_reducible refine ⟨_, fun _ _ => rfl, hK _ ?_⟩)
                      clear hK K
                      try simp only [Act.put, List.setIfInBounds_toArray, List.set_cons_zero, List.set_cons_succ]
                      with_reducible refine wpQuiet_step ?_
                      intro K hK
                      refine qs_load_cell (by rfl) 26 _ rfl ⟨lb, lo + k * 3 + 1, none⟩ rfl (.int .u64 rk) (fun w hw => (HCC.out w hw).2.2.2.1) Try.isAgg26 (hK _ ?_)
                      clear hK K
                      try simp only [Act.put, List.setIfInBounds_toArray, List.set_cons_zero, List.set_cons_succ]
                      with_reducible refine wpQuiet_step ?_
                      intro K hK
                      go_simp
                      first
                        | (with_reducible refine hK _ ?_)
                        | (with_reducible refine ⟨_, fun _ _ => rfl, hK _ ?_⟩)
                      clear hK K
                      try simp only [Act.put, List.setIfInBounds_toArray, List.set_cons_zero, List.set_cons_succ]
                      with_reducible refine wpQuiet_step ?_
                      intro K hK
                      go_simp
                      first
                        | (with_reducible refine hK _ ?_)
                        | (with_reducible refine ⟨_, fun _ _ => rfl, hK _ ?_⟩)
                      clear hK K
                      try simp only [Act.put, List.setIfInBounds_toArray, List.set_cons_zero, List.set_cons_succ]
                      with_reducible refine wpQuiet_step ?_
                      intro K hK
                      go_simp
                      first
                        | (with_reducible refine hK _ ?_)
                        | (with_reducible refine ⟨_, fun _ _ => rfl, hK _ ?_⟩)
                      clear hK K
                      try simp only [Act.put, List.setIfInBounds_toArray, List.set_cons_zero, List.set_cons_succ]
                      with_reducible refine wpQuiet_step ?_
                      intro K hK
                      go_simp
                      first
                        | (with_reducible refine hK _ ?_)
                        | (with_reducible refine ⟨_, fun _ _ => rfl, hK _ ?_⟩)
                      clear hK K
                      try simp only [Act.put, List.setIfInBounds_toArray, List.set_cons_zero, List.set_cons_succ]
                      with_reducible refine wpQuiet_step ?_
                      intro K hK
                      refine qs_load_cell (by rfl) 26 _ rfl ⟨lb, lo + i * 3 + 1, none⟩ rfl (.int .u64 ri) (fun w hw => (HCC.out w hw).2.2.2.2) Try.isAgg26 (hK _ ?_)
                      clear hK K
                      try simp only [Act.put, List.setIfInBounds_toArray, List.set_cons_zero, List.set_cons_succ]
                      with_reducible refine wpQuiet_step ?_
                      intro K hK
                      go_simp
                      first
                        | (with_reducible refine hK _ ?_)
                        | (with_reducible refine ⟨_, fun _ _ => rfl, hK _ ?_⟩)
                      clear hK K
                      try simp only [Act.put, List.setIfInBounds_toArray, List.set_cons_zero, List.set_cons_succ]
                      with_reducible refine wpQuiet_step ?_
                      intro K hK
                      go_simp
                      first
                        | (with_reducible refine hK _ ?_)
                        | (with_reducible refine ⟨_, fun _ _ => rfl, hK _ ?_⟩)
                      clear hK K
                      try simp only [Act.put, List.setIfInBounds_toArray, List.set_cons_zero, List.set_cons_succ]
                      with_reducible refine wpQuiet_step ?_
                      intro K hK
                      go_simp
                      first
                        | (with_reducible refine hK _ ?_)
                        | (with_reducible refine ⟨_, fun _ _ => rfl, hK _ ?_⟩)
                      clear hK K
                      try simp only [Act.put, List.setIfInBounds_toArray, List.set_cons_zero, List.set_cons_succ]
                      with_reducible refine wpQuiet_step ?_
                      intro K hK
                      go_simp
                      first
                        | (with_reducible refine hK _ ?_)
                        | (with_reducible refine ⟨_, fun _ _ => rfl, hK _ ?_⟩)
                      clear hK K
                      try simp only [Act.put, List.setIfInBounds_toArray, List.set_cons_zero, List.set_cons_succ]
                      refine wpQuiet_nil ?_
                      intro w8 hC8
                      have HX8 := Lib.hid (HCO.out _ hC8)
                      clear hC8 hCi HCO HCC
                      go_wp2
                      go_roundw
                      case rel => exact ⟨k + 1, by omega, by go_num, HX8⟩
                      case measure => simp [intOf]; omega
                  have d10 : decide ((i : Int) ∈ V) = false := decide_eq_false hiV
                  simp only [d10] at cg
                  go_wp2
                  go_roundw
                  case rel => exact ⟨i + 1, by omega, by go_num, HBQ⟩
                  case measure => simp [intOf]; omega
                · obtain rfl : k = n := by omega
                  have hd3 : decide ((k : Int) < (k : Int)) = false := by simp
                  go_wp2
                  go_roundw
                  case rel => exact ⟨i + 1, by omega, by go_num, HBQ⟩
                  case measure => simp [intOf]; omega
            · obtain rfl : i = n := by omega
              have hd2 : decide ((i : Int) < (i : Int)) = false := by simp
              go_wp2
              go_ret
              exact ⟨rfl, HBF.out.trans (HBI.out.mono HBF.out.size)⟩
end Go.Proofs.Ytmnnfhplgepiaaa
