/-
  The walk of the law PolicyBatches: entered one by one, and taken away at the end of each batch, there are never more than the capacity and a batch.
-/
import Derived.Test.YtmnnfhplgepiaaaPolT
import Derived.Test.YtmnnfhplgepiaaaLookB
import Derived.Test.YtmnnfhplgepiaaaPolA
import Derived.Deep.RegionHeld3
namespace Go.Proofs.Ytmnnfhplgepiaaa
open Go Go.RowKit Go.Sg
set_option maxHeartbeats 8000000 in
set_option maxRecDepth 100000 in
theorem PolicyBatches_walk (c0 b0 m : Int) (v : Value) (es : List Bool) (w : World) (hc0 : Num c0) (hb0 : Num b0) (_hm : Num m) (hv : Sl1 w v (es.map Value.bool)) :
    Calls Try.prog 4 #[.int .i64 c0, .int .i64 b0, .int .i64 m, v] w fun e w' => e = .returned (.bool true) ∧ Below w.heap.size w w' := by
  obtain ⟨a2, cap2, rfl, h3, h4⟩ := sl1_at16 hv
  rw [List.length_map] at h3
  rw [List.length_map]
  unfold maxLen at h3
  have HV2 := Lib.hid h4
  have KS := Lib.hid (fun w' => shown16 w')
  have KP1 := Lib.hid (fun w' => pick_any c0 20 hc0 (by decide) (by decide) w')
  have KP2 := Lib.hid (fun w' => pick_any b0 8 hb0 (by decide) (by decide) w')
  have hq1 : 0 ≤ pickI c0 20 ∧ pickI c0 20 < 20 := pickI_bd (by decide)
  have hq2 : 0 ≤ pickI b0 8 ∧ pickI b0 8 < 8 := pickI_bd (by decide)
  obtain ⟨c, hc⟩ : ∃ c : Nat, pickI c0 20 = c := ⟨(pickI c0 20).toNat, by omega⟩
  obtain ⟨d, hd⟩ : ∃ d : Nat, pickI b0 8 = d := ⟨(pickI b0 8).toNat, by omega⟩
  rw [hc] at hq1 KP1
  rw [hd] at hq2 KP2
  clear hv h4 hc0 hb0 _hm hc hd
  go_enter Try.func4, Try.ntmps4
  go_wp2_with fail
  refine (KS.out _).mono ?_
  rintro e w1 ⟨rfl, hb1⟩
  have HB1 := Lib.hid hb1
  clear hb1
  go_wp2_with fail
  refine (KP1.out _).mono ?_
  rintro e w' ⟨rfl, rfl⟩
  go_wp2_with fail
  refine (KP2.out _).mono ?_
  rintro e w1 ⟨rfl, rfl⟩
  obtain ⟨b, hb⟩ : ∃ b : Nat, 1 + (d : Int) = b := ⟨1 + d, by omega⟩
  have hb1 : 1 ≤ b ∧ b ≤ 8 := by omega
  by_cases hm0 : m < 0
  · have d4 : decide (m < 0) = true := decide_eq_true hm0
    go_wp2
    go_ret
    exact ⟨rfl, HB1.out⟩
  have d4 : decide (m < 0) = false := decide_eq_false hm0
  by_cases hm1 : 60 < m
  · have d5 : decide (60 < m) = true := decide_eq_true hm1
    go_wp2
    go_ret
    exact ⟨rfl, HB1.out⟩
  have d5 : decide (60 < m) = false := decide_eq_false hm1
  obtain ⟨n, rfl⟩ : ∃ n : Nat, m = n := ⟨m.toNat, by omega⟩
  have hn : n ≤ 60 := by omega
  obtain ⟨i0, hi0, hz0, hz1, hz2⟩ := info_parts info_item
  have HI := Lib.hid hi0
  have HZ0 := Lib.hid hz0
  have HS := Lib.hid hz1
  have HY := Lib.hid hz2
  clear hi0 hz0 hz1 hz2
  obtain ⟨wo, rfl⟩ : ∃ wo : World, wo = w1 := ⟨_, rfl⟩
  go_wp2_with fail
  go_loopw [12, 13] (fun sv i wr => ∃ (k : Nat) (L : List It), k ≤ n ∧ i = .int .i64 k ∧ L.length ≤ c + k % b ∧ Hid ((L.map (·.1)).Nodup ∧ (∀ x ∈ L, x.1 < (k : Int) ∧ ItW x)) ∧ Hid (wr.ownsRow wo.heap.size 28 3 sv L.length (flatV itV L)) ∧ Hid (Below wo.heap.size wo wr)) (fun _ i _ => n - (intOf i).toNat)
  case atStart => exact ⟨0, [], by omega, rfl, by simp, Lib.hid ⟨by simp, by simp⟩, Lib.hid (World.ownsRow_nil _ _ _ _), Lib.hid (Below.refl _ _)⟩
  case round =>
    obtain ⟨k, L, hk, rfl, hLl, HL, HO, HB⟩ := hrel
    by_cases hlt : k < n
    · have hd : decide ((k : Int) < (n : Int)) = true := decide_eq_true (by omega)
      have hd' : decide (k < n) = true := decide_eq_true hlt
      have j0 : (0 : Int) ≤ (k : Int) := by omega
      have hkb : k % b < b := Nat.mod_lt _ (by omega)
      have hLl2 : L.length ≤ 40 := by omega
      have HBW : Hid (∀ w', Below wo.heap.size wo w' → Below w.heap.size w w') := Lib.hid fun w' h => HB1.out.trans (h.mono HB1.out.size)
      obtain ⟨e5, he5⟩ : ∃ e5 : Bool, es.getD k false = e5 := ⟨_, rfl⟩
      have HC2 : Hid (∀ w', Below wo.heap.size wo w' → k < es.length → ∃ b o, a2 = some ⟨b, o, none⟩ ∧ w'.cell? ⟨b, o + k, none⟩ = some (.bool e5)) := Lib.hid fun w' h hk => HV2.out w' (HBW.out w' h) k (.bool e5) (by
        rw [← he5]
        simp [List.getD_eq_getElem?_getD, List.getElem?_eq_getElem hk])
      have hE5 : ¬ k < es.length → e5 = false := fun h => by
        rw [← he5, List.getD_eq_getElem?_getD, List.getElem?_eq_none (by omega)]
        rfl
      have m1 : IntKind.u64.wrap (1000 - (k : Int)) = 1000 - (k : Int) := by rw [IntKind.wrap_u64]; omega
      have m2 : IntKind.i64.wrap (1000 - (k : Int)) = 1000 - (k : Int) := by rw [IntKind.wrap_i64]; omega
      have HX : Hid (flatV itV (L ++ [((k : Int), 1000 - (k : Int), e5)]) = flatV itV L ++ [.int .i64 (k : Int), .int .u64 (1000 - (k : Int)), .bool e5]) := Lib.hid (by rw [flatV_snoc]; rfl)
      have HF2 : Hid ((flatV itV L).length = L.length * 3) := Lib.hid (flatV_len itV_k L)
      clear he5
      go_upto_region 10 with fail
      go_cut [12] (fun o wx => ∃ v', o = v' ∧ Hid (wx.ownsRow wo.heap.size 28 3 v' (L.length + 1) (flatV itV (L ++ [((k : Int), 1000 - (k : Int), e5)]))) ∧ Hid (Below wo.heap.size wo wx))
      case first =>
        by_cases hke : k < es.length
        · have d9 : decide ((k : Int) < (es.length : Int)) = true := decide_eq_true (by omega)
          have d9' : decide (k < es.length) = true := decide_eq_true hke
          obtain ⟨eb, eo, rfl, e1⟩ := HC2.out _ HB.out hke
          have HC3 : Hid (∀ w', Below wo.heap.size wo w' → w'.cell? ⟨eb, eo + k, none⟩ = some (.bool e5)) := Lib.hid fun w' h => by
            obtain ⟨b', o', e, hc'⟩ := HC2.out w' h hke
            simp only [Option.some.injEq, Addr.mk.injEq, and_true] at e
            obtain ⟨rfl, rfl⟩ := e
            exact hc'
          have j2 : (k : Int) < (es.length : Int) := by omega
          clear HC2 hE5
          go_wp2_with (first
            | (at_builtin; go_loud (refine wpList_append_own_at _ rfl (.tmp 41) (.tmp 57) 25 rfl wo.heap.size 28 i0 (.agg #[.int .i64 0, .int .u64 0, .bool false]) 3 24 Try.underlying25 HI.out HZ0.out HS.out HY.out rfl (by decide) _ L.length (flatV itV L) rfl (HO.out.alloc _) ⟨wr.heap.size, 0, none⟩ 1 1 [.int .i64 (k : Int), .int .u64 (1000 - (k : Int)), .bool e5] rfl rfl (cells_lit _ _ _) (by simp [Value.oneCell']) (by unfold maxLen; omega) (by omega) (by have := HB.out.size; simp; omega) ?_))
            | fail)
          intro v' w4 hown hgrow _ _
          have hb4 : Below wo.heap.size wo w4 := (HB.out.alloc HB.out.size _).grown hgrow (by have := HB.out.size; simp; omega) (fun j hj => (HO.out.lt j hj).1)
          go_wp2_with fail
          go_meet
          exact ⟨_, rfl, Lib.hid (by rw [HX.out]; exact hown), Lib.hid hb4⟩
        · have d9 : decide ((k : Int) < (es.length : Int)) = false := decide_eq_false (by omega)
          have d9' : decide (k < es.length) = false := decide_eq_false hke
          obtain rfl := hE5 hke
          clear HC2
          go_wp2_with (first
            | (at_builtin; go_loud (refine wpList_append_own_at _ rfl (.tmp 41) (.tmp 57) 25 rfl wo.heap.size 28 i0 (.agg #[.int .i64 0, .int .u64 0, .bool false]) 3 24 Try.underlying25 HI.out HZ0.out HS.out HY.out rfl (by decide) _ L.length (flatV itV L) rfl (HO.out.alloc _) ⟨wr.heap.size, 0, none⟩ 1 1 [.int .i64 (k : Int), .int .u64 (1000 - (k : Int)), .bool false] rfl rfl (cells_lit _ _ _) (by simp [Value.oneCell']) (by unfold maxLen; omega) (by omega) (by have := HB.out.size; simp; omega) ?_))
            | fail)
          intro v' w4 hown hgrow _ _
          have hb4 : Below wo.heap.size wo w4 := (HB.out.alloc HB.out.size _).grown hgrow (by have := HB.out.size; simp; omega) (fun j hj => (HO.out.lt j hj).1)
          go_wp2_with fail
          go_meet
          exact ⟨_, rfl, Lib.hid (by rw [HX.out]; exact hown), Lib.hid hb4⟩
      case rest =>
      obtain ⟨v1, rfl, HO2, HB2⟩ := hcut
      generalize wc = w3 at *
      obtain ⟨L1, hL1⟩ : ∃ L1, L ++ [((k : Int), 1000 - (k : Int), e5)] = L1 := ⟨_, rfl⟩
      have hl1 : L1.length = L.length + 1 := by rw [← hL1]; simp
      have HL1 : Hid ((L1.map (·.1)).Nodup ∧ (∀ x ∈ L1, x.1 < ((k + 1 : Nat) : Int) ∧ ItW x)) := Lib.hid (by
        rw [← hL1]
        refine ⟨?_, fun x hx => ?_⟩
        · rw [List.map_append, List.nodup_append]
          refine ⟨HL.out.1, by simp, fun y hy z hz e => ?_⟩
          simp at hz
          obtain ⟨x, hx, hxy⟩ := List.mem_map.1 hy
          have := (HL.out.2 x hx).1
          omega
        · rcases List.mem_append.1 hx with h1 | h1
          · have := HL.out.2 x h1
            exact ⟨by omega, this.2⟩
          · rw [List.mem_singleton] at h1
            subst h1
            exact ⟨by simp only; omega, ⟨by simp only; omega, by simp only; omega⟩⟩)
      rw [hL1, ← hl1] at HO2
      have hl1b : L1.length ≤ c + k % b + 1 := by omega
      clear hL1 hl1 HL HX HF2 HO HB hE5 HC2
      obtain ⟨la, lc, rfl, -, hlc, -⟩ := itV_at (SlK.of_owns HO2.out)
      have hcb : L1.length ≤ c + b := by omega
      have e1 : decide ((c : Int) + (b : Int) < (L1.length : Int)) = false := decide_eq_false (by omega)
      have e1' : decide (c + b < L1.length) = false := decide_eq_false (by omega)
      have tm : ((k : Int) + 1).tmod (b : Int) = (((k + 1) % b : Nat) : Int) := by
        rw [Int.tmod_eq_emod_of_nonneg (by omega)]
        norm_cast
      have tm2 : ((k : Int) + 1) % (b : Int) = (((k + 1) % b : Nat) : Int) := by norm_cast
      have tz : ((b : Int) == 0) = false := by simp; omega
      have b0' : (0 : Int) < (b : Int) := by omega
      unfold maxLen at hlc
      rcases Nat.eq_zero_or_pos ((k + 1) % b) with hz | hz
      · rw [hz] at tm tm2
        have q0 : (((0 : Nat) : Int) != 0) = false := by simp
        have KV := Lib.hid (victims_all L1 (by omega) (fun x hx => (HL1.out.2 x hx).2) _ (c : Int) (b : Int) w3 (SlK.of_owns HO2.out))
        have hgb := go_bd (l := L1) (cap := (c : Int)) (batch := (b : Int)) (by omega) (by omega) (by omega) (by omega) (by omega)
        have hvl := victI_len L1 (c : Int) (b : Int)
        have hll := left_len HL1.out.1 (c : Int) (b : Int)
        have hgl := goI_le L1 (c : Int) (b : Int)
        have HLN : Hid (((leftI L1 (victI L1 (c : Int) (b : Int))).map (·.1)).Nodup ∧ ∀ x ∈ leftI L1 (victI L1 (c : Int) (b : Int)), x.1 < ((k + 1 : Nat) : Int) ∧ ItW x) := Lib.hid ⟨left_nodup HL1.out.1 _, fun x hx => HL1.out.2 x (List.mem_filter.1 hx).1⟩
        obtain ⟨G, hG⟩ : ∃ G, victI L1 (c : Int) (b : Int) = G := ⟨_, rfl⟩
        rw [hG] at KV hvl hll HLN
        clear hG
        rw [← hvl] at hgb hll hgl
        clear hvl
        go_wp2_with fail
        refine KV.out.mono ?_
        rintro e w5 ⟨va, rfl, hsa, hb5⟩
        have HB5 : Hid (Below wo.heap.size wo w5) := Lib.hid (HB2.out.trans (hb5.mono HB2.out.size))
        have HO5 := Lib.hid (ownsRow_below HO2.out hb5)
        obtain ⟨aa, ac, rfl, _, hcv⟩ := sl1_at16 hsa
        have HCV : Hid (∀ w', Below w5.heap.size w5 w' → ∀ i (hi : i < G.length), ∃ b o, aa = some ⟨b, o, none⟩ ∧ w'.cell? ⟨b, o + i, none⟩ = some (.int .i64 G[i])) := Lib.hid fun w' h i hi => hcv w' h i _ (by rw [List.getElem?_map, List.getElem?_eq_getElem hi]; rfl)
        have HCL : Hid (∀ w', Below w5.heap.size w5 w' → ∀ j (hj : j < L1.length), ∃ b o, la = some ⟨b, o, none⟩ ∧ w'.cell? ⟨b, o + j * 3, none⟩ = some (.int .i64 L1[j].1) ∧ w'.cell? ⟨b, o + j * 3 + 1, none⟩ = some (.int .u64 L1[j].2.1) ∧ w'.cell? ⟨b, o + j * 3 + 2, none⟩ = some (.bool L1[j].2.2)) := Lib.hid fun w' h j hj => by
          obtain ⟨_, _, e, _, _, h2⟩ := itV_at ((SlK.of_owns HO5.out).below h)
          obtain ⟨b, o, e2, _, h3, h4, h5⟩ := h2 j hj
          simp only [Value.slice.injEq, true_and] at e
          exact ⟨b, o, by rw [e.1]; exact e2, h3, h4, h5⟩
        rw [List.length_map]
        clear hsa hb5 hcv KV HO2 HB2 HO5
        go_wp2_with fail
        go_loopw [15, 16, 17, 18] (fun sv qv _ _ wx => ∃ q : Nat, q ≤ L1.length ∧ qv = .int .i64 q ∧ Hid (wx.ownsRow w5.heap.size 28 3 sv (leftI (L1.take q) G).length (flatV itV (leftI (L1.take q) G))) ∧ Hid (Below w5.heap.size w5 wx)) (fun _ qv _ _ _ => L1.length - (intOf qv).toNat)
        case atStart => exact ⟨0, by omega, rfl, Lib.hid (World.ownsRow_nil _ _ _ _), Lib.hid (Below.refl _ _)⟩
        case round =>
          obtain ⟨q, hq, rfl, HOQ, HBQ⟩ := hrel
          by_cases hql : q < L1.length
          · have f1 : decide ((q : Int) < (L1.length : Int)) = true := decide_eq_true (by omega)
            have f1' : decide (q < L1.length) = true := decide_eq_true hql
            have q0' : (0 : Int) ≤ (q : Int) := by omega
            have q1' : (q : Int) < (L1.length : Int) := by omega
            obtain ⟨wq, rfl⟩ : ∃ wq : World, wq = wr := ⟨_, rfl⟩
            obtain ⟨lb, lo, rfl, y0, y1, y2⟩ := HCL.out wq HBQ.out q hql
            have HLX : Hid (∀ w', Below wq.heap.size wq w' → w'.cell? ⟨lb, lo + q * 3, none⟩ = some (.int .i64 L1[q].1) ∧ w'.cell? ⟨lb, lo + q * 3 + 1, none⟩ = some (.int .u64 L1[q].2.1) ∧ w'.cell? ⟨lb, lo + q * 3 + 2, none⟩ = some (.bool L1[q].2.2)) := Lib.hid fun w' h => by
              obtain ⟨_, _, x1, x2⟩ := HCL.out w' (HBQ.out.trans (h.mono HBQ.out.size)) q hql
              simp only [Option.some.injEq, Addr.mk.injEq, and_true] at x1
              obtain ⟨rfl, rfl⟩ := x1
              exact x2
            have HVX : Hid (∀ w', Below wq.heap.size wq w' → ∀ i (hi : i < G.length), ∃ b o, aa = some ⟨b, o, none⟩ ∧ w'.cell? ⟨b, o + i, none⟩ = some (.int .i64 G[i])) := Lib.hid fun w' h => HCV.out w' (HBQ.out.trans (h.mono HBQ.out.size))
            have HTK : Hid (leftI (L1.take (q + 1)) G = if G.contains L1[q].1 then leftI (L1.take q) G else leftI (L1.take q) G ++ [L1[q]]) := Lib.hid (by rw [List.take_succ_eq_append_getElem hql, leftI_snoc])
            have hlq : (leftI (L1.take q) G).length ≤ 60 := by
              have h1 : (leftI (L1.take q) G).length ≤ (L1.take q).length := List.length_filter_le _ _
              rw [List.length_take] at h1
              omega
            clear y0 y1 y2
            generalize L1[q] = x at *
            generalize leftI (L1.take q) G = LQ at *
            obtain ⟨xc, xr, xe⟩ := x
            simp only at HLX HTK
            go_wp2_with fail
            go_loopw [17, 18] (fun ov jv wx => ∃ j : Nat, j ≤ G.length ∧ jv = .int .i64 j ∧ ov = .bool (decide (xc ∈ G.take j)) ∧ Hid (Below wq.heap.size wq wx)) (fun _ jv _ => G.length - (intOf jv).toNat)
            case atStart => exact ⟨0, by omega, rfl, by simp, Lib.hid (Below.refl _ _)⟩
            case round =>
              obtain ⟨j, hj, rfl, rfl, HBJ⟩ := hrel
              by_cases hjl : j < G.length
              · have f2 : decide ((j : Int) < (G.length : Int)) = true := decide_eq_true (by omega)
                have f2' : decide (j < G.length) = true := decide_eq_true hjl
                have j0' : (0 : Int) ≤ (j : Int) := by omega
                have j1' : (j : Int) < (G.length : Int) := by omega
                obtain ⟨gb, go', rfl, z0⟩ := HVX.out wr HBJ.out j hjl
                have HGX : Hid (∀ w', Below wq.heap.size wq w' → w'.cell? ⟨gb, go' + j, none⟩ = some (.int .i64 G[j])) := Lib.hid fun w' h => by
                  obtain ⟨_, _, x1, x2⟩ := HVX.out w' h j hjl
                  simp only [Option.some.injEq, Addr.mk.injEq, and_true] at x1
                  obtain ⟨rfl, rfl⟩ := x1
                  exact x2
                have HTJ : Hid (G.take (j + 1) = G.take j ++ [G[j]]) := Lib.hid (List.take_succ_eq_append_getElem hjl)
                clear z0
                generalize G[j] = y at *
                by_cases ho : xc ∈ G.take j
                · have f3 : decide (xc ∈ G.take j) = true := decide_eq_true ho
                  have HN3 : Hid (true = decide (xc ∈ G.take (j + 1))) := Lib.hid (by rw [HTJ.out]; simp [ho])
                  rw [f3]
                  obtain ⟨C, hCi, hCo⟩ : ∃ C : World → Prop, C wr.drew ∧ (∀ w', C w' → Below wq.heap.size wq w') := ⟨fun w' => Below wq.heap.size wq w', HBJ.out.drew, fun _ h => h⟩
                  have HCO := Lib.hid hCo
                  clear hCo
                  go_upto_region 23 with fail
                  refine wp_region_cls C (by kernel_rfl) (by kernel_rfl) hCi ?_
                  with_reducible refine wpQuiet_step ?_
                  intro K hK
                  go_simp
                  first
                    | (with_reducible refine hK _ ?_)
                    | (with_reducible refine ⟨_, fun _ _ => rfl, hK _ ?_⟩)
                  clear hK K
                  try simp only [Act.put, List.setIfInBounds_toArray, List.set_cons_zero, List.set_cons_succ]
                  with_reducible refine wpQuiet_step ?_
                  intro K hK
                  go_simp
                  first
                    | (with_reducible refine hK _ ?_)
                    | (with_reducible refine ⟨_, fun _ _ => rfl, hK _ ?_⟩)
                  clear hK K
                  try simp only [Act.put, List.setIfInBounds_toArray, List.set_cons_zero, List.set_cons_succ]
                  with_reducible refine wpQuiet_step ?_
                  intro K hK
                  refine qs_skipA (by rfl) (hK _ ?_)
                  clear hK K
                  try simp only [Act.put, List.setIfInBounds_toArray, List.set_cons_zero, List.set_cons_succ]
                  with_reducible refine wpQuiet_step ?_
                  intro K hK
                  refine qs_skipA (by rfl) (hK _ ?_)
                  clear hK K
                  try simp only [Act.put, List.setIfInBounds_toArray, List.set_cons_zero, List.set_cons_succ]
                  with_reducible refine wpQuiet_step ?_
                  intro K hK
                  refine qs_skipA (by rfl) (hK _ ?_)
                  clear hK K
                  try simp only [Act.put, List.setIfInBounds_toArray, List.set_cons_zero, List.set_cons_succ]
                  with_reducible refine wpQuiet_step ?_
                  intro K hK
                  refine qs_skipA (by rfl) (hK _ ?_)
                  clear hK K
                  try simp only [Act.put, List.setIfInBounds_toArray, List.set_cons_zero, List.set_cons_succ]
                  with_reducible refine wpQuiet_step ?_
                  intro K hK
                  refine qs_skipA (by rfl) (hK _ ?_)
                  clear hK K
                  try simp only [Act.put, List.setIfInBounds_toArray, List.set_cons_zero, List.set_cons_succ]
                  with_reducible refine wpQuiet_step ?_
                  intro K hK
                  refine qs_skipA (by rfl) (hK _ ?_)
                  clear hK K
                  try simp only [Act.put, List.setIfInBounds_toArray, List.set_cons_zero, List.set_cons_succ]
                  with_reducible refine wpQuiet_step ?_
                  intro K hK
                  refine qs_skipA (by rfl) (hK _ ?_)
                  clear hK K
                  try simp only [Act.put, List.setIfInBounds_toArray, List.set_cons_zero, List.set_cons_succ]
                  with_reducible refine wpQuiet_step ?_
                  intro K hK
                  refine qs_skipA (by rfl) (hK _ ?_)
                  clear hK K
                  try simp only [Act.put, List.setIfInBounds_toArray, List.set_cons_zero, List.set_cons_succ]
                  with_reducible refine wpQuiet_step ?_
                  intro K hK
                  refine qs_skipA (by rfl) (hK _ ?_)
                  clear hK K
                  try simp only [Act.put, List.setIfInBounds_toArray, List.set_cons_zero, List.set_cons_succ]
                  with_reducible refine wpQuiet_step ?_
                  intro K hK
                  refine qs_skipA (by rfl) (hK _ ?_)
                  clear hK K
                  try simp only [Act.put, List.setIfInBounds_toArray, List.set_cons_zero, List.set_cons_succ]
                  with_reducible refine wpQuiet_step ?_
                  intro K hK
                  go_simp
                  first
                    | (with_reducible refine hK _ ?_)
                    | (with_reducible refine ⟨_, fun _ _ => rfl, hK _ ?_⟩)
                  clear hK K
                  try simp only [Act.put, List.setIfInBounds_toArray, List.set_cons_zero, List.set_cons_succ]
                  with_reducible refine wpQuiet_step ?_
                  intro K hK
                  go_simp
                  first
                    | (with_reducible refine hK _ ?_)
                    | (with_reducible refine ⟨_, fun _ _ => rfl, hK _ ?_⟩)
                  clear hK K
                  try simp only [Act.put, List.setIfInBounds_toArray, List.set_cons_zero, List.set_cons_succ]
                  refine wpQuiet_nil ?_
                  intro w8 hC8
                  have HX8 := Lib.hid (HCO.out _ hC8)
                  clear hC8 hCi HCO
                  go_wp2
                  go_roundw
                  case rel => exact ⟨j + 1, by omega, by go_num, congrArg Value.bool HN3.out, HX8⟩
                  case measure => simp [intOf]; omega
                · have f3 : decide (xc ∈ G.take j) = false := decide_eq_false ho
                  have HN3 : Hid ((y == xc) = decide (xc ∈ G.take (j + 1))) := Lib.hid (by
                    rw [HTJ.out]
                    by_cases hyx : y = xc
                    · subst hyx; simp
                    · have h2 : (y == xc) = false := by simpa using hyx
                      have h3 : ¬ xc = y := fun e => hyx e.symm
                      rw [h2]
                      simp [ho, h3])
                  rw [f3]
                  obtain ⟨C, hCi, hCo, hCY, hCX⟩ : ∃ C : World → Prop, C wr.drew ∧ (∀ w', C w' → Below wq.heap.size wq w') ∧ (∀ w', C w' → w'.cell? ⟨gb, go' + j, none⟩ = some (.int .i64 y)) ∧ (∀ w', C w' → w'.cell? ⟨lb, lo + q * 3, none⟩ = some (.int .i64 xc)) := ⟨fun w' => Below wq.heap.size wq w', HBJ.out.drew, fun _ h => h, HGX.out, fun w' h => (HLX.out w' h).1⟩
                  have HCO := Lib.hid hCo
                  have HCY := Lib.hid hCY
                  have HCX := Lib.hid hCX
                  clear hCo hCY hCX HGX
                  go_upto_region 23 with fail
                  refine wp_region_cls C (by kernel_rfl) (by kernel_rfl) hCi ?_
                  with_reducible refine wpQuiet_step ?_
                  intro K hK
                  go_simp
                  first
                    | (with_reducible refine hK _ ?_)
                    | (with_reducible refine ⟨_, fun _ _ => rfl, hK _ ?_⟩)
                  clear hK K
                  try simp only [Act.put, List.setIfInBounds_toArray, List.set_cons_zero, List.set_cons_succ]
                  with_reducible refine wpQuiet_step ?_
                  intro K hK
                  go_simp
                  first
                    | (with_reducible refine hK _ ?_)
                    | (with_reducible refine ⟨_, fun _ _ => rfl, hK _ ?_⟩)
                  clear hK K
                  try simp only [Act.put, List.setIfInBounds_toArray, List.set_cons_zero, List.set_cons_succ]
                  with_reducible refine wpQuiet_step ?_
                  intro K hK
                  go_simp
                  first
                    | (with_reducible refine hK _ ?_)
                    | (with_reducible refine ⟨_, fun _ _ => rfl, hK _ ?_⟩)
                  clear hK K
                  try simp only [Act.put, List.setIfInBounds_toArray, List.set_cons_zero, List.set_cons_succ]
                  with_reducible refine wpQuiet_step ?_
                  intro K hK
                  go_simp
                  first
                    | (with_reducible refine hK _ ?_)
                    | (with_reducible refine ⟨_, fun _ _ => rfl, hK _ ?_⟩)
                  clear hK K
                  try simp only [Act.put, List.setIfInBounds_toArray, List.set_cons_zero, List.set_cons_succ]
                  with_reducible refine wpQuiet_step ?_
                  intro K hK
                  go_simp
                  first
                    | (with_reducible refine hK _ ?_)
                    | (with_reducible refine ⟨_, fun _ _ => rfl, hK _ ?_⟩)
                  clear hK K
                  try simp only [Act.put, List.setIfInBounds_toArray, List.set_cons_zero, List.set_cons_succ]
                  with_reducible refine wpQuiet_step ?_
                  intro K hK
                  refine qs_load_cell (by rfl) 3 _ rfl ⟨gb, go' + j, none⟩ rfl (.int .i64 y) (fun w hw => HCY.out w hw) Try.isAgg3 (hK _ ?_)
                  clear hK K
                  try simp only [Act.put, List.setIfInBounds_toArray, List.set_cons_zero, List.set_cons_succ]
                  with_reducible refine wpQuiet_step ?_
                  intro K hK
                  go_simp
                  first
                    | (with_reducible refine hK _ ?_)
                    | (with_reducible refine ⟨_, fun _ _ => rfl, hK _ ?_⟩)
                  clear hK K
                  try simp only [Act.put, List.setIfInBounds_toArray, List.set_cons_zero, List.set_cons_succ]
                  with_reducible refine wpQuiet_step ?_
                  intro K hK
                  go_simp
                  first
                    | (with_reducible refine hK _ ?_)
                    | (with_reducible refine ⟨_, fun _ _ => rfl, hK _ ?_⟩)
                  clear hK K
                  try simp only [Act.put, List.setIfInBounds_toArray, List.set_cons_zero, List.set_cons_succ]
                  with_reducible refine wpQuiet_step ?_
                  intro K hK
                  go_simp
                  first
                    | (with_reducible refine hK _ ?_)
                    | (with_reducible refine ⟨_, fun _ _ => rfl, hK _ ?_⟩)
                  clear hK K
                  try simp only [Act.put, List.setIfInBounds_toArray, List.set_cons_zero, List.set_cons_succ]
                  with_reducible refine wpQuiet_step ?_
                  intro K hK
                  go_simp
                  first
                    | (with_reducible refine hK _ ?_)
                    | (with_reducible refine ⟨_, fun _ _ => rfl, hK _ ?_⟩)
                  clear hK K
                  try simp only [Act.put, List.setIfInBounds_toArray, List.set_cons_zero, List.set_cons_succ]
                  with_reducible refine wpQuiet_step ?_
                  intro K hK
                  refine qs_load_cell (by rfl) 3 _ rfl ⟨lb, lo + q * 3, none⟩ rfl (.int .i64 xc) (fun w hw => HCX.out w hw) Try.isAgg3 (hK _ ?_)
                  clear hK K
                  try simp only [Act.put, List.setIfInBounds_toArray, List.set_cons_zero, List.set_cons_succ]
                  with_reducible refine wpQuiet_step ?_
                  intro K hK
                  go_simp
                  first
                    | (with_reducible refine hK _ ?_)
                    | (with_reducible refine ⟨_, fun _ _ => rfl, hK _ ?_⟩)
                  clear hK K
                  try simp only [Act.put, List.setIfInBounds_toArray, List.set_cons_zero, List.set_cons_succ]
                  with_reducible refine wpQuiet_step ?_
                  intro K hK
                  go_simp
                  first
                    | (with_reducible refine hK _ ?_)
                    | (with_reducible refine ⟨_, fun _ _ => rfl, hK _ ?_⟩)
                  clear hK K
                  try simp only [Act.put, List.setIfInBounds_toArray, List.set_cons_zero, List.set_cons_succ]
                  with_reducible refine wpQuiet_step ?_
                  intro K hK
                  go_simp
                  first
                    | (with_reducible refine hK _ ?_)
                    | (with_reducible refine ⟨_, fun _ _ => rfl, hK _ ?_⟩)
                  clear hK K
                  try simp only [Act.put, List.setIfInBounds_toArray, List.set_cons_zero, List.set_cons_succ]
                  refine wpQuiet_nil ?_
                  intro w8 hC8
                  have HX8 := Lib.hid (HCO.out _ hC8)
                  clear hC8 hCi HCO HCX HCY
                  go_wp2
                  go_roundw
                  case rel => exact ⟨j + 1, by omega, by go_num, congrArg Value.bool HN3.out, HX8⟩
                  case measure => simp [intOf]; omega
              · obtain rfl : j = G.length := by omega
                have f2 : decide ((G.length : Int) < (G.length : Int)) = false := by simp
                rw [List.take_length]
                have hoq := Lib.hid (ownsRow_below HOQ.out HBJ.out)
                have HBR : Hid (Below w5.heap.size w5 wr) := Lib.hid (HBQ.out.trans (HBJ.out.mono HBQ.out.size))
                obtain ⟨c0', c1', c2'⟩ := HLX.out wr HBJ.out
                by_cases ho : xc ∈ G
                · have f3 : decide (xc ∈ G) = true := decide_eq_true ho
                  rw [f3]
                  have hct : G.contains xc = true := by simpa using ho
                  have HE : Hid (leftI (L1.take (q + 1)) G = LQ) := Lib.hid (by rw [HTK.out, if_pos hct])
                  clear HTK
                  go_wp2
                  go_roundw
                  case rel => exact ⟨q + 1, by omega, by go_num, by rw [HE.out]; exact hoq, HBR⟩
                  case measure => simp [intOf]; omega
                · have f3 : decide (xc ∈ G) = false := decide_eq_false ho
                  rw [f3]
                  have hct : ¬ G.contains xc = true := by simpa using ho
                  have HE : Hid (leftI (L1.take (q + 1)) G = LQ ++ [(xc, xr, xe)]) := Lib.hid (by rw [HTK.out, if_neg hct])
                  have HFX : Hid (flatV itV (LQ ++ [(xc, xr, xe)]) = flatV itV LQ ++ [.int .i64 xc, .int .u64 xr, .bool xe]) := Lib.hid (by rw [flatV_snoc]; rfl)
                  have HFL : Hid ((flatV itV LQ).length = LQ.length * 3) := Lib.hid (flatV_len itV_k LQ)
                  clear HTK
                  go_wp2_with (first
                    | (at_builtin; go_loud (refine wpList_append_own_at _ rfl (.tmp 101) (.tmp 106) 25 rfl w5.heap.size 28 i0 (.agg #[.int .i64 0, .int .u64 0, .bool false]) 3 24 Try.underlying25 HI.out HZ0.out HS.out HY.out rfl (by decide) _ LQ.length (flatV itV LQ) rfl (hoq.out.alloc _) ⟨wr.heap.size, 0, none⟩ 1 1 [.int .i64 xc, .int .u64 xr, .bool xe] rfl rfl (cells_lit _ _ _) (by simp [Value.oneCell']) (by unfold maxLen; omega) (by omega) (by have := HBR.out.size; simp; omega) ?_))
                    | fail)
                  intro v4 w4 hown hgrow _ _
                  have HO4 : Hid (w4.ownsRow w5.heap.size 28 3 v4 (LQ ++ [(xc, xr, xe)]).length (flatV itV (LQ ++ [(xc, xr, xe)]))) := Lib.hid (by rw [HFX.out, List.length_append, List.length_singleton]; exact hown)
                  have HB4 : Hid (Below w5.heap.size w5 w4) := Lib.hid ((HBR.out.alloc HBR.out.size _).grown hgrow (by have := HBR.out.size; simp; omega) (fun j hj => (hoq.out.lt j hj).1))
                  clear hown hgrow
                  go_wp2
                  go_roundw
                  case rel => exact ⟨q + 1, by omega, by go_num, by rw [HE.out]; exact HO4, HB4⟩
                  case measure => simp [intOf]; omega
          · obtain rfl : q = L1.length := by omega
            have f1 : decide ((L1.length : Int) < (L1.length : Int)) = false := by simp
            rw [List.take_length] at HOQ
            obtain ⟨L2, hL2⟩ : ∃ L2, leftI L1 G = L2 := ⟨_, rfl⟩
            rw [hL2] at HOQ HLN hll
            clear hL2
            obtain ⟨ma, mc, rfl, -, -, -⟩ := itV_at (SlK.of_owns HOQ.out)
            have g1 : (((L2.length : Int) + (G.length : Int)) != (L1.length : Int)) = false := by
              have : (L2.length : Int) + (G.length : Int) = (L1.length : Int) := by omega
              simp [this]
            have g2 : decide ((c : Int) < (L2.length : Int)) = false := decide_eq_false (by omega)
            have g2' : decide (c < L2.length) = false := decide_eq_false (by omega)
            have hl2c : L2.length ≤ c + (k + 1) % b := by omega
            clear hll
            have HO9 : Hid (wr.ownsRow wo.heap.size 28 3 (.slice ma L2.length mc) L2.length (flatV itV L2)) := Lib.hid (own_base16 HOQ.out HB5.out.size)
            have HB9 : Hid (Below wo.heap.size wo wr) := Lib.hid (HB5.out.trans (HBQ.out.mono HB5.out.size))
            go_wp2
            go_roundw
            case rel => exact ⟨k + 1, L2, by omega, by go_num, hl2c, HLN, HO9, HB9⟩
            case measure => simp [intOf]; omega
      · have q0 : ((((k + 1) % b : Nat) : Int) != 0) = true := by
          rw [bne_iff_ne]
          omega
        have hst : (k + 1) % b = k % b + 1 := by
          rcases step_mod hb1.1 k with h | h
          · omega
          · exact h
        go_wp2
        go_roundw
        case rel => exact ⟨k + 1, L1, by omega, by go_num, by omega, HL1, HO2, HB2⟩
        case measure => simp [intOf]; omega
    · obtain rfl : k = n := by omega
      have hd : decide ((k : Int) < (k : Int)) = false := by simp
      go_wp2
      go_ret
      exact ⟨rfl, HB1.out.trans (HB.out.mono HB1.out.size)⟩
end Go.Proofs.Ytmnnfhplgepiaaa
