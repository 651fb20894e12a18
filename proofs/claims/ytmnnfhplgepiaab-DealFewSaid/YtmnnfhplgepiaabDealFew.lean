/-
  The walk of the law DealFew: as few items as can be lie in the stash, or are lost.
-/
import Derived.Test.YtmnnfhplgepiaabDealY
import Derived.Test.YtmnnfhplgepiaabDealH
import Derived.Test.YtmnnfhplgepiaabDItem
import Derived.Test.YtmnnfhplgepiaabAs9
namespace Go.Proofs.Ytmnnfhplgepiaab
open Go Go.RowKit Go.Sg
set_option maxHeartbeats 8000000 in
set_option maxRecDepth 100000 in
theorem DealFew_walk (s : Sh) (v : Value) (l : List Di) (w : World) (_n1 : Num s.1) (_n2 : Num s.2.1) (_n3 : Num s.2.2) (hv : SlK diV w v l) (_ho : ∀ x ∈ l, DiOk x) :
    Calls Try.prog 5 #[.agg #[.int .i64 s.1, .int .i64 s.2.1, .int .i64 s.2.2], v] w fun e w' => e = .returned (.bool true) ∧ Below w.heap.size w w' := by
  have KS := Lib.hid (fun w' => shown9 w')
  have KR := Lib.hid (fun w' => right_any s w')
  have KP := Lib.hid (fun w' => places_any s w')
  have HV := Lib.hid hv
  obtain ⟨a, cap, rfl, h1, h2, _⟩ := hv
  unfold maxLen at h2
  have HBW : Hid (Below w.heap.size w (w.alloc (.cells #[.int .i64 s.1, .int .i64 s.2.1, .int .i64 s.2.2] 23))) := Lib.hid ((Below.refl _ _).alloc (Nat.le_refl _) _)
  have HBK : Hid (Blk (w.alloc (.cells #[.int .i64 s.1, .int .i64 s.2.1, .int .i64 s.2.2] 23)) w.heap.size #[.int .i64 s.1, .int .i64 s.2.1, .int .i64 s.2.2] 23) := Lib.hid (Blk.new w _ _)
  rcases hr : rightD s with _ | _
  · rw [hr] at KR
    clear hr
    go_enter Try.func5, Try.ntmps5
    go_wp2_with fail
    refine (KS.out _).mono ?_
    rintro e w2 ⟨rfl, hb2⟩
    have HB2 : Hid (Below w.heap.size w w2) := Lib.hid (HBW.out.trans (hb2.mono HBW.out.size))
    have HK2 := Lib.hid (HBK.out.below hb2 HBK.out.lt)
    have c0 : w2.cell? ⟨w.heap.size, 0, none⟩ = some (.int .i64 s.1) := HK2.out.cell 0
    have c1 : w2.cell? ⟨w.heap.size, 1, none⟩ = some (.int .i64 s.2.1) := HK2.out.cell 1
    have c2 : w2.cell? ⟨w.heap.size, 2, none⟩ = some (.int .i64 s.2.2) := HK2.out.cell 2
    clear hb2
    go_wp2_with fail
    refine (KR.out _).mono ?_
    rintro e w3 ⟨rfl, hb3⟩
    have HB3 : Hid (Below w.heap.size w w3) := Lib.hid (HB2.out.trans (hb3.mono HB2.out.size))
    clear hb3
    go_wp2
    go_ret
    exact ⟨rfl, HB3.out⟩
  by_cases hL : 160 < l.length
  · rw [hr] at KR
    clear hr
    have d3 : decide ((160 : Int) < (l.length : Int)) = true := decide_eq_true (by omega)
    have d3' : decide (160 < l.length) = true := decide_eq_true hL
    go_enter Try.func5, Try.ntmps5
    go_wp2_with fail
    refine (KS.out _).mono ?_
    rintro e w2 ⟨rfl, hb2⟩
    have HB2 : Hid (Below w.heap.size w w2) := Lib.hid (HBW.out.trans (hb2.mono HBW.out.size))
    have HK2 := Lib.hid (HBK.out.below hb2 HBK.out.lt)
    have c0 : w2.cell? ⟨w.heap.size, 0, none⟩ = some (.int .i64 s.1) := HK2.out.cell 0
    have c1 : w2.cell? ⟨w.heap.size, 1, none⟩ = some (.int .i64 s.2.1) := HK2.out.cell 1
    have c2 : w2.cell? ⟨w.heap.size, 2, none⟩ = some (.int .i64 s.2.2) := HK2.out.cell 2
    clear hb2
    go_wp2_with fail
    refine (KR.out _).mono ?_
    rintro e w3 ⟨rfl, hb3⟩
    have HB3 : Hid (Below w.heap.size w w3) := Lib.hid (HB2.out.trans (hb3.mono HB2.out.size))
    clear hb3
    go_wp2
    go_ret
    exact ⟨rfl, HB3.out⟩
  have d3 : decide ((160 : Int) < (l.length : Int)) = false := decide_eq_false (by omega)
  have d3' : decide (160 < l.length) = false := decide_eq_false hL
  have hs' := rightD_iff.1 hr
  have hlb := levelsD_bd hr
  have hpd : placesD s = levelsD s + s.2.2 + 1 := by unfold placesD; rw [if_pos hr]
  have hpb := placesD_bd s
  obtain ⟨n, hn⟩ : ∃ n : Nat, placesD s = n := ⟨_, (Int.toNat_of_nonneg hpb.1).symm⟩
  have HNP := Lib.hid hn.symm
  rw [hn] at KP
  have hn1 : 3 ≤ n ∧ n ≤ 153 := by omega
  have hnl : levelsD s + s.2.2 + 1 = (n : Int) := by omega
  have HRT := Lib.hid hr
  rw [hr] at KR
  have HNL := Lib.hid hnl
  clear hpd hpb hn hr hnl
  obtain ⟨u1, u2, u3, u4, u5', u6⟩ := hs'
  go_enter Try.func5, Try.ntmps5
  go_wp2_with fail
  refine (KS.out _).mono ?_
  rintro e w2 ⟨rfl, hb2⟩
  have HB2 : Hid (Below w.heap.size w w2) := Lib.hid (HBW.out.trans (hb2.mono HBW.out.size))
  have HK2 := Lib.hid (HBK.out.below hb2 HBK.out.lt)
  have c0 : w2.cell? ⟨w.heap.size, 0, none⟩ = some (.int .i64 s.1) := HK2.out.cell 0
  have c1 : w2.cell? ⟨w.heap.size, 1, none⟩ = some (.int .i64 s.2.1) := HK2.out.cell 1
  have c2 : w2.cell? ⟨w.heap.size, 2, none⟩ = some (.int .i64 s.2.2) := HK2.out.cell 2
  clear hb2 KS HBW HBK
  go_wp2_with fail
  refine (KR.out _).mono ?_
  rintro e w3 ⟨rfl, hb3⟩
  have HB3 : Hid (Below w.heap.size w w3) := Lib.hid (HB2.out.trans (hb3.mono HB2.out.size))
  have HK3 := Lib.hid (HK2.out.below hb3 HK2.out.lt)
  have c0' : w3.cell? ⟨w.heap.size, 0, none⟩ = some (.int .i64 s.1) := HK3.out.cell 0
  have c1' : w3.cell? ⟨w.heap.size, 1, none⟩ = some (.int .i64 s.2.1) := HK3.out.cell 1
  have c2' : w3.cell? ⟨w.heap.size, 2, none⟩ = some (.int .i64 s.2.2) := HK3.out.cell 2
  clear hb3 c0 c1 c2 HB2 HK2 KR
  go_wp2_with fail
  refine (KP.out _).mono ?_
  rintro e w4 ⟨rfl, hb4⟩
  have HB4 : Hid (Below w.heap.size w w4) := Lib.hid (HB3.out.trans (hb4.mono HB3.out.size))
  have HK4 := Lib.hid (HK3.out.below hb4 HK3.out.lt)
  have KF := Lib.hid (filled_any l n (by omega) _ w4 (HV.out.below HB4.out))
  clear hb4 c0' c1' c2' HB3 HK3 KP d3 d3' hL HV
  go_wp2_with fail
  refine KF.out.mono ?_
  rintro e w5 ⟨kv, rfl, hown, hb5⟩
  have HB5 : Hid (Below w.heap.size w w5) := Lib.hid (HB4.out.trans (hb5.mono HB4.out.size))
  have HK5 := Lib.hid (HK4.out.below hb5 HK4.out.lt)
  obtain ⟨K, hK⟩ : ∃ K, mkD (fillF l) n = K := ⟨_, rfl⟩
  have hKl : K.length = n := by rw [← hK, mkD_len]
  rw [hK] at hown
  have hsl := SlK.of_owns (w := w5) (v := kv) (l := K) (by rw [hKl]; exact hown)
  have KD := Lib.hid (deal_any s K kv w5 hsl)
  obtain ⟨ka, kc, rfl, -, -, hka⟩ := diV_at hsl
  rw [hKl] at KD ⊢
  have HKC : Hid (∀ w', Below w5.heap.size w5 w' → ∀ i, i < n → ∃ b off, ka = some ⟨b, off, none⟩ ∧ w'.cell? ⟨b, off + i * 2 + 1, none⟩ = some (.int .i64 (getD' K (i : Int)).2)) := Lib.hid fun w' h i hi => by
    obtain ⟨b, off, h1, h2, h3, h4⟩ := hka i (by omega)
    have hgd : getD' K (i : Int) = K[i] := by unfold getD'; simp [List.getD_eq_getElem?_getD, List.getElem?_eq_getElem (show i < K.length by omega)]
    rw [hgd]
    exact ⟨b, off, h1, (h.cell (p := ⟨b, off + i * 2 + 1, none⟩) h2).trans h4⟩
  have HPE := Lib.hid (dealP_eq HRT.out HNP.out hKl)
  have HPP := Lib.hid (deal_perm HRT.out HNP.out hKl)
  have hof : ∀ D : Nat, s.1 = (D : Int) → ((dealLost s K).length : Int) = max 0 (mostD s K n (D + 1) - s.2.2) ∧ ((dealLost s K).length = 0 → (((List.range n).countP (overN s K n) : Nat) : Int) = mostD s K n (D + 1)) := fun D hD => ⟨(few_facts HRT.out HNP.out hKl hD).1, fun h => (few_facts HRT.out HNP.out hKl hD).2 (List.length_eq_zero_iff.1 h)⟩
  clear hb5 hown hsl hka HK4 HB4 KF hK hKl
  have c0 : w5.cell? ⟨w.heap.size, 0, none⟩ = some (.int .i64 s.1) := HK5.out.cell 0
  have c1 : w5.cell? ⟨w.heap.size, 1, none⟩ = some (.int .i64 s.2.1) := HK5.out.cell 1
  have c2 : w5.cell? ⟨w.heap.size, 2, none⟩ = some (.int .i64 s.2.2) := HK5.out.cell 2
  go_wp2_with fail
  refine KD.out.mono ?_
  rintro e w6 ⟨v1, v2, rfl, hv1, hv2, hb6⟩
  obtain ⟨a1, cc1, rfl⟩ := hv1.len
  obtain ⟨a2, cc2, rfl⟩ := hv2.len
  obtain ⟨LL, hLL⟩ : ∃ LL : Nat, (dealLost s K).length = LL := ⟨_, rfl⟩
  have hpl : (dealP s K).length = n := by rw [HPE.out]; simp
  have HPC : Hid (∀ w', Below w6.heap.size w6 w' → ∀ i, i < n → ∃ b off, a1 = some ⟨b, off, none⟩ ∧ w'.cell? ⟨b, off + i, none⟩ = some (.int .i64 (endG s K i))) := Lib.hid fun w' h i hi => by
    rcases hv1.below h with ⟨h, _⟩ | ⟨_, b, off, cap, h1, _, _, _, h2⟩
    · have := congrArg List.length h
      rw [List.length_map, hpl] at this
      simp at this
      omega
    · have h3 := h2 i (by rw [List.length_map, hpl]; omega)
      simp only [Value.slice.injEq] at h1
      refine ⟨b, off, h1.1, ?_⟩
      rw [h3, List.getElem_map]
      simp only [HPE.out, List.getElem_map, List.getElem_range]
  rw [List.length_map, List.length_map, hpl, hLL]
  rw [hLL] at hof
  clear hpl hLL
  have HB6 : Hid (Below w.heap.size w w6) := Lib.hid (HB5.out.trans (hb6.mono HB5.out.size))
  have HK6 := Lib.hid (HK5.out.below hb6 HK5.out.lt)
  have HB56 := Lib.hid hb6
  have q1 : ((n : Int) != (n : Int)) = false := by simp
  clear hb6 hv1 hv2 c0 c1 c2 KD HK5 HB5
  obtain ⟨D, hD⟩ : ∃ D : Nat, s.1 = (D : Int) := ⟨s.1.toNat, by omega⟩
  have HFO := Lib.hid (hof D hD)
  have HDD := Lib.hid hD
  have hD10 : D ≤ 10 := by omega
  have hD11 : (D : Int) ≤ 10 := by omega
  rw [hD] at HK6
  rw [hD]
  clear hof hD u1 u2
  have HPM := Lib.hid (fun i (hi : i < n) => show 0 ≤ endG s K i ∧ endG s K i < n from by
    have : endG s K i ∈ dealP s K := by rw [HPE.out]; exact List.mem_map_of_mem (List.mem_range.2 hi)
    rw [HPP.out.mem_iff, idx_mem] at this
    exact this)
  have HLV := Lib.hid (show levelsD s = s.2.1 * ((D : Int) + 1) by rw [← HDD.out]; rfl)
  have HBA : Hid (∀ w', Below w6.heap.size w6 w' → Below w5.heap.size w5 w') := Lib.hid fun w' h => HB56.out.trans (h.mono HB56.out.size)
  have HMB : Hid (∀ d : Nat, d ≤ 11 → 0 ≤ mostD s K n d ∧ mostD s K n d ≤ n) := Lib.hid fun d => by
    induction d with
    | zero => intro _; exact ⟨Int.le_refl _, by show (0 : Int) ≤ n; omega⟩
    | succ d ih =>
      intro hd
      have h1 := ih (by omega)
      have h2 : (List.range n).countP (inN s K d) ≤ n := by simpa using List.countP_le_length (p := inN s K d) (l := List.range n)
      have h3 : 0 ≤ s.2.1 * ((d : Int) + 1) := Int.mul_nonneg (by omega) (by omega)
      rw [mostD]
      omega
  clear HPE HPP
  go_wp2_with fail
  go_loopw [10, 11, 12, 13] (fun mv dv _ _ wr => ∃ d : Nat, d ≤ D + 1 ∧ mv = .int .i64 (mostD s K n d) ∧ dv = .int .i64 d ∧ Hid (Below w6.heap.size w6 wr)) (fun _ dv _ _ _ => D + 1 - (intOf dv).toNat)
  case atStart => exact ⟨0, by omega, rfl, rfl, Lib.hid (Below.refl _ _)⟩
  case round =>
    obtain ⟨d, hd, rfl, rfl, HBD⟩ := hrel
    have HKD := Lib.hid (HK6.out.below HBD.out HK6.out.lt)
    have s0 : wr.cell? ⟨w.heap.size, 0, none⟩ = some (.int .i64 (D : Int)) := HKD.out.cell 0
    by_cases hdl : d ≤ D
    · have g1 : decide ((d : Int) ≤ (D : Int)) = true := decide_eq_true (by omega)
      have g1' : decide (d ≤ D) = true := decide_eq_true hdl
      have HMD := Lib.hid (show mostD s K n (d + 1) = max (mostD s K n d) (((List.range n).countP (inN s K d) : Nat) - s.2.1 * ((d : Int) + 1)) from rfl)
      have hmb := HMB.out d (by omega)
      obtain ⟨md, hmd⟩ : ∃ md, mostD s K n d = md := ⟨_, rfl⟩
      rw [hmd] at HMD hmb
      rw [hmd]
      clear hmd
      go_wp2_with fail
      obtain ⟨wq, rfl⟩ : ∃ wq : World, wq = wr := ⟨_, rfl⟩
      go_loopw [12, 13] (fun cv iv wr => ∃ t : Nat, t ≤ n ∧ cv = .int .i64 ((List.range t).countP (inN s K d) : Nat) ∧ iv = .int .i64 t ∧ Hid (Below w6.heap.size w6 wr)) (fun _ iv _ => n - (intOf iv).toNat)
      case atStart => exact ⟨0, by omega, by simp, rfl, HBD⟩
      case round =>
        obtain ⟨t, ht, rfl, rfl, HBT⟩ := hrel
        have HKT := Lib.hid (HK6.out.below HBT.out HK6.out.lt)
        have s0 : wr.cell? ⟨w.heap.size, 0, none⟩ = some (.int .i64 (D : Int)) := HKT.out.cell 0
        have s1 : wr.cell? ⟨w.heap.size, 1, none⟩ = some (.int .i64 s.2.1) := HKT.out.cell 1
        have hcb : (List.range t).countP (inN s K d) ≤ t := by simpa using List.countP_le_length (p := inN s K d) (l := List.range t)
        by_cases hlt : t < n
        · obtain ⟨b, off, rfl, e1⟩ := HKC.out wr (HBA.out _ HBT.out) t hlt
          obtain ⟨deep, hdp⟩ : ∃ deep, (getD' K (t : Int)).2 = deep := ⟨_, rfl⟩
          have HC : Hid ((List.range (t + 1)).countP (inN s K d) = (List.range t).countP (inN s K d) + if (decide (0 ≤ deep) && decide (min deep (D : Int) ≤ (d : Int))) = true then 1 else 0) := Lib.hid (by rw [List.range_succ, List.countP_append, List.countP_singleton, ← hdp, ← HDD.out]; rfl)
          rw [hdp] at e1
          have e1' : wr.drew.cell? ⟨b, off + t * 2 + 1, none⟩ = some (.int .i64 deep) := e1
          have s0' : wr.drew.cell? ⟨w.heap.size, 0, none⟩ = some (.int .i64 (D : Int)) := s0
          generalize (List.range t).countP (inN s K d) = c at *
          have t0 : (0 : Int) ≤ (t : Int) := by omega
          have t1 : (t : Int) < (n : Int) := by omega
          clear hdp s1
          go_upto_region 17 with fail
          by_cases h0 : 0 ≤ deep
          · have d7 : decide (0 ≤ deep) = true := decide_eq_true h0
            by_cases hdD : deep < (D : Int)
            · have d8 : decide (deep < (D : Int)) = true := decide_eq_true hdD
              rw [d7, Int.min_eq_left (by omega)] at HC
              by_cases hin : deep ≤ (d : Int)
              · have d9 : decide (deep ≤ (d : Int)) = true := decide_eq_true hin
                rw [d9] at HC
                go_quiet (fail)
                go_wp2_with fail
                go_roundw
                case rel => exact ⟨t + 1, by omega, by rw [HC.out]; simp, by go_num, Lib.hid ⟨HBT.out.os, HBT.out.tape, HBT.out.output, HBT.out.size, HBT.out.block⟩⟩
                case measure => simp [intOf]; omega
              · have d9 : decide (deep ≤ (d : Int)) = false := decide_eq_false hin
                rw [d9] at HC
                go_quiet (fail)
                go_wp2_with fail
                go_roundw
                case rel => exact ⟨t + 1, by omega, by rw [HC.out]; simp, by go_num, Lib.hid ⟨HBT.out.os, HBT.out.tape, HBT.out.output, HBT.out.size, HBT.out.block⟩⟩
                case measure => simp [intOf]; omega
            · have d8 : decide (deep < (D : Int)) = false := decide_eq_false hdD
              rw [d7, Int.min_eq_right (by omega)] at HC
              by_cases hin : (D : Int) ≤ (d : Int)
              · have d9 : decide ((D : Int) ≤ (d : Int)) = true := decide_eq_true hin
                have d9' : decide (D ≤ d) = true := decide_eq_true (by omega)
                rw [d9] at HC
                go_quiet (fail)
                go_wp2_with fail
                go_roundw
                case rel => exact ⟨t + 1, by omega, by rw [HC.out]; simp, by go_num, Lib.hid ⟨HBT.out.os, HBT.out.tape, HBT.out.output, HBT.out.size, HBT.out.block⟩⟩
                case measure => simp [intOf]; omega
              · have d9 : decide ((D : Int) ≤ (d : Int)) = false := decide_eq_false hin
                have d9' : decide (D ≤ d) = false := decide_eq_false (by omega)
                rw [d9] at HC
                go_quiet (fail)
                go_wp2_with fail
                go_roundw
                case rel => exact ⟨t + 1, by omega, by rw [HC.out]; simp, by go_num, Lib.hid ⟨HBT.out.os, HBT.out.tape, HBT.out.output, HBT.out.size, HBT.out.block⟩⟩
                case measure => simp [intOf]; omega
          · have d7 : decide (0 ≤ deep) = false := decide_eq_false h0
            rw [d7] at HC
            go_quiet (fail)
            go_wp2_with fail
            go_roundw
            case rel => exact ⟨t + 1, by omega, by rw [HC.out]; simp, by go_num, Lib.hid ⟨HBT.out.os, HBT.out.tape, HBT.out.output, HBT.out.size, HBT.out.block⟩⟩
            case measure => simp [intOf]; omega
        · obtain rfl : t = n := by omega
          obtain ⟨c, hc⟩ : ∃ c, (List.range t).countP (inN s K d) = c := ⟨_, rfl⟩
          rw [hc] at HMD hcb ⊢
          obtain ⟨P, hP⟩ : ∃ P, s.2.1 * ((d : Int) + 1) = P := ⟨_, rfl⟩
          have hP0 : 0 ≤ P := by rw [← hP]; exact Int.mul_nonneg (by omega) (by omega)
          have hP1 : P ≤ 8 * ((d : Int) + 1) := by rw [← hP]; exact Int.mul_le_mul_of_nonneg_right (by omega) (by omega)
          rw [hP] at HMD
          have w1 : IntKind.i64.wrap ((d : Int) + 1) = (d : Int) + 1 := by rw [IntKind.wrap_i64]; omega
          have w2 : IntKind.i64.wrap (s.2.1 * ((d : Int) + 1)) = P := by rw [hP, IntKind.wrap_i64]; omega
          have w3 : IntKind.i64.wrap ((c : Int) - P) = (c : Int) - P := by rw [IntKind.wrap_i64]; omega
          clear hc hP
          by_cases hx : md < (c : Int) - P
          · have d1 : decide (md < (c : Int) - P) = true := decide_eq_true hx
            have HMX : Hid (mostD s K t (d + 1) = (c : Int) - P) := Lib.hid (by rw [HMD.out]; omega)
            go_wp2_with fail
            go_roundw
            case rel => exact ⟨d + 1, by omega, by rw [HMX.out], by go_num, HBT⟩
            case measure => simp [intOf]; omega
          · have d1 : decide (md < (c : Int) - P) = false := decide_eq_false hx
            have HMX : Hid (mostD s K t (d + 1) = md) := Lib.hid (by rw [HMD.out]; omega)
            go_wp2_with fail
            go_roundw
            case rel => exact ⟨d + 1, by omega, by rw [HMX.out], by go_num, HBT⟩
            case measure => simp [intOf]; omega
    · obtain rfl : d = D + 1 := by omega
      have g1 : decide (((D + 1 : Nat) : Int) ≤ (D : Int)) = false := decide_eq_false (by omega)
      have g1' : decide (D + 1 ≤ D) = false := decide_eq_false (by omega)
      have hmb := HMB.out (D + 1) (by omega)
      obtain ⟨m, hm⟩ : ∃ m, mostD s K n (D + 1) = m := ⟨_, rfl⟩
      rw [hm] at HFO hmb
      rw [hm]
      clear hm HMB
      have w0 : IntKind.i64.wrap ((n : Int) - 1) = (n : Int) - 1 := by rw [IntKind.wrap_i64]; omega
      have w1 : IntKind.i64.wrap ((D : Int) + 1) = (D : Int) + 1 := by rw [IntKind.wrap_i64]; omega
      have w2 : IntKind.i64.wrap (s.2.1 * ((D : Int) + 1)) = levelsD s := by rw [← HLV.out, IntKind.wrap_i64]; omega
      go_wp2_with fail
      obtain ⟨wq, rfl⟩ : ∃ wq : World, wq = wr := ⟨_, rfl⟩
      go_loopw [14, 15] (fun ov iv wr => ∃ t : Nat, t ≤ n ∧ ov = .int .i64 ((List.range t).countP (overN s K n) : Nat) ∧ iv = .int .i64 t ∧ Hid (Below w6.heap.size w6 wr)) (fun _ iv _ => n - (intOf iv).toNat)
      case atStart => exact ⟨0, by omega, by simp, rfl, HBD⟩
      case round =>
        obtain ⟨t, ht, rfl, rfl, HBT⟩ := hrel
        have HKT := Lib.hid (HK6.out.below HBT.out HK6.out.lt)
        have s0 : wr.cell? ⟨w.heap.size, 0, none⟩ = some (.int .i64 (D : Int)) := HKT.out.cell 0
        have s1 : wr.cell? ⟨w.heap.size, 1, none⟩ = some (.int .i64 s.2.1) := HKT.out.cell 1
        have s2 : wr.cell? ⟨w.heap.size, 2, none⟩ = some (.int .i64 s.2.2) := HKT.out.cell 2
        have hcb : (List.range t).countP (overN s K n) ≤ t := by simpa using List.countP_le_length (p := overN s K n) (l := List.range t)
        by_cases hlt : t < n
        · obtain ⟨b, off, rfl, e1⟩ := HKC.out wr (HBA.out _ HBT.out) t hlt
          obtain ⟨b1, off1, rfl, p1⟩ := HPC.out wr HBT.out t hlt
          have hpm := HPM.out t hlt
          obtain ⟨deep, hdp⟩ : ∃ deep, (getD' K (t : Int)).2 = deep := ⟨_, rfl⟩
          obtain ⟨q, hq⟩ : ∃ q, endG s K t = q := ⟨_, rfl⟩
          have HC : Hid ((List.range (t + 1)).countP (overN s K n) = (List.range t).countP (overN s K n) + if ((decide (0 ≤ deep) && decide (levelsD s ≤ q)) && decide (q < (n : Int) - 1)) = true then 1 else 0) := Lib.hid (by rw [List.range_succ, List.countP_append, List.countP_singleton, ← hdp, ← hq]; rfl)
          rw [hdp] at e1
          rw [hq] at p1 hpm
          have e1' : wr.drew.cell? ⟨b, off + t * 2 + 1, none⟩ = some (.int .i64 deep) := e1
          have p1' : wr.drew.cell? ⟨b1, off1 + t, none⟩ = some (.int .i64 q) := p1
          have s0' : wr.drew.cell? ⟨w.heap.size, 0, none⟩ = some (.int .i64 (D : Int)) := s0
          have s1' : wr.drew.cell? ⟨w.heap.size, 1, none⟩ = some (.int .i64 s.2.1) := s1
          generalize (List.range t).countP (overN s K n) = c at *
          have t0 : (0 : Int) ≤ (t : Int) := by omega
          have t1 : (t : Int) < (n : Int) := by omega
          clear hdp hq s2 g1 g1'
          go_upto_region 24 with fail
          by_cases h0 : 0 ≤ deep
          · have d7 : decide (0 ≤ deep) = true := decide_eq_true h0
            by_cases h1 : levelsD s ≤ q
            · have d8 : decide (levelsD s ≤ q) = true := decide_eq_true h1
              by_cases h2 : q < (n : Int) - 1
              · have d9 : decide (q < (n : Int) - 1) = true := decide_eq_true h2
                rw [d7, d8, d9] at HC
                go_quiet (fail)
                go_wp2_with fail
                go_roundw
                case rel => exact ⟨t + 1, by omega, by rw [HC.out]; simp, by go_num, Lib.hid ⟨HBT.out.os, HBT.out.tape, HBT.out.output, HBT.out.size, HBT.out.block⟩⟩
                case measure => simp [intOf]; omega
              · have d9 : decide (q < (n : Int) - 1) = false := decide_eq_false h2
                rw [d7, d8, d9] at HC
                go_quiet (fail)
                go_wp2_with fail
                go_roundw
                case rel => exact ⟨t + 1, by omega, by rw [HC.out]; simp, by go_num, Lib.hid ⟨HBT.out.os, HBT.out.tape, HBT.out.output, HBT.out.size, HBT.out.block⟩⟩
                case measure => simp [intOf]; omega
            · have d8 : decide (levelsD s ≤ q) = false := decide_eq_false h1
              rw [d7, d8] at HC
              go_quiet (fail)
              go_wp2_with fail
              go_roundw
              case rel => exact ⟨t + 1, by omega, by rw [HC.out]; simp, by go_num, Lib.hid ⟨HBT.out.os, HBT.out.tape, HBT.out.output, HBT.out.size, HBT.out.block⟩⟩
              case measure => simp [intOf]; omega
          · have d7 : decide (0 ≤ deep) = false := decide_eq_false h0
            rw [d7] at HC
            go_quiet (fail)
            go_wp2_with fail
            go_roundw
            case rel => exact ⟨t + 1, by omega, by rw [HC.out]; simp, by go_num, Lib.hid ⟨HBT.out.os, HBT.out.tape, HBT.out.output, HBT.out.size, HBT.out.block⟩⟩
            case measure => simp [intOf]; omega
        · obtain rfl : t = n := by omega
          obtain ⟨ov, hov⟩ : ∃ ov, (List.range t).countP (overN s K t) = ov := ⟨_, rfl⟩
          rw [hov] at HFO hcb ⊢
          clear hov
          have hfo := HFO.out.1
          have hfo2 := HFO.out.2
          have w3 : IntKind.i64.wrap (m - s.2.2) = m - s.2.2 := by rw [IntKind.wrap_i64]; omega
          have HBE : Hid (Below w.heap.size w wr) := Lib.hid (HB6.out.trans (HBT.out.mono HB6.out.size))
          by_cases hc : s.2.2 < m
          · have e1 : ((LL : Int) == m - s.2.2) = true := by simp; omega
            have e2 : decide ((0 : Int) < (LL : Int)) = true := decide_eq_true (by omega)
            have e2' : decide (0 < LL) = true := decide_eq_true (by omega)
            clear hfo hfo2
            go_wp2_with fail
            go_ret
            exact ⟨rfl, HBE.out⟩
          · have e0 : LL = 0 := by omega
            have e1 : ((LL : Int) == 0) = true := by simp; omega
            have e2 : decide ((0 : Int) < (LL : Int)) = false := decide_eq_false (by omega)
            have e2' : decide (0 < LL) = false := decide_eq_false (by omega)
            have e3 : ((ov : Int) == m) = true := by simp; exact hfo2 e0
            clear hfo hfo2 e0
            go_wp2_with fail
            go_ret
            exact ⟨rfl, HBE.out⟩
end Go.Proofs.Ytmnnfhplgepiaab
