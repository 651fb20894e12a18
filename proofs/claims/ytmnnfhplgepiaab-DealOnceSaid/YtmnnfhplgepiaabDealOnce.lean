/-
  The walk of the law DealOnce: each place is dealt once; no item lies deeper than it may.
-/
import Derived.Test.YtmnnfhplgepiaabDealY
import Derived.Test.YtmnnfhplgepiaabDealH
import Derived.Test.YtmnnfhplgepiaabDItem
import Derived.Test.YtmnnfhplgepiaabAs9
namespace Go.Proofs.Ytmnnfhplgepiaab
open Go Go.RowKit Go.Sg
set_option maxHeartbeats 8000000 in
set_option maxRecDepth 100000 in
theorem DealOnce_walk (s : Sh) (v : Value) (l : List Di) (w : World) (_n1 : Num s.1) (_n2 : Num s.2.1) (_n3 : Num s.2.2) (hv : SlK diV w v l) (_ho : ∀ x ∈ l, DiOk x) :
    Calls Try.prog 4 #[.agg #[.int .i64 s.1, .int .i64 s.2.1, .int .i64 s.2.2], v] w fun e w' => e = .returned (.bool true) ∧ Below w.heap.size w w' := by
  have KS := Lib.hid (fun w' => shown9 w')
  have KR := Lib.hid (fun w' => right_any s w')
  have KP := Lib.hid (fun w' => places_any s w')
  have HV := Lib.hid hv
  obtain ⟨a, cap, rfl, h1, h2, _⟩ := hv
  unfold maxLen at h2
  have HBW : Hid (Below w.heap.size w (w.alloc (.cells #[.int .i64 s.1, .int .i64 s.2.1, .int .i64 s.2.2] 23))) := Lib.hid ((Below.refl _ _).alloc (Nat.le_refl _) _)
  have HBK : Hid (Blk (w.alloc (.cells #[.int .i64 s.1, .int .i64 s.2.1, .int .i64 s.2.2] 23)) w.heap.size #[.int .i64 s.1, .int .i64 s.2.1, .int .i64 s.2.2] 23) := Lib.hid (Blk.new w _ _)
  rcases hr : rightD s with _ | _
  · rw [hr] at KR
    clear hr
    go_enter Try.func4, Try.ntmps4
    go_wp2_with fail
    refine (KS.out _).mono ?_
    rintro e w2 ⟨rfl, hb2⟩
    have HB2 : Hid (Below w.heap.size w w2) := Lib.hid (HBW.out.trans (hb2.mono HBW.out.size))
    have HK2 := Lib.hid (HBK.out.below hb2 HBK.out.lt)
    have c0 : w2.cell? ⟨w.heap.size, 0, none⟩ = some (.int .i64 s.1) := HK2.out.cell 0
    have c1 : w2.cell? ⟨w.heap.size, 1, none⟩ = some (.int .i64 s.2.1) := HK2.out.cell 1
    have c2 : w2.cell? ⟨w.heap.size, 2, none⟩ = some (.int .i64 s.2.2) := HK2.out.cell 2
    clear hb2
    go_wp2_with fail
    refine (KR.out _).mono ?_
    rintro e w3 ⟨rfl, hb3⟩
    have HB3 : Hid (Below w.heap.size w w3) := Lib.hid (HB2.out.trans (hb3.mono HB2.out.size))
    clear hb3
    go_wp2
    go_ret
    exact ⟨rfl, HB3.out⟩
  by_cases hL : 160 < l.length
  · rw [hr] at KR
    clear hr
    have d3 : decide ((160 : Int) < (l.length : Int)) = true := decide_eq_true (by omega)
    have d3' : decide (160 < l.length) = true := decide_eq_true hL
    go_enter Try.func4, Try.ntmps4
    go_wp2_with fail
    refine (KS.out _).mono ?_
    rintro e w2 ⟨rfl, hb2⟩
    have HB2 : Hid (Below w.heap.size w w2) := Lib.hid (HBW.out.trans (hb2.mono HBW.out.size))
    have HK2 := Lib.hid (HBK.out.below hb2 HBK.out.lt)
    have c0 : w2.cell? ⟨w.heap.size, 0, none⟩ = some (.int .i64 s.1) := HK2.out.cell 0
    have c1 : w2.cell? ⟨w.heap.size, 1, none⟩ = some (.int .i64 s.2.1) := HK2.out.cell 1
    have c2 : w2.cell? ⟨w.heap.size, 2, none⟩ = some (.int .i64 s.2.2) := HK2.out.cell 2
    clear hb2
    go_wp2_with fail
    refine (KR.out _).mono ?_
    rintro e w3 ⟨rfl, hb3⟩
    have HB3 : Hid (Below w.heap.size w w3) := Lib.hid (HB2.out.trans (hb3.mono HB2.out.size))
    clear hb3
    go_wp2
    go_ret
    exact ⟨rfl, HB3.out⟩
  have d3 : decide ((160 : Int) < (l.length : Int)) = false := decide_eq_false (by omega)
  have d3' : decide (160 < l.length) = false := decide_eq_false hL
  have hs' := rightD_iff.1 hr
  have hlb := levelsD_bd hr
  have hpd : placesD s = levelsD s + s.2.2 + 1 := by unfold placesD; rw [if_pos hr]
  have hpb := placesD_bd s
  obtain ⟨n, hn⟩ : ∃ n : Nat, placesD s = n := ⟨_, (Int.toNat_of_nonneg hpb.1).symm⟩
  have HNP := Lib.hid hn.symm
  rw [hn] at KP
  have hn1 : 3 ≤ n ∧ n ≤ 153 := by omega
  have hnl : levelsD s + s.2.2 + 1 = (n : Int) := by omega
  have HRT := Lib.hid hr
  rw [hr] at KR
  have HNL := Lib.hid hnl
  clear hpd hpb hn hr hnl
  obtain ⟨u1, u2, u3, u4, u5', u6⟩ := hs'
  go_enter Try.func4, Try.ntmps4
  go_wp2_with fail
  refine (KS.out _).mono ?_
  rintro e w2 ⟨rfl, hb2⟩
  have HB2 : Hid (Below w.heap.size w w2) := Lib.hid (HBW.out.trans (hb2.mono HBW.out.size))
  have HK2 := Lib.hid (HBK.out.below hb2 HBK.out.lt)
  have c0 : w2.cell? ⟨w.heap.size, 0, none⟩ = some (.int .i64 s.1) := HK2.out.cell 0
  have c1 : w2.cell? ⟨w.heap.size, 1, none⟩ = some (.int .i64 s.2.1) := HK2.out.cell 1
  have c2 : w2.cell? ⟨w.heap.size, 2, none⟩ = some (.int .i64 s.2.2) := HK2.out.cell 2
  clear hb2 KS HBW HBK
  go_wp2_with fail
  refine (KR.out _).mono ?_
  rintro e w3 ⟨rfl, hb3⟩
  have HB3 : Hid (Below w.heap.size w w3) := Lib.hid (HB2.out.trans (hb3.mono HB2.out.size))
  have HK3 := Lib.hid (HK2.out.below hb3 HK2.out.lt)
  have c0' : w3.cell? ⟨w.heap.size, 0, none⟩ = some (.int .i64 s.1) := HK3.out.cell 0
  have c1' : w3.cell? ⟨w.heap.size, 1, none⟩ = some (.int .i64 s.2.1) := HK3.out.cell 1
  have c2' : w3.cell? ⟨w.heap.size, 2, none⟩ = some (.int .i64 s.2.2) := HK3.out.cell 2
  clear hb3 c0 c1 c2 HB2 HK2 KR
  go_wp2_with fail
  refine (KP.out _).mono ?_
  rintro e w4 ⟨rfl, hb4⟩
  have HB4 : Hid (Below w.heap.size w w4) := Lib.hid (HB3.out.trans (hb4.mono HB3.out.size))
  have HK4 := Lib.hid (HK3.out.below hb4 HK3.out.lt)
  have KF := Lib.hid (filled_any l n (by omega) _ w4 (HV.out.below HB4.out))
  clear hb4 c0' c1' c2' HB3 HK3 KP d3 d3' hL HV
  go_wp2_with fail
  refine KF.out.mono ?_
  rintro e w5 ⟨kv, rfl, hown, hb5⟩
  have HB5 : Hid (Below w.heap.size w w5) := Lib.hid (HB4.out.trans (hb5.mono HB4.out.size))
  have HK5 := Lib.hid (HK4.out.below hb5 HK4.out.lt)
  obtain ⟨K, hK⟩ : ∃ K, mkD (fillF l) n = K := ⟨_, rfl⟩
  have hKl : K.length = n := by rw [← hK, mkD_len]
  rw [hK] at hown
  have hsl := SlK.of_owns (w := w5) (v := kv) (l := K) (by rw [hKl]; exact hown)
  have KD := Lib.hid (deal_any s K kv w5 hsl)
  obtain ⟨ka, kc, rfl, -, -, hka⟩ := diV_at hsl
  rw [hKl] at KD ⊢
  have HKC : Hid (∀ w', Below w5.heap.size w5 w' → ∀ i, i < n → ∃ b off, ka = some ⟨b, off, none⟩ ∧ w'.cell? ⟨b, off + i * 2 + 1, none⟩ = some (.int .i64 (getD' K (i : Int)).2)) := Lib.hid fun w' h i hi => by
    obtain ⟨b, off, h1, h2, h3, h4⟩ := hka i (by omega)
    have hgd : getD' K (i : Int) = K[i] := by unfold getD'; simp [List.getD_eq_getElem?_getD, List.getElem?_eq_getElem (show i < K.length by omega)]
    rw [hgd]
    exact ⟨b, off, h1, (h.cell (p := ⟨b, off + i * 2 + 1, none⟩) h2).trans h4⟩
  have HPE := Lib.hid (dealP_eq HRT.out HNP.out hKl)
  have HPP := Lib.hid (deal_perm HRT.out HNP.out hKl)
  have hof := once_facts HRT.out HNP.out hKl
  clear hb5 hown hsl hka HK4 HB4 KF hK hKl
  have c0 : w5.cell? ⟨w.heap.size, 0, none⟩ = some (.int .i64 s.1) := HK5.out.cell 0
  have c1 : w5.cell? ⟨w.heap.size, 1, none⟩ = some (.int .i64 s.2.1) := HK5.out.cell 1
  have c2 : w5.cell? ⟨w.heap.size, 2, none⟩ = some (.int .i64 s.2.2) := HK5.out.cell 2
  go_wp2_with fail
  refine KD.out.mono ?_
  rintro e w6 ⟨v1, v2, rfl, hv1, hv2, hb6⟩
  obtain ⟨a1, cc1, rfl⟩ := hv1.len
  obtain ⟨a2, cc2, rfl⟩ := hv2.len
  obtain ⟨LL, hLL⟩ : ∃ LL : Nat, (dealLost s K).length = LL := ⟨_, rfl⟩
  have hpl : (dealP s K).length = n := by rw [HPE.out]; simp
  have HPC : Hid (∀ w', Below w6.heap.size w6 w' → ∀ i, i < n → ∃ b off, a1 = some ⟨b, off, none⟩ ∧ w'.cell? ⟨b, off + i, none⟩ = some (.int .i64 (endG s K i))) := Lib.hid fun w' h i hi => by
    rcases hv1.below h with ⟨h, _⟩ | ⟨_, b, off, cap, h1, _, _, _, h2⟩
    · have := congrArg List.length h
      rw [List.length_map, hpl] at this
      simp at this
      omega
    · have h3 := h2 i (by rw [List.length_map, hpl]; omega)
      simp only [Value.slice.injEq] at h1
      refine ⟨b, off, h1.1, ?_⟩
      rw [h3, List.getElem_map]
      simp only [HPE.out, List.getElem_map, List.getElem_range]
  rw [List.length_map, List.length_map, hpl, hLL]
  rw [hLL] at hof
  clear hpl hLL
  have HB6 : Hid (Below w.heap.size w w6) := Lib.hid (HB5.out.trans (hb6.mono HB5.out.size))
  have HK6 := Lib.hid (HK5.out.below hb6 HK5.out.lt)
  have HB56 := Lib.hid hb6
  have q1 : ((n : Int) != (n : Int)) = false := by simp
  clear hb6 hv1 hv2 c0 c1 c2 KD HK5 HB5
  obtain ⟨i0, hi0, hz0, hz1, hz2⟩ := info_parts info_intD
  have HI := Lib.hid hi0
  have HZ := Lib.hid hz0
  have HS := Lib.hid hz1
  have HY := Lib.hid hz2
  clear hi0 hz0 hz1 hz2
  obtain ⟨PL, hPL⟩ : ∃ PL, dealP s K = PL := ⟨_, rfl⟩
  rw [hPL] at HPE HPP
  clear hPL
  have HG : Hid (∀ i, i < n → 0 ≤ endG s K i ∧ endG s K i < n) := Lib.hid fun i hi => by
    have : endG s K i ∈ PL := by rw [HPE.out]; exact List.mem_map_of_mem (List.mem_range.2 hi)
    rw [HPP.out.mem_iff, idx_mem] at this
    exact this
  have HCN : Hid (∀ i, i < n → ∀ x : Int, (PL.take (i + 1)).count x = (PL.take i).count x + if endG s K i = x then 1 else 0) := Lib.hid fun i hi x => by
    have hil : i < PL.length := by rw [HPE.out]; simpa using hi
    have hiv : PL[i] = endG s K i := by simp only [HPE.out, List.getElem_map, List.getElem_range]
    rw [List.take_succ_eq_append_getElem hil, List.count_append, List.count_singleton, hiv]
    simp only [beq_iff_eq]
  have HCE : Hid (∀ x, x < n → (PL.take n).count (x : Int) = 1) := Lib.hid fun x hx => by
    have : PL.length = n := by rw [HPE.out]; simp
    rw [← this, List.take_length, HPP.out.count_eq, (idx_nodup n).count, if_pos (idx_mem.2 ⟨by omega, by omega⟩)]
  have HFO := Lib.hid hof
  clear hof
  have HLV := Lib.hid (show levelsD s = s.2.1 * (s.1 + 1) from rfl)
  go_wp2_with (first
    | (at_make; go_loud (refine wpList_make_row _ rfl (.tmp 44) (.tmp 44) 30 rfl 3 i0 (.int .i64 0) Try.underlying30 HI.out HZ.out HS.out rfl .i64 .i64 n rfl rfl (by rw [HY.out]; omega) (by omega) ?_))
    | fail)
  obtain ⟨G, hG⟩ : ∃ G, w6.heap.size = G := ⟨_, rfl⟩
  have hrow := World.rowIs_made w6 (.int .i64 0) n 3
  have hb3 : Below w6.heap.size w6 (w6.alloc (.cells (madeCells #[.int .i64 0] n) 3)) := (Below.refl _ _).alloc (Nat.le_refl _) _
  rw [hG] at hrow ⊢
  have HGE := Lib.hid hG
  have HR := Lib.hid hrow
  have HB3 := Lib.hid hb3
  clear hrow hb3 hG
  generalize w6.alloc (.cells (madeCells #[.int .i64 0] n) 3) = w7 at *
  go_loopw [11, 12, 13] (fun ov rv iv wr => ∃ t : Nat, t ≤ n ∧ ov = .int .i64 ((List.range t).countP (badN s K n) : Nat) ∧ rv = .int .i64 ((List.range t).countP (realN K) : Nat) ∧ iv = .int .i64 t ∧ Hid (wr.rowIs G 3 n (fun x => .int .i64 ((PL.take t).count (x : Int) : Nat))) ∧ Hid (Below w6.heap.size w6 wr)) (fun _ _ iv _ => n - (intOf iv).toNat)
  case atStart => exact ⟨0, by omega, by simp, by simp, rfl, Lib.hid (HR.out.congr (fun i _ => by simp)), HB3⟩
  case round =>
    obtain ⟨t, ht, rfl, rfl, rfl, HRW, HBT⟩ := hrel
    have HBA : Hid (∀ w', Below w6.heap.size w6 w' → Below w5.heap.size w5 w') := Lib.hid fun w' h => HB56.out.trans (h.mono HB56.out.size)
    by_cases hlt : t < n
    · obtain ⟨q, hq⟩ : ∃ q : Nat, endG s K t = q := ⟨(endG s K t).toNat, by have := HG.out t hlt; omega⟩
      have hqb := HG.out t hlt
      obtain ⟨b, off, rfl, e1⟩ := HPC.out wr HBT.out t hlt
      have HP1 : Hid (∀ w', Below w6.heap.size w6 w' → w'.cell? ⟨b, off + t, none⟩ = some (.int .i64 (q : Int))) := Lib.hid fun w' h => by
        obtain ⟨b', off', e, h2⟩ := HPC.out w' h t hlt
        simp only [Option.some.injEq, Addr.mk.injEq, and_true] at e
        obtain ⟨rfl, rfl⟩ := e
        rw [h2, hq]
      rw [hq] at e1 hqb
      obtain ⟨b2, off2, rfl, -⟩ := HKC.out wr (HBA.out _ HBT.out) t hlt
      obtain ⟨deep, hdp⟩ : ∃ deep, (getD' K (t : Int)).2 = deep := ⟨_, rfl⟩
      have HK1 : Hid (∀ w', Below w6.heap.size w6 w' → w'.cell? ⟨b2, off2 + t * 2 + 1, none⟩ = some (.int .i64 deep)) := Lib.hid fun w' h => by
        obtain ⟨b', off', e, h2⟩ := HKC.out w' (HBA.out _ h) t hlt
        simp only [Option.some.injEq, Addr.mk.injEq, and_true] at e
        obtain ⟨rfl, rfl⟩ := e
        rw [h2, hdp]
      have hbad : badN s K n t = (decide (0 ≤ deep) && (decide ((q : Int) = (n : Int) - 1) || (decide ((q : Int) < levelsD s) && decide (deep < (q : Int) / s.2.1)))) := by unfold badN realN; rw [hdp, hq]
      have hrea : realN K t = decide (0 ≤ deep) := by unfold realN; rw [hdp]
      have HBN : Hid ((List.range (t + 1)).countP (badN s K n) = (List.range t).countP (badN s K n) + if (decide (0 ≤ deep) && (decide ((q : Int) = (n : Int) - 1) || (decide ((q : Int) < levelsD s) && decide (deep < (q : Int) / s.2.1)))) = true then 1 else 0) := Lib.hid (by rw [List.range_succ, List.countP_append, List.countP_singleton, hbad])
      have HRN : Hid ((List.range (t + 1)).countP (realN K) = (List.range t).countP (realN K) + if decide (0 ≤ deep) = true then 1 else 0) := Lib.hid (by rw [List.range_succ, List.countP_append, List.countP_singleton, hrea])
      have hC := HCN.out t hlt
      rw [hq] at hC
      have hob : (List.range t).countP (badN s K n) ≤ t := by simpa using List.countP_le_length (p := badN s K n) (l := List.range t)
      have hrb : (List.range t).countP (realN K) ≤ t := by simpa using List.countP_le_length (p := realN K) (l := List.range t)
      have c0 := HRW.out.cell (show q < n by omega)
      have f1 := HRW.out.frozen q
      have hcb : (PL.take t).count (q : Int) ≤ t := Nat.le_trans List.count_le_length (by rw [List.length_take]; omega)
      obtain ⟨c, hc⟩ : ∃ c, (PL.take t).count (q : Int) = c := ⟨_, rfl⟩
      rw [hc] at c0 hcb
      have HRX : Hid ((wr.setCell ⟨G, q, none⟩ (.int .i64 ((c : Int) + 1))).rowIs G 3 n (fun x => .int .i64 ((PL.take (t + 1)).count (x : Int) : Nat))) := Lib.hid ((HRW.out.set q (.int .i64 ((c : Int) + 1))).congr (fun i _ => by
        rw [hC]
        by_cases hij : i = q
        · subst hij; simp [hc]
        · have : ¬ ((q : Int) = (i : Int)) := by omega
          simp [hij, this]))
      have HBX : Hid (Below w6.heap.size w6 (wr.setCell ⟨G, q, none⟩ (.int .i64 ((c : Int) + 1)))) := Lib.hid (below_setD HBT.out _ _ _ (Nat.le_of_eq HGE.out))
      generalize (List.range t).countP (badN s K n) = ob at *
      generalize (List.range t).countP (realN K) = rb at *
      have t0 : (0 : Int) ≤ (t : Int) := by omega
      have t1 : (t : Int) < (n : Int) := by omega
      have y0 : (0 : Int) ≤ (q : Int) := by omega
      have y1 : (q : Int) < (n : Int) := by omega
      have d5 : decide ((q : Int) < 0) = false := decide_eq_false (by omega)
      have d6 : decide ((n : Int) ≤ (q : Int)) = false := decide_eq_false (by omega)
      have d6' : decide (n ≤ q) = false := decide_eq_false (by omega)
      have k0 := HK1.out wr HBT.out
      clear hqb hq hdp hbad hrea hC hc
      go_upto_region 18 with fail
      refine at_world (fun w' => w'.rowIs G 3 n (fun x => .int .i64 ((PL.take (t + 1)).count (x : Int) : Nat)) ∧ Below w6.heap.size w6 w') ⟨HRX.out, HBX.out⟩ ?_
      rintro w8 ⟨hr8, hb8⟩
      have HR8 := Lib.hid hr8
      have HB8 := Lib.hid hb8
      have HK8 := Lib.hid (HK6.out.below hb8 HK6.out.lt)
      have k1 := HK1.out w8 hb8
      have p1 := HP1.out w8 hb8
      have s0 : w8.cell? ⟨w.heap.size, 0, none⟩ = some (.int .i64 s.1) := HK8.out.cell 0
      have s1 : w8.cell? ⟨w.heap.size, 1, none⟩ = some (.int .i64 s.2.1) := HK8.out.cell 1
      have k1' : w8.drew.cell? ⟨b2, off2 + t * 2 + 1, none⟩ = some (.int .i64 deep) := k1
      have p1' : w8.drew.cell? ⟨b, off + t, none⟩ = some (.int .i64 (q : Int)) := p1
      have s0' : w8.drew.cell? ⟨w.heap.size, 0, none⟩ = some (.int .i64 s.1) := s0
      have s1' : w8.drew.cell? ⟨w.heap.size, 1, none⟩ = some (.int .i64 s.2.1) := s1
      clear HRX HBX hr8 hb8 c0 f1 k0 e1 d5 d6 d6'
      by_cases hd : deep < 0
      · have d7 : decide (deep < 0) = true := decide_eq_true hd
        have hnd : decide (0 ≤ deep) = false := decide_eq_false (by omega)
        rw [hnd] at HBN HRN
        go_wp2_with fail
        go_roundw
        case rel => exact ⟨t + 1, by omega, by rw [HBN.out]; simp, by rw [HRN.out]; simp, by go_num, HR8, HB8⟩
        case measure => simp [intOf]; omega
      · have d7 : decide (deep < 0) = false := decide_eq_false hd
        have hnd : decide (0 ≤ deep) = true := decide_eq_true (by omega)
        rw [hnd] at HBN HRN
        have w0 : IntKind.i64.wrap ((n : Int) - 1) = (n : Int) - 1 := by rw [IntKind.wrap_i64]; omega
        have w1 : IntKind.i64.wrap (s.1 + 1) = s.1 + 1 := by rw [IntKind.wrap_i64]; omega
        have w2 : IntKind.i64.wrap (s.2.1 * (s.1 + 1)) = levelsD s := by rw [← HLV.out, IntKind.wrap_i64]; omega
        by_cases hq1 : (q : Int) = (n : Int) - 1
        · have b1 : ((q : Int) == (n : Int) - 1) = true := by simp [hq1]
          have HB9 : Hid ((List.range (t + 1)).countP (badN s K n) = ob + 1) := Lib.hid (by rw [HBN.out]; simp [hq1])
          clear hq1
          go_upto_region 20 with fail
          go_quiet (fail)
          go_wp2_with fail
          go_roundw
          case rel => exact ⟨t + 1, by omega, by rw [HB9.out]; simp, by rw [HRN.out]; simp, by go_num, Lib.hid (HR8.out.of_block rfl), Lib.hid ⟨HB8.out.os, HB8.out.tape, HB8.out.output, HB8.out.size, HB8.out.block⟩⟩
          case measure => simp [intOf]; omega
        · have b1 : ((q : Int) == (n : Int) - 1) = false := by simp [hq1]
          by_cases hq2 : (q : Int) < levelsD s
          · have b2' : decide ((q : Int) < levelsD s) = true := decide_eq_true hq2
            have z1 : (s.2.1 == 0) = false := by simp; omega
            have e1 : (q : Int).tdiv s.2.1 = (q : Int) / s.2.1 := Int.tdiv_eq_ediv_of_nonneg y0
            have hq0 : 0 ≤ (q : Int) / s.2.1 := Int.ediv_nonneg (by omega) (by omega)
            have hqd : (q : Int) / s.2.1 ≤ q := Int.ediv_le_self _ (by omega)
            have w3 : IntKind.i64.wrap ((q : Int) / s.2.1) = (q : Int) / s.2.1 := by rw [IntKind.wrap_i64]; omega
            by_cases hq3 : deep < (q : Int) / s.2.1
            · have b3 : decide (deep < (q : Int) / s.2.1) = true := decide_eq_true hq3
              have HB9 : Hid ((List.range (t + 1)).countP (badN s K n) = ob + 1) := Lib.hid (by rw [HBN.out]; simp [hq2, hq3])
              generalize (q : Int) / s.2.1 = qs at *
              clear hq1 hq2
              go_upto_region 20 with fail
              go_quiet (fail)
              go_wp2_with fail
              go_roundw
              case rel => exact ⟨t + 1, by omega, by rw [HB9.out]; simp, by rw [HRN.out]; simp, by go_num, Lib.hid (HR8.out.of_block rfl), Lib.hid ⟨HB8.out.os, HB8.out.tape, HB8.out.output, HB8.out.size, HB8.out.block⟩⟩
              case measure => simp [intOf]; omega
            · have b3 : decide (deep < (q : Int) / s.2.1) = false := decide_eq_false hq3
              have HB9 : Hid ((List.range (t + 1)).countP (badN s K n) = ob) := Lib.hid (by rw [HBN.out]; simp [hq1, hq2, hq3])
              generalize (q : Int) / s.2.1 = qs at *
              clear hq1 hq2
              go_upto_region 20 with fail
              go_quiet (fail)
              go_wp2_with fail
              go_roundw
              case rel => exact ⟨t + 1, by omega, by rw [HB9.out], by rw [HRN.out]; simp, by go_num, Lib.hid (HR8.out.of_block rfl), Lib.hid ⟨HB8.out.os, HB8.out.tape, HB8.out.output, HB8.out.size, HB8.out.block⟩⟩
              case measure => simp [intOf]; omega
          · have b2' : decide ((q : Int) < levelsD s) = false := decide_eq_false hq2
            have HB9 : Hid ((List.range (t + 1)).countP (badN s K n) = ob) := Lib.hid (by rw [HBN.out]; simp [hq1, hq2])
            clear hq1 hq2
            go_upto_region 20 with fail
            go_quiet (fail)
            go_wp2_with fail
            go_roundw
            case rel => exact ⟨t + 1, by omega, by rw [HB9.out], by rw [HRN.out]; simp, by go_num, Lib.hid (HR8.out.of_block rfl), Lib.hid ⟨HB8.out.os, HB8.out.tape, HB8.out.output, HB8.out.size, HB8.out.block⟩⟩
            case measure => simp [intOf]; omega
    · obtain rfl : t = n := by omega
      have HR9 : Hid (wr.rowIs G 3 t (fun _ => .int .i64 1)) := Lib.hid (HRW.out.congr (fun i hi => by rw [HCE.out i hi]; rfl))
      obtain ⟨ob, hob⟩ : ∃ ob, (List.range t).countP (badN s K t) = ob := ⟨_, rfl⟩
      obtain ⟨rb, hrb⟩ : ∃ rb, (List.range t).countP (realN K) = rb := ⟨_, rfl⟩
      rw [hob, hrb] at HFO
      rw [hob, hrb]
      have hob2 : ob ≤ t := by rw [← hob]; simpa using List.countP_le_length (p := badN s K t) (l := List.range t)
      have hrb2 : rb ≤ t := by rw [← hrb]; simpa using List.countP_le_length (p := realN K) (l := List.range t)
      clear hob hrb HCN HCE HG HPE HPP HRW HR HB3 HPC HKC
      obtain ⟨wm, rfl⟩ : ∃ wm : World, wm = wr := ⟨_, rfl⟩
      go_wp2_with fail
      go_loopw [14] (fun iv wr => ∃ x : Nat, x ≤ t ∧ iv = .int .i64 x ∧ wr = wm) (fun iv _ => t - (intOf iv).toNat)
      case atStart => exact ⟨0, by omega, rfl, by simp⟩
      case round =>
        obtain ⟨x, hx, rfl, rfl⟩ := hrel
        by_cases hxt : x < t
        · have c0 := HR9.out.cell hxt
          have x0 : (0 : Int) ≤ (x : Int) := by omega
          have x1 : (x : Int) < (t : Int) := by omega
          have d1 : ((1 : Int) != 1) = false := rfl
          go_wp2_with fail
          go_roundw
          case rel => exact ⟨x + 1, by omega, by go_num, by simp⟩
          case measure => simp [intOf]; omega
        · obtain rfl : x = t := by omega
          have HK9 := Lib.hid (HK6.out.below HBT.out HK6.out.lt)
          have s2 : wr.cell? ⟨w.heap.size, 2, none⟩ = some (.int .i64 s.2.2) := HK9.out.cell 2
          have w1 : IntKind.i64.wrap ((rb : Int) - s.2.2) = (rb : Int) - s.2.2 := by rw [IntKind.wrap_i64]; omega
          have d1 : decide ((ob : Int) ≤ (LL : Int)) = true := decide_eq_true (by have := HFO.out.1; omega)
          have d1' : decide (ob ≤ LL) = true := decide_eq_true HFO.out.1
          have hfo := HFO.out.2
          have HBE : Hid (Below w.heap.size w wr) := Lib.hid (HB6.out.trans (HBT.out.mono HB6.out.size))
          by_cases hc : s.2.2 < (rb : Int)
          · have d2 : decide ((LL : Int) ≤ (rb : Int) - s.2.2) = true := decide_eq_true (by omega)
            clear hfo
            go_wp2_with fail
            go_ret
            exact ⟨rfl, HBE.out⟩
          · have d2 : decide (LL = 0) = true := decide_eq_true (by omega)
            clear hfo
            go_wp2_with fail
            go_ret
            exact ⟨rfl, HBE.out⟩
end Go.Proofs.Ytmnnfhplgepiaab
