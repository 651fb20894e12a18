/-
  The walk of deal.Deal.
-/
import Derived.Test.YtiimdgdimjjboaaDealW
namespace Go.Proofs.Ytiimdgdimjjboaa
open Go Go.RowKit Go.Sg
theorem info_dlD (x y z a b c : Int) : (Try.prog.info? 90).map (·.size) = some [Value.int .i64 x, .int .i64 y, .int .i64 z, .int .i64 a, .int .i64 b, .int .i64 c].length := by kernel_rfl
set_option maxHeartbeats 4000000 in
set_option maxRecDepth 100000 in
theorem deal_fit (s : Sh) (hs : rightD s = true) (l : List Di) (hl : (l.length : Int) = placesD s) (v : Value) (w : World) (hv : SlK diV w v l) :
    Calls Try.prog 19 #[.agg #[.int .i64 s.1, .int .i64 s.2.1, .int .i64 s.2.2], v] w fun e w' => ∃ v1 v2, e = .returned (.tuple #[v1, v2]) ∧ Sl1 w' v1 ((dealP s l).map (Value.int .i64)) ∧ Sl1 w' v2 ((dealLost s l).map (Value.int .i64)) ∧ Below w.heap.size w w' := by
  have hfit : fitD s l = true := by unfold fitD; rw [hs, decide_eq_true hl]; rfl
  have hpd : placesD s = levelsD s + s.2.2 + 1 := by unfold placesD; rw [if_pos hs]
  have hpb := placesD_bd s
  have hlb := levelsD_bd hs
  have hs' := rightD_iff.1 hs
  have KR := Lib.hid (fun w' => right_any s w')
  have KP := Lib.hid (fun w' => places_any s w')
  rw [hs] at KR
  rw [← hl] at KP
  have HRES : Hid (dealP s l = fillL ((List.range l.length).map (endSt s l).pl) (keptD (endSt s l).lf l.length) ∧ dealLost s l = (endSt s l).lost) := Lib.hid (by unfold dealP dealLost; rw [hfit]; exact ⟨rfl, rfl⟩)
  rw [HRES.out.1, HRES.out.2]
  clear HRES hfit
  have HV := Lib.hid hv
  obtain ⟨a, cap, rfl, h1, h2, h3⟩ := hv
  have H3 := Lib.hid h3
  unfold maxLen at h2
  clear h3
  obtain ⟨n, hn⟩ : ∃ n, l.length = n := ⟨_, rfl⟩
  have HN := Lib.hid hn
  rw [hn] at hl h1 KP ⊢
  clear hn
  have hn1 : 3 ≤ n ∧ n ≤ 153 := by omega
  have HNL : Hid ((n : Int) = levelsD s + s.2.2 + 1) := Lib.hid (by omega)
  have HSR := Lib.hid hs
  have HBW : Hid (Below w.heap.size w (w.alloc (.cells #[.int .i64 s.1, .int .i64 s.2.1, .int .i64 s.2.2] 23))) := Lib.hid ((Below.refl _ _).alloc (Nat.le_refl _) _)
  have HBK : Hid (Blk (w.alloc (.cells #[.int .i64 s.1, .int .i64 s.2.1, .int .i64 s.2.2] 23)) w.heap.size #[.int .i64 s.1, .int .i64 s.2.1, .int .i64 s.2.2] 23) := Lib.hid (Blk.new w _ _)
  obtain ⟨i0, hi0, hz0, hz1, hz2⟩ := info_parts info_intD
  have HI := Lib.hid hi0
  have HZ := Lib.hid hz0
  have HS := Lib.hid hz1
  have HY := Lib.hid hz2
  clear hi0 hz0 hz1 hz2 hpd hpb hlb hl hs hs'
  go_enter Try.func19, Try.ntmps19
  go_wp2_with fail
  refine (KR.out _).mono ?_
  rintro e w2 ⟨rfl, hb2⟩
  have HB2 : Hid (Below w.heap.size w w2) := Lib.hid (HBW.out.trans (hb2.mono HBW.out.size))
  have HK2 := Lib.hid (HBK.out.below hb2 HBK.out.lt)
  have c0 : w2.cell? ⟨w.heap.size, 0, none⟩ = some (.int .i64 s.1) := HK2.out.cell 0
  have c1 : w2.cell? ⟨w.heap.size, 1, none⟩ = some (.int .i64 s.2.1) := HK2.out.cell 1
  have c2 : w2.cell? ⟨w.heap.size, 2, none⟩ = some (.int .i64 s.2.2) := HK2.out.cell 2
  have q1 : ((n : Int) != (n : Int)) = false := by simp
  clear hb2 HBW HBK KR
  go_wp2_with fail
  refine (KP.out _).mono ?_
  rintro e w3 ⟨rfl, hb3⟩
  have HB3 : Hid (Below w.heap.size w w3) := Lib.hid (HB2.out.trans (hb3.mono HB2.out.size))
  have HK3 := Lib.hid (HK2.out.below hb3 HK2.out.lt)
  have c0' : w3.cell? ⟨w.heap.size, 0, none⟩ = some (.int .i64 s.1) := HK3.out.cell 0
  have c1' : w3.cell? ⟨w.heap.size, 1, none⟩ = some (.int .i64 s.2.1) := HK3.out.cell 1
  have c2' : w3.cell? ⟨w.heap.size, 2, none⟩ = some (.int .i64 s.2.2) := HK3.out.cell 2
  clear hb3 c0 c1 c2 HB2 HK2 KP
  go_wp2_with fail
  obtain ⟨w4, hw4⟩ : ∃ w4, (w3.alloc (.cells #[.int .i64 s.1, .int .i64 s.2.1, .int .i64 s.2.2, .int .i64 s.1, .int .i64 0, .int .i64 0] 90)).alloc (.cells #[.int .i64 (-1)] 3) = w4 := ⟨_, rfl⟩
  have hd4 : Blk w4 w3.heap.size #[.int .i64 s.1, .int .i64 s.2.1, .int .i64 s.2.2, .int .i64 s.1, .int .i64 0, .int .i64 0] 90 := by rw [← hw4]; exact (Blk.new w3 _ _).alloc _
  have hm4 : Blk w4 (w3.heap.size + 1) #[.int .i64 (-1)] 3 := by
    rw [← hw4]
    have := Blk.new (w3.alloc (.cells #[.int .i64 s.1, .int .i64 s.2.1, .int .i64 s.2.2, .int .i64 s.1, .int .i64 0, .int .i64 0] 90)) #[.int .i64 (-1)] 3
    simpa using this
  have hb4 : Below w3.heap.size w3 w4 := by rw [← hw4]; exact ((Below.refl _ _).alloc (Nat.le_refl _) _).alloc (by simp) _
  have hz4 : w4.heap.size = w3.heap.size + 2 := by rw [← hw4]; simp
  have KRP := Lib.hid (repeat_any (-1) (w3.heap.size + 1) n (by omega) (by omega) w4 (hm4.cell 0) (by omega))
  obtain ⟨D, hD⟩ : ∃ D, w3.heap.size = D := ⟨_, rfl⟩
  have HD3 : Hid (w.heap.size ≤ D) := Lib.hid (by rw [← hD]; exact HB3.out.size)
  have HB4 : Hid (Below w.heap.size w w4) := Lib.hid (HB3.out.trans (hb4.mono HB3.out.size))
  rw [hD] at hd4 hz4 KRP
  rw [hw4, hD]
  have HD4 := Lib.hid hd4
  have HZ4 := Lib.hid hz4
  clear hd4 hm4 hb4 hz4 hw4 hD c0' c1' c2' HB3 HK3
  refine KRP.out.mono ?_
  rintro e w5 ⟨P, rfl, hP, hrp, hb5⟩
  have HRP := Lib.hid hrp
  have HP := Lib.hid hP
  have HB5 := Lib.hid hb5
  clear hrp hP hb5 KRP
  go_wp2_with (first
    | (at_make; go_loud (refine wpList_make_row _ rfl (.tmp 36) (.tmp 36) 30 rfl 3 i0 (.int .i64 0) Try.underlying30 HI.out HZ.out HS.out rfl .i64 .i64 n rfl rfl (by rw [HY.out]; omega) (by omega) ?_))
    | fail)
  obtain ⟨L, hL⟩ : ∃ L, w5.heap.size = L := ⟨_, rfl⟩
  have hrow := World.rowIs_made w5 (.int .i64 0) n 3
  have hb6 : Below w5.heap.size w5 (w5.alloc (.cells (madeCells #[.int .i64 0] n) 3)) := (Below.refl _ _).alloc (Nat.le_refl _) _
  rw [hL] at hrow ⊢
  have HL := Lib.hid hL
  have HR := Lib.hid hrow
  have HB6 := Lib.hid hb6
  clear hrow hb6 hL
  generalize w5.alloc (.cells (madeCells #[.int .i64 0] n) 3) = w6 at *
  go_wp2_with fail
  go_loopw [9, 40] (fun _ i wr => ∃ k : Nat, k ≤ n ∧ i = .int .i64 k ∧ Hid (wr.rowIs L 3 n (fun j => .int .i64 (if j < k then (j : Int) else 0))) ∧ Hid (Below w5.heap.size w5 wr)) (fun _ i _ => n - (intOf i).toNat)
  case atStart => exact ⟨0, by omega, rfl, Lib.hid (HR.out.congr (fun i _ => by simp)), HB6⟩
  case round =>
    obtain ⟨k, hk, rfl, HRK, HBK⟩ := hrel
    by_cases hlt : k < n
    · have hd : decide ((k : Int) < (n : Int)) = true := decide_eq_true (by omega)
      have hd' : decide (k < n) = true := decide_eq_true hlt
      have k0 : (0 : Int) ≤ (k : Int) := by omega
      have k1 : (k : Int) < (n : Int) := by omega
      have c0 := HRK.out.cell hlt
      have f0 := HRK.out.frozen k
      rw [if_neg (Nat.lt_irrefl k)] at c0
      have HR4 : Hid ((wr.setCell ⟨L, k, none⟩ (.int .i64 (k : Int))).rowIs L 3 n (fun j => .int .i64 (if j < k + 1 then (j : Int) else 0))) := Lib.hid ((HRK.out.set k (.int .i64 (k : Int))).congr (fun j _ => by
        by_cases hj : j = k
        · subst hj; simp
        · by_cases hj2 : j < k
          · simp [hj, hj2, show j < k + 1 by omega]
          · simp [hj, hj2, show ¬ j < k + 1 by omega]))
      have HB7 : Hid (Below w5.heap.size w5 (wr.setCell ⟨L, k, none⟩ (.int .i64 (k : Int)))) := Lib.hid (below_setD HBK.out _ _ _ (Nat.le_of_eq HL.out))
      go_wp2
      go_roundw
      case rel => exact ⟨k + 1, by omega, by go_num, HR4, HB7⟩
      case measure => simp [intOf]; omega
    · obtain rfl : k = n := by omega
      have hd : decide ((k : Int) < (k : Int)) = false := by simp
      obtain ⟨w7, rfl⟩ : ∃ w7 : World, w7 = wr := ⟨_, rfl⟩
      have HB57 : Hid (Below w4.heap.size w4 w7) := Lib.hid (HB5.out.trans (HBK.out.mono HB5.out.size))
      have HB7 : Hid (Below w.heap.size w w7) := Lib.hid (HB4.out.trans (HB57.out.mono HB4.out.size))
      have KO := Lib.hid (order_any l (by rw [HN.out]; omega) _ w7 (HV.out.below HB7.out))
      rw [HN.out] at KO
      go_wp2_with fail
      refine KO.out.mono ?_
      rintro e w8 ⟨O, rfl, hO, hbo, hb8⟩
      have hDW : DW 90 3 k D P L O w8.heap.size s (st0 s) (ordD l) w (.slice none 0 0) w8 := by
        have hz4 := HZ4.out
        have hP := HP.out
        have hLl := HL.out
        have h5 := HRP.out.lt
        have h57 := HBK.out.size
        have h78 := hb8.size
        have hDw := HD3.out
        have h45 := HB5.out.size
        have hOlt := hbo.lt
        have hL7 := HRK.out.lt
        refine ⟨(HD4.out.below HB57.out (by omega)).below hb8 (by omega), (HRP.out.of_block (HBK.out.block P (by omega))).of_block (hb8.block P (by omega)), (HRK.out.congr (fun r hr => by rw [if_pos hr]; rfl)).of_block (hb8.block L (by omega)), hbo, World.ownsRow_nil _ _ _ _, HB7.out.trans (hb8.mono HB7.out.size), ⟨by omega, by omega, by omega, by omega, by omega, by omega, by omega, by omega, Nat.le_refl _⟩, ⟨by omega, by omega, by omega, by omega, by omega, by omega⟩⟩
      have HDW := Lib.hid hDW
      clear hO hbo hb8 hDW KO HRK HBK HB57 HB7 HD4 HRP HR HB6 HB5 HL HP HZ4
      go_wp2_with fail
      obtain ⟨base, hbase⟩ : ∃ base, w8.heap.size = base := ⟨_, rfl⟩
      rw [hbase] at HDW
      clear hbase
      have HNR := Lib.hid (fun (st : St) (hok : DsOk s st.ds) (deep : Int) (h0 : 0 ≤ deep) (w' : World) hb => next_any s HSR.out st.ds hok deep h0 D w' hb)
      go_loopw [10, 12, 13, 51] (fun lv _ _ iv wr => ∃ t : Nat, t ≤ k ∧ iv = .int .i64 t ∧ Hid (DW 90 3 k D P L O base s (runSt s l ((ordD l).take t)) (ordD l) w lv wr) ∧ Hid (DInv s k ((ordD l).take t) (runSt s l ((ordD l).take t))) ∧ Hid (∀ x ∈ (ordD l).take t, 0 ≤ (getD' l x).2)) (fun _ _ _ iv _ => k - (intOf iv).toNat)
      case atStart => exact ⟨0, by omega, rfl, HDW, Lib.hid (DInv.start s HSR.out k), Lib.hid (by simp)⟩
      case round =>
        obtain ⟨t, ht, rfl, HDW, HDI, HRE⟩ := hrel
        have HOL : Hid ((ordD l).length = k) := Lib.hid (by rw [ordD_len, HN.out])
        have t0 : (0 : Int) ≤ (t : Int) := by omega
        by_cases hgo : t < k ∧ ∀ x, (ordD l)[t]? = some x → 0 ≤ (getD' l x).2
        · obtain ⟨hlt, hreal⟩ := hgo
          have hd : decide ((t : Int) < (k : Int)) = true := decide_eq_true (by omega)
          have hd' : decide (t < k) = true := decide_eq_true hlt
          have t1 : (t : Int) < (k : Int) := by omega
          have hto : t < (ordD l).length := by rw [HOL.out]; exact hlt
          have hmem := (ordD_perm l).mem_iff.1 (List.getElem_mem hto)
          rw [idx_mem, HN.out] at hmem
          have hnot := take_notmem hto
          have hre2 := hreal _ (List.getElem?_eq_getElem hto)
          have htk : (ordD l).take (t + 1) = (ordD l).take t ++ [(ordD l)[t]] := List.take_succ_eq_append_getElem hto
          have hco : wr.cell? ⟨O, t, none⟩ = some (.int .i64 (ordD l)[t]) := by
            rw [HDW.out.o.cell, List.getElem?_toArray, List.getElem?_map, List.getElem?_eq_getElem hto]
            rfl
          have hst := HDI.out.step HSR.out HNL.out hmem.1 hmem.2 hnot hre2
          obtain ⟨j, hj⟩ : ∃ j : Nat, (ordD l)[t] = j := ⟨(ordD l)[t].toNat, by omega⟩
          rw [hj] at hmem hre2 htk hco hst
          have hjk : j < k := by omega
          have hjl : j < l.length := by rw [HN.out]; exact hjk
          obtain ⟨lb, lo, rfl, hblt, hrl⟩ := H3.out (fun e => by rw [e] at hjl; simp at hjl)
          have hgd : getD' l (j : Int) = l[j] := by unfold getD'; simp [List.getD_eq_getElem?_getD, List.getElem?_eq_getElem hjl]
          have HCL : Hid (∀ w', Below w.heap.size w w' → w'.cell? ⟨lb, lo + j * 2 + 1, none⟩ = some (.int .i64 (getD' l (j : Int)).2)) := Lib.hid fun w' h => by
            rw [hgd]
            exact (h.cell (p := ⟨lb, lo + j * 2 + 1, none⟩) hblt).trans (range_flat diV_k hrl hjl 1 _ rfl)
          have ccl := HCL.out wr HDW.out.fr
          have KN := Lib.hid (HNR.out (runSt s l ((ordD l).take t)) HDI.out.ok (getD' l (j : Int)).2 hre2 wr HDW.out.d)
          have HTK : Hid (runSt s l ((ordD l).take (t + 1)) = stepSt s l (runSt s l ((ordD l).take t)) (j : Int)) := Lib.hid (by rw [htk, runSt_snoc])
          have HTI : Hid (DInv s k ((ordD l).take (t + 1)) (stepSt s l (runSt s l ((ordD l).take t)) (j : Int))) := Lib.hid (by rw [htk]; exact hst.1)
          have HTR : Hid (∀ x ∈ (ordD l).take (t + 1), 0 ≤ (getD' l x).2) := Lib.hid fun x hx => by
            rw [htk] at hx
            rcases List.mem_append.1 hx with h1 | h1
            · exact HRE.out x h1
            · rw [List.mem_singleton] at h1; rw [h1]; exact hre2
          have HQ := Lib.hid hst.2
          have hll : (runSt s l ((ordD l).take t)).lost.length ≤ t := by
            have := runSt_lost s l ((ordD l).take t)
            rw [List.length_take] at this
            omega
          obtain ⟨st, hstd⟩ : ∃ st, runSt s l ((ordD l).take t) = st := ⟨_, rfl⟩
          rw [hstd] at HDW HTK HTI HQ KN hll
          have hse : stepSt s l st (j : Int) = if (nextD s st.ds (getD' l (j : Int)).2).1 < 0 then ⟨(nextD s st.ds (getD' l (j : Int)).2).2, st.pl, st.lf, st.lost ++ [(j : Int)]⟩ else ⟨(nextD s st.ds (getD' l (j : Int)).2).2, upd st.pl ((j : Int)).toNat (nextD s st.ds (getD' l (j : Int)).2).1, upd st.lf (nextD s st.ds (getD' l (j : Int)).2).1.toNat (-1), st.lost⟩ := rfl
          rw [hse] at HTK HTI
          have hre3 : decide ((getD' l (j : Int)).2 < 0) = false := decide_eq_false (by omega)
          generalize (getD' l (j : Int)).2 = deep at *
          generalize nextD s st.ds deep = r at *
          obtain ⟨r1, ds2⟩ := r
          simp only [Int.toNat_natCast] at KN HTK HTI HQ
          have j0 : (0 : Int) ≤ (j : Int) := by omega
          have j1 : (j : Int) < (k : Int) := by omega
          clear hmem hnot hst hse hgd hstd htk hreal HRE HDI hjl hj hto hre2
          go_wp2_with fail
          refine KN.out.mono ?_
          rintro e w9 ⟨rfl, hnx⟩
          have HT := Lib.hid (HDW.out.turn hnx)
          clear hnx KN HCL ccl
          by_cases hneg : r1 < 0
          · have dn : decide (r1 < 0) = true := decide_eq_true hneg
            rw [if_pos hneg] at HTK HTI
            go_wp2_with (first
              | (at_builtin; go_loud (refine wpList_append_own_at _ rfl (.tmp 70) (.tmp 72) 30 rfl base 3 i0 (.int .i64 0) 1 8 Try.underlying30 HI.out HZ.out HS.out HY.out rfl (by decide) _ st.lost.length (st.lost.map (Value.int .i64)) rfl (HT.out.lost.alloc _) ⟨w9.heap.size, 0, none⟩ 1 1 [.int .i64 (j : Int)] rfl rfl (cells_litD _ [.int .i64 (j : Int)] _) (by simp [Value.oneCell']) (by unfold maxLen; omega) (by omega) (by have := HT.out.old.2.2.2.2.2.2.2.2; simp; omega) ?_))
              | fail)
            intro v' w10 hown hgrow _ _
            have HLO := Lib.hid (HT.out.lose (i := (j : Int)) ((Below.refl _ _).alloc (Nat.le_refl _) _) hown hgrow)
            clear hown hgrow HDW HT HQ
            go_wp2
            go_roundw
            case rel => exact ⟨t + 1, by omega, by go_num, by rw [HTK.out]; exact HLO, by rw [HTK.out]; exact HTI, HTR⟩
            case measure => simp [intOf]; omega
          · have dn : decide (r1 < 0) = false := decide_eq_false hneg
            rw [if_neg hneg] at HTK HTI
            have hq := HQ.out (by omega)
            obtain ⟨q, rfl⟩ : ∃ q : Nat, r1 = q := ⟨r1.toNat, by omega⟩
            rw [Int.toNat_natCast] at hq HTK HTI
            have q0 : (0 : Int) ≤ (q : Int) := by omega
            have q1 : (q : Int) < (k : Int) := by omega
            have cp := HT.out.p.cell (show j < k by omega)
            have fp := HT.out.p.frozen j
            have cf := HT.out.f.cell hq
            have ff := HT.out.f.frozen q
            have hne := HT.out.ne.2.2.1
            simp only at cp cf
            have HPL := Lib.hid (HT.out.place (i := j) (q := q) (z := (q : Int)))
            clear HDW HQ
            go_wp2
            go_roundw
            case rel => exact ⟨t + 1, by omega, by go_num, by rw [HTK.out]; exact HPL, by rw [HTK.out]; exact HTI, HTR⟩
            case measure => simp [intOf]; omega
        · have hex : t = k ∨ (t < k ∧ ∃ x, (ordD l)[t]? = some x ∧ (getD' l x).2 < 0) := by
            rcases Nat.lt_or_ge t k with h | h
            · right
              refine ⟨h, ?_⟩
              have hto : t < (ordD l).length := by rw [HOL.out]; exact h
              refine ⟨_, List.getElem?_eq_getElem hto, ?_⟩
              rcases Int.lt_or_le (getD' l (ordD l)[t]).2 0 with h2 | h2
              · exact h2
              · exact absurd ⟨h, fun x hx => by rw [List.getElem?_eq_getElem hto] at hx; simp only [Option.some.injEq] at hx; rw [← hx]; exact h2⟩ hgo
            · left; omega
          have hro : realO l = (ordD l).take t := realO_of HRE.out (fun x hx => by
            rcases hex with h | ⟨_, y, h1, h2⟩
            · rw [List.getElem?_eq_none (by rw [HOL.out]; omega)] at hx; cases hx
            · rw [h1] at hx; simp only [Option.some.injEq] at hx; rw [← hx]; exact h2)
          have hes : endSt s l = runSt s l ((ordD l).take t) := by unfold endSt; rw [hro]
          have HCN : Hid (cntN (endSt s l).lf k + cntN (endSt s l).pl k = k) := Lib.hid (by rw [hes]; exact HDI.out.cnt)
          have HPV : Hid (∀ i : Nat, (endSt s l).pl i = -1 ∨ 0 ≤ (endSt s l).pl i) := Lib.hid (fun i => by rw [hes]; exact (HDI.out.plv i).imp id (fun h => h.1))
          rw [← hes] at HDW
          have HED := Lib.hid HDW.out
          obtain ⟨es, hese⟩ : ∃ es, endSt s l = es := ⟨_, rfl⟩
          rw [hese] at HED HCN HPV HDW
          have HES := Lib.hid hese
          clear hro hes hgo HDI HRE hese
          have KD := Lib.hid (delete_any es.lf k k L (by omega) (Nat.le_refl _) (by unfold maxLen; omega) wr HDW.out.f)
          have hex2 : t = k ∨ (t < k ∧ ∃ (j : Nat) (x : Int) (lb lo : Nat), j < k ∧ a = some ⟨lb, lo, none⟩ ∧ wr.cell? ⟨O, t, none⟩ = some (.int .i64 (j : Int)) ∧ wr.cell? ⟨lb, lo + j * 2 + 1, none⟩ = some (.int .i64 x) ∧ x < 0) := by
            rcases hex with h | ⟨h, x, hx1, hx2⟩
            · exact .inl h
            · right
              refine ⟨h, ?_⟩
              obtain ⟨hto, hx3⟩ := List.getElem?_eq_some_iff.1 hx1
              have hmem := (ordD_perm l).mem_iff.1 (List.getElem_mem hto)
              rw [hx3, idx_mem, HN.out] at hmem
              have hjl : x.toNat < l.length := by rw [HN.out]; omega
              obtain ⟨lb, lo, rfl, hblt, hrl⟩ := H3.out (fun e => by rw [e] at hjl; simp at hjl)
              refine ⟨x.toNat, (getD' l x).2, lb, lo, by omega, rfl, ?_, ?_, hx2⟩
              · rw [HDW.out.o.cell, List.getElem?_toArray, List.getElem?_map, hx1]
                simp only [Option.map_some]
                congr 2
                omega
              · have := (HDW.out.fr.cell (p := ⟨lb, lo + x.toNat * 2 + 1, none⟩) hblt).trans (range_flat diV_k hrl hjl 1 _ rfl)
                rw [this]
                congr 2
                unfold getD'
                simp [List.getD_eq_getElem?_getD, List.getElem?_eq_getElem hjl]
          clear hex
          rcases hex2 with htk | ⟨hlt, j, x, lb, lo, hjk, rfl, hco, hcx, hx0⟩
          focus
            have hd2 : decide ((t : Int) < (k : Int)) = false := decide_eq_false (by omega)
            have hd2' : decide (t < k) = false := decide_eq_false (by omega)
            go_wp2_with fail
          rotate_left
          focus
            have hd2 : decide ((t : Int) < (k : Int)) = true := decide_eq_true (by omega)
            have hd2' : decide (t < k) = true := decide_eq_true hlt
            have t1 : (t : Int) < (k : Int) := by omega
            have j0 : (0 : Int) ≤ (j : Int) := by omega
            have j1 : (j : Int) < (k : Int) := by omega
            have dx : decide (x < 0) = true := decide_eq_true hx0
            go_wp2_with fail
          all_goals
            refine KD.out.mono ?_
            rintro e w9 ⟨rfl, ⟨g, hg1, hg2⟩, hfr⟩
            have hmc : (keptD es.lf k).length = cntN es.pl k := by have := kept_cnt es.lf k; have := HCN.out; omega
            obtain ⟨kp, hkp⟩ : ∃ kp, keptD es.lf k = kp := ⟨_, rfl⟩
            have hg2' : ∀ r (hr : r < kp.length), g r = .int .i64 (kp.getD r 0) := by
              subst hkp
              intro r hr
              rw [hg2 r hr, List.getD_eq_getElem?_getD, List.getElem?_eq_getElem hr]
              rfl
            have HKP := Lib.hid hkp
            rw [hkp] at hmc
            rw [hkp]
            obtain ⟨m, hm⟩ : ∃ m, kp.length = m := ⟨_, rfl⟩
            rw [hm] at hmc hg2'
            rw [hm]
            have HG2 := Lib.hid hg2'
            have HMC := Lib.hid hmc
            have HP9 : Hid (w9.rowIs P 3 k (fun r => .int .i64 (es.pl r))) := Lib.hid (HED.out.p.of_block (hfr.block P (HED.out.p.lt) HED.out.ne.2.2.1))
            have HLW : Hid (w9.ownsRow base 3 1 u10 es.lost.length (es.lost.map (Value.int .i64))) := Lib.hid (own_of HED.out.lost (fun kk hkk => hfr.block kk (HED.out.lost.lt kk hkk).2 (by have h1 := (HED.out.lost.lt kk hkk).1; have h2 := HED.out.old.2.2.2.2.2.2.1; omega)))
            have HB9 : Hid (Below w.heap.size w w9) := Lib.hid (HED.out.fr.trans (hfr.below (fun kk hkk => by rw [hkk]; exact HED.out.old.2.2.1) HED.out.fr.size))
            have HG1 := Lib.hid hg1
            have HNE := Lib.hid (And.intro HED.out.ne.2.2.1 (And.intro HED.out.old.2.1 (And.intro HED.out.old.2.2.2.2.2.1 hg1.lt)))
            have HFL := Lib.hid (fun i (hi : i < k) => fill_get es.pl kp hi)
            have hmk : m ≤ k := by rw [hmc]; exact cntN_le _ _
            obtain ⟨fl, hfl⟩ : ∃ fl, fillL ((List.range k).map es.pl) kp = fl := ⟨_, rfl⟩
            have HFLL : Hid (fl.length = k) := Lib.hid (by rw [← hfl, fillL_len]; simp)
            simp only [hfl] at HFL
            have HFE := Lib.hid hfl
            clear hmc hkp hg1 hg2 hg2' hfr hm HDW HED hfl KD HCN
            go_wp2_with fail
            go_loopw [8, 14, 15, 86] (fun sv _ _ iv wr => ∃ i o : Nat, i ≤ k ∧ iv = .int .i64 i ∧ sv = .slice (some ⟨L, o, none⟩) (m - cntN es.pl i) (k - cntN es.pl i) ∧ (cntN es.pl i < m → o = cntN es.pl i) ∧ Hid (wr.rowIs P 3 k (fun r => .int .i64 (if r < i then fl.getD r 0 else es.pl r))) ∧ Hid (MFrame (fun x => x = P) w9 wr)) (fun _ _ _ iv _ => k - (intOf iv).toNat)
            case atStart => exact ⟨0, 0, by omega, rfl, rfl, fun _ => rfl, Lib.hid (HP9.out.congr (fun r _ => by simp)), Lib.hid (MFrame.refl _ _)⟩
            case round =>
              obtain ⟨i, o, hi, rfl, rfl, ho, HPR, HFR⟩ := hrel
              have HCS := Lib.hid (cntN_succ es.pl i)
              by_cases hik : i < k
              · have hd3 : decide ((i : Int) < (k : Int)) = true := decide_eq_true (by omega)
                have hd3' : decide (i < k) = true := decide_eq_true hik
                have i0' : (0 : Int) ≤ (i : Int) := by omega
                have i1' : (i : Int) < (k : Int) := by omega
                have cpi := HPR.out.cell hik
                rw [if_neg (Nat.lt_irrefl i)] at cpi
                have hfi := HFL.out i hik
                have hmono := cntN_mono es.pl (show i + 1 ≤ k by omega)
                rw [← HMC.out] at hmono
                have HPVI := Lib.hid (HPV.out i)
                obtain ⟨u, hu⟩ : ∃ u, cntN es.pl i = u := ⟨_, rfl⟩
                rw [hu] at ho HCS hfi ⊢
                obtain ⟨z, hz⟩ : ∃ z, es.pl i = z := ⟨_, rfl⟩
                rw [hz] at cpi HCS hfi HPVI
                have HZ := Lib.hid hz
                have HU := Lib.hid hu
                clear hu hz
                by_cases hzn : z < 0
                · have dz : decide (z < 0) = true := decide_eq_true hzn
                  rw [if_pos hzn] at hfi
                  have hcs := HCS.out
                  rw [if_pos hzn] at hcs
                  have HC1 := Lib.hid hcs
                  rw [hcs] at hmono
                  obtain rfl := ho (by omega)
                  have hum : o < m := by omega
                  obtain ⟨x, hx⟩ : ∃ x, kp.getD o 0 = x := ⟨_, rfl⟩
                  rw [hx] at hfi
                  have hL := (HG1.out.of_block (HFR.out.block L HNE.out.2.2.2 (Ne.symm HNE.out.1)))
                  have cL : wr.cell? ⟨L, o, none⟩ = some (.int .i64 x) := by rw [hL.cell (by omega), HG2.out o hum, hx]
                  have fpi := HPR.out.frozen i
                  have HPN : Hid ((wr.drew.setCell ⟨P, i, none⟩ (.int .i64 x)).rowIs P 3 k (fun r => .int .i64 (if r < i + 1 then fl.getD r 0 else es.pl r))) := Lib.hid ((HPR.out.drew.set i (.int .i64 x)).congr (fun r _ => by
                    by_cases h : r = i
                    · subst h
                      rw [if_pos rfl, if_pos (by omega), List.getD_eq_getElem?_getD, hfi]
                      rfl
                    · rw [if_neg h]
                      by_cases h2 : r < i
                      · rw [if_pos h2, if_pos (by omega)]
                      · rw [if_neg h2, if_neg (by omega)]))
                  have HFN : Hid (MFrame (fun x => x = P) w9 (wr.drew.setCell ⟨P, i, none⟩ (.int .i64 x))) := Lib.hid ((HFR.out.trans (MFrame.of_below (Below.refl _ _).drew)).setCells [.int .i64 x] i (.inl rfl))
                  obtain ⟨M, hM⟩ : ∃ M, m - o = M := ⟨_, rfl⟩
                  obtain ⟨C, hC⟩ : ∃ C, k - o = C := ⟨_, rfl⟩
                  have hM1 : 1 ≤ M ∧ M ≤ C := by omega
                  have HMO := Lib.hid (And.intro hM hC)
                  rw [hM, hC]
                  have M0 : (0 : Int) < (M : Int) := by omega
                  have M1 : (1 : Int) ≤ (M : Int) := by omega
                  have M2 : (M : Int) ≤ (C : Int) := by omega
                  have M3 : (1 : Int) ≤ (C : Int) := by omega
                  clear hM hC hL hcs hmono hx hfi
                  by_cases hC1 : C = 1
                  focus
                    subst hC1
                    have hMe : M = 1 := by omega
                    subst hMe
                    go_upto_region 26 with fail
                    go_region
                  rotate_left
                  focus
                    have hC1' : 1 ≠ C := fun e => hC1 e.symm
                    go_upto_region 26 with fail
                    go_region
                  all_goals
                    go_wp2
                    go_roundw
                    case rel => exact ⟨i + 1, _, by omega, by go_num, slice_eqD (by have h1 := HMO.out.1; rw [HC1.out]; omega) (by have h2 := HMO.out.2; rw [HC1.out]; omega), fun h => by have e := HC1.out; have h1 := HMO.out.1; omega, HPN, HFN⟩
                    case measure => simp [intOf]; omega
                · have dz : decide (z < 0) = false := decide_eq_false hzn
                  rw [if_neg hzn] at hfi
                  have HC1 : Hid (cntN es.pl (i + 1) = u) := Lib.hid (by rw [HCS.out, if_neg hzn]; rfl)
                  have HPN : Hid (wr.rowIs P 3 k (fun r => .int .i64 (if r < i + 1 then fl.getD r 0 else es.pl r))) := Lib.hid (HPR.out.congr (fun r _ => by
                    by_cases h : r = i
                    · subst h
                      rw [if_neg (Nat.lt_irrefl _), if_pos (by omega), List.getD_eq_getElem?_getD, hfi, HZ.out]
                      rfl
                    · by_cases h2 : r < i
                      · rw [if_pos h2, if_pos (by omega)]
                      · rw [if_neg h2, if_neg (by omega)]))
                  go_wp2
                  go_roundw
                  case rel => exact ⟨i + 1, o, by omega, by go_num, by rw [HC1.out], by rw [HC1.out]; exact ho, HPN, HFR⟩
                  case measure => simp [intOf]; omega
              · obtain rfl : i = k := by omega
                have hd3 : decide ((i : Int) < (i : Int)) = false := by simp
                have HB10 : Hid (Below w.heap.size w wr) := Lib.hid (HB9.out.trans (HFR.out.below (fun x hx => by rw [hx]; exact HNE.out.2.1) HB9.out.size))
                have HLS : Hid (Sl1 wr u10 (es.lost.map (Value.int .i64))) := Lib.hid (Sl1.of_owns (own_of HLW.out (fun kk hkk => HFR.out.block kk (HLW.out.lt kk hkk).2 (by have h1 := (HLW.out.lt kk hkk).1; have h2 := HNE.out.2.2.1; omega))))
                have HPS : Hid (Sl1 wr (.slice (some ⟨P, 0, none⟩) i i) (fl.map (Value.int .i64))) := Lib.hid (by
                  refine .inr ⟨fun e => ?_, P, 0, i, by rw [List.length_map, HFLL.out], by rw [List.length_map, HFLL.out]; omega, by unfold maxLen; omega, HPR.out.lt, fun r hr => ?_⟩
                  · have h0 := List.map_eq_nil_iff.1 e
                    have := HFLL.out
                    rw [h0] at this
                    simp at this
                    omega
                  · rw [List.length_map, HFLL.out] at hr
                    rw [Nat.zero_add, HPR.out.cell hr, if_pos hr, List.getElem_map, List.getD_eq_getElem?_getD, List.getElem?_eq_getElem (by rw [HFLL.out]; exact hr)]
                    rfl)
                go_wp2
                go_ret2
                exact ⟨_, _, rfl, by rw [HES.out, HKP.out, HFE.out]; exact HPS.out, by rw [HES.out]; exact HLS.out, HB10.out⟩
end Go.Proofs.Ytiimdgdimjjboaa
