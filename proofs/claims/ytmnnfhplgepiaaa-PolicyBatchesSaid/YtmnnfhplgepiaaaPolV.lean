/-
  The walk of policy.Victims.
-/
import Derived.Test.YtmnnfhplgepiaaaPolE
namespace Go.Proofs.Ytmnnfhplgepiaaa
open Go Go.RowKit Go.Sg
theorem info_intV : (Try.prog.info? 3).map (fun i => (i.zero, i.size, i.bytes)) = some (some (.int .i64 0), 1, 8) := by kernel_rfl
set_option maxHeartbeats 4000000 in
set_option maxRecDepth 100000 in
theorem victims_any (l : List It) (hne : l ≠ []) (hl : l.length ≤ 1099511627776) (hw : ∀ x ∈ l, ItW x) (v : Value) (cap' batch : Int) (w : World) (hv : SlK itV w v l) :
    Calls Try.prog 10 #[v, .int .i64 cap', .int .i64 batch] w fun e w' => ∃ v', e = .returned v' ∧ Sl1 w' v' ((victI l cap' batch).map (Value.int .i64)) ∧ Below w.heap.size w w' := by
  have HV := Lib.hid hv
  obtain ⟨a, cap, rfl, h1, h2, h3⟩ := hv
  obtain ⟨b, off, rfl, hlt, hr⟩ := h3 hne
  have HC : Hid (∀ w', Below w.heap.size w w' → ∀ (k : Nat) (h : k < l.length), w'.cell? ⟨b, off + k * 3, none⟩ = some (.int .i64 l[k].1) ∧ w'.cell? ⟨b, off + k * 3 + 1, none⟩ = some (.int .u64 l[k].2.1) ∧ w'.cell? ⟨b, off + k * 3 + 2, none⟩ = some (.bool l[k].2.2)) := Lib.hid fun w' hb k h => by
    have hrow := range_flat itV_k hr h
    refine ⟨?_, ?_, ?_⟩
    · exact (hb.cell (p := ⟨b, off + k * 3, none⟩) hlt).trans (hrow 0 _ rfl)
    · exact (hb.cell (p := ⟨b, off + k * 3 + 1, none⟩) hlt).trans (hrow 1 _ rfl)
    · exact (hb.cell (p := ⟨b, off + k * 3 + 2, none⟩) hlt).trans (hrow 2 _ rfl)
  have hpos := List.length_pos_iff.2 hne
  obtain ⟨wo, hwo⟩ : ∃ wo : World, wo = w := ⟨_, rfl⟩
  obtain ⟨i0, hi0, hz0, hz1, hz2⟩ := info_parts info_intV
  have HI := Lib.hid hi0
  have HZ := Lib.hid hz0
  have HS := Lib.hid hz1
  have HY := Lib.hid hz2
  clear hi0 hz0 hz1 hz2
  clear h3 hr
  unfold maxLen at h2
  go_enter Try.func10, Try.ntmps10
  go_wp2_with fail
  go_loopw [7, 15] (fun c i wr => ∃ k : Nat, k ≤ l.length ∧ i = .int .i64 k ∧ c = .int .i64 (cntE (l.take k) : Int) ∧ Hid (Below wo.heap.size wo wr)) (fun _ i _ => l.length - (intOf i).toNat)
  case atStart => exact ⟨0, by omega, rfl, rfl, Lib.hid (by rw [hwo]; exact Below.refl _ _)⟩
  case round =>
    obtain ⟨k, hk, rfl, rfl, HB⟩ := hrel
    by_cases hlt : k < l.length
    · have hd : decide ((k : Int) < (l.length : Int)) = true := decide_eq_true (by omega)
      have hd' : decide (k < l.length) = true := decide_eq_true hlt
      have i0 : (0 : Int) ≤ (k : Int) := by omega
      have i1 : (k : Int) < (l.length : Int) := by omega
      obtain ⟨c0, c1, c2⟩ := HC.out _ (hwo ▸ HB.out) k hlt
      have HCN : Hid (cntE (l.take (k + 1)) = cntE (l.take k) + if l[k].2.2 then 1 else 0) := Lib.hid (by
        unfold cntE
        rw [List.take_succ_eq_append_getElem hlt, List.countP_append, List.countP_singleton])
      have hcl : cntE (l.take k) ≤ k := by
        have := List.countP_le_length (p := fun x : It => x.2.2) (l := l.take k)
        rw [List.length_take] at this
        unfold cntE
        omega
      generalize l[k] = x at *
      generalize cntE (l.take k) = ck at *
      obtain ⟨xc, xr, xe⟩ := x
      have HB2 : Hid (Below wo.heap.size wo (wr.alloc (.cells #[.int .i64 xc, .int .u64 xr, .bool xe] 28))) := Lib.hid (HB.out.alloc HB.out.size _)
      cases xe
      · go_wp2_with fail
        try dsimp only [Bool.false_eq_true, if_false, Nat.add_zero] at HCN
        go_roundw
        case rel => exact ⟨k + 1, by omega, by go_num, by rw [HCN.out]; simp, HB2⟩
        case measure => simp [intOf]; omega
      · go_wp2_with fail
        go_roundw
        case rel => exact ⟨k + 1, by omega, by go_num, by rw [HCN.out]; simp, HB2⟩
        case measure => simp [intOf]; omega
    · obtain rfl : k = l.length := by omega
      have hd : decide ((l.length : Int) < (l.length : Int)) = false := by simp
      rw [List.take_length]
      have KC := Lib.hid (cloneI_any l hne hl _ wr (HV.out.below (hwo ▸ HB.out)))
      go_wp2_with fail
      refine KC.out.mono ?_
      rintro e w2 ⟨g, cp, tl, rfl, hc1, hc2, hg, hbl, hb2⟩
      have HB2 : Hid (Below wo.heap.size wo w2) := Lib.hid (HB.out.trans (hb2.mono HB.out.size))
      have KS := Lib.hid (sortStable_any leI_trans l l.length cp rfl hc1 hl hw (List.pairwise_iff_forall_sublist.2 fun _ => fitI _ _) (cmp_ok (w0 := w2) (G := g)) w2 (tl := tl) ⟨hbl, MFrame.refl _ _⟩)
      have HSZ : Hid (w.heap.size ≤ wr.heap.size) := Lib.hid (by rw [← hwo]; exact HB.out.size)
      clear hb2 hbl KC HB
      go_wp2_with fail
      refine KS.out.mono ?_
      rintro e w3 ⟨rfl, T, hT1, hT2, hT3⟩
      have HB3 : Hid (Below wo.heap.size wo w3) := Lib.hid (HB2.out.trans (hT3.fr.below (fun k hk => by have := (hwo ▸ HSZ.out : wo.heap.size ≤ wr.heap.size); omega) HB2.out.size))
      have HT := Lib.hid hT3.blk
      have hgl : g < w3.heap.size := hT3.blk.lt
      obtain ⟨n, hn⟩ : ∃ n, goI l cap' batch = n := ⟨_, rfl⟩
      have hnl : n ≤ l.length := by rw [← hn]; unfold goI; omega
      have hmn : min (manyI (l.length : Int) (cntE l : Int) cap' batch) (l.length : Int) = (n : Int) := by
        have h0 : 0 ≤ manyI (l.length : Int) (cntE l : Int) cap' batch := by unfold manyI; omega
        rw [← hn]
        unfold goI
        omega
      have hmn2 : (if (l.length : Int) < manyI (l.length : Int) (cntE l : Int) cap' batch then (l.length : Int) else manyI (l.length : Int) (cntE l : Int) cap' batch) = (n : Int) := by
        rw [← hmn]
        split <;> omega
      have HVI : Hid (victI l cap' batch = (T.take n).map (·.1)) := Lib.hid (by
        rw [vict_of hT2 hT1 n]
        unfold victI
        rw [hn])
      have hTl : T.length = l.length := hT1.length_eq
      have KM := Lib.hid (fun w' => many_any (l.length : Int) (cntE l : Int) cap' batch w')
      clear KS hT1 hT2 hT3 hn
      go_wp2_with fail
      refine (KM.out _).mono ?_
      rintro e w' ⟨rfl, rfl⟩
      obtain ⟨w3, hw3⟩ : ∃ w3 : World, w3 = w' := ⟨_, rfl⟩
      go_wp2_with fail
      go_loopw [10, 40] (fun sv i wy => ∃ k : Nat, k ≤ n ∧ i = .int .i64 k ∧ Hid (wy.ownsRow w3.heap.size 3 1 sv k (((T.take k).map (·.1)).map (Value.int .i64))) ∧ Hid (Below w3.heap.size w3 wy)) (fun _ i _ => n - (intOf i).toNat)
      case atStart => exact ⟨0, by omega, rfl, Lib.hid (World.ownsRow_nil _ _ _ _), Lib.hid (by rw [hw3]; exact Below.refl _ _)⟩
      case round =>
        obtain ⟨k, hk, rfl, HO, HBY⟩ := hrel
        by_cases hkn : k < n
        · have hd : decide ((k : Int) < (n : Int)) = true := decide_eq_true (by omega)
          have hd' : decide (k < n) = true := decide_eq_true hkn
          have hkT : k < T.length := by omega
          have j0 : (0 : Int) ≤ (k : Int) := by omega
          have j1 : (k : Int) < (n : Int) := by omega
          have HBK := Lib.hid ((hw3.symm ▸ HT.out : Blk w3 g (flatV itV T ++ tl).toArray 28).below HBY.out (by rw [hw3]; exact hgl))
          have hat3 : ∀ (j : Nat) (u : Value), (itV T[k])[j]? = some u → wr.cell? ⟨g, k * 3 + j, none⟩ = some u := fun j u hu => by
            have h1 := flatV_at itV_k hkT hu
            rw [HBK.out.cell, List.getElem?_toArray, List.getElem?_append_left (by have := List.getElem?_eq_some_iff.1 h1; exact this.1)]
            exact h1
          have c0 : wr.cell? ⟨g, k * 3, none⟩ = some (.int .i64 T[k].1) := hat3 0 _ rfl
          have c1 : wr.cell? ⟨g, k * 3 + 1, none⟩ = some (.int .u64 T[k].2.1) := hat3 1 _ rfl
          have c2 : wr.cell? ⟨g, k * 3 + 2, none⟩ = some (.bool T[k].2.2) := hat3 2 _ rfl
          have HTK : Hid (((T.take (k + 1)).map (·.1)).map (Value.int .i64) = ((T.take k).map (·.1)).map (Value.int .i64) ++ [.int .i64 T[k].1]) := Lib.hid (by rw [List.take_succ_eq_append_getElem hkT, List.map_append, List.map_append]; rfl)
          clear hat3
          generalize T[k] = x at *
          obtain ⟨xc, xr, xe⟩ := x
          go_upto_region 14 with fail
          refine at_world (fun wb => Below w3.heap.size w3 wb ∧ wb.ownsRow w3.heap.size 3 1 u10 k (((T.take k).map (·.1)).map (Value.int .i64)) ∧ wb.cell? ⟨wr.heap.size, 0, none⟩ = some (.int .i64 xc)) ⟨HBY.out.alloc HBY.out.size (.cells #[.int .i64 xc, .int .u64 xr, .bool xe] 28), HO.out.alloc _, (Blk.new wr #[.int .i64 xc, .int .u64 xr, .bool xe] 28).cell 0⟩ ?_
          rintro wb ⟨hb1, hb2, cb⟩
          have HBB := Lib.hid hb1
          have HOB := Lib.hid hb2
          clear hb1 hb2 c0 c1 c2
          go_wp2_with (first
            | (at_builtin; go_loud (refine wpList_append_own_at _ rfl (.tmp 44) (.tmp 47) 29 rfl w3.heap.size 3 i0 (.int .i64 0) 1 8 Try.underlying29 HI.out HZ.out HS.out HY.out rfl (by decide) _ k (((T.take k).map (·.1)).map (Value.int .i64)) rfl (HOB.out.alloc _) ⟨wb.heap.size, 0, none⟩ 1 1 [.int .i64 xc] rfl rfl ((fun j u hu => by rw [addr_add]; rw [Nat.zero_add]; exact ((Blk.new wb #[.int .i64 xc] 3).cell j).trans (by simpa using hu))) (by simp [Value.oneCell']) (by unfold maxLen; omega) (by omega) (by have := HBB.out.size; simp; omega) ?_))
            | fail)
          intro v' w4 hown hgrow _ _
          have HO4 : Hid (w4.ownsRow w3.heap.size 3 1 v' (k + 1) (((T.take (k + 1)).map (·.1)).map (Value.int .i64))) := Lib.hid (by
            have e : ((T.take k).map (·.1)).map (Value.int .i64) = List.take k (List.map (Value.int IntKind.i64 ∘ fun x => x.fst) T) := by rw [List.map_map, List.map_take]
            rw [HTK.out, hw3, e]
            exact hown)
          have HB4 : Hid (Below w3.heap.size w3 w4) := Lib.hid ((HBB.out.alloc HBB.out.size _).grown hgrow (by have := HBB.out.size; simp; omega) (fun j hj => (HOB.out.lt j hj).1))
          clear hown hgrow
          go_wp2
          go_roundw
          case rel => exact ⟨k + 1, by omega, by go_num, HO4, HB4⟩
          case measure => simp [intOf]; omega
        · obtain rfl : k = n := by omega
          have hd : decide ((k : Int) < (k : Int)) = false := by simp
          have HSL := Lib.hid (Sl1.of_owns HO.out)
          go_wp2
          go_ret
          exact ⟨_, rfl, by rw [HVI.out]; exact HSL.out, by rw [← hwo]; exact HB3.out.trans ((hw3 ▸ HBY.out).mono HB3.out.size)⟩
end Go.Proofs.Ytmnnfhplgepiaaa
