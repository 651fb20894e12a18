/-
  The walk of the law PolicyLate: of items that all are expired those of the least rank go; of items none of which is, none goes.
-/
import Derived.Test.YtmnnfhplgepiaaaPolT
namespace Go.Proofs.Ytmnnfhplgepiaaa
open Go Go.RowKit Go.Sg
set_option maxHeartbeats 4000000 in
set_option maxRecDepth 100000 in
theorem PolicyLate_walk (v : Value) (zs : List Int) (b : Int) (w : World) (hv : SlI .u64 w v zs) (hb : Num b) :
    Calls Try.prog 6 #[v, .int .i64 b] w fun e w' => e = .returned (.bool true) ∧ Below w.heap.size w w' := by
  have HZ := Lib.hid (slI_words16 hv)
  obtain ⟨a, cap, rfl, h1, h2⟩ := sl1_at16 (Sl1.of_SlI hv)
  rw [List.length_map] at h1 ⊢
  unfold maxLen at h1
  have HV := Lib.hid h2
  have KS := Lib.hid (fun w' => shown16 w')
  clear hv h2
  go_enter Try.func6, Try.ntmps6
  go_wp2_with fail
  refine (KS.out _).mono ?_
  rintro e w1 ⟨rfl, hb1⟩
  have HB1 := Lib.hid hb1
  clear hb1
  by_cases hL : 50 < zs.length
  · have d3 : decide ((50 : Int) < (zs.length : Int)) = true := decide_eq_true (by omega)
    have d3' : decide (50 < zs.length) = true := decide_eq_true hL
    go_wp2
    go_ret
    exact ⟨rfl, HB1.out⟩
  have d3 : decide ((50 : Int) < (zs.length : Int)) = false := decide_eq_false (by omega)
  have d3' : decide (50 < zs.length) = false := decide_eq_false hL
  have hl : zs.length ≤ 50 := by omega
  have KP := Lib.hid (fun w' => pick_any b 60 hb (by decide) (by decide) w')
  have HPB : Hid (0 ≤ pickI b 60 ∧ pickI b 60 < 60) := Lib.hid (pickI_bd (by decide))
  generalize pickI b 60 = bb at *
  obtain ⟨i0, hi0, hz0, hz1, hz2⟩ := info_parts info_item
  have HI := Lib.hid hi0
  have HZ0 := Lib.hid hz0
  have HS := Lib.hid hz1
  have HY := Lib.hid hz2
  clear hi0 hz0 hz1 hz2 hb
  go_wp2_with fail
  refine (KP.out _).mono ?_
  rintro e w2 ⟨rfl, rfl⟩
  obtain ⟨wo, hwo⟩ : ∃ wo : World, wo = w2 := ⟨_, rfl⟩
  obtain ⟨f, hf⟩ : ∃ f : Nat → It, f = fun i : Nat => ((i : Int), zs.getD i 0 % 4611686018427387904, true) := ⟨_, rfl⟩
  obtain ⟨fk, hfk⟩ : ∃ fk : Nat → It, fk = fun i : Nat => ((i : Int), zs.getD i 0 % 4611686018427387904, false) := ⟨_, rfl⟩
  have HWO := Lib.hid hwo
  have HF := Lib.hid hf
  have HFK := Lib.hid hfk
  clear hf hfk hwo
  go_wp2_with fail
  go_loopw [7, 8, 9] (fun s1 s2 i wr => ∃ k : Nat, k ≤ zs.length ∧ i = .int .i64 k ∧ Hid (TwoO wr wo.heap.size 28 s1 s2 k (flatV itV (mkI f k)) (flatV itV (mkI fk k))) ∧ Hid (Below wo.heap.size wo wr)) (fun _ _ i _ => zs.length - (intOf i).toNat)
  case atStart => exact ⟨0, by omega, rfl, Lib.hid ⟨World.ownsRow_nil _ _ _ _, World.ownsRow_nil _ _ _ _, by simp [Value.ownBlock]⟩, Lib.hid (by rw [HWO.out]; exact Below.refl _ _)⟩
  case round =>
    obtain ⟨k, hk, rfl, HT, HB⟩ := hrel
    by_cases hlt : k < zs.length
    · have hd : decide ((k : Int) < (zs.length : Int)) = true := decide_eq_true (by omega)
      have hd' : decide (k < zs.length) = true := decide_eq_true hlt
      have j0 : (0 : Int) ≤ (k : Int) := by omega
      have j1 : (k : Int) < (zs.length : Int) := by omega
      obtain ⟨vb, vo, rfl, hc⟩ := HV.out wr ((HWO.out ▸ HB1.out : Below w.heap.size w wo).trans (HB.out.mono (HWO.out ▸ HB1.out : Below w.heap.size w wo).size)) k (.int .u64 zs[k]) (by simp [hlt])
      have hzw : Word zs[k] := HZ.out _ (List.getElem_mem hlt)
      have hfx : f k = ((k : Int), zs[k] % 4611686018427387904, true) := by rw [HF.out]; simp [List.getD_eq_getElem?_getD, List.getElem?_eq_getElem hlt]
      have hfy : fk k = ((k : Int), zs[k] % 4611686018427387904, false) := by rw [HFK.out]; simp [List.getD_eq_getElem?_getD, List.getElem?_eq_getElem hlt]
      have HE1 : Hid (flatV itV (mkI f (k + 1)) = flatV itV (mkI f k) ++ [.int .i64 (k : Int), .int .u64 (zs[k] % 4611686018427387904), .bool true]) := Lib.hid (by rw [flatV_mkI, hfx]; rfl)
      have HE2 : Hid (flatV itV (mkI fk (k + 1)) = flatV itV (mkI fk k) ++ [.int .i64 (k : Int), .int .u64 (zs[k] % 4611686018427387904), .bool false]) := Lib.hid (by rw [flatV_mkI, hfy]; rfl)
      have mm : zs[k].tmod 4611686018427387904 = zs[k] % 4611686018427387904 := Int.tmod_eq_emod_of_nonneg hzw.1
      clear hfx hfy hzw
      generalize zs[k] = z at *
      go_upto_region 11 with (first
        | (refine wpList_store_row rfl 28 (.tmp 10) (.tmp 37) rfl wr.heap.size #[.int .i64 (k : Int), .int .u64 (z % 4611686018427387904), .bool true] rfl rfl 28 _ (Blk.new wr _ _) (by kernel_rfl) (by simp) (by simp [Value.oneCell']) ?_)
        | fail)
      obtain ⟨cs, hcs⟩ : ∃ cs : List Value, cs = [.int .i64 (k : Int), .int .u64 (z % 4611686018427387904), .bool true] := ⟨_, rfl⟩
      have hlt1 : ∀ j, u7.ownBlock = some j → wo.heap.size ≤ j ∧ j < wr.heap.size := fun j hj => HT.out.o1.lt j hj
      have hlt2 : ∀ j, u8.ownBlock = some j → wo.heap.size ≤ j ∧ j < wr.heap.size := fun j hj => HT.out.o2.lt j hj
      have hn1 : u7.ownBlock ≠ some wr.heap.size := fun e => by have := (hlt1 _ e).2; omega
      have hn2 : u8.ownBlock ≠ some wr.heap.size := fun e => by have := (hlt2 _ e).2; omega
      refine at_world (fun w' => Blk w' wr.heap.size #[.int .i64 (k : Int), .int .u64 (z % 4611686018427387904), .bool true] 28 ∧ TwoO w' wo.heap.size 28 u7 u8 k (flatV itV (mkI f k)) (flatV itV (mkI fk k)) ∧ Below wo.heap.size wo w') ⟨(Blk.new wr _ _).setRow _, ⟨own_row (HT.out.o1.alloc _) _ _ hn1, own_row (HT.out.o2.alloc _) _ _ hn2, HT.out.ne⟩, below_row16 (HB.out.alloc HB.out.size _) _ _ HB.out.size⟩ ?_
      rintro w3 ⟨hb3, ht3, hw3⟩
      have hGo : wo.heap.size ≤ wr.heap.size := HB.out.size
      obtain ⟨G, hG⟩ : ∃ G, wr.heap.size = G := ⟨_, rfl⟩
      rw [hG] at hb3 hGo hn1 hn2 ⊢
      have c0 := hb3.cell 0
      have c1 := hb3.cell 1
      have c2 := hb3.cell 2
      simp only [List.getElem?_toArray, List.getElem?_cons_succ, List.getElem?_cons_zero] at c0 c1 c2
      have HB3 := Lib.hid hb3
      have HT3 := Lib.hid ht3
      have HW3 := Lib.hid hw3
      have HN1 := Lib.hid hn1
      have HN2 := Lib.hid hn2
      clear hb3 ht3 hw3 hn1 hn2 hlt1 hlt2 hG HT HB hc
      go_wp2_with (first
        | (at_builtin; go_loud (refine wpList_append_own_at _ rfl (.tmp 38) (.tmp 40) 25 rfl wo.heap.size 28 i0 (.agg #[.int .i64 0, .int .u64 0, .bool false]) 3 24 Try.underlying25 HI.out HZ0.out HS.out HY.out rfl (by decide) _ k (flatV itV (mkI f k)) rfl (HT3.out.o1.alloc _) ⟨w3.heap.size, 0, none⟩ 1 1 [.int .i64 (k : Int), .int .u64 (z % 4611686018427387904), .bool true] rfl rfl (cells_lit _ _ _) (by simp [Value.oneCell']) (by unfold maxLen; omega) (by omega) (by have := HW3.out.size; simp; omega) ?_))
        | fail)
      intro v1 w4 hown hgrow _ hbk
      have ho1 : w4.ownsRow wo.heap.size 28 3 v1 (k + 1) (flatV itV (mkI f (k + 1))) := by rw [HE1.out]; exact hown
      have ho2 : w4.ownsRow wo.heap.size 28 3 u8 k (flatV itV (mkI fk k)) := own_grown (HT3.out.o2.alloc _) hgrow (fun j hj e => HT3.out.ne j e hj)
      have hb4 : Blk w4 G #[.int .i64 (k : Int), .int .u64 (z % 4611686018427387904), .bool true] 28 := blk_grown (HB3.out.alloc _) hgrow HN1.out
      have hne : ∀ j, v1.ownBlock = some j → u8.ownBlock ≠ some j := fun j hj e => by
        rcases hbk with h | h
        · exact HT3.out.ne j (h ▸ hj) e
        · have h1 := (HT3.out.o2.lt j e).2
          rw [h] at hj
          simp at hj
          omega
      have hnG : v1.ownBlock ≠ some G := fun e => by
        rcases hbk with h | h
        · exact HN1.out (h ▸ e)
        · have h1 := HB3.out.lt
          rw [h] at e
          simp at e
          omega
      have hw4 : Below wo.heap.size wo w4 := (HW3.out.alloc HW3.out.size _).grown hgrow (by have := HW3.out.size; simp; omega) (fun j hj => (HT3.out.o1.lt j hj).1)
      have c2 : w4.cell? ⟨G, 2, none⟩ = some (.bool true) := hb4.cell 2
      have f2 := hb4.free 2
      have HWF : Hid (Blk (w4.setCell ⟨G, 2, none⟩ (.bool false)) G #[.int .i64 (k : Int), .int .u64 (z % 4611686018427387904), .bool false] 28 ∧ (w4.setCell ⟨G, 2, none⟩ (.bool false)).ownsRow wo.heap.size 28 3 v1 (k + 1) (flatV itV (mkI f (k + 1))) ∧ (w4.setCell ⟨G, 2, none⟩ (.bool false)).ownsRow wo.heap.size 28 3 u8 k (flatV itV (mkI fk k)) ∧ Below wo.heap.size wo (w4.setCell ⟨G, 2, none⟩ (.bool false))) :=
        Lib.hid ⟨hb4.set 2 _, own_set ho1 _ _ hnG, own_set ho2 _ _ HN2.out, below_set16 hw4 _ _ _ hGo⟩
      have HNE := Lib.hid hne
      clear hown hgrow hbk ho1 ho2 hb4 hne hnG hw4 HT3 HB3 HW3
      go_upto_region 13 with fail
      refine at_world (fun w' => Blk w' G #[.int .i64 (k : Int), .int .u64 (z % 4611686018427387904), .bool false] 28 ∧ w'.ownsRow wo.heap.size 28 3 v1 (k + 1) (flatV itV (mkI f (k + 1))) ∧ w'.ownsRow wo.heap.size 28 3 u8 k (flatV itV (mkI fk k)) ∧ Below wo.heap.size wo w') HWF.out ?_
      rintro w5 ⟨hb5, ho1, ho2, hw5⟩
      have c0 := hb5.cell 0
      have c1 := hb5.cell 1
      have c2' := hb5.cell 2
      simp only [List.getElem?_toArray, List.getElem?_cons_succ, List.getElem?_cons_zero] at c0 c1 c2'
      have HO1 := Lib.hid ho1
      have HO2 := Lib.hid ho2
      have HW5 := Lib.hid hw5
      clear hb5 ho1 ho2 hw5 HWF c2 f2
      go_wp2_with (first
        | (at_builtin; go_loud (refine wpList_append_own_at _ rfl (.tmp 43) (.tmp 45) 25 rfl wo.heap.size 28 i0 (.agg #[.int .i64 0, .int .u64 0, .bool false]) 3 24 Try.underlying25 HI.out HZ0.out HS.out HY.out rfl (by decide) _ k (flatV itV (mkI fk k)) rfl (HO2.out.alloc _) ⟨w5.heap.size, 0, none⟩ 1 1 [.int .i64 (k : Int), .int .u64 (z % 4611686018427387904), .bool false] rfl rfl (cells_lit _ _ _) (by simp [Value.oneCell']) (by unfold maxLen; omega) (by omega) (by have := HW5.out.size; simp; omega) ?_))
        | fail)
      intro v2 w6 hown hgrow _ hbk
      have HT6 : Hid (TwoO w6 wo.heap.size 28 v1 v2 (k + 1) (flatV itV (mkI f (k + 1))) (flatV itV (mkI fk (k + 1)))) := Lib.hid ⟨own_grown (HO1.out.alloc _) hgrow (fun j hj e => HNE.out j hj e), by rw [HE2.out]; exact hown, fun j hj e => by
        rcases hbk with h | h
        · exact HNE.out j hj (h ▸ e)
        · have h1 := (HO1.out.lt j hj).2
          rw [h] at e
          simp at e
          omega⟩
      have HW6 : Hid (Below wo.heap.size wo w6) := Lib.hid ((HW5.out.alloc HW5.out.size _).grown hgrow (by have := HW5.out.size; simp; omega) (fun j hj => (HO2.out.lt j hj).1))
      clear hown hgrow hbk
      go_wp2
      go_roundw
      case rel => exact ⟨k + 1, by omega, by go_num, HT6, HW6⟩
      case measure => simp [intOf]; omega
    · obtain rfl : k = zs.length := by omega
      have hd : decide ((zs.length : Int) < (zs.length : Int)) = false := by simp
      obtain ⟨n, hn⟩ : ∃ n, zs.length = n := ⟨_, rfl⟩
      rw [hn] at HT hl d3 d3' hd ⊢
      have hf1 : ∀ i, (f i).1 = i := fun i => by rw [HF.out]
      have hf2 : ∀ i, (f i).2.2 = true := fun i => by rw [HF.out]
      have hf3 : ∀ i, 0 ≤ (f i).2.1 ∧ (f i).2.1 < 4611686018427387904 := fun i => by rw [HF.out]; simp only; omega
      have hk2 : ∀ i, (fk i).2.2 = false := fun i => by rw [HFK.out]
      have hk3 : ∀ i, 0 ≤ (fk i).2.1 ∧ (fk i).2.1 < 4611686018427387904 := fun i => by rw [HFK.out]; simp only; omega
      have HS1 := Lib.hid (SlK.of_owns (l := mkI f n) (by rw [mkI_len]; exact HT.out.o1))
      have HS2 := Lib.hid (SlK.of_owns (l := mkI fk n) (by rw [mkI_len]; exact HT.out.o2))
      have HL1 : Hid ((mkI f n).length = n) := Lib.hid (mkI_len f n)
      have HL2 : Hid ((mkI fk n).length = n) := Lib.hid (mkI_len fk n)
      obtain ⟨la, lc, rfl, -, -, -⟩ := itV_at HS1.out
      obtain ⟨ka, kc, rfl, -, -, -⟩ := itV_at HS2.out
      have KV1 := Lib.hid (fun w' (h : Below wr.heap.size wr w') => victims_all (mkI f n) (by rw [HL1.out]; omega) (fun x hx => by obtain ⟨i, _, rfl⟩ := mkI_mem.1 hx; have := hf3 i; exact ⟨by omega, by omega⟩) _ (n : Int) bb w' (HS1.out.below h))
      have KV2 := Lib.hid (fun w' (h : Below wr.heap.size wr w') => victims_all (mkI fk n) (by rw [HL2.out]; omega) (fun x hx => by obtain ⟨i, _, rfl⟩ := mkI_mem.1 hx; have := hk3 i; exact ⟨by omega, by omega⟩) _ (n : Int) bb w' (HS2.out.below h))
      have hv2 : victI (mkI fk n) (n : Int) bb = [] := by
        apply List.eq_nil_of_length_eq_zero
        rw [victI_len]
        have := go_none (l := mkI fk n) (fun x hx => by obtain ⟨i, _, rfl⟩ := mkI_mem.1 hx; exact hk2 i) (b := bb)
        rwa [HL2.out] at this
      have hv1 : ((victI (mkI f n) (n : Int) bb).length : Int) = min bb n := by
        rw [victI_len]
        have := go_late (l := mkI f n) (fun x hx => by obtain ⟨i, _, rfl⟩ := mkI_mem.1 hx; exact hf2 i) (by rw [HL1.out]; omega) HPB.out.1
        rwa [HL1.out] at this
      obtain ⟨jv, hj1, hj2⟩ := late_facts hf1 hf2 hf3 n (n : Int) bb
      rw [hv2] at KV2
      have HCL : Hid (∀ w', Below wr.heap.size wr w' → ∀ j, j < n → ∃ b o, la = some ⟨b, o, none⟩ ∧ w'.cell? ⟨b, o + j * 3 + 1, none⟩ = some (.int .u64 (f j).2.1)) := Lib.hid fun w' h j hj => by
        obtain ⟨_, _, e, _, _, h2⟩ := itV_at (HS1.out.below h)
        obtain ⟨b, o, e2, _, _, h3, _⟩ := h2 j (by rw [HL1.out]; exact hj)
        simp only [Value.slice.injEq, true_and] at e
        rw [mkI_get] at h3
        exact ⟨b, o, by rw [e.1]; exact e2, h3⟩
      rw [HL1.out] at KV1 ⊢
      rw [HL2.out] at KV2 ⊢
      obtain ⟨V, hV⟩ : ∃ V, victI (mkI f n) (n : Int) bb = V := ⟨_, rfl⟩
      rw [hV] at KV1 hv1
      have hj1' : ∀ i (hi : i < V.length), jv i < n ∧ V[i] = (jv i : Int) := by subst hV; exact hj1
      have hj2' : ∀ i, i + 1 < V.length → (f (jv i)).2.1 ≤ (f (jv (i + 1))).2.1 := by subst hV; exact hj2
      clear hj1 hj2
      have HR0 := Lib.hid (fun j => (hf3 j).1)
      obtain ⟨rk, hrk⟩ : ∃ rk : Nat → Int, rk = fun j => (f j).2.1 := ⟨_, rfl⟩
      have HCL2 : Hid (∀ w', Below wr.heap.size wr w' → ∀ j, j < n → ∃ b o, la = some ⟨b, o, none⟩ ∧ w'.cell? ⟨b, o + j * 3 + 1, none⟩ = some (.int .u64 (rk j))) := Lib.hid (by rw [hrk]; exact HCL.out)
      have HR02 : Hid (∀ j, 0 ≤ rk j) := Lib.hid (by rw [hrk]; exact HR0.out)
      have HJ1 := Lib.hid hj1'
      have HJ2 : Hid (∀ i, i + 1 < V.length → rk (jv i) ≤ rk (jv (i + 1))) := Lib.hid (by rw [hrk]; exact hj2')
      have HBW : Hid (Below w.heap.size w wr) := Lib.hid ((HWO.out ▸ HB1.out : Below w.heap.size w wo).trans (HB.out.mono (HWO.out ▸ HB1.out : Below w.heap.size w wo).size))
      have hmn : min bb (n : Int) = (V.length : Int) := hv1.symm
      have hmn2 : (if (n : Int) < bb then (n : Int) else bb) = (V.length : Int) := by rw [hv1]; split <;> omega
      have q1 : ((V.length : Int) != (V.length : Int)) = false := by simp
      clear hv1 hv2 hj1' hj2' hV hf1 hf2 hf3 hk2 hk3 HCL HR0 hrk HS1 HS2 HT HF HFK HL1 HL2 HB hn
      go_wp2_with fail
      refine (KV1.out _ (Below.refl _ _)).mono ?_
      rintro e w3 ⟨va, rfl, hsa, hb3⟩
      have HB3 := Lib.hid hb3
      obtain ⟨aa, ac, rfl, _, hcv⟩ := sl1_at16 hsa
      have HCV := Lib.hid hcv
      rw [List.length_map]
      clear hsa hb3 hcv
      go_wp2_with fail
      refine (KV2.out _ HB3.out).mono ?_
      rintro e w4 ⟨vb, rfl, hsb, hb4⟩
      obtain ⟨ba, bc, rfl, _, _⟩ := sl1_at16 hsb
      have HB4 : Hid (Below wr.heap.size wr w4) := Lib.hid (HB3.out.trans (hb4.mono HB3.out.size))
      have HCV4 : Hid (∀ i, i < V.length → ∃ b o, aa = some ⟨b, o, none⟩ ∧ w4.cell? ⟨b, o + i, none⟩ = some (.int .i64 (jv i : Int))) := Lib.hid fun i hi => by
        refine HCV.out w4 hb4 i _ ?_
        rw [List.getElem?_map, List.getElem?_eq_getElem hi, (HJ1.out i hi).2]
        rfl
      have HCL4 : Hid (∀ j, j < n → ∃ b o, la = some ⟨b, o, none⟩ ∧ w4.cell? ⟨b, o + j * 3 + 1, none⟩ = some (.int .u64 (rk j))) := Lib.hid (HCL2.out w4 HB4.out)
      clear hsb hb4 HCV HCL2 KV1 KV2 KS KP
      go_wp2_with fail
      go_loop [12, 13] (fun la' i => ∃ (k : Nat) (lv : Int), k ≤ V.length ∧ i = .int .i64 k ∧ la' = .int .u64 lv ∧ Hid ((k = 0 → lv = 0) ∧ (0 < k → lv = rk (jv (k - 1))))) (fun _ i => V.length - (intOf i).toNat)
      case atStart => exact ⟨0, 0, by omega, rfl, rfl, Lib.hid ⟨fun _ => rfl, fun h => by omega⟩⟩
      case round =>
        obtain ⟨k, lv, hk, rfl, rfl, HLV⟩ := hrel
        by_cases hlt : k < V.length
        · have hd1 : decide ((k : Int) < (V.length : Int)) = true := decide_eq_true (by omega)
          have hd1' : decide (k < V.length) = true := decide_eq_true hlt
          obtain ⟨b1, o1, rfl, e1⟩ := HCV4.out k hlt
          have hjn := (HJ1.out k hlt).1
          obtain ⟨b2, o2, rfl, e2⟩ := HCL4.out (jv k) hjn
          have hle : lv ≤ rk (jv k) := by
            rcases Nat.eq_zero_or_pos k with h0 | h0
            · rw [HLV.out.1 h0]; exact HR02.out _
            · rw [HLV.out.2 h0]
              have := HJ2.out (k - 1) (by omega)
              rwa [show k - 1 + 1 = k by omega] at this
          have k0 : (0 : Int) ≤ (k : Int) := by omega
          have k1 : (k : Int) < (V.length : Int) := by omega
          have HLV2 : Hid ((k + 1 = 0 → rk (jv k) = 0) ∧ (0 < k + 1 → rk (jv k) = rk (jv (k + 1 - 1)))) := Lib.hid ⟨fun h => by omega, fun _ => rfl⟩
          generalize jv k = j at *
          generalize rk j = r at *
          have j0 : (0 : Int) ≤ (j : Int) := by omega
          have j1 : (j : Int) < (n : Int) := by omega
          have d5 : decide ((j : Int) < 0) = false := decide_eq_false (by omega)
          have d6 : decide ((n : Int) ≤ (j : Int)) = false := decide_eq_false (by omega)
          have d6' : decide (n ≤ j) = false := decide_eq_false (by omega)
          have d7 : decide (r < lv) = false := decide_eq_false (by omega)
          go_wp2
          go_round
          case rel => exact ⟨k + 1, r, by omega, by go_num, rfl, HLV2⟩
          case measure => simp [intOf]; omega
        · obtain rfl : k = V.length := by omega
          have hd1 : decide ((V.length : Int) < (V.length : Int)) = false := by simp
          go_wp2
          go_ret
          exact ⟨rfl, HBW.out.trans (HB4.out.mono HBW.out.size)⟩
end Go.Proofs.Ytmnnfhplgepiaaa
