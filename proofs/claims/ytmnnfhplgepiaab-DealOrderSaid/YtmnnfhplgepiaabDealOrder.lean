/-
  The walk of the law DealOrder: items are dealt in order, each once.
-/
import Derived.Test.YtmnnfhplgepiaabDealY
import Derived.Test.YtmnnfhplgepiaabDItem
namespace Go.Proofs.Ytmnnfhplgepiaab
open Go Go.RowKit Go.Sg
theorem info_boolD : (Try.prog.info? 4).map (fun i => (i.zero, i.size, i.bytes)) = some (some (.bool false), 1, 1) := by kernel_rfl
set_option maxHeartbeats 8000000 in
set_option maxRecDepth 100000 in
theorem DealOrder_walk (v : Value) (l : List Di) (w : World) (hv : SlK diV w v l) (_ho : ∀ x ∈ l, DiOk x) :
    Calls Try.prog 7 #[v] w fun e w' => e = .returned (.bool true) ∧ Below w.heap.size w w' := by
  have HV := Lib.hid hv
  obtain ⟨a, cap, rfl, h1, h2, h3⟩ := hv
  have H3 := Lib.hid h3
  have KS := Lib.hid (fun w' => shown9 w')
  unfold maxLen at h2
  clear h3 _ho
  go_enter Try.func7, Try.ntmps7
  go_wp2_with fail
  refine (KS.out _).mono ?_
  rintro e w1 ⟨rfl, hb1⟩
  have HB1 := Lib.hid hb1
  clear hb1
  by_cases hL : 150 < l.length
  · have d3 : decide ((150 : Int) < (l.length : Int)) = true := decide_eq_true (by omega)
    have d3' : decide (150 < l.length) = true := decide_eq_true hL
    go_wp2
    go_ret
    exact ⟨rfl, HB1.out⟩
  have d3 : decide ((150 : Int) < (l.length : Int)) = false := decide_eq_false (by omega)
  have d3' : decide (150 < l.length) = false := decide_eq_false hL
  have hl : l.length ≤ 150 := by omega
  have KO := Lib.hid (order_any l (by omega) _ w1 (HV.out.below HB1.out))
  obtain ⟨n, hn⟩ : ∃ n, l.length = n := ⟨_, rfl⟩
  have HN := Lib.hid hn
  rw [hn] at KO hl d3 d3' h1
  have hsl : Value.slice a l.length cap = .slice a n cap := by rw [hn]
  have q1 : ((n : Int) != (n : Int)) = false := by simp
  obtain ⟨j0, hj0, jz0, jz1, jz2⟩ := info_parts info_boolD
  have JI := Lib.hid hj0
  have JZ := Lib.hid jz0
  have JS := Lib.hid jz1
  have JY := Lib.hid jz2
  rw [hsl]
  clear hj0 jz0 jz1 jz2 hL hsl hn
  go_wp2_with fail
  refine KO.out.mono ?_
  rintro e w2 ⟨O, rfl, hO, hbo, hb2⟩
  have HB2 : Hid (Below w.heap.size w w2) := Lib.hid (HB1.out.trans (hb2.mono HB1.out.size))
  have HBO := Lib.hid hbo
  clear hb2 hbo hO KO
  go_wp2_with (first
    | (at_make; go_loud (refine wpList_make_row _ rfl (.tmp 26) (.tmp 26) 48 rfl 4 j0 (.bool false) Try.underlying48 JI.out JZ.out JS.out rfl .i64 .i64 n rfl rfl (by rw [JY.out]; omega) (by omega) ?_))
    | fail)
  obtain ⟨G, hG⟩ : ∃ G, w2.heap.size = G := ⟨_, rfl⟩
  have hrow := World.rowIs_made w2 (.bool false) n 4
  have hb3 : Below w2.heap.size w2 (w2.alloc (.cells (madeCells #[.bool false] n) 4)) := (Below.refl _ _).alloc (Nat.le_refl _) _
  rw [hG] at hrow ⊢
  have HG := Lib.hid hG
  have HR := Lib.hid hrow
  have HB3 := Lib.hid hb3
  clear hrow hb3 hG
  generalize w2.alloc (.cells (madeCells #[.bool false] n) 4) = w3 at *
  obtain ⟨od, hod⟩ : ∃ od, ordD l = od := ⟨_, rfl⟩
  have HOD := Lib.hid hod
  rw [hod] at HBO
  have hol : od.length = n := by rw [← hod, ordD_len, HN.out]
  have HOM : Hid (∀ x ∈ od, 0 ≤ x ∧ x < (n : Int)) := Lib.hid fun x hx => by
    rw [← hod] at hx
    have := (ordD_perm l).mem_iff.1 hx
    rw [idx_mem, HN.out] at this
    exact this
  have HND : Hid od.Nodup := Lib.hid (by rw [← hod]; exact (ordD_perm l).nodup_iff.2 (idx_nodup _))
  have HUP : Hid (od.Pairwise (leO l)) := Lib.hid (by rw [← hod]; exact ordD_sorted l)
  clear hod
  have HOL := Lib.hid hol
  clear hol
  go_loopw [6, 7, 8] (fun iv _ _ wr => ∃ t : Nat, t ≤ n ∧ iv = .int .i64 t ∧ Hid (wr.rowIs G 4 n (fun j => .bool (decide ((j : Int) ∈ od.take t)))) ∧ Hid (Below w2.heap.size w2 wr)) (fun iv _ _ _ => n - (intOf iv).toNat)
  case atStart => exact ⟨0, by omega, rfl, Lib.hid (HR.out.congr (fun i _ => by simp)), HB3⟩
  case round =>
    obtain ⟨t, ht, rfl, HRT, HBT⟩ := hrel
    by_cases hlt : t < n
    · have hd : decide ((t : Int) < (n : Int)) = true := decide_eq_true (by omega)
      have hd' : decide (t < n) = true := decide_eq_true hlt
      have hto : t < od.length := by rw [HOL.out]; exact hlt
      have HCO : Hid (∀ w', Below w2.heap.size w2 w' → ∀ r (hr : r < od.length), w'.cell? ⟨O, r, none⟩ = some (.int .i64 od[r])) := Lib.hid fun w' h r hr => by
        rw [h.cell (p := ⟨O, r, none⟩) HBO.out.lt, HBO.out.cell, List.getElem?_toArray, List.getElem?_map, List.getElem?_eq_getElem hr]
        rfl
      have HCL : Hid (∀ w', Below w2.heap.size w2 w' → ∀ j : Nat, j < n → ∃ b o, a = some ⟨b, o, none⟩ ∧ w'.rangeAt b (o + j * 2) (diV (getD' l (j : Int)))) := Lib.hid fun w' h j hj => by
        have hjl : j < l.length := by rw [HN.out]; exact hj
        obtain ⟨b, o, rfl, hblt, hrl⟩ := H3.out (fun e => by rw [e] at hjl; simp at hjl)
        refine ⟨b, o, rfl, ?_⟩
        have hgd : getD' l (j : Int) = l[j] := by unfold getD'; simp [List.getD_eq_getElem?_getD, List.getElem?_eq_getElem hjl]
        rw [hgd]
        exact fun k u hu => ((HB2.out.trans (h.mono HB2.out.size)).cell (p := ⟨b, o + j * 2 + k, none⟩) hblt).trans (range_flat diV_k hrl hjl k u hu)
      have c0 := HCO.out wr HBT.out t hto
      have hm0 := HOM.out od[t] (List.getElem_mem hto)
      have HTK : Hid (od.take (t + 1) = od.take t ++ [od[t]]) := Lib.hid (List.take_succ_eq_append_getElem hto)
      have hnm : od[t] ∉ od.take t := fun hm => by
        have h1 := HND.out
        rw [← List.take_append_drop t od, List.nodup_append] at h1
        refine h1.2.2 _ hm _ ?_ rfl
        rw [List.drop_eq_getElem_cons hto]
        exact List.mem_cons_self
      obtain ⟨y, hy⟩ : ∃ y : Nat, od[t] = y := ⟨od[t].toNat, by omega⟩
      have HY := Lib.hid hy
      rw [hy] at c0 hm0 HTK hnm
      have hyn : y < n := by omega
      have c1 := HRT.out.cell hyn
      rw [decide_eq_false hnm] at c1
      have f1 := HRT.out.frozen y
      have HRN : Hid ((wr.setCell ⟨G, y, none⟩ (.bool true)).rowIs G 4 n (fun i => .bool (decide ((i : Int) ∈ od.take (t + 1))))) := Lib.hid ((HRT.out.set y (.bool true)).congr (fun i _ => by
        rw [HTK.out]
        by_cases hij : i = y
        · subst hij; simp
        · have : ¬ ((i : Int) = (y : Int)) := by omega
          simp [hij, this]))
      have HBN : Hid (Below w2.heap.size w2 (wr.setCell ⟨G, y, none⟩ (.bool true))) := Lib.hid (below_setD HBT.out _ _ _ (Nat.le_of_eq HG.out))
      have t0 : (0 : Int) ≤ (t : Int) := by omega
      have t1 : (t : Int) < (n : Int) := by omega
      have y0 : (0 : Int) ≤ (y : Int) := by omega
      have y1 : (y : Int) < (n : Int) := by omega
      have d5 : decide ((y : Int) < 0) = false := decide_eq_false (by omega)
      have d6 : decide ((n : Int) ≤ (y : Int)) = false := decide_eq_false (by omega)
      have d6' : decide (n ≤ y) = false := decide_eq_false (by omega)
      clear hnm hy hm0
      by_cases ht0 : t = 0
      · subst ht0
        clear HCL HCO
        go_wp2
        go_roundw
        case rel => exact ⟨1, by omega, rfl, HRN, HBN⟩
        case measure => simp [intOf]; omega
      · have q2 : ((t : Int) == 0) = false := beq_eq_false_iff_ne.2 (by omega)
        go_upto_region 15 with fail
        obtain ⟨r, rfl⟩ : ∃ r, t = r + 1 := ⟨t - 1, by omega⟩
        refine at_world (fun w' => w'.rowIs G 4 n (fun i => .bool (decide ((i : Int) ∈ od.take (r + 1 + 1)))) ∧ Below w2.heap.size w2 w') ⟨HRN.out, HBN.out⟩ ?_
        rintro w6 ⟨hr6, hb6⟩
        have HR6 := Lib.hid hr6
        have HB6 := Lib.hid hb6
        have hro : r < od.length := by omega
        have hmx := HOM.out od[r] (List.getElem_mem hro)
        have hle := List.pairwise_iff_getElem.1 HUP.out r (r + 1) hro hto (by omega)
        rw [HY.out] at hle
        have c2 := HCO.out w6 hb6 r hro
        have c3 := HCO.out w6 hb6 (r + 1) hto
        rw [HY.out] at c3
        obtain ⟨x, hx⟩ : ∃ x : Nat, od[r] = x := ⟨od[r].toNat, by omega⟩
        rw [hx] at hmx hle c2
        have hxn : x < n := by omega
        obtain ⟨lb, lo, rfl, hix⟩ := HCL.out w6 hb6 x hxn
        have hiy : w6.rangeAt lb (lo + y * 2) (diV (getD' l (y : Int))) := by
          obtain ⟨_, _, e, h⟩ := HCL.out w6 hb6 y hyn
          simp only [Option.some.injEq, Addr.mk.injEq, and_true] at e
          obtain ⟨rfl, rfl⟩ := e
          exact h
        rw [leO_iff] at hle
        have HCO6 : Hid (∀ w', Below w6.heap.size w6 w' → w'.cell? ⟨O, r, none⟩ = some (.int .i64 (x : Int)) ∧ w'.cell? ⟨O, r + 1, none⟩ = some (.int .i64 (y : Int))) := Lib.hid fun w' h => ⟨(h.cell (p := ⟨O, r, none⟩) (World.block_lt_of_cell? w6 _ c2)).trans c2, (h.cell (p := ⟨O, r + 1, none⟩) (World.block_lt_of_cell? w6 _ c3)).trans c3⟩
        have e0 : w6.cell? ⟨lb, lo + x * 2, none⟩ = some (.int .u64 (getD' l (x : Int)).1) := hix 0 _ rfl
        have e1 : w6.cell? ⟨lb, lo + x * 2 + 1, none⟩ = some (.int .i64 (getD' l (x : Int)).2) := hix 1 _ rfl
        have HIY : Hid (∀ w', Below w6.heap.size w6 w' → w'.cell? ⟨lb, lo + y * 2, none⟩ = some (.int .u64 (getD' l (y : Int)).1) ∧ w'.cell? ⟨lb, lo + y * 2 + 1, none⟩ = some (.int .i64 (getD' l (y : Int)).2)) := Lib.hid fun w' h => by
          have i0 : w6.cell? ⟨lb, lo + y * 2, none⟩ = some (.int .u64 (getD' l (y : Int)).1) := hiy 0 _ rfl
          have i1 : w6.cell? ⟨lb, lo + y * 2 + 1, none⟩ = some (.int .i64 (getD' l (y : Int)).2) := hiy 1 _ rfl
          exact ⟨(h.cell (p := ⟨lb, lo + y * 2, none⟩) (World.block_lt_of_cell? w6 _ i0)).trans i0, (h.cell (p := ⟨lb, lo + y * 2 + 1, none⟩) (World.block_lt_of_cell? w6 _ i1)).trans i1⟩
        generalize getD' l (x : Int) = ia at *
        generalize getD' l (y : Int) = ib at *
        obtain ⟨ai, ad⟩ := ia
        obtain ⟨bi, bd⟩ := ib
        simp only at hle e0 e1 HIY
        have x0 : (0 : Int) ≤ (x : Int) := by omega
        have x1 : (x : Int) < (n : Int) := by omega
        have r0 : (0 : Int) ≤ (r : Int) := by omega
        have r1 : (r : Int) < (n : Int) := by omega
        have r2 : (0 : Int) ≤ (r : Int) + 1 := by omega
        have r3 : (r : Int) + 1 < (n : Int) := by omega
        have r4 : IntKind.i64.wrap ((r : Int) + 1 - 1) = (r : Int) := by rw [IntKind.wrap_i64]; omega
        have r6 : IntKind.i64.wrap (r : Int) = (r : Int) := by rw [IntKind.wrap_i64]; omega
        have r5 : ((r : Int) + 1).toNat = r + 1 := by omega
        clear hix hiy hx hmx c0 c1 f1 HRN HBN hr6 hb6 HRT HBT HCL HCO HUP HND HOM
        go_upto_region 16 with (first
          | (refine wpList_store_row rfl 44 (.tmp 7) (.tmp 72) rfl w6.heap.size #[.int .u64 ai, .int .i64 ad] rfl rfl 44 _ (Blk.new w6 _ _) (by kernel_rfl) (by simp) (by simp [Value.oneCell']) ?_)
          | fail)
        refine at_world (fun w' => Blk w' w6.heap.size #[.int .u64 ai, .int .i64 ad] 44 ∧ Below w6.heap.size w6 w') ⟨(Blk.new w6 _ _).setRow _, below_rowD ((Below.refl _ _).alloc (Nat.le_refl _) _) _ _ (Nat.le_refl _)⟩ ?_
        rintro w7 ⟨hba, hb7⟩
        obtain ⟨A, hA⟩ : ∃ A, w6.heap.size = A := ⟨_, rfl⟩
        obtain ⟨w8, hw8⟩ : ∃ w8, w7.alloc (.cells #[.int .u64 bi, .int .i64 bd] 44) = w8 := ⟨_, rfl⟩
        have hbb : Blk w8 w7.heap.size #[.int .u64 bi, .int .i64 bd] 44 := by rw [← hw8]; exact Blk.new w7 _ _
        have hb8 : Below w7.heap.size w7 w8 := by rw [← hw8]; exact (Below.refl _ _).alloc (Nat.le_refl _) _
        have hba8 := hba.below hb8 hba.lt
        have hb68 : Below w6.heap.size w6 w8 := hb7.trans (hb8.mono hb7.size)
        obtain ⟨i0, i1⟩ := HIY.out w7 hb7
        obtain ⟨c4, c5⟩ := HCO6.out w7 hb7
        obtain ⟨c6, c7⟩ := HCO6.out w8 hb68
        rw [hA] at hba8 ⊢
        obtain ⟨B, hB⟩ : ∃ B, w7.heap.size = B := ⟨_, rfl⟩
        rw [hB] at hbb
        have a0 : w8.cell? ⟨A, 0, none⟩ = some (.int .u64 ai) := hba8.cell 0
        have a1 : w8.cell? ⟨A, 1, none⟩ = some (.int .i64 ad) := hba8.cell 1
        have b0 : w8.cell? ⟨B, 0, none⟩ = some (.int .u64 bi) := hbb.cell 0
        have b1 : w8.cell? ⟨B, 1, none⟩ = some (.int .i64 bd) := hbb.cell 1
        have HCC8 : Hid (∀ w', Below w8.heap.size w8 w' → w'.cell? ⟨A, 0, none⟩ = some (.int .u64 ai) ∧ w'.cell? ⟨A, 1, none⟩ = some (.int .i64 ad) ∧ w'.cell? ⟨B, 0, none⟩ = some (.int .u64 bi) ∧ w'.cell? ⟨B, 1, none⟩ = some (.int .i64 bd) ∧ w'.cell? ⟨O, r, none⟩ = some (.int .i64 (x : Int)) ∧ w'.cell? ⟨O, r + 1, none⟩ = some (.int .i64 (y : Int))) := Lib.hid fun w' h =>
          ⟨(h.cell (p := ⟨A, 0, none⟩) hba8.lt).trans a0, (h.cell (p := ⟨A, 1, none⟩) hba8.lt).trans a1, (h.cell (p := ⟨B, 0, none⟩) hbb.lt).trans b0, (h.cell (p := ⟨B, 1, none⟩) hbb.lt).trans b1, (h.cell (p := ⟨O, r, none⟩) (World.block_lt_of_cell? w8 _ c6)).trans c6, (h.cell (p := ⟨O, r + 1, none⟩) (World.block_lt_of_cell? w8 _ c7)).trans c7⟩
        have HB8 : Hid (Below w2.heap.size w2 w8) := Lib.hid (HB6.out.trans (hb68.mono HB6.out.size))
        have HR8 : Hid (w8.rowIs G 4 n (fun i => .bool (decide ((i : Int) ∈ od.take (r + 1 + 1))))) := Lib.hid (HR6.out.of_block (hb68.block G HR6.out.lt))
        clear hba hb7 hbb hb8 hba8 hb68 HIY HCO6 e0 e1 c2 c3 HR6 HB6 hA
        have hc : (bd < 0 ∧ 0 ≤ ad) ∨ (ad < 0 ∧ bd < 0 ∧ (x : Int) ≤ (y : Int)) ∨ (0 ≤ ad ∧ 0 ≤ bd ∧ bd < ad) ∨ (0 ≤ ad ∧ 0 ≤ bd ∧ ad = bd ∧ ai < bi) ∨ (0 ≤ ad ∧ 0 ≤ bd ∧ ad = bd ∧ ai = bi ∧ (x : Int) ≤ (y : Int)) := by omega
        clear hle
        rcases hc with hc | hc | hc | hc | hc
        focus
          have g0 : decide (ad < 0) = false := decide_eq_false (by omega)
          have g1 : decide (0 ≤ bd) = false := decide_eq_false (by omega)
          clear hc
          go_upto_region 17 with fail
          try rw [hw8]
          obtain ⟨C, hCi, hCo, hCC⟩ : ∃ C : World → Prop, C w8.drew ∧ (∀ w', C w' → Below w8.heap.size w8 w') ∧ (∀ w', C w' → w'.cell? ⟨A, 0, none⟩ = some (.int .u64 ai) ∧ w'.cell? ⟨A, 1, none⟩ = some (.int .i64 ad) ∧ w'.cell? ⟨B, 0, none⟩ = some (.int .u64 bi) ∧ w'.cell? ⟨B, 1, none⟩ = some (.int .i64 bd) ∧ w'.cell? ⟨O, r, none⟩ = some (.int .i64 (x : Int)) ∧ w'.cell? ⟨O, r + 1, none⟩ = some (.int .i64 (y : Int))) :=
            ⟨fun w' => Below w8.heap.size w8 w', (Below.refl _ _).drew, fun _ h => h, HCC8.out⟩
          have HCO := Lib.hid hCo
          have HCC := Lib.hid hCC
          clear hCo hCC
          refine wp_region_cls C (by kernel_rfl) (by kernel_rfl) hCi ?_
          simp only [List.append_eq, List.cons_append, List.nil_append]
          with_reducible refine wpQuiet_step ?_
          intro K hK
          go_simp
          first
            | (with_reducible refine hK _ ?_)
            | (with_reducible refine ⟨_, fun _ _ => rfl, hK _ ?_⟩)
          clear hK K
          try simp only [Act.put, List.setIfInBounds_toArray, List.set_cons_zero, List.set_cons_succ]
          with_reducible refine wpQuiet_step ?_
          intro K hK
          refine qs_load_cell (by rfl) 3 _ rfl ⟨A, 1, none⟩ rfl (.int .i64 ad) (fun w hw => (HCC.out w hw).2.1) Try.isAgg3 (hK _ ?_)
          clear hK K
          try simp only [Act.put, List.setIfInBounds_toArray, List.set_cons_zero, List.set_cons_succ]
          with_reducible refine wpQuiet_step ?_
          intro K hK
          go_simp
          first
            | (with_reducible refine hK _ ?_)
            | (with_reducible refine ⟨_, fun _ _ => rfl, hK _ ?_⟩)
          clear hK K
          try simp only [Act.put, List.setIfInBounds_toArray, List.set_cons_zero, List.set_cons_succ]
          with_reducible refine wpQuiet_step ?_
          intro K hK
          go_simp
          first
            | (with_reducible refine hK _ ?_)
            | (with_reducible refine ⟨_, fun _ _ => rfl, hK _ ?_⟩)
          clear hK K
          try simp only [Act.put, List.setIfInBounds_toArray, List.set_cons_zero, List.set_cons_succ]
          with_reducible refine wpQuiet_step ?_
          intro K hK
          refine qs_skipD (by rfl) (hK _ ?_)
          clear hK K
          try simp only [Act.put, List.setIfInBounds_toArray, List.set_cons_zero, List.set_cons_succ]
          with_reducible refine wpQuiet_step ?_
          intro K hK
          refine qs_skipD (by rfl) (hK _ ?_)
          clear hK K
          try simp only [Act.put, List.setIfInBounds_toArray, List.set_cons_zero, List.set_cons_succ]
          with_reducible refine wpQuiet_step ?_
          intro K hK
          refine qs_skipD (by rfl) (hK _ ?_)
          clear hK K
          try simp only [Act.put, List.setIfInBounds_toArray, List.set_cons_zero, List.set_cons_succ]
          with_reducible refine wpQuiet_step ?_
          intro K hK
          refine qs_skipD (by rfl) (hK _ ?_)
          clear hK K
          try simp only [Act.put, List.setIfInBounds_toArray, List.set_cons_zero, List.set_cons_succ]
          with_reducible refine wpQuiet_step ?_
          intro K hK
          refine qs_skipD (by rfl) (hK _ ?_)
          clear hK K
          try simp only [Act.put, List.setIfInBounds_toArray, List.set_cons_zero, List.set_cons_succ]
          with_reducible refine wpQuiet_step ?_
          intro K hK
          refine qs_skipD (by rfl) (hK _ ?_)
          clear hK K
          try simp only [Act.put, List.setIfInBounds_toArray, List.set_cons_zero, List.set_cons_succ]
          with_reducible refine wpQuiet_step ?_
          intro K hK
          refine qs_skipD (by rfl) (hK _ ?_)
          clear hK K
          try simp only [Act.put, List.setIfInBounds_toArray, List.set_cons_zero, List.set_cons_succ]
          with_reducible refine wpQuiet_step ?_
          intro K hK
          refine qs_skipD (by rfl) (hK _ ?_)
          clear hK K
          try simp only [Act.put, List.setIfInBounds_toArray, List.set_cons_zero, List.set_cons_succ]
          with_reducible refine wpQuiet_step ?_
          intro K hK
          refine qs_skipD (by rfl) (hK _ ?_)
          clear hK K
          try simp only [Act.put, List.setIfInBounds_toArray, List.set_cons_zero, List.set_cons_succ]
          with_reducible refine wpQuiet_step ?_
          intro K hK
          refine qs_skipD (by rfl) (hK _ ?_)
          clear hK K
          try simp only [Act.put, List.setIfInBounds_toArray, List.set_cons_zero, List.set_cons_succ]
          with_reducible refine wpQuiet_step ?_
          intro K hK
          refine qs_skipD (by rfl) (hK _ ?_)
          clear hK K
          try simp only [Act.put, List.setIfInBounds_toArray, List.set_cons_zero, List.set_cons_succ]
          with_reducible refine wpQuiet_step ?_
          intro K hK
          refine qs_skipD (by rfl) (hK _ ?_)
          clear hK K
          try simp only [Act.put, List.setIfInBounds_toArray, List.set_cons_zero, List.set_cons_succ]
          with_reducible refine wpQuiet_step ?_
          intro K hK
          refine qs_skipD (by rfl) (hK _ ?_)
          clear hK K
          try simp only [Act.put, List.setIfInBounds_toArray, List.set_cons_zero, List.set_cons_succ]
          with_reducible refine wpQuiet_step ?_
          intro K hK
          refine qs_skipD (by rfl) (hK _ ?_)
          clear hK K
          try simp only [Act.put, List.setIfInBounds_toArray, List.set_cons_zero, List.set_cons_succ]
          with_reducible refine wpQuiet_step ?_
          intro K hK
          refine qs_skipD (by rfl) (hK _ ?_)
          clear hK K
          try simp only [Act.put, List.setIfInBounds_toArray, List.set_cons_zero, List.set_cons_succ]
          with_reducible refine wpQuiet_step ?_
          intro K hK
          go_simp
          first
            | (with_reducible refine hK _ ?_)
            | (with_reducible refine ⟨_, fun _ _ => rfl, hK _ ?_⟩)
          clear hK K
          try simp only [Act.put, List.setIfInBounds_toArray, List.set_cons_zero, List.set_cons_succ]
          with_reducible refine wpQuiet_step ?_
          intro K hK
          go_simp
          first
            | (with_reducible refine hK _ ?_)
            | (with_reducible refine ⟨_, fun _ _ => rfl, hK _ ?_⟩)
          clear hK K
          try simp only [Act.put, List.setIfInBounds_toArray, List.set_cons_zero, List.set_cons_succ]
          with_reducible refine wpQuiet_step ?_
          intro K hK
          go_simp
          first
            | (with_reducible refine hK _ ?_)
            | (with_reducible refine ⟨_, fun _ _ => rfl, hK _ ?_⟩)
          clear hK K
          try simp only [Act.put, List.setIfInBounds_toArray, List.set_cons_zero, List.set_cons_succ]
          with_reducible refine wpQuiet_step ?_
          intro K hK
          refine qs_load_cell (by rfl) 3 _ rfl ⟨B, 1, none⟩ rfl (.int .i64 bd) (fun w hw => (HCC.out w hw).2.2.2.1) Try.isAgg3 (hK _ ?_)
          clear hK K
          try simp only [Act.put, List.setIfInBounds_toArray, List.set_cons_zero, List.set_cons_succ]
          with_reducible refine wpQuiet_step ?_
          intro K hK
          go_simp
          first
            | (with_reducible refine hK _ ?_)
            | (with_reducible refine ⟨_, fun _ _ => rfl, hK _ ?_⟩)
          clear hK K
          try simp only [Act.put, List.setIfInBounds_toArray, List.set_cons_zero, List.set_cons_succ]
          with_reducible refine wpQuiet_step ?_
          intro K hK
          go_simp
          first
            | (with_reducible refine hK _ ?_)
            | (with_reducible refine ⟨_, fun _ _ => rfl, hK _ ?_⟩)
          clear hK K
          try simp only [Act.put, List.setIfInBounds_toArray, List.set_cons_zero, List.set_cons_succ]
          with_reducible refine wpQuiet_step ?_
          intro K hK
          refine qs_skipD (by rfl) (hK _ ?_)
          clear hK K
          try simp only [Act.put, List.setIfInBounds_toArray, List.set_cons_zero, List.set_cons_succ]
          with_reducible refine wpQuiet_step ?_
          intro K hK
          refine qs_skipD (by rfl) (hK _ ?_)
          clear hK K
          try simp only [Act.put, List.setIfInBounds_toArray, List.set_cons_zero, List.set_cons_succ]
          with_reducible refine wpQuiet_step ?_
          intro K hK
          refine qs_skipD (by rfl) (hK _ ?_)
          clear hK K
          try simp only [Act.put, List.setIfInBounds_toArray, List.set_cons_zero, List.set_cons_succ]
          with_reducible refine wpQuiet_step ?_
          intro K hK
          refine qs_skipD (by rfl) (hK _ ?_)
          clear hK K
          try simp only [Act.put, List.setIfInBounds_toArray, List.set_cons_zero, List.set_cons_succ]
          with_reducible refine wpQuiet_step ?_
          intro K hK
          refine qs_skipD (by rfl) (hK _ ?_)
          clear hK K
          try simp only [Act.put, List.setIfInBounds_toArray, List.set_cons_zero, List.set_cons_succ]
          with_reducible refine wpQuiet_step ?_
          intro K hK
          refine qs_skipD (by rfl) (hK _ ?_)
          clear hK K
          try simp only [Act.put, List.setIfInBounds_toArray, List.set_cons_zero, List.set_cons_succ]
          with_reducible refine wpQuiet_step ?_
          intro K hK
          refine qs_skipD (by rfl) (hK _ ?_)
          clear hK K
          try simp only [Act.put, List.setIfInBounds_toArray, List.set_cons_zero, List.set_cons_succ]
          with_reducible refine wpQuiet_step ?_
          intro K hK
          refine qs_skipD (by rfl) (hK _ ?_)
          clear hK K
          try simp only [Act.put, List.setIfInBounds_toArray, List.set_cons_zero, List.set_cons_succ]
          with_reducible refine wpQuiet_step ?_
          intro K hK
          refine qs_skipD (by rfl) (hK _ ?_)
          clear hK K
          try simp only [Act.put, List.setIfInBounds_toArray, List.set_cons_zero, List.set_cons_succ]
          with_reducible refine wpQuiet_step ?_
          intro K hK
          refine qs_skipD (by rfl) (hK _ ?_)
          clear hK K
          try simp only [Act.put, List.setIfInBounds_toArray, List.set_cons_zero, List.set_cons_succ]
          with_reducible refine wpQuiet_step ?_
          intro K hK
          refine qs_skipD (by rfl) (hK _ ?_)
          clear hK K
          try simp only [Act.put, List.setIfInBounds_toArray, List.set_cons_zero, List.set_cons_succ]
          with_reducible refine wpQuiet_step ?_
          intro K hK
          refine qs_skipD (by rfl) (hK _ ?_)
          clear hK K
          try simp only [Act.put, List.setIfInBounds_toArray, List.set_cons_zero, List.set_cons_succ]
          with_reducible refine wpQuiet_step ?_
          intro K hK
          refine qs_skipD (by rfl) (hK _ ?_)
          clear hK K
          try simp only [Act.put, List.setIfInBounds_toArray, List.set_cons_zero, List.set_cons_succ]
          with_reducible refine wpQuiet_step ?_
          intro K hK
          refine qs_skipD (by rfl) (hK _ ?_)
          clear hK K
          try simp only [Act.put, List.setIfInBounds_toArray, List.set_cons_zero, List.set_cons_succ]
          with_reducible refine wpQuiet_step ?_
          intro K hK
          refine qs_skipD (by rfl) (hK _ ?_)
          clear hK K
          try simp only [Act.put, List.setIfInBounds_toArray, List.set_cons_zero, List.set_cons_succ]
          with_reducible refine wpQuiet_step ?_
          intro K hK
          refine qs_skipD (by rfl) (hK _ ?_)
          clear hK K
          try simp only [Act.put, List.setIfInBounds_toArray, List.set_cons_zero, List.set_cons_succ]
          with_reducible refine wpQuiet_step ?_
          intro K hK
          refine qs_skipD (by rfl) (hK _ ?_)
          clear hK K
          try simp only [Act.put, List.setIfInBounds_toArray, List.set_cons_zero, List.set_cons_succ]
          with_reducible refine wpQuiet_step ?_
          intro K hK
          refine qs_skipD (by rfl) (hK _ ?_)
          clear hK K
          try simp only [Act.put, List.setIfInBounds_toArray, List.set_cons_zero, List.set_cons_succ]
          with_reducible refine wpQuiet_step ?_
          intro K hK
          refine qs_skipD (by rfl) (hK _ ?_)
          clear hK K
          try simp only [Act.put, List.setIfInBounds_toArray, List.set_cons_zero, List.set_cons_succ]
          with_reducible refine wpQuiet_step ?_
          intro K hK
          refine qs_skipD (by rfl) (hK _ ?_)
          clear hK K
          try simp only [Act.put, List.setIfInBounds_toArray, List.set_cons_zero, List.set_cons_succ]
          with_reducible refine wpQuiet_step ?_
          intro K hK
          refine qs_skipD (by rfl) (hK _ ?_)
          clear hK K
          try simp only [Act.put, List.setIfInBounds_toArray, List.set_cons_zero, List.set_cons_succ]
          with_reducible refine wpQuiet_step ?_
          intro K hK
          refine qs_skipD (by rfl) (hK _ ?_)
          clear hK K
          try simp only [Act.put, List.setIfInBounds_toArray, List.set_cons_zero, List.set_cons_succ]
          with_reducible refine wpQuiet_step ?_
          intro K hK
          refine qs_skipD (by rfl) (hK _ ?_)
          clear hK K
          try simp only [Act.put, List.setIfInBounds_toArray, List.set_cons_zero, List.set_cons_succ]
          with_reducible refine wpQuiet_step ?_
          intro K hK
          refine qs_skipD (by rfl) (hK _ ?_)
          clear hK K
          try simp only [Act.put, List.setIfInBounds_toArray, List.set_cons_zero, List.set_cons_succ]
          with_reducible refine wpQuiet_step ?_
          intro K hK
          refine qs_skipD (by rfl) (hK _ ?_)
          clear hK K
          try simp only [Act.put, List.setIfInBounds_toArray, List.set_cons_zero, List.set_cons_succ]
          with_reducible refine wpQuiet_step ?_
          intro K hK
          refine qs_skipD (by rfl) (hK _ ?_)
          clear hK K
          try simp only [Act.put, List.setIfInBounds_toArray, List.set_cons_zero, List.set_cons_succ]
          with_reducible refine wpQuiet_step ?_
          intro K hK
          refine qs_skipD (by rfl) (hK _ ?_)
          clear hK K
          try simp only [Act.put, List.setIfInBounds_toArray, List.set_cons_zero, List.set_cons_succ]
          with_reducible refine wpQuiet_step ?_
          intro K hK
          refine qs_skipD (by rfl) (hK _ ?_)
          clear hK K
          try simp only [Act.put, List.setIfInBounds_toArray, List.set_cons_zero, List.set_cons_succ]
          with_reducible refine wpQuiet_step ?_
          intro K hK
          refine qs_skipD (by rfl) (hK _ ?_)
          clear hK K
          try simp only [Act.put, List.setIfInBounds_toArray, List.set_cons_zero, List.set_cons_succ]
          with_reducible refine wpQuiet_step ?_
          intro K hK
          refine qs_skipD (by rfl) (hK _ ?_)
          clear hK K
          try simp only [Act.put, List.setIfInBounds_toArray, List.set_cons_zero, List.set_cons_succ]
          with_reducible refine wpQuiet_step ?_
          intro K hK
          refine qs_skipD (by rfl) (hK _ ?_)
          clear hK K
          try simp only [Act.put, List.setIfInBounds_toArray, List.set_cons_zero, List.set_cons_succ]
          with_reducible refine wpQuiet_step ?_
          intro K hK
          refine qs_skipD (by rfl) (hK _ ?_)
          clear hK K
          try simp only [Act.put, List.setIfInBounds_toArray, List.set_cons_zero, List.set_cons_succ]
          with_reducible refine wpQuiet_step ?_
          intro K hK
          refine qs_skipD (by rfl) (hK _ ?_)
          clear hK K
          try simp only [Act.put, List.setIfInBounds_toArray, List.set_cons_zero, List.set_cons_succ]
          with_reducible refine wpQuiet_step ?_
          intro K hK
          refine qs_skipD (by rfl) (hK _ ?_)
          clear hK K
          try simp only [Act.put, List.setIfInBounds_toArray, List.set_cons_zero, List.set_cons_succ]
          with_reducible refine wpQuiet_step ?_
          intro K hK
          refine qs_skipD (by rfl) (hK _ ?_)
          clear hK K
          try simp only [Act.put, List.setIfInBounds_toArray, List.set_cons_zero, List.set_cons_succ]
          with_reducible refine wpQuiet_step ?_
          intro K hK
          refine qs_skipD (by rfl) (hK _ ?_)
          clear hK K
          try simp only [Act.put, List.setIfInBounds_toArray, List.set_cons_zero, List.set_cons_succ]
          with_reducible refine wpQuiet_step ?_
          intro K hK
          refine qs_skipD (by rfl) (hK _ ?_)
          clear hK K
          try simp only [Act.put, List.setIfInBounds_toArray, List.set_cons_zero, List.set_cons_succ]
          with_reducible refine wpQuiet_step ?_
          intro K hK
          refine qs_skipD (by rfl) (hK _ ?_)
          clear hK K
          try simp only [Act.put, List.setIfInBounds_toArray, List.set_cons_zero, List.set_cons_succ]
          with_reducible refine wpQuiet_step ?_
          intro K hK
          go_simp
          first
            | (with_reducible refine hK _ ?_)
            | (with_reducible refine ⟨_, fun _ _ => rfl, hK _ ?_⟩)
          clear hK K
          try simp only [Act.put, List.setIfInBounds_toArray, List.set_cons_zero, List.set_cons_succ]
          with_reducible refine wpQuiet_step ?_
          intro K hK
          go_simp
          first
            | (with_reducible refine hK _ ?_)
            | (with_reducible refine ⟨_, fun _ _ => rfl, hK _ ?_⟩)
          clear hK K
          try simp only [Act.put, List.setIfInBounds_toArray, List.set_cons_zero, List.set_cons_succ]
          refine wpQuiet_nil ?_
          intro wn hCn
          have hbn := HCO.out _ hCn
          have HRn : Hid (wn.rowIs G 4 n (fun i => .bool (decide ((i : Int) ∈ od.take (r + 1 + 1))))) := Lib.hid (HR8.out.of_block (hbn.block G HR8.out.lt))
          have HBn : Hid (Below w2.heap.size w2 wn) := Lib.hid (HB8.out.trans (hbn.mono HB8.out.size))
          clear hbn hCn hCi HCO HCC
          go_wp2
          go_roundw
          case rel => exact ⟨r + 1 + 1, by omega, by go_num, HRn, HBn⟩
          case measure => simp [intOf]; omega
        focus
          have g0 : decide (ad < 0) = true := decide_eq_true (by omega)
          have g1 : decide (0 ≤ bd) = false := decide_eq_false (by omega)
          have g2 : decide ((y : Int) < (x : Int)) = false := decide_eq_false (by omega)
          have g2' : decide (y < x) = false := decide_eq_false (by omega)
          clear hc
          go_upto_region 17 with fail
          try rw [hw8]
          obtain ⟨C, hCi, hCo, hCC⟩ : ∃ C : World → Prop, C w8.drew ∧ (∀ w', C w' → Below w8.heap.size w8 w') ∧ (∀ w', C w' → w'.cell? ⟨A, 0, none⟩ = some (.int .u64 ai) ∧ w'.cell? ⟨A, 1, none⟩ = some (.int .i64 ad) ∧ w'.cell? ⟨B, 0, none⟩ = some (.int .u64 bi) ∧ w'.cell? ⟨B, 1, none⟩ = some (.int .i64 bd) ∧ w'.cell? ⟨O, r, none⟩ = some (.int .i64 (x : Int)) ∧ w'.cell? ⟨O, r + 1, none⟩ = some (.int .i64 (y : Int))) :=
            ⟨fun w' => Below w8.heap.size w8 w', (Below.refl _ _).drew, fun _ h => h, HCC8.out⟩
          have HCO := Lib.hid hCo
          have HCC := Lib.hid hCC
          clear hCo hCC
          refine wp_region_cls C (by kernel_rfl) (by kernel_rfl) hCi ?_
          simp only [List.append_eq, List.cons_append, List.nil_append]
          with_reducible refine wpQuiet_step ?_
          intro K hK
          go_simp
          first
            | (with_reducible refine hK _ ?_)
            | (with_reducible refine ⟨_, fun _ _ => rfl, hK _ ?_⟩)
          clear hK K
          try simp only [Act.put, List.setIfInBounds_toArray, List.set_cons_zero, List.set_cons_succ]
          with_reducible refine wpQuiet_step ?_
          intro K hK
          refine qs_load_cell (by rfl) 3 _ rfl ⟨A, 1, none⟩ rfl (.int .i64 ad) (fun w hw => (HCC.out w hw).2.1) Try.isAgg3 (hK _ ?_)
          clear hK K
          try simp only [Act.put, List.setIfInBounds_toArray, List.set_cons_zero, List.set_cons_succ]
          with_reducible refine wpQuiet_step ?_
          intro K hK
          go_simp
          first
            | (with_reducible refine hK _ ?_)
            | (with_reducible refine ⟨_, fun _ _ => rfl, hK _ ?_⟩)
          clear hK K
          try simp only [Act.put, List.setIfInBounds_toArray, List.set_cons_zero, List.set_cons_succ]
          with_reducible refine wpQuiet_step ?_
          intro K hK
          go_simp
          first
            | (with_reducible refine hK _ ?_)
            | (with_reducible refine ⟨_, fun _ _ => rfl, hK _ ?_⟩)
          clear hK K
          try simp only [Act.put, List.setIfInBounds_toArray, List.set_cons_zero, List.set_cons_succ]
          with_reducible refine wpQuiet_step ?_
          intro K hK
          go_simp
          first
            | (with_reducible refine hK _ ?_)
            | (with_reducible refine ⟨_, fun _ _ => rfl, hK _ ?_⟩)
          clear hK K
          try simp only [Act.put, List.setIfInBounds_toArray, List.set_cons_zero, List.set_cons_succ]
          with_reducible refine wpQuiet_step ?_
          intro K hK
          refine qs_load_cell (by rfl) 3 _ rfl ⟨B, 1, none⟩ rfl (.int .i64 bd) (fun w hw => (HCC.out w hw).2.2.2.1) Try.isAgg3 (hK _ ?_)
          clear hK K
          try simp only [Act.put, List.setIfInBounds_toArray, List.set_cons_zero, List.set_cons_succ]
          with_reducible refine wpQuiet_step ?_
          intro K hK
          go_simp
          first
            | (with_reducible refine hK _ ?_)
            | (with_reducible refine ⟨_, fun _ _ => rfl, hK _ ?_⟩)
          clear hK K
          try simp only [Act.put, List.setIfInBounds_toArray, List.set_cons_zero, List.set_cons_succ]
          with_reducible refine wpQuiet_step ?_
          intro K hK
          go_simp
          first
            | (with_reducible refine hK _ ?_)
            | (with_reducible refine ⟨_, fun _ _ => rfl, hK _ ?_⟩)
          clear hK K
          try simp only [Act.put, List.setIfInBounds_toArray, List.set_cons_zero, List.set_cons_succ]
          with_reducible refine wpQuiet_step ?_
          intro K hK
          go_simp
          first
            | (with_reducible refine hK _ ?_)
            | (with_reducible refine ⟨_, fun _ _ => rfl, hK _ ?_⟩)
          clear hK K
          try simp only [Act.put, List.setIfInBounds_toArray, List.set_cons_zero, List.set_cons_succ]
          with_reducible refine wpQuiet_step ?_
          intro K hK
          go_simp
          first
            | (with_reducible refine hK _ ?_)
            | (with_reducible refine ⟨_, fun _ _ => rfl, hK _ ?_⟩)
          clear hK K
          try simp only [Act.put, List.setIfInBounds_toArray, List.set_cons_zero, List.set_cons_succ]
          with_reducible refine wpQuiet_step ?_
          intro K hK
          go_simp
          first
            | (with_reducible refine hK _ ?_)
            | (with_reducible refine ⟨_, fun _ _ => rfl, hK _ ?_⟩)
          clear hK K
          try simp only [Act.put, List.setIfInBounds_toArray, List.set_cons_zero, List.set_cons_succ]
          with_reducible refine wpQuiet_step ?_
          intro K hK
          refine qs_load_cell (by rfl) 3 _ rfl ⟨O, r + 1, none⟩ rfl (.int .i64 (y : Int)) (fun w hw => (HCC.out w hw).2.2.2.2.2) Try.isAgg3 (hK _ ?_)
          clear hK K
          try simp only [Act.put, List.setIfInBounds_toArray, List.set_cons_zero, List.set_cons_succ]
          with_reducible refine wpQuiet_step ?_
          intro K hK
          go_simp
          first
            | (with_reducible refine hK _ ?_)
            | (with_reducible refine ⟨_, fun _ _ => rfl, hK _ ?_⟩)
          clear hK K
          try simp only [Act.put, List.setIfInBounds_toArray, List.set_cons_zero, List.set_cons_succ]
          with_reducible refine wpQuiet_step ?_
          intro K hK
          go_simp
          first
            | (with_reducible refine hK _ ?_)
            | (with_reducible refine ⟨_, fun _ _ => rfl, hK _ ?_⟩)
          clear hK K
          try simp only [Act.put, List.setIfInBounds_toArray, List.set_cons_zero, List.set_cons_succ]
          with_reducible refine wpQuiet_step ?_
          intro K hK
          go_simp
          first
            | (with_reducible refine hK _ ?_)
            | (with_reducible refine ⟨_, fun _ _ => rfl, hK _ ?_⟩)
          clear hK K
          try simp only [Act.put, List.setIfInBounds_toArray, List.set_cons_zero, List.set_cons_succ]
          with_reducible refine wpQuiet_step ?_
          intro K hK
          go_simp
          first
            | (with_reducible refine hK _ ?_)
            | (with_reducible refine ⟨_, fun _ _ => rfl, hK _ ?_⟩)
          clear hK K
          try simp only [Act.put, List.setIfInBounds_toArray, List.set_cons_zero, List.set_cons_succ]
          with_reducible refine wpQuiet_step ?_
          intro K hK
          refine qs_load_cell (by rfl) 3 _ rfl ⟨O, r, none⟩ rfl (.int .i64 (x : Int)) (fun w hw => (HCC.out w hw).2.2.2.2.1) Try.isAgg3 (hK _ ?_)
          clear hK K
          try simp only [Act.put, List.setIfInBounds_toArray, List.set_cons_zero, List.set_cons_succ]
          with_reducible refine wpQuiet_step ?_
          intro K hK
          go_simp
          first
            | (with_reducible refine hK _ ?_)
            | (with_reducible refine ⟨_, fun _ _ => rfl, hK _ ?_⟩)
          clear hK K
          try simp only [Act.put, List.setIfInBounds_toArray, List.set_cons_zero, List.set_cons_succ]
          with_reducible refine wpQuiet_step ?_
          intro K hK
          go_simp
          first
            | (with_reducible refine hK _ ?_)
            | (with_reducible refine ⟨_, fun _ _ => rfl, hK _ ?_⟩)
          clear hK K
          try simp only [Act.put, List.setIfInBounds_toArray, List.set_cons_zero, List.set_cons_succ]
          with_reducible refine wpQuiet_step ?_
          intro K hK
          go_simp
          first
            | (with_reducible refine hK _ ?_)
            | (with_reducible refine ⟨_, fun _ _ => rfl, hK _ ?_⟩)
          clear hK K
          try simp only [Act.put, List.setIfInBounds_toArray, List.set_cons_zero, List.set_cons_succ]
          with_reducible refine wpQuiet_step ?_
          intro K hK
          go_simp
          first
            | (with_reducible refine hK _ ?_)
            | (with_reducible refine ⟨_, fun _ _ => rfl, hK _ ?_⟩)
          clear hK K
          try simp only [Act.put, List.setIfInBounds_toArray, List.set_cons_zero, List.set_cons_succ]
          with_reducible refine wpQuiet_step ?_
          intro K hK
          go_simp
          first
            | (with_reducible refine hK _ ?_)
            | (with_reducible refine ⟨_, fun _ _ => rfl, hK _ ?_⟩)
          clear hK K
          try simp only [Act.put, List.setIfInBounds_toArray, List.set_cons_zero, List.set_cons_succ]
          with_reducible refine wpQuiet_step ?_
          intro K hK
          refine qs_load_cell (by rfl) 3 _ rfl ⟨B, 1, none⟩ rfl (.int .i64 bd) (fun w hw => (HCC.out w hw).2.2.2.1) Try.isAgg3 (hK _ ?_)
          clear hK K
          try simp only [Act.put, List.setIfInBounds_toArray, List.set_cons_zero, List.set_cons_succ]
          with_reducible refine wpQuiet_step ?_
          intro K hK
          go_simp
          first
            | (with_reducible refine hK _ ?_)
            | (with_reducible refine ⟨_, fun _ _ => rfl, hK _ ?_⟩)
          clear hK K
          try simp only [Act.put, List.setIfInBounds_toArray, List.set_cons_zero, List.set_cons_succ]
          with_reducible refine wpQuiet_step ?_
          intro K hK
          go_simp
          first
            | (with_reducible refine hK _ ?_)
            | (with_reducible refine ⟨_, fun _ _ => rfl, hK _ ?_⟩)
          clear hK K
          try simp only [Act.put, List.setIfInBounds_toArray, List.set_cons_zero, List.set_cons_succ]
          with_reducible refine wpQuiet_step ?_
          intro K hK
          refine qs_skipD (by rfl) (hK _ ?_)
          clear hK K
          try simp only [Act.put, List.setIfInBounds_toArray, List.set_cons_zero, List.set_cons_succ]
          with_reducible refine wpQuiet_step ?_
          intro K hK
          refine qs_skipD (by rfl) (hK _ ?_)
          clear hK K
          try simp only [Act.put, List.setIfInBounds_toArray, List.set_cons_zero, List.set_cons_succ]
          with_reducible refine wpQuiet_step ?_
          intro K hK
          refine qs_skipD (by rfl) (hK _ ?_)
          clear hK K
          try simp only [Act.put, List.setIfInBounds_toArray, List.set_cons_zero, List.set_cons_succ]
          with_reducible refine wpQuiet_step ?_
          intro K hK
          refine qs_skipD (by rfl) (hK _ ?_)
          clear hK K
          try simp only [Act.put, List.setIfInBounds_toArray, List.set_cons_zero, List.set_cons_succ]
          with_reducible refine wpQuiet_step ?_
          intro K hK
          refine qs_skipD (by rfl) (hK _ ?_)
          clear hK K
          try simp only [Act.put, List.setIfInBounds_toArray, List.set_cons_zero, List.set_cons_succ]
          with_reducible refine wpQuiet_step ?_
          intro K hK
          refine qs_skipD (by rfl) (hK _ ?_)
          clear hK K
          try simp only [Act.put, List.setIfInBounds_toArray, List.set_cons_zero, List.set_cons_succ]
          with_reducible refine wpQuiet_step ?_
          intro K hK
          refine qs_skipD (by rfl) (hK _ ?_)
          clear hK K
          try simp only [Act.put, List.setIfInBounds_toArray, List.set_cons_zero, List.set_cons_succ]
          with_reducible refine wpQuiet_step ?_
          intro K hK
          refine qs_skipD (by rfl) (hK _ ?_)
          clear hK K
          try simp only [Act.put, List.setIfInBounds_toArray, List.set_cons_zero, List.set_cons_succ]
          with_reducible refine wpQuiet_step ?_
          intro K hK
          refine qs_skipD (by rfl) (hK _ ?_)
          clear hK K
          try simp only [Act.put, List.setIfInBounds_toArray, List.set_cons_zero, List.set_cons_succ]
          with_reducible refine wpQuiet_step ?_
          intro K hK
          refine qs_skipD (by rfl) (hK _ ?_)
          clear hK K
          try simp only [Act.put, List.setIfInBounds_toArray, List.set_cons_zero, List.set_cons_succ]
          with_reducible refine wpQuiet_step ?_
          intro K hK
          refine qs_skipD (by rfl) (hK _ ?_)
          clear hK K
          try simp only [Act.put, List.setIfInBounds_toArray, List.set_cons_zero, List.set_cons_succ]
          with_reducible refine wpQuiet_step ?_
          intro K hK
          refine qs_skipD (by rfl) (hK _ ?_)
          clear hK K
          try simp only [Act.put, List.setIfInBounds_toArray, List.set_cons_zero, List.set_cons_succ]
          with_reducible refine wpQuiet_step ?_
          intro K hK
          refine qs_skipD (by rfl) (hK _ ?_)
          clear hK K
          try simp only [Act.put, List.setIfInBounds_toArray, List.set_cons_zero, List.set_cons_succ]
          with_reducible refine wpQuiet_step ?_
          intro K hK
          refine qs_skipD (by rfl) (hK _ ?_)
          clear hK K
          try simp only [Act.put, List.setIfInBounds_toArray, List.set_cons_zero, List.set_cons_succ]
          with_reducible refine wpQuiet_step ?_
          intro K hK
          refine qs_skipD (by rfl) (hK _ ?_)
          clear hK K
          try simp only [Act.put, List.setIfInBounds_toArray, List.set_cons_zero, List.set_cons_succ]
          with_reducible refine wpQuiet_step ?_
          intro K hK
          refine qs_skipD (by rfl) (hK _ ?_)
          clear hK K
          try simp only [Act.put, List.setIfInBounds_toArray, List.set_cons_zero, List.set_cons_succ]
          with_reducible refine wpQuiet_step ?_
          intro K hK
          refine qs_skipD (by rfl) (hK _ ?_)
          clear hK K
          try simp only [Act.put, List.setIfInBounds_toArray, List.set_cons_zero, List.set_cons_succ]
          with_reducible refine wpQuiet_step ?_
          intro K hK
          refine qs_skipD (by rfl) (hK _ ?_)
          clear hK K
          try simp only [Act.put, List.setIfInBounds_toArray, List.set_cons_zero, List.set_cons_succ]
          with_reducible refine wpQuiet_step ?_
          intro K hK
          refine qs_skipD (by rfl) (hK _ ?_)
          clear hK K
          try simp only [Act.put, List.setIfInBounds_toArray, List.set_cons_zero, List.set_cons_succ]
          with_reducible refine wpQuiet_step ?_
          intro K hK
          refine qs_skipD (by rfl) (hK _ ?_)
          clear hK K
          try simp only [Act.put, List.setIfInBounds_toArray, List.set_cons_zero, List.set_cons_succ]
          with_reducible refine wpQuiet_step ?_
          intro K hK
          refine qs_skipD (by rfl) (hK _ ?_)
          clear hK K
          try simp only [Act.put, List.setIfInBounds_toArray, List.set_cons_zero, List.set_cons_succ]
          with_reducible refine wpQuiet_step ?_
          intro K hK
          refine qs_skipD (by rfl) (hK _ ?_)
          clear hK K
          try simp only [Act.put, List.setIfInBounds_toArray, List.set_cons_zero, List.set_cons_succ]
          with_reducible refine wpQuiet_step ?_
          intro K hK
          refine qs_skipD (by rfl) (hK _ ?_)
          clear hK K
          try simp only [Act.put, List.setIfInBounds_toArray, List.set_cons_zero, List.set_cons_succ]
          with_reducible refine wpQuiet_step ?_
          intro K hK
          refine qs_skipD (by rfl) (hK _ ?_)
          clear hK K
          try simp only [Act.put, List.setIfInBounds_toArray, List.set_cons_zero, List.set_cons_succ]
          with_reducible refine wpQuiet_step ?_
          intro K hK
          refine qs_skipD (by rfl) (hK _ ?_)
          clear hK K
          try simp only [Act.put, List.setIfInBounds_toArray, List.set_cons_zero, List.set_cons_succ]
          with_reducible refine wpQuiet_step ?_
          intro K hK
          refine qs_skipD (by rfl) (hK _ ?_)
          clear hK K
          try simp only [Act.put, List.setIfInBounds_toArray, List.set_cons_zero, List.set_cons_succ]
          with_reducible refine wpQuiet_step ?_
          intro K hK
          refine qs_skipD (by rfl) (hK _ ?_)
          clear hK K
          try simp only [Act.put, List.setIfInBounds_toArray, List.set_cons_zero, List.set_cons_succ]
          with_reducible refine wpQuiet_step ?_
          intro K hK
          refine qs_skipD (by rfl) (hK _ ?_)
          clear hK K
          try simp only [Act.put, List.setIfInBounds_toArray, List.set_cons_zero, List.set_cons_succ]
          with_reducible refine wpQuiet_step ?_
          intro K hK
          refine qs_skipD (by rfl) (hK _ ?_)
          clear hK K
          try simp only [Act.put, List.setIfInBounds_toArray, List.set_cons_zero, List.set_cons_succ]
          with_reducible refine wpQuiet_step ?_
          intro K hK
          refine qs_skipD (by rfl) (hK _ ?_)
          clear hK K
          try simp only [Act.put, List.setIfInBounds_toArray, List.set_cons_zero, List.set_cons_succ]
          with_reducible refine wpQuiet_step ?_
          intro K hK
          refine qs_skipD (by rfl) (hK _ ?_)
          clear hK K
          try simp only [Act.put, List.setIfInBounds_toArray, List.set_cons_zero, List.set_cons_succ]
          with_reducible refine wpQuiet_step ?_
          intro K hK
          refine qs_skipD (by rfl) (hK _ ?_)
          clear hK K
          try simp only [Act.put, List.setIfInBounds_toArray, List.set_cons_zero, List.set_cons_succ]
          with_reducible refine wpQuiet_step ?_
          intro K hK
          refine qs_skipD (by rfl) (hK _ ?_)
          clear hK K
          try simp only [Act.put, List.setIfInBounds_toArray, List.set_cons_zero, List.set_cons_succ]
          with_reducible refine wpQuiet_step ?_
          intro K hK
          refine qs_skipD (by rfl) (hK _ ?_)
          clear hK K
          try simp only [Act.put, List.setIfInBounds_toArray, List.set_cons_zero, List.set_cons_succ]
          with_reducible refine wpQuiet_step ?_
          intro K hK
          refine qs_skipD (by rfl) (hK _ ?_)
          clear hK K
          try simp only [Act.put, List.setIfInBounds_toArray, List.set_cons_zero, List.set_cons_succ]
          with_reducible refine wpQuiet_step ?_
          intro K hK
          refine qs_skipD (by rfl) (hK _ ?_)
          clear hK K
          try simp only [Act.put, List.setIfInBounds_toArray, List.set_cons_zero, List.set_cons_succ]
          with_reducible refine wpQuiet_step ?_
          intro K hK
          refine qs_skipD (by rfl) (hK _ ?_)
          clear hK K
          try simp only [Act.put, List.setIfInBounds_toArray, List.set_cons_zero, List.set_cons_succ]
          with_reducible refine wpQuiet_step ?_
          intro K hK
          refine qs_skipD (by rfl) (hK _ ?_)
          clear hK K
          try simp only [Act.put, List.setIfInBounds_toArray, List.set_cons_zero, List.set_cons_succ]
          with_reducible refine wpQuiet_step ?_
          intro K hK
          go_simp
          first
            | (with_reducible refine hK _ ?_)
            | (with_reducible refine ⟨_, fun _ _ => rfl, hK _ ?_⟩)
          clear hK K
          try simp only [Act.put, List.setIfInBounds_toArray, List.set_cons_zero, List.set_cons_succ]
          with_reducible refine wpQuiet_step ?_
          intro K hK
          go_simp
          first
            | (with_reducible refine hK _ ?_)
            | (with_reducible refine ⟨_, fun _ _ => rfl, hK _ ?_⟩)
          clear hK K
          try simp only [Act.put, List.setIfInBounds_toArray, List.set_cons_zero, List.set_cons_succ]
          refine wpQuiet_nil ?_
          intro wn hCn
          have hbn := HCO.out _ hCn
          have HRn : Hid (wn.rowIs G 4 n (fun i => .bool (decide ((i : Int) ∈ od.take (r + 1 + 1))))) := Lib.hid (HR8.out.of_block (hbn.block G HR8.out.lt))
          have HBn : Hid (Below w2.heap.size w2 wn) := Lib.hid (HB8.out.trans (hbn.mono HB8.out.size))
          clear hbn hCn hCi HCO HCC
          go_wp2
          go_roundw
          case rel => exact ⟨r + 1 + 1, by omega, by go_num, HRn, HBn⟩
          case measure => simp [intOf]; omega
        focus
          have g0 : decide (ad < 0) = false := decide_eq_false (by omega)
          have g1 : decide (0 ≤ bd) = true := decide_eq_true (by omega)
          have g2 : decide (ad < bd) = false := decide_eq_false (by omega)
          have s0 : (ad == bd) = false := beq_eq_false_iff_ne.2 (by omega)
          clear hc
          go_upto_region 17 with fail
          try rw [hw8]
          obtain ⟨C, hCi, hCo, hCC⟩ : ∃ C : World → Prop, C w8.drew ∧ (∀ w', C w' → Below w8.heap.size w8 w') ∧ (∀ w', C w' → w'.cell? ⟨A, 0, none⟩ = some (.int .u64 ai) ∧ w'.cell? ⟨A, 1, none⟩ = some (.int .i64 ad) ∧ w'.cell? ⟨B, 0, none⟩ = some (.int .u64 bi) ∧ w'.cell? ⟨B, 1, none⟩ = some (.int .i64 bd) ∧ w'.cell? ⟨O, r, none⟩ = some (.int .i64 (x : Int)) ∧ w'.cell? ⟨O, r + 1, none⟩ = some (.int .i64 (y : Int))) :=
            ⟨fun w' => Below w8.heap.size w8 w', (Below.refl _ _).drew, fun _ h => h, HCC8.out⟩
          have HCO := Lib.hid hCo
          have HCC := Lib.hid hCC
          clear hCo hCC
          refine wp_region_cls C (by kernel_rfl) (by kernel_rfl) hCi ?_
          simp only [List.append_eq, List.cons_append, List.nil_append]
          with_reducible refine wpQuiet_step ?_
          intro K hK
          go_simp
          first
            | (with_reducible refine hK _ ?_)
            | (with_reducible refine ⟨_, fun _ _ => rfl, hK _ ?_⟩)
          clear hK K
          try simp only [Act.put, List.setIfInBounds_toArray, List.set_cons_zero, List.set_cons_succ]
          with_reducible refine wpQuiet_step ?_
          intro K hK
          refine qs_load_cell (by rfl) 3 _ rfl ⟨A, 1, none⟩ rfl (.int .i64 ad) (fun w hw => (HCC.out w hw).2.1) Try.isAgg3 (hK _ ?_)
          clear hK K
          try simp only [Act.put, List.setIfInBounds_toArray, List.set_cons_zero, List.set_cons_succ]
          with_reducible refine wpQuiet_step ?_
          intro K hK
          go_simp
          first
            | (with_reducible refine hK _ ?_)
            | (with_reducible refine ⟨_, fun _ _ => rfl, hK _ ?_⟩)
          clear hK K
          try simp only [Act.put, List.setIfInBounds_toArray, List.set_cons_zero, List.set_cons_succ]
          with_reducible refine wpQuiet_step ?_
          intro K hK
          go_simp
          first
            | (with_reducible refine hK _ ?_)
            | (with_reducible refine ⟨_, fun _ _ => rfl, hK _ ?_⟩)
          clear hK K
          try simp only [Act.put, List.setIfInBounds_toArray, List.set_cons_zero, List.set_cons_succ]
          with_reducible refine wpQuiet_step ?_
          intro K hK
          refine qs_skipD (by rfl) (hK _ ?_)
          clear hK K
          try simp only [Act.put, List.setIfInBounds_toArray, List.set_cons_zero, List.set_cons_succ]
          with_reducible refine wpQuiet_step ?_
          intro K hK
          refine qs_skipD (by rfl) (hK _ ?_)
          clear hK K
          try simp only [Act.put, List.setIfInBounds_toArray, List.set_cons_zero, List.set_cons_succ]
          with_reducible refine wpQuiet_step ?_
          intro K hK
          refine qs_skipD (by rfl) (hK _ ?_)
          clear hK K
          try simp only [Act.put, List.setIfInBounds_toArray, List.set_cons_zero, List.set_cons_succ]
          with_reducible refine wpQuiet_step ?_
          intro K hK
          refine qs_skipD (by rfl) (hK _ ?_)
          clear hK K
          try simp only [Act.put, List.setIfInBounds_toArray, List.set_cons_zero, List.set_cons_succ]
          with_reducible refine wpQuiet_step ?_
          intro K hK
          refine qs_skipD (by rfl) (hK _ ?_)
          clear hK K
          try simp only [Act.put, List.setIfInBounds_toArray, List.set_cons_zero, List.set_cons_succ]
          with_reducible refine wpQuiet_step ?_
          intro K hK
          refine qs_skipD (by rfl) (hK _ ?_)
          clear hK K
          try simp only [Act.put, List.setIfInBounds_toArray, List.set_cons_zero, List.set_cons_succ]
          with_reducible refine wpQuiet_step ?_
          intro K hK
          refine qs_skipD (by rfl) (hK _ ?_)
          clear hK K
          try simp only [Act.put, List.setIfInBounds_toArray, List.set_cons_zero, List.set_cons_succ]
          with_reducible refine wpQuiet_step ?_
          intro K hK
          refine qs_skipD (by rfl) (hK _ ?_)
          clear hK K
          try simp only [Act.put, List.setIfInBounds_toArray, List.set_cons_zero, List.set_cons_succ]
          with_reducible refine wpQuiet_step ?_
          intro K hK
          refine qs_skipD (by rfl) (hK _ ?_)
          clear hK K
          try simp only [Act.put, List.setIfInBounds_toArray, List.set_cons_zero, List.set_cons_succ]
          with_reducible refine wpQuiet_step ?_
          intro K hK
          refine qs_skipD (by rfl) (hK _ ?_)
          clear hK K
          try simp only [Act.put, List.setIfInBounds_toArray, List.set_cons_zero, List.set_cons_succ]
          with_reducible refine wpQuiet_step ?_
          intro K hK
          refine qs_skipD (by rfl) (hK _ ?_)
          clear hK K
          try simp only [Act.put, List.setIfInBounds_toArray, List.set_cons_zero, List.set_cons_succ]
          with_reducible refine wpQuiet_step ?_
          intro K hK
          refine qs_skipD (by rfl) (hK _ ?_)
          clear hK K
          try simp only [Act.put, List.setIfInBounds_toArray, List.set_cons_zero, List.set_cons_succ]
          with_reducible refine wpQuiet_step ?_
          intro K hK
          refine qs_skipD (by rfl) (hK _ ?_)
          clear hK K
          try simp only [Act.put, List.setIfInBounds_toArray, List.set_cons_zero, List.set_cons_succ]
          with_reducible refine wpQuiet_step ?_
          intro K hK
          refine qs_skipD (by rfl) (hK _ ?_)
          clear hK K
          try simp only [Act.put, List.setIfInBounds_toArray, List.set_cons_zero, List.set_cons_succ]
          with_reducible refine wpQuiet_step ?_
          intro K hK
          refine qs_skipD (by rfl) (hK _ ?_)
          clear hK K
          try simp only [Act.put, List.setIfInBounds_toArray, List.set_cons_zero, List.set_cons_succ]
          with_reducible refine wpQuiet_step ?_
          intro K hK
          go_simp
          first
            | (with_reducible refine hK _ ?_)
            | (with_reducible refine ⟨_, fun _ _ => rfl, hK _ ?_⟩)
          clear hK K
          try simp only [Act.put, List.setIfInBounds_toArray, List.set_cons_zero, List.set_cons_succ]
          with_reducible refine wpQuiet_step ?_
          intro K hK
          go_simp
          first
            | (with_reducible refine hK _ ?_)
            | (with_reducible refine ⟨_, fun _ _ => rfl, hK _ ?_⟩)
          clear hK K
          try simp only [Act.put, List.setIfInBounds_toArray, List.set_cons_zero, List.set_cons_succ]
          with_reducible refine wpQuiet_step ?_
          intro K hK
          go_simp
          first
            | (with_reducible refine hK _ ?_)
            | (with_reducible refine ⟨_, fun _ _ => rfl, hK _ ?_⟩)
          clear hK K
          try simp only [Act.put, List.setIfInBounds_toArray, List.set_cons_zero, List.set_cons_succ]
          with_reducible refine wpQuiet_step ?_
          intro K hK
          refine qs_load_cell (by rfl) 3 _ rfl ⟨B, 1, none⟩ rfl (.int .i64 bd) (fun w hw => (HCC.out w hw).2.2.2.1) Try.isAgg3 (hK _ ?_)
          clear hK K
          try simp only [Act.put, List.setIfInBounds_toArray, List.set_cons_zero, List.set_cons_succ]
          with_reducible refine wpQuiet_step ?_
          intro K hK
          go_simp
          first
            | (with_reducible refine hK _ ?_)
            | (with_reducible refine ⟨_, fun _ _ => rfl, hK _ ?_⟩)
          clear hK K
          try simp only [Act.put, List.setIfInBounds_toArray, List.set_cons_zero, List.set_cons_succ]
          with_reducible refine wpQuiet_step ?_
          intro K hK
          go_simp
          first
            | (with_reducible refine hK _ ?_)
            | (with_reducible refine ⟨_, fun _ _ => rfl, hK _ ?_⟩)
          clear hK K
          try simp only [Act.put, List.setIfInBounds_toArray, List.set_cons_zero, List.set_cons_succ]
          with_reducible refine wpQuiet_step ?_
          intro K hK
          go_simp
          first
            | (with_reducible refine hK _ ?_)
            | (with_reducible refine ⟨_, fun _ _ => rfl, hK _ ?_⟩)
          clear hK K
          try simp only [Act.put, List.setIfInBounds_toArray, List.set_cons_zero, List.set_cons_succ]
          with_reducible refine wpQuiet_step ?_
          intro K hK
          refine qs_load_cell (by rfl) 3 _ rfl ⟨A, 1, none⟩ rfl (.int .i64 ad) (fun w hw => (HCC.out w hw).2.1) Try.isAgg3 (hK _ ?_)
          clear hK K
          try simp only [Act.put, List.setIfInBounds_toArray, List.set_cons_zero, List.set_cons_succ]
          with_reducible refine wpQuiet_step ?_
          intro K hK
          go_simp
          first
            | (with_reducible refine hK _ ?_)
            | (with_reducible refine ⟨_, fun _ _ => rfl, hK _ ?_⟩)
          clear hK K
          try simp only [Act.put, List.setIfInBounds_toArray, List.set_cons_zero, List.set_cons_succ]
          with_reducible refine wpQuiet_step ?_
          intro K hK
          refine qs_load_cell (by rfl) 3 _ rfl ⟨B, 1, none⟩ rfl (.int .i64 bd) (fun w hw => (HCC.out w hw).2.2.2.1) Try.isAgg3 (hK _ ?_)
          clear hK K
          try simp only [Act.put, List.setIfInBounds_toArray, List.set_cons_zero, List.set_cons_succ]
          with_reducible refine wpQuiet_step ?_
          intro K hK
          go_simp
          first
            | (with_reducible refine hK _ ?_)
            | (with_reducible refine ⟨_, fun _ _ => rfl, hK _ ?_⟩)
          clear hK K
          try simp only [Act.put, List.setIfInBounds_toArray, List.set_cons_zero, List.set_cons_succ]
          with_reducible refine wpQuiet_step ?_
          intro K hK
          go_simp
          first
            | (with_reducible refine hK _ ?_)
            | (with_reducible refine ⟨_, fun _ _ => rfl, hK _ ?_⟩)
          clear hK K
          try simp only [Act.put, List.setIfInBounds_toArray, List.set_cons_zero, List.set_cons_succ]
          with_reducible refine wpQuiet_step ?_
          intro K hK
          go_simp
          first
            | (with_reducible refine hK _ ?_)
            | (with_reducible refine ⟨_, fun _ _ => rfl, hK _ ?_⟩)
          clear hK K
          try simp only [Act.put, List.setIfInBounds_toArray, List.set_cons_zero, List.set_cons_succ]
          with_reducible refine wpQuiet_step ?_
          intro K hK
          refine qs_load_cell (by rfl) 3 _ rfl ⟨A, 1, none⟩ rfl (.int .i64 ad) (fun w hw => (HCC.out w hw).2.1) Try.isAgg3 (hK _ ?_)
          clear hK K
          try simp only [Act.put, List.setIfInBounds_toArray, List.set_cons_zero, List.set_cons_succ]
          with_reducible refine wpQuiet_step ?_
          intro K hK
          go_simp
          first
            | (with_reducible refine hK _ ?_)
            | (with_reducible refine ⟨_, fun _ _ => rfl, hK _ ?_⟩)
          clear hK K
          try simp only [Act.put, List.setIfInBounds_toArray, List.set_cons_zero, List.set_cons_succ]
          with_reducible refine wpQuiet_step ?_
          intro K hK
          refine qs_load_cell (by rfl) 3 _ rfl ⟨B, 1, none⟩ rfl (.int .i64 bd) (fun w hw => (HCC.out w hw).2.2.2.1) Try.isAgg3 (hK _ ?_)
          clear hK K
          try simp only [Act.put, List.setIfInBounds_toArray, List.set_cons_zero, List.set_cons_succ]
          with_reducible refine wpQuiet_step ?_
          intro K hK
          go_simp
          first
            | (with_reducible refine hK _ ?_)
            | (with_reducible refine ⟨_, fun _ _ => rfl, hK _ ?_⟩)
          clear hK K
          try simp only [Act.put, List.setIfInBounds_toArray, List.set_cons_zero, List.set_cons_succ]
          with_reducible refine wpQuiet_step ?_
          intro K hK
          go_simp
          first
            | (with_reducible refine hK _ ?_)
            | (with_reducible refine ⟨_, fun _ _ => rfl, hK _ ?_⟩)
          clear hK K
          try simp only [Act.put, List.setIfInBounds_toArray, List.set_cons_zero, List.set_cons_succ]
          with_reducible refine wpQuiet_step ?_
          intro K hK
          refine qs_skipD (by rfl) (hK _ ?_)
          clear hK K
          try simp only [Act.put, List.setIfInBounds_toArray, List.set_cons_zero, List.set_cons_succ]
          with_reducible refine wpQuiet_step ?_
          intro K hK
          refine qs_skipD (by rfl) (hK _ ?_)
          clear hK K
          try simp only [Act.put, List.setIfInBounds_toArray, List.set_cons_zero, List.set_cons_succ]
          with_reducible refine wpQuiet_step ?_
          intro K hK
          refine qs_skipD (by rfl) (hK _ ?_)
          clear hK K
          try simp only [Act.put, List.setIfInBounds_toArray, List.set_cons_zero, List.set_cons_succ]
          with_reducible refine wpQuiet_step ?_
          intro K hK
          refine qs_skipD (by rfl) (hK _ ?_)
          clear hK K
          try simp only [Act.put, List.setIfInBounds_toArray, List.set_cons_zero, List.set_cons_succ]
          with_reducible refine wpQuiet_step ?_
          intro K hK
          refine qs_skipD (by rfl) (hK _ ?_)
          clear hK K
          try simp only [Act.put, List.setIfInBounds_toArray, List.set_cons_zero, List.set_cons_succ]
          with_reducible refine wpQuiet_step ?_
          intro K hK
          refine qs_skipD (by rfl) (hK _ ?_)
          clear hK K
          try simp only [Act.put, List.setIfInBounds_toArray, List.set_cons_zero, List.set_cons_succ]
          with_reducible refine wpQuiet_step ?_
          intro K hK
          refine qs_skipD (by rfl) (hK _ ?_)
          clear hK K
          try simp only [Act.put, List.setIfInBounds_toArray, List.set_cons_zero, List.set_cons_succ]
          with_reducible refine wpQuiet_step ?_
          intro K hK
          refine qs_skipD (by rfl) (hK _ ?_)
          clear hK K
          try simp only [Act.put, List.setIfInBounds_toArray, List.set_cons_zero, List.set_cons_succ]
          with_reducible refine wpQuiet_step ?_
          intro K hK
          refine qs_skipD (by rfl) (hK _ ?_)
          clear hK K
          try simp only [Act.put, List.setIfInBounds_toArray, List.set_cons_zero, List.set_cons_succ]
          with_reducible refine wpQuiet_step ?_
          intro K hK
          refine qs_skipD (by rfl) (hK _ ?_)
          clear hK K
          try simp only [Act.put, List.setIfInBounds_toArray, List.set_cons_zero, List.set_cons_succ]
          with_reducible refine wpQuiet_step ?_
          intro K hK
          refine qs_skipD (by rfl) (hK _ ?_)
          clear hK K
          try simp only [Act.put, List.setIfInBounds_toArray, List.set_cons_zero, List.set_cons_succ]
          with_reducible refine wpQuiet_step ?_
          intro K hK
          refine qs_skipD (by rfl) (hK _ ?_)
          clear hK K
          try simp only [Act.put, List.setIfInBounds_toArray, List.set_cons_zero, List.set_cons_succ]
          with_reducible refine wpQuiet_step ?_
          intro K hK
          refine qs_skipD (by rfl) (hK _ ?_)
          clear hK K
          try simp only [Act.put, List.setIfInBounds_toArray, List.set_cons_zero, List.set_cons_succ]
          with_reducible refine wpQuiet_step ?_
          intro K hK
          refine qs_skipD (by rfl) (hK _ ?_)
          clear hK K
          try simp only [Act.put, List.setIfInBounds_toArray, List.set_cons_zero, List.set_cons_succ]
          with_reducible refine wpQuiet_step ?_
          intro K hK
          refine qs_skipD (by rfl) (hK _ ?_)
          clear hK K
          try simp only [Act.put, List.setIfInBounds_toArray, List.set_cons_zero, List.set_cons_succ]
          with_reducible refine wpQuiet_step ?_
          intro K hK
          refine qs_skipD (by rfl) (hK _ ?_)
          clear hK K
          try simp only [Act.put, List.setIfInBounds_toArray, List.set_cons_zero, List.set_cons_succ]
          with_reducible refine wpQuiet_step ?_
          intro K hK
          refine qs_skipD (by rfl) (hK _ ?_)
          clear hK K
          try simp only [Act.put, List.setIfInBounds_toArray, List.set_cons_zero, List.set_cons_succ]
          with_reducible refine wpQuiet_step ?_
          intro K hK
          refine qs_skipD (by rfl) (hK _ ?_)
          clear hK K
          try simp only [Act.put, List.setIfInBounds_toArray, List.set_cons_zero, List.set_cons_succ]
          with_reducible refine wpQuiet_step ?_
          intro K hK
          refine qs_skipD (by rfl) (hK _ ?_)
          clear hK K
          try simp only [Act.put, List.setIfInBounds_toArray, List.set_cons_zero, List.set_cons_succ]
          with_reducible refine wpQuiet_step ?_
          intro K hK
          refine qs_skipD (by rfl) (hK _ ?_)
          clear hK K
          try simp only [Act.put, List.setIfInBounds_toArray, List.set_cons_zero, List.set_cons_succ]
          with_reducible refine wpQuiet_step ?_
          intro K hK
          refine qs_skipD (by rfl) (hK _ ?_)
          clear hK K
          try simp only [Act.put, List.setIfInBounds_toArray, List.set_cons_zero, List.set_cons_succ]
          with_reducible refine wpQuiet_step ?_
          intro K hK
          refine qs_skipD (by rfl) (hK _ ?_)
          clear hK K
          try simp only [Act.put, List.setIfInBounds_toArray, List.set_cons_zero, List.set_cons_succ]
          with_reducible refine wpQuiet_step ?_
          intro K hK
          refine qs_skipD (by rfl) (hK _ ?_)
          clear hK K
          try simp only [Act.put, List.setIfInBounds_toArray, List.set_cons_zero, List.set_cons_succ]
          with_reducible refine wpQuiet_step ?_
          intro K hK
          refine qs_skipD (by rfl) (hK _ ?_)
          clear hK K
          try simp only [Act.put, List.setIfInBounds_toArray, List.set_cons_zero, List.set_cons_succ]
          with_reducible refine wpQuiet_step ?_
          intro K hK
          go_simp
          first
            | (with_reducible refine hK _ ?_)
            | (with_reducible refine ⟨_, fun _ _ => rfl, hK _ ?_⟩)
          clear hK K
          try simp only [Act.put, List.setIfInBounds_toArray, List.set_cons_zero, List.set_cons_succ]
          with_reducible refine wpQuiet_step ?_
          intro K hK
          go_simp
          first
            | (with_reducible refine hK _ ?_)
            | (with_reducible refine ⟨_, fun _ _ => rfl, hK _ ?_⟩)
          clear hK K
          try simp only [Act.put, List.setIfInBounds_toArray, List.set_cons_zero, List.set_cons_succ]
          with_reducible refine wpQuiet_step ?_
          intro K hK
          go_simp
          first
            | (with_reducible refine hK _ ?_)
            | (with_reducible refine ⟨_, fun _ _ => rfl, hK _ ?_⟩)
          clear hK K
          try simp only [Act.put, List.setIfInBounds_toArray, List.set_cons_zero, List.set_cons_succ]
          with_reducible refine wpQuiet_step ?_
          intro K hK
          go_simp
          first
            | (with_reducible refine hK _ ?_)
            | (with_reducible refine ⟨_, fun _ _ => rfl, hK _ ?_⟩)
          clear hK K
          try simp only [Act.put, List.setIfInBounds_toArray, List.set_cons_zero, List.set_cons_succ]
          refine wpQuiet_nil ?_
          intro wn hCn
          have hbn := HCO.out _ hCn
          have HRn : Hid (wn.rowIs G 4 n (fun i => .bool (decide ((i : Int) ∈ od.take (r + 1 + 1))))) := Lib.hid (HR8.out.of_block (hbn.block G HR8.out.lt))
          have HBn : Hid (Below w2.heap.size w2 wn) := Lib.hid (HB8.out.trans (hbn.mono HB8.out.size))
          clear hbn hCn hCi HCO HCC
          go_wp2
          go_roundw
          case rel => exact ⟨r + 1 + 1, by omega, by go_num, HRn, HBn⟩
          case measure => simp [intOf]; omega
        focus
          have g0 : decide (ad < 0) = false := decide_eq_false (by omega)
          have g1 : decide (0 ≤ bd) = true := decide_eq_true (by omega)
          have g2 : decide (ad < bd) = false := decide_eq_false (by omega)
          have g3 : decide (bi < ai) = false := decide_eq_false (by omega)
          have s0 : (ad == bd) = true := by simp; omega
          have s1 : (ai == bi) = false := beq_eq_false_iff_ne.2 (by omega)
          clear hc
          go_upto_region 17 with fail
          try rw [hw8]
          obtain ⟨C, hCi, hCo, hCC⟩ : ∃ C : World → Prop, C w8.drew ∧ (∀ w', C w' → Below w8.heap.size w8 w') ∧ (∀ w', C w' → w'.cell? ⟨A, 0, none⟩ = some (.int .u64 ai) ∧ w'.cell? ⟨A, 1, none⟩ = some (.int .i64 ad) ∧ w'.cell? ⟨B, 0, none⟩ = some (.int .u64 bi) ∧ w'.cell? ⟨B, 1, none⟩ = some (.int .i64 bd) ∧ w'.cell? ⟨O, r, none⟩ = some (.int .i64 (x : Int)) ∧ w'.cell? ⟨O, r + 1, none⟩ = some (.int .i64 (y : Int))) :=
            ⟨fun w' => Below w8.heap.size w8 w', (Below.refl _ _).drew, fun _ h => h, HCC8.out⟩
          have HCO := Lib.hid hCo
          have HCC := Lib.hid hCC
          clear hCo hCC
          refine wp_region_cls C (by kernel_rfl) (by kernel_rfl) hCi ?_
          simp only [List.append_eq, List.cons_append, List.nil_append]
          with_reducible refine wpQuiet_step ?_
          intro K hK
          go_simp
          first
            | (with_reducible refine hK _ ?_)
            | (with_reducible refine ⟨_, fun _ _ => rfl, hK _ ?_⟩)
          clear hK K
          try simp only [Act.put, List.setIfInBounds_toArray, List.set_cons_zero, List.set_cons_succ]
          with_reducible refine wpQuiet_step ?_
          intro K hK
          refine qs_load_cell (by rfl) 3 _ rfl ⟨A, 1, none⟩ rfl (.int .i64 ad) (fun w hw => (HCC.out w hw).2.1) Try.isAgg3 (hK _ ?_)
          clear hK K
          try simp only [Act.put, List.setIfInBounds_toArray, List.set_cons_zero, List.set_cons_succ]
          with_reducible refine wpQuiet_step ?_
          intro K hK
          go_simp
          first
            | (with_reducible refine hK _ ?_)
            | (with_reducible refine ⟨_, fun _ _ => rfl, hK _ ?_⟩)
          clear hK K
          try simp only [Act.put, List.setIfInBounds_toArray, List.set_cons_zero, List.set_cons_succ]
          with_reducible refine wpQuiet_step ?_
          intro K hK
          go_simp
          first
            | (with_reducible refine hK _ ?_)
            | (with_reducible refine ⟨_, fun _ _ => rfl, hK _ ?_⟩)
          clear hK K
          try simp only [Act.put, List.setIfInBounds_toArray, List.set_cons_zero, List.set_cons_succ]
          with_reducible refine wpQuiet_step ?_
          intro K hK
          refine qs_skipD (by rfl) (hK _ ?_)
          clear hK K
          try simp only [Act.put, List.setIfInBounds_toArray, List.set_cons_zero, List.set_cons_succ]
          with_reducible refine wpQuiet_step ?_
          intro K hK
          refine qs_skipD (by rfl) (hK _ ?_)
          clear hK K
          try simp only [Act.put, List.setIfInBounds_toArray, List.set_cons_zero, List.set_cons_succ]
          with_reducible refine wpQuiet_step ?_
          intro K hK
          refine qs_skipD (by rfl) (hK _ ?_)
          clear hK K
          try simp only [Act.put, List.setIfInBounds_toArray, List.set_cons_zero, List.set_cons_succ]
          with_reducible refine wpQuiet_step ?_
          intro K hK
          refine qs_skipD (by rfl) (hK _ ?_)
          clear hK K
          try simp only [Act.put, List.setIfInBounds_toArray, List.set_cons_zero, List.set_cons_succ]
          with_reducible refine wpQuiet_step ?_
          intro K hK
          refine qs_skipD (by rfl) (hK _ ?_)
          clear hK K
          try simp only [Act.put, List.setIfInBounds_toArray, List.set_cons_zero, List.set_cons_succ]
          with_reducible refine wpQuiet_step ?_
          intro K hK
          refine qs_skipD (by rfl) (hK _ ?_)
          clear hK K
          try simp only [Act.put, List.setIfInBounds_toArray, List.set_cons_zero, List.set_cons_succ]
          with_reducible refine wpQuiet_step ?_
          intro K hK
          refine qs_skipD (by rfl) (hK _ ?_)
          clear hK K
          try simp only [Act.put, List.setIfInBounds_toArray, List.set_cons_zero, List.set_cons_succ]
          with_reducible refine wpQuiet_step ?_
          intro K hK
          refine qs_skipD (by rfl) (hK _ ?_)
          clear hK K
          try simp only [Act.put, List.setIfInBounds_toArray, List.set_cons_zero, List.set_cons_succ]
          with_reducible refine wpQuiet_step ?_
          intro K hK
          refine qs_skipD (by rfl) (hK _ ?_)
          clear hK K
          try simp only [Act.put, List.setIfInBounds_toArray, List.set_cons_zero, List.set_cons_succ]
          with_reducible refine wpQuiet_step ?_
          intro K hK
          refine qs_skipD (by rfl) (hK _ ?_)
          clear hK K
          try simp only [Act.put, List.setIfInBounds_toArray, List.set_cons_zero, List.set_cons_succ]
          with_reducible refine wpQuiet_step ?_
          intro K hK
          refine qs_skipD (by rfl) (hK _ ?_)
          clear hK K
          try simp only [Act.put, List.setIfInBounds_toArray, List.set_cons_zero, List.set_cons_succ]
          with_reducible refine wpQuiet_step ?_
          intro K hK
          refine qs_skipD (by rfl) (hK _ ?_)
          clear hK K
          try simp only [Act.put, List.setIfInBounds_toArray, List.set_cons_zero, List.set_cons_succ]
          with_reducible refine wpQuiet_step ?_
          intro K hK
          refine qs_skipD (by rfl) (hK _ ?_)
          clear hK K
          try simp only [Act.put, List.setIfInBounds_toArray, List.set_cons_zero, List.set_cons_succ]
          with_reducible refine wpQuiet_step ?_
          intro K hK
          refine qs_skipD (by rfl) (hK _ ?_)
          clear hK K
          try simp only [Act.put, List.setIfInBounds_toArray, List.set_cons_zero, List.set_cons_succ]
          with_reducible refine wpQuiet_step ?_
          intro K hK
          refine qs_skipD (by rfl) (hK _ ?_)
          clear hK K
          try simp only [Act.put, List.setIfInBounds_toArray, List.set_cons_zero, List.set_cons_succ]
          with_reducible refine wpQuiet_step ?_
          intro K hK
          go_simp
          first
            | (with_reducible refine hK _ ?_)
            | (with_reducible refine ⟨_, fun _ _ => rfl, hK _ ?_⟩)
          clear hK K
          try simp only [Act.put, List.setIfInBounds_toArray, List.set_cons_zero, List.set_cons_succ]
          with_reducible refine wpQuiet_step ?_
          intro K hK
          go_simp
          first
            | (with_reducible refine hK _ ?_)
            | (with_reducible refine ⟨_, fun _ _ => rfl, hK _ ?_⟩)
          clear hK K
          try simp only [Act.put, List.setIfInBounds_toArray, List.set_cons_zero, List.set_cons_succ]
          with_reducible refine wpQuiet_step ?_
          intro K hK
          go_simp
          first
            | (with_reducible refine hK _ ?_)
            | (with_reducible refine ⟨_, fun _ _ => rfl, hK _ ?_⟩)
          clear hK K
          try simp only [Act.put, List.setIfInBounds_toArray, List.set_cons_zero, List.set_cons_succ]
          with_reducible refine wpQuiet_step ?_
          intro K hK
          refine qs_load_cell (by rfl) 3 _ rfl ⟨B, 1, none⟩ rfl (.int .i64 bd) (fun w hw => (HCC.out w hw).2.2.2.1) Try.isAgg3 (hK _ ?_)
          clear hK K
          try simp only [Act.put, List.setIfInBounds_toArray, List.set_cons_zero, List.set_cons_succ]
          with_reducible refine wpQuiet_step ?_
          intro K hK
          go_simp
          first
            | (with_reducible refine hK _ ?_)
            | (with_reducible refine ⟨_, fun _ _ => rfl, hK _ ?_⟩)
          clear hK K
          try simp only [Act.put, List.setIfInBounds_toArray, List.set_cons_zero, List.set_cons_succ]
          with_reducible refine wpQuiet_step ?_
          intro K hK
          go_simp
          first
            | (with_reducible refine hK _ ?_)
            | (with_reducible refine ⟨_, fun _ _ => rfl, hK _ ?_⟩)
          clear hK K
          try simp only [Act.put, List.setIfInBounds_toArray, List.set_cons_zero, List.set_cons_succ]
          with_reducible refine wpQuiet_step ?_
          intro K hK
          go_simp
          first
            | (with_reducible refine hK _ ?_)
            | (with_reducible refine ⟨_, fun _ _ => rfl, hK _ ?_⟩)
          clear hK K
          try simp only [Act.put, List.setIfInBounds_toArray, List.set_cons_zero, List.set_cons_succ]
          with_reducible refine wpQuiet_step ?_
          intro K hK
          refine qs_load_cell (by rfl) 3 _ rfl ⟨A, 1, none⟩ rfl (.int .i64 ad) (fun w hw => (HCC.out w hw).2.1) Try.isAgg3 (hK _ ?_)
          clear hK K
          try simp only [Act.put, List.setIfInBounds_toArray, List.set_cons_zero, List.set_cons_succ]
          with_reducible refine wpQuiet_step ?_
          intro K hK
          go_simp
          first
            | (with_reducible refine hK _ ?_)
            | (with_reducible refine ⟨_, fun _ _ => rfl, hK _ ?_⟩)
          clear hK K
          try simp only [Act.put, List.setIfInBounds_toArray, List.set_cons_zero, List.set_cons_succ]
          with_reducible refine wpQuiet_step ?_
          intro K hK
          refine qs_load_cell (by rfl) 3 _ rfl ⟨B, 1, none⟩ rfl (.int .i64 bd) (fun w hw => (HCC.out w hw).2.2.2.1) Try.isAgg3 (hK _ ?_)
          clear hK K
          try simp only [Act.put, List.setIfInBounds_toArray, List.set_cons_zero, List.set_cons_succ]
          with_reducible refine wpQuiet_step ?_
          intro K hK
          go_simp
          first
            | (with_reducible refine hK _ ?_)
            | (with_reducible refine ⟨_, fun _ _ => rfl, hK _ ?_⟩)
          clear hK K
          try simp only [Act.put, List.setIfInBounds_toArray, List.set_cons_zero, List.set_cons_succ]
          with_reducible refine wpQuiet_step ?_
          intro K hK
          go_simp
          first
            | (with_reducible refine hK _ ?_)
            | (with_reducible refine ⟨_, fun _ _ => rfl, hK _ ?_⟩)
          clear hK K
          try simp only [Act.put, List.setIfInBounds_toArray, List.set_cons_zero, List.set_cons_succ]
          with_reducible refine wpQuiet_step ?_
          intro K hK
          go_simp
          first
            | (with_reducible refine hK _ ?_)
            | (with_reducible refine ⟨_, fun _ _ => rfl, hK _ ?_⟩)
          clear hK K
          try simp only [Act.put, List.setIfInBounds_toArray, List.set_cons_zero, List.set_cons_succ]
          with_reducible refine wpQuiet_step ?_
          intro K hK
          refine qs_load_cell (by rfl) 3 _ rfl ⟨A, 1, none⟩ rfl (.int .i64 ad) (fun w hw => (HCC.out w hw).2.1) Try.isAgg3 (hK _ ?_)
          clear hK K
          try simp only [Act.put, List.setIfInBounds_toArray, List.set_cons_zero, List.set_cons_succ]
          with_reducible refine wpQuiet_step ?_
          intro K hK
          go_simp
          first
            | (with_reducible refine hK _ ?_)
            | (with_reducible refine ⟨_, fun _ _ => rfl, hK _ ?_⟩)
          clear hK K
          try simp only [Act.put, List.setIfInBounds_toArray, List.set_cons_zero, List.set_cons_succ]
          with_reducible refine wpQuiet_step ?_
          intro K hK
          refine qs_load_cell (by rfl) 3 _ rfl ⟨B, 1, none⟩ rfl (.int .i64 bd) (fun w hw => (HCC.out w hw).2.2.2.1) Try.isAgg3 (hK _ ?_)
          clear hK K
          try simp only [Act.put, List.setIfInBounds_toArray, List.set_cons_zero, List.set_cons_succ]
          with_reducible refine wpQuiet_step ?_
          intro K hK
          go_simp
          first
            | (with_reducible refine hK _ ?_)
            | (with_reducible refine ⟨_, fun _ _ => rfl, hK _ ?_⟩)
          clear hK K
          try simp only [Act.put, List.setIfInBounds_toArray, List.set_cons_zero, List.set_cons_succ]
          with_reducible refine wpQuiet_step ?_
          intro K hK
          go_simp
          first
            | (with_reducible refine hK _ ?_)
            | (with_reducible refine ⟨_, fun _ _ => rfl, hK _ ?_⟩)
          clear hK K
          try simp only [Act.put, List.setIfInBounds_toArray, List.set_cons_zero, List.set_cons_succ]
          with_reducible refine wpQuiet_step ?_
          intro K hK
          go_simp
          first
            | (with_reducible refine hK _ ?_)
            | (with_reducible refine ⟨_, fun _ _ => rfl, hK _ ?_⟩)
          clear hK K
          try simp only [Act.put, List.setIfInBounds_toArray, List.set_cons_zero, List.set_cons_succ]
          with_reducible refine wpQuiet_step ?_
          intro K hK
          refine qs_load_cell (by rfl) 42 _ rfl ⟨A, 0, none⟩ rfl (.int .u64 ai) (fun w hw => (HCC.out w hw).1) Try.isAgg42 (hK _ ?_)
          clear hK K
          try simp only [Act.put, List.setIfInBounds_toArray, List.set_cons_zero, List.set_cons_succ]
          with_reducible refine wpQuiet_step ?_
          intro K hK
          go_simp
          first
            | (with_reducible refine hK _ ?_)
            | (with_reducible refine ⟨_, fun _ _ => rfl, hK _ ?_⟩)
          clear hK K
          try simp only [Act.put, List.setIfInBounds_toArray, List.set_cons_zero, List.set_cons_succ]
          with_reducible refine wpQuiet_step ?_
          intro K hK
          refine qs_load_cell (by rfl) 42 _ rfl ⟨B, 0, none⟩ rfl (.int .u64 bi) (fun w hw => (HCC.out w hw).2.2.1) Try.isAgg42 (hK _ ?_)
          clear hK K
          try simp only [Act.put, List.setIfInBounds_toArray, List.set_cons_zero, List.set_cons_succ]
          with_reducible refine wpQuiet_step ?_
          intro K hK
          go_simp
          first
            | (with_reducible refine hK _ ?_)
            | (with_reducible refine ⟨_, fun _ _ => rfl, hK _ ?_⟩)
          clear hK K
          try simp only [Act.put, List.setIfInBounds_toArray, List.set_cons_zero, List.set_cons_succ]
          with_reducible refine wpQuiet_step ?_
          intro K hK
          go_simp
          first
            | (with_reducible refine hK _ ?_)
            | (with_reducible refine ⟨_, fun _ _ => rfl, hK _ ?_⟩)
          clear hK K
          try simp only [Act.put, List.setIfInBounds_toArray, List.set_cons_zero, List.set_cons_succ]
          with_reducible refine wpQuiet_step ?_
          intro K hK
          go_simp
          first
            | (with_reducible refine hK _ ?_)
            | (with_reducible refine ⟨_, fun _ _ => rfl, hK _ ?_⟩)
          clear hK K
          try simp only [Act.put, List.setIfInBounds_toArray, List.set_cons_zero, List.set_cons_succ]
          with_reducible refine wpQuiet_step ?_
          intro K hK
          refine qs_load_cell (by rfl) 42 _ rfl ⟨A, 0, none⟩ rfl (.int .u64 ai) (fun w hw => (HCC.out w hw).1) Try.isAgg42 (hK _ ?_)
          clear hK K
          try simp only [Act.put, List.setIfInBounds_toArray, List.set_cons_zero, List.set_cons_succ]
          with_reducible refine wpQuiet_step ?_
          intro K hK
          go_simp
          first
            | (with_reducible refine hK _ ?_)
            | (with_reducible refine ⟨_, fun _ _ => rfl, hK _ ?_⟩)
          clear hK K
          try simp only [Act.put, List.setIfInBounds_toArray, List.set_cons_zero, List.set_cons_succ]
          with_reducible refine wpQuiet_step ?_
          intro K hK
          refine qs_load_cell (by rfl) 42 _ rfl ⟨B, 0, none⟩ rfl (.int .u64 bi) (fun w hw => (HCC.out w hw).2.2.1) Try.isAgg42 (hK _ ?_)
          clear hK K
          try simp only [Act.put, List.setIfInBounds_toArray, List.set_cons_zero, List.set_cons_succ]
          with_reducible refine wpQuiet_step ?_
          intro K hK
          go_simp
          first
            | (with_reducible refine hK _ ?_)
            | (with_reducible refine ⟨_, fun _ _ => rfl, hK _ ?_⟩)
          clear hK K
          try simp only [Act.put, List.setIfInBounds_toArray, List.set_cons_zero, List.set_cons_succ]
          with_reducible refine wpQuiet_step ?_
          intro K hK
          go_simp
          first
            | (with_reducible refine hK _ ?_)
            | (with_reducible refine ⟨_, fun _ _ => rfl, hK _ ?_⟩)
          clear hK K
          try simp only [Act.put, List.setIfInBounds_toArray, List.set_cons_zero, List.set_cons_succ]
          with_reducible refine wpQuiet_step ?_
          intro K hK
          refine qs_skipD (by rfl) (hK _ ?_)
          clear hK K
          try simp only [Act.put, List.setIfInBounds_toArray, List.set_cons_zero, List.set_cons_succ]
          with_reducible refine wpQuiet_step ?_
          intro K hK
          refine qs_skipD (by rfl) (hK _ ?_)
          clear hK K
          try simp only [Act.put, List.setIfInBounds_toArray, List.set_cons_zero, List.set_cons_succ]
          with_reducible refine wpQuiet_step ?_
          intro K hK
          refine qs_skipD (by rfl) (hK _ ?_)
          clear hK K
          try simp only [Act.put, List.setIfInBounds_toArray, List.set_cons_zero, List.set_cons_succ]
          with_reducible refine wpQuiet_step ?_
          intro K hK
          refine qs_skipD (by rfl) (hK _ ?_)
          clear hK K
          try simp only [Act.put, List.setIfInBounds_toArray, List.set_cons_zero, List.set_cons_succ]
          with_reducible refine wpQuiet_step ?_
          intro K hK
          refine qs_skipD (by rfl) (hK _ ?_)
          clear hK K
          try simp only [Act.put, List.setIfInBounds_toArray, List.set_cons_zero, List.set_cons_succ]
          with_reducible refine wpQuiet_step ?_
          intro K hK
          refine qs_skipD (by rfl) (hK _ ?_)
          clear hK K
          try simp only [Act.put, List.setIfInBounds_toArray, List.set_cons_zero, List.set_cons_succ]
          with_reducible refine wpQuiet_step ?_
          intro K hK
          refine qs_skipD (by rfl) (hK _ ?_)
          clear hK K
          try simp only [Act.put, List.setIfInBounds_toArray, List.set_cons_zero, List.set_cons_succ]
          with_reducible refine wpQuiet_step ?_
          intro K hK
          refine qs_skipD (by rfl) (hK _ ?_)
          clear hK K
          try simp only [Act.put, List.setIfInBounds_toArray, List.set_cons_zero, List.set_cons_succ]
          with_reducible refine wpQuiet_step ?_
          intro K hK
          refine qs_skipD (by rfl) (hK _ ?_)
          clear hK K
          try simp only [Act.put, List.setIfInBounds_toArray, List.set_cons_zero, List.set_cons_succ]
          with_reducible refine wpQuiet_step ?_
          intro K hK
          refine qs_skipD (by rfl) (hK _ ?_)
          clear hK K
          try simp only [Act.put, List.setIfInBounds_toArray, List.set_cons_zero, List.set_cons_succ]
          with_reducible refine wpQuiet_step ?_
          intro K hK
          go_simp
          first
            | (with_reducible refine hK _ ?_)
            | (with_reducible refine ⟨_, fun _ _ => rfl, hK _ ?_⟩)
          clear hK K
          try simp only [Act.put, List.setIfInBounds_toArray, List.set_cons_zero, List.set_cons_succ]
          with_reducible refine wpQuiet_step ?_
          intro K hK
          go_simp
          first
            | (with_reducible refine hK _ ?_)
            | (with_reducible refine ⟨_, fun _ _ => rfl, hK _ ?_⟩)
          clear hK K
          try simp only [Act.put, List.setIfInBounds_toArray, List.set_cons_zero, List.set_cons_succ]
          with_reducible refine wpQuiet_step ?_
          intro K hK
          go_simp
          first
            | (with_reducible refine hK _ ?_)
            | (with_reducible refine ⟨_, fun _ _ => rfl, hK _ ?_⟩)
          clear hK K
          try simp only [Act.put, List.setIfInBounds_toArray, List.set_cons_zero, List.set_cons_succ]
          with_reducible refine wpQuiet_step ?_
          intro K hK
          go_simp
          first
            | (with_reducible refine hK _ ?_)
            | (with_reducible refine ⟨_, fun _ _ => rfl, hK _ ?_⟩)
          clear hK K
          try simp only [Act.put, List.setIfInBounds_toArray, List.set_cons_zero, List.set_cons_succ]
          with_reducible refine wpQuiet_step ?_
          intro K hK
          go_simp
          first
            | (with_reducible refine hK _ ?_)
            | (with_reducible refine ⟨_, fun _ _ => rfl, hK _ ?_⟩)
          clear hK K
          try simp only [Act.put, List.setIfInBounds_toArray, List.set_cons_zero, List.set_cons_succ]
          with_reducible refine wpQuiet_step ?_
          intro K hK
          go_simp
          first
            | (with_reducible refine hK _ ?_)
            | (with_reducible refine ⟨_, fun _ _ => rfl, hK _ ?_⟩)
          clear hK K
          try simp only [Act.put, List.setIfInBounds_toArray, List.set_cons_zero, List.set_cons_succ]
          refine wpQuiet_nil ?_
          intro wn hCn
          have hbn := HCO.out _ hCn
          have HRn : Hid (wn.rowIs G 4 n (fun i => .bool (decide ((i : Int) ∈ od.take (r + 1 + 1))))) := Lib.hid (HR8.out.of_block (hbn.block G HR8.out.lt))
          have HBn : Hid (Below w2.heap.size w2 wn) := Lib.hid (HB8.out.trans (hbn.mono HB8.out.size))
          clear hbn hCn hCi HCO HCC
          go_wp2
          go_roundw
          case rel => exact ⟨r + 1 + 1, by omega, by go_num, HRn, HBn⟩
          case measure => simp [intOf]; omega
        focus
          have g0 : decide (ad < 0) = false := decide_eq_false (by omega)
          have g1 : decide (0 ≤ bd) = true := decide_eq_true (by omega)
          have g2 : decide (ad < bd) = false := decide_eq_false (by omega)
          have g3 : decide (bi < ai) = false := decide_eq_false (by omega)
          have g4 : decide ((y : Int) < (x : Int)) = false := decide_eq_false (by omega)
          have g4' : decide (y < x) = false := decide_eq_false (by omega)
          have s0 : (ad == bd) = true := by simp; omega
          have s1 : (ai == bi) = true := by simp; omega
          clear hc
          go_upto_region 17 with fail
          try rw [hw8]
          obtain ⟨C, hCi, hCo, hCC⟩ : ∃ C : World → Prop, C w8.drew ∧ (∀ w', C w' → Below w8.heap.size w8 w') ∧ (∀ w', C w' → w'.cell? ⟨A, 0, none⟩ = some (.int .u64 ai) ∧ w'.cell? ⟨A, 1, none⟩ = some (.int .i64 ad) ∧ w'.cell? ⟨B, 0, none⟩ = some (.int .u64 bi) ∧ w'.cell? ⟨B, 1, none⟩ = some (.int .i64 bd) ∧ w'.cell? ⟨O, r, none⟩ = some (.int .i64 (x : Int)) ∧ w'.cell? ⟨O, r + 1, none⟩ = some (.int .i64 (y : Int))) :=
            ⟨fun w' => Below w8.heap.size w8 w', (Below.refl _ _).drew, fun _ h => h, HCC8.out⟩
          have HCO := Lib.hid hCo
          have HCC := Lib.hid hCC
          clear hCo hCC
          refine wp_region_cls C (by kernel_rfl) (by kernel_rfl) hCi ?_
          simp only [List.append_eq, List.cons_append, List.nil_append]
          with_reducible refine wpQuiet_step ?_
          intro K hK
          go_simp
          first
            | (with_reducible refine hK _ ?_)
            | (with_reducible refine ⟨_, fun _ _ => rfl, hK _ ?_⟩)
          clear hK K
          try simp only [Act.put, List.setIfInBounds_toArray, List.set_cons_zero, List.set_cons_succ]
          with_reducible refine wpQuiet_step ?_
          intro K hK
          refine qs_load_cell (by rfl) 3 _ rfl ⟨A, 1, none⟩ rfl (.int .i64 ad) (fun w hw => (HCC.out w hw).2.1) Try.isAgg3 (hK _ ?_)
          clear hK K
          try simp only [Act.put, List.setIfInBounds_toArray, List.set_cons_zero, List.set_cons_succ]
          with_reducible refine wpQuiet_step ?_
          intro K hK
          go_simp
          first
            | (with_reducible refine hK _ ?_)
            | (with_reducible refine ⟨_, fun _ _ => rfl, hK _ ?_⟩)
          clear hK K
          try simp only [Act.put, List.setIfInBounds_toArray, List.set_cons_zero, List.set_cons_succ]
          with_reducible refine wpQuiet_step ?_
          intro K hK
          go_simp
          first
            | (with_reducible refine hK _ ?_)
            | (with_reducible refine ⟨_, fun _ _ => rfl, hK _ ?_⟩)
          clear hK K
          try simp only [Act.put, List.setIfInBounds_toArray, List.set_cons_zero, List.set_cons_succ]
          with_reducible refine wpQuiet_step ?_
          intro K hK
          refine qs_skipD (by rfl) (hK _ ?_)
          clear hK K
          try simp only [Act.put, List.setIfInBounds_toArray, List.set_cons_zero, List.set_cons_succ]
          with_reducible refine wpQuiet_step ?_
          intro K hK
          refine qs_skipD (by rfl) (hK _ ?_)
          clear hK K
          try simp only [Act.put, List.setIfInBounds_toArray, List.set_cons_zero, List.set_cons_succ]
          with_reducible refine wpQuiet_step ?_
          intro K hK
          refine qs_skipD (by rfl) (hK _ ?_)
          clear hK K
          try simp only [Act.put, List.setIfInBounds_toArray, List.set_cons_zero, List.set_cons_succ]
          with_reducible refine wpQuiet_step ?_
          intro K hK
          refine qs_skipD (by rfl) (hK _ ?_)
          clear hK K
          try simp only [Act.put, List.setIfInBounds_toArray, List.set_cons_zero, List.set_cons_succ]
          with_reducible refine wpQuiet_step ?_
          intro K hK
          refine qs_skipD (by rfl) (hK _ ?_)
          clear hK K
          try simp only [Act.put, List.setIfInBounds_toArray, List.set_cons_zero, List.set_cons_succ]
          with_reducible refine wpQuiet_step ?_
          intro K hK
          refine qs_skipD (by rfl) (hK _ ?_)
          clear hK K
          try simp only [Act.put, List.setIfInBounds_toArray, List.set_cons_zero, List.set_cons_succ]
          with_reducible refine wpQuiet_step ?_
          intro K hK
          refine qs_skipD (by rfl) (hK _ ?_)
          clear hK K
          try simp only [Act.put, List.setIfInBounds_toArray, List.set_cons_zero, List.set_cons_succ]
          with_reducible refine wpQuiet_step ?_
          intro K hK
          refine qs_skipD (by rfl) (hK _ ?_)
          clear hK K
          try simp only [Act.put, List.setIfInBounds_toArray, List.set_cons_zero, List.set_cons_succ]
          with_reducible refine wpQuiet_step ?_
          intro K hK
          refine qs_skipD (by rfl) (hK _ ?_)
          clear hK K
          try simp only [Act.put, List.setIfInBounds_toArray, List.set_cons_zero, List.set_cons_succ]
          with_reducible refine wpQuiet_step ?_
          intro K hK
          refine qs_skipD (by rfl) (hK _ ?_)
          clear hK K
          try simp only [Act.put, List.setIfInBounds_toArray, List.set_cons_zero, List.set_cons_succ]
          with_reducible refine wpQuiet_step ?_
          intro K hK
          refine qs_skipD (by rfl) (hK _ ?_)
          clear hK K
          try simp only [Act.put, List.setIfInBounds_toArray, List.set_cons_zero, List.set_cons_succ]
          with_reducible refine wpQuiet_step ?_
          intro K hK
          refine qs_skipD (by rfl) (hK _ ?_)
          clear hK K
          try simp only [Act.put, List.setIfInBounds_toArray, List.set_cons_zero, List.set_cons_succ]
          with_reducible refine wpQuiet_step ?_
          intro K hK
          refine qs_skipD (by rfl) (hK _ ?_)
          clear hK K
          try simp only [Act.put, List.setIfInBounds_toArray, List.set_cons_zero, List.set_cons_succ]
          with_reducible refine wpQuiet_step ?_
          intro K hK
          refine qs_skipD (by rfl) (hK _ ?_)
          clear hK K
          try simp only [Act.put, List.setIfInBounds_toArray, List.set_cons_zero, List.set_cons_succ]
          with_reducible refine wpQuiet_step ?_
          intro K hK
          refine qs_skipD (by rfl) (hK _ ?_)
          clear hK K
          try simp only [Act.put, List.setIfInBounds_toArray, List.set_cons_zero, List.set_cons_succ]
          with_reducible refine wpQuiet_step ?_
          intro K hK
          go_simp
          first
            | (with_reducible refine hK _ ?_)
            | (with_reducible refine ⟨_, fun _ _ => rfl, hK _ ?_⟩)
          clear hK K
          try simp only [Act.put, List.setIfInBounds_toArray, List.set_cons_zero, List.set_cons_succ]
          with_reducible refine wpQuiet_step ?_
          intro K hK
          go_simp
          first
            | (with_reducible refine hK _ ?_)
            | (with_reducible refine ⟨_, fun _ _ => rfl, hK _ ?_⟩)
          clear hK K
          try simp only [Act.put, List.setIfInBounds_toArray, List.set_cons_zero, List.set_cons_succ]
          with_reducible refine wpQuiet_step ?_
          intro K hK
          go_simp
          first
            | (with_reducible refine hK _ ?_)
            | (with_reducible refine ⟨_, fun _ _ => rfl, hK _ ?_⟩)
          clear hK K
          try simp only [Act.put, List.setIfInBounds_toArray, List.set_cons_zero, List.set_cons_succ]
          with_reducible refine wpQuiet_step ?_
          intro K hK
          refine qs_load_cell (by rfl) 3 _ rfl ⟨B, 1, none⟩ rfl (.int .i64 bd) (fun w hw => (HCC.out w hw).2.2.2.1) Try.isAgg3 (hK _ ?_)
          clear hK K
          try simp only [Act.put, List.setIfInBounds_toArray, List.set_cons_zero, List.set_cons_succ]
          with_reducible refine wpQuiet_step ?_
          intro K hK
          go_simp
          first
            | (with_reducible refine hK _ ?_)
            | (with_reducible refine ⟨_, fun _ _ => rfl, hK _ ?_⟩)
          clear hK K
          try simp only [Act.put, List.setIfInBounds_toArray, List.set_cons_zero, List.set_cons_succ]
          with_reducible refine wpQuiet_step ?_
          intro K hK
          go_simp
          first
            | (with_reducible refine hK _ ?_)
            | (with_reducible refine ⟨_, fun _ _ => rfl, hK _ ?_⟩)
          clear hK K
          try simp only [Act.put, List.setIfInBounds_toArray, List.set_cons_zero, List.set_cons_succ]
          with_reducible refine wpQuiet_step ?_
          intro K hK
          go_simp
          first
            | (with_reducible refine hK _ ?_)
            | (with_reducible refine ⟨_, fun _ _ => rfl, hK _ ?_⟩)
          clear hK K
          try simp only [Act.put, List.setIfInBounds_toArray, List.set_cons_zero, List.set_cons_succ]
          with_reducible refine wpQuiet_step ?_
          intro K hK
          refine qs_load_cell (by rfl) 3 _ rfl ⟨A, 1, none⟩ rfl (.int .i64 ad) (fun w hw => (HCC.out w hw).2.1) Try.isAgg3 (hK _ ?_)
          clear hK K
          try simp only [Act.put, List.setIfInBounds_toArray, List.set_cons_zero, List.set_cons_succ]
          with_reducible refine wpQuiet_step ?_
          intro K hK
          go_simp
          first
            | (with_reducible refine hK _ ?_)
            | (with_reducible refine ⟨_, fun _ _ => rfl, hK _ ?_⟩)
          clear hK K
          try simp only [Act.put, List.setIfInBounds_toArray, List.set_cons_zero, List.set_cons_succ]
          with_reducible refine wpQuiet_step ?_
          intro K hK
          refine qs_load_cell (by rfl) 3 _ rfl ⟨B, 1, none⟩ rfl (.int .i64 bd) (fun w hw => (HCC.out w hw).2.2.2.1) Try.isAgg3 (hK _ ?_)
          clear hK K
          try simp only [Act.put, List.setIfInBounds_toArray, List.set_cons_zero, List.set_cons_succ]
          with_reducible refine wpQuiet_step ?_
          intro K hK
          go_simp
          first
            | (with_reducible refine hK _ ?_)
            | (with_reducible refine ⟨_, fun _ _ => rfl, hK _ ?_⟩)
          clear hK K
          try simp only [Act.put, List.setIfInBounds_toArray, List.set_cons_zero, List.set_cons_succ]
          with_reducible refine wpQuiet_step ?_
          intro K hK
          go_simp
          first
            | (with_reducible refine hK _ ?_)
            | (with_reducible refine ⟨_, fun _ _ => rfl, hK _ ?_⟩)
          clear hK K
          try simp only [Act.put, List.setIfInBounds_toArray, List.set_cons_zero, List.set_cons_succ]
          with_reducible refine wpQuiet_step ?_
          intro K hK
          go_simp
          first
            | (with_reducible refine hK _ ?_)
            | (with_reducible refine ⟨_, fun _ _ => rfl, hK _ ?_⟩)
          clear hK K
          try simp only [Act.put, List.setIfInBounds_toArray, List.set_cons_zero, List.set_cons_succ]
          with_reducible refine wpQuiet_step ?_
          intro K hK
          refine qs_load_cell (by rfl) 3 _ rfl ⟨A, 1, none⟩ rfl (.int .i64 ad) (fun w hw => (HCC.out w hw).2.1) Try.isAgg3 (hK _ ?_)
          clear hK K
          try simp only [Act.put, List.setIfInBounds_toArray, List.set_cons_zero, List.set_cons_succ]
          with_reducible refine wpQuiet_step ?_
          intro K hK
          go_simp
          first
            | (with_reducible refine hK _ ?_)
            | (with_reducible refine ⟨_, fun _ _ => rfl, hK _ ?_⟩)
          clear hK K
          try simp only [Act.put, List.setIfInBounds_toArray, List.set_cons_zero, List.set_cons_succ]
          with_reducible refine wpQuiet_step ?_
          intro K hK
          refine qs_load_cell (by rfl) 3 _ rfl ⟨B, 1, none⟩ rfl (.int .i64 bd) (fun w hw => (HCC.out w hw).2.2.2.1) Try.isAgg3 (hK _ ?_)
          clear hK K
          try simp only [Act.put, List.setIfInBounds_toArray, List.set_cons_zero, List.set_cons_succ]
          with_reducible refine wpQuiet_step ?_
          intro K hK
          go_simp
          first
            | (with_reducible refine hK _ ?_)
            | (with_reducible refine ⟨_, fun _ _ => rfl, hK _ ?_⟩)
          clear hK K
          try simp only [Act.put, List.setIfInBounds_toArray, List.set_cons_zero, List.set_cons_succ]
          with_reducible refine wpQuiet_step ?_
          intro K hK
          go_simp
          first
            | (with_reducible refine hK _ ?_)
            | (with_reducible refine ⟨_, fun _ _ => rfl, hK _ ?_⟩)
          clear hK K
          try simp only [Act.put, List.setIfInBounds_toArray, List.set_cons_zero, List.set_cons_succ]
          with_reducible refine wpQuiet_step ?_
          intro K hK
          go_simp
          first
            | (with_reducible refine hK _ ?_)
            | (with_reducible refine ⟨_, fun _ _ => rfl, hK _ ?_⟩)
          clear hK K
          try simp only [Act.put, List.setIfInBounds_toArray, List.set_cons_zero, List.set_cons_succ]
          with_reducible refine wpQuiet_step ?_
          intro K hK
          refine qs_load_cell (by rfl) 42 _ rfl ⟨A, 0, none⟩ rfl (.int .u64 ai) (fun w hw => (HCC.out w hw).1) Try.isAgg42 (hK _ ?_)
          clear hK K
          try simp only [Act.put, List.setIfInBounds_toArray, List.set_cons_zero, List.set_cons_succ]
          with_reducible refine wpQuiet_step ?_
          intro K hK
          go_simp
          first
            | (with_reducible refine hK _ ?_)
            | (with_reducible refine ⟨_, fun _ _ => rfl, hK _ ?_⟩)
          clear hK K
          try simp only [Act.put, List.setIfInBounds_toArray, List.set_cons_zero, List.set_cons_succ]
          with_reducible refine wpQuiet_step ?_
          intro K hK
          refine qs_load_cell (by rfl) 42 _ rfl ⟨B, 0, none⟩ rfl (.int .u64 bi) (fun w hw => (HCC.out w hw).2.2.1) Try.isAgg42 (hK _ ?_)
          clear hK K
          try simp only [Act.put, List.setIfInBounds_toArray, List.set_cons_zero, List.set_cons_succ]
          with_reducible refine wpQuiet_step ?_
          intro K hK
          go_simp
          first
            | (with_reducible refine hK _ ?_)
            | (with_reducible refine ⟨_, fun _ _ => rfl, hK _ ?_⟩)
          clear hK K
          try simp only [Act.put, List.setIfInBounds_toArray, List.set_cons_zero, List.set_cons_succ]
          with_reducible refine wpQuiet_step ?_
          intro K hK
          go_simp
          first
            | (with_reducible refine hK _ ?_)
            | (with_reducible refine ⟨_, fun _ _ => rfl, hK _ ?_⟩)
          clear hK K
          try simp only [Act.put, List.setIfInBounds_toArray, List.set_cons_zero, List.set_cons_succ]
          with_reducible refine wpQuiet_step ?_
          intro K hK
          go_simp
          first
            | (with_reducible refine hK _ ?_)
            | (with_reducible refine ⟨_, fun _ _ => rfl, hK _ ?_⟩)
          clear hK K
          try simp only [Act.put, List.setIfInBounds_toArray, List.set_cons_zero, List.set_cons_succ]
          with_reducible refine wpQuiet_step ?_
          intro K hK
          refine qs_load_cell (by rfl) 42 _ rfl ⟨A, 0, none⟩ rfl (.int .u64 ai) (fun w hw => (HCC.out w hw).1) Try.isAgg42 (hK _ ?_)
          clear hK K
          try simp only [Act.put, List.setIfInBounds_toArray, List.set_cons_zero, List.set_cons_succ]
          with_reducible refine wpQuiet_step ?_
          intro K hK
          go_simp
          first
            | (with_reducible refine hK _ ?_)
            | (with_reducible refine ⟨_, fun _ _ => rfl, hK _ ?_⟩)
          clear hK K
          try simp only [Act.put, List.setIfInBounds_toArray, List.set_cons_zero, List.set_cons_succ]
          with_reducible refine wpQuiet_step ?_
          intro K hK
          refine qs_load_cell (by rfl) 42 _ rfl ⟨B, 0, none⟩ rfl (.int .u64 bi) (fun w hw => (HCC.out w hw).2.2.1) Try.isAgg42 (hK _ ?_)
          clear hK K
          try simp only [Act.put, List.setIfInBounds_toArray, List.set_cons_zero, List.set_cons_succ]
          with_reducible refine wpQuiet_step ?_
          intro K hK
          go_simp
          first
            | (with_reducible refine hK _ ?_)
            | (with_reducible refine ⟨_, fun _ _ => rfl, hK _ ?_⟩)
          clear hK K
          try simp only [Act.put, List.setIfInBounds_toArray, List.set_cons_zero, List.set_cons_succ]
          with_reducible refine wpQuiet_step ?_
          intro K hK
          go_simp
          first
            | (with_reducible refine hK _ ?_)
            | (with_reducible refine ⟨_, fun _ _ => rfl, hK _ ?_⟩)
          clear hK K
          try simp only [Act.put, List.setIfInBounds_toArray, List.set_cons_zero, List.set_cons_succ]
          with_reducible refine wpQuiet_step ?_
          intro K hK
          go_simp
          first
            | (with_reducible refine hK _ ?_)
            | (with_reducible refine ⟨_, fun _ _ => rfl, hK _ ?_⟩)
          clear hK K
          try simp only [Act.put, List.setIfInBounds_toArray, List.set_cons_zero, List.set_cons_succ]
          with_reducible refine wpQuiet_step ?_
          intro K hK
          go_simp
          first
            | (with_reducible refine hK _ ?_)
            | (with_reducible refine ⟨_, fun _ _ => rfl, hK _ ?_⟩)
          clear hK K
          try simp only [Act.put, List.setIfInBounds_toArray, List.set_cons_zero, List.set_cons_succ]
          with_reducible refine wpQuiet_step ?_
          intro K hK
          go_simp
          first
            | (with_reducible refine hK _ ?_)
            | (with_reducible refine ⟨_, fun _ _ => rfl, hK _ ?_⟩)
          clear hK K
          try simp only [Act.put, List.setIfInBounds_toArray, List.set_cons_zero, List.set_cons_succ]
          with_reducible refine wpQuiet_step ?_
          intro K hK
          refine qs_load_cell (by rfl) 3 _ rfl ⟨O, r + 1, none⟩ rfl (.int .i64 (y : Int)) (fun w hw => (HCC.out w hw).2.2.2.2.2) Try.isAgg3 (hK _ ?_)
          clear hK K
          try simp only [Act.put, List.setIfInBounds_toArray, List.set_cons_zero, List.set_cons_succ]
          with_reducible refine wpQuiet_step ?_
          intro K hK
          go_simp
          first
            | (with_reducible refine hK _ ?_)
            | (with_reducible refine ⟨_, fun _ _ => rfl, hK _ ?_⟩)
          clear hK K
          try simp only [Act.put, List.setIfInBounds_toArray, List.set_cons_zero, List.set_cons_succ]
          with_reducible refine wpQuiet_step ?_
          intro K hK
          go_simp
          first
            | (with_reducible refine hK _ ?_)
            | (with_reducible refine ⟨_, fun _ _ => rfl, hK _ ?_⟩)
          clear hK K
          try simp only [Act.put, List.setIfInBounds_toArray, List.set_cons_zero, List.set_cons_succ]
          with_reducible refine wpQuiet_step ?_
          intro K hK
          go_simp
          first
            | (with_reducible refine hK _ ?_)
            | (with_reducible refine ⟨_, fun _ _ => rfl, hK _ ?_⟩)
          clear hK K
          try simp only [Act.put, List.setIfInBounds_toArray, List.set_cons_zero, List.set_cons_succ]
          with_reducible refine wpQuiet_step ?_
          intro K hK
          go_simp
          first
            | (with_reducible refine hK _ ?_)
            | (with_reducible refine ⟨_, fun _ _ => rfl, hK _ ?_⟩)
          clear hK K
          try simp only [Act.put, List.setIfInBounds_toArray, List.set_cons_zero, List.set_cons_succ]
          with_reducible refine wpQuiet_step ?_
          intro K hK
          refine qs_load_cell (by rfl) 3 _ rfl ⟨O, r, none⟩ rfl (.int .i64 (x : Int)) (fun w hw => (HCC.out w hw).2.2.2.2.1) Try.isAgg3 (hK _ ?_)
          clear hK K
          try simp only [Act.put, List.setIfInBounds_toArray, List.set_cons_zero, List.set_cons_succ]
          with_reducible refine wpQuiet_step ?_
          intro K hK
          go_simp
          first
            | (with_reducible refine hK _ ?_)
            | (with_reducible refine ⟨_, fun _ _ => rfl, hK _ ?_⟩)
          clear hK K
          try simp only [Act.put, List.setIfInBounds_toArray, List.set_cons_zero, List.set_cons_succ]
          with_reducible refine wpQuiet_step ?_
          intro K hK
          go_simp
          first
            | (with_reducible refine hK _ ?_)
            | (with_reducible refine ⟨_, fun _ _ => rfl, hK _ ?_⟩)
          clear hK K
          try simp only [Act.put, List.setIfInBounds_toArray, List.set_cons_zero, List.set_cons_succ]
          with_reducible refine wpQuiet_step ?_
          intro K hK
          go_simp
          first
            | (with_reducible refine hK _ ?_)
            | (with_reducible refine ⟨_, fun _ _ => rfl, hK _ ?_⟩)
          clear hK K
          try simp only [Act.put, List.setIfInBounds_toArray, List.set_cons_zero, List.set_cons_succ]
          with_reducible refine wpQuiet_step ?_
          intro K hK
          go_simp
          first
            | (with_reducible refine hK _ ?_)
            | (with_reducible refine ⟨_, fun _ _ => rfl, hK _ ?_⟩)
          clear hK K
          try simp only [Act.put, List.setIfInBounds_toArray, List.set_cons_zero, List.set_cons_succ]
          with_reducible refine wpQuiet_step ?_
          intro K hK
          go_simp
          first
            | (with_reducible refine hK _ ?_)
            | (with_reducible refine ⟨_, fun _ _ => rfl, hK _ ?_⟩)
          clear hK K
          try simp only [Act.put, List.setIfInBounds_toArray, List.set_cons_zero, List.set_cons_succ]
          with_reducible refine wpQuiet_step ?_
          intro K hK
          go_simp
          first
            | (with_reducible refine hK _ ?_)
            | (with_reducible refine ⟨_, fun _ _ => rfl, hK _ ?_⟩)
          clear hK K
          try simp only [Act.put, List.setIfInBounds_toArray, List.set_cons_zero, List.set_cons_succ]
          with_reducible refine wpQuiet_step ?_
          intro K hK
          go_simp
          first
            | (with_reducible refine hK _ ?_)
            | (with_reducible refine ⟨_, fun _ _ => rfl, hK _ ?_⟩)
          clear hK K
          try simp only [Act.put, List.setIfInBounds_toArray, List.set_cons_zero, List.set_cons_succ]
          refine wpQuiet_nil ?_
          intro wn hCn
          have hbn := HCO.out _ hCn
          have HRn : Hid (wn.rowIs G 4 n (fun i => .bool (decide ((i : Int) ∈ od.take (r + 1 + 1))))) := Lib.hid (HR8.out.of_block (hbn.block G HR8.out.lt))
          have HBn : Hid (Below w2.heap.size w2 wn) := Lib.hid (HB8.out.trans (hbn.mono HB8.out.size))
          clear hbn hCn hCi HCO HCC
          go_wp2
          go_roundw
          case rel => exact ⟨r + 1 + 1, by omega, by go_num, HRn, HBn⟩
          case measure => simp [intOf]; omega
    · obtain rfl : t = n := by omega
      have hd : decide ((t : Int) < (t : Int)) = false := by simp
      go_wp2
      go_ret
      exact ⟨rfl, HB2.out.trans (HBT.out.mono HB2.out.size)⟩
end Go.Proofs.Ytmnnfhplgepiaab
