/-
  The walk of shellgameref16.Victims.
-/
import Derived.Test.YtmnnfhplgepiaaaPolA
import Derived.Test.YtmnnfhplgepiaaaPolQ
import Derived.Test.YtmnnfhplgepiaaaAs16
import Derived.Deep.OwnRows
namespace Go.Sg
open Go Go.RowKit
theorem qs_load_mid16 {P : Program} {ops : Array Oper} {C : World → Prop} {o : Oper} {a : Act} {K : Act → Prop} (hw : Region.wanted o (yielded ops a.tmps) = true) (ty : TypeId) (x : Operand) (ho : o.op = .load ty x)
    (b off : Nat) (hx : a.eval x = .pointer (some ⟨b, off, none⟩)) (cs : List Value) (d : TypeDesc) (hg : ∀ w, C w → w.rangeAt b off cs)
    (hu : P.underlying ty = some d) (hd : d.isRow = true) (hi : (P.info? ty).map (·.size) = some cs.length)
    (hK : K (a.put o.dst (.agg cs.toArray))) : if Region.wanted o (yielded ops a.tmps) = true then o.quiet P a C K else K (a.put o.dst undef) := by
  rw [if_pos hw]
  refine ⟨.agg cs.toArray, fun w hC => ?_, hK⟩
  unfold Oper.quietAt execOp
  simp only [ho, hx, Instr.loadAt, Instr.sureAddr, Sem.run_bind, Sem.run_pure, Result.andThen_ok, run_loadVar_mid w b off ty cs d (hg w hC) hu hd hi]
  exact ⟨rfl, rfl⟩
theorem ownsRow_blk {w w' : World} {base : Nat} {e : TypeId} {size : Nat} {v : Value} {n : Nat} {xs : List Value} (h : w.ownsRow base e size v n xs) (hb : ∀ k, v.ownBlock = some k → w'.heap[k]? = w.heap[k]?) : w'.ownsRow base e size v n xs := by
  refine ⟨h.1, ?_⟩
  rcases h.2 with h2 | ⟨g, cap, cur, rfl, hbg, hg, h3⟩
  · exact .inl h2
  · exact .inr ⟨g, cap, cur, rfl, hbg, by rw [hb g rfl]; exact hg, h3⟩
end Go.Sg
namespace Go.Proofs.Ytmnnfhplgepiaaa
open Go Go.RowKit Go.Sg
theorem info_itR (x : It) : (Try.prog.info? 41).map (·.size) = some (itV x).length := by kernel_rfl
theorem info_boolR : (Try.prog.info? 4).map (fun i => (i.zero, i.size, i.bytes)) = some (some (.bool false), 1, 1) := by kernel_rfl
theorem info_intR : (Try.prog.info? 3).map (fun i => (i.zero, i.size, i.bytes)) = some (some (.int .i64 0), 1, 8) := by kernel_rfl
set_option maxHeartbeats 4000000 in
set_option maxRecDepth 100000 in
theorem rvictims_any (l : List It) (hl : l.length ≤ 1099511627776) (hw : ∀ x ∈ l, ItW x) (v : Value) (cap' batch : Int) (w : World) (hv : SlK itV w v l) :
    Calls Try.prog 20 #[v, .int .i64 cap', .int .i64 batch] w fun e w' => ∃ v', e = .returned v' ∧ Sl1 w' v' ((victI l cap' batch).map (Value.int .i64)) ∧ Below w.heap.size w w' := by
  obtain ⟨a, cap, rfl, h1, h2, h3⟩ := hv
  have HC : Hid (∀ w', Below w.heap.size w w' → ∀ (k : Nat), k < l.length → ∃ b off, a = some ⟨b, off, none⟩ ∧ w'.rangeAt b (off + k * 3) (itV (getI l k))) := Lib.hid fun w' hb k h => by
    obtain ⟨b, off, rfl, hlt, hr⟩ := h3 (fun e => by rw [e] at h; simp at h)
    refine ⟨b, off, rfl, fun j u hu => ?_⟩
    rw [getI_eq h] at hu
    exact (hb.cell (p := ⟨b, off + k * 3 + j, none⟩) hlt).trans (range_flat itV_k hr h j u hu)
  have HW := Lib.hid (fun (k : Nat) (h : k < l.length) => (show ItW (getI l k) by rw [getI_eq h]; exact hw _ (List.getElem_mem h)))
  obtain ⟨i0, hi0, hz0, hz1, hz2⟩ := info_parts info_intR
  have HI := Lib.hid hi0
  have HZ := Lib.hid hz0
  have HS := Lib.hid hz1
  have HY := Lib.hid hz2
  obtain ⟨j0, hj0, jz0, jz1, jz2⟩ := info_parts info_boolR
  have JI := Lib.hid hj0
  have JZ := Lib.hid jz0
  have JS := Lib.hid jz1
  have JY := Lib.hid jz2
  obtain ⟨wo, hwo⟩ : ∃ wo : World, wo = w := ⟨_, rfl⟩
  clear hi0 hz0 hz1 hz2 hj0 jz0 jz1 jz2 h3 hw
  unfold maxLen at h2
  go_enter Try.func20, Try.ntmps20
  go_wp2_with fail
  go_loopw [7, 8] (fun c i wr => ∃ k : Nat, k ≤ l.length ∧ i = .int .i64 k ∧ c = .int .i64 (cntE (l.take k) : Int) ∧ Hid (Below wo.heap.size wo wr)) (fun _ i _ => l.length - (intOf i).toNat)
  case atStart => exact ⟨0, by omega, rfl, rfl, Lib.hid (by rw [hwo]; exact Below.refl _ _)⟩
  case round =>
    obtain ⟨k, hk, rfl, rfl, HB⟩ := hrel
    by_cases hlt : k < l.length
    · have hd : decide ((k : Int) < (l.length : Int)) = true := decide_eq_true (by omega)
      have hd' : decide (k < l.length) = true := decide_eq_true hlt
      have i0 : (0 : Int) ≤ (k : Int) := by omega
      have i1 : (k : Int) < (l.length : Int) := by omega
      obtain ⟨b, off, rfl, hr⟩ := HC.out _ (hwo ▸ HB.out) k hlt
      have c2 := hr 2 _ rfl
      have HCN : Hid (cntE (l.take (k + 1)) = cntE (l.take k) + if (getI l k).2.2 then 1 else 0) := Lib.hid (by
        unfold cntE
        rw [List.take_succ_eq_append_getElem hlt, List.countP_append, List.countP_singleton, getI_eq hlt])
      have hcl : cntE (l.take k) ≤ k := by
        have := List.countP_le_length (p := fun x : It => x.2.2) (l := l.take k)
        rw [List.length_take] at this
        unfold cntE
        omega
      clear hr
      generalize getI l k = x at *
      generalize cntE (l.take k) = ck at *
      obtain ⟨xc, xr, xe⟩ := x
      simp only at c2
      cases xe
      · go_wp2_with fail
        try dsimp only [Bool.false_eq_true, if_false, Nat.add_zero] at HCN
        go_roundw
        case rel => exact ⟨k + 1, by omega, by go_num, by rw [HCN.out]; simp, HB⟩
        case measure => simp [intOf]; omega
      · go_wp2_with fail
        go_roundw
        case rel => exact ⟨k + 1, by omega, by go_num, by rw [HCN.out]; simp, HB⟩
        case measure => simp [intOf]; omega
    · obtain rfl : k = l.length := by omega
      have hd : decide ((l.length : Int) < (l.length : Int)) = false := by simp
      rw [List.take_length]
      obtain ⟨g, hg⟩ : ∃ g, goI l cap' batch = g := ⟨_, rfl⟩
      have hgl : g ≤ l.length := by rw [← hg]; exact goI_le _ _ _
      have hmn2 : (if (l.length : Int) < manyI (l.length : Int) (cntE l : Int) cap' batch then (l.length : Int) else manyI (l.length : Int) (cntE l : Int) cap' batch) = (g : Int) := by
        have h0 : 0 ≤ manyI (l.length : Int) (cntE l : Int) cap' batch := by unfold manyI; omega
        rw [← hg]
        unfold goI
        split <;> omega
      have hmn : min (manyI (l.length : Int) (cntE l : Int) cap' batch) (l.length : Int) = (g : Int) := by
        rw [← hmn2]
        split <;> omega
      have KM := Lib.hid (fun w' => rmany_any (l.length : Int) (cntE l : Int) cap' batch w')
      have HG := Lib.hid hg
      clear hg
      obtain ⟨n, hn⟩ : ∃ n, l.length = n := ⟨_, rfl⟩
      have HN := Lib.hid hn
      rw [hn] at KM hmn hmn2 hgl hl ⊢
      clear hn hd
      have hd : decide ((n : Int) < (n : Int)) = false := by simp
      go_wp2_with (first
        | (at_make; go_loud (refine wpList_make_row _ rfl (.tmp 28) (.tmp 28) 23 rfl 4 j0 (.bool false) Try.underlying23 JI.out JZ.out JS.out rfl .i64 .i64 n rfl rfl (by rw [JY.out]; omega) (by omega) ?_))
        | (go_at_call 19; refine (KM.out _).mono ?_; rintro e w' ⟨rfl, rfl⟩)
        | fail)
      obtain ⟨U, hU⟩ : ∃ U, wr.heap.size = U := ⟨_, rfl⟩
      have hrow := World.rowIs_made wr (.bool false) n 4
      have hB1 := HB.out.alloc HB.out.size (.cells (madeCells #[.bool false] n) 4)
      have HOU : Hid (wo.heap.size ≤ U) := Lib.hid (by rw [← hU]; exact HB.out.size)
      have HUS : Hid ((wr.alloc (.cells (madeCells #[.bool false] n) 4)).heap.size = U + 1) := Lib.hid (by rw [← hU]; simp)
      rw [hU] at hrow ⊢
      have HR := Lib.hid hrow
      have HB1 := Lib.hid hB1
      clear hrow hB1 hU HB
      generalize wr.alloc (.cells (madeCells #[.bool false] n) 4) = w1 at *
      go_loopw [10, 11, 12, 13] (fun o nv _ _ wx => ∃ (m : Nat) (pk : List Nat), pk.length + m = g ∧ nv = .int .i64 m ∧ Hid (PK l pk) ∧ Hid (wx.rowIs U 4 n (fun i => .bool (decide (i ∈ pk)))) ∧ Hid (wx.ownsRow (U + 1) 3 1 o pk.length (((pk.map (getI l)).map (·.1)).map (Value.int .i64))) ∧ Hid (Below wo.heap.size wo wx) ∧ Hid (U + 1 ≤ wx.heap.size)) (fun _ nv _ _ _ => (intOf nv).toNat)
      case atStart => exact ⟨g, [], by simp, rfl, Lib.hid (PK.nil l), Lib.hid (HR.out.congr (fun i _ => by simp)), Lib.hid (World.ownsRow_nil _ _ _ _), HB1, Lib.hid (by rw [HUS.out]; omega)⟩
      case round =>
        obtain ⟨m, pk, hpm, rfl, HP, HRU, HO, HBX, HUX⟩ := hrel
        obtain ⟨wy, hwy⟩ : ∃ wy : World, wy = wr := ⟨_, rfl⟩
        by_cases hm : m = 0
        · subst hm
          have HVI : Hid (victI l cap' batch = (pk.map (getI l)).map (·.1)) := Lib.hid (HP.out.done (by rw [HG.out]; omega))
          have HSL := Lib.hid (Sl1.of_owns HO.out)
          go_wp2
          go_ret
          exact ⟨_, rfl, by rw [HVI.out]; exact HSL.out, by rw [← hwo]; exact HBX.out⟩
        · have d1 : decide ((0 : Int) < (m : Int)) = true := decide_eq_true (by omega)
          have d1' : decide (0 < m) = true := decide_eq_true (by omega)
          have hpl : pk.length < n := by omega
          have HPL : Hid (pk.length < l.length) := Lib.hid (by rw [HN.out]; exact hpl)
          go_wp2_with fail
          go_loopw [12, 13] (fun at' iv wz => ∃ (i : Nat) (z : Int), i ≤ n ∧ iv = .int .i64 i ∧ at' = .int .i64 z ∧ Hid (INN l pk i z) ∧ Hid (Below wy.heap.size wy wz)) (fun _ iv _ => n - (intOf iv).toNat)
          case atStart => exact ⟨0, -1, by omega, rfl, rfl, Lib.hid (INN.zero l pk), Lib.hid (by rw [hwy]; exact Below.refl _ _)⟩
          case round =>
            obtain ⟨i, z, hi, rfl, rfl, HIN, HBZ⟩ := hrel
            by_cases hlt : i < n
            · have hd1 : decide ((i : Int) < (n : Int)) = true := decide_eq_true (by omega)
              have hd1' : decide (i < n) = true := decide_eq_true hlt
              have i0' : (0 : Int) ≤ (i : Int) := by omega
              have i1' : (i : Int) < (n : Int) := by omega
              have HBW : Hid (∀ w', Below wy.heap.size wy w' → Below wo.heap.size wo w') := Lib.hid fun w' h => (hwy ▸ HBX.out : Below wo.heap.size wo wy).trans (h.mono (hwy ▸ HBX.out : Below wo.heap.size wo wy).size)
              have HUC : Hid (∀ w', Below wy.heap.size wy w' → w'.cell? ⟨U, i, none⟩ = some (.bool (decide (i ∈ pk)))) := Lib.hid fun w' h => (h.cell (p := ⟨U, i, none⟩) (hwy ▸ HUX.out : U + 1 ≤ wy.heap.size)).trans ((hwy ▸ HRU.out : wy.rowIs U 4 n (fun i => .bool (decide (i ∈ pk)))).cell hlt)
              by_cases hmem : i ∈ pk
              · have hu : decide (i ∈ pk) = true := decide_eq_true hmem
                obtain ⟨C, hCi, hCo, hCU⟩ : ∃ C : World → Prop, C wr.drew ∧ (∀ w', C w' → Below wy.heap.size wy w') ∧ (∀ w', C w' → w'.cell? ⟨U, i, none⟩ = some (.bool true)) :=
                  ⟨fun w' => Below wy.heap.size wy w', HBZ.out.drew, fun _ h => h, fun w' h => by rw [HUC.out w' h, hu]⟩
                have HCO := Lib.hid hCo
                have HCU := Lib.hid hCU
                clear hCo hCU
                go_upto_region 16 with fail
                refine wp_region_cls C (by kernel_rfl) (by kernel_rfl) hCi ?_
                repeat (first
                  | (with_reducible refine wpQuiet_step ?_
                     intro K hK
                     refine qs_skipA (by rfl) (hK _ ?_)
                     clear hK K
                     try simp only [Act.put, List.setIfInBounds_toArray, List.set_cons_zero, List.set_cons_succ])
                  | (with_reducible refine wpQuiet_step ?_
                     intro K hK
                     refine qs_load_cell (by rfl) 4 _ rfl ⟨U, i, none⟩ rfl (.bool true) (fun w hw => HCU.out w hw) Try.isAgg4 (hK _ ?_)
                     clear hK K
                     try simp only [Act.put, List.setIfInBounds_toArray, List.set_cons_zero, List.set_cons_succ])
                  | (with_reducible refine wpQuiet_step ?_
                     intro K hK
                     go_simp
                     first
                       | (with_reducible refine hK _ ?_; clear hK K)
                       | (with_reducible refine ⟨_, fun _ _ => rfl, hK _ ?_⟩; clear hK K)))
                refine wpQuiet_nil ?_
                intro w8 hC8
                have HX8 := Lib.hid (HCO.out _ hC8)
                clear hC8 hCi HCO HCU
                go_wp2
                go_roundw
                case rel => exact ⟨i + 1, z, by omega, by go_num, rfl, Lib.hid (HIN.out.skip hmem), HX8⟩
                case measure => simp [intOf]; omega
              · rcases Int.lt_or_le z 0 with hz | hz
                · have hu : decide (i ∈ pk) = false := decide_eq_false hmem
                  have dz : decide (z < 0) = true := decide_eq_true hz
                  have HNX : Hid (INN l pk (i + 1) i) := Lib.hid (HIN.out.take hmem (fun a e => by omega))
                  obtain ⟨C, hCi, hCo, hCU⟩ : ∃ C : World → Prop, C wr.drew ∧ (∀ w', C w' → Below wy.heap.size wy w') ∧ (∀ w', C w' → w'.cell? ⟨U, i, none⟩ = some (.bool false)) :=
                    ⟨fun w' => Below wy.heap.size wy w', HBZ.out.drew, fun _ h => h, fun w' h => by rw [HUC.out w' h, hu]⟩
                  have HCO := Lib.hid hCo
                  have HCU := Lib.hid hCU
                  clear hCo hCU
                  go_upto_region 16 with fail
                  refine wp_region_cls C (by kernel_rfl) (by kernel_rfl) hCi ?_
                  repeat (first
                    | (with_reducible refine wpQuiet_step ?_
                       intro K hK
                       refine qs_skipA (by rfl) (hK _ ?_)
                       clear hK K
                       try simp only [Act.put, List.setIfInBounds_toArray, List.set_cons_zero, List.set_cons_succ])
                    | (with_reducible refine wpQuiet_step ?_
                       intro K hK
                       refine qs_load_cell (by rfl) 4 _ rfl ⟨U, i, none⟩ rfl (.bool false) (fun w hw => HCU.out w hw) Try.isAgg4 (hK _ ?_)
                       clear hK K
                       try simp only [Act.put, List.setIfInBounds_toArray, List.set_cons_zero, List.set_cons_succ])
                    | (with_reducible refine wpQuiet_step ?_
                       intro K hK
                       go_simp
                       first
                         | (with_reducible refine hK _ ?_; clear hK K)
                         | (with_reducible refine ⟨_, fun _ _ => rfl, hK _ ?_⟩; clear hK K)))
                  refine wpQuiet_nil ?_
                  intro w8 hC8
                  have HX8 := Lib.hid (HCO.out _ hC8)
                  clear hC8 hCi HCO HCU
                  go_wp2
                  go_roundw
                  case rel => exact ⟨i + 1, i, by omega, by go_num, rfl, Lib.hid HNX.out, HX8⟩
                  case measure => simp [intOf]; omega
                · have hu : decide (i ∈ pk) = false := decide_eq_false hmem
                  have dz : decide (z < 0) = false := decide_eq_false (by omega)
                  obtain ⟨a, rfl⟩ : ∃ a : Nat, z = a := ⟨z.toNat, by omega⟩
                  have hal : a < i := by
                    rcases HIN.out with ⟨e, _⟩ | ⟨a', e, h, _⟩
                    · omega
                    · omega
                  have a0 : (0 : Int) ≤ (a : Int) := by omega
                  have a1 : (a : Int) < (n : Int) := by omega
                  obtain ⟨b, off, rfl, _⟩ := HC.out _ (hwo ▸ HBX.out) i (by rw [HN.out]; exact hlt)
                  have HRX : Hid (∀ w', Below wy.heap.size wy w' → w'.rangeAt b (off + i * 3) (itV (getI l i))) := Lib.hid fun w' h => by
                    obtain ⟨b', off', e, hr⟩ := HC.out _ (hwo ▸ HBW.out _ h) i (by rw [HN.out]; exact hlt)
                    simp only [Option.some.injEq, Addr.mk.injEq, and_true] at e
                    obtain ⟨rfl, rfl⟩ := e
                    exact hr
                  have HRY : Hid (∀ w', Below wy.heap.size wy w' → w'.rangeAt b (off + a * 3) (itV (getI l a))) := Lib.hid fun w' h => by
                    obtain ⟨b', off', e, hr⟩ := HC.out _ (hwo ▸ HBW.out _ h) a (by rw [HN.out]; omega)
                    simp only [Option.some.injEq, Addr.mk.injEq, and_true] at e
                    obtain ⟨rfl, rfl⟩ := e
                    exact hr
                  have KA := Lib.hid (fun w' => ahead_any (getI l i) (getI l a) (HW.out i (by rw [HN.out]; exact hlt)) (HW.out a (by rw [HN.out]; omega)) w')
                  have HTK : Hid (ltI (getI l i) (getI l a) = true → INN l pk (i + 1) i) := Lib.hid fun h => HIN.out.take hmem (fun a' e => (show a = a' by omega) ▸ h)
                  have HKP : Hid (ltI (getI l i) (getI l a) = false → INN l pk (i + 1) a) := Lib.hid fun h => HIN.out.keep (by omega) (fun a' e => (show a = a' by omega) ▸ h)
                  generalize getI l i = x at *
                  generalize getI l a = y at *
                  obtain ⟨C, hCi, hCo, hCU, hCX, hCY, hCA⟩ : ∃ C : World → Prop, C wr.drew ∧ (∀ w', C w' → Below wy.heap.size wy w') ∧ (∀ w', C w' → w'.cell? ⟨U, i, none⟩ = some (.bool false)) ∧ (∀ w', C w' → w'.rangeAt b (off + i * 3) (itV x)) ∧ (∀ w', C w' → w'.rangeAt b (off + a * 3) (itV y)) ∧ (∀ w', C w' → Calls Try.prog 24 #[.agg (itV x).toArray, .agg (itV y).toArray] w' fun e w'' => e = .returned (.bool (ltI x y)) ∧ C w'') :=
                    ⟨fun w' => Below wy.heap.size wy w', HBZ.out.drew, fun _ h => h, fun w' h => by rw [HUC.out w' h, hu], HRX.out, HRY.out, fun w' h => cls_call (P := Try.prog) KA.out (Nat.le_refl _) h⟩
                  have HCO := Lib.hid hCo
                  have HCU := Lib.hid hCU
                  have HCX := Lib.hid hCX
                  have HCY := Lib.hid hCY
                  have HCA := Lib.hid hCA
                  clear hCo hCU hCX hCY hCA HRX HRY KA
                  go_upto_region 16 with fail
                  refine wp_region_cls C (by kernel_rfl) (by kernel_rfl) hCi ?_
                  repeat (first
                    | (with_reducible refine wpQuiet_step ?_
                       intro K hK
                       refine qs_skipA (by rfl) (hK _ ?_)
                       clear hK K
                       try simp only [Act.put, List.setIfInBounds_toArray, List.set_cons_zero, List.set_cons_succ])
                    | (with_reducible refine wpQuiet_step ?_
                       intro K hK
                       refine qs_load_cell (by rfl) 4 _ rfl ⟨U, i, none⟩ rfl (.bool false) (fun w hw => HCU.out w hw) Try.isAgg4 (hK _ ?_)
                       clear hK K
                       try simp only [Act.put, List.setIfInBounds_toArray, List.set_cons_zero, List.set_cons_succ])
                    | (with_reducible refine wpQuiet_step ?_
                       intro K hK
                       refine qs_load_mid16 (by rfl) 41 (.tmp 60) rfl b (off + i * 3) rfl (itV x) _ (fun w hw => HCX.out w hw) Try.underlying41 rfl (info_itR x) (hK _ ?_)
                       clear hK K
                       try simp only [Act.put, List.setIfInBounds_toArray, List.set_cons_zero, List.set_cons_succ])
                    | (with_reducible refine wpQuiet_step ?_
                       intro K hK
                       refine qs_load_mid16 (by rfl) 41 (.tmp 64) rfl b (off + a * 3) rfl (itV y) _ (fun w hw => HCY.out w hw) Try.underlying41 rfl (info_itR y) (hK _ ?_)
                       clear hK K
                       try simp only [Act.put, List.setIfInBounds_toArray, List.set_cons_zero, List.set_cons_succ])
                    | (with_reducible refine wpQuiet_step ?_
                       intro K hK
                       go_simp
                       first
                         | (with_reducible refine hK _ ?_; clear hK K)
                         | (with_reducible refine ⟨_, fun _ _ => rfl, hK _ ?_⟩; clear hK K)
                         | (with_reducible apply Exists.intro
                            with_reducible refine ⟨fun _ hC => ?_, hK _ ?_⟩
                            (with_reducible exact HCA.out _ hC)
                            clear hK K
                            try simp only [Act.put, List.setIfInBounds_toArray, List.set_cons_zero, List.set_cons_succ])))
                  refine wpQuiet_nil ?_
                  intro w8 hC8
                  have HX8 := Lib.hid (HCO.out _ hC8)
                  clear hC8 hCi HCO HCU HCX HCY HCA
                  generalize ltI x y = r at *
                  cases r
                  · go_wp2
                    go_roundw
                    case rel => exact ⟨i + 1, (a : Int), by omega, by go_num, rfl, Lib.hid (HKP.out rfl), HX8⟩
                    case measure => simp [intOf]; omega
                  · go_wp2
                    go_roundw
                    case rel => exact ⟨i + 1, (i : Int), by omega, by go_num, rfl, Lib.hid (HTK.out rfl), HX8⟩
                    case measure => simp [intOf]; omega
            · obtain rfl : i = n := by omega
              have hd1 : decide ((i : Int) < (i : Int)) = false := by simp
              have hIN : INN l pk l.length z := by rw [HN.out]; exact HIN.out
              obtain ⟨a, hza, hal, han, hPK⟩ := hIN.done HP.out HPL.out
              subst hza
              have HPK := Lib.hid hPK
              have HLE : Hid (a < l.length) := Lib.hid hal
              rw [HN.out] at hal
              have hBW : Below wo.heap.size wo wr := (hwy ▸ HBX.out : Below wo.heap.size wo wy).trans (HBZ.out.mono (hwy ▸ HBX.out : Below wo.heap.size wo wy).size)
              have hRZ : wr.rowIs U 4 i (fun i => .bool (decide (i ∈ pk))) := (hwy ▸ HRU.out : wy.rowIs U 4 i (fun i => .bool (decide (i ∈ pk)))).of_block (HBZ.out.block U (hwy ▸ HUX.out : U + 1 ≤ wy.heap.size))
              have hOZ := ownsRow_below (hwy ▸ HO.out : wy.ownsRow (U + 1) 3 1 u10 pk.length (((pk.map (getI l)).map (·.1)).map (Value.int .i64))) HBZ.out
              have hUZ : U + 1 ≤ wr.heap.size := Nat.le_trans (hwy ▸ HUX.out : U + 1 ≤ wy.heap.size) HBZ.out.size
              have c0 : wr.cell? ⟨U, a, none⟩ = some (.bool false) := (hRZ.cell hal).trans (by simp [han])
              have f0 := hRZ.frozen a
              have a0 : (0 : Int) ≤ (a : Int) := by omega
              have a1 : (a : Int) < (i : Int) := by omega
              have HUZ := Lib.hid hUZ
              have HWF : Hid ((wr.setCell ⟨U, a, none⟩ (.bool true)).rowIs U 4 i (fun j => if j = a then .bool true else .bool (decide (j ∈ pk))) ∧ (wr.setCell ⟨U, a, none⟩ (.bool true)).ownsRow (U + 1) 3 1 u10 pk.length (((pk.map (getI l)).map (·.1)).map (Value.int .i64)) ∧ Below wo.heap.size wo (wr.setCell ⟨U, a, none⟩ (.bool true)) ∧ U + 1 ≤ (wr.setCell ⟨U, a, none⟩ (.bool true)).heap.size) := Lib.hid (by
                have hb := below_setCells (b := U) HOU.out [.bool true] a hBW
                refine ⟨hRZ.set a _, ownsRow_blk hOZ (fun k hk => Go.Deep.blk_setCell_other _ _ _ _ (by have := (hOZ.lt k hk).1; show k ≠ U; omega)), hb, ?_⟩
                have hb2 := below_setCells (b := U) (B := U) (Nat.le_refl _) [.bool true] a (Below.refl U wr)
                exact Nat.le_trans hUZ hb2.size)
              clear hBW hRZ hOZ hPK hIN HIN HBZ hUZ
              go_upto_region 19 with fail
              refine at_world (fun w' => w'.rowIs U 4 i (fun j => if j = a then .bool true else .bool (decide (j ∈ pk))) ∧ w'.ownsRow (U + 1) 3 1 u10 pk.length (((pk.map (getI l)).map (·.1)).map (Value.int .i64)) ∧ Below wo.heap.size wo w' ∧ U + 1 ≤ w'.heap.size) HWF.out ?_
              rintro wb ⟨hb1, hb2, hb3, hb4⟩
              obtain ⟨b, off, rfl, hr⟩ := HC.out _ (hwo ▸ hb3) a HLE.out
              have c1 : wb.cell? ⟨b, off + a * 3, none⟩ = some (.int .i64 (getI l a).1) := hr 0 _ rfl
              have HRB := Lib.hid hb1
              have HOB := Lib.hid hb2
              have HBB := Lib.hid hb3
              have HSB := Lib.hid hb4
              have HTK : Hid ((((pk ++ [a]).map (getI l)).map (·.1)).map (Value.int .i64) = ((pk.map (getI l)).map (·.1)).map (Value.int .i64) ++ [.int .i64 (getI l a).1]) := Lib.hid (by simp)
              clear hb1 hb2 hb3 hb4 c0 f0 hr HWF
              generalize (getI l a).1 = xc at *
              have hpk : pk.length ≤ 1099511627776 := by omega
              go_wp2_with (first
                | (at_builtin; go_loud (refine wpList_append_own_at _ rfl (.tmp 73) (.tmp 79) 29 rfl (U + 1) 3 i0 (.int .i64 0) 1 8 Try.underlying29 HI.out HZ.out HS.out HY.out rfl (by decide) _ pk.length (((pk.map (getI l)).map (·.1)).map (Value.int .i64)) rfl (HOB.out.alloc _) ⟨wb.heap.size, 0, none⟩ 1 1 [.int .i64 xc] rfl rfl (cells_lit _ [.int .i64 xc] _) (by simp [Value.oneCell']) (by unfold maxLen; omega) (by omega) (by have := HSB.out; simp; omega) ?_))
                | fail)
              intro v' w4 hown hgrow _ _
              have HO4 : Hid (w4.ownsRow (U + 1) 3 1 v' (pk.length + 1) ((((pk ++ [a]).map (getI l)).map (·.1)).map (Value.int .i64))) := Lib.hid (by
                rw [HTK.out]
                first | exact hown | simpa using hown)
              have hbu : Below (U + 1) wb w4 := ((Below.refl (U + 1) wb).alloc HSB.out _).grown hgrow (by have := HSB.out; simp; omega) (fun j hj => (HOB.out.lt j hj).1)
              have HB4 : Hid (Below wo.heap.size wo w4) := Lib.hid ((HBB.out.alloc HBB.out.size _).grown hgrow (by have := HBB.out.size; simp; omega) (fun j hj => by have := (HOB.out.lt j hj).1; have := HOU.out; omega))
              have HR4 : Hid (w4.rowIs U 4 i (fun j => .bool (decide (j ∈ pk ++ [a])))) := Lib.hid ((HRB.out.of_block (hbu.block U (by omega))).congr (fun j _ => by
                by_cases hj : j = a
                · simp [hj]
                · simp [hj]))
              have HU4 : Hid (U + 1 ≤ w4.heap.size) := Lib.hid (Nat.le_trans HSB.out hbu.size)
              clear hown hgrow hbu
              go_wp2
              go_roundw
              case rel => exact ⟨m - 1, pk ++ [a], by rw [List.length_append, List.length_singleton]; omega, by go_num, HPK, HR4, by rw [List.length_append, List.length_singleton]; exact HO4, HB4, HU4⟩
              case measure => simp [intOf]; omega
end Go.Proofs.Ytmnnfhplgepiaaa
