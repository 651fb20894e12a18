/-
  The walk of net.Sort: what a network makes of words.
-/
import Derived.Test.YtngpaibppdehdaaShown5
import Derived.Test.YtngpaibppdehdaaSortL
import Derived.Test.YtngpaibppdehdaaWord
import Derived.Test.YtngpaibppdehdaaRound
import Derived.Laws.OwnMore
import Derived.Lib.SliceRun
namespace Go.Proofs.Ytngpaibppdehdaa
open Go Go.RowKit Go.Shelf Go.Sg
attribute [local go_sem] Oper.semAt_some

theorem info_u64 : (Try.prog.info? 39).map (fun i => (i.zero, i.size, i.bytes)) = some (some (.int .u64 0), 1, 8) := by kernel_rfl
theorem words_one (xs : List Int) : ∀ u ∈ xs.map (Value.int .u64), u.oneCell' = true := by
  intro u hu; obtain ⟨_, _, rfl⟩ := List.mem_map.1 hu; rfl

set_option maxRecDepth 100000 in
theorem cloneU_any (v : Value) (xs : List Int) (w : World) (hv : Sl1 w v (xs.map (Value.int .u64))) (hne : xs ≠ []) (hlen : xs.length ≤ 1024) :
    Calls Try.prog 89 #[v] w fun e w' => ∃ v', e = .returned v' ∧ w'.ownsRow w.heap.size 39 1 v' xs.length (xs.map (Value.int .u64)) ∧ Below w.heap.size w w' := by
  rcases hv with ⟨e, _⟩ | ⟨_, b, off, cap, rfl, hl, hm, hlt, hc⟩
  · exact absurd (List.map_eq_nil_iff.1 e) hne
  rw [List.length_map] at hl ⊢
  have hc' : ∀ j u, (xs.map (Value.int .u64))[j]? = some u → w.cell? ⟨b, off + j, none⟩ = some u := fun j u hu => by
    obtain ⟨hj, rfl⟩ := List.getElem?_eq_some_iff.1 hu
    exact hc j hj
  obtain ⟨i0, hi0, hz0, hz1, hz2⟩ := info_parts info_u64
  have HI := Lib.hid hi0
  have HZ := Lib.hid hz0
  have HS := Lib.hid hz1
  have HY := Lib.hid hz2
  have HR := Lib.hid hc'
  have HL := Lib.hid hlt
  unfold maxLen at hm
  clear hi0 hz0 hz1 hz2 hc hc' hne hlt
  go_enter Try.func89, Try.ntmps89
  go_wp2_with fail
  rw [Go.Lib.run_eql_slice_nil (h := Try.underlying34)]
  simp only [Result.andThen_ok, Oper.upon_value, Option.isNone_some]
  go_wp2_with (first
    | (at_builtin; go_loud (refine wpList_append_own_at _ rfl (.tmp 5) (.tmp 6) 34 rfl w.heap.size 39 i0 (.int .u64 0) 1 8 Try.underlying34 HI.out HZ.out HS.out HY.out rfl (by decide) _ 0 [] rfl ?own ⟨b, off, none⟩ xs.length cap (xs.map (Value.int .u64)) rfl (by simp) ?c1 (words_one xs) (by unfold maxLen; omega) (by omega) (by simp) ?_))
    | fail)
  case own => exact ⟨rfl, .inr ⟨w.heap.size, 0, #[], rfl, Nat.le_refl _, heap_alloc_new w _, Nat.le_refl _, by simp, rfl, rfl⟩⟩
  case c1 =>
    intro j u hu
    rw [addr_add]
    exact (((Below.refl _ w).alloc (Nat.le_refl _) _).cell (p := ⟨b, off + j, none⟩) HL.out).trans (HR.out j u hu)
  intro v' w2 hown hgrow _ hat
  have HO := Lib.hid hown
  have HB : Hid (Below w.heap.size w w2) := Lib.hid (((Below.refl _ _).alloc (Nat.le_refl _) _).grown hgrow (by simp) (by intro k hk; simp [Value.ownBlock] at hk; omega))
  clear hown hgrow hat
  go_wp2
  go_ret
  exact ⟨_, rfl, HO.out, HB.out⟩

theorem netSort_no (v : Value) (xs : List Int) (hn : rightB (xs.length : Int) = false) (w : World) (hv : Sl1 w v (xs.map (Value.int .u64))) :
    Calls Try.prog 52 #[v] w fun e w' => e = .returned (.tuple #[.slice none 0 0, .int .i64 1]) ∧ Below w.heap.size w w' := by
  obtain ⟨a, cap, rfl⟩ := hv.len
  have hl := hv.len_le
  unfold maxLen at hl
  rw [List.length_map] at hl ⊢
  have K := Lib.hid (fun w => netRight_any (xs.length : Int) w)
  rw [hn] at K
  clear hv
  go_enter Try.func52, Try.ntmps52
  go_wp2_with (go_at_call 28; refine (K.out _).mono ?_; rintro e w' ⟨rfl, rfl⟩)
  go_ret2
  exact ⟨rfl, (Below.refl _ _).alloc (Nat.le_refl _) _⟩

set_option maxRecDepth 100000 in
set_option maxHeartbeats 4000000 in
theorem netSort_yes (t : Nat) (ht : t ≤ 10) (v : Value) (xs : List Int) (hn : xs.length = 2 ^ t) (hw : ∀ x ∈ xs, Word x) (w : World) (hv : Sl1 w v (xs.map (Value.int .u64))) :
    Calls Try.prog 52 #[v] w fun e w' => ∃ v', e = .returned (.tuple #[v', .int .i64 0]) ∧ Sl1 w' v' ((netOf t xs).map (Value.int .u64)) ∧ Below w.heap.size w w' := by
  refine (callsIn_wide (n := 6)).1 ?_
  have h1 : 1 ≤ 6 := by omega
  have hr : rightB ((2 ^ t : Nat) : Int) = true := by
    have := rightB_pow t ht
    rwa [show ((2 ^ t : Nat) : Int) = (2 : Int) ^ t by simp]
  have hN1024 : 2 ^ t ≤ 1024 := Nat.le_trans (Nat.pow_le_pow_right (by omega) ht) (by decide)
  have hN0 := Nat.two_pow_pos t
  have hne : xs ≠ [] := fun e => by rw [e] at hn; simp at hn; omega
  have HV := Lib.hid hv
  obtain ⟨a, cap, rfl⟩ : ∃ a cap, v = .slice a (2 ^ t) cap := by have := hv.len; rwa [List.length_map, hn] at this
  have KR := Lib.hid (fun w' => (callsIn_wide (n := 5)).2 (netRight_any ((2 ^ t : Nat) : Int) w'))
  rw [hr] at KR
  have KC := Lib.hid (fun w' (h : Below w.heap.size w w') => (callsIn_wide (n := 5)).2 (cloneU_any _ xs w' (HV.out.below h) hne (by omega)))
  rw [hn] at KC
  have KP := Lib.hid (fun w' => pairs_in Fence.wide 5 trivial rfl ((2 ^ t : Nat) : Int) w')
  clear hv hr
  refine callsIn_of_wp_marks Try.func52 rfl trivial ?_ rfl
  simp only [Try.ntmps52, List.size_toArray, List.length_cons, List.length_nil, Nat.reduceAdd, Nat.reduceSub, Array.replicate_succ, Array.replicate_zero, List.push_toArray, List.append_toArray, List.nil_append, List.cons_append]
  obtain ⟨N, hN⟩ : ∃ N, 2 ^ t = N := ⟨_, rfl⟩
  rw [hN] at KR KC KP hN1024 hN0 hn HV ⊢
  have bO := Boxed.new w 34 (.slice a N cap)
  have hB0 : Below w.heap.size w (w.alloc (.cells #[.slice a N cap] 34)) := (Below.refl _ w).alloc (Nat.le_refl _) _
  have hcN := bO.cell
  have hsz : (w.alloc (.cells #[.slice a N cap] 34)).heap.size = w.heap.size + 1 := by simp
  gi_wp2_with (first
    | (refine ⟨trivial, ?_⟩; gi_at_call 28; refine (KR.out _).mono ?_; rintro e w' ⟨rfl, rfl⟩)
    | fail)
  refine ⟨trivial, ?_⟩
  refine (KC.out _ hB0).mono ?_
  rintro e w1 ⟨v1, rfl, hown1, hb1⟩
  obtain ⟨G, gc, rfl⟩ : ∃ G gc, v1 = .slice (some ⟨G, 0, none⟩) N gc := by
    obtain ⟨k, rfl⟩ : ∃ k, N = k + 1 := ⟨N - 1, by omega⟩
    exact ownsRow_succ hown1
  have bO1 : Boxed w1 w.heap.size 34 (.slice a N cap) := (hb1.block _ (by rw [hsz]; omega)).trans bO
  have hc1 := bO1.cell
  have hf1 := bO1.frozen
  have bO2 := bO1.set (.slice (some ⟨G, 0, none⟩) N gc)
  have hown2 : (w1.setCell ⟨w.heap.size, 0, none⟩ (.slice (some ⟨G, 0, none⟩) N gc)).ownsRow w.heap.size 39 1 (.slice (some ⟨G, 0, none⟩) N gc) N (xs.map (Value.int .u64)) :=
    (ownsRow_base hown1 (by rw [hsz]; omega)).kept (grownBy_setCell' w1 _ _) (.inr (bO1.not_row (by decide) hown1).symm)
  have hB2 : Below w.heap.size w (w1.setCell ⟨w.heap.size, 0, none⟩ (.slice (some ⟨G, 0, none⟩) N gc)) := (hB0.trans (hb1.mono (by rw [hsz]; omega))).setCell (p := ⟨w.heap.size, 0, none⟩) (Nat.le_refl _) _
  have hGB : G ≠ w.heap.size := fun e => (bO1.not_row (t := 34) (by decide) hown1) (by rw [e]; rfl)
  gi_wp2_with (first
    | (refine ⟨trivial, ?_⟩; gi_at_call 78; refine (KP.out _).mono ?_; rintro e w' ⟨rfl, rfl⟩)
    | fail)
  clear KR KC KP HV hcN bO hB0 hc1 hf1 bO1
  have hs2 : (w1.setCell ⟨w.heap.size, 0, none⟩ (.slice (some ⟨G, 0, none⟩) N gc)).heap.size = w1.heap.size := by simp
  have hs1 : w.heap.size + 1 ≤ w1.heap.size := by have := hb1.size; rw [hsz] at this; exact this
  obtain ⟨W2, hW2⟩ : ∃ W2, w1.setCell ⟨w.heap.size, 0, none⟩ (.slice (some ⟨G, 0, none⟩) N gc) = W2 := ⟨_, rfl⟩
  rw [hW2] at bO2 hown2 hB2 hs2 ⊢
  clear hW2 hown1 hb1
  obtain ⟨W3, hW3⟩ : ∃ W3, W2.alloc (.cells #[.int .i64 (N : Int)] 3) = W3 := ⟨_, rfl⟩
  have b3 : Boxed W3 w.heap.size 34 (.slice (some ⟨G, 0, none⟩) N gc) := by rw [← hW3]; exact bO2.alloc _
  have hown3 : W3.ownsRow w.heap.size 39 1 (.slice (some ⟨G, 0, none⟩) N gc) N (xs.map (Value.int .u64)) := by rw [← hW3]; exact hown2.alloc _
  have hB3 : Below w.heap.size w W3 := by rw [← hW3]; exact hB2.alloc (by rw [hs2]; omega) _
  have hs3 : W3.heap.size = w1.heap.size + 1 := by rw [← hW3]; simp [hs2]
  have hcn : W3.cell? ⟨w1.heap.size, 0, none⟩ = some (.int .i64 ((2 ^ t : Nat) : Int)) := by rw [hN, ← hW3, ← hs2]; exact (Blk.new W2 _ _).cell 0
  have hG3 : G < W3.heap.size := (hown3.lt G rfl).2
  have hGn : G ≠ w1.heap.size := fun e => by
    have h1 := (hown2.lt G rfl).2
    rw [hs2] at h1
    omega
  rw [hW3]
  clear hW3 hown2 bO2 hB2
  have HS := pairs_stopsS Fence.wide 5 trivial rfl (by omega) w1.heap.size (fun W W' => Below w.heap.size W W' ∧ W'.heap[w1.heap.size]? = W.heap[w1.heap.size]?) (fun _ _ h => h.2) t ht W3 (fun W h => h.block _ (by omega)) hcn
  rw [hN] at HS
  clear hcn
  refine wpIn_rangeFunc_ownH rfl h1 (gf := 94) (lb := #[.pointer (some ⟨w1.heap.size, 0, none⟩)]) rfl trivial (enters_of Try.func94 (by kernel_rfl) rfl)
    HS (fun h k => ⟨h.1.trans k.1, k.2.trans h.2⟩)
    (fun W l o o' hl ho hc hwk => ⟨belowK_b (w := W3) (by omega) W l o o' hl ho hc hwk, (belowK_b (w := W3) (n₀ := w1.heap.size + 1) (by omega) W l o o' hl ho hc hwk).block _ (by omega)⟩)
    (Below.refl _ _) (fun _ => rfl)
    (fun pre W => (∃ v, Boxed W w.heap.size 34 v ∧ W.ownsRow w.heap.size 39 1 v N ((cxs Int.toNat xs (pre.map Subtype.val)).map (Value.int .u64)) ∧ v = .slice (some ⟨G, 0, none⟩) N gc) ∧ (Below w.heap.size w W ∧ W3.heap.size ≤ W.heap.size))
    (fun _ _ _ => False)
    (OwnFrom.and (Own.from (holdsRow_own w.heap.size w.heap.size 34 39 1 (fun _ : List (PrIn N) => N) (fun pre => (cxs Int.toNat xs (pre.map Subtype.val)).map (Value.int .u64)) (fun _ v => v = .slice (some ⟨G, 0, none⟩) N gc)) _) (OwnFrom.and (ownFrom_below (Nat.le_refl _) (by omega)) (fun _ _ _ _ hs hg _ => Nat.le_trans hs hg.size)))
    (fun _ _ _ _ _ hs _ _ => hs)
    ⟨⟨_, b3, hown3, rfl⟩, hB3, Nat.le_refl _⟩
    (fun x a' W => ∃ Bx, W3.heap.size ≤ Bx ∧ Blk W Bx (prc x.1).toArray 30 ∧ a' = { tmps := #[.slice a N cap, .pointer (some ⟨w.heap.size, 0, none⟩), .slice none 0 0, .int .i64 0, .pointer (some ⟨Bx, 0, none⟩), undef, .slice a N cap, .int .i64 (N : Int), .bool true, .bool false, .slice a N cap, .slice (some ⟨G, 0, none⟩) N gc, .slice (some ⟨G, 0, none⟩) N gc, .int .i64 (N : Int), .func (.func 94) #[] #[.pointer (some ⟨w1.heap.size, 0, none⟩)], prV x.1, undef, undef, undef, undef, undef, undef, undef, undef, undef, undef, undef, undef, undef, undef, undef, undef, undef, undef, undef, undef, undef, undef, undef, undef, undef, undef, undef, undef, undef, undef, undef, undef, undef, undef, undef, undef, undef, undef, undef, undef, undef, undef, undef, undef, undef, undef, undef, undef, undef], defers := [] })
    (fun x a' _ X Y row hs hg hr => by obtain ⟨Bx, h1, h2, h3⟩ := hs; exact ⟨Bx, h1, blk_own Bx _ (fun (_ : Unit) => (prc x.1).toArray) () X Y row h2 hg (fun r e => (hr r e).2), h3⟩)
    ?assign ?body ?done ?stop
  case stop =>
    rintro D c pre W _ _ h _
    exact h.elim
  case assign =>
    rintro l pre x W K ⟨⟨v, hv, hrow, hvv⟩, hB1, hS1⟩ hK
    dsimp only [prV]
    gi_wp2
    exact hK _ _ ((KeepsOthers.alloc _ _).from _) ⟨(Below.refl _ W).alloc hB1.size _, Below.heap_alloc _ _ _ (by omega)⟩ ⟨⟨v, hv.alloc _, hrow.alloc _, hvv⟩, hB1.alloc hB1.size _, by rw [World.size_alloc]; omega⟩ ⟨W.heap.size, hS1, Blk.new W _ _, rfl⟩
  case body =>
    rintro l pre ⟨⟨i, j, up⟩, hij, hjN⟩ a' W hl ⟨r, hr⟩ ⟨⟨v, hv, hrow, rfl⟩, hB1, hS1⟩ ⟨Bx, hBx, bX, rfl⟩ hlt
    simp only at hij hjN bX
    have hlen : (cxs Int.toNat xs (pre.map Subtype.val)).length = N := by rw [cxs_length, hn]
    have hwx : ∀ x ∈ cxs Int.toNat xs (pre.map Subtype.val), Word x := fun x hx => hw x ((cxs_perm Int.toNat (pre.map Subtype.val) xs).mem_iff.1 hx)
    have hsnoc : cxs Int.toNat xs ((pre ++ [(⟨(i, j, up), hij, hjN⟩ : PrIn N)]).map Subtype.val) = cx Int.toNat (cxs Int.toNat xs (pre.map Subtype.val)) (i, j, up) := by
      rw [List.map_append, List.map_cons, List.map_nil, cxs_snoc]
    have HSN := Lib.hid hsnoc
    clear hsnoc
    generalize cxs Int.toNat xs (pre.map Subtype.val) = ys at *
    have hi : i < ys.length := by omega
    have hj : j < ys.length := by omega
    have wi := hwx _ (List.getElem_mem hi)
    have wj := hwx _ (List.getElem_mem hj)
    have cB : W.cell? ⟨w.heap.size, 0, none⟩ = some (.slice (some ⟨G, 0, none⟩) N gc) := hv.cell
    have c0 : W.cell? ⟨Bx, 0, none⟩ = some (.int .i64 (i : Int)) := bX.cell 0
    have c1 : W.cell? ⟨Bx, 1, none⟩ = some (.int .i64 (j : Int)) := bX.cell 1
    have c2 : W.cell? ⟨Bx, 2, none⟩ = some (.bool up) := bX.cell 2
    have cI : W.cell? ⟨G, i, none⟩ = some (.int .u64 ys[i]) := by rw [hrow.cellAt i (by omega)]; simp [hi]
    have cJ : W.cell? ⟨G, j, none⟩ = some (.int .u64 ys[j]) := by rw [hrow.cellAt j (by omega)]; simp [hj]
    have fI : W.frozen? ⟨G, i, none⟩ = false := hrow.frozenAt i
    have fJ : W.frozen? ⟨G, j, none⟩ = false := hrow.frozenAt j
    have HST := Lib.hid (cx_step (up := up) hwx hi hj)
    have K1 := Lib.hid (fun w' => less_any ys[j] ys[i] wj wi w')
    have K2 := Lib.hid (fun w' => less_any ys[i] ys[j] wi wj w')
    have KS := Lib.hid (fun m hm w' => swap_any m ys[i] ys[j] hm wi wj w')
    have HM1 := Lib.hid (lm_word ys[j] ys[i])
    have HM2 := Lib.hid (lm_word ys[i] ys[j])
    generalize hy1 : ys[i] = y1 at *
    generalize hy2 : ys[j] = y2 at *
    clear wi wj
    gi_wp2
    refine wpIn_region_quiet_round (by kernel_rfl) (by rintro ⟨_, _, h⟩; exact h) (by kernel_rfl) (by kernel_rfl) ?_
    repeat (go_big_quiet_step (first | (go_at_call 90; refine Calls.quiet_of_same (K1.out _))))
    refine wpQuiet_nil ?_
    rintro _ ⟨nq, rfl⟩
    have cB : (W.drewN nq).cell? ⟨w.heap.size, 0, none⟩ = some (.slice (some ⟨G, 0, none⟩) N gc) := cB
    have c0 : (W.drewN nq).cell? ⟨Bx, 0, none⟩ = some (.int .i64 (i : Int)) := c0
    have c1 : (W.drewN nq).cell? ⟨Bx, 1, none⟩ = some (.int .i64 (j : Int)) := c1
    have c2 : (W.drewN nq).cell? ⟨Bx, 2, none⟩ = some (.bool up) := c2
    have cI : (W.drewN nq).cell? ⟨G, i, none⟩ = some (.int .u64 y1) := cI
    have cJ : (W.drewN nq).cell? ⟨G, j, none⟩ = some (.int .u64 y2) := cJ
    have hv9 : Boxed (W.drewN nq) w.heap.size 34 (.slice (some ⟨G, 0, none⟩) N gc) := hv
    have hrow9 : (W.drewN nq).ownsRow w.heap.size 39 1 (.slice (some ⟨G, 0, none⟩) N gc) N (ys.map (Value.int .u64)) := hrow
    have hB9 : Below w.heap.size W (W.drewN nq) := below_drewN' (Below.refl _ _)
    have hO9 : KeepsOthers W (W.drewN nq) := ⟨Nat.le_refl _, fun _ _ h _ => h⟩
    have hE9 : ∀ k : Nat, (W.drewN nq).heap[k]? = W.heap[k]? := fun _ => rfl
    generalize W.drewN nq = W9 at *
    cases up
    focus
      gi_wp2
      refine wpIn_region_quiet_round (by kernel_rfl) (by rintro ⟨_, _, h⟩; exact h) (by kernel_rfl) (by kernel_rfl) ?_
      repeat (go_big_quiet_step (first | (go_at_call 90; refine Calls.quiet_of_same (K2.out _))))
      refine wpQuiet_nil ?_
      rintro _ ⟨nq2, rfl⟩
      have cB : (W9.drewN nq2).cell? ⟨w.heap.size, 0, none⟩ = some (.slice (some ⟨G, 0, none⟩) N gc) := cB
      have c0 : (W9.drewN nq2).cell? ⟨Bx, 0, none⟩ = some (.int .i64 (i : Int)) := c0
      have c1 : (W9.drewN nq2).cell? ⟨Bx, 1, none⟩ = some (.int .i64 (j : Int)) := c1
      have cI : (W9.drewN nq2).cell? ⟨G, i, none⟩ = some (.int .u64 y1) := cI
      have cJ : (W9.drewN nq2).cell? ⟨G, j, none⟩ = some (.int .u64 y2) := cJ
      have hv9 : Boxed (W9.drewN nq2) w.heap.size 34 (.slice (some ⟨G, 0, none⟩) N gc) := hv9
      have hrow9 : (W9.drewN nq2).ownsRow w.heap.size 39 1 (.slice (some ⟨G, 0, none⟩) N gc) N (ys.map (Value.int .u64)) := hrow9
      have hB9 : Below w.heap.size W (W9.drewN nq2) := below_drewN' hB9
      have hO9 : KeepsOthers W (W9.drewN nq2) := hO9.trans ⟨Nat.le_refl _, fun _ _ h _ => h⟩
      have hE9 : ∀ k : Nat, (W9.drewN nq2).heap[k]? = W.heap[k]? := hE9
      generalize W9.drewN nq2 = W9 at *
      have HM := HM2
      simp only [Bool.false_eq_true, if_false] at HST
      generalize lm y1 y2 = m at *
      gi_wp2
    rotate_left
    focus
      have HM := HM1
      simp only [if_true] at HST
      generalize lm y2 y1 = m at *
      gi_wp2
    all_goals
      have K3 := KS.out m HM.out
      have hiN : i < N := by omega
      have cI : W9.drew.cell? ⟨G, i, none⟩ = some (.int .u64 y1) := cI
      have cJ : W9.drew.cell? ⟨G, j, none⟩ = some (.int .u64 y2) := cJ
      have fI : W9.drew.frozen? ⟨G, i, none⟩ = false := hrow9.frozenAt i
      have fJ : W9.drew.frozen? ⟨G, j, none⟩ = false := hrow9.frozenAt j
      have hv9 : Boxed W9.drew w.heap.size 34 (.slice (some ⟨G, 0, none⟩) N gc) := hv9
      have hrow9 : W9.drew.ownsRow w.heap.size 39 1 (.slice (some ⟨G, 0, none⟩) N gc) N (ys.map (Value.int .u64)) := hrow9
      have hB9 : Below w.heap.size W W9.drew := hB9.drew
      have hO9 : KeepsOthers W W9.drew := hO9.trans ⟨Nat.le_refl _, fun _ _ h _ => h⟩
      have hE9 : ∀ k : Nat, W9.drew.heap[k]? = W.heap[k]? := hE9
      refine wpIn_region_held_round (S := fun w' => w'.cell? ⟨w.heap.size, 0, none⟩ = some (.slice (some ⟨G, 0, none⟩) N gc) ∧ w'.cell? ⟨Bx, 0, none⟩ = some (.int .i64 (i : Int)) ∧ w'.cell? ⟨Bx, 1, none⟩ = some (.int .i64 (j : Int))) (by kernel_rfl) (by rintro ⟨_, _, h⟩; exact h) (by kernel_rfl) ⟨cB, c0, c1⟩ (fun hHeld => ?_)
      generalize W9.drew = WA at *
      have hI2 : (WA.setCell ⟨G, i, none⟩ (.int .u64 (sw1 m y1 y2))).cell? ⟨G, j, none⟩ = some (.int .u64 y2) := by
        rw [World.cell?_setCell_other _ _ _ _ (fun e => by simp at e <;> omega)]
        exact cJ
      have fJ2 : (WA.setCell ⟨G, i, none⟩ (.int .u64 (sw1 m y1 y2))).frozen? ⟨G, j, none⟩ = false := by rw [World.frozen?_setCell]; exact fJ
      refine wpAnyH_take (i := 0) (oi := _) (v := ?_) rfl (by kernel_rfl) (by kernel_rfl) (by kernel_rfl) (fun _ _ _ h => h) (Or.inl ⟨by rfl, ?_⟩) (by assumption) ?_
      rotate_left
      · (intro wS hSw; (try dsimp only at hSw); go_simp; try with_reducible rfl)
      try simp only [Act.put, List.setIfInBounds_toArray, List.set_cons_zero, List.set_cons_succ]
      refine wpAnyH_take (i := 1) (oi := _) (v := ?_) rfl (by kernel_rfl) (by kernel_rfl) (by kernel_rfl) (fun _ _ _ h => h) (Or.inl ⟨by rfl, ?_⟩) (by assumption) ?_
      rotate_left
      · (intro wS hSw; (try dsimp only at hSw); go_simp; try with_reducible rfl)
      try simp only [Act.put, List.setIfInBounds_toArray, List.set_cons_zero, List.set_cons_succ]
      refine wpAnyH_take (i := 2) (oi := _) (v := ?_) rfl (by kernel_rfl) (by kernel_rfl) (by kernel_rfl) (fun _ _ _ h => h) (Or.inl ⟨by rfl, ?_⟩) (by assumption) ?_
      rotate_left
      · (intro wS hSw; (try dsimp only at hSw); go_simp; try with_reducible rfl)
      try simp only [Act.put, List.setIfInBounds_toArray, List.set_cons_zero, List.set_cons_succ]
      refine wpAnyH_take (i := 3) (oi := _) (v := ?_) rfl (by kernel_rfl) (by kernel_rfl) (by kernel_rfl) (fun _ _ _ h => h) (Or.inl ⟨by rfl, ?_⟩) (by assumption) ?_
      rotate_left
      · (intro wS hSw; (try dsimp only at hSw); go_simp; try with_reducible rfl)
      try simp only [Act.put, List.setIfInBounds_toArray, List.set_cons_zero, List.set_cons_succ]
      refine wpAnyH_take (i := 4) (oi := _) (v := ?_) rfl (by kernel_rfl) (by kernel_rfl) (by kernel_rfl) (fun _ _ _ h => h) (Or.inl ⟨by rfl, ?_⟩) (by assumption) ?_
      rotate_left
      · (intro wS hSw; (try dsimp only at hSw); go_simp; try with_reducible rfl)
      try simp only [Act.put, List.setIfInBounds_toArray, List.set_cons_zero, List.set_cons_succ]
      refine wpAnyH_take (i := 5) (oi := _) (v := ?_) rfl (by kernel_rfl) (by kernel_rfl) (by kernel_rfl) (fun _ _ _ h => h) (Or.inl ⟨by rfl, ?_⟩) (by assumption) ?_
      rotate_left
      · (intro wS hSw; (try dsimp only at hSw); go_simp; try with_reducible rfl)
      try simp only [Act.put, List.setIfInBounds_toArray, List.set_cons_zero, List.set_cons_succ]
      refine wpAnyH_take (i := 6) (oi := _) (v := ?_) rfl (by kernel_rfl) (by kernel_rfl) (by kernel_rfl) (fun _ _ _ h => h) (Or.inl ⟨by rfl, ?_⟩) (by assumption) ?_
      rotate_left
      · (intro wS hSw; (try dsimp only at hSw); go_simp; try with_reducible rfl)
      try simp only [Act.put, List.setIfInBounds_toArray, List.set_cons_zero, List.set_cons_succ]
      refine wpAnyH_take (i := 7) (oi := _) (v := ?_) rfl (by kernel_rfl) (by kernel_rfl) (by kernel_rfl) (fun _ _ _ h => h) (Or.inl ⟨by rfl, ?_⟩) (by assumption) ?_
      rotate_left
      · (intro wS hSw; (try dsimp only at hSw); go_simp; try with_reducible rfl)
      try simp only [Act.put, List.setIfInBounds_toArray, List.set_cons_zero, List.set_cons_succ]
      refine wpAnyH_take (i := 8) (oi := _) (v := ?_) rfl (by kernel_rfl) (by kernel_rfl) (by kernel_rfl) (fun _ _ _ h => h) (Or.inl ⟨by rfl, ?_⟩) (by assumption) ?_
      rotate_left
      · (intro wS hSw; (try dsimp only at hSw); go_simp; try with_reducible rfl)
      try simp only [Act.put, List.setIfInBounds_toArray, List.set_cons_zero, List.set_cons_succ]
      refine wpAnyH_take (i := 9) (oi := _) (v := ?_) rfl (by kernel_rfl) (by kernel_rfl) (by kernel_rfl) (fun _ _ _ h => h) (Or.inl ⟨by rfl, ?_⟩) (by assumption) ?_
      rotate_left
      · (intro wS hSw; (try dsimp only at hSw); go_simp; try with_reducible rfl)
      try simp only [Act.put, List.setIfInBounds_toArray, List.set_cons_zero, List.set_cons_succ]
      refine wpAnyH_take (i := 10) (oi := _) (v := ?_) rfl (by kernel_rfl) (by kernel_rfl) (by kernel_rfl) (fun _ _ _ h => h) (Or.inl ⟨by rfl, ?_⟩) (by assumption) ?_
      rotate_left
      · (intro wS hSw; (try dsimp only at hSw); go_simp; try with_reducible rfl)
      try simp only [Act.put, List.setIfInBounds_toArray, List.set_cons_zero, List.set_cons_succ]
      refine wpAnyH_take (i := 12) (oi := _) (v := ?_) rfl (by kernel_rfl) (by kernel_rfl) (by kernel_rfl) (fun _ _ _ h => h) (Or.inl ⟨by rfl, ?_⟩) (by assumption) ?_
      rotate_left
      · (intro wS hSw; (try dsimp only at hSw); go_simp; try with_reducible rfl)
      try simp only [Act.put, List.setIfInBounds_toArray, List.set_cons_zero, List.set_cons_succ]
      refine wpAnyH_take (i := 13) (oi := _) (v := ?_) rfl (by kernel_rfl) (by kernel_rfl) (by kernel_rfl) (fun _ _ _ h => h) (Or.inl ⟨by rfl, ?_⟩) (by assumption) ?_
      rotate_left
      · (intro wS hSw; (try dsimp only at hSw); go_simp; try with_reducible rfl)
      try simp only [Act.put, List.setIfInBounds_toArray, List.set_cons_zero, List.set_cons_succ]
      refine wpAnyH_take (i := 14) (oi := _) (v := ?_) rfl (by kernel_rfl) (by kernel_rfl) (by kernel_rfl) (fun _ _ _ h => h) (Or.inl ⟨by rfl, ?_⟩) (by assumption) ?_
      rotate_left
      · (intro wS hSw; (try dsimp only at hSw); go_simp; try with_reducible rfl)
      try simp only [Act.put, List.setIfInBounds_toArray, List.set_cons_zero, List.set_cons_succ]
      refine wpAnyH_take (i := 15) (oi := _) (v := ?_) rfl (by kernel_rfl) (by kernel_rfl) (by kernel_rfl) (fun _ _ _ h => h) (Or.inl ⟨by rfl, ?_⟩) (by assumption) ?_
      rotate_left
      · (intro wS hSw; (try dsimp only at hSw); go_simp; try with_reducible rfl)
      try simp only [Act.put, List.setIfInBounds_toArray, List.set_cons_zero, List.set_cons_succ]
      refine wpAnyH_ready (rs := [11, 16]) (by kernel_rfl) (by simp) ?_
      refine AllReadyH.cons (o := _) rfl (fun K hK => ?_) (AllReadyH.cons (o := _) rfl (fun K hK => ?_) AllReadyH.nil)
      focus
        go_simp
        refine hK.out _ _ hHeld (fun hHeld => ?_)
        clear hK K
        try simp only [Act.put, List.setIfInBounds_toArray, List.set_cons_zero, List.set_cons_succ]
        refine wpAnyH_ready (rs := [16]) (by kernel_rfl) (by simp) ?_
        refine AllReadyH.cons (o := _) rfl (fun K hK => ?_) AllReadyH.nil
        go_simp
        refine hK.out _ _ hHeld (fun hHeld => ?_)
        clear hK K
        try simp only [Act.put, List.setIfInBounds_toArray, List.set_cons_zero, List.set_cons_succ]
      rotate_left
      focus
        go_simp
        refine hK.out _ _ hHeld (fun hHeld => ?_)
        clear hK K
        try simp only [Act.put, List.setIfInBounds_toArray, List.set_cons_zero, List.set_cons_succ]
        refine wpAnyH_ready (rs := [11]) (by kernel_rfl) (by simp) ?_
        refine AllReadyH.cons (o := _) rfl (fun K hK => ?_) AllReadyH.nil
        go_simp
        refine hK.out _ _ hHeld (fun hHeld => ?_)
        clear hK K
        try simp only [Act.put, List.setIfInBounds_toArray, List.set_cons_zero, List.set_cons_succ]
      all_goals
        refine wpAnyH_ready (rs := [17]) (by kernel_rfl) (by simp) ?_
        refine AllReadyH.cons (o := _) rfl (fun K hK => ?_) AllReadyH.nil
        go_simp
        refine (K3 _).mono ?_
        rintro e w' ⟨rfl, rfl⟩
        refine hK.out _ _ hHeld (fun hHeld => ?_)
        clear hK K
        try simp only [Act.put, List.setIfInBounds_toArray, List.set_cons_zero, List.set_cons_succ]
        refine wpAnyH_take (i := 18) (oi := _) (v := ?_) rfl (by kernel_rfl) (by kernel_rfl) (by kernel_rfl) (fun _ _ _ h => h) (Or.inl ⟨by rfl, ?_⟩) (by assumption) ?_
        rotate_left
        · (intro wS hSw; (try dsimp only at hSw); go_simp; try with_reducible rfl)
        try simp only [Act.put, List.setIfInBounds_toArray, List.set_cons_zero, List.set_cons_succ]
        refine wpAnyH_take (i := 19) (oi := _) (v := ?_) rfl (by kernel_rfl) (by kernel_rfl) (by kernel_rfl) (fun _ _ _ h => h) (Or.inl ⟨by rfl, ?_⟩) (by assumption) ?_
        rotate_left
        · (intro wS hSw; (try dsimp only at hSw); go_simp; try with_reducible rfl)
        try simp only [Act.put, List.setIfInBounds_toArray, List.set_cons_zero, List.set_cons_succ]
        refine wpAnyH_take (i := 20) (oi := _) (v := ?_) rfl (by kernel_rfl) (by kernel_rfl) (by kernel_rfl) (fun _ _ _ h => h) (Or.inl ⟨by rfl, ?_⟩) (by assumption) ?_
        rotate_left
        · (intro wS hSw; (try dsimp only at hSw); go_simp; try with_reducible rfl)
        try simp only [Act.put, List.setIfInBounds_toArray, List.set_cons_zero, List.set_cons_succ]
        refine wpAnyH_take (i := 21) (oi := _) (v := ?_) rfl (by kernel_rfl) (by kernel_rfl) (by kernel_rfl) (fun _ _ _ h => h) (Or.inl ⟨by rfl, ?_⟩) (by assumption) ?_
        rotate_left
        · (intro wS hSw; (try dsimp only at hSw); go_simp; try with_reducible rfl)
        try simp only [Act.put, List.setIfInBounds_toArray, List.set_cons_zero, List.set_cons_succ]
        refine wpAnyH_ready (rs := [22]) (by kernel_rfl) (by simp) ?_
        refine AllReadyH.cons (o := _) rfl (fun K hK => ?_) AllReadyH.nil
        go_simp
        refine hK.out _ _ ⟨(World.cell?_setCell_far _ _ _ _ hGB).trans hHeld.1, (World.cell?_setCell_far _ _ _ _ (show G ≠ Bx by omega)).trans hHeld.2.1, (World.cell?_setCell_far _ _ _ _ (show G ≠ Bx by omega)).trans hHeld.2.2⟩ (fun hHeld => ?_)
        clear hK K
        try simp only [Act.put, List.setIfInBounds_toArray, List.set_cons_zero, List.set_cons_succ]
        refine wpAnyH_take (i := 23) (oi := _) (v := ?_) rfl (by kernel_rfl) (by kernel_rfl) (by kernel_rfl) (fun _ _ _ h => h) (Or.inl ⟨by rfl, ?_⟩) (by assumption) ?_
        rotate_left
        · (intro wS hSw; (try dsimp only at hSw); go_simp; try with_reducible rfl)
        try simp only [Act.put, List.setIfInBounds_toArray, List.set_cons_zero, List.set_cons_succ]
        refine wpAnyH_ready (rs := [24]) (by kernel_rfl) (by simp) ?_
        refine AllReadyH.cons (o := _) rfl (fun K hK => ?_) AllReadyH.nil
        go_simp
        refine hK.out _ _ ⟨(World.cell?_setCell_far _ _ _ _ hGB).trans hHeld.1, (World.cell?_setCell_far _ _ _ _ (show G ≠ Bx by omega)).trans hHeld.2.1, (World.cell?_setCell_far _ _ _ _ (show G ≠ Bx by omega)).trans hHeld.2.2⟩ (fun hHeld => ?_)
        clear hK K
        try simp only [Act.put, List.setIfInBounds_toArray, List.set_cons_zero, List.set_cons_succ]
        refine wpAnyH_done (by kernel_rfl) ?_ _
        obtain ⟨r1, g1⟩ := hrow9.stored i (.int .u64 (sw1 m y1 y2))
        obtain ⟨r2, g2⟩ := r1.stored j (.int .u64 (pk m y1 y2))
        have hGB' : some w.heap.size ≠ some G := fun e => hGB (by cases e; rfl)
        have hGge : w.heap.size ≤ G := (hown3.lt G rfl).1
        have hsz9 := hO9.size
        refine ⟨(hO9.trans ((KeepsOthers.setCell _ _ _).trans (KeepsOthers.setCell _ _ _))).from _, ⟨(hB9.setCell (p := ⟨G, i, none⟩) hGge _).setCell (p := ⟨G, j, none⟩) hGge _, ?_⟩, ⟨⟨_, (hv9.kept g1 hGB').kept g2 hGB', ?_, rfl⟩, ((hB1.trans hB9).setCell (p := ⟨G, i, none⟩) hGge _).setCell (p := ⟨G, j, none⟩) hGge _, ?_⟩⟩
        · exact ((Below.heap_setCell _ _ _ _ (fun e => hGn e.symm)).trans (Below.heap_setCell _ _ _ _ (fun e => hGn e.symm))).trans (hE9 _)
        · rw [HSN.out, ← HST.out, List.map_set, List.map_set]
          exact r2
        · simp only [World.size_setCell]
          omega
  case done =>
    rintro D ys W hD hys ⟨⟨v, hv, hrow, rfl⟩, hB, hS1⟩ hK
    have hc := hv.cell
    gi_wp2
    refine ⟨by simp, .inl ⟨_, _, rfl, run_takeDeferred hK, ?_⟩⟩
    refine ⟨_, results_tmp2 rfl _ _ _, _, rfl, ?_, hB.trans (belowK_b (w := w) (Nat.le_refl _) W D _ _ (by omega) hK rfl rfl)⟩
    have := Sl1.of_owns (ownsRow_putObj hrow (.deferred none) hK rfl)
    rw [hys] at this
    unfold netOf
    rw [hN]
    exact this
end Go.Proofs.Ytngpaibppdehdaa
