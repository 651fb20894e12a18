/-
  Joined texts: NetPairs, Net, NetLen.
-/
import Derived.RangeFuncNested
import Derived.RangeFuncBound
import Derived.RangeFuncCalls
import Derived.RangeFuncLeaves
import Derived.Shelf.Abstract
import Derived.Shelf.RegionOpen
import Derived.WalkKit
import Derived.OwnWalkIn
import Derived.TacticsInMore
import Derived.LoopNIn
import Derived.LoopIn
import Derived.Maps.AppendAt
import Derived.Test.YthchfdobdghdoaaGreatHaj
import Derived.Test.YthchfdobdghdoaaGreatHam
import Derived.Test.YthchfdobdghdoaaGreatHad
import Derived.Test.YthchfdobdghdoaaGreatHak
import Derived.Test.YthchfdobdghdoaaGreatHae
set_option linter.unusedVariables false
set_option linter.unusedSimpArgs false
set_option linter.unusedSectionVars false
set_option linter.unnecessarySimpa false
section

/-
  The iterator of net.pairs, and slices.AppendSeq, slices.Collect over it, and net.Pairs.
-/
namespace Go.Proofs.YthchfdobdghdoaaGreat
open Go Go.RowKit Go.Shelf Go.Sg
attribute [local go_sem] Oper.semAt_some

def prV (p : Pr) : Value := .agg #[.int .i64 (p.1 : Int), .int .i64 (p.2.1 : Int), .bool p.2.2]

set_option maxRecDepth 100000 in
set_option maxHeartbeats 2000000 in
theorem pairs1_inK (F : Fence) (n : Nat) (hf : F.fn 99) (hro : F.round = none) (hn : 1 ≤ n) (l Bn : Nat) (Kp : World → World → Prop) (hKc : ∀ W W' : World, Kp W W' → W'.heap[Bn]? = W.heap[Bn]?) (t : Nat) (ht : t ≤ 10) (J Jx : List Pr → World → Prop)
    (hY : ∀ pre x W, J pre W → pre ++ [x] <+: netP (2 ^ t) t → YieldAt F (n - 1) Tryz.prog l #[prV x] W fun e W' =>
      (e = .returned (.bool true) ∧ J (pre ++ [x]) W' ∧ Kp W W') ∨ (e = .returned (.bool false) ∧ Jx (pre ++ [x]) W'))
    (W : World) (hBn : W.cell? ⟨Bn, 0, none⟩ = some (.int .i64 ((2 ^ t : Nat) : Int))) (h0 : J [] W) :
    CallsIn F n Tryz.prog 99 #[.func (.yield l) #[] #[], .pointer (some ⟨Bn, 0, none⟩)] W fun e W' => (∃ v, e = .returned v) ∧
      ((∃ ys, ys = netP (2 ^ t) t ∧ J ys W') ∨ (∃ pre, pre <+: netP (2 ^ t) t ∧ Jx pre W')) := by
  have hN1024 : 2 ^ t ≤ 1024 := Nat.le_trans (Nat.pow_le_pow_right (by omega) ht) (by decide)
  have hN0 := Nat.two_pow_pos t
  obtain ⟨N, hN⟩ : ∃ N, 2 ^ t = N := ⟨_, rfl⟩
  rw [hN] at hY hBn hN1024 hN0 ⊢
  refine callsIn_of_wp Tryz.func99 rfl hf ?_ hro
  simp only [Tryz.ntmps99, List.size_toArray, List.length_cons, List.length_nil, Nat.reduceAdd, Nat.reduceSub, Array.replicate_succ, Array.replicate_zero, List.push_toArray, List.append_toArray, List.nil_append, List.cons_append]
  gi_wp2
  gi_loopw [3] (fun v wr => ∃ r : Nat, r ≤ t ∧ v = .int .i64 ((2 ^ (r + 1) : Nat) : Int) ∧ J (netP N r) wr ∧ wr.cell? ⟨Bn, 0, none⟩ = some (.int .i64 (N : Int))) (fun v _ => 4096 - (intOf v).toNat)
  case atStart => exact ⟨0, by omega, rfl, h0, hBn⟩
  case round =>
    obtain ⟨r, hr, rfl, hJ, hc⟩ := hrel
    by_cases hrt : r < t
    · obtain ⟨K, hK⟩ : ∃ K, 2 ^ (r + 1) = K := ⟨_, rfl⟩
      have hKN : K ≤ N := by rw [← hK, ← hN]; exact Nat.pow_le_pow_right (by omega) (by omega)
      have hK2 : K / 2 = 2 ^ r := by rw [← hK, Nat.pow_succ]; omega
      have hKp : 0 < K := by rw [← hK]; exact Nat.two_pow_pos _
      have hKt : 2 ^ (r + 1 + 1) = 2 * K := by rw [Nat.pow_succ, hK]; omega
      rw [hK]
      gi_wp2
      gi_loopw [4] (fun v wr => ∃ (c : Nat) (pre : List Pr), c ≤ r + 1 ∧ v = .int .i64 ((2 ^ c / 2 : Nat) : Int) ∧ pre ++ mergeP N K c = netP N (r + 1) ∧ J pre wr ∧ wr.cell? ⟨Bn, 0, none⟩ = some (.int .i64 (N : Int))) (fun v _ => (intOf v).toNat)
      case atStart => exact ⟨r + 1, netP N r, by omega, by rw [hK]; go_num, by rw [← hK]; rfl, hJ, hc⟩
      case round =>
        obtain ⟨c, pre, hcr, rfl, hpre, hJ2, hc2⟩ := hrel
        cases c with
        | zero =>
          have hz : 2 ^ 0 / 2 = 0 := rfl
          rw [hz]
          have hpre' : pre = netP N (r + 1) := by rw [← hpre]; simp [mergeP]
          subst hpre'
          gi_wp2
          go_roundw
          case rel => exact ⟨r + 1, by omega, by rw [hKt]; go_num, hJ2, hc2⟩
          case measure => simp [intOf]; omega
        | succ c =>
          obtain ⟨j, hj⟩ : ∃ j, 2 ^ c = j := ⟨_, rfl⟩
          have hjp : 0 < j := by rw [← hj]; exact Nat.two_pow_pos _
          have hjK : j * 2 ≤ K := by rw [← hK, ← hj, ← Nat.pow_succ]; exact Nat.pow_le_pow_right (by omega) (by omega)
          have hj2 : 2 ^ (c + 1) / 2 = j := by rw [Nat.pow_succ, hj]; omega
          rw [hj2]
          gi_wp2
          gi_loopw [18] (fun v wr => ∃ m : Nat, m ≤ N ∧ v = .int .i64 (m : Int) ∧ J (pre ++ stageP K j m) wr ∧ wr.cell? ⟨Bn, 0, none⟩ = some (.int .i64 (N : Int))) (fun v _ => N - (intOf v).toNat)
          case atStart => exact ⟨0, by omega, by go_num, by simpa [stageP] using hJ2, hc2⟩
          case round =>
            obtain ⟨m, hm, rfl, hJ3, hc3⟩ := hrel
            by_cases hmN : m < N
            · have hA := and_test m c (by omega) (by omega)
              have hA2 := and_test m (r + 1) (by omega) (by omega)
              rw [hj] at hA
              rw [hK] at hA2
              by_cases hg : m / j % 2 = 0
              · rw [decide_eq_true hg] at hA
                have hO := or_test m c (by omega) (by omega) (by rw [hj]; exact hg)
                rw [hj, show ((m + j : Nat) : Int) = (m : Int) + (j : Int) by omega] at hO
                have hst : stageP K j (m + 1) = stageP K j m ++ [(m, m + j, decide (m / K % 2 = 0))] := by simp [stageP, hg]
                have hpx : (pre ++ stageP K j m) ++ [(m, m + j, decide (m / K % 2 = 0))] <+: netP N t := by
                  refine List.IsPrefix.trans ?_ (netP_pre N (show r + 1 ≤ t by omega))
                  rw [← hpre, List.append_assoc, ← hst]
                  refine (List.prefix_append_right_inj pre).2 ?_
                  exact (stageP_pre K j (show m + 1 ≤ N by omega)).trans (by rw [← hj]; exact List.prefix_append _ _)
                obtain ⟨fn, tmps, assign, body, hy, hR⟩ := hY (pre ++ stageP K j m) (m, m + j, decide (m / K % 2 = 0)) wr hJ3 hpx
                dsimp only [prV] at hy
                rw [show ((m + j : Nat) : Int) = (m : Int) + (j : Int) by omega] at hy
                gi_wp2
                refine hR.mono ?_
                rintro e W3 (⟨rfl, hJ4, hk4⟩ | ⟨rfl, hJx4⟩)
                · have hc4 : W3.cell? ⟨Bn, 0, none⟩ = some (.int .i64 (N : Int)) := (World.cell?_of_block (w := wr) (hKc _ _ hk4)).trans hc3
                  gi_wp2
                  go_roundw
                  case rel => exact ⟨m + 1, by omega, by go_num, by rw [hst, ← List.append_assoc]; exact hJ4, hc4⟩
                  case measure => simp [intOf]; omega
                · gi_wp2
                  refine bodyPost_ret (results_none rfl _ _ _) rfl ?_
                  exact ⟨⟨_, rfl⟩, .inr ⟨_, hpx, hJx4⟩⟩
              · rw [decide_eq_false hg] at hA
                have hst : stageP K j (m + 1) = stageP K j m := by simp [stageP, hg]
                gi_wp2
                refine ⟨fun _ h => (by cases h), ?_⟩
                gi_wp2
                go_roundw
                case rel => exact ⟨m + 1, by omega, by go_num, by rw [hst]; exact hJ3, hc3⟩
                case measure => simp [intOf]; omega
            · obtain rfl : m = N := by omega
              gi_wp2
              go_roundw
              case rel => exact ⟨c, pre ++ stageP K j m, by omega, by go_num, by rw [← hpre, ← hj]; simp [mergeP], hJ3, hc3⟩
              case measure => simp [intOf]; omega
    · obtain rfl : r = t := by omega
      have h2 : 2 ^ (r + 1) = 2 * N := by rw [Nat.pow_succ, hN]; omega
      rw [h2]
      gi_wp2
      go_end0
      exact ⟨⟨_, rfl⟩, .inl ⟨_, rfl, hJ⟩⟩

theorem pairs_stopsK (F : Fence) (n : Nat) (hf : F.fn 99) (hro : F.round = none) (hn : 1 ≤ n) (Bn : Nat) (Kp : World → World → Prop) (hKc : ∀ W W' : World, Kp W W' → W'.heap[Bn]? = W.heap[Bn]?) (t : Nat) (ht : t ≤ 10) (w : World) (hw : ∀ W, Below w.heap.size w W → W.heap[Bn]? = w.heap[Bn]?)
    (hc : w.cell? ⟨Bn, 0, none⟩ = some (.int .i64 ((2 ^ t : Nat) : Int))) :
    SeqStopsK F n Tryz.prog 99 #[.pointer (some ⟨Bn, 0, none⟩)] (fun x : Pr => #[prV x]) Kp (fun ys => ys = netP (2 ^ t) t) (fun pre => pre <+: netP (2 ^ t) t) (netP (2 ^ t) t).length w := fun l J Jx W hW _ _ hY h0 =>
  pairs1_inK F n hf hro hn l Bn Kp hKc t ht J Jx (fun pre x W1 hj hp => hY pre x W1 hj (by have := hp.length_le; simp at this; omega)) W ((World.cell?_of_block (w := w) (hw W hW)).trans hc) h0

/-- pairs of a network of n places -/
abbrev PrIn (n : Nat) := { p : Pr // p.1 < p.2.1 ∧ p.2.1 < n }
theorem pairs_stops (F : Fence) (n : Nat) (hf : F.fn 99) (hro : F.round = none) (hn : 1 ≤ n) (Bn n₀ : Nat) (hBn0 : Bn < n₀) (t : Nat) (ht : t ≤ 10) (w : World) (hn₀ : n₀ ≤ w.heap.size)
    (hc : w.cell? ⟨Bn, 0, none⟩ = some (.int .i64 ((2 ^ t : Nat) : Int))) :
    SeqStopsK F n Tryz.prog 99 #[.pointer (some ⟨Bn, 0, none⟩)] (fun x : Pr => #[prV x]) (Below n₀) (fun ys => ys = netP (2 ^ t) t) (fun pre => pre <+: netP (2 ^ t) t) (netP (2 ^ t) t).length w :=
  pairs_stopsK F n hf hro hn Bn (Below n₀) (fun _ _ h => h.block Bn hBn0) t ht w (fun _ h => h.block Bn (Nat.lt_of_lt_of_le hBn0 hn₀)) hc

set_option maxHeartbeats 1000000 in
theorem pairs_in (F : Fence) (n : Nat) (hf : F.fn 85) (hro : F.round = none) (N : Int) (w : World) :
    CallsIn F n Tryz.prog 85 #[.int .i64 N] w fun e w' => e = .returned (.func (.func 99) #[] #[.pointer (some ⟨w.heap.size, 0, none⟩)]) ∧ w' = w.alloc (.cells #[.int .i64 N] 3) := by
  refine callsIn_of_wp Tryz.func85 rfl hf ?_ hro
  simp only [Tryz.ntmps85, List.size_toArray, List.length_cons, List.length_nil, Nat.reduceAdd, Nat.reduceSub, Array.replicate_succ, Array.replicate_zero, List.push_toArray, List.append_toArray, List.nil_append, List.cons_append]
  gi_wp2
  go_ret
  exact ⟨rfl, rfl⟩

def prc (x : Pr) : List Value := [.int .i64 (x.1 : Int), .int .i64 (x.2.1 : Int), .bool x.2.2]
def prsV (l : List Pr) : List Value := l.flatMap prc
theorem prsV_snoc (l : List Pr) (x : Pr) : prsV (l ++ [x]) = prsV l ++ prc x := by simp [prsV]
theorem ownsRow_base {w : World} {b b' : Nat} {e : TypeId} {size : Nat} {v : Value} {k : Nat} {xs : List Value} (h : w.ownsRow b e size v k xs) (hb : b' ≤ b) : w.ownsRow b' e size v k xs := by
  refine ⟨h.1, ?_⟩
  rcases h.2 with h | ⟨g, cap, cur, h1, h2, h3⟩
  · exact .inl h
  · exact .inr ⟨g, cap, cur, h1, Nat.le_trans hb h2, h3⟩
theorem info_pair : (Tryz.prog.info? 123).map (fun i => (i.zero, i.size, i.bytes)) = some (some (.agg #[.int .i64 0, .int .i64 0, .bool false]), 3, 24) := by kernel_rfl
theorem pair_cells (w : World) (x : Pr) (t : TypeId) : ∀ j u, (prc x)[j]? = some u → (w.alloc (.cells (prc x).toArray t)).cell? ((⟨w.heap.size, 0, none⟩ : Addr).add j) = some u := by
  intro j u hu
  rw [addr_add, Nat.zero_add, cell_of_row _ _ _ _ _ (0, 0) (heap_alloc_new w _), List.getElem?_toArray]
  exact hu
theorem blk_own {β : Type} (B : Nat) (t : TypeId) (f : β → Array Value) : Own (fun (s : β) W => Blk W B (f s) t) := by
  rintro s X Y row h hg hrow
  refine (hg.block B h.lt (fun e' => ?_)).trans h
  obtain ⟨o, ho, hc⟩ := hrow B e'.symm
  rw [show X.heap[B]? = _ from h] at ho; cases ho; cases hc

set_option maxRecDepth 100000 in
set_option maxHeartbeats 4000000 in
theorem appendSeq_in (F : Fence) (n : Nat) (hf : F.fn 98) (hg : F.fn 99) (hro : F.round = none) (hn : 3 ≤ n) (t : Nat) (ht : t ≤ 10) (Bn : Nat) (w : World) (hBn : Bn < w.heap.size)
    (hcN : w.cell? ⟨Bn, 0, none⟩ = some (.int .i64 ((2 ^ t : Nat) : Int))) :
    CallsIn F n Tryz.prog 98 #[.slice none 0 0, .func (.func 99) #[] #[.pointer (some ⟨Bn, 0, none⟩)]] w fun e W' =>
      ∃ v, e = .returned v ∧ W'.ownsRow w.heap.size 123 3 v (netP (2 ^ t) t).length (prsV (netP (2 ^ t) t)) ∧ Below w.heap.size w W' := by
  have h1 : 1 ≤ n := by omega
  have hlenN : (netP (2 ^ t) t).length ≤ 112640 := by
    refine Nat.le_trans (netP_length (2 ^ t) t) ?_
    have h2 : 2 ^ t ≤ 1024 := Nat.le_trans (Nat.pow_le_pow_right (by omega) ht) (by decide)
    have h3 : t * (t + 1) ≤ 110 := Nat.mul_le_mul ht (show t + 1 ≤ 11 by omega)
    exact Nat.mul_le_mul h2 h3
  obtain ⟨i0, hi, hz0, hz1, hz2⟩ := info_parts info_pair
  refine callsIn_of_wp_marks Tryz.func98 rfl hf ?_ hro
  simp only [Tryz.ntmps98, List.size_toArray, List.length_cons, List.length_nil, Nat.reduceAdd, Nat.reduceSub, Array.replicate_succ, Array.replicate_zero, List.push_toArray, List.append_toArray, List.nil_append, List.cons_append]
  gi_wp2
  have bO := Boxed.new w 120 (.slice none 0 0)
  have hB0 : Below w.heap.size w (w.alloc (.cells #[.slice none 0 0] 120)) := (Below.refl _ w).alloc (Nat.le_refl _) _
  have hsz : (w.alloc (.cells #[.slice none 0 0] 120)).heap.size = w.heap.size + 1 := by simp
  have hcN' := (hB0.cell (p := ⟨Bn, 0, none⟩) hBn).trans hcN
  obtain ⟨W0, hW0⟩ : ∃ W0, w.alloc (.cells #[.slice none 0 0] 120) = W0 := ⟨_, rfl⟩
  rw [hW0] at bO hB0 hsz hcN' ⊢
  clear hW0
  have b0 : W0.ownsRow w.heap.size 123 3 (.slice none 0 0) 0 [] := World.ownsRow_nil _ _ _ _
  refine wpIn_rangeFunc_ownH hro h1 (gf := 99) (lb := #[.pointer (some ⟨Bn, 0, none⟩)]) rfl hg (enters_of Tryz.func99 (by kernel_rfl) rfl)
    (pairs_stops F (n - 1) hg hro (by omega) Bn w.heap.size hBn t ht W0 (by omega) hcN') belowK_t (belowK_b (by omega)) (Below.refl _ _) (fun _ => rfl)
    (fun pre W => (∃ v, Boxed W w.heap.size 120 v ∧ W.ownsRow w.heap.size 123 3 v pre.length (prsV pre) ∧ True) ∧ Below w.heap.size w W)
    (fun _ _ _ => False)
    (OwnFrom.and (Own.from (holdsRow_own w.heap.size w.heap.size 120 123 3 (fun pre : List Pr => pre.length) prsV (fun _ _ => True)) _) (ownFrom_below (Nat.le_refl _) (by omega)))
    (fun _ _ _ _ _ hs _ _ => hs)
    ⟨⟨_, bO, b0, trivial⟩, hB0⟩
    (fun x a' W => ∃ Bx, w.heap.size < Bx ∧ Blk W Bx (prc x).toArray 123 ∧ a' = { tmps := #[.slice none 0 0, .func (.func 99) #[] #[.pointer (some ⟨Bn, 0, none⟩)], .pointer (some ⟨w.heap.size, 0, none⟩), undef, .slice none 0 0, .pointer (some ⟨Bx, 0, none⟩), .func (.func 99) #[] #[.pointer (some ⟨Bn, 0, none⟩)], prV x, undef, undef, undef, undef, undef], defers := [] })
    (fun x a' _ X Y row hs hg hr => by obtain ⟨Bx, h1, h2, h3⟩ := hs; exact ⟨Bx, h1, blk_own Bx _ (fun (_ : Unit) => (prc x).toArray) () X Y row h2 hg (fun r e => (hr r e).2), h3⟩)
    ?assign ?body ?done ?stop
  case assign =>
    rintro l pre x W K ⟨⟨v, hv, hrow, _⟩, hB1⟩ hK
    dsimp only [prV]
    gi_wp2
    exact hK _ _ ((KeepsOthers.alloc _ _).from _) ((Below.refl _ W).alloc hB1.size _) ⟨⟨v, hv.alloc _, hrow.alloc _, trivial⟩, hB1.alloc hB1.size _⟩ ⟨W.heap.size, hv.lt, Blk.new W _ _, rfl⟩
  case body =>
    rintro l pre x a' W hl ⟨r, hr⟩ ⟨⟨v, hv, hrow, _⟩, hB1⟩ ⟨Bx, hBx, bX, rfl⟩ hlt
    have hc := hv.cell
    have c0 : W.cell? ⟨Bx, 0, none⟩ = some (.int .i64 (x.1 : Int)) := bX.cell 0
    have c1 : W.cell? ⟨Bx, 1, none⟩ = some (.int .i64 (x.2.1 : Int)) := bX.cell 1
    have c2 : W.cell? ⟨Bx, 2, none⟩ = some (.bool x.2.2) := bX.cell 2
    have hone : ∀ u ∈ prc x, u.oneCell' = true := by simp [prc, Value.oneCell']
    gi_wp2_with (gi_at_builtin; refine wpListIn_append_own _ rfl _ _ 120 rfl w.heap.size 123 i0 (.agg #[.int .i64 0, .int .i64 0, .bool false]) 3 24 Tryz.underlying120 hi hz0 hz1 hz2 rfl (by decide) _ _ _ rfl (hrow.alloc _) ⟨W.heap.size, 0, none⟩ 1 1 (prc x) rfl rfl (pair_cells W x _) hone (by unfold maxLen; omega) (by omega) (by have := hB1.size; simp; omega) ?_; intro v' w1 hown' hgrow _; obtain ⟨g', cap', rfl⟩ := ownsRow_succ hown'; obtain ⟨hv1, hv2, hr2, hk2, hb2⟩ := hv.appended (by decide) hrow hB1.size (Nat.le_refl _) hown' hgrow; have hc1 := hv1.cell; have hf1 := hv1.frozen)
    exact ⟨hk2.from _, hb2, ⟨_, hv2, by rw [prsV_snoc]; simpa using hr2, trivial⟩, hB1.trans hb2⟩
  case done =>
    rintro D ys W hD rfl ⟨⟨v, hv, hrow, _⟩, hB⟩ hK
    have hc := hv.cell
    gi_wp2
    refine ⟨by simp, .inl ⟨_, _, rfl, run_takeDeferred hK, ?_⟩⟩
    exact ⟨_, results_tmp rfl _ _ _, v, rfl, ownsRow_putObj hrow _ hK rfl, hB.trans (belowK_b (w := w) (Nat.le_refl _) W D _ _ (by omega) hK rfl rfl)⟩
  case stop =>
    rintro D c pre W _ _ h _
    exact h.elim

set_option maxRecDepth 100000 in
set_option maxHeartbeats 1000000 in
theorem collect_in (F : Fence) (n : Nat) (hc : F.fn 84) (hf : F.fn 98) (hg : F.fn 99) (hro : F.round = none) (hn : 4 ≤ n) (t : Nat) (ht : t ≤ 10) (Bn : Nat) (w : World) (hBn : Bn < w.heap.size)
    (hcN : w.cell? ⟨Bn, 0, none⟩ = some (.int .i64 ((2 ^ t : Nat) : Int))) :
    CallsIn F n Tryz.prog 84 #[.func (.func 99) #[] #[.pointer (some ⟨Bn, 0, none⟩)]] w fun e W' =>
      ∃ v, e = .returned v ∧ W'.ownsRow w.heap.size 123 3 v (netP (2 ^ t) t).length (prsV (netP (2 ^ t) t)) ∧ Below w.heap.size w W' := by
  have h1 : 1 ≤ n := by omega
  have K := Lib.hid (appendSeq_in F (n - 1) hf hg hro (by omega) t ht Bn w hBn hcN)
  clear hcN
  refine callsIn_of_wp Tryz.func84 rfl hc ?_ hro
  simp only [Tryz.ntmps84, List.size_toArray, List.length_cons, List.length_nil, Nat.reduceAdd, Nat.reduceSub, Array.replicate_succ, Array.replicate_zero, List.push_toArray, List.append_toArray, List.nil_append, List.cons_append]
  gi_wp2_with (gi_at_call 98; refine K.out.mono ?_; rintro e w' ⟨v, rfl, h1, h2⟩)
  go_ret
  exact ⟨v, rfl, h1, h2⟩
end Go.Proofs.YthchfdobdghdoaaGreat
end
section

/-
  The walks of net.Right, net.Pairs, net.Count.
-/
namespace Go.Proofs.YthchfdobdghdoaaGreat
open Go Go.RowKit Go.Sg

theorem netRight_any (n : Int) (w : World) : Calls Tryz.prog 83 #[.int .i64 n] w fun e w' => e = .returned (.bool (rightB n)) ∧ w' = w := by
  by_cases h0 : 1 ≤ n
  · have d0 : decide (1 ≤ n) = true := decide_eq_true h0
    by_cases h1 : n ≤ 1024
    · have d1 : decide (n ≤ 1024) = true := decide_eq_true h1
      have HB := Lib.hid (right_bits h0 h1)
      go_enter Tryz.func83, Tryz.ntmps83
      go_wp2
      go_ret
      exact ⟨by rw [← HB.out]; rfl, rfl⟩
    · have d1 : decide (n ≤ 1024) = false := decide_eq_false h1
      have HB : Hid (rightB n = false) := Lib.hid (by
        cases h : rightB n with
        | true => exact absurd (rightB_bd h).2 h1
        | false => rfl)
      go_enter Tryz.func83, Tryz.ntmps83
      go_wp2
      go_ret
      exact ⟨by rw [HB.out]; rfl, rfl⟩
  · have d0 : decide (1 ≤ n) = false := decide_eq_false h0
    have HB : Hid (rightB n = false) := Lib.hid (by
      cases h : rightB n with
      | true => exact absurd (rightB_bd h).1 h0
      | false => rfl)
    go_enter Tryz.func83, Tryz.ntmps83
    go_wp2
    go_ret
    exact ⟨by rw [HB.out]; rfl, rfl⟩

theorem netPairs_no (n : Int) (hn : rightB n = false) (w : World) : Calls Tryz.prog 69 #[.int .i64 n] w fun e w' => e = .returned (.slice none 0 0) ∧ w' = w := by
  have K := Lib.hid (netRight_any n w)
  rw [hn] at K
  go_enter Tryz.func69, Tryz.ntmps69
  go_wp2_with (go_at_call 83; refine K.out.mono ?_; rintro e w' ⟨rfl, rfl⟩)
  go_ret
  exact ⟨rfl, rfl⟩

set_option maxRecDepth 100000 in
theorem netPairs_yes (t : Nat) (ht : t ≤ 10) (w : World) : Calls Tryz.prog 69 #[.int .i64 ((2 ^ t : Nat) : Int)] w fun e w' =>
    ∃ v, e = .returned v ∧ w'.ownsRow w.heap.size 123 3 v (netP (2 ^ t) t).length (prsV (netP (2 ^ t) t)) ∧ Below w.heap.size w w' := by
  have hr : rightB ((2 ^ t : Nat) : Int) = true := by
    have := rightB_pow t ht
    rwa [show ((2 ^ t : Nat) : Int) = (2 : Int) ^ t by simp]
  have K := Lib.hid (netRight_any ((2 ^ t : Nat) : Int) w)
  rw [hr] at K
  have KP := Lib.hid ((callsIn_wide (n := 6)).1 (pairs_in Fence.wide 6 trivial rfl ((2 ^ t : Nat) : Int) w))
  have hb1 : Below w.heap.size w (w.alloc (.cells #[.int .i64 ((2 ^ t : Nat) : Int)] 3)) := (Below.refl _ _).alloc (Nat.le_refl _) _
  have KC := Lib.hid ((callsIn_wide (n := 6)).1 (collect_in Fence.wide 6 trivial trivial trivial rfl (by omega) t ht w.heap.size (w.alloc (.cells #[.int .i64 ((2 ^ t : Nat) : Int)] 3)) (by simp) (Blk.new w _ _ |>.cell 0)))
  have HB1 := Lib.hid hb1
  clear hb1 hr
  generalize ((2 ^ t : Nat) : Int) = N at *
  generalize netP (2 ^ t) t = ps at *
  go_enter Tryz.func69, Tryz.ntmps69
  go_wp2_with (first
    | (go_at_call 83; refine K.out.mono ?_; rintro e w' ⟨rfl, rfl⟩)
    | (go_at_call 85; refine KP.out.mono ?_; rintro e w' ⟨rfl, rfl⟩)
    | (go_at_call 84; refine KC.out.mono ?_; rintro e w' ⟨v, rfl, h1, h2⟩))
  go_ret
  exact ⟨v, rfl, ownsRow_base h1 (by simp), HB1.out.trans (h2.mono HB1.out.size)⟩

def cntI (t : Nat) : Nat := 2 ^ t * t * (t + 1) / 4
end Go.Proofs.YthchfdobdghdoaaGreat
end
section

/-
  How many pairs a network has.
-/
namespace Go.Sg
open Go
def lenS (j : Nat) : Nat → Nat
  | 0 => 0
  | m + 1 => lenS j m + (if m / j % 2 = 0 then 1 else 0)
def lenM (n : Nat) : Nat → Nat
  | 0 => 0
  | s + 1 => lenS (2 ^ s) n + lenM n s
def lenT (n : Nat) : Nat → Nat
  | 0 => 0
  | r + 1 => lenT n r + lenM n (r + 1)
theorem stageP_len (k j : Nat) : ∀ m, (stageP k j m).length = lenS j m
  | 0 => rfl
  | m + 1 => by
    simp only [stageP, lenS, List.length_append, stageP_len k j m]
    split <;> rfl
theorem mergeP_len (n k : Nat) : ∀ s, (mergeP n k s).length = lenM n s
  | 0 => rfl
  | s + 1 => by simp only [mergeP, lenM, List.length_append, mergeP_len n k s, stageP_len]
theorem netP_len (n : Nat) : ∀ r, (netP n r).length = lenT n r
  | 0 => rfl
  | r + 1 => by simp only [netP, lenT, List.length_append, mergeP_len, netP_len n r]
/-- a stage's pairs are half as many as the places -/
theorem lenS_block (j : Nat) (hj : 0 < j) (c : Nat) : ∀ x, x ≤ 2 * j → lenS j (2 * j * c + x) = lenS j (2 * j * c) + min x j
  | 0, _ => by simp
  | x + 1, h => by
    have ih := lenS_block j hj c x (by omega)
    have e : (2 * j * c + x) / j = 2 * c + x / j := by
      rw [show 2 * j * c + x = j * (2 * c) + x by rw [Nat.mul_comm 2 j, Nat.mul_assoc], Nat.mul_add_div hj]
    show lenS j (2 * j * c + x) + (if (2 * j * c + x) / j % 2 = 0 then 1 else 0) = _
    rw [ih, e]
    by_cases hx : x < j
    · rw [Nat.div_eq_of_lt hx, if_pos (by omega)]; omega
    · have : x / j = 1 := by
        apply Nat.div_eq_of_lt_le <;> omega
      rw [this, if_neg (by omega)]; omega
theorem lenS_full (j : Nat) (hj : 0 < j) : ∀ c, lenS j (2 * j * c) = j * c
  | 0 => by simp [lenS]
  | c + 1 => by
    have h := lenS_block j hj c (2 * j) (Nat.le_refl _)
    rw [show 2 * j * (c + 1) = 2 * j * c + 2 * j from Nat.mul_succ .., h, lenS_full j hj c, Nat.mul_succ]
    omega
theorem lenS_pow {t s : Nat} (h : s < t) : lenS (2 ^ s) (2 ^ t) = 2 ^ (t - 1) := by
  obtain ⟨d, rfl⟩ := Nat.le.dest h
  have e : 2 ^ (s.succ + d) = 2 * 2 ^ s * 2 ^ d := by rw [Nat.succ_eq_add_one, Nat.pow_add, Nat.pow_succ, Nat.mul_comm (2 ^ s) 2]
  rw [e, lenS_full _ (Nat.two_pow_pos s), ← Nat.pow_add]
  congr 1
  omega
theorem lenM_pow {t : Nat} : ∀ s, s ≤ t → lenM (2 ^ t) s = 2 ^ (t - 1) * s
  | 0, _ => rfl
  | s + 1, h => by
    show lenS (2 ^ s) (2 ^ t) + lenM (2 ^ t) s = _
    rw [lenS_pow (by omega), lenM_pow s (by omega), Nat.mul_succ]
    omega
theorem lenT_pow {t : Nat} : ∀ r, r ≤ t → 2 * lenT (2 ^ t) r = 2 ^ (t - 1) * (r * (r + 1))
  | 0, _ => rfl
  | r + 1, h => by
    have ih := lenT_pow (t := t) r (by omega)
    show 2 * (lenT (2 ^ t) r + lenM (2 ^ t) (r + 1)) = _
    rw [lenM_pow (r + 1) h, Nat.mul_add 2, ih]
    have : (r + 1) * (r + 1 + 1) = r * (r + 1) + 2 * (r + 1) := by rw [Nat.mul_comm (r + 1) (r + 1 + 1), ← Nat.add_mul]
    rw [this]
    generalize 2 ^ (t - 1) = q
    rw [Nat.mul_add q (r * (r + 1)), Nat.mul_left_comm q 2]
end Go.Sg
namespace Go.Proofs.YthchfdobdghdoaaGreat
open Go Go.Sg
theorem netP_cnt (t : Nat) (ht : t ≤ 10) : (netP (2 ^ t) t).length = cntI t := by
  rw [netP_len]
  have h := lenT_pow (t := t) t (Nat.le_refl _)
  have h2 : ∀ t : Fin 11, 2 * cntI t.val = 2 ^ (t.val - 1) * (t.val * (t.val + 1)) := by decide +kernel
  have h3 := h2 ⟨t, by omega⟩
  simp only at h3
  omega
end Go.Proofs.YthchfdobdghdoaaGreat
end
