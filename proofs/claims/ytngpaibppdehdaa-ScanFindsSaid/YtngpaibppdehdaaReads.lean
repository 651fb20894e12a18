/-
  The walks of Reads, Writes: of scan and of shellgameref7.
-/
import Derived.Test.YtngpaibppdehdaaScanL
import Derived.Test.YtngpaibppdehdaaOne
import Derived.Test.YtngpaibppdehdaaCells
import Derived.Test.YtngpaibppdehdaaEvEq
import Derived.Test.YtngpaibppdehdaaShown3
import Derived.Deep.DeepCutAuto
namespace Go.Sg
open Go Go.RowKit
theorem evs2_cells (w : World) (es : List Ev) (t : TypeId) : ∀ j u, (evsV es)[j]? = some u → (w.alloc (.cells (evsV es).toArray t)).cell? ((⟨w.heap.size, 0, none⟩ : Addr).add j) = some u := by
  intro j u hu
  rw [addr_add, Nat.zero_add, cell_of_row _ _ _ _ _ (0, 0) (heap_alloc_new w _), List.getElem?_toArray]
  exact hu
theorem readsL_get (r : Int) (n k : Nat) (h : k < n) : (readsL r n)[k]'(by rw [readsL_len]; exact h) = (r, (k : Int), false) := by simp [readsL]
end Go.Sg
namespace Go.Proofs.Ytngpaibppdehdaa
open Go.RowKit Go.Sg

set_option maxRecDepth 100000 in
theorem scanReads_any (r : Int) (n : Nat) (hn : n ≤ 1099511627776) (w : World) :
    Calls Try.prog 63 #[.int .i64 r, .int .i64 n] w (RetE (readsL r n) w) := by
  obtain ⟨i0, hi0, hz0, hz1, hz2⟩ := info_parts info_event
  have HI := Lib.hid hi0
  have HZ := Lib.hid hz0
  have HS := Lib.hid hz1
  have HY := Lib.hid hz2
  clear hi0 hz0 hz1 hz2
  go_enter Try.func63, Try.ntmps63
  go_wp2_with fail
  go_loopw [5, 8] (fun sv i wr => ∃ k : Nat, k ≤ n ∧ i = .int .i64 k ∧ Hid (wr.ownsRow w.heap.size 52 3 sv k (evsV (readsL r k))) ∧ Hid (Below w.heap.size w wr)) (fun _ i _ => n - (intOf i).toNat)
  case atStart => exact ⟨0, by omega, rfl, Lib.hid (World.ownsRow_nil _ _ _ _), Lib.hid (Below.refl _ _)⟩
  case round =>
    obtain ⟨k, hk, rfl, HO, HB⟩ := hrel
    by_cases hlt : k < n
    · go_wp2_with (first
        | (at_builtin; go_loud (refine wpList_append_own_at _ rfl (.tmp 11) (.tmp 15) 48 rfl w.heap.size 52 i0 (.agg #[.int .i64 0, .int .i64 0, .bool false]) 3 24 Try.underlying48 HI.out HZ.out HS.out HY.out rfl (by decide) _ k (evsV (readsL r k)) rfl (HO.out.alloc _) ⟨wr.heap.size, 0, none⟩ 1 1 (evV (r, (k : Int), false)) rfl rfl (event_cells _ _ _) (evsV_one [(r, (k : Int), false)]) (by unfold maxLen; omega) (by omega) (by have := HB.out.size; simp; omega) ?_))
        | fail)
      intro v' w4 hown hgrow _ _
      have HO4 := Lib.hid hown
      have HB4 : Hid (Below w.heap.size w w4) := Lib.hid ((HB.out.alloc HB.out.size _).grown hgrow (by have := HB.out.size; simp; omega) (fun j hj => (HO.out.lt j hj).1))
      clear hown hgrow
      go_wp2
      go_roundw
      case rel => exact ⟨k + 1, by omega, by go_num, Lib.hid (by rw [readsL_succ, evsV_snoc]; exact HO4.out), HB4⟩
      case measure => simp [intOf]; omega
    · obtain rfl : k = n := by omega
      go_wp2
      go_ret
      exact ⟨_, rfl, SlE.of_owns (by rw [readsL_len]; exact HO.out), HB.out, owns_ge HO.out⟩

set_option maxRecDepth 100000 in
theorem refReads_any (r : Int) (n : Nat) (hn : n ≤ 1099511627776) (w : World) :
    Calls Try.prog 68 #[.int .i64 r, .int .i64 n] w (RetE (readsL r n) w) := by
  obtain ⟨i0, hi0, hz0, hz1, hz2⟩ := info_parts info_event
  have HI := Lib.hid hi0
  have HZ := Lib.hid hz0
  have HS := Lib.hid hz1
  have HY := Lib.hid hz2
  clear hi0 hz0 hz1 hz2
  go_enter Try.func68, Try.ntmps68
  go_wp2_with fail
  go_loopw [5, 6] (fun sv i wr => ∃ k : Nat, k ≤ n ∧ i = .int .i64 k ∧ Hid (wr.ownsRow w.heap.size 52 3 sv k (evsV (readsL r k))) ∧ Hid (Below w.heap.size w wr)) (fun _ i _ => n - (intOf i).toNat)
  case atStart => exact ⟨0, by omega, rfl, Lib.hid (World.ownsRow_nil _ _ _ _), Lib.hid (Below.refl _ _)⟩
  case round =>
    obtain ⟨k, hk, rfl, HO, HB⟩ := hrel
    by_cases hlt : k < n
    · go_wp2_with (first
        | (at_builtin; go_loud (refine wpList_append_own_at _ rfl (.tmp 12) (.tmp 16) 48 rfl w.heap.size 52 i0 (.agg #[.int .i64 0, .int .i64 0, .bool false]) 3 24 Try.underlying48 HI.out HZ.out HS.out HY.out rfl (by decide) _ k (evsV (readsL r k)) rfl (HO.out.alloc _) ⟨wr.heap.size, 0, none⟩ 1 1 (evV (r, (k : Int), false)) rfl rfl (event_cells _ _ _) (evsV_one [(r, (k : Int), false)]) (by unfold maxLen; omega) (by omega) (by have := HB.out.size; simp; omega) ?_))
        | fail)
      intro v' w4 hown hgrow _ _
      have HO4 := Lib.hid hown
      have HB4 : Hid (Below w.heap.size w w4) := Lib.hid ((HB.out.alloc HB.out.size _).grown hgrow (by have := HB.out.size; simp; omega) (fun j hj => (HO.out.lt j hj).1))
      clear hown hgrow
      go_wp2
      go_roundw
      case rel => exact ⟨k + 1, by omega, by go_num, Lib.hid (by rw [readsL_succ, evsV_snoc]; exact HO4.out), HB4⟩
      case measure => simp [intOf]; omega
    · obtain rfl : k = n := by omega
      go_wp2
      go_ret
      exact ⟨_, rfl, SlE.of_owns (by rw [readsL_len]; exact HO.out), HB.out, owns_ge HO.out⟩

set_option maxRecDepth 100000 in
theorem refWrites_any (r : Int) (n : Nat) (hn : n ≤ 549755813888) (w : World) :
    Calls Try.prog 69 #[.int .i64 r, .int .i64 n] w (RetE (writesL r n) w) := by
  obtain ⟨i0, hi0, hz0, hz1, hz2⟩ := info_parts info_event
  have HI := Lib.hid hi0
  have HZ := Lib.hid hz0
  have HS := Lib.hid hz1
  have HY := Lib.hid hz2
  clear hi0 hz0 hz1 hz2
  go_enter Try.func69, Try.ntmps69
  go_wp2_with fail
  go_loopw [5, 6] (fun sv i wr => ∃ k : Nat, k ≤ n ∧ i = .int .i64 k ∧ Hid (wr.ownsRow w.heap.size 52 3 sv (2 * k) (evsV (writesL r k))) ∧ Hid (Below w.heap.size w wr)) (fun _ i _ => n - (intOf i).toNat)
  case atStart => exact ⟨0, by omega, rfl, Lib.hid (World.ownsRow_nil _ _ _ _), Lib.hid (Below.refl _ _)⟩
  case round =>
    obtain ⟨k, hk, rfl, HO, HB⟩ := hrel
    by_cases hlt : k < n
    · go_wp2_with (first
        | (at_builtin; go_loud (refine wpList_append_own_at _ rfl (.tmp 12) (.tmp 19) 48 rfl w.heap.size 52 i0 (.agg #[.int .i64 0, .int .i64 0, .bool false]) 3 24 Try.underlying48 HI.out HZ.out HS.out HY.out rfl (by decide) _ (2 * k) (evsV (writesL r k)) rfl (HO.out.alloc _) ⟨wr.heap.size, 0, none⟩ 2 2 (evsV [(r, (k : Int), false), (r, (k : Int), true)]) rfl rfl (evs2_cells _ _ _) (evsV_one [(r, (k : Int), false), (r, (k : Int), true)]) (by unfold maxLen; omega) (by omega) (by have := HB.out.size; simp; omega) ?_))
        | fail)
      intro v' w4 hown hgrow _ _
      have HO4 := Lib.hid hown
      have HB4 : Hid (Below w.heap.size w w4) := Lib.hid ((HB.out.alloc HB.out.size _).grown hgrow (by have := HB.out.size; simp; omega) (fun j hj => (HO.out.lt j hj).1))
      clear hown hgrow
      go_wp2
      go_roundw
      case rel => exact ⟨k + 1, by omega, by go_num, Lib.hid (by rw [writesL_succ, evsV_append, show 2 * (k + 1) = 2 * k + 2 by omega]; exact HO4.out), HB4⟩
      case measure => simp [intOf]; omega
    · obtain rfl : k = n := by omega
      go_wp2
      go_ret
      exact ⟨_, rfl, SlE.of_owns (by rw [writesL_len]; exact HO.out), HB.out, owns_ge HO.out⟩

set_option maxRecDepth 100000 in
theorem scanWrites_any (r : Int) (n : Nat) (hn : n ≤ 549755813888) (w : World) :
    Calls Try.prog 62 #[.int .i64 r, .int .i64 n] w (RetE (writesL r n) w) := by
  obtain ⟨i0, hi0, hz0, hz1, hz2⟩ := info_parts info_event
  have HI := Lib.hid hi0
  have HZ := Lib.hid hz0
  have HS := Lib.hid hz1
  have HY := Lib.hid hz2
  clear hi0 hz0 hz1 hz2
  go_enter Try.func62, Try.ntmps62
  go_wp2_with fail
  refine (scanReads_any r n (by omega) _).mono ?_
  rintro e w1 ⟨v, rfl, hs, hb, _⟩
  have HSL := Lib.hid hs
  have HB0 : Hid (Below w.heap.size w w1) := Lib.hid hb
  obtain ⟨va, vc, rfl, _, _, hrow⟩ := hs
  rw [readsL_len] at HSL ⊢
  clear hb
  go_wp2_with fail
  go_loopw [5, 12] (fun sv i wr => ∃ k : Nat, k ≤ n ∧ i = .int .i64 k ∧ Hid (wr.ownsRow w1.heap.size 52 3 sv (2 * k) (evsV (writesL r k))) ∧ Hid (Below w1.heap.size w1 wr)) (fun _ i _ => n - (intOf i).toNat)
  case atStart => exact ⟨0, by omega, rfl, Lib.hid (World.ownsRow_nil _ _ _ _), Lib.hid (Below.refl _ _)⟩
  case round =>
    obtain ⟨k, hk, rfl, HO, HB⟩ := hrel
    by_cases hlt : k < n
    · have HV := Lib.hid (HSL.out.below HB.out)
      obtain ⟨va', vc', hve, _, hvm, hv3⟩ := HV.out
      rw [readsL_len] at hve
      simp only [Value.slice.injEq, true_and] at hve
      obtain ⟨rfl, rfl⟩ := hve
      obtain ⟨b, off, rfl, hblt, hr⟩ := hv3 (fun e => by have := congrArg List.length e; rw [readsL_len] at this; simp at this; omega)
      have hre := rangeAt_ev hr k (by rw [readsL_len]; exact hlt)
      rw [readsL_get _ _ _ hlt] at hre
      have HRE := Lib.hid hre
      obtain ⟨g, hg⟩ : ∃ g, wr.heap.size = g := ⟨_, rfl⟩
      have hge : Below g wr ((wr.alloc (.cells #[.int .i64 0, .int .i64 0, .bool false] 52)).setRow g #[.int .i64 r, .int .i64 (k : Int), .bool false]) ∧ Blk ((wr.alloc (.cells #[.int .i64 0, .int .i64 0, .bool false] 52)).setRow g #[.int .i64 r, .int .i64 (k : Int), .bool false]) g #[.int .i64 r, .int .i64 (k : Int), .bool false] 52 := by
        rw [← hg]
        exact ⟨below_setRow ((Below.refl _ _).alloc (Nat.le_refl _) _) (Nat.le_refl _) _, (Blk.new _ _ _).setRow _⟩
      have HBN : Hid (Blk (wr.alloc (.cells #[.int .i64 0, .int .i64 0, .bool false] 52)) g #[.int .i64 0, .int .i64 0, .bool false] 52) := Lib.hid (by rw [← hg]; exact Blk.new _ _ _)
      have HRE : Hid (wr.rangeAt b (off + k * 3) [.int .i64 r, .int .i64 (k : Int), .bool false]) := HRE
      have HIE : Hid ((Try.prog.info? 52).map (·.size) = some (#[.int .i64 r, .int .i64 (k : Int), .bool false] : Array Value).size) := Lib.hid (info_ev3 (r, (k : Int), false))
      have HOE : Hid ((#[.int .i64 r, .int .i64 (k : Int), .bool false] : Array Value).all (·.oneCell') = true) := Lib.hid (by simp [Value.oneCell'])
      clear hr hre hv3 hrow
      go_upto_region 5 with (first
        | (refine wpList_load_mid rfl 52 (.tmp 14) rfl b (off + k * 3) rfl [.int .i64 r, .int .i64 (k : Int), .bool false] _ HRE.out Try.underlying52 rfl HIE.out ?_)
        | (refine wpList_store_row rfl 52 (.tmp 7) (.tmp 15) rfl g #[.int .i64 r, .int .i64 (k : Int), .bool false] rfl rfl 52 _ HBN.out HIE.out rfl HOE.out ?_)
        | fail)
      refine at_world (fun w' => Below g wr w' ∧ Blk w' g #[.int .i64 r, .int .i64 (k : Int), .bool false] 52) hge ?_
      rintro w3 ⟨hb3, hk3⟩
      have c1 : w3.cell? ⟨g, 1, none⟩ = some (.int .i64 (k : Int)) := by rw [hk3.cell]; rfl
      have HK3 := Lib.hid hk3
      have HO3 := Lib.hid (ownsRow_below HO.out (by rw [hg]; exact hb3))
      have HB3 : Hid (Below w1.heap.size w1 w3) := Lib.hid (HB.out.trans (hb3.mono (by rw [← hg]; exact HB.out.size)))
      clear hb3 hk3 hge HBN
      go_wp2_with (first
        | (refine wpList_load_row rfl 52 (.tmp 7) rfl g rfl 52 _ (0, 0) _ HK3.out Try.underlying52 rfl HIE.out ?_)
        | (at_builtin; go_loud (refine wpList_append_own_at _ rfl (.tmp 16) (.tmp 22) 48 rfl w1.heap.size 52 i0 (.agg #[.int .i64 0, .int .i64 0, .bool false]) 3 24 Try.underlying48 HI.out HZ.out HS.out HY.out rfl (by decide) _ (2 * k) (evsV (writesL r k)) rfl (HO3.out.alloc _) ⟨w3.heap.size, 0, none⟩ 2 2 (evsV [(r, (k : Int), false), (r, (k : Int), true)]) rfl rfl (evs2_cells _ _ _) (evsV_one [(r, (k : Int), false), (r, (k : Int), true)]) (by unfold maxLen; omega) (by omega) (by have := HB3.out.size; simp; omega) ?_))
        | fail)
      intro v' w4 hown hgrow _ _
      have HO4 := Lib.hid hown
      have HB4 : Hid (Below w1.heap.size w1 w4) := Lib.hid ((HB3.out.alloc HB3.out.size _).grown hgrow (by have := HB3.out.size; simp; omega) (fun j hj => (HO3.out.lt j hj).1))
      clear hown hgrow
      go_wp2
      go_roundw
      case rel => exact ⟨k + 1, by omega, by go_num, Lib.hid (by rw [writesL_succ, evsV_append, show 2 * (k + 1) = 2 * k + 2 by omega]; exact HO4.out), HB4⟩
      case measure => simp [intOf]; omega
    · obtain rfl : k = n := by omega
      go_wp2
      go_ret
      exact ⟨_, rfl, SlE.of_owns (by rw [writesL_len]; exact HO.out), HB0.out.trans (HB.out.mono HB0.out.size), fun j hj => Nat.le_trans HB0.out.size (owns_ge HO.out j hj)⟩
end Go.Proofs.Ytngpaibppdehdaa
