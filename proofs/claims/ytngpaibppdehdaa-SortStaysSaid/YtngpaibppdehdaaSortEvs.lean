/-
  The walks of Events: of sort and of shellgameref6.
-/
import Derived.Test.YtngpaibppdehdaaOneF
import Derived.Test.YtngpaibppdehdaaNetLen
import Derived.Test.YtngpaibppdehdaaEvEq
import Derived.Test.YtngpaibppdehdaaRef5
import Derived.Deep.DeepCutAuto
import Derived.BigRegion
import Derived.Deep.RegionHeld3
import Derived.Test.YtngpaibppdehdaaMemNew
namespace Go.Sg
open Go Go.RowKit
theorem evsN_cells (w : World) (es : List Ev) (t : TypeId) : ∀ j u, (evsV es)[j]? = some u → (w.alloc (.cells (evsV es).toArray t)).cell? ((⟨w.heap.size, 0, none⟩ : Addr).add j) = some u := by
  intro j u hu
  rw [addr_add, Nat.zero_add, cell_of_row _ _ _ _ _ (0, 0) (heap_alloc_new w _), List.getElem?_toArray]
  exact hu
theorem not_row {w : World} {base : Nat} {e t : TypeId} {size n : Nat} {v : Value} {xs : List Value} {g : Nat} {cs : Array Value} (h : w.ownsRow base e size v n xs) (hb : Blk w g cs t) (hne : t ≠ e) : some g ≠ v.ownBlock := by
  rcases h.2 with ⟨rfl, _⟩ | ⟨g', cap, cur, rfl, _, hg, _⟩
  · intro h; cases h
  · intro h
    cases h
    unfold Blk at hb
    rw [hg] at hb
    cases hb
    exact hne rfl
end Go.Sg
namespace Go.Proofs.Ytngpaibppdehdaa
open Go Go.RowKit Go.Sg

set_option maxHeartbeats 2000000 in
set_option maxRecDepth 100000 in
theorem sortEvents_no (r n : Int) (hn : rightB n = false) (w : World) : Calls Try.prog 72 #[.int .i64 r, .int .i64 n] w (RetE [] w) := by
  have KP := Lib.hid (netPairs_no n hn w)
  go_enter Try.func72, Try.ntmps72
  go_wp2_with fail
  refine KP.out.mono ?_
  rintro e w1 ⟨rfl, rfl⟩
  go_wp2_with fail
  go_loop [5, 13] (fun l i => l = .slice none 0 0 ∧ i = .int .i64 0) (fun _ _ => 0)
  case atStart => exact ⟨rfl, rfl⟩
  case round =>
    obtain ⟨rfl, rfl⟩ := hrel
    go_wp2
    go_ret
    exact ⟨_, rfl, ⟨none, 0, rfl, Nat.le_refl _, by simp, fun h => absurd rfl h⟩, Below.refl _ _, fun k hk => by simp [Value.ownBlock] at hk⟩

set_option maxHeartbeats 4000000 in
set_option maxRecDepth 100000 in
theorem sortEvents_yes (t : Nat) (ht : t ≤ 10) (r : Int) (w : World) : Calls Try.prog 72 #[.int .i64 r, .int .i64 ((2 ^ t : Nat) : Int)] w (RetE (evsS r (netP (2 ^ t) t)) w) := by
  have KP := Lib.hid (fun w => netPairs_yes t ht w)
  have hpl : (netP (2 ^ t) t).length ≤ 30000 := by
    rw [netP_cnt t ht]
    have h2 : ∀ t : Fin 11, cntI t.val ≤ 30000 := by decide +kernel
    exact h2 ⟨t, by omega⟩
  obtain ⟨i0, hi0, hz0, hz1, hz2⟩ := info_parts info_event
  have HI := Lib.hid hi0
  have HZ := Lib.hid hz0
  have HS := Lib.hid hz1
  have HY := Lib.hid hz2
  obtain ⟨n, hn⟩ : ∃ n, 2 ^ t = n := ⟨_, rfl⟩
  obtain ⟨ps, hps⟩ : ∃ ps, netP (2 ^ t) t = ps := ⟨_, rfl⟩
  rw [hps] at KP hpl ⊢
  rw [hn] at KP ⊢
  clear hi0 hz0 hz1 hz2 hn hps
  go_enter Try.func72, Try.ntmps72
  go_wp2_with fail
  refine (KP.out _).mono ?_
  rintro e w1 ⟨v, rfl, hown, hb1⟩
  have HQ := Lib.hid (SlQ.of_owns hown)
  have HB1 := Lib.hid hb1
  obtain ⟨va, vc, rfl, hc1, hc2, _⟩ := HQ.out
  clear hown hb1 KP
  unfold maxLen at hc2
  go_wp2_with fail
  go_loopw [5, 13] (fun sv i wr => ∃ k : Nat, k ≤ ps.length ∧ i = .int .i64 k ∧ Hid (wr.ownsRow w1.heap.size 52 3 sv (4 * k) (evsV (evsS r (ps.take k)))) ∧ Hid (Below w1.heap.size w1 wr)) (fun _ i _ => ps.length - (intOf i).toNat)
  case atStart => exact ⟨0, by omega, rfl, Lib.hid (World.ownsRow_nil _ _ _ _), Lib.hid (Below.refl _ _)⟩
  case round =>
    obtain ⟨k, hk, rfl, HO, HB⟩ := hrel
    by_cases hlt : k < ps.length
    · obtain ⟨b, off, cap, hvv, hblt, hrow⟩ := HQ.out.row hlt
      simp only [Value.slice.injEq, true_and] at hvv
      obtain ⟨rfl, rfl⟩ := hvv
      obtain ⟨q, hqk⟩ : ∃ q, ps[k] = q := ⟨_, rfl⟩
      rw [hqk] at hrow
      have HTK : Hid (ps.take (k + 1) = ps.take k ++ [q]) := Lib.hid (by rw [List.take_succ_eq_append_getElem hlt, hqk])
      have HROW : Hid (wr.rangeAt b (off + k * 3) (prc q)) := Lib.hid fun j u hu => (HB.out.cell (p := ⟨b, off + k * 3 + j, none⟩) hblt).trans (hrow j u hu)
      have HIP : Hid ((Try.prog.info? 30).map (·.size) = some (prc q).length) := Lib.hid (by kernel_rfl)
      have HIP2 : Hid ((Try.prog.info? 30).map (·.size) = some (prc q).toArray.size) := Lib.hid (by kernel_rfl)
      have i0' : (0 : Int) ≤ (k : Int) := by omega
      have i1 : (k : Int) < (ps.length : Int) := by omega
      clear hqk hrow
      obtain ⟨g, hg⟩ : ∃ g, wr.heap.size = g := ⟨_, rfl⟩
      have hge : Below g wr ((wr.alloc (.cells #[.int .i64 0, .int .i64 0, .bool false] 30)).setRow g (prc q).toArray) ∧ Blk ((wr.alloc (.cells #[.int .i64 0, .int .i64 0, .bool false] 30)).setRow g (prc q).toArray) g (prc q).toArray 30 := by
        rw [← hg]
        exact ⟨below_setRow ((Below.refl _ _).alloc (Nat.le_refl _) _) (Nat.le_refl _) _, (Blk.new _ _ _).setRow _⟩
      have HBN : Hid (Blk (wr.alloc (.cells #[.int .i64 0, .int .i64 0, .bool false] 30)) g #[.int .i64 0, .int .i64 0, .bool false] 30) := Lib.hid (by rw [← hg]; exact Blk.new _ _ _)
      go_upto_region 5 with (first
        | (refine wpList_load_mid rfl 30 (.tmp 15) rfl b (off + k * 3) rfl (prc q) _ HROW.out Try.underlying30 rfl HIP.out ?_)
        | (refine wpList_store_row rfl 30 (.tmp 7) (.tmp 16) rfl g (prc q).toArray rfl rfl 30 _ HBN.out HIP2.out rfl (by simp [prc, Value.oneCell']) ?_)
        | fail)
      refine at_world (fun w' => Below g wr w' ∧ Blk w' g (prc q).toArray 30) hge ?_
      rintro w3 ⟨hb3, hk3⟩
      have HK3 := Lib.hid hk3
      have HO3 := Lib.hid (ownsRow_below HO.out (by rw [hg]; exact hb3))
      have HB3 : Hid (Below w1.heap.size w1 w3) := Lib.hid (HB.out.trans (hb3.mono (by rw [← hg]; exact HB.out.size)))
      clear hb3 hk3 hge HBN HO HB hblt
      obtain ⟨g2, hg2⟩ : ∃ g2, w3.heap.size = g2 := ⟨_, rfl⟩
      have hgg : g < g2 := by rw [← hg2]; exact HK3.out.lt
      go_wp2_with fail
      have HG : Hid (Blk (w3.alloc (.cells #[.bool false, .bool true] 4)) g (prc q).toArray 30) := Lib.hid (HK3.out.alloc _)
      have HG2 : Hid (Blk (w3.alloc (.cells #[.bool false, .bool true] 4)) g2 #[.bool false, .bool true] 4) := Lib.hid (by rw [← hg2]; exact Blk.new _ _ _)
      have HBz : Hid (Below w1.heap.size w1 (w3.alloc (.cells #[.bool false, .bool true] 4))) := Lib.hid (HB3.out.alloc HB3.out.size _)
      obtain ⟨wo, rfl⟩ : ∃ wo : World, wo = wr := ⟨_, rfl⟩
      go_loopw [5, 9, 19] (fun sv _ i wr => ∃ j : Nat, j ≤ 2 ∧ i = .int .i64 j ∧ Hid (wr.ownsRow w1.heap.size 52 3 sv (4 * k + 2 * j) (evsV (evsS r (ps.take k) ++ (evs4 r q).take (2 * j)))) ∧ Hid (Blk wr g (prc q).toArray 30) ∧ Hid (Blk wr g2 #[.bool false, .bool true] 4) ∧ Hid (Below w1.heap.size w1 wr)) (fun _ _ i _ => 2 - (intOf i).toNat)
      case atStart => exact ⟨0, by omega, rfl, Lib.hid (by rw [Nat.mul_zero, Nat.add_zero, List.take_zero, List.append_nil]; exact HO3.out.alloc _), HG, HG2, HBz⟩
      case round =>
        clear HG HG2 HBz HO3 HB3 HK3
        obtain ⟨j, hj, rfl, HOj, HG, HG2, HBj⟩ := hrel
        have c1 : wr.cell? ⟨g, 0, none⟩ = some (.int .i64 (q.1 : Int)) := by rw [HG.out.cell]; rfl
        have c2 : wr.cell? ⟨g, 1, none⟩ = some (.int .i64 (q.2.1 : Int)) := by rw [HG.out.cell]; rfl
        rcases (show j = 0 ∨ j = 1 ∨ j = 2 by omega) with rfl | rfl | rfl
        · simp only [Nat.mul_zero] at HOj
          have c0 : wr.cell? ⟨g2, 0, none⟩ = some (.bool false) := by rw [HG2.out.cell]; rfl
          have HNR := Lib.hid (And.intro (not_row HOj.out HG.out (by decide)) (not_row HOj.out HG2.out (by decide)))
          have hgl := HG.out.lt
          have hgl2 := HG2.out.lt
          go_wp2_with (first
            | (at_builtin; go_loud (refine wpList_append_own_at _ rfl (.tmp 23) (.tmp 34) 48 rfl w1.heap.size 52 i0 (.agg #[.int .i64 0, .int .i64 0, .bool false]) 3 24 Try.underlying48 HI.out HZ.out HS.out HY.out rfl (by decide) _ (4 * k + 0) (evsV (evsS r (ps.take k) ++ (evs4 r q).take 0)) rfl (HOj.out.alloc _) ⟨wr.heap.size, 0, none⟩ 2 2 (evsV [(r, (q.1 : Int), false), (r, (q.2.1 : Int), false)]) rfl rfl (evsN_cells _ _ _) (evsV_one [(r, (q.1 : Int), false), (r, (q.2.1 : Int), false)]) (by unfold maxLen; omega) (by omega) (by have := HBj.out.size; simp; omega) ?_))
            | fail)
          intro v' w4 hown hgrow _ _
          have HO4 := Lib.hid hown
          have HG4 : Hid (Blk w4 g (prc q).toArray 30) := Lib.hid ((hgrow.block g (by rw [World.size_alloc]; omega) HNR.out.1).trans (HG.out.alloc _))
          have HG24 : Hid (Blk w4 g2 #[.bool false, .bool true] 4) := Lib.hid ((hgrow.block g2 (by rw [World.size_alloc]; omega) HNR.out.2).trans (HG2.out.alloc _))
          have HB4 : Hid (Below w1.heap.size w1 w4) := Lib.hid ((HBj.out.alloc HBj.out.size _).grown hgrow (by have := HBj.out.size; simp; omega) (fun j hj => (HOj.out.lt j hj).1))
          clear hown hgrow
          go_wp2
          go_roundw
          case rel => exact ⟨1, by omega, by go_num, Lib.hid (by have h := HO4.out; rw [← evsV_append] at h; (try rw [List.append_assoc] at h); exact h), HG4, HG24, HB4⟩
          case measure => simp [intOf]
        · simp only [Nat.mul_one] at HOj
          have c0 : wr.cell? ⟨g2, 1, none⟩ = some (.bool true) := by rw [HG2.out.cell]; rfl
          have HNR := Lib.hid (And.intro (not_row HOj.out HG.out (by decide)) (not_row HOj.out HG2.out (by decide)))
          have hgl := HG.out.lt
          have hgl2 := HG2.out.lt
          go_wp2_with (first
            | (at_builtin; go_loud (refine wpList_append_own_at _ rfl (.tmp 23) (.tmp 34) 48 rfl w1.heap.size 52 i0 (.agg #[.int .i64 0, .int .i64 0, .bool false]) 3 24 Try.underlying48 HI.out HZ.out HS.out HY.out rfl (by decide) _ (4 * k + 2) (evsV (evsS r (ps.take k) ++ (evs4 r q).take 2)) rfl (HOj.out.alloc _) ⟨wr.heap.size, 0, none⟩ 2 2 (evsV [(r, (q.1 : Int), true), (r, (q.2.1 : Int), true)]) rfl rfl (evsN_cells _ _ _) (evsV_one [(r, (q.1 : Int), true), (r, (q.2.1 : Int), true)]) (by unfold maxLen; omega) (by omega) (by have := HBj.out.size; simp; omega) ?_))
            | fail)
          intro v' w4 hown hgrow _ _
          have HO4 := Lib.hid hown
          have HG4 : Hid (Blk w4 g (prc q).toArray 30) := Lib.hid ((hgrow.block g (by rw [World.size_alloc]; omega) HNR.out.1).trans (HG.out.alloc _))
          have HG24 : Hid (Blk w4 g2 #[.bool false, .bool true] 4) := Lib.hid ((hgrow.block g2 (by rw [World.size_alloc]; omega) HNR.out.2).trans (HG2.out.alloc _))
          have HB4 : Hid (Below w1.heap.size w1 w4) := Lib.hid ((HBj.out.alloc HBj.out.size _).grown hgrow (by have := HBj.out.size; simp; omega) (fun j hj => (HOj.out.lt j hj).1))
          clear hown hgrow
          go_wp2
          go_roundw
          case rel => exact ⟨2, by omega, by go_num, Lib.hid (by have h := HO4.out; rw [← evsV_append] at h; (try rw [List.append_assoc] at h); exact h), HG4, HG24, HB4⟩
          case measure => simp [intOf]
        · have HOE : Hid (wr.ownsRow w1.heap.size 52 3 u5 (4 * (k + 1)) (evsV (evsS r (ps.take (k + 1))))) := Lib.hid (by
            have h := HOj.out
            rw [HTK.out, evsS_snoc, show 4 * (k + 1) = 4 * k + 2 * 2 by omega]
            exact h)
          clear HOj
          go_wp2
          go_roundw
          case rel => exact ⟨k + 1, by omega, by go_num, HOE, HBj⟩
          case measure => simp [intOf]; omega
    · obtain rfl : k = ps.length := by omega
      have HL : Hid (ps.take ps.length = ps) := Lib.hid List.take_length
      rw [HL.out] at HO
      go_wp2
      go_ret
      exact ⟨_, rfl, SlE.of_owns (by rw [evsS_len]; exact HO.out), HB1.out.trans (HB.out.mono HB1.out.size), fun j hj => Nat.le_trans HB1.out.size (owns_ge HO.out j hj)⟩

theorem ref5Pairs_no (n : Int) (hNum : Num n) (hn : rightB n = false) (w : World) : Calls Try.prog 27 #[.int .i64 n] w fun e w' => e = .returned (.slice none 0 0) ∧ w' = w := by
  have K := Lib.hid (ref5Right_any n hNum w)
  rw [hn] at K
  go_enter Try.func27, Try.ntmps27
  go_wp2_with (first
    | (go_at_call 29; refine K.out.mono ?_; rintro e w' ⟨rfl, rfl⟩)
    | fail)
  go_ret
  exact ⟨rfl, rfl⟩

set_option maxHeartbeats 2000000 in
set_option maxRecDepth 100000 in
theorem refEvents_no (r n : Int) (hNum : Num n) (hn : rightB n = false) (w : World) : Calls Try.prog 75 #[.int .i64 r, .int .i64 n] w (RetE [] w) := by
  have KP := Lib.hid (ref5Pairs_no n hNum hn w)
  go_enter Try.func75, Try.ntmps75
  go_wp2_with fail
  refine KP.out.mono ?_
  rintro e w1 ⟨rfl, rfl⟩
  go_wp2_with fail
  go_loop [6, 7] (fun l i => l = .slice none 0 0 ∧ i = .int .i64 0) (fun _ _ => 0)
  case atStart => exact ⟨rfl, rfl⟩
  case round =>
    obtain ⟨rfl, rfl⟩ := hrel
    go_wp2
    go_ret
    exact ⟨_, rfl, ⟨none, 0, rfl, Nat.le_refl _, by simp, fun h => absurd rfl h⟩, Below.refl _ _, fun k hk => by simp [Value.ownBlock] at hk⟩

set_option maxHeartbeats 4000000 in
set_option maxRecDepth 100000 in
theorem refEvents_yes (t : Nat) (ht : t ≤ 10) (r : Int) (w : World) : Calls Try.prog 75 #[.int .i64 r, .int .i64 ((2 ^ t : Nat) : Int)] w (RetE (evsS r (netP (2 ^ t) t)) w) := by
  have KP := Lib.hid (fun w => ref5Pairs_yes t ht w)
  have hpl : (netP (2 ^ t) t).length ≤ 30000 := by
    rw [netP_cnt t ht]
    have h2 : ∀ t : Fin 11, cntI t.val ≤ 30000 := by decide +kernel
    exact h2 ⟨t, by omega⟩
  obtain ⟨i0, hi0, hz0, hz1, hz2⟩ := info_parts info_event
  have HI := Lib.hid hi0
  have HZ := Lib.hid hz0
  have HS := Lib.hid hz1
  have HY := Lib.hid hz2
  obtain ⟨n, hn⟩ : ∃ n, 2 ^ t = n := ⟨_, rfl⟩
  obtain ⟨ps, hps⟩ : ∃ ps, netP (2 ^ t) t = ps := ⟨_, rfl⟩
  rw [hps] at KP hpl ⊢
  rw [hn] at KP ⊢
  clear hi0 hz0 hz1 hz2 hn hps
  go_enter Try.func75, Try.ntmps75
  go_wp2_with fail
  refine (KP.out _).mono ?_
  rintro e w1 ⟨v, rfl, hown, hb1⟩
  have HQ := Lib.hid (SlQ.of_owns hown)
  have HB1 := Lib.hid hb1
  obtain ⟨va, vc, rfl, hc1, hc2, _⟩ := HQ.out
  clear hown hb1 KP
  unfold maxLen at hc2
  go_wp2_with fail
  go_loopw [6, 7] (fun sv i wr => ∃ k : Nat, k ≤ ps.length ∧ i = .int .i64 k ∧ Hid (wr.ownsRow w1.heap.size 52 3 sv (4 * k) (evsV (evsS r (ps.take k)))) ∧ Hid (Below w1.heap.size w1 wr)) (fun _ i _ => ps.length - (intOf i).toNat)
  case atStart => exact ⟨0, by omega, rfl, Lib.hid (World.ownsRow_nil _ _ _ _), Lib.hid (Below.refl _ _)⟩
  case round =>
    obtain ⟨k, hk, rfl, HO, HB⟩ := hrel
    by_cases hlt : k < ps.length
    · obtain ⟨b, off, cap, hvv, hblt, hrow⟩ := HQ.out.row hlt
      simp only [Value.slice.injEq, true_and] at hvv
      obtain ⟨rfl, rfl⟩ := hvv
      obtain ⟨q, hqk⟩ : ∃ q, ps[k] = q := ⟨_, rfl⟩
      rw [hqk] at hrow
      have HTK : Hid (ps.take (k + 1) = ps.take k ++ [q]) := Lib.hid (by rw [List.take_succ_eq_append_getElem hlt, hqk])
      have HC : Hid (∀ w', Below w1.heap.size w1 w' → w'.cell? ⟨b, off + k * 3, none⟩ = some (.int .i64 (q.1 : Int)) ∧ w'.cell? ⟨b, off + k * 3 + 1, none⟩ = some (.int .i64 (q.2.1 : Int))) := Lib.hid fun w' hb => ⟨(hb.cell (p := ⟨b, off + k * 3, none⟩) hblt).trans (hrow 0 _ rfl), (hb.cell (p := ⟨b, off + k * 3 + 1, none⟩) hblt).trans (hrow 1 _ rfl)⟩
      have i0' : (0 : Int) ≤ (k : Int) := by omega
      have i1 : (k : Int) < (ps.length : Int) := by omega
      have hb0 := HB.out.drew
      have hc0 := HC.out _ hb0
      have HO0 := Lib.hid (ownsRow_below HO.out ((Below.refl _ _).drew))
      clear hqk hrow
      go_upto_region 6 with fail
      go_region_held3 (fun w' => Below w1.heap.size w1 w' ∧ w'.cell? ⟨b, off + k * 3, none⟩ = some (.int .i64 (q.1 : Int)) ∧ w'.cell? ⟨b, off + k * 3 + 1, none⟩ = some (.int .i64 (q.2.1 : Int))) (first | exact ⟨by assumption, HC.out _ (by assumption)⟩ | exact ⟨hb0.alloc hb0.size _, HC.out _ (hb0.alloc hb0.size _)⟩) (first
        | (go_loud (refine step_append_own_at rfl (.tmp 16) (.tmp 45) 48 rfl w1.heap.size 52 i0 (.agg #[.int .i64 0, .int .i64 0, .bool false]) 3 24 Try.underlying48 HI.out HZ.out HS.out HY.out rfl (by decide) _ (4 * k) (evsV (evsS r (ps.take k))) rfl (HO0.out.alloc _) ⟨wr.drew.heap.size, 0, none⟩ 4 4 (evsV (evs4 r q)) rfl rfl (evsN_cells _ _ _) (evsV_one (evs4 r q)) (by unfold maxLen; omega) (by omega) (by have := HB.out.size; simp; omega) ?_); intro v' w4 hown hgrow _; have hb4 : Below w1.heap.size w1 w4 := (hb0.alloc hb0.size _).grown hgrow (by have := HB.out.size; simp; omega) (fun j hj => (HO.out.lt j hj).1)))
      all_goals
        have HO4 := Lib.hid hown
        have HB4 := Lib.hid hb4
        clear hown hgrow hb4 hc0 hb0
        go_wp2
        go_roundw
        case rel => exact ⟨k + 1, by omega, by go_num, Lib.hid (by rw [HTK.out, evsS_snoc, evsV_append, show 4 * (k + 1) = 4 * k + 4 by omega]; exact HO4.out), HB4⟩
        case measure => simp [intOf]; omega
    · obtain rfl : k = ps.length := by omega
      have HL : Hid (ps.take ps.length = ps) := Lib.hid List.take_length
      rw [HL.out] at HO
      go_wp2
      go_ret
      exact ⟨_, rfl, SlE.of_owns (by rw [evsS_len]; exact HO.out), HB1.out.trans (HB.out.mono HB1.out.size), fun j hj => Nat.le_trans HB1.out.size (owns_ge HO.out j hj)⟩
end Go.Proofs.Ytngpaibppdehdaa
