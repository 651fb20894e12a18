/-
  The walk of shellgamelaw5.NetZeroOne.
-/
import Derived.Test.YtngpaibppdehdaaNetSorts
import Derived.Test.YtngpaibppdehdaaRowB
import Derived.Test.YtngpaibppdehdaaZeroL
namespace Go.Proofs.Ytngpaibppdehdaa
open Go Go.RowKit Go.Sg

set_option maxHeartbeats 4000000 in
set_option maxRecDepth 100000 in
theorem NetZeroOne_walk (n : Int) (v : Value) (bs : List Bool) (w : World) (hn : Num n) (hv : SlB w v bs) :
    Calls Try.prog 13 #[.int .i64 n, v] w fun e w' => e = .returned (.bool true) ∧ Below w.heap.size w w' := by
  have KS := Lib.hid (shown5 w)
  have HV := Lib.hid (show Sl1 w v (bs.map Value.bool) from hv)
  obtain ⟨va, vc, rfl⟩ : ∃ a c, v = .slice a bs.length c := by have := HV.out.len; rwa [List.length_map] at this
  have hmx := HV.out.len_le
  rw [List.length_map] at hmx
  unfold maxLen at hmx
  clear hv
  by_cases h0 : n < 0
  · have d0 : decide (n < 0) = true := decide_eq_true h0
    go_enter Try.func13, Try.ntmps13
    go_wp2_with fail
    refine KS.out.mono ?_
    rintro e w1 ⟨rfl, hb1⟩
    have HB1 := Lib.hid hb1
    clear hb1
    go_wp2
    go_ret
    exact ⟨rfl, HB1.out⟩
  by_cases h10 : 8 < n
  · have d0 : decide (n < 0) = false := decide_eq_false h0
    have d1 : decide (8 < n) = true := decide_eq_true h10
    go_enter Try.func13, Try.ntmps13
    go_wp2_with fail
    refine KS.out.mono ?_
    rintro e w1 ⟨rfl, hb1⟩
    have HB1 := Lib.hid hb1
    clear hb1
    go_wp2
    go_ret
    exact ⟨rfl, HB1.out⟩
  obtain ⟨t, rfl⟩ : ∃ t : Nat, n = t := ⟨n.toNat, by omega⟩
  have ht : t ≤ 8 := by omega
  have d0 : decide ((t : Int) < 0) = false := decide_eq_false h0
  have d1 : decide (8 < (t : Int)) = false := decide_eq_false h10
  have hN : 2 ^ t ≤ 256 := Nat.le_trans (Nat.pow_le_pow_right (by omega) ht) (by decide)
  have hN0 := Nat.two_pow_pos t
  have hr : rightB ((2 ^ t : Nat) : Int) = true := by
    have := rightB_pow t (by omega)
    rwa [show ((2 ^ t : Nat) : Int) = (2 : Int) ^ t by simp]
  have hW : wrap64 ((2 : Int) ^ t) = ((2 ^ t : Nat) : Int) := by
    have e : ((2 ^ t : Nat) : Int) = (2 : Int) ^ t := by simp
    rw [← e]
    exact (fun (y : Nat) (hy : y ≤ 1024) => (by unfold wrap64; omega : wrap64 (y : Int) = (y : Int))) _ (by omega)
  obtain ⟨N, hNd⟩ : ∃ N, 2 ^ t = N := ⟨_, rfl⟩
  rw [hNd] at hN hN0 hr hW
  obtain ⟨i0, hi, hz0, hz1, hz2⟩ := info_parts info_u64
  have HI := Lib.hid hi
  have HZ := Lib.hid hz0
  have HS := Lib.hid hz1
  have HY := Lib.hid hz2
  clear hi hz0 hz1 hz2
  go_enter Try.func13, Try.ntmps13
  go_wp2_with fail
  refine KS.out.mono ?_
  rintro e w1 ⟨rfl, hb1⟩
  have HB1 := Lib.hid hb1
  have HV1 := Lib.hid (HV.out.below hb1)
  clear hb1
  go_wp2_with (first
    | (at_make; rw [hW]; go_loud (refine wpList_make_row _ rfl (.tmp 26) (.tmp 26) 34 rfl 39 i0 (.int .u64 0) Try.underlying34 HI.out HZ.out HS.out rfl .i64 .i64 N rfl rfl (by rw [HY.out]; omega) (by omega) ?_))
    | fail)
  clear hW
  obtain ⟨G, hG⟩ : ∃ G, w1.heap.size = G := ⟨_, rfl⟩
  have hrow := World.rowIs_made w1 (.int .u64 0) N 39
  have hbel : Below w1.heap.size w1 (w1.alloc (.cells (madeCells #[.int .u64 0] N) 39)) := (Below.refl _ _).alloc (Nat.le_refl _) _
  rw [hG] at hrow ⊢
  have HR := Lib.hid hrow
  have HB := Lib.hid hbel
  have HGw : Hid (w1.heap.size ≤ G) := Lib.hid (by omega)
  clear hrow hbel hG
  generalize w1.alloc (.cells (madeCells #[.int .u64 0] N) 39) = w3 at *
  go_loopw [7, 8] (fun c i wr => ∃ k : Nat, k ≤ N ∧ k ≤ bs.length ∧ c = .int .i64 (cntB (bs.take k) : Int) ∧ i = .int .i64 k ∧ Hid (wr.rowIs G 39 N (fun j => .int .u64 (zoF bs k j))) ∧ Hid (Below w1.heap.size w1 wr)) (fun _ i _ => N - (intOf i).toNat)
  case atStart => exact ⟨0, by omega, by omega, rfl, rfl, HR, HB⟩
  case round =>
    obtain ⟨k, hk, hk2, rfl, rfl, HF, HW⟩ := hrel
    have hck := cntB_le (bs.take k)
    rw [List.length_take] at hck
    by_cases hgo : k < N ∧ k < bs.length
    · obtain ⟨hlt, hlt2⟩ := hgo
      · have HT := Lib.hid (cntB_take bs k hlt2)
        have HFS := Lib.hid (fun j => zoF_step bs k j hlt2)
        obtain ⟨b, off, cap, hvv, hl, hm, hvlt, hc⟩ : ∃ b off cap, Value.slice va bs.length vc = .slice (some ⟨b, off, none⟩) bs.length cap ∧ True ∧ True ∧ b < w1.heap.size ∧ ∀ i (h : i < bs.length), w1.cell? ⟨b, off + i, none⟩ = some (.bool bs[i]) := by
          rcases HV1.out with ⟨e, _⟩ | ⟨_, b, off, cap, he, _, _, h1, h2⟩
          · rw [List.map_eq_nil_iff.1 e] at hlt2; cases hlt2
          · rw [List.length_map] at he
            exact ⟨b, off, cap, he, trivial, trivial, h1, fun i h => (h2 i (by simpa using h)).trans (by simp)⟩
        simp only [Value.slice.injEq, true_and] at hvv
        obtain ⟨rfl, rfl⟩ := hvv
        have cb : wr.cell? ⟨b, off + k, none⟩ = some (.bool bs[k]) := (HW.out.cell (p := ⟨b, off + k, none⟩) hvlt).trans (hc k hlt2)
        clear hc hl hm
        cases hb : bs[k] with
        | false =>
          rw [hb] at HT HFS cb
          go_wp2
          go_roundw
          case rel =>
            refine ⟨k + 1, by omega, by omega, by rw [HT.out]; rfl, by go_num, Lib.hid (HF.out.congr fun j _ => ?_), HW⟩
            rw [HFS.out]
            split
            · rename_i e; subst e; simp [zoF, b01]
            · rfl
          case measure => simp [intOf]; omega
        | true =>
          rw [hb] at HT HFS cb
          have cG : wr.cell? ⟨G, k, none⟩ = some (.int .u64 (zoF bs k k)) := HF.out.cell hlt
          have fG : wr.frozen? ⟨G, k, none⟩ = false := HF.out.frozen k
          go_wp2
          go_roundw
          case rel =>
            refine ⟨k + 1, by omega, by omega, by rw [HT.out]; go_num, by go_num, Lib.hid ((HF.out.set k _).congr fun j _ => ?_), Lib.hid (HW.out.setCell (p := ⟨G, k, none⟩) HGw.out _)⟩
            rw [HFS.out]
            split
            · rfl
            · rfl
          case measure => simp [intOf]; omega
    · have HSO := Lib.hid (zo_sorted bs N k hk hk2)
      have HWD := Lib.hid (zo_words bs N k)
      have HSL := Lib.hid (sl1_row HF.out hN0 (by unfold maxLen; omega))
      have HLN : Hid (((List.range N).map (zoF bs k)).length = N) := Lib.hid (by simp)
      have hone : cntB (bs.take k) ≤ N := by omega
      generalize (List.range N).map (zoF bs k) = xs at *
      have HB3 := Lib.hid (HB1.out.trans (HW.out.mono HB1.out.size))
      obtain ⟨ones, hones⟩ : ∃ c, cntB (bs.take k) = c := ⟨_, rfl⟩
      rw [hones] at HSO hone ⊢
      clear HF HW hones hck
      by_cases hlt : k < N
      focus
        have hkb : k = bs.length := by omega
        have hstop : decide ((k : Int) < (bs.length : Int)) = false := decide_eq_false (by omega)
        go_wp2_with fail
      rotate_left
      focus
        go_wp2_with fail
      all_goals
        refine (netSort_any _ xs (by rw [HLN.out]; exact hr) HWD.out wr HSL.out).mono ?_
        rintro e w5 ⟨v5, ys, rfl, hs5, hv5, hb5⟩
        have hyl : ys.length = N := hs5.length.trans HLN.out
        have HYS := Lib.hid (hs5.uniq HSO.out)
        have HB5 := Lib.hid (HB3.out.trans (hb5.mono HB3.out.size))
        obtain ⟨b5, o5, c5, rfl, hlt5, hc5⟩ := hv5.at (fun e => by rw [e] at hyl; simp at hyl; omega)
        have HC5 : Hid (∀ i, i < N → w5.cell? ⟨b5, o5 + i, none⟩ = some (.int .u64 (if i < N - ones then 0 else 1))) := Lib.hid fun i hi => by
          rw [hc5 i (by omega)]
          congr 2
          have h2 : ys[i] = (List.replicate (N - ones) (0 : Int) ++ List.replicate ones 1)[i]'(by simp; omega) := by simp only [HYS.out]
          rw [h2, List.getElem_append]
          split
          · rename_i h3
            rw [List.length_replicate] at h3
            rw [if_pos h3, List.getElem_replicate]
          · rename_i h3
            rw [List.length_replicate] at h3
            rw [if_neg h3, List.getElem_replicate]
        rw [hyl]
        clear hs5 hv5 hb5 hc5 HYS HSO HWD HSL hyl
        have dd : ((N : Int) != (N : Int)) = false := by simp
        go_wp2_with fail
        go_loopw [11] (fun i w2' => ∃ q : Nat, q ≤ N ∧ i = .int .i64 q ∧ w2' = w5) (fun i _ => N - (intOf i).toNat)
        case atStart => exact ⟨0, by omega, rfl, rfl⟩
        case round =>
          obtain ⟨q, hq, rfl, rfl⟩ := hrel
          by_cases hqN : q < N
          · have c5 := HC5.out q hqN
            by_cases hqo : q < N - ones
            · rw [if_pos hqo] at c5
              have d6 : decide ((N : Int) - (ones : Int) ≤ (q : Int)) = false := decide_eq_false (by omega)
              go_wp2
              go_roundw
              case rel => exact ⟨q + 1, by omega, by go_num, by trivial⟩
              case measure => simp [intOf]; omega
            · rw [if_neg hqo] at c5
              have d6 : decide ((N : Int) - (ones : Int) ≤ (q : Int)) = true := decide_eq_true (by omega)
              go_wp2
              go_roundw
              case rel => exact ⟨q + 1, by omega, by go_num, by trivial⟩
              case measure => simp [intOf]; omega
          · go_wp2
            go_ret
            exact ⟨rfl, HB5.out⟩
end Go.Proofs.Ytngpaibppdehdaa
