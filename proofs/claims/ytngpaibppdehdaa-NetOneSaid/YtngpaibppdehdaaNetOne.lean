/-
  The walk of shellgamelaw5.NetOne.
-/
import Derived.Test.YtngpaibppdehdaaNetSorts
import Derived.Test.YtngpaibppdehdaaRowB
import Derived.BigQuiet
import Derived.Deep.DeepCutAuto
namespace Go.Sg
open Go Go.RowKit
/-- what the row holds: tens, but for one place -/
def oF (k : Nat) (n : Int) (j : Nat) : Int := if j = k then n else 10 * (j : Int)
def oneL (N k : Nat) (n : Int) : List Int := (List.range N).map (oF k n)
def metF (ys : List Int) (n : Int) : Nat → Bool
  | 0 => false
  | i + 1 => metF ys n i || (ys.getD i 0 == n)
theorem metF_true {ys : List Int} {n : Int} {j : Nat} (hj : ys.getD j 0 = n) : ∀ i, j < i → metF ys n i = true
  | 0, h => by omega
  | i + 1, h => by
    simp only [metF, Bool.or_eq_true]
    by_cases e : j = i
    · subst e; right; simpa using hj
    · left; exact metF_true hj i (by omega)
theorem oneL_len (N k : Nat) (n : Int) : (oneL N k n).length = N := by simp [oneL]
theorem oneL_words {N k : Nat} {n : Int} (hN : N ≤ 256) (hn : Word n) : ∀ x ∈ oneL N k n, Word x := by
  intro x hx
  obtain ⟨j, hj, rfl⟩ := List.mem_map.1 hx
  have := List.mem_range.1 hj
  unfold oF
  split
  · exact hn
  · constructor <;> omega
structure OneFacts (N k : Nat) (n : Int) (ys : List Int) : Prop where
  len : ys.length = N
  step : ∀ i (h : i < ys.length) (h' : i - 1 < ys.length), ys[i - 1] ≤ ys[i]
  met : metF ys n N = true
  first : ∀ h : 0 < ys.length, k ≠ 0 → ys[0] = 0
  last : ∀ h : N - 1 < ys.length, k ≠ N - 1 → ys[N - 1] = max n (10 * ((N : Int) - 1))
theorem one_facts {N k : Nat} {n : Int} {ys : List Int} (hN0 : 0 < N) (hk : k < N) (hn : Word n) (h : SortOf (oneL N k n) ys) : OneFacts N k n ys := by
  have hl : ys.length = N := h.length.trans (oneL_len N k n)
  have hs := List.pairwise_iff_getElem.1 h.1
  have hmem : ∀ j, j < N → oF k n j ∈ ys := fun j hj => h.2.mem_iff.2 (List.mem_map.2 ⟨j, List.mem_range.2 hj, rfl⟩)
  have hall : ∀ y ∈ ys, ∃ j, j < N ∧ y = oF k n j := fun y hy => by
    obtain ⟨j, hj, rfl⟩ := List.mem_map.1 (h.2.mem_iff.1 hy)
    exact ⟨j, List.mem_range.1 hj, rfl⟩
  have hlow : ∀ y ∈ ys, ∀ h0 : 0 < ys.length, ys[0] ≤ y := fun y hy h0 => by
    obtain ⟨i, hi, rfl⟩ := List.getElem_of_mem hy
    rcases Nat.eq_zero_or_pos i with e | e
    · subst e; exact Int.le_refl _
    · exact hs 0 i h0 hi e
  have hhigh : ∀ y ∈ ys, ∀ h0 : N - 1 < ys.length, y ≤ ys[N - 1] := fun y hy h0 => by
    obtain ⟨i, hi, rfl⟩ := List.getElem_of_mem hy
    by_cases e : i = N - 1
    · subst e; exact Int.le_refl _
    · exact hs i (N - 1) hi h0 (by omega)
  refine ⟨hl, fun i h1 h2 => ?_, ?_, fun h0 hk0 => ?_, fun h0 hk1 => ?_⟩
  · rcases Nat.eq_zero_or_pos i with e | e
    · subst e; exact Int.le_refl _
    · exact hs (i - 1) i h2 h1 (by omega)
  · have hm := hmem k hk
    rw [show oF k n k = n by simp [oF]] at hm
    obtain ⟨j, hj, hjn⟩ := List.getElem_of_mem hm
    exact metF_true (j := j) (by simp [hj, hjn]) N (by omega)
  · have hm := hlow _ (hmem 0 hN0) h0
    rw [show oF k n 0 = 0 by unfold oF; rw [if_neg (by omega)]; rfl] at hm
    obtain ⟨j, hj, he⟩ := hall _ (List.getElem_mem h0)
    have : 0 ≤ ys[0] := by
      rw [he]
      unfold oF
      split
      · exact hn.1
      · omega
    omega
  · have h1 := hhigh _ (hmem k hk) h0
    rw [show oF k n k = n by simp [oF]] at h1
    have h2 := hhigh _ (hmem (N - 1) (by omega)) h0
    rw [show oF k n (N - 1) = 10 * ((N : Int) - 1) by unfold oF; rw [if_neg (by omega)]; omega] at h2
    obtain ⟨j, hj, he⟩ := hall _ (List.getElem_mem h0)
    have : ys[N - 1] ≤ max n (10 * ((N : Int) - 1)) := by
      rw [he]
      unfold oF
      split <;> omega
    omega
end Go.Sg
namespace Go.Proofs.Ytngpaibppdehdaa
open Go Go.RowKit Go.Sg

set_option maxHeartbeats 4000000 in
set_option maxRecDepth 100000 in
theorem NetOne_walk (lg at' n : Int) (w : World) (hlg : Num lg) (hat : Num at') (hn : Word n) :
    Calls Try.prog 15 #[.int .i64 lg, .int .i64 at', .int .u64 n] w fun e w' => e = .returned (.bool true) ∧ Below w.heap.size w w' := by
  have KS := Lib.hid (shown5 w)
  have HNW := Lib.hid hn
  obtain ⟨hn0, hn1⟩ := hn
  obtain ⟨ha0, ha1⟩ := hat
  by_cases h0 : lg < 0
  · have d0 : decide (lg < 0) = true := decide_eq_true h0
    go_enter Try.func15, Try.ntmps15
    go_wp2_with fail
    refine KS.out.mono ?_
    rintro e w1 ⟨rfl, hb1⟩
    have HB1 := Lib.hid hb1
    clear hb1
    go_wp2
    go_ret
    exact ⟨rfl, HB1.out⟩
  by_cases h10 : 8 < lg
  · have d0 : decide (lg < 0) = false := decide_eq_false h0
    have d1 : decide (8 < lg) = true := decide_eq_true h10
    go_enter Try.func15, Try.ntmps15
    go_wp2_with fail
    refine KS.out.mono ?_
    rintro e w1 ⟨rfl, hb1⟩
    have HB1 := Lib.hid hb1
    clear hb1
    go_wp2
    go_ret
    exact ⟨rfl, HB1.out⟩
  obtain ⟨t, rfl⟩ : ∃ t : Nat, lg = t := ⟨lg.toNat, by omega⟩
  have ht : t ≤ 8 := by omega
  have d0 : decide ((t : Int) < 0) = false := decide_eq_false h0
  have d1 : decide (8 < (t : Int)) = false := decide_eq_false h10
  have hN : 2 ^ t ≤ 256 := Nat.le_trans (Nat.pow_le_pow_right (by omega) ht) (by decide)
  have hN0 := Nat.two_pow_pos t
  have hr : rightB ((2 ^ t : Nat) : Int) = true := by
    have := rightB_pow t (by omega)
    rwa [show ((2 ^ t : Nat) : Int) = (2 : Int) ^ t by simp]
  have hW : wrap64 ((2 : Int) ^ t) = ((2 ^ t : Nat) : Int) := by
    have e : ((2 ^ t : Nat) : Int) = (2 : Int) ^ t := by simp
    rw [← e]
    exact (fun (y : Nat) (hy : y ≤ 1024) => (by unfold wrap64; omega : wrap64 (y : Int) = (y : Int))) _ (by omega)
  obtain ⟨N, hNd⟩ : ∃ N, 2 ^ t = N := ⟨_, rfl⟩
  rw [hNd] at hN hN0 hr hW
  obtain ⟨i0, hi, hz0, hz1, hz2⟩ := info_parts info_u64
  have HI := Lib.hid hi
  have HZ := Lib.hid hz0
  have HS := Lib.hid hz1
  have HY := Lib.hid hz2
  clear hi hz0 hz1 hz2
  obtain ⟨k, hk, hkN⟩ : ∃ k : Nat, max 0 (min at' ((N : Int) - 1)) = k ∧ k < N := ⟨(max 0 (min at' ((N : Int) - 1))).toNat, by omega, by omega⟩
  go_enter Try.func15, Try.ntmps15
  go_wp2_with fail
  refine KS.out.mono ?_
  rintro e w1 ⟨rfl, hb1⟩
  have HB1 := Lib.hid hb1
  clear hb1
  go_upto_region 5 with fail
  rw [hW]
  clear hW
  go_upto_region 6 with (first
    | (at_make; go_loud (refine wpList_make_row _ rfl (.tmp 30) (.tmp 30) 34 rfl 39 i0 (.int .u64 0) Try.underlying34 HI.out HZ.out HS.out rfl .i64 .i64 N rfl rfl (by rw [HY.out]; omega) (by omega) ?_))
    | fail)
  obtain ⟨G, hG⟩ : ∃ G, w1.heap.size = G := ⟨_, rfl⟩
  have hrow := World.rowIs_made w1 (.int .u64 0) N 39
  have hbel : Below w1.heap.size w1 (w1.alloc (.cells (madeCells #[.int .u64 0] N) 39)) := (Below.refl _ _).alloc (Nat.le_refl _) _
  rw [hG] at hrow ⊢
  have HR := Lib.hid hrow
  have HB := Lib.hid hbel
  have HGw : Hid (w1.heap.size ≤ G) := Lib.hid (by omega)
  clear hrow hbel hG
  generalize w1.alloc (.cells (madeCells #[.int .u64 0] N) 39) = w2 at *
  go_wp2_with fail
  go_loopw [10] (fun i wr => ∃ j : Nat, j ≤ N ∧ i = .int .i64 j ∧ Hid (wr.rowIs G 39 N (fun x => .int .u64 (if x < j then 10 * (x : Int) else 0))) ∧ Hid (Below w1.heap.size w1 wr)) (fun i _ => N - (intOf i).toNat)
  case atStart => exact ⟨0, by omega, rfl, HR, HB⟩
  case round =>
    obtain ⟨j, hj, rfl, HF, HW⟩ := hrel
    by_cases hlt : j < N
    · have cG : wr.cell? ⟨G, j, none⟩ = some (.int .u64 (if j < j then 10 * (j : Int) else 0)) := HF.out.cell hlt
      have fG : wr.frozen? ⟨G, j, none⟩ = false := HF.out.frozen j
      go_wp2
      go_roundw
      case rel =>
        refine ⟨j + 1, by omega, by go_num, Lib.hid ((HF.out.set j _).congr fun x hx => ?_), Lib.hid (HW.out.setCell (p := ⟨G, j, none⟩) HGw.out _)⟩
        by_cases e : x = j
        · subst e; rw [if_pos rfl, if_pos (by omega)]
        · rw [if_neg e]
          by_cases h : x < j
          · rw [if_pos h, if_pos (by omega)]
          · rw [if_neg h, if_neg (by omega)]
      case measure => simp [intOf]; omega
    · obtain rfl : j = N := by omega
      obtain ⟨x, hx⟩ : ∃ x : Int, (if (j : Int) - 1 < at' then (j : Int) - 1 else at') = x := ⟨_, rfl⟩
      have hx2 : (if 0 < x then x else 0) = (k : Int) := by
        rw [← hk, ← hx]
        split <;> split <;> omega
      have cG : wr.cell? ⟨G, k, none⟩ = some (.int .u64 (if k < j then 10 * (k : Int) else 0)) := HF.out.cell hkN
      have fG : wr.frozen? ⟨G, k, none⟩ = false := HF.out.frozen k
      go_upto_region 12 with fail
      have HF2 := Lib.hid ((HF.out.set k (.int .u64 n)).congr (g := fun x => .int .u64 (oF k n x)) fun x hx => by
        unfold oF
        by_cases e : x = k
        · rw [if_pos e, if_pos e]
        · rw [if_neg e, if_neg e, if_pos hx])
      have HW2 := Lib.hid (HW.out.setCell (p := ⟨G, k, none⟩) HGw.out (.int .u64 n))
      generalize wr.setCell ⟨G, k, none⟩ (.int .u64 n) = w4 at *
      have HSL : Hid (Sl1 w4 (.slice (some ⟨G, 0, none⟩) j j) ((oneL j k n).map (Value.int .u64))) := Lib.hid (sl1_row HF2.out hN0 (by unfold maxLen; omega))
      have HO4 := Lib.hid (HB1.out.trans (HW2.out.mono HB1.out.size))
      clear HF HW HF2 HW2 cG fG hx hx2 hk
      go_wp2_with fail
      refine (netSort_any _ (oneL j k n) (by rw [oneL_len]; exact hr) (oneL_words hN HNW.out) w4 HSL.out).mono ?_
      rintro e w5 ⟨v5, ys, rfl, hs5, hv5, hb5⟩
      have HOF := Lib.hid (one_facts hN0 hkN HNW.out hs5)
      have HO5 := Lib.hid (HO4.out.trans (hb5.mono HO4.out.size))
      have hyl := HOF.out.len
      obtain ⟨b5, o5, c5, rfl, hlt5, hc5⟩ := hv5.at (fun e => by rw [e] at hyl; simp at hyl; omega)
      have HC5 := Lib.hid hc5
      rw [hyl]
      have dd : ((j : Int) != (j : Int)) = false := by simp
      clear hs5 hv5 hb5 hc5 HSL HO4
      go_wp2_with fail
      go_loopw [14, 15] (fun m i w2' => ∃ q : Nat, q ≤ j ∧ i = .int .i64 q ∧ m = .bool (metF ys n q) ∧ ∃ r, w2' = w5.drewN r) (fun _ i _ => j - (intOf i).toNat)
      case atStart => exact ⟨0, by omega, rfl, rfl, 0, rfl⟩
      case round =>
        obtain ⟨q, hq, rfl, rfl, r, rfl⟩ := hrel
        by_cases hqN : q < j
        · have cQ := HC5.out q (by omega)
          have HMT : Hid (metF ys n (q + 1) = (metF ys n q || (ys[q] == n))) := Lib.hid (by simp [metF, show q < ys.length by omega])
          by_cases hq0 : q = 0
          · subst hq0
            generalize hy : ys[0] = y at *
            have e1 : decide ((0 : Int) < ((0 : Nat) : Int)) = false := rfl
            have hm0 : metF ys n 0 = false := rfl
            rw [hm0] at HMT ⊢
            rw [Nat.add_zero] at cQ
            go_wp2_with fail
            go_quiet (fail)
            go_wp2
            go_roundw
            case rel => exact ⟨1, by omega, rfl, by rw [show metF ys n 1 = (y == n) from HMT.out], r + _, rfl⟩
            case measure => simp [intOf]; omega
          · have cP := HC5.out (q - 1) (by omega)
            have hle := HOF.out.step q (by omega) (by omega)
            generalize hy : ys[q] = y at *
            generalize ys[q - 1] = y0 at *
            have e1 : decide ((0 : Int) < (q : Int)) = true := decide_eq_true (by omega)
            have e1' : decide (0 < q) = true := decide_eq_true (by omega)
            have e2 : decide (y < y0) = false := decide_eq_false (by omega)
            obtain ⟨q', rfl⟩ : ∃ q', q = q' + 1 := ⟨q - 1, by omega⟩
            rw [Nat.add_sub_cancel] at cP
            generalize metF ys n (q' + 1) = mm at *
            go_wp2_with fail
            go_quiet (fail)
            cases mm with
            | true =>
              go_wp2
              go_roundw
              case rel => exact ⟨q' + 1 + 1, by omega, by go_num, by rw [HMT.out]; rfl, r + _, rfl⟩
              case measure => simp [intOf]; omega
            | false =>
              go_wp2
              go_roundw
              case rel => exact ⟨q' + 1 + 1, by omega, by go_num, by rw [HMT.out]; rfl, r + _, rfl⟩
              case measure => simp [intOf]; omega
        · obtain rfl : q = j := by omega
          rw [HOF.out.met]
          have cF := HC5.out 0 (by omega)
          have cE := HC5.out (q - 1) (by omega)
          have HFI := Lib.hid (HOF.out.first (by omega))
          have HLA := Lib.hid (HOF.out.last (by omega))
          generalize ys[0] = y0 at *
          generalize ys[q - 1] = y1 at *
          rw [Nat.add_zero] at cF
          obtain ⟨q', rfl⟩ : ∃ q', q = q' + 1 := ⟨q - 1, by omega⟩
          rw [Nat.add_sub_cancel] at cE HLA
          have dn0 : min n 0 = 0 := by omega
          by_cases hk0 : k = 0
          · have f1 : ((k : Int) == 0) = true := by simp [hk0]
            by_cases hk1 : k = q'
            · have f2 : ((k : Int) == ((q' + 1 : Nat) : Int) - 1) = true := by rw [beq_iff_eq]; omega
              go_wp2
              go_ret
              exact ⟨rfl, below_drewN' HO5.out⟩
            · have f2 : ((k : Int) == ((q' + 1 : Nat) : Int) - 1) = false := by rw [beq_eq_false_iff_ne]; omega
              have hla := HLA.out hk1
              subst hla
              go_wp2
              go_ret
              exact ⟨rfl, below_drewN' HO5.out⟩
          · have f1 : ((k : Int) == 0) = false := by rw [beq_eq_false_iff_ne]; omega
            have hfi := HFI.out hk0
            subst hfi
            by_cases hk1 : k = q'
            · have f2 : ((k : Int) == ((q' + 1 : Nat) : Int) - 1) = true := by rw [beq_iff_eq]; omega
              go_wp2
              go_ret
              exact ⟨rfl, below_drewN' HO5.out⟩
            · have f2 : ((k : Int) == ((q' + 1 : Nat) : Int) - 1) = false := by rw [beq_eq_false_iff_ne]; omega
              have hla := HLA.out hk1
              subst hla
              go_wp2
              go_ret
              exact ⟨rfl, below_drewN' HO5.out⟩
end Go.Proofs.Ytngpaibppdehdaa
