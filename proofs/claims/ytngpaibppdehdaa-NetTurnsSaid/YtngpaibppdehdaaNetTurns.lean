/-
  The walk of shellgamelaw5.NetTurns.
-/
import Derived.Test.YtngpaibppdehdaaNetSorts
import Derived.Test.YtngpaibppdehdaaRowB
import Derived.Test.YtngpaibppdehdaaZeroL
import Derived.BigQuiet
import Derived.Deep.DeepCutAuto
import Derived.Deep.RegionHeld3
namespace Go.Sg
open Go Go.RowKit
def aF (xs : List Int) (j : Nat) : Int := xs.getD j 0
/-- what the first row holds, k words having been laid -/
def aK (xs : List Int) (k j : Nat) : Int := if j < k then aF xs j else 0
/-- what the turned row holds -/
def bK (xs : List Int) (n c k j : Nat) : Int := if (j + n - c) % n < k then aF xs ((j + n - c) % n) else 0
theorem aK_step (xs : List Int) (k j : Nat) : aK xs (k + 1) j = if j = k then aF xs k else aK xs k j := by
  unfold aK
  by_cases e : j = k
  · subst e; rw [if_pos (by omega), if_pos rfl]
  · rw [if_neg e]
    by_cases h : j < k
    · rw [if_pos h, if_pos (by omega)]
    · rw [if_neg h, if_neg (by omega)]
theorem turn_at {n c k : Nat} (hc : c ≤ n) (hk : k < n) : ((k + c) % n + n - c) % n = k := by
  by_cases h : k + c < n
  · rw [Nat.mod_eq_of_lt h, show k + c + n - c = k + n by omega, Nat.add_mod_right, Nat.mod_eq_of_lt hk]
  · rw [show k + c = (k + c - n) + n by omega, Nat.add_mod_right]
    by_cases h2 : k + c - n < n
    · rw [Nat.mod_eq_of_lt h2, show k + c - n + n - c = k by omega, Nat.mod_eq_of_lt hk]
    · omega
theorem turn_inj {n c j k : Nat} (hc : c ≤ n) (hj : j < n) (h : (j + n - c) % n = k) : j = (k + c) % n := by
  subst h
  by_cases h1 : j + n - c < n
  · rw [Nat.mod_eq_of_lt h1, show j + n - c + c = j + n by omega, Nat.add_mod_right, Nat.mod_eq_of_lt hj]
  · rw [show j + n - c = (j - c) + n by omega, Nat.add_mod_right, Nat.mod_eq_of_lt (show j - c < n by omega), show j - c + c = j by omega, Nat.mod_eq_of_lt hj]
theorem bK_step (xs : List Int) {n c k j : Nat} (hc : c ≤ n) (hk : k < n) (hj : j < n) : bK xs n c (k + 1) j = if j = (k + c) % n then aF xs k else bK xs n c k j := by
  unfold bK
  by_cases e : j = (k + c) % n
  · rw [if_pos e, e, turn_at hc hk, if_pos (by omega)]
  · rw [if_neg e]
    have h2 : (j + n - c) % n ≠ k := fun h => e (turn_inj hc hj h)
    by_cases h : (j + n - c) % n < k
    · rw [if_pos h, if_pos (by omega)]
    · rw [if_neg h, if_neg (by omega)]
theorem bK_all (xs : List Int) {n c : Nat} (hn : 0 < n) : (List.range n).map (bK xs n c n) = (List.range n).map (fun j => aK xs n ((j + n - c) % n)) := by
  apply List.map_congr_left
  intro j _
  unfold bK aK
  have := Nat.mod_lt (j + n - c) hn
  rw [if_pos this]
theorem aK_words {xs : List Int} (hw : ∀ x ∈ xs, Word x) (n k : Nat) : ∀ x ∈ (List.range n).map (aK xs k), Word x := by
  intro x hx
  obtain ⟨j, _, rfl⟩ := List.mem_map.1 hx
  unfold aK aF
  split
  · rw [List.getD_eq_getElem?_getD]
    cases h : xs[j]? with
    | none => exact zero_word
    | some y => exact hw y (List.mem_of_getElem? h)
  · exact zero_word
theorem aF_word {xs : List Int} (hw : ∀ x ∈ xs, Word x) (j : Nat) : Word (aF xs j) := by
  unfold aF
  rw [List.getD_eq_getElem?_getD]
  cases h : xs[j]? with
  | none => exact zero_word
  | some y => exact hw y (List.mem_of_getElem? h)
end Go.Sg
namespace Go.Proofs.Ytngpaibppdehdaa
open Go Go.RowKit Go.Sg

set_option maxHeartbeats 4000000 in
set_option maxRecDepth 100000 in
theorem NetTurns_walk (n : Int) (v : Value) (ls : List Int) (by' : Int) (w : World) (hn : Num n) (hv : SlI .u64 w v ls) (hby : Num by') :
    Calls Try.prog 14 #[.int .i64 n, v, .int .i64 by'] w fun e w' => e = .returned (.bool true) ∧ Below w.heap.size w w' := by
  have KS := Lib.hid (shown5 w)
  have HWX := Lib.hid (SlI_words hv)
  have HV := Lib.hid (Sl1.of_SlI hv)
  obtain ⟨va, vc, rfl⟩ : ∃ a c, v = .slice a ls.length c := by have := HV.out.len; rwa [List.length_map] at this
  have hmx := HV.out.len_le
  rw [List.length_map] at hmx
  unfold maxLen at hmx
  obtain ⟨hb0, hb1⟩ := hby
  clear hv
  by_cases h0 : n < 0
  · have d0 : decide (n < 0) = true := decide_eq_true h0
    go_enter Try.func14, Try.ntmps14
    go_wp2_with fail
    refine KS.out.mono ?_
    rintro e w1 ⟨rfl, hb1⟩
    have HB1 := Lib.hid hb1
    clear hb1
    go_wp2
    go_ret
    exact ⟨rfl, HB1.out⟩
  by_cases h10 : 7 < n
  · have d0 : decide (n < 0) = false := decide_eq_false h0
    have d1 : decide (7 < n) = true := decide_eq_true h10
    go_enter Try.func14, Try.ntmps14
    go_wp2_with fail
    refine KS.out.mono ?_
    rintro e w1 ⟨rfl, hb1⟩
    have HB1 := Lib.hid hb1
    clear hb1
    go_wp2
    go_ret
    exact ⟨rfl, HB1.out⟩
  obtain ⟨t, rfl⟩ : ∃ t : Nat, n = t := ⟨n.toNat, by omega⟩
  have ht : t ≤ 7 := by omega
  have d0 : decide ((t : Int) < 0) = false := decide_eq_false h0
  have d1 : decide (7 < (t : Int)) = false := decide_eq_false h10
  have hN : 2 ^ t ≤ 128 := Nat.le_trans (Nat.pow_le_pow_right (by omega) ht) (by decide)
  have hN0 := Nat.two_pow_pos t
  have hr : rightB ((2 ^ t : Nat) : Int) = true := by
    have := rightB_pow t (by omega)
    rwa [show ((2 ^ t : Nat) : Int) = (2 : Int) ^ t by simp]
  have hW : wrap64 ((2 : Int) ^ t) = ((2 ^ t : Nat) : Int) := by
    have e : ((2 ^ t : Nat) : Int) = (2 : Int) ^ t := by simp
    rw [← e]
    exact (fun (y : Nat) (hy : y ≤ 1024) => (by unfold wrap64; omega : wrap64 (y : Int) = (y : Int))) _ (by omega)
  obtain ⟨N, hNd⟩ : ∃ N, 2 ^ t = N := ⟨_, rfl⟩
  rw [hNd] at hN hN0 hr hW
  obtain ⟨i0, hi, hz0, hz1, hz2⟩ := info_parts info_u64
  have HI := Lib.hid hi
  have HZ := Lib.hid hz0
  have HS := Lib.hid hz1
  have HY := Lib.hid hz2
  clear hi hz0 hz1 hz2
  obtain ⟨c, hc, hcN⟩ : ∃ c : Nat, max 0 (min by' (N : Int)) = c ∧ c ≤ N := ⟨(max 0 (min by' (N : Int))).toNat, by omega, by omega⟩
  go_enter Try.func14, Try.ntmps14
  go_wp2_with fail
  refine KS.out.mono ?_
  rintro e w1 ⟨rfl, hb1⟩
  have HB1 := Lib.hid hb1
  have HV1 := Lib.hid (HV.out.below hb1)
  clear hb1
  go_upto_region 5 with fail
  rw [hW]
  clear hW
  go_upto_region 6 with (first
    | (at_make; go_loud (refine wpList_make_row _ rfl (.tmp 33) (.tmp 33) 34 rfl 39 i0 (.int .u64 0) Try.underlying34 HI.out HZ.out HS.out rfl .i64 .i64 N rfl rfl (by rw [HY.out]; omega) (by omega) ?_))
    | fail)
  obtain ⟨G, hG⟩ : ∃ G, w1.heap.size = G := ⟨_, rfl⟩
  have hrow := World.rowIs_made w1 (.int .u64 0) N 39
  have hbel : Below w1.heap.size w1 (w1.alloc (.cells (madeCells #[.int .u64 0] N) 39)) := (Below.refl _ _).alloc (Nat.le_refl _) _
  have hsz : (w1.alloc (.cells (madeCells #[.int .u64 0] N) 39)).heap.size = G + 1 := by simp [hG]
  rw [hG] at hrow ⊢
  generalize w1.alloc (.cells (madeCells #[.int .u64 0] N) 39) = w2 at *
  go_upto_region 7 with (first
    | (at_make; go_loud (refine wpList_make_row _ rfl (.tmp 35) (.tmp 35) 34 rfl 39 i0 (.int .u64 0) Try.underlying34 HI.out HZ.out HS.out rfl .i64 .i64 N rfl rfl (by rw [HY.out]; omega) (by omega) ?_))
    | fail)
  try rw [hsz]
  have hrow2 := World.rowIs_made w2 (.int .u64 0) N 39
  have hrow1 : (w2.alloc (.cells (madeCells #[.int .u64 0] N) 39)).rowIs G 39 N (fun _ => .int .u64 0) := hrow.of_block (Below.heap_alloc _ _ _ (by omega))
  have hbel2 : Below w1.heap.size w1 (w2.alloc (.cells (madeCells #[.int .u64 0] N) 39)) := hbel.alloc hbel.size _
  rw [hsz] at hrow2
  have HR1 := Lib.hid hrow1
  have HR2 := Lib.hid hrow2
  have HB := Lib.hid hbel2
  have HGw : Hid (w1.heap.size ≤ G) := Lib.hid (by omega)
  clear hrow hbel hrow1 hrow2 hbel2 hsz hG
  generalize w2.alloc (.cells (madeCells #[.int .u64 0] N) 39) = w3 at *
  go_wp2_with fail
  go_loopw [11] (fun i wr => ∃ k : Nat, k ≤ N ∧ i = .int .i64 k ∧ Hid (wr.rowIs G 39 N (fun j => .int .u64 (aK ls k j))) ∧ Hid (wr.rowIs (G + 1) 39 N (fun j => .int .u64 (bK ls N c k j))) ∧ Hid (Below w1.heap.size w1 wr)) (fun i _ => N - (intOf i).toNat)
  case atStart => exact ⟨0, by omega, rfl, HR1, HR2, HB⟩
  case round =>
    obtain ⟨k, hk, rfl, HF1, HF2, HW⟩ := hrel
    by_cases hlt : k < N
    · have HA := Lib.hid (fun j => aK_step ls k j)
      have HBk := Lib.hid (fun j (hj : j < N) => bK_step ls hcN hlt hj)
      obtain ⟨p, hp⟩ : ∃ p, (k + c) % N = p := ⟨_, rfl⟩
      have hpN : p < N := by rw [← hp]; exact Nat.mod_lt _ hN0
      have hrem : ((k : Int) + (c : Int)).tmod (N : Int) = (p : Int) := by
        rw [← hp, Int.tmod_eq_emod_of_nonneg (by omega)]
        simp
      rw [hp] at HBk
      have hw1 : IntKind.i64.wrap ((k : Int) + (c : Int)) = (k : Int) + (c : Int) := by rw [IntKind.wrap_i64]; omega
      have hw2 : IntKind.i64.wrap (p : Int) = (p : Int) := by rw [IntKind.wrap_i64]; omega
      have hN1 : ¬ ((N : Int) = 0) := by omega
      have hN2 : ¬ (N = 0) := by omega
      obtain ⟨x, hx⟩ : ∃ x : Int, (if (N : Int) < by' then (N : Int) else by') = x := ⟨_, rfl⟩
      have hx2 : (if 0 < x then x else 0) = (c : Int) := by
        rw [← hc, ← hx]
        split <;> split <;> omega
      have cG1 : wr.cell? ⟨G, k, none⟩ = some (.int .u64 (aK ls k k)) := HF1.out.cell hlt
      have fG1 : wr.frozen? ⟨G, k, none⟩ = false := HF1.out.frozen k
      by_cases hll : k < ls.length
      focus
        have d2 : decide ((k : Int) < (ls.length : Int)) = true := decide_eq_true (by omega)
        obtain ⟨b, off, cap, hvv, hvlt, hvc⟩ := HV1.out.at (fun e => by rw [e] at hll; cases hll)
        simp only [Value.slice.injEq, true_and] at hvv
        obtain ⟨rfl, rfl⟩ := hvv
        have cL : wr.cell? ⟨b, off + k, none⟩ = some (.int .u64 ls[k]) := (HW.out.cell (p := ⟨b, off + k, none⟩) hvlt).trans (hvc k hll)
        have HE : Hid (ls[k] = aF ls k) := Lib.hid (by simp [aF, hll])
        clear hvc
        generalize ls[k] = y at *
        go_upto_region 12 with fail
        have HF3 := Lib.hid ((HF1.out.set k (.int .u64 y)).congr (g := fun j => .int .u64 (aK ls (k + 1) j)) fun j _ => by rw [HA.out, ← HE.out]; split <;> rfl)
        have HF4 := Lib.hid (HF2.out.setOther (a := ⟨G, k, none⟩) (by show G + 1 ≠ G; omega) (.int .u64 y))
        have HW4 := Lib.hid (HW.out.setCell (p := ⟨G, k, none⟩) HGw.out (.int .u64 y))
        generalize wr.setCell ⟨G, k, none⟩ (.int .u64 y) = w4 at *
      rotate_left
      focus
        have d2 : decide ((k : Int) < (ls.length : Int)) = false := decide_eq_false (by omega)
        go_upto_region 12 with fail
        have HF3 := Lib.hid (HF1.out.congr (g := fun j => .int .u64 (aK ls (k + 1) j)) fun j _ => by
          rw [HA.out]
          split
          · rename_i e; subst e; simp [aK, aF, show ls.length ≤ j by omega]
          · rfl)
        have HF4 := HF2
        have HW4 := HW
        generalize wr = w4 at *
      all_goals
        have cA : w4.cell? ⟨G, k, none⟩ = some (.int .u64 (aF ls k)) := by
          have := HF3.out.cell hlt
          rw [HA.out, if_pos rfl] at this
          exact this
        have cB : w4.cell? ⟨G + 1, p, none⟩ = some (.int .u64 (bK ls N c k p)) := HF4.out.cell hpN
        have fB : w4.frozen? ⟨G + 1, p, none⟩ = false := HF4.out.frozen p
        clear cG1 fG1
        go_region_held3 (fun w' => w'.cell? ⟨G, k, none⟩ = some (.int .u64 (aF ls k))) (first | exact cA | exact (World.cell?_setCell_far w4 _ _ _ (show G + 1 ≠ G by omega)).trans cA) (first | fail)
        go_wp2
        go_roundw
        case rel =>
          exact ⟨k + 1, by omega, by go_num, Lib.hid (HF3.out.setOther (a := ⟨G + 1, p, none⟩) (by show G ≠ G + 1; omega) _).drew, Lib.hid ((HF4.out.set p _).drew.congr fun j hj => by rw [HBk.out j hj]; split <;> rfl), Lib.hid (HW4.out.setCell (p := ⟨G + 1, p, none⟩) (by show w1.heap.size ≤ G + 1; have := HGw.out; omega) _).drew⟩
        case measure => simp [intOf]; omega
    · obtain rfl : k = N := by omega
      have HSA := Lib.hid (sl1_row HF1.out hN0 (by unfold maxLen; omega))
      have HSB := Lib.hid (sl1_row HF2.out hN0 (by unfold maxLen; omega))
      have HPM : Hid (((List.range k).map (bK ls k c k)).Perm ((List.range k).map (aK ls k))) := Lib.hid (by rw [bK_all ls hN0]; exact turn_perm (aK ls k) k c hcN)
      have HWA := Lib.hid (aK_words HWX.out k k)
      have HLA : Hid (((List.range k).map (aK ls k)).length = k) := Lib.hid (by simp)
      have HB3 := Lib.hid (HB1.out.trans (HW.out.mono HB1.out.size))
      generalize (List.range k).map (aK ls k) = xs at *
      generalize (List.range k).map (bK ls k c k) = ys at *
      have HLB := Lib.hid (HPM.out.length_eq.trans HLA.out)
      have HWB : Hid (∀ x ∈ ys, Word x) := Lib.hid fun x hx => HWA.out x (HPM.out.mem_iff.1 hx)
      have HC1 : Hid (∀ j u, (xs.map (Value.int .u64))[j]? = some u → (wr.alloc (.cells #[] 39)).cell? ((⟨G, 0, none⟩ : Addr).add j) = some u) := Lib.hid fun j u hu => by
        rcases HSA.out with ⟨e, _⟩ | ⟨_, b, off, cap, he, _, _, h1, h2⟩
        · rw [e] at hu; cases hu
        · simp only [Value.slice.injEq, Option.some.injEq, Addr.mk.injEq, and_true] at he
          obtain ⟨⟨rfl, rfl⟩, _, _⟩ := he
          obtain ⟨hj, rfl⟩ := List.getElem?_eq_some_iff.1 hu
          rw [addr_add]
          exact (((Below.refl wr.heap.size wr).alloc (Nat.le_refl _) _).cell (p := ⟨G, 0 + j, none⟩) h1).trans (h2 j hj)
      have hl1 : (xs.map (Value.int .u64)).length = k * 1 := by simp [HLA.out]
      have ho1 := words_one xs
      clear HF1 HF2 HW
      go_wp2_with (first
        | (at_builtin; go_loud (refine wpList_append_own_at _ rfl (.tmp 67) (.tmp 68) 34 rfl wr.heap.size 39 i0 (.int .u64 0) 1 8 Try.underlying34 HI.out HZ.out HS.out HY.out rfl (by decide) _ 0 [] rfl ?own ⟨G, 0, none⟩ k k (xs.map (Value.int .u64)) rfl hl1 HC1.out ho1 (by unfold maxLen; omega) (by omega) (by simp) ?_))
        | fail)
      case own => exact ⟨rfl, .inr ⟨wr.heap.size, 0, #[], rfl, Nat.le_refl _, heap_alloc_new wr _, Nat.le_refl _, by simp, rfl, rfl⟩⟩
      intro vc' w4 hown hgrow _ _
      have hown : w4.ownsRow wr.heap.size 39 1 vc' k (xs.map (Value.int .u64)) := by simpa using hown
      have HC4 := Lib.hid (Sl1.of_owns hown)
      have hb4 : Below wr.heap.size wr w4 := ((Below.refl _ _).alloc (Nat.le_refl _) _).grown hgrow (by simp) (fun k hk => Nat.le_of_eq (Option.some.inj hk))
      have HA4 := Lib.hid (HSA.out.below hb4)
      have HB4 := Lib.hid (HSB.out.below hb4)
      have HO4 := Lib.hid (HB3.out.trans (hb4.mono HB3.out.size))
      obtain ⟨ca, cc, rfl⟩ : ∃ a c, vc' = .slice a k c := by have := HC4.out.len; rwa [List.length_map, HLA.out] at this
      clear hown hgrow hb4 HSA HSB HC1 hl1 ho1
      go_wp2_with fail
      refine (netSort_any _ xs (by rw [HLA.out]; exact hr) HWA.out w4 HA4.out).mono ?_
      rintro e w5 ⟨v5, x5, rfl, hs5, hv5, hb5⟩
      have HX := Lib.hid hs5
      have HLX := Lib.hid (hs5.length.trans HLA.out)
      have HWXX := Lib.hid (hs5.words HWA.out)
      obtain ⟨a5, c5, rfl⟩ : ∃ a c, v5 = .slice a k c := by have := hv5.len; rwa [List.length_map, HLX.out] at this
      have H5 := Lib.hid hv5
      have HA5 := Lib.hid (HA4.out.below hb5)
      have HB5 := Lib.hid (HB4.out.below hb5)
      have HC5 := Lib.hid (HC4.out.below hb5)
      have HO5 := Lib.hid (HO4.out.trans (hb5.mono HO4.out.size))
      clear hs5 hv5 hb5 HA4 HB4 HC4 HO4
      go_wp2_with fail
      refine (netSort_any _ ys (by rw [HLB.out]; exact hr) HWB.out w5 HB5.out).mono ?_
      rintro e w6 ⟨v6, y6, rfl, hs6, hv6, hb6⟩
      obtain rfl : y6 = x5 := (hs6.perm HPM.out).uniq HX.out
      obtain ⟨a6, c6, rfl⟩ : ∃ a c, v6 = .slice a k c := by have := hv6.len; rwa [List.length_map, HLX.out] at this
      have H6 := Lib.hid hv6
      have H56 := Lib.hid (H5.out.below hb6)
      have HA6 := Lib.hid (HA5.out.below hb6)
      have HC6 := Lib.hid (HC5.out.below hb6)
      have HO6 := Lib.hid (HO5.out.trans (hb6.mono HO5.out.size))
      clear hs6 hv6 hb6 HA5 HB5 HC5 HO5 H5
      go_wp2_with fail
      refine (netSort_any _ y6 (by rw [HLX.out]; exact hr) HWXX.out w6 H56.out).mono ?_
      rintro e w7 ⟨v7, z7, rfl, hs7, hv7, hb7⟩
      obtain rfl : z7 = y6 := HX.out.again hs7
      obtain ⟨a7, c7, rfl⟩ : ∃ a c, v7 = .slice a k c := by have := hv7.len; rwa [List.length_map, HLX.out] at this
      have H7 := Lib.hid hv7
      have H57 := Lib.hid (H56.out.below hb7)
      have H67 := Lib.hid (H6.out.below hb7)
      have HA7 := Lib.hid (HA6.out.below hb7)
      have HC7 := Lib.hid (HC6.out.below hb7)
      have HO7 := Lib.hid (HO6.out.trans (hb7.mono HO6.out.size))
      clear hs7 hv7 hb7 HA6 HC6 HO6 H56 H6
      go_wp2_with fail
      refine (same5_any _ _ z7 z7 _ H57.out H67.out).mono ?_
      rintro e w8 ⟨rfl, hb8⟩
      rw [decide_eq_true rfl]
      have H78 := Lib.hid (H7.out.below hb8)
      have H58 := Lib.hid (H57.out.below hb8)
      have HA8 := Lib.hid (HA7.out.below hb8)
      have HC8 := Lib.hid (HC7.out.below hb8)
      have HO8 := Lib.hid (HO7.out.trans (hb8.mono HO7.out.size))
      clear hb8 H7 H57 H67 HA7 HC7 HO7
      go_wp2_with fail
      refine (same5_any _ _ z7 z7 _ H78.out H58.out).mono ?_
      rintro e w9 ⟨rfl, hb9⟩
      rw [decide_eq_true rfl]
      have HA9 := Lib.hid (HA8.out.below hb9)
      have HC9 := Lib.hid (HC8.out.below hb9)
      have HO9 := Lib.hid (HO8.out.trans (hb9.mono HO8.out.size))
      clear hb9 H78 H58 HA8 HC8 HO8
      go_wp2_with fail
      refine (same5_any _ _ xs xs _ HA9.out HC9.out).mono ?_
      rintro e wA ⟨rfl, hbA⟩
      rw [decide_eq_true rfl]
      have HOA := Lib.hid (HO9.out.trans (hbA.mono HO9.out.size))
      clear hbA HA9 HC9 HO9
      go_wp2
      go_ret
      exact ⟨rfl, HOA.out⟩
end Go.Proofs.Ytngpaibppdehdaa
