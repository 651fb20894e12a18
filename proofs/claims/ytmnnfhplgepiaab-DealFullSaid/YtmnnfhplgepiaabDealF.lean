/-
  Who goes where, if all may lie deepest: in plain Lean.
-/
import Derived.Test.YtmnnfhplgepiaabDealW
namespace Go.Sg
open Go Go.RowKit
/-- the items of the law: the first many may lie deepest, the others are empty -/
def itF (d : Int) (many : Nat) (i : Nat) : Di := ((i : Int), if i < many then d else -1)
def listF (d : Int) (many n : Nat) : List Di := (List.range n).map (itF d many)
theorem listF_len (d : Int) (many n : Nat) : (listF d many n).length = n := by simp [listF]
theorem listF_get (d : Int) (many n : Nat) {i : Nat} (h : i < n) : getD' (listF d many n) (i : Int) = itF d many i := by
  unfold getD' listF
  simp [List.getD_eq_getElem?_getD, h]
theorem listF_ord {d : Int} (hd : 0 ≤ d) (many n : Nat) : ordD (listF d many n) = idx n := by
  refine (ordD_of (by rw [listF_len]) ?_).symm
  have h : ∀ (i j : Nat), i < j → j < n → leO (listF d many n) (i : Int) (j : Int) := fun i j hij hj => by
    have ei := listF_get d many n (i := i) (by omega)
    have ej := listF_get d many n (i := j) hj
    rw [leO_iff, ei, ej]
    unfold itF
    by_cases h1 : i < many <;> by_cases h2 : j < many <;> simp only [h1, h2, if_true, if_false, true_and] <;> omega
  unfold idx
  rw [List.pairwise_map]
  exact List.pairwise_lt_range.imp_of_mem (fun ha hb hab => h _ _ hab (List.mem_range.1 hb))
theorem listF_real {d : Int} (hd : 0 ≤ d) {many n : Nat} (h : many ≤ n) : realO (listF d many n) = idx many := by
  have ht : (ordD (listF d many n)).take many = idx many := by
    rw [listF_ord hd]
    unfold idx
    rw [← List.map_take, List.take_range, Nat.min_eq_left h]
  rw [← ht]
  refine realO_of (fun x hx => ?_) (fun x hx => ?_)
  · rw [ht, idx_mem] at hx
    obtain ⟨k, rfl⟩ := Int.eq_ofNat_of_zero_le hx.1
    rw [listF_get d many n (by omega)]
    unfold itF
    rw [if_pos (by omega)]
    exact hd
  · rw [listF_ord hd] at hx
    obtain ⟨hm, hx2⟩ := List.getElem?_eq_some_iff.1 hx
    rw [idx_len] at hm
    have : x = (many : Int) := by
      rw [← hx2]
      simp [idx]
    rw [this, listF_get d many n hm]
    unfold itF
    rw [if_neg (Nat.lt_irrefl _)]
    simp
def wantD (s : Sh) (i : Nat) : Int := if (i : Int) < levelsD s then (s.1 - (i : Int) / s.2.1) * s.2.1 + (i : Int) % s.2.1 else i
def dsF (s : Sh) (t : Nat) : Ds := if (t : Int) < levelsD s then (s.1 - (t : Int) / s.2.1, (t : Int) % s.2.1, 0) else (-1, 0, (t : Int) - levelsD s)
theorem dsF_zero {s : Sh} (hs : rightD s = true) : dsF s 0 = (s.1, 0, 0) := by
  have := levelsD_bd hs
  unfold dsF
  rw [if_pos (by omega)]
  simp
theorem takeF {s : Sh} (hs : rightD s = true) {t : Nat} (ht : (t : Int) < levelsD s + s.2.2) : nextD s (dsF s t) s.1 = (wantD s t, dsF s (t + 1)) ∧ 0 ≤ wantD s t := by
  have hlb := levelsD_bd hs
  have hlv : levelsD s = s.2.1 * (s.1 + 1) := rfl
  rw [rightD_iff] at hs
  obtain ⟨d, S, st⟩ := s
  simp only at *
  by_cases hlt : (t : Int) < levelsD (d, S, st)
  · have hq := Int.mul_ediv_add_emod (t : Int) S
    have hr0 := Int.emod_nonneg (t : Int) (show S ≠ 0 by omega)
    have hr1 := Int.emod_lt_of_pos (t : Int) (show 0 < S by omega)
    have hq0 : 0 ≤ (t : Int) / S := Int.ediv_nonneg (by omega) (by omega)
    have hqd : (t : Int) / S < d + 1 := Int.ediv_lt_of_lt_mul (by omega) (by rw [Int.mul_comm]; omega)
    have hw : wantD (d, S, st) t = (d - (t : Int) / S) * S + (t : Int) % S := by unfold wantD; rw [if_pos hlt]
    have hds : dsF (d, S, st) t = (d - (t : Int) / S, (t : Int) % S, 0) := by unfold dsF; rw [if_pos hlt]
    have hmul : 0 ≤ (d - (t : Int) / S) * S := Int.mul_nonneg (by omega) (by omega)
    refine ⟨?_, by rw [hw]; omega⟩
    rw [hw, hds]
    unfold nextD sinkD
    rw [if_neg (by simp only; omega)]
    unfold takeD
    rw [if_neg (by simp only; omega)]
    simp only
    have hd1 : S * (d + 1) = S * d + S := by rw [Int.mul_add, Int.mul_one]
    by_cases hl : (t : Int) % S + 1 = S
    · rw [if_pos hl]
      have hu := (Int.ediv_emod_unique (a := (t : Int) + 1) (b := S) (r := 0) (q := (t : Int) / S + 1) (by omega)).2 ⟨by rw [Int.mul_add, Int.mul_one]; omega, by omega, by omega⟩
      congr 1
      unfold dsF
      by_cases h2 : ((t + 1 : Nat) : Int) < levelsD (d, S, st)
      · rw [if_pos h2]
        simp only
        rw [show (((t + 1 : Nat) : Int)) = (t : Int) + 1 by omega, hu.1, hu.2]
        congr 1
        omega
      · rw [if_neg h2]
        have e1 : S * ((t : Int) / S) = S * d := by omega
        have e2 : (t : Int) / S = d := Int.eq_of_mul_eq_mul_left (by omega) e1
        rw [e2]
        congr 1
        · omega
        · congr 1
          omega
    · rw [if_neg hl]
      have hu := (Int.ediv_emod_unique (a := (t : Int) + 1) (b := S) (r := (t : Int) % S + 1) (q := (t : Int) / S) (by omega)).2 ⟨by omega, by omega, by omega⟩
      congr 1
      unfold dsF
      have h2 : ((t + 1 : Nat) : Int) < levelsD (d, S, st) := by
        rcases Int.lt_or_le ((t + 1 : Nat) : Int) (levelsD (d, S, st)) with h | h
        · exact h
        · exfalso
          have e1 : (t : Int) + 1 = S * (d + 1) := by omega
          have e2 : ((t : Int) + 1) % S = 0 := by rw [e1, Int.mul_emod_right]
          omega
      rw [if_pos h2]
      simp only
      rw [show (((t + 1 : Nat) : Int)) = (t : Int) + 1 by omega, hu.1, hu.2]
  · have hw : wantD (d, S, st) t = t := by unfold wantD; rw [if_neg hlt]
    have hds : dsF (d, S, st) t = (-1, 0, (t : Int) - levelsD (d, S, st)) := by unfold dsF; rw [if_neg hlt]
    refine ⟨?_, by rw [hw]; omega⟩
    rw [hw, hds]
    unfold nextD sinkD
    rw [if_neg (by simp only; omega)]
    unfold takeD
    rw [if_pos (by simp only; omega), if_neg (by simp only; omega)]
    simp only
    unfold dsF
    rw [if_neg (by omega)]
    congr 1
    · omega
    · congr 1
      congr 1
      omega
theorem runF {s : Sh} (hs : rightD s = true) {many n : Nat} (hm : (many : Int) ≤ levelsD s + s.2.2) (hn : many ≤ n) : ∀ t : Nat, t ≤ many → (runSt s (listF s.1 many n) (idx t)).ds = dsF s t ∧ (∀ i : Nat, i < t → (runSt s (listF s.1 many n) (idx t)).pl i = wantD s i) ∧ (runSt s (listF s.1 many n) (idx t)).lost = []
  | 0, _ => ⟨(dsF_zero hs).symm, fun i hi => by omega, rfl⟩
  | t + 1, ht => by
    obtain ⟨h1, h2, h3⟩ := runF hs hm hn t (by omega)
    have hix : idx (t + 1) = idx t ++ [(t : Int)] := by unfold idx; rw [List.range_succ, List.map_append]; rfl
    obtain ⟨h4, h5⟩ := takeF hs (t := t) (by omega)
    rw [hix, runSt_snoc]
    generalize runSt s (listF s.1 many n) (idx t) = x at *
    unfold stepSt
    rw [listF_get s.1 many n (by omega)]
    have he : (itF s.1 many t).2 = s.1 := by unfold itF; rw [if_pos (by omega)]
    rw [he, h1, h4, if_neg (by simp only; omega)]
    refine ⟨rfl, fun i hi => ?_, h3⟩
    simp only [upd, Int.toNat_natCast]
    by_cases hit : i = t
    · rw [if_pos hit, hit]
    · rw [if_neg hit]
      exact h2 i (by omega)
theorem full_facts {s : Sh} (hs : rightD s = true) {many n : Nat} (hn : (n : Int) = placesD s) (hm : many + 1 ≤ n) :
    (dealP s (listF s.1 many n)).length = n ∧ dealLost s (listF s.1 many n) = [] ∧ ∀ i : Nat, i < many → (dealP s (listF s.1 many n))[i]? = some (wantD s i) := by
  have hs' := rightD_iff.1 hs
  have hp : placesD s = levelsD s + s.2.2 + 1 := by unfold placesD; rw [if_pos hs]
  have hfit : fitD s (listF s.1 many n) = true := by unfold fitD; rw [hs, listF_len, decide_eq_true hn]; rfl
  have hes : endSt s (listF s.1 many n) = runSt s (listF s.1 many n) (idx many) := by unfold endSt; rw [listF_real (by omega) (by omega)]
  obtain ⟨h1, h2, h3⟩ := runF hs (many := many) (n := n) (by omega) (by omega) many (Nat.le_refl _)
  refine ⟨?_, ?_, fun i hi => ?_⟩
  · unfold dealP
    rw [hfit, if_pos rfl, fillL_len, List.length_map, List.length_range, listF_len]
  · unfold dealLost
    rw [hfit, if_pos rfl, hes]
    exact h3
  · unfold dealP
    rw [hfit, if_pos rfl, listF_len, hes, fill_get _ _ (by omega), h2 i hi, if_neg]
    have := (takeF hs (t := i) (by omega)).2
    omega
end Go.Sg
