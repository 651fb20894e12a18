/-
  Who goes first: plain facts for the laws: items made of numbered places.
-/
import Derived.Test.YtmnnfhplgepiaaaPolM
namespace Go.Sg
/-- items, one of each place -/
def mkI (f : Nat → It) (n : Nat) : List It := (List.range n).map f
theorem mkI_zero (f : Nat → It) : mkI f 0 = [] := rfl
theorem mkI_succ (f : Nat → It) (n : Nat) : mkI f (n + 1) = mkI f n ++ [f n] := by
  unfold mkI; rw [List.range_succ, List.map_append]; rfl
theorem mkI_len (f : Nat → It) (n : Nat) : (mkI f n).length = n := by simp [mkI]
theorem mkI_get (f : Nat → It) (n i : Nat) (h : i < (mkI f n).length) : (mkI f n)[i] = f i := by simp [mkI]
theorem mkI_mem {f : Nat → It} {n : Nat} {x : It} : x ∈ mkI f n ↔ ∃ i, i < n ∧ f i = x := by simp [mkI]
theorem mkI_nodup {f : Nat → It} (hf : ∀ i, (f i).1 = i) (n : Nat) : ((mkI f n).map (·.1)).Nodup := by
  have : (mkI f n).map (·.1) = (List.range n).map (fun i : Nat => (i : Int)) := by
    unfold mkI
    rw [List.map_map]
    apply List.map_congr_left
    intro i _
    exact hf i
  rw [this]
  exact List.Pairwise.map (R := (· ≠ ·)) _ (fun a b h => fun e => h (by omega)) (List.nodup_range (n := n))
theorem cntE_all {l : List It} (h : ∀ x ∈ l, x.2.2 = true) : cntE l = l.length := List.countP_eq_length.2 h
theorem cntE_none {l : List It} (h : ∀ x ∈ l, x.2.2 = false) : cntE l = 0 := List.countP_eq_zero.2 fun x hx => by simp [h x hx]
theorem cntE_succ (f : Nat → It) (n : Nat) : cntE (mkI f (n + 1)) = cntE (mkI f n) + if (f n).2.2 = true then 1 else 0 := by
  rw [mkI_succ, cntE, List.countP_append, cntE]
  congr 1
  rw [List.countP_cons, List.countP_nil]
  simp
/-- all are expired: as many go as the batch -/
theorem go_late {l : List It} (h : ∀ x ∈ l, x.2.2 = true) (hl : (l.length : Int) ≤ 1000000) {b : Int} (h0 : 0 ≤ b) : (goI l l.length b : Int) = min b l.length := by
  unfold goI manyI
  rw [cntE_all h, wrapI_id (by omega) (by omega)]
  omega
theorem go_none {l : List It} (h : ∀ x ∈ l, x.2.2 = false) {b : Int} : goI l l.length b = 0 := by
  unfold goI manyI
  rw [cntE_none h, wrapI_id (by omega) (by omega)]
  omega
/-- each one that goes is of a place -/
theorem vict_place {f : Nat → It} (hf : ∀ i, (f i).1 = i) {n : Nat} {cap b : Int} {i : Nat} (hi : i < (victI (mkI f n) cap b).length) :
    ∃ j : Nat, j < n ∧ (victI (mkI f n) cap b)[i] = j ∧ ∀ h : i < (srtI (mkI f n)).length, (srtI (mkI f n))[i] = f j := by
  have hl : i < goI (mkI f n) cap b := by rwa [victI_len] at hi
  have hs : i < (srtI (mkI f n)).length := by rw [srtI_len]; exact Nat.lt_of_lt_of_le hl (goI_le _ _ _)
  have hm : (srtI (mkI f n))[i] ∈ mkI f n := (srtI_perm _).mem_iff.1 (List.getElem_mem hs)
  obtain ⟨j, hj, e⟩ := mkI_mem.1 hm
  refine ⟨j, hj, ?_, fun _ => e.symm⟩
  have : (victI (mkI f n) cap b)[i] = (srtI (mkI f n))[i].1 := by
    simp only [victI, List.getElem_map, List.getElem_take]
  rw [this, ← e, hf]
/-- .. and they go by their rank -/
theorem vict_rise {f : Nat → It} (hf : ∀ i, (f i).1 = i) {n : Nat} (he : ∀ i, (f i).2.2 = true) (hr : ∀ i, 0 ≤ (f i).2.1 ∧ (f i).2.1 < 4611686018427387904) {cap b : Int} {i : Nat} (hi : i + 1 < (victI (mkI f n) cap b).length) {j k : Nat}
    (hj : (victI (mkI f n) cap b)[i]'(by omega) = j) (hk : (victI (mkI f n) cap b)[i + 1] = k) : (f j).2.1 ≤ (f k).2.1 := by
  have hs : i + 1 < (srtI (mkI f n)).length := by
    rw [victI_len] at hi
    rw [srtI_len]
    exact Nat.lt_of_lt_of_le hi (goI_le _ _ _)
  obtain ⟨j', _, e1, e2⟩ := vict_place hf (i := i) (by omega : i < (victI (mkI f n) cap b).length)
  obtain ⟨k', _, e3, e4⟩ := vict_place hf hi
  have ej : j' = j := by omega
  have ek : k' = k := by omega
  subst ej
  subst ek
  have h := List.pairwise_iff_getElem.1 (srtI_sorted (mkI f n)) i (i + 1) (by omega) hs (by omega)
  rw [e2 (by omega), e4 hs, leI_iff] at h
  unfold keyI at h
  rw [if_pos (he _), if_pos (he _)] at h
  have h1 := hr j'
  have h2 := hr k'
  omega
/-- one that is newer than all goes last -/
theorem late_out {l : List It} {z : It} (hz : ∀ x ∈ l, keyI x < keyI z) {y : Int} (hy : y ∈ ((srtI (l ++ [z])).take l.length).map (·.1)) : ∃ x ∈ l, x.1 = y := by
  have hs : (srtI l ++ [z]).Pairwise leI := by
    rw [List.pairwise_append]
    refine ⟨srtI_sorted l, List.pairwise_singleton _ _, fun x hx y hy => ?_⟩
    rw [List.mem_singleton] at hy
    subst hy
    rw [leI_iff]
    exact .inl (hz x ((srtI_perm l).mem_iff.1 hx))
  rw [← vict_of hs ((srtI_perm l).append_right _), List.take_left' (srtI_len l)] at hy
  obtain ⟨x, hx, e⟩ := List.mem_map.1 hy
  exact ⟨x, (srtI_perm l).mem_iff.1 hx, e⟩
theorem go_all {l : List It} {z : It} (hl : (l.length : Int) ≤ 1000000) : goI (l ++ [z]) 0 l.length = l.length := by
  have hc := cntE_le (l ++ [z])
  unfold goI manyI
  rw [List.length_append, List.length_singleton] at hc ⊢
  rw [wrapI_id (by omega) (by omega)]
  omega
theorem leftI_nil (gone : List Int) : leftI [] gone = [] := rfl
theorem leftI_snoc (l : List It) (x : It) (gone : List Int) : leftI (l ++ [x]) gone = if gone.contains x.1 then leftI l gone else leftI l gone ++ [x] := by
  unfold leftI
  rw [List.filter_append]
  by_cases h : gone.contains x.1 = true
  · rw [if_pos h]
    have : List.filter (fun x => !gone.contains x.1) [x] = [] := by rw [List.filter_eq_nil_iff]; simpa using h
    rw [this, List.append_nil]
  · rw [if_neg h]
    have : List.filter (fun x => !gone.contains x.1) [x] = [x] := by rw [List.filter_eq_self]; simpa using h
    rw [this]
end Go.Sg
