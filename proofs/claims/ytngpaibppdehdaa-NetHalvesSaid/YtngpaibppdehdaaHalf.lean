/-
  A network's first pairs, and those of half as many places: plain facts.
-/
import Derived.Test.YtngpaibppdehdaaNetLen
namespace Go.Sg
open Go
theorem stageP_half (k j h : Nat) : ∀ m, (stageP k j m).filter (fun p => decide (p.1 < h)) = stageP k j (min m h)
  | 0 => by simp [stageP]
  | m + 1 => by
    have ih := stageP_half k j h m
    show (stageP k j m ++ _).filter _ = _
    rw [List.filter_append, ih]
    by_cases hm : m < h
    · rw [Nat.min_eq_left (Nat.le_of_lt hm), Nat.min_eq_left hm]
      show _ = stageP k j m ++ _
      congr 1
      split <;> simp [hm]
    · rw [Nat.min_eq_right (by omega), Nat.min_eq_right (by omega)]
      split <;> simp [hm]
theorem mergeP_half (k h : Nat) : ∀ s, (mergeP (2 * h) k s).filter (fun p => decide (p.1 < h)) = mergeP h k s
  | 0 => rfl
  | s + 1 => by
    show (stageP k (2 ^ s) (2 * h) ++ mergeP (2 * h) k s).filter _ = stageP k (2 ^ s) h ++ mergeP h k s
    rw [List.filter_append, stageP_half, mergeP_half k h s, Nat.min_eq_right (by omega)]
theorem netP_half (h : Nat) : ∀ s, (netP (2 * h) s).filter (fun p => decide (p.1 < h)) = netP h s
  | 0 => rfl
  | s + 1 => by
    show (netP (2 * h) s ++ mergeP (2 * h) (2 ^ (s + 1)) (s + 1)).filter _ = netP h s ++ mergeP h (2 ^ (s + 1)) (s + 1)
    rw [List.filter_append, netP_half h s, mergeP_half]
theorem stageP_up {k j n : Nat} (hk : n ≤ k) : ∀ m, m ≤ n → ∀ p, p ∈ stageP k j m → p.2.2 = true
  | 0, _, p, hp => by simp [stageP] at hp
  | m + 1, hm, p, hp => by
    rcases List.mem_append.1 (show p ∈ stageP k j m ++ _ from hp) with h | h
    · exact stageP_up hk m (by omega) p h
    · split at h
      · obtain rfl : p = (m, m + j, decide (m / k % 2 = 0)) := by simpa using h
        show decide (m / k % 2 = 0) = true
        rw [Nat.div_eq_of_lt (by omega)]
        rfl
      · simp at h
theorem mergeP_up {k n : Nat} (hk : n ≤ k) : ∀ s p, p ∈ mergeP n k s → p.2.2 = true
  | 0, p, hp => by simp [mergeP] at hp
  | s + 1, p, hp => by
    rcases List.mem_append.1 (show p ∈ stageP k (2 ^ s) n ++ mergeP n k s from hp) with h | h
    · exact stageP_up hk n (Nat.le_refl _) p h
    · exact mergeP_up hk s p h
/-- what is counted up to a place that is counted is that one's place among the counted -/
theorem filter_at {α : Type} (q : α → Bool) (l : List α) (i : Nat) (hi : i < l.length) (hq : q l[i] = true) : (l.filter q)[((l.take i).filter q).length]? = some l[i] := by
  have h : l.filter q = (l.take i).filter q ++ l[i] :: (l.drop (i + 1)).filter q := by
    have h1 : l = l.take i ++ l[i] :: l.drop (i + 1) := by rw [← List.drop_eq_getElem_cons hi, List.take_append_drop]
    have h2 := congrArg (List.filter q) h1
    rw [List.filter_append, List.filter_cons, if_pos hq] at h2
    exact h2
  rw [h, List.getElem?_append_right (Nat.le_refl _), Nat.sub_self]
  rfl
theorem filter_next {α : Type} (q : α → Bool) (l : List α) (i : Nat) (hi : i < l.length) : ((l.take (i + 1)).filter q).length = ((l.take i).filter q).length + (if q l[i] then 1 else 0) := by
  rw [List.take_succ_eq_append_getElem hi, List.filter_append, List.length_append]
  cases h : q l[i] <;> simp [h]
/-- a network of 2^(s+1) places -/
structure HalfFacts (s : Nat) (ps qs : List Pr) : Prop where
  len : ps.length = 2 * qs.length + 2 ^ s * (s + 1)
  ok : ∀ i (h : i < ps.length), i < 2 * qs.length → ps[i].1 < 2 ^ s → qs[((ps.take i).filter (fun p => decide (p.1 < 2 ^ s))).length]? = some ps[i] ∧ ps[i].2.1 < 2 ^ s
  all : ((ps.take (2 * qs.length)).filter (fun p => decide (p.1 < 2 ^ s))).length = qs.length
  up : ∀ i (h : i < ps.length), 2 * qs.length ≤ i → ps[i].2.2 = true
theorem half_facts (s : Nat) : HalfFacts s (netP (2 ^ (s + 1)) (s + 1)) (netP (2 ^ s) s) := by
  have hp : 2 ^ (s + 1) = 2 * 2 ^ s := by rw [Nat.pow_succ]; omega
  have hsplit : netP (2 ^ (s + 1)) (s + 1) = netP (2 ^ (s + 1)) s ++ mergeP (2 ^ (s + 1)) (2 ^ (s + 1)) (s + 1) := rfl
  have hfil : (netP (2 ^ (s + 1)) s).filter (fun p => decide (p.1 < 2 ^ s)) = netP (2 ^ s) s := by rw [hp]; exact netP_half _ _
  have hlen : (netP (2 ^ (s + 1)) s).length = 2 * (netP (2 ^ s) s).length := by
    rw [netP_len, netP_len]
    have h1 := lenT_pow (t := s + 1) s (by omega)
    have h2 := lenT_pow (t := s) s (Nat.le_refl _)
    rw [Nat.add_sub_cancel] at h1
    cases s with
    | zero => rfl
    | succ s =>
      rw [Nat.add_sub_cancel] at h2
      have e : 2 ^ (s + 1) * ((s + 1) * (s + 1 + 1)) = 2 * (2 ^ s * ((s + 1) * (s + 1 + 1))) := by rw [Nat.pow_succ, Nat.mul_comm (2 ^ s) 2, Nat.mul_assoc]
      omega
  have hok := netP_ok (r := s) s (Nat.le_refl _)
  have hm : (mergeP (2 ^ (s + 1)) (2 ^ (s + 1)) (s + 1)).length = 2 ^ s * (s + 1) := by
    rw [mergeP_len, lenM_pow (t := s + 1) (s + 1) (Nat.le_refl _), Nat.add_sub_cancel]
  have hup := mergeP_up (k := 2 ^ (s + 1)) (n := 2 ^ (s + 1)) (Nat.le_refl _) (s + 1)
  rw [hsplit]
  generalize netP (2 ^ s) s = qs at *
  generalize netP (2 ^ (s + 1)) s = fs at *
  generalize mergeP (2 ^ (s + 1)) (2 ^ (s + 1)) (s + 1) = ms at *
  refine ⟨by rw [List.length_append, hlen, hm], fun i h hi hlt => ?_, ?_, fun i h hi => ?_⟩
  · have hif : i < fs.length := by omega
    have e1 : (fs ++ ms)[i] = fs[i] := List.getElem_append_left hif
    have e2 : (fs ++ ms).take i = fs.take i := by rw [List.take_append_of_le_length (by omega)]
    rw [e1] at hlt
    rw [e1, e2]
    have h1 := filter_at (fun p : Pr => decide (p.1 < 2 ^ s)) fs i hif (decide_eq_true hlt)
    rw [hfil] at h1
    exact ⟨h1, (hok _ (List.mem_of_getElem? h1)).2⟩
  · have e2 : (fs ++ ms).take (2 * qs.length) = fs := by rw [List.take_append_of_le_length (by omega), List.take_of_length_le (by omega)]
    rw [e2, hfil]
  · have e1 : (fs ++ ms)[i] = ms[i - fs.length]'(by rw [List.length_append] at h; omega) := List.getElem_append_right (by omega)
    rw [e1]
    exact hup _ (List.getElem_mem _)
end Go.Sg
