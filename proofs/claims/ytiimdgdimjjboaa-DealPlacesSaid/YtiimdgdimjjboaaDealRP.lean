/-
  The dealing as the document says it: the places that are left, found one behind the other: plain facts.
-/
import Derived.Test.YtiimdgdimjjboaaDealX
namespace Go.Sg
open Go Go.RowKit
theorem keptD_up {f : Nat → Int} (hf : ∀ p : Nat, f p = p ∨ f p = -1) : ∀ n, (keptD f n).Pairwise (· < ·) ∧ ∀ x ∈ keptD f n, 0 ≤ x ∧ x < n ∧ f x.toNat = x
  | 0 => by simp [keptD]
  | n + 1 => by
    obtain ⟨h1, h2⟩ := keptD_up hf n
    rw [keptD_succ]
    by_cases h : 0 ≤ f n
    · rw [if_pos h]
      have hn : f n = n := by rcases hf n with e | e <;> omega
      refine ⟨?_, fun x hx => ?_⟩
      · rw [List.pairwise_append]
        refine ⟨h1, by simp, fun x hx y hy => ?_⟩
        rw [List.mem_singleton] at hy
        have := (h2 x hx).2.1
        omega
      · rcases List.mem_append.1 hx with h3 | h3
        · obtain ⟨a, b, c⟩ := h2 x h3
          exact ⟨a, by omega, c⟩
        · rw [List.mem_singleton] at h3
          subst h3
          refine ⟨h, by omega, ?_⟩
          rw [hn, Int.toNat_natCast]
          exact hn
    · rw [if_neg h]
      exact ⟨h1, fun x hx => by obtain ⟨a, b, c⟩ := h2 x hx; exact ⟨a, by omega, c⟩⟩
theorem keptD_in {f : Nat → Int} {n p : Nat} (hp : p < n) (h0 : 0 ≤ f p) : f p ∈ keptD f n := by
  unfold keptD
  rw [List.mem_filter]
  exact ⟨List.mem_map.2 ⟨p, List.mem_range.2 hp, rfl⟩, by simpa using h0⟩
/-- which places are taken, when o that were left are given -/
def tkD (f : Nat → Int) (U : List Int) (o p : Nat) : Bool := decide (f p < 0) || decide ((p : Int) ∈ U.take o)
theorem tk_zero (f : Nat → Int) (U : List Int) (p : Nat) : tkD f U 0 p = decide (f p < 0) := by simp [tkD]
theorem tk_next {f : Nat → Int} {U : List Int} {o u p : Nat} (ho : o < U.length) (hu : U.getD o 0 = u) : tkD f U (o + 1) p = (if p = u then true else tkD f U o p) := by
  have e : U[o] = (u : Int) := by rw [← hu, List.getD_eq_getElem?_getD, List.getElem?_eq_getElem ho]; rfl
  unfold tkD
  rw [List.take_succ_eq_append_getElem ho, e]
  by_cases h : p = u
  · simp [h]
  · rw [if_neg h]
    have : ¬ (p : Int) = (u : Int) := by omega
    simp [this]
theorem tk_find {f : Nat → Int} {n o nx : Nat} (hf : ∀ p : Nat, f p = p ∨ f p = -1) (ho : o < (keptD f n).length) (hb : ∀ p, p < nx → tkD f (keptD f n) o p = true) :
    ∃ u : Nat, (keptD f n).getD o 0 = u ∧ u < n ∧ nx ≤ u ∧ (tkD f (keptD f n) o nx = false → nx = u) ∧ (nx = u → tkD f (keptD f n) o nx = false) := by
  obtain ⟨h1, h2⟩ := keptD_up hf n
  obtain ⟨U, hU⟩ : ∃ U, keptD f n = U := ⟨_, rfl⟩
  have hin : ∀ p : Nat, p < n → 0 ≤ f p → (p : Int) ∈ U := fun p hp h0 => by
    have := keptD_in hp h0
    rw [hU] at this
    rcases hf p with e | e
    · rwa [e] at this
    · omega
  rw [hU] at h1 h2 ho hb ⊢
  obtain ⟨a, b, c⟩ := h2 _ (List.getElem_mem ho)
  have hg : U.getD o 0 = U[o] := by rw [List.getD_eq_getElem?_getD, List.getElem?_eq_getElem ho]; rfl
  have hsplit : U = U.take o ++ (U[o] :: U.drop (o + 1)) := by rw [← List.drop_eq_getElem_cons ho, List.take_append_drop]
  have hlow : ∀ x ∈ U.take o, x < U[o] := by
    have h := h1
    rw [hsplit, List.pairwise_append] at h
    exact fun x hx => h.2.2 x hx _ List.mem_cons_self
  have hup : ∀ x ∈ U.drop (o + 1), U[o] < x := by
    have h := h1
    rw [hsplit, List.pairwise_append, List.pairwise_cons] at h
    exact fun x hx => h.2.1.1 x hx
  have hfree : tkD f U o U[o].toNat = false := by
    unfold tkD
    rw [Bool.or_eq_false_iff, decide_eq_false_iff_not, decide_eq_false_iff_not]
    refine ⟨by rw [c]; omega, fun hm => ?_⟩
    have := hlow _ hm
    omega
  have hle : nx ≤ U[o].toNat := by
    rcases Nat.lt_or_ge U[o].toNat nx with h | h
    · have := hb _ h
      rw [hfree] at this
      cases this
    · exact h
  refine ⟨U[o].toNat, by rw [hg]; omega, by omega, hle, fun h => ?_, fun h => by rw [h]; exact hfree⟩
  unfold tkD at h
  rw [Bool.or_eq_false_iff, decide_eq_false_iff_not, decide_eq_false_iff_not] at h
  have hm := hin nx (by omega) (by omega)
  rw [hsplit] at hm
  rcases List.mem_append.1 hm with h3 | h3
  · exact absurd h3 h.2
  · rcases List.mem_cons.1 h3 with h4 | h4
    · omega
    · have := hup _ h4
      omega
theorem keptD_up_free {kp : List Int} {lf : Nat → Int} {k o u : Nat} (hf : ∀ p : Nat, lf p = p ∨ lf p = -1) (hk : keptD lf k = kp) (ho : o < kp.length) (hu : kp.getD o 0 = u) : tkD lf kp o u = false := by
  subst hk
  obtain ⟨h1, h2⟩ := keptD_up hf k
  have e : (keptD lf k)[o] = (u : Int) := by rw [← hu, List.getD_eq_getElem?_getD, List.getElem?_eq_getElem ho]; rfl
  obtain ⟨a, b, c⟩ := h2 _ (List.getElem_mem ho)
  rw [e, Int.toNat_natCast] at c
  unfold tkD
  rw [Bool.or_eq_false_iff, decide_eq_false_iff_not, decide_eq_false_iff_not]
  refine ⟨by omega, fun hm => ?_⟩
  obtain ⟨j, hj, hj2⟩ := List.mem_iff_getElem.1 hm
  rw [List.getElem_take, ← e] at hj2
  rw [List.length_take] at hj
  have := (List.pairwise_iff_getElem.1 h1) j o (by omega) ho (by omega)
  omega
end Go.Sg
