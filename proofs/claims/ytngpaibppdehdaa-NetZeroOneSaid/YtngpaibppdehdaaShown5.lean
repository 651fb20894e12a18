/-
  Slices of pairs; the head of chapter 5's laws.
-/
import Derived.Test.YtngpaibppdehdaaNet
import Derived.Laws.StructEq
import Derived.Test.YtngpaibppdehdaaCellEq
namespace Go.Proofs.Ytngpaibppdehdaa
open Go Go.RowKit Go.Sg
/-- The slice v reads as the pairs ps. -/
def SlP (w : World) (v : Value) (ps : List Pr) : Prop :=
  ∃ a cap, v = .slice a ps.length cap ∧ ps.length ≤ cap ∧ cap ≤ maxLen ∧ (ps ≠ [] → ∃ b off, a = some ⟨b, off, none⟩ ∧ b < w.heap.size ∧ w.rangeAt b off (prsV ps))
theorem SlP.below {w w' : World} {v : Value} {ps : List Pr} (h : SlP w v ps) (hb : Below w.heap.size w w') : SlP w' v ps := by
  obtain ⟨a, cap, rfl, h1, h2, h3⟩ := h
  refine ⟨a, cap, rfl, h1, h2, fun hn => ?_⟩
  obtain ⟨b, off, rfl, hlt, hr⟩ := h3 hn
  exact ⟨b, off, rfl, Nat.lt_of_lt_of_le hlt hb.size, fun j u hu => (hb.cell (p := ⟨b, off + j, none⟩) hlt).trans (hr j u hu)⟩
theorem SlP.of_owns {w : World} {base : Nat} {e : TypeId} {v : Value} {ps : List Pr} (h : w.ownsRow base e 3 v ps.length (prsV ps)) : SlP w v ps := by
  rcases h.2 with ⟨rfl, h0⟩ | ⟨g, cap, cur, rfl, hb, hg, hn, hm, hsz, ht⟩
  · have : ps = [] := List.length_eq_zero_iff.1 h0
    subst this
    exact ⟨none, 0, rfl, Nat.le_refl _, by simp, fun h => absurd rfl h⟩
  · refine ⟨_, cap, rfl, hn, hm, fun _ => ⟨g, 0, rfl, lt_of_block hg, fun j u hu => ?_⟩⟩
    rw [Nat.zero_add, cell_of_row w g j cur e (0, 0) hg]
    rw [← ht, List.getElem?_take] at hu
    split at hu
    · simpa using hu
    · simp at hu
theorem prsV_len (ps : List Pr) : (prsV ps).length = ps.length * 3 := by
  induction ps with
  | nil => rfl
  | cons e es ih => simp only [prsV, List.flatMap_cons, List.length_append, List.length_cons] at ih ⊢; rw [ih]; simp [prc]; omega
theorem prsV_at (ps : List Pr) (k : Nat) (hk : k < ps.length) (j : Nat) (u : Value) (h : (prc ps[k])[j]? = some u) : (prsV ps)[k * 3 + j]? = some u := by
  induction ps generalizing k with
  | nil => cases hk
  | cons e es ih =>
    have h3 : prsV (e :: es) = prc e ++ prsV es := rfl
    rw [h3]
    cases k with
    | zero =>
      have hj : j < 3 := by
        have := (List.getElem?_eq_some_iff.1 h).1
        simpa [prc] using this
      rw [Nat.zero_mul, Nat.zero_add, List.getElem?_append_left (by simpa [prc] using hj)]
      exact h
    | succ k =>
      have : (k + 1) * 3 + j = (prc e).length + (k * 3 + j) := by simp [prc]; omega
      rw [this, List.getElem?_append_right (by omega), Nat.add_sub_cancel_left]
      exact ih k (by simpa using hk) (by simpa using h)
/-- the cells of one of the pairs -/
theorem SlP.at {w : World} {b off cap n : Nat} {ps : List Pr} (h : w.rangeAt b off (prsV ps)) (k : Nat) (hk : k < ps.length) :
    w.cell? ⟨b, off + k * 3, none⟩ = some (.int .i64 (ps[k].1 : Int)) ∧ w.cell? ⟨b, off + k * 3 + 1, none⟩ = some (.int .i64 (ps[k].2.1 : Int)) ∧ w.cell? ⟨b, off + k * 3 + 2, none⟩ = some (.bool ps[k].2.2) := by
  refine ⟨?_, ?_, ?_⟩
  · exact h (k * 3 + 0) _ (prsV_at ps k hk 0 _ rfl)
  · rw [Nat.add_assoc]; exact h (k * 3 + 1) _ (prsV_at ps k hk 1 _ rfl)
  · rw [Nat.add_assoc]; exact h (k * 3 + 2) _ (prsV_at ps k hk 2 _ rfl)

set_option maxRecDepth 100000 in
theorem shown5 (w : World) : Calls Try.prog 25 #[] w fun e w' => e = .returned (.bool true) ∧ Below w.heap.size w w' := by
  have KP := Lib.hid (netPairs_yes 2 (by omega) w)
  rw [show ((2 ^ 2 : Nat) : Int) = 4 from rfl, show netP (2 ^ 2) 2 = [(0, 1, true), (2, 3, false), (0, 2, true), (1, 3, true), (0, 1, true), (2, 3, true)] from by decide +kernel] at KP
  have KC := Lib.hid (fun w => netCount_yes 2 (by omega) w)
  rw [show ((2 ^ 2 : Nat) : Int) = 4 from rfl, show cntI 2 = 6 from by decide +kernel] at KC
  go_enter Try.func25, Try.ntmps25
  go_wp2_with fail
  refine KP.out.mono ?_
  rintro e w1 ⟨v, rfl, hown, hb⟩
  obtain ⟨a, cap, rfl, s1, s2, s3⟩ := SlP.of_owns hown
  obtain ⟨b, off, rfl, hlt, hr⟩ := s3 (by simp)
  have HR := Lib.hid hr
  have HB := Lib.hid hb
  obtain ⟨c0, c1, c2⟩ := SlP.at (cap := cap) (n := 0) hr 0 (by decide)
  obtain ⟨c3, c4, c5⟩ := SlP.at (cap := cap) (n := 0) hr 1 (by decide)
  obtain ⟨c6, c7, c8⟩ := SlP.at (cap := cap) (n := 0) hr 2 (by decide)
  obtain ⟨c9, c10, c11⟩ := SlP.at (cap := cap) (n := 0) hr 5 (by decide)
  simp only [List.getElem_cons_zero, List.getElem_cons_succ, Nat.zero_mul, Nat.add_zero, Nat.one_mul, Nat.reduceMul, List.length_cons, List.length_nil, Nat.reduceAdd] at c0 c1 c2 c3 c4 c5 c6 c7 c8 c9 c10 c11 s1 s2
  clear hr hb hown s3
  go_wp2_with (first
    | (go_at_call 30; refine (KC.out _).mono ?_; rintro e w' ⟨rfl, rfl⟩)
    | fail)
  go_ret
  exact ⟨rfl, HB.out⟩
end Go.Proofs.Ytngpaibppdehdaa
