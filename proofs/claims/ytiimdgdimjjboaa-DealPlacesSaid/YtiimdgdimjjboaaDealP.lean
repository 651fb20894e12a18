/-
  Who goes where: the dealing, in plain Lean: who is dealt a place, who is lost, what is left.
-/
import Derived.Test.YtiimdgdimjjboaaDealD
namespace Go.Sg
open Go Go.RowKit
/-- the places that a dealer has passed -/
def usedD (s : Sh) (x : Ds) (p : Int) : Prop := ((x.1 + 1) * s.2.1 ≤ p ∧ p < levelsD s) ∨ (x.1 * s.2.1 ≤ p ∧ p < x.1 * s.2.1 + x.2.1) ∨ (levelsD s ≤ p ∧ p < levelsD s + x.2.2)
theorem mulS {a b S : Int} (h : a ≤ b) (hS : 0 ≤ S) : a * S ≤ b * S := Int.mul_le_mul_of_nonneg_right h hS
theorem levels_mul (s : Sh) : levelsD s = s.1 * s.2.1 + s.2.1 := by unfold levelsD; rw [Int.mul_add, Int.mul_one, Int.mul_comm]
theorem used_sink {s : Sh} {x : Ds} {deep : Int} (hs : rightD s = true) (hx : DsOk s x) (p : Int) (h : usedD s x p) : usedD s (sinkD x deep) p := by
  rw [rightD_iff] at hs
  unfold sinkD
  split
  · rename_i hlt
    have h1 : (deep + 1) * s.2.1 ≤ x.1 * s.2.1 := mulS (by omega) (by omega)
    have h2 : x.1 * s.2.1 ≤ s.1 * s.2.1 := mulS hx.2.1 (by omega)
    have h3 := levels_mul s
    have h4 : (x.1 + 1) * s.2.1 = x.1 * s.2.1 + s.2.1 := by rw [Int.add_mul, Int.one_mul]
    unfold usedD at *
    obtain ⟨_, _, o1, o2, o3, o4⟩ := hx
    simp only
    rcases h with h | h | h
    · exact .inl ⟨by omega, h.2⟩
    · exact .inl ⟨by omega, by omega⟩
    · exact .inr (.inr h)
  · exact h
theorem take_spec {s : Sh} {x : Ds} (hs : rightD s = true) (hx : DsOk s x) :
    (∀ p, usedD s x p → usedD s (takeD s x).2 p) ∧ (0 ≤ (takeD s x).1 → (takeD s x).1 < levelsD s + s.2.2 ∧ ¬ usedD s x (takeD s x).1 ∧ usedD s (takeD s x).2 (takeD s x).1) := by
  have hlb := levelsD_bd hs
  rw [rightD_iff] at hs
  obtain ⟨o0, o00, o1, o2, o3, o4⟩ := hx
  have h3 := levels_mul s
  have h4 : (x.1 + 1) * s.2.1 = x.1 * s.2.1 + s.2.1 := by rw [Int.add_mul, Int.one_mul]
  unfold takeD
  split
  · rename_i hneg
    have ha : x.1 = -1 := by omega
    have h5 : x.1 * s.2.1 = - s.2.1 := by rw [ha]; omega
    split
    · exact ⟨fun p h => h, fun h => by simp only at h; omega⟩
    · refine ⟨fun p h => ?_, fun _ => ⟨by simp only; omega, ?_, ?_⟩⟩
      · unfold usedD at *
        simp only
        rcases h with h | h | h
        · exact .inl h
        · exact .inr (.inl h)
        · exact .inr (.inr ⟨h.1, by omega⟩)
      · unfold usedD
        simp only
        omega
      · unfold usedD
        simp only
        exact .inr (.inr ⟨by omega, by omega⟩)
  · rename_i hneg
    have h6 : x.1 * s.2.1 ≤ s.1 * s.2.1 := mulS o00 (by omega)
    have h7 : 0 ≤ x.1 * s.2.1 := Int.mul_nonneg (by omega) (by omega)
    split
    · rename_i hl
      have h8 : (x.1 - 1 + 1) * s.2.1 = x.1 * s.2.1 := by rw [show x.1 - 1 + 1 = x.1 by omega]
      refine ⟨fun p h => ?_, fun _ => ⟨by simp only; omega, ?_, ?_⟩⟩
      · unfold usedD at *
        simp only
        rw [h8]
        rcases h with h | h | h
        · exact .inl ⟨by omega, h.2⟩
        · exact .inl ⟨by omega, by omega⟩
        · exact .inr (.inr h)
      · unfold usedD
        simp only
        omega
      · unfold usedD
        simp only
        rw [h8]
        exact .inl ⟨by omega, by omega⟩
    · refine ⟨fun p h => ?_, fun _ => ⟨by simp only; omega, ?_, ?_⟩⟩
      · unfold usedD at *
        simp only
        rcases h with h | h | h
        · exact .inl h
        · exact .inr (.inl ⟨h.1, by omega⟩)
        · exact .inr (.inr h)
      · unfold usedD
        simp only
        omega
      · unfold usedD
        simp only
        exact .inr (.inl ⟨by omega, by omega⟩)
theorem next_spec {s : Sh} {x : Ds} {deep : Int} (hs : rightD s = true) (hx : DsOk s x) (hd : 0 ≤ deep) :
    DsOk s (nextD s x deep).2 ∧ (∀ p, usedD s x p → usedD s (nextD s x deep).2 p) ∧ (0 ≤ (nextD s x deep).1 → (nextD s x deep).1 < levelsD s + s.2.2 ∧ ¬ usedD s x (nextD s x deep).1 ∧ usedD s (nextD s x deep).2 (nextD s x deep).1) := by
  have hy := sinkD_ok hx hs hd
  obtain ⟨h1, h2⟩ := take_spec hs hy
  unfold nextD
  refine ⟨takeD_ok hy hs, fun p h => h1 p (used_sink hs hx p h), fun h => ?_⟩
  obtain ⟨h3, h4, h5⟩ := h2 h
  exact ⟨h3, fun h => h4 (used_sink hs hx _ h), h5⟩
/-- how many are below nought -/
def cntN (f : Nat → Int) (n : Nat) : Nat := (List.range n).countP (fun r => decide (f r < 0))
def upd (f : Nat → Int) (k : Nat) (v : Int) : Nat → Int := fun r => if r = k then v else f r
theorem cntN_succ (f : Nat → Int) (n : Nat) : cntN f (n + 1) = cntN f n + if f n < 0 then 1 else 0 := by
  unfold cntN
  rw [List.range_succ, List.countP_append, List.countP_singleton]
  simp
theorem cntN_le (f : Nat → Int) (n : Nat) : cntN f n ≤ n := by
  unfold cntN
  have := List.countP_le_length (p := fun r => decide (f r < 0)) (l := List.range n)
  simpa using this
theorem cntN_congr {f g : Nat → Int} {n : Nat} (h : ∀ r, r < n → f r = g r) : cntN f n = cntN g n := by
  induction n with
  | zero => rfl
  | succ n ih => rw [cntN_succ, cntN_succ, ih (fun r hr => h r (by omega)), h n (by omega)]
theorem cntN_upd {f : Nat → Int} {n k : Nat} {v : Int} (hk : k < n) : cntN (upd f k v) n + (if f k < 0 then 1 else 0) = cntN f n + (if v < 0 then 1 else 0) := by
  induction n with
  | zero => omega
  | succ n ih =>
    rw [cntN_succ, cntN_succ]
    rcases Nat.lt_or_ge k n with h | h
    · have h2 : upd f k v n = f n := by unfold upd; rw [if_neg (by omega)]
      have := ih h
      rw [h2]
      omega
    · obtain rfl : k = n := by omega
      have h2 : upd f k v k = v := by unfold upd; rw [if_pos rfl]
      have h3 : cntN (upd f k v) k = cntN f k := cntN_congr (fun r hr => by unfold upd; rw [if_neg (by omega)])
      rw [h2, h3]
      omega
theorem kept_cnt (f : Nat → Int) (n : Nat) : (keptD f n).length + cntN f n = n := by
  induction n with
  | zero => rfl
  | succ n ih =>
    rw [keptD_succ, cntN_succ]
    by_cases h : 0 ≤ f n
    · rw [if_pos h, if_neg (by omega), List.length_append, List.length_singleton]; omega
    · rw [if_neg h, if_pos (by omega)]; omega
/-- what a dealing has made -/
structure St where
  ds : Ds
  pl : Nat → Int
  lf : Nat → Int
  lost : List Int
def stepSt (s : Sh) (l : List Di) (x : St) (i : Int) : St :=
  if (nextD s x.ds (getD' l i).2).1 < 0 then ⟨(nextD s x.ds (getD' l i).2).2, x.pl, x.lf, x.lost ++ [i]⟩
  else ⟨(nextD s x.ds (getD' l i).2).2, upd x.pl i.toNat (nextD s x.ds (getD' l i).2).1, upd x.lf (nextD s x.ds (getD' l i).2).1.toNat (-1), x.lost⟩
def st0 (s : Sh) : St := ⟨(s.1, 0, 0), fun _ => -1, fun r => r, []⟩
def runSt (s : Sh) (l : List Di) (is : List Int) : St := is.foldl (stepSt s l) (st0 s)
theorem runSt_snoc (s : Sh) (l : List Di) (is : List Int) (i : Int) : runSt s l (is ++ [i]) = stepSt s l (runSt s l is) i := by unfold runSt; rw [List.foldl_append]; rfl
/-- those that are dealt -/
def realO (l : List Di) : List Int := (ordD l).takeWhile (fun i => decide (0 ≤ (getD' l i).2))
structure DInv (s : Sh) (n : Nat) (done : List Int) (x : St) : Prop where
  ok : DsOk s x.ds
  use : ∀ p : Nat, p < n → x.lf p < 0 → usedD s x.ds p
  lfv : ∀ p : Nat, x.lf p = p ∨ x.lf p = -1
  plv : ∀ i : Nat, x.pl i = -1 ∨ (0 ≤ x.pl i ∧ x.pl i < levelsD s + s.2.2)
  new : ∀ i : Nat, (i : Int) ∉ done → x.pl i = -1
  cnt : cntN x.lf n + cntN x.pl n = n
theorem DInv.start (s : Sh) (hs : rightD s = true) (n : Nat) : DInv s n [] (st0 s) := by
  have hs' := rightD_iff.1 hs
  refine ⟨⟨by show -1 ≤ s.1; omega, by show s.1 ≤ s.1; omega, by show (0 : Int) ≤ 0; omega, by show 0 < s.2.1; omega, by show (0 : Int) ≤ 0; omega, by show 0 ≤ s.2.2; omega⟩, fun p _ h => by have : (p : Int) < 0 := h; omega, fun p => .inl rfl, fun i => .inl rfl, fun i _ => rfl, ?_⟩
  have h1 : cntN (st0 s).lf n = 0 := by
    unfold cntN
    rw [List.countP_eq_zero]
    intro r _
    have hr : ¬ ((r : Int) < 0) := by omega
    simp [st0, hr]
  have h2 : cntN (st0 s).pl n = n := by
    unfold cntN
    have := (List.countP_eq_length (p := fun r => decide ((st0 s).pl r < 0)) (l := List.range n)).2 (fun r _ => by simp [st0])
    simpa using this
  omega
theorem DInv.step {s : Sh} {n : Nat} {done : List Int} {x : St} {l : List Di} {i : Int} (hs : rightD s = true) (hn : (n : Int) = levelsD s + s.2.2 + 1) (h : DInv s n done x) (hi0 : 0 ≤ i) (hin : i < n) (hid : i ∉ done) (hd : 0 ≤ (getD' l i).2) :
    DInv s n (done ++ [i]) (stepSt s l x i) ∧ (0 ≤ (nextD s x.ds (getD' l i).2).1 → (nextD s x.ds (getD' l i).2).1.toNat < n) := by
  obtain ⟨h1, h2, h3⟩ := next_spec hs h.ok hd
  unfold stepSt
  generalize nextD s x.ds (getD' l i).2 = r at *
  by_cases hneg : r.1 < 0
  · rw [if_pos hneg]
    exact ⟨⟨h1, fun p hp hl => h2 _ (h.use p hp hl), h.lfv, h.plv, fun j hj => h.new j (fun hm => hj (List.mem_append_left _ hm)), h.cnt⟩, fun h0 => by omega⟩
  · rw [if_neg hneg]
    obtain ⟨h4, h5, h6⟩ := h3 (by omega)
    have hlt : r.1.toNat < n := by omega
    refine ⟨⟨h1, fun p hp hl => ?_, fun p => ?_, fun j => ?_, fun j hj => ?_, ?_⟩, fun _ => hlt⟩
    · simp only [upd] at hl
      by_cases hpe : p = r.1.toNat
      · have : (p : Int) = r.1 := by omega
        rw [this]
        exact h6
      · rw [if_neg hpe] at hl
        exact h2 _ (h.use p hp hl)
    · simp only [upd]
      by_cases hpe : p = r.1.toNat
      · rw [if_pos hpe]; exact .inr rfl
      · rw [if_neg hpe]; exact h.lfv p
    · simp only [upd]
      by_cases hpe : j = i.toNat
      · rw [if_pos hpe]; exact .inr ⟨by omega, h4⟩
      · rw [if_neg hpe]; exact h.plv j
    · simp only [upd]
      have hne : j ≠ i.toNat := fun e => hj (List.mem_append_right _ (by rw [List.mem_singleton]; omega))
      rw [if_neg hne]
      exact h.new j (fun hm => hj (List.mem_append_left _ hm))
    · have c1 := cntN_upd (f := x.lf) (v := -1) hlt
      have c2 := cntN_upd (f := x.pl) (v := r.1) (show i.toNat < n by omega)
      have hp0 : x.pl i.toNat = -1 := h.new i.toNat (by rwa [show ((i.toNat : Nat) : Int) = i by omega])
      have hl0 : ¬ x.lf r.1.toNat < 0 := fun hl => h5 (by
        have := h.use r.1.toNat hlt hl
        rwa [show ((r.1.toNat : Nat) : Int) = r.1 by omega] at this)
      rw [if_neg hl0, if_pos (by omega)] at c1
      rw [hp0, if_pos (by omega), if_neg hneg] at c2
      have := h.cnt
      show cntN (upd x.lf r.1.toNat (-1)) n + cntN (upd x.pl i.toNat r.1) n = n
      omega
/-- those that have no place are given the places that are left, one behind the other -/
def fillL : List Int → List Int → List Int
  | [], _ => []
  | p :: ps, lf => if p < 0 then lf.headD 0 :: fillL ps lf.tail else p :: fillL ps lf
theorem fillL_len : ∀ (ps lf : List Int), (fillL ps lf).length = ps.length
  | [], _ => rfl
  | p :: ps, lf => by
    unfold fillL
    split <;> simp [fillL_len]
end Go.Sg
