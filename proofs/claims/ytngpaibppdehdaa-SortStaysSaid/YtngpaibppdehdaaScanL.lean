/-
  A memory whose region is looked at whole: plain facts.
-/
import Derived.Test.YtngpaibppdehdaaMemPlain
namespace Go.Sg
open Go Go.RowKit
def readsL (r : Int) (n : Nat) : List Ev := (List.range n).map fun i : Nat => (r, (i : Int), false)
def writesL (r : Int) (n : Nat) : List Ev := (List.range n).flatMap fun i : Nat => [(r, (i : Int), false), (r, (i : Int), true)]
theorem readsL_succ (r : Int) (n : Nat) : readsL r (n + 1) = readsL r n ++ [(r, (n : Int), false)] := by simp [readsL, List.range_succ]
theorem writesL_succ (r : Int) (n : Nat) : writesL r (n + 1) = writesL r n ++ [(r, (n : Int), false), (r, (n : Int), true)] := by simp [writesL, List.range_succ]
theorem readsL_len (r : Int) (n : Nat) : (readsL r n).length = n := by simp [readsL]
theorem writesL_len (r : Int) : ∀ n, (writesL r n).length = 2 * n
  | 0 => rfl
  | n + 1 => by rw [writesL_succ, List.length_append, writesL_len r n]; simp; omega
/-- the first place of some -/
def firstI (p : Nat → Bool) : Nat → Option Nat
  | 0 => none
  | k + 1 => match firstI p k with
    | some i => some i
    | none => if p k then some k else none
def cntI' (p : Nat → Bool) : Nat → Nat
  | 0 => 0
  | k + 1 => cntI' p k + (if p k then 1 else 0)
theorem firstI_some {p : Nat → Bool} : ∀ {n i : Nat}, firstI p n = some i → i < n ∧ p i = true ∧ ∀ j, j < i → p j = false
  | 0, i, h => by cases h
  | n + 1, i, h => by
    simp only [firstI] at h
    cases hf : firstI p n with
    | some j =>
      rw [hf] at h
      cases h
      have := firstI_some hf
      exact ⟨by omega, this.2⟩
    | none =>
      rw [hf] at h
      simp only at h
      split at h
      · rename_i hp
        cases h
        exact ⟨by omega, hp, firstI_none hf⟩
      · cases h
where firstI_none {p : Nat → Bool} : ∀ {n : Nat}, firstI p n = none → ∀ j, j < n → p j = false
  | 0, _, j, hj => by omega
  | n + 1, h, j, hj => by
    simp only [firstI] at h
    cases hf : firstI p n with
    | some i => rw [hf] at h; cases h
    | none =>
      rw [hf] at h
      simp only at h
      split at h
      · cases h
      · rename_i hp
        rcases Nat.lt_or_ge j n with h1 | h1
        · exact firstI_none hf j h1
        · obtain rfl : j = n := by omega
          simpa using hp
theorem firstI_none {p : Nat → Bool} {n : Nat} (h : firstI p n = none) : ∀ j, j < n → p j = false := firstI_some.firstI_none h
theorem firstI_of {p : Nat → Bool} {n i : Nat} (hi : i < n) (hp : p i = true) (hb : ∀ j, j < i → p j = false) : firstI p n = some i := by
  cases h : firstI p n with
  | none => rw [firstI_none h i hi] at hp; cases hp
  | some k =>
    obtain ⟨h1, h2, h3⟩ := firstI_some h
    rcases Nat.lt_trichotomy i k with h4 | h4 | h4
    · rw [h3 i h4] at hp; cases hp
    · rw [h4]
    · rw [hb k h4] at h2; cases h2
theorem cntI'_zero {p : Nat → Bool} : ∀ {n : Nat}, cntI' p n = 0 ↔ firstI p n = none
  | 0 => by simp [cntI', firstI]
  | n + 1 => by
    have ih := cntI'_zero (p := p) (n := n)
    simp only [cntI', firstI]
    cases hf : firstI p n with
    | some i =>
      have : cntI' p n ≠ 0 := fun e => by rw [ih.1 e] at hf; cases hf
      simp only [reduceCtorEq, iff_false]
      omega
    | none =>
      rw [ih.2 hf]
      cases hp : p n <;> simp
theorem cntI'_le (p : Nat → Bool) : ∀ n, cntI' p n ≤ n
  | 0 => Nat.le_refl _
  | n + 1 => by
    have := cntI'_le p n
    simp only [cntI']
    split <;> omega
namespace Mm
/-- looks are noted -/
def noted (M : Mm) (es : List Ev) : Mm := { M with evs := M.evs ++ es }
theorem noted_nil (M : Mm) : M.noted [] = M := by simp [noted]
theorem noted_noted (M : Mm) (a b : List Ev) : (M.noted a).noted b = M.noted (a ++ b) := by simp [noted]
theorem noted_size (M : Mm) (es : List Ev) (r : Int) : (M.noted es).size r = M.size r := rfl
theorem noted_has (M : Mm) (es : List Ev) (r a : Int) : (M.noted es).has r a = M.has r a := rfl
theorem noted_read (M : Mm) (es : List Ev) (r a : Int) : (M.noted es).read r a = M.read r a := rfl
theorem noted_put (M : Mm) (es : List Ev) (r a : Int) (c : List Int) : (M.noted es).put r a c = (M.put r a c).noted es := rfl
theorem noted_evs (M : Mm) (es : List Ev) : (M.noted es).evs = M.evs ++ es := rfl
theorem noted_ok {M : Mm} (h : M.ok) (es : List Ev) : (M.noted es).ok := h
theorem look_noted {M : Mm} {r a : Int} (h : M.has r a = true) (b : Bool) : M.look r a b = M.noted [(r, a, b)] := by simp [look, h, noted]
theorem write_noted {M : Mm} {r a : Int} (h : M.has r a = true) (c : List Int) : M.write r a c = (M.put r a c).noted [(r, a, true)] := by
  unfold write
  rw [if_pos h, look_noted h, noted_put]
theorem has_lt {M : Mm} {r : Int} {k : Nat} (h : k < M.size r) : M.has r (k : Int) = true := by
  simp only [has, Bool.and_eq_true, decide_eq_true_eq]
  omega
theorem has_nat {M : Mm} {r : Int} {k : Nat} : M.has r (k : Int) = decide (k < M.size r) := by
  by_cases h : k < M.size r
  · rw [has_lt h, decide_eq_true h]
  · rw [decide_eq_false h]
    simp only [has, Bool.and_eq_false_iff, decide_eq_false_iff_not]
    omega
theorem put_self {M : Mm} {r a : Int} (h : M.has r a = true) : M.put r a (M.read r a) = M := by
  obtain ⟨i, j, hi, hj, rfl, rfl⟩ := has_spec h
  rw [read_in hi hj]
  unfold put
  have : M.regs.modify (i : Int).toNat (·.set (j : Int).toNat M.regs[i][j]) = M.regs := by
    apply List.ext_getElem (by simp)
    intro n h1 h2
    rw [List.getElem_modify]
    split
    · rename_i e
      simp only [Int.toNat_natCast] at e
      subst e
      simp only [Int.toNat_natCast]
      exact List.set_getElem_self _
    · rfl
  rw [this]
/-- what a Put has made so far -/
def putIf (M : Mm) (b : Bool) (r at' : Int) (c : List Int) (k : Nat) : Mm := if b = true ∧ at' < (k : Int) then M.put r at' c else M
theorem putIf_zero (M : Mm) (b : Bool) (r at' : Int) (c : List Int) (h : 0 ≤ at') : M.putIf b r at' c 0 = M := if_neg (by rintro ⟨_, h2⟩; omega)
theorem putIf_size (M : Mm) (b : Bool) (r at' : Int) (c : List Int) (k : Nat) (x : Int) : (M.putIf b r at' c k).size x = M.size x := by
  unfold putIf
  split
  · exact put_size _ _ _ _ _
  · rfl
theorem putIf_has (M : Mm) (b : Bool) (r at' : Int) (c : List Int) (k : Nat) (x y : Int) : (M.putIf b r at' c k).has x y = M.has x y := has_of_size (putIf_size M b r at' c k) x y
theorem putIf_evs (M : Mm) (b : Bool) (r at' : Int) (c : List Int) (k : Nat) : (M.putIf b r at' c k).evs = M.evs := by
  unfold putIf
  split <;> rfl
theorem putIf_fault (M : Mm) (b : Bool) (r at' : Int) (c : List Int) (k : Nat) : (M.putIf b r at' c k).fault = M.fault := by
  unfold putIf
  split <;> rfl
theorem putIf_ok {M : Mm} (h : M.ok) (b : Bool) (r at' : Int) {c : List Int} (hc : c.length = 12) (hw : ∀ x ∈ c, Word x) (k : Nat) : (M.putIf b r at' c k).ok := by
  unfold putIf
  split
  · exact put_ok h _ _ hc hw
  · exact h
theorem putIf_read {M : Mm} {r at' : Int} (b : Bool) (c : List Int) {n : Nat} (h0 : 0 ≤ at') (hn : n ≤ M.size r) (x y : Int) : (M.putIf b r at' c n).read x y = if b = true ∧ at' < (n : Int) ∧ r = x ∧ at' = y then c else M.read x y := by
  unfold putIf
  by_cases h : b = true ∧ at' < (n : Int)
  · have hh : M.has r at' = true := by simp only [has, Bool.and_eq_true, decide_eq_true_eq]; omega
    rw [if_pos h, read_put c hh]
    by_cases e : r = x ∧ at' = y
    · rw [if_pos e, if_pos ⟨h.1, h.2, e⟩]
    · rw [if_neg e, if_neg (fun h2 => e h2.2.2)]
  · rw [if_neg h, if_neg (fun h2 => h ⟨h2.1, h2.2.1⟩)]
/-- a step of a Put -/
theorem putIf_step {M : Mm} {r at' : Int} {b : Bool} {c : List Int} {k : Nat} (h0 : 0 ≤ at') (hk : k < M.size r) (es : List Ev) :
    (((M.putIf b r at' c k).noted es).look r (k : Int) false).write r (k : Int) (if b = true ∧ (k : Int) = at' then c else M.read r (k : Int)) = (M.putIf b r at' c (k + 1)).noted (es ++ [(r, (k : Int), false), (r, (k : Int), true)]) := by
  have hM : M.has r (k : Int) = true := has_lt hk
  have h1 : ((M.putIf b r at' c k).noted es).has r (k : Int) = true := by rw [noted_has, putIf_has]; exact hM
  have h2 : (((M.putIf b r at' c k).noted es).look r (k : Int) false).has r (k : Int) = true := by rw [look_has]; exact h1
  rw [write_noted h2, look_noted h1, noted_noted, noted_put, noted_noted, List.append_assoc]
  congr 1
  by_cases hb : b = true
  · by_cases e : (k : Int) = at'
    · rw [if_pos ⟨hb, e⟩]
      unfold putIf
      rw [if_neg (fun h => by omega), if_pos ⟨hb, by omega⟩, e]
    · rw [if_neg (fun h => e h.2)]
      have hr : M.read r (k : Int) = (M.putIf b r at' c k).read r (k : Int) := by
        rw [putIf_read b c h0 (by omega), if_neg (fun h => e h.2.2.2.symm)]
      rw [hr, put_self (by rw [putIf_has]; exact hM)]
      unfold putIf
      by_cases hlt : at' < (k : Int)
      · rw [if_pos ⟨hb, hlt⟩, if_pos ⟨hb, by omega⟩]
      · rw [if_neg (fun h => hlt h.2), if_neg (fun h => by omega)]
  · rw [if_neg (fun h => hb h.1)]
    have e1 : ∀ k, M.putIf b r at' c k = M := fun k => if_neg (fun h => hb h.1)
    rw [e1, e1, put_self hM]
/-- the cell that a Get tells, k cells having been looked at -/
def getK (M : Mm) (r at' : Int) (k : Nat) : List Int := if at' < (k : Int) then M.read r at' else zeros
theorem getK_step {M : Mm} {r at' : Int} {k : Nat} : (if (k : Int) = at' then M.read r (k : Int) else M.getK r at' k) = M.getK r at' (k + 1) := by
  unfold getK
  by_cases e : (k : Int) = at'
  · rw [if_pos e, if_pos (by omega), e]
  · rw [if_neg e]
    by_cases h : at' < (k : Int)
    · rw [if_pos h, if_pos (by omega)]
    · rw [if_neg h, if_neg (by omega)]
theorem getK_ok {M : Mm} (h : M.ok) (r at' : Int) (k : Nat) : (M.getK r at' k).length = 12 ∧ ∀ x ∈ M.getK r at' k, Word x := by
  unfold getK
  split
  · exact read_ok h r at'
  · exact ⟨rfl, fun x hx => by simp [zeros] at hx; subst hx; exact ⟨by omega, by omega⟩⟩
/-- a Get -/
theorem getK_all {M : Mm} {r at' : Int} (h0 : 0 ≤ at') : M.getK r at' (M.size r) = M.read r at' := by
  unfold getK
  split
  · rfl
  · rename_i h
    rw [read_nohas]
    simp only [has, Bool.and_eq_false_iff, decide_eq_false_iff_not]
    omega
theorem look_readsL {M : Mm} {r : Int} {k : Nat} (h : k < M.size r) : (M.noted (readsL r k)).look r (k : Int) false = M.noted (readsL r (k + 1)) := by
  rw [look_noted (by rw [noted_has]; exact has_lt h), noted_noted, readsL_succ]
/-- has a cell a word? -/
def keyIs (M : Mm) (r key n : Int) (i : Nat) : Bool := decide (0 ≤ key) && decide (key < 12) && decide ((M.read r (i : Int))[key.toNat]? = some n)
end Mm
end Go.Sg
