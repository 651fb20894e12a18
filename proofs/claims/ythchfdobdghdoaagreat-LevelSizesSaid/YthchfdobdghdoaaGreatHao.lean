/-
  Joined texts: Mem.
-/
import Derived.Test.YthchfdobdghdoaaGreatHad
import Derived.Test.YthchfdobdghdoaaGreatHac
import Derived.Test.YthchfdobdghdoaaGreatHam
import Derived.Laws.AppendOwn
import Derived.Deep.MidRow
set_option linter.unusedVariables false
set_option linter.unusedSimpArgs false
set_option linter.unusedSectionVars false
set_option linter.unnecessarySimpa false
section

/-
  A memory that is watched, as plain data, and how it lies in a world.
-/
namespace Go.Sg
open Go Go.RowKit

/-- One look: the region, the place, was it written? -/
abbrev Ev := Int × Int × Bool
def evV (e : Ev) : List Value := [.int .i64 e.1, .int .i64 e.2.1, .bool e.2.2]
def evsV (es : List Ev) : List Value := es.flatMap evV
theorem evsV_snoc (es : List Ev) (e : Ev) : evsV (es ++ [e]) = evsV es ++ evV e := by simp [evsV]
theorem evsV_append (es fs : List Ev) : evsV (es ++ fs) = evsV es ++ evsV fs := by simp [evsV]
theorem evsV_len (es : List Ev) : (evsV es).length = es.length * 3 := by
  induction es with
  | nil => rfl
  | cons e es ih => simp only [evsV, List.flatMap_cons, List.length_append, List.length_cons] at ih ⊢; rw [ih]; simp [evV]; omega
theorem evsV_one (es : List Ev) : ∀ u ∈ evsV es, u.oneCell' = true := by
  intro u hu
  obtain ⟨e, _, he⟩ := List.mem_flatMap.1 hu
  simp [evV] at he
  rcases he with rfl | rfl | rfl <;> rfl
theorem evsV_drop (es : List Ev) (k : Nat) : (evsV es).drop (k * 3) = evsV (es.drop k) := by
  induction k generalizing es with
  | zero => simp
  | succ k ih =>
    cases es with
    | nil => simp [evsV]
    | cons e es =>
      have : evsV (e :: es) = evV e ++ evsV es := rfl
      rw [this, Nat.add_mul, Nat.one_mul, Nat.add_comm, ← List.drop_drop]
      have h3 : (evV e ++ evsV es).drop 3 = evsV es := by simp [evV]
      rw [h3, ih]
      rfl
def wv (l : List Int) : List Value := l.map (Value.int .u64)
theorem wv_len (l : List Int) : (wv l).length = l.length := by simp [wv]
theorem wv_one (l : List Int) : ∀ v ∈ wv l, v.oneCell' = true := by
  intro v hv
  obtain ⟨_, _, rfl⟩ := List.mem_map.1 hv
  rfl
theorem cw_eq (l : List Int) : cw l = (wv l).toArray := rfl

/-- A memory: cells by regions, looks; was there a fault? -/
structure Mm where
  regs : List (List (List Int))
  evs : List Ev
  fault : Bool
namespace Mm
def size (M : Mm) (r : Int) : Nat := if 0 ≤ r then ((M.regs[r.toNat]?).map List.length).getD 0 else 0
def has (M : Mm) (r a : Int) : Bool := decide (0 ≤ a) && decide (a < (M.size r : Int))
def read (M : Mm) (r a : Int) : List Int := if M.has r a then ((M.regs[r.toNat]?).bind (·[a.toNat]?)).getD zeros else zeros
def look (M : Mm) (r a : Int) (b : Bool) : Mm := if M.has r a then { M with evs := M.evs ++ [(r, a, b)] } else { M with fault := true }
def put (M : Mm) (r a : Int) (c : List Int) : Mm := { M with regs := M.regs.modify r.toNat (·.set a.toNat c) }
def write (M : Mm) (r a : Int) (c : List Int) : Mm := if M.has r a then (M.look r a true).put r a c else M.look r a true
/-- Cells are of twelve words. -/
def ok (M : Mm) : Prop := (∀ g ∈ M.regs, g.length ≤ 4096 ∧ ∀ c ∈ g, c.length = 12 ∧ ∀ x ∈ c, Word x) ∧ M.regs.length ≤ 16 ∧ 1 ≤ M.regs.length
theorem size_in {M : Mm} {r : Nat} (h : r < M.regs.length) : M.size (r : Int) = M.regs[r].length := by simp [size, h]
theorem size_neg {M : Mm} {r : Int} (h : r < 0) : M.size r = 0 := by simp [size, show ¬ 0 ≤ r by omega]
theorem size_out {M : Mm} {r : Nat} (h : M.regs.length ≤ r) : M.size (r : Int) = 0 := by simp [size, h]
theorem size_le {M : Mm} (h : M.ok) (r : Int) : M.size r ≤ 4096 := by
  unfold size
  split
  · cases hr : M.regs[r.toNat]? with
    | none => simp
    | some g =>
      simp only [Option.map_some, Option.getD_some]
      exact (h.1 g (List.mem_of_getElem? hr)).1
  · omega
theorem has_spec {M : Mm} {r a : Int} (h : M.has r a = true) : ∃ (i j : Nat) (hi : i < M.regs.length) (_ : j < M.regs[i].length), r = i ∧ a = j := by
  simp only [has, Bool.and_eq_true, decide_eq_true_eq] at h
  obtain ⟨h0, h1⟩ := h
  have hr : 0 ≤ r := by
    rcases Int.lt_or_le r 0 with h2 | h2
    · rw [size_neg h2] at h1; omega
    · exact h2
  obtain ⟨i, rfl⟩ := Int.eq_ofNat_of_zero_le hr
  obtain ⟨j, rfl⟩ := Int.eq_ofNat_of_zero_le h0
  rcases Nat.lt_or_ge i M.regs.length with h2 | h2
  · rw [size_in h2] at h1
    exact ⟨i, j, h2, by omega, rfl, rfl⟩
  · rw [size_out h2] at h1; omega
theorem read_in {M : Mm} {i j : Nat} (hi : i < M.regs.length) (hj : j < M.regs[i].length) : M.read (i : Int) (j : Int) = M.regs[i][j] := by
  have hh : M.has (i : Int) (j : Int) = true := by simp [has, size_in hi, hj]
  simp [read, hh, hi, hj]
theorem look_regs (M : Mm) (r a : Int) (b : Bool) : (M.look r a b).regs = M.regs := by unfold look; split <;> rfl
theorem read_ok {M : Mm} (h : M.ok) (r a : Int) : (M.read r a).length = 12 ∧ ∀ x ∈ M.read r a, Word x := by
  cases hh : M.has r a with
  | true =>
    obtain ⟨i, j, hi, hj, rfl, rfl⟩ := has_spec hh
    rw [read_in hi hj]
    exact (h.1 _ (List.getElem_mem hi)).2 _ (List.getElem_mem hj)
  | false =>
    have : M.read r a = zeros := by simp [read, hh]
    rw [this]
    refine ⟨rfl, fun x hx => ?_⟩
    simp [zeros] at hx
    subst hx
    exact ⟨by omega, by omega⟩
theorem put_ok {M : Mm} (h : M.ok) (r a : Int) {c : List Int} (hc : c.length = 12) (hw : ∀ x ∈ c, Word x) : (M.put r a c).ok := by
  refine ⟨fun g hg => ?_, by simpa [put] using h.2.1, by simpa [put] using h.2.2⟩
  simp only [put] at hg
  obtain ⟨k, hk, rfl⟩ := List.getElem_of_mem hg
  rw [List.getElem_modify]
  have hk' : k < M.regs.length := by simpa using hk
  have := h.1 _ (List.getElem_mem hk')
  split
  · refine ⟨by simpa using this.1, fun d hd => ?_⟩
    rcases List.mem_or_eq_of_mem_set hd with h2 | rfl
    · exact this.2 d h2
    · exact ⟨hc, hw⟩
  · exact this
end Mm

end Go.Sg
end
