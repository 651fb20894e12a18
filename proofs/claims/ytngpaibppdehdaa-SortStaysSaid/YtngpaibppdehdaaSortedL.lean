/-
  What a run of sort makes of a region's first cells: plain.
-/
import Derived.Test.YtngpaibppdehdaaSortAny
import Derived.Test.YtngpaibppdehdaaShown6
import Derived.Test.YtngpaibppdehdaaRow
namespace Go.Sg
open Go Go.RowKit Go.Proofs.Ytngpaibppdehdaa
theorem slI_wordsO {w : World} {v : Value} {zs : List Int} (h : SlI .u64 w v zs) : ∀ n ∈ zs, Word n := by
  rcases h with ⟨rfl, _⟩ | ⟨_, _, _, _, _, _, _, _, _, h⟩
  · intro n hn; cases hn
  · exact fun n hn => u64_of (h n hn)
theorem runOk_powO {M : Mm} {r key : Int} {t : Nat} (ht : t ≤ 10) (hs : 2 ^ t ≤ M.size r) : runOk M r ((2 ^ t : Nat) : Int) key = (decide (0 ≤ key) && decide (key < 12)) := by
  have hr : rightB ((2 ^ t : Nat) : Int) = true := by
    have := rightB_pow t ht
    rwa [show ((2 ^ t : Nat) : Int) = (2 : Int) ^ t by simp]
  unfold runOk
  rw [hr, decide_eq_false (show ¬ (M.size r : Int) < ((2 ^ t : Nat) : Int) by omega)]
  by_cases h : key < 0
  · rw [decide_eq_true h, decide_eq_false (show ¬ 0 ≤ key by omega)]
    rfl
  · rw [decide_eq_false h, decide_eq_true (show 0 ≤ key by omega)]
    rfl
theorem pow_wrapO {t : Nat} (ht : t ≤ 10) : wrap64 ((2 : Int) ^ t) = ((2 ^ t : Nat) : Int) := by
  have h : ∀ t : Fin 11, wrap64 ((2 : Int) ^ t.val) = ((2 ^ t.val : Nat) : Int) := by decide +kernel
  exact h ⟨t, by omega⟩
/-- A cell that a number fills, or none. -/
def CellGood (c : List Int) : Prop := c = zeros ∨ c = cellL (c.getD 0 0)
theorem cellL_head {b : Int} (hb : Word b) : (cellL b).getD 0 0 = b := by
  have h : (cellL b)[0]? = some b := by
    rw [List.getElem?_eq_getElem (by rw [cellL_len]; decide), cellL_get]
    unfold cellAt
    obtain ⟨h0, h1⟩ := hb
    congr 1
    omega
  rw [List.getD_eq_getElem?_getD, h]
  rfl
theorem good_cellL {b : Int} (hb : Word b) : CellGood (cellL b) := .inr (by rw [cellL_head hb])
theorem good_laid {r c : Nat} {zs : List Int} (hr : 1 ≤ r) (hw : ∀ x ∈ zs, Word x) (i : Nat) : CellGood ((laidM r c zs).read 0 (i : Int)) := by
  rw [(laid_f zs hr).read]
  split
  · rename_i h
    refine good_cellL ?_
    rw [List.getD_eq_getElem?_getD, List.getElem?_eq_getElem h.2.2]
    exact hw _ (List.getElem_mem _)
  · exact .inl rfl
/-- a run by a word: the first cells in order, those beyond them as they were -/
theorem runM_sorted {M : Mm} {t kn : Nat} (ht : t ≤ 10) (hk : kn < 12) (hs : 2 ^ t ≤ M.size 0) :
    ∃ a b c : List (List Int), M.cells 0 = a ++ b ∧ a.length = 2 ^ t ∧ (runM M 0 ((2 ^ t : Nat) : Int) (kn : Int)).cells 0 = c ++ b ∧ c.Perm a ∧ c.Pairwise (fun x y => kf kn x ≤ kf kn y) := by
  obtain ⟨a, b, h1, h2, h3, h4, h5⟩ := run_sorted (M := M) (r := 0) (key := kn) (t := t) (Int.le_refl 0) hs
  refine ⟨a, b, _, h1, h2, ?_, h4, h5⟩
  have hok : runOk M 0 ((2 ^ t : Nat) : Int) (kn : Int) = true := by
    rw [runOk_powO ht hs, decide_eq_true (show (0 : Int) ≤ (kn : Int) by omega), decide_eq_true (show (kn : Int) < 12 by omega)]
    rfl
  rw [← h3]
  unfold runM
  rw [if_pos hok, netI_pow ht]
  rfl
theorem runOk_fine {M : Mm} {t kn : Nat} (ht : t ≤ 10) (hk : kn < 12) (hs : 2 ^ t ≤ M.size 0) : runOk M 0 ((2 ^ t : Nat) : Int) (kn : Int) = true := by
  rw [runOk_powO ht hs, decide_eq_true (show (0 : Int) ≤ (kn : Int) by omega), decide_eq_true (show (kn : Int) < 12 by omega)]
  rfl
/-- a run of a whole region -/
theorem runM_whole {M : Mm} {t kn : Nat} (ht : t ≤ 10) (hk : kn < 12) (hs : M.size 0 = 2 ^ t) :
    ((runM M 0 ((2 ^ t : Nat) : Int) (kn : Int)).cells 0).Perm (M.cells 0) ∧ ((runM M 0 ((2 ^ t : Nat) : Int) (kn : Int)).cells 0).Pairwise (fun x y => kf kn x ≤ kf kn y) := by
  obtain ⟨a, b, c, h1, h2, h3, h4, h5⟩ := runM_sorted (M := M) ht hk (by omega)
  have hl := Mm.cells_len (M := M) (Int.le_refl 0)
  rw [h1, List.length_append, h2, hs] at hl
  obtain rfl : b = [] := List.eq_nil_of_length_eq_zero (by omega)
  rw [List.append_nil] at h1 h3
  rw [h3, h1]
  exact ⟨h4, h5⟩
theorem cells_good {r c : Nat} {zs : List Int} (hr : 1 ≤ r) (hw : ∀ x ∈ zs, Word x) : ∀ x ∈ (laidM r c zs).cells 0, CellGood x := by
  intro x hx
  obtain ⟨i, hi, rfl⟩ := List.getElem_of_mem hx
  have hi' : i < (laidM r c zs).size 0 := by rw [← Mm.cells_len (Int.le_refl 0)]; exact hi
  rw [← Mm.read_cells (Int.le_refl 0) hi']
  exact good_laid hr hw i
theorem read_mem {M : Mm} {i : Nat} (h : i < M.size 0) : M.read 0 (i : Int) ∈ M.cells 0 := by
  rw [Mm.read_cells (Int.le_refl 0) h]
  exact List.getElem_mem _
theorem reads_le {M : Mm} {kn : Nat} (hok : M.ok) (hp : (M.cells 0).Pairwise (fun x y => kf kn x ≤ kf kn y)) {i j : Nat} (hij : i < j) (hj : j < M.size 0) :
    (M.read 0 (i : Int)).getD kn 0 ≤ (M.read 0 (j : Int)).getD kn 0 := by
  have h := List.pairwise_iff_getElem.1 hp i j (by rw [Mm.cells_len (Int.le_refl 0)]; omega) (by rw [Mm.cells_len (Int.le_refl 0)]; omega) hij
  rw [← Mm.read_cells (Int.le_refl 0) (by omega), ← Mm.read_cells (Int.le_refl 0) hj] at h
  have w1 := Mm.getD_word (Mm.read_ok hok 0 (i : Int)).2 kn
  have w2 := Mm.getD_word (Mm.read_ok hok 0 (j : Int)).2 kn
  unfold kf at h
  obtain ⟨a0, a1⟩ := w1
  obtain ⟨b0, b1⟩ := w2
  omega
/-- the word that was read last -/
def lastW (M : Mm) (kn : Nat) : Nat → Int
  | 0 => 0
  | k + 1 => (M.read 0 (k : Int)).getD kn 0
theorem lastW_le {M : Mm} {kn : Nat} (hok : M.ok) (hp : (M.cells 0).Pairwise (fun x y => kf kn x ≤ kf kn y)) {k : Nat} (hk : k < M.size 0) : lastW M kn k ≤ (M.read 0 (k : Int)).getD kn 0 := by
  cases k with
  | zero => exact (Mm.getD_word (Mm.read_ok hok 0 0).2 kn).1
  | succ k => exact reads_le hok hp (Nat.lt_succ_self k) hk
/-- two runs of a whole region -/
theorem other_plain {zs : List Int} {t ka kb : Nat} (hw : ∀ x ∈ zs, Word x) (ht : t ≤ 6) (hka : ka < 12) (hkb : kb < 12) {M0 M1 M2 : Mm} (h0 : laidM 1 (2 ^ t) zs = M0) (hok : M0.ok)
    (h1 : runM M0 0 ((2 ^ t : Nat) : Int) (ka : Int) = M1) (h2 : runM M1 0 ((2 ^ t : Nat) : Int) (kb : Int) = M2) :
    runOk M0 0 ((2 ^ t : Nat) : Int) (ka : Int) = true ∧ runOk M1 0 ((2 ^ t : Nat) : Int) (kb : Int) = true ∧ M0.evs.length ≤ 1000 ∧ M1.evs.length ≤ 200000 ∧ M2.evs.length ≤ 400000 ∧ M2.ok ∧ M2.size 0 = 2 ^ t ∧ (∀ i : Nat, i < 2 ^ t → CellGood (M2.read 0 (i : Int))) ∧ (∀ k, k < 2 ^ t → lastW M2 kb k ≤ (M2.read 0 (k : Int)).getD kb 0) := by
  have HL := laid_f (r := 1) (c := 2 ^ t) zs (by decide)
  have hs0 : M0.size 0 = 2 ^ t := by rw [← h0]; exact HL.size 0
  have hs1 : M1.size 0 = 2 ^ t := by rw [← h1, runM_size, hs0]
  have hs2 : M2.size 0 = 2 ^ t := by rw [← h2, runM_size, hs1]
  have hp64 : 2 ^ t ≤ 64 := Nat.le_trans (Nat.pow_le_pow_right (by omega) ht) (by decide)
  have e0 : M0.evs.length ≤ 1000 := by rw [← h0]; have := HL.evs.2; omega
  have e1 := runM_evs_le M0 0 ((2 ^ t : Nat) : Int) (ka : Int)
  have e2 := runM_evs_le M1 0 ((2 ^ t : Nat) : Int) (kb : Int)
  rw [h1] at e1
  rw [h2] at e2
  have ok1 : M1.ok := by rw [← h1]; exact runM_ok hok _ _ _
  have ok2 : M2.ok := by rw [← h2]; exact runM_ok ok1 _ _ _
  have p1 := (runM_whole (M := M0) (by omega) hka hs0).1
  have p2 := runM_whole (M := M1) (t := t) (by omega) hkb hs1
  rw [h1] at p1
  rw [h2] at p2
  refine ⟨runOk_fine (by omega) hka (by omega), runOk_fine (by omega) hkb (by omega), e0, by omega, by omega, ok2, hs2, fun i hi => ?_, fun k hk => lastW_le ok2 p2.2 (by omega)⟩
  refine cells_good (r := 1) (c := 2 ^ t) (by decide) hw _ ?_
  rw [h0]
  exact (p2.1.trans p1).mem_iff.1 (read_mem (by omega))
end Go.Sg
