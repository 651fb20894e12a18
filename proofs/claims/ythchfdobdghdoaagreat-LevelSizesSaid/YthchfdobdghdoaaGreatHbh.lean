/-
  Joined texts: RunL.
-/
import Derived.Test.YthchfdobdghdoaaGreatHbc
import Derived.Test.YthchfdobdghdoaaGreatHaj
set_option linter.unusedVariables false
set_option linter.unusedSimpArgs false
set_option linter.unusedSectionVars false
set_option linter.unnecessarySimpa false
section

/-
  What a run of a network makes of a region's cells: plain facts.
-/
namespace Go.Sg
open Go Go.RowKit
/-- the word that cells are put in order by -/
def kf (key : Nat) (c : List Int) : Nat := (c.getD key 0).toNat
def evs4 (r : Int) (p : Pr) : List Ev := [(r, (p.1 : Int), false), (r, (p.2.1 : Int), false), (r, (p.1 : Int), true), (r, (p.2.1 : Int), true)]
def evsS (r : Int) (ps : List Pr) : List Ev := ps.flatMap (evs4 r)
theorem evsS_snoc (r : Int) (ps : List Pr) (p : Pr) : evsS r (ps ++ [p]) = evsS r ps ++ evs4 r p := by simp [evsS]
theorem evsS_nil (r : Int) : evsS r [] = [] := rfl
theorem evsS_len (r : Int) (ps : List Pr) : (evsS r ps).length = 4 * ps.length := by
  induction ps with
  | nil => rfl
  | cons p ps ih =>
    show (evs4 r p ++ evsS r ps).length = _
    rw [List.length_append, ih, List.length_cons]
    simp [evs4]
    omega
theorem modify_get {β : Type} (l : List β) (n k : Nat) (f : β → β) : (l.modify n f)[k]? = (l[k]?).map (fun a => if n = k then f a else a) := List.getElem?_modify ..
theorem modify_congr {β : Type} {l : List β} {n : Nat} {f g : β → β} (h : ∀ x, l[n]? = some x → f x = g x) : l.modify n f = l.modify n g := by
  apply List.ext_getElem?
  intro k
  rw [modify_get, modify_get]
  cases hx : l[k]? with
  | none => rfl
  | some x =>
    simp only [Option.map_some]
    by_cases e : n = k
    · subst e
      rw [if_pos rfl, if_pos rfl, h x hx]
    · rw [if_neg e, if_neg e]
theorem modify_modify {β : Type} (l : List β) (n : Nat) (f g : β → β) : (l.modify n f).modify n g = l.modify n (fun x => g (f x)) := by
  apply List.ext_getElem?
  intro k
  rw [modify_get, modify_get, modify_get]
  cases l[k]? with
  | none => rfl
  | some x =>
    simp only [Option.map_some]
    by_cases e : n = k
    · rw [if_pos e, if_pos e, if_pos e]
    · rw [if_neg e, if_neg e, if_neg e]
/-- places beyond those of the pairs stay -/
theorem cx_left {α : Type} (key : α → Nat) (a b : List α) (p : Pr) (h : p.1 < a.length ∧ p.2.1 < a.length) : cx key (a ++ b) p = cx key a p ++ b := by
  rw [cx_at key h.1 h.2, cx_at key (l := a ++ b) (by rw [List.length_append]; omega) (by rw [List.length_append]; omega)]
  rw [List.getElem_append_left h.1, List.getElem_append_left h.2]
  by_cases hs : (if p.2.2 = true then key a[p.2.1] < key a[p.1] else key a[p.1] < key a[p.2.1])
  · rw [if_pos hs, if_pos hs, List.set_append_left _ _ h.1, List.set_append_left _ _ (by rw [List.length_set]; exact h.2)]
  · rw [if_neg hs, if_neg hs]
theorem cxs_left {α : Type} (key : α → Nat) (b : List α) : ∀ (ps : List Pr) (a : List α), PrsOk a.length ps → cxs key (a ++ b) ps = cxs key a ps ++ b
  | [], _, _ => rfl
  | p :: ps, a, h => by
    have hp := h p List.mem_cons_self
    show cxs key (cx key (a ++ b) p) ps = cxs key (cx key a p) ps ++ b
    rw [cx_left key a b p ⟨by omega, hp.2⟩]
    exact cxs_left key b ps _ (by rw [cx_length]; exact fun q hq => h q (List.mem_cons_of_mem _ hq))
namespace Mm
/-- a region's cells, put in order -/
def srt (M : Mm) (r : Int) (key : Nat) (ps : List Pr) : Mm := { M with regs := M.regs.modify r.toNat (fun g => cxs (kf key) g ps) }
theorem srt_nil (M : Mm) (r : Int) (key : Nat) : M.srt r key [] = M := by
  have : M.regs.modify r.toNat (fun g => cxs (kf key) g []) = M.regs := by
    apply List.ext_getElem?
    intro k
    rw [modify_get]
    cases M.regs[k]? with
    | none => rfl
    | some x =>
      simp only [Option.map_some]
      split <;> rfl
  unfold srt
  rw [this]
theorem srt_evs (M : Mm) (r : Int) (key : Nat) (ps : List Pr) : (M.srt r key ps).evs = M.evs := rfl
theorem srt_size (M : Mm) (r : Int) (key : Nat) (ps : List Pr) (x : Int) : (M.srt r key ps).size x = M.size x := by
  unfold size srt
  split
  · simp only [modify_get]
    cases M.regs[x.toNat]? with
    | none => rfl
    | some g =>
      simp only [Option.map_some, Option.getD_some]
      split
      · exact cxs_length _ _ _
      · rfl
  · rfl
theorem noted_srt (M : Mm) (es : List Ev) (r : Int) (key : Nat) (ps : List Pr) : (M.noted es).srt r key ps = (M.srt r key ps).noted es := rfl
theorem srt_srt_len (M : Mm) (r : Int) (key : Nat) (ps : List Pr) : (M.srt r key ps).regs.length = M.regs.length := by simp [srt]
theorem srt_ok {M : Mm} (h : M.ok) (r : Int) (key : Nat) (ps : List Pr) : (M.srt r key ps).ok := by
  refine ⟨fun g hg => ?_, by rw [srt_srt_len]; exact h.2.1, by rw [srt_srt_len]; exact h.2.2⟩
  simp only [srt] at hg
  obtain ⟨k, hk, rfl⟩ := List.getElem_of_mem hg
  rw [List.getElem_modify]
  have hk' : k < M.regs.length := by simpa using hk
  have := h.1 _ (List.getElem_mem hk')
  split
  · exact ⟨by rw [cxs_length]; exact this.1, fun c hc => this.2 c ((cxs_perm _ _ _).mem_iff.1 hc)⟩
  · exact this
/-- a region's cells -/
def cells (M : Mm) (r : Int) : List (List Int) := (M.regs[r.toNat]?).getD []
theorem cells_len {M : Mm} {r : Int} (h : 0 ≤ r) : (M.cells r).length = M.size r := by
  unfold cells size
  rw [if_pos h]
  cases M.regs[r.toNat]? <;> rfl
theorem read_cells {M : Mm} {r : Int} (h0 : 0 ≤ r) {i : Nat} (h : i < M.size r) : M.read r (i : Int) = (M.cells r)[i]'(by rw [cells_len h0]; exact h) := by
  obtain ⟨a, b, ha, hb, rfl, e⟩ := has_spec (has_lt h)
  obtain rfl : i = b := by omega
  rw [read_in ha hb]
  simp [cells, ha]
theorem read_cells' {M : Mm} {r : Int} (h0 : 0 ≤ r) {i : Nat} (h : i < M.size r) : (M.cells r)[i]? = some (M.read r (i : Int)) := by
  rw [read_cells h0 h, List.getElem?_eq_getElem]
theorem srt_cells {M : Mm} {r : Int} (key : Nat) (ps : List Pr) : (M.srt r key ps).cells r = cxs (kf key) (M.cells r) ps := by
  unfold cells srt
  simp only [modify_get, if_true]
  cases M.regs[r.toNat]? with
  | none =>
    show [] = cxs (kf key) [] ps
    exact (List.length_eq_zero_iff.1 (cxs_length (kf key) ps ([] : List (List Int)))).symm
  | some g => rfl
/-- does a pair turn? -/
def turn (M : Mm) (r : Int) (key : Nat) (p : Pr) : Bool :=
  decide (if p.2.2 then (M.read r (p.2.1 : Int)).getD key 0 < (M.read r (p.1 : Int)).getD key 0 else (M.read r (p.1 : Int)).getD key 0 < (M.read r (p.2.1 : Int)).getD key 0)
theorem getD_word {c : List Int} (h : ∀ x ∈ c, Word x) (k : Nat) : Word (c.getD k 0) := by
  rw [List.getD_eq_getElem?_getD]
  cases hx : c[k]? with
  | none => exact ⟨by simp, by simp⟩
  | some x => exact h x (List.mem_of_getElem? hx)
/-- a step of a run -/
theorem srt_step {M : Mm} (hok : M.ok) {r : Int} {key : Nat} (ps : List Pr) (p : Pr) (h1 : p.1 < p.2.1) (h2 : p.2.1 < M.size r) :
    ((M.srt r key ps).put r (p.1 : Int) (if (M.srt r key ps).turn r key p = true then (M.srt r key ps).read r (p.2.1 : Int) else (M.srt r key ps).read r (p.1 : Int))).put r (p.2.1 : Int) (if (M.srt r key ps).turn r key p = true then (M.srt r key ps).read r (p.1 : Int) else (M.srt r key ps).read r (p.2.1 : Int)) = M.srt r key (ps ++ [p]) := by
  have hok2 := srt_ok hok r key ps
  have hs := srt_size M r key ps r
  have hd : (M.srt r key ps).has r (p.2.1 : Int) = true := has_lt (by rw [hs]; exact h2)
  have hr0 : 0 ≤ r := by
    obtain ⟨i, _, _, _, rfl, _⟩ := has_spec hd
    omega
  have e1 := read_cells' (M := M.srt r key ps) hr0 (i := p.1) (by rw [hs]; omega)
  have e2 := read_cells' (M := M.srt r key ps) hr0 (i := p.2.1) (by rw [hs]; omega)
  have w1 := getD_word (read_ok hok2 r (p.1 : Int)).2 key
  have w2 := getD_word (read_ok hok2 r (p.2.1 : Int)).2 key
  rw [srt_cells] at e1 e2
  unfold turn
  generalize (M.srt r key ps).read r (p.1 : Int) = x at *
  generalize (M.srt r key ps).read r (p.2.1 : Int) = y at *
  unfold put srt
  simp only [modify_modify, Int.toNat_natCast]
  congr 1
  apply modify_congr
  intro g hg
  have hgc : M.cells r = g := by unfold cells; rw [hg]; rfl
  rw [hgc] at e1 e2
  rw [cxs_snoc]
  generalize cxs (kf key) g ps = l at *
  obtain ⟨l1, g1⟩ := List.getElem?_eq_some_iff.1 e1
  obtain ⟨l2, g2⟩ := List.getElem?_eq_some_iff.1 e2
  rw [cx_at (kf key) l1 l2, g1, g2]
  have hk : (if p.2.2 = true then kf key y < kf key x else kf key x < kf key y) ↔ (if p.2.2 = true then y.getD key 0 < x.getD key 0 else x.getD key 0 < y.getD key 0) := by
    unfold kf
    unfold Word at w1 w2
    cases p.2.2
    · simp only [Bool.false_eq_true, if_false]
      omega
    · simp only [if_true]
      omega
  simp only [decide_eq_true_eq]
  by_cases ht : (if p.2.2 = true then y.getD key 0 < x.getD key 0 else x.getD key 0 < y.getD key 0)
  · rw [if_pos ht, if_pos ht, if_pos (hk.2 ht)]
  · rw [if_neg ht, if_neg ht, if_neg (fun h => ht (hk.1 h))]
    rw [← g1, ← g2, List.set_getElem_self, List.set_getElem_self]
/-- the same, with the looks -/
theorem srt_look {M : Mm} (hok : M.ok) {r : Int} {key : Nat} (ps : List Pr) (p : Pr) (h1 : p.1 < p.2.1) (h2 : p.2.1 < M.size r) (es : List Ev) :
    (((((M.srt r key ps).noted es).look r (p.1 : Int) false).look r (p.2.1 : Int) false).write r (p.1 : Int) (if (M.srt r key ps).turn r key p = true then (M.srt r key ps).read r (p.2.1 : Int) else (M.srt r key ps).read r (p.1 : Int))).write r (p.2.1 : Int) (if (M.srt r key ps).turn r key p = true then (M.srt r key ps).read r (p.1 : Int) else (M.srt r key ps).read r (p.2.1 : Int)) = (M.srt r key (ps ++ [p])).noted (es ++ evs4 r p) := by
  have hs := srt_size M r key ps r
  have hd1 : (M.srt r key ps).has r (p.1 : Int) = true := has_lt (by rw [hs]; omega)
  have hd2 : (M.srt r key ps).has r (p.2.1 : Int) = true := has_lt (by rw [hs]; exact h2)
  have a1 : ∀ es, ((M.srt r key ps).noted es).look r (p.1 : Int) false = (M.srt r key ps).noted (es ++ [(r, (p.1 : Int), false)]) := fun es => by
    rw [look_noted (by rw [noted_has]; exact hd1), noted_noted]
  have a2 : ∀ es, ((M.srt r key ps).noted es).look r (p.2.1 : Int) false = (M.srt r key ps).noted (es ++ [(r, (p.2.1 : Int), false)]) := fun es => by
    rw [look_noted (by rw [noted_has]; exact hd2), noted_noted]
  have a3 : ∀ es c, ((M.srt r key ps).noted es).write r (p.1 : Int) c = ((M.srt r key ps).put r (p.1 : Int) c).noted (es ++ [(r, (p.1 : Int), true)]) := fun es c => by
    rw [write_noted (by rw [noted_has]; exact hd1), noted_put, noted_noted]
  have a4 : ∀ es c c', (((M.srt r key ps).put r (p.1 : Int) c).noted es).write r (p.2.1 : Int) c' = (((M.srt r key ps).put r (p.1 : Int) c).put r (p.2.1 : Int) c').noted (es ++ [(r, (p.2.1 : Int), true)]) := fun es c c' => by
    rw [write_noted (by rw [noted_has, put_has]; exact hd2), noted_put, noted_noted]
  rw [a1, a2, a3, a4, srt_step hok ps p h1 h2]
  simp [evs4]
end Mm
end Go.Sg
end
