/-
  What is read behind what was written: plain facts of a memory.
-/
import Derived.Test.YtngpaibppdehdaaMemRun
namespace Go.Sg.Mm
open Go Go.RowKit
theorem has_of_size {M N : Mm} (h : ∀ r, N.size r = M.size r) (r a : Int) : N.has r a = M.has r a := by unfold has; rw [h]
theorem look_has (M : Mm) (r a : Int) (b : Bool) (x y : Int) : (M.look r a b).has x y = M.has x y := has_of_size (look_size M r a b) x y
theorem put_has (M : Mm) (r a : Int) (c : List Int) (x y : Int) : (M.put r a c).has x y = M.has x y := has_of_size (put_size M r a c) x y
theorem write_has (M : Mm) (r a : Int) (c : List Int) (x y : Int) : (M.write r a c).has x y = M.has x y := has_of_size (write_size M r a c) x y
theorem read_look (M : Mm) (r a : Int) (b : Bool) (x y : Int) : (M.look r a b).read x y = M.read x y := by unfold read; rw [look_has, look_regs]
theorem read_nohas {M : Mm} {r a : Int} (h : M.has r a = false) : M.read r a = zeros := by simp [read, h]
theorem read_put {M : Mm} {r a : Int} (c : List Int) (h : M.has r a = true) (x y : Int) : (M.put r a c).read x y = if r = x ∧ a = y then c else M.read x y := by
  cases hx : M.has x y with
  | false =>
    rw [read_nohas (by rw [put_has]; exact hx), read_nohas hx, if_neg (by rintro ⟨rfl, rfl⟩; rw [h] at hx; cases hx)]
  | true =>
    obtain ⟨i, j, hi, hj, rfl, rfl⟩ := has_spec h
    obtain ⟨i', j', hi', hj', rfl, rfl⟩ := has_spec hx
    have hl : (M.put i j c).regs.length = M.regs.length := by simp [put]
    have e : (M.put i j c).regs[i']'(by rw [hl]; exact hi') = if i = i' then (M.regs[i']).set j c else M.regs[i'] := by
      simp only [put, List.getElem_modify, Int.toNat_natCast]
    have hj2 : j' < ((M.put i j c).regs[i']'(by rw [hl]; exact hi')).length := by
      rw [e]; split
      · simpa using hj'
      · exact hj'
    rw [read_in (by rw [hl]; exact hi') hj2, read_in hi' hj']
    by_cases hii : i = i'
    · subst hii
      have e2 : (M.put i j c).regs[i]'(by rw [hl]; exact hi') = (M.regs[i]).set j c := by rw [e, if_pos rfl]
      simp only [e2]
      rw [List.getElem_set]
      by_cases hjj : j = j'
      · rw [if_pos hjj, if_pos ⟨trivial, by rw [hjj]⟩]
      · rw [if_neg hjj, if_neg (by rintro ⟨_, h2⟩; exact hjj (by omega))]
    · have e2 : (M.put i j c).regs[i']'(by rw [hl]; exact hi') = M.regs[i'] := by rw [e, if_neg hii]
      simp only [e2]
      rw [if_neg (by rintro ⟨h1, _⟩; exact hii (by omega))]
theorem read_write (M : Mm) (r a : Int) (c : List Int) (x y : Int) : (M.write r a c).read x y = if M.has x y = true ∧ r = x ∧ a = y then c else M.read x y := by
  unfold write
  cases h : M.has r a with
  | true =>
    simp only [if_true]
    rw [read_put c (by rw [look_has]; exact h), read_look]
    by_cases e : r = x ∧ a = y
    · rw [if_pos e, if_pos ⟨by rw [← e.1, ← e.2]; exact h, e⟩]
    · rw [if_neg e, if_neg (fun h2 => e h2.2)]
  | false =>
    simp only [Bool.false_eq_true, if_false]
    rw [read_look, if_neg (by rintro ⟨h1, rfl, rfl⟩; rw [h] at h1; cases h1)]
end Go.Sg.Mm
