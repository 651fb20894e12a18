/-
  The walks of Size, Fault, Many, of both memories.
-/
import Derived.Test.YtngpaibppdehdaaMemRep
namespace Go.Proofs.Ytngpaibppdehdaa
open Go.RowKit Go.Sg

theorem memSize_any {p : Nat} {M : Mm} {F : Nat → Prop} (r : Int) (w : World) (h : MemRep w 108 p M F) : Calls Try.prog 39 #[.pointer (some ⟨p, 0, none⟩), .int .i64 r] w fun e w' => e = .returned (.int .i64 (M.size r)) ∧ w' = w := by
  obtain ⟨rb, cap, cur, g, ev, h⟩ := h
  have cb : w.cell? ⟨p, 0, none⟩ = some (.slice (some ⟨rb, 0, none⟩) M.regs.length cap) := by rw [h.box.cell]; rfl
  have hcap := h.lecap
  have hcm := h.capm
  unfold maxLen at hcm
  by_cases hr : r < 0
  · have b0 : decide (r < 0) = true := decide_eq_true hr
    have HV := Lib.hid (Mm.size_neg (M := M) hr)
    clear h
    go_enter Try.func39, Try.ntmps39
    go_wp2
    go_ret
    exact ⟨ret_i64 (by rw [HV.out]; rfl), rfl⟩
  · have b0 : decide (r < 0) = false := decide_eq_false hr
    obtain ⟨i, rfl⟩ : ∃ i : Nat, r = i := ⟨r.toNat, by omega⟩
    by_cases hi : i < M.regs.length
    · have HV := Lib.hid (Mm.size_in (M := M) hi)
      have cs : w.cell? ⟨rb, i, none⟩ = some (.slice (some ⟨g i, 0, none⟩) M.regs[i].length M.regs[i].length) := by rw [h.row.cell]; exact h.slot i hi
      have b1 : decide ((M.regs.length : Int) ≤ (i : Int)) = false := decide_eq_false (by omega)
      have b2 : decide (M.regs.length ≤ i) = false := decide_eq_false (by omega)
      generalize M.regs[i].length = l at *
      generalize M.regs.length = n at *
      clear h
      go_enter Try.func39, Try.ntmps39
      go_wp2
      go_ret
      exact ⟨ret_i64 (by rw [HV.out]), rfl⟩
    · have HV := Lib.hid (Mm.size_out (M := M) (Nat.le_of_not_lt hi))
      have b1 : decide ((M.regs.length : Int) ≤ (i : Int)) = true := decide_eq_true (by omega)
      have b2 : decide (M.regs.length ≤ i) = true := decide_eq_true (by omega)
      generalize M.regs.length = n at *
      clear h
      go_enter Try.func39, Try.ntmps39
      go_wp2
      go_ret
      exact ⟨ret_i64 (by rw [HV.out]; rfl), rfl⟩
theorem ref3Size_any {p : Nat} {M : Mm} {F : Nat → Prop} (r : Int) (w : World) (h : MemRep w 60 p M F) : Calls Try.prog 44 #[.pointer (some ⟨p, 0, none⟩), .int .i64 r] w fun e w' => e = .returned (.int .i64 (M.size r)) ∧ w' = w := by
  obtain ⟨rb, cap, cur, g, ev, h⟩ := h
  have cb : w.cell? ⟨p, 0, none⟩ = some (.slice (some ⟨rb, 0, none⟩) M.regs.length cap) := by rw [h.box.cell]; rfl
  have hcap := h.lecap
  have hcm := h.capm
  unfold maxLen at hcm
  by_cases hr : r < 0
  · have b0 : decide (r < 0) = true := decide_eq_true hr
    have HV := Lib.hid (Mm.size_neg (M := M) hr)
    clear h
    go_enter Try.func44, Try.ntmps44
    go_wp2
    go_ret
    exact ⟨ret_i64 (by rw [HV.out]; rfl), rfl⟩
  · have b0 : decide (r < 0) = false := decide_eq_false hr
    obtain ⟨i, rfl⟩ : ∃ i : Nat, r = i := ⟨r.toNat, by omega⟩
    by_cases hi : i < M.regs.length
    · have HV := Lib.hid (Mm.size_in (M := M) hi)
      have cs : w.cell? ⟨rb, i, none⟩ = some (.slice (some ⟨g i, 0, none⟩) M.regs[i].length M.regs[i].length) := by rw [h.row.cell]; exact h.slot i hi
      have b1 : decide ((M.regs.length : Int) ≤ (i : Int)) = false := decide_eq_false (by omega)
      have b2 : decide (M.regs.length ≤ i) = false := decide_eq_false (by omega)
      generalize M.regs[i].length = l at *
      generalize M.regs.length = n at *
      clear h
      go_enter Try.func44, Try.ntmps44
      go_wp2
      go_ret
      exact ⟨ret_i64 (by rw [HV.out]), rfl⟩
    · have HV := Lib.hid (Mm.size_out (M := M) (Nat.le_of_not_lt hi))
      have b1 : decide ((M.regs.length : Int) ≤ (i : Int)) = true := decide_eq_true (by omega)
      have b2 : decide (M.regs.length ≤ i) = true := decide_eq_true (by omega)
      generalize M.regs.length = n at *
      clear h
      go_enter Try.func44, Try.ntmps44
      go_wp2
      go_ret
      exact ⟨ret_i64 (by rw [HV.out]; rfl), rfl⟩

theorem memFault_any {p : Nat} {M : Mm} {F : Nat → Prop} (w : World) (h : MemRep w 108 p M F) : Calls Try.prog 38 #[.pointer (some ⟨p, 0, none⟩)] w fun e w' => e = .returned (.bool M.fault) ∧ w' = w := by
  obtain ⟨rb, cap, cur, g, ev, h⟩ := h
  have cb : w.cell? ⟨p, 2, none⟩ = some (.bool M.fault) := by rw [h.box.cell]; rfl
  clear h
  go_enter Try.func38, Try.ntmps38
  go_wp2
  go_ret
  exact ⟨rfl, rfl⟩

theorem owns_slice {w : World} {base : Nat} {e : TypeId} {size : Nat} {v : Value} {n : Nat} {xs : List Value} (h : w.ownsRow base e size v n xs) : ∃ a cap, v = .slice a n cap := by
  rcases h.2 with ⟨rfl, rfl⟩ | ⟨g, cap, cur, rfl, _⟩
  · exact ⟨none, 0, rfl⟩
  · exact ⟨_, cap, rfl⟩

theorem memMany_any {p : Nat} {M : Mm} {F : Nat → Prop} (w : World) (h : MemRep w 108 p M F) : Calls Try.prog 43 #[.pointer (some ⟨p, 0, none⟩)] w fun e w' => e = .returned (.int .i64 M.evs.length) ∧ w' = w := by
  obtain ⟨rb, cap, cur, g, ev, h⟩ := h
  obtain ⟨ea, ec, rfl⟩ := owns_slice h.evs
  have cb : w.cell? ⟨p, 1, none⟩ = some (.slice ea M.evs.length ec) := by rw [h.box.cell]; rfl
  clear h
  go_enter Try.func43, Try.ntmps43
  go_wp2
  go_ret
  exact ⟨rfl, rfl⟩

theorem ref3Has_any {p : Nat} {M : Mm} {F : Nat → Prop} (r a : Int) (w : World) (h : MemRep w 60 p M F) : Calls Try.prog 83 #[.pointer (some ⟨p, 0, none⟩), .int .i64 r, .int .i64 a] w fun e w' => e = .returned (.bool (M.has r a)) ∧ w' = w := by
  have K := Lib.hid (ref3Size_any r w h)
  have HV : Hid (M.has r a = (decide (0 ≤ a) && decide (a < (M.size r : Int)))) := Lib.hid rfl
  generalize M.has r a = x at *
  by_cases ha : 0 ≤ a
  · have b0 : decide (0 ≤ a) = true := decide_eq_true ha
    rw [b0, Bool.true_and] at HV
    obtain rfl : x = decide (a < (M.size r : Int)) := HV.out
    clear HV h
    go_enter Try.func83, Try.ntmps83
    go_wp2_with (go_at_call 44; (with_reducible refine (K.out).mono ?_); rintro e w' ⟨rfl, rfl⟩)
    all_goals
      go_ret
      exact ⟨congrArg (fun b => Ending.returned (Value.bool b)) (by simp [*]), rfl⟩
  · have b0 : decide (0 ≤ a) = false := decide_eq_false ha
    rw [b0, Bool.false_and] at HV
    obtain rfl : x = false := HV.out
    clear HV h
    go_enter Try.func83, Try.ntmps83
    go_wp2
    go_ret
    exact ⟨rfl, rfl⟩
end Go.Proofs.Ytngpaibppdehdaa
