/-
  The walks of deal's shapes, and of the document's.
-/
import Derived.Test.YtiimdgdimjjboaaDealK
namespace Go.Sg
open Go Go.RowKit
/-- A shape: its depth, its slots, its stash. -/
abbrev Sh := Int × Int × Int
def shV (s : Sh) : List Value := [.int .i64 s.1, .int .i64 s.2.1, .int .i64 s.2.2]
def inD (n a b : Int) : Bool := decide (a ≤ n) && decide (n ≤ b)
def rightD (s : Sh) : Bool := inD s.1 0 10 && (inD s.2.1 1 8 && inD s.2.2 1 64)
theorem rightD_iff {s : Sh} : rightD s = true ↔ 0 ≤ s.1 ∧ s.1 ≤ 10 ∧ 1 ≤ s.2.1 ∧ s.2.1 ≤ 8 ∧ 1 ≤ s.2.2 ∧ s.2.2 ≤ 64 := by
  unfold rightD inD
  simp only [Bool.and_eq_true, decide_eq_true_eq]
  omega
def levelsD (s : Sh) : Int := s.2.1 * (s.1 + 1)
def placesD (s : Sh) : Int := if rightD s then levelsD s + s.2.2 + 1 else 0
theorem levelsD_bd {s : Sh} (h : rightD s = true) : 1 ≤ levelsD s ∧ levelsD s ≤ 88 := by
  rw [rightD_iff] at h
  unfold levelsD
  have h1 : s.2.1 * (s.1 + 1) ≤ 8 * 11 := Int.mul_le_mul (by omega) (by omega) (by omega) (by omega)
  have h2 : 1 * 1 ≤ s.2.1 * (s.1 + 1) := Int.mul_le_mul (by omega) (by omega) (by omega) (by omega)
  omega
theorem placesD_bd (s : Sh) : 0 ≤ placesD s ∧ placesD s ≤ 153 := by
  unfold placesD
  by_cases h : rightD s = true
  · have h1 := levelsD_bd h
    rw [if_pos h]
    rw [rightD_iff] at h
    omega
  · rw [if_neg h]
    omega
end Go.Sg
namespace Go.Proofs.Ytiimdgdimjjboaa
open Go Go.RowKit Go.Sg
theorem in1_any (n a b : Int) (w : World) : Calls Try.prog 49 #[.int .i64 n, .int .i64 a, .int .i64 b] w fun e w' => e = .returned (.bool (inD n a b)) ∧ w' = w := by
  by_cases h1 : a ≤ n
  · have d1 : decide (a ≤ n) = true := decide_eq_true h1
    have HR : Hid (decide (n ≤ b) = inD n a b) := Lib.hid (by unfold inD; rw [d1]; rfl)
    go_enter Try.func49, Try.ntmps49
    go_wp2
    go_ret
    exact ⟨by rw [← HR.out]; rfl, rfl⟩
  · have d1 : decide (a ≤ n) = false := decide_eq_false h1
    have HR : Hid (false = inD n a b) := Lib.hid (by unfold inD; rw [d1]; rfl)
    go_enter Try.func49, Try.ntmps49
    go_wp2
    go_ret
    exact ⟨by rw [← HR.out]; rfl, rfl⟩
set_option maxHeartbeats 4000000 in
set_option maxRecDepth 100000 in
theorem right_any (s : Sh) (w : World) : Calls Try.prog 22 #[.agg #[.int .i64 s.1, .int .i64 s.2.1, .int .i64 s.2.2]] w fun e w' => e = .returned (.bool (rightD s)) ∧ Below w.heap.size w w' := by
  have hr : rightD s = (inD s.1 0 10 && (inD s.2.1 1 8 && inD s.2.2 1 64)) := rfl
  rw [hr]
  have K1 := Lib.hid (fun w' => in1_any s.1 0 10 w')
  have K2 := Lib.hid (fun w' => in1_any s.2.1 1 8 w')
  have K3 := Lib.hid (fun w' => in1_any s.2.2 1 64 w')
  obtain ⟨d, sl, st⟩ := s
  simp only at *
  generalize inD d 0 10 = b1 at *
  generalize inD sl 1 8 = b2 at *
  generalize inD st 1 64 = b3 at *
  have HB : Hid (Below w.heap.size w (w.alloc (.cells #[.int .i64 d, .int .i64 sl, .int .i64 st] 23))) := Lib.hid ((Below.refl _ _).alloc (Nat.le_refl _) _)
  clear hr
  go_enter Try.func22, Try.ntmps22
  cases b1 <;> cases b2 <;> cases b3
  all_goals
    go_wp2_with (first
      | (go_at_call 49; first
          | ((with_reducible refine (K1.out _).mono ?_); rintro e w' ⟨rfl, rfl⟩)
          | ((with_reducible refine (K2.out _).mono ?_); rintro e w' ⟨rfl, rfl⟩)
          | ((with_reducible refine (K3.out _).mono ?_); rintro e w' ⟨rfl, rfl⟩))
      | fail)
    go_ret
    exact ⟨rfl, HB.out⟩
theorem levels_any (s : Sh) (h : rightD s = true) (w : World) : Calls Try.prog 50 #[.agg #[.int .i64 s.1, .int .i64 s.2.1, .int .i64 s.2.2]] w fun e w' => e = .returned (.int .i64 (levelsD s)) ∧ Below w.heap.size w w' := by
  have hb := levelsD_bd h
  rw [rightD_iff] at h
  obtain ⟨d, sl, st⟩ := s
  have hl : levelsD (d, sl, st) = sl * (d + 1) := rfl
  rw [hl] at hb ⊢
  simp only at *
  have m1 : IntKind.i64.wrap (d + 1) = d + 1 := by rw [IntKind.wrap_i64]; omega
  have m2 : IntKind.i64.wrap (sl * (d + 1)) = sl * (d + 1) := by rw [IntKind.wrap_i64]; omega
  have HB : Hid (Below w.heap.size w (w.alloc (.cells #[.int .i64 d, .int .i64 sl, .int .i64 st] 23))) := Lib.hid ((Below.refl _ _).alloc (Nat.le_refl _) _)
  go_enter Try.func50, Try.ntmps50
  go_wp2
  go_ret
  exact ⟨rfl, HB.out⟩
end Go.Proofs.Ytiimdgdimjjboaa
