/-
  The walk of shellgamelaw1.WordOrder.
-/
import Derived.Test.YtjgbnokhelfnaaaLaw1
namespace Go.Proofs.Ytjgbnokhelfnaaa
open Go.RowKit Go.Sg
set_option maxHeartbeats 2000000 in
theorem WordOrder_walk (a b m : Int) (ha : Word a) (hb : Word b) (hm : Word m) (w : World) :
    Calls Try.prog 8 #[.int .u64 a, .int .u64 b, .int .u64 m] w fun e w' => e = .returned (.bool true) ∧ Below w.heap.size w w' := by
  obtain ⟨f1, f2, f3, f4, f5, f6, f7, f8, f9, f10⟩ := order_facts ha hb hm
  have K0 := Lib.hid (less_any a b ha hb)
  have K1 := Lib.hid (less_any b a hb ha)
  have K2 := Lib.hid (equal_any a b ha hb)
  have K3 : Hid (∀ w, Calls Try.prog 22 #[.int .u64 (lm a b), .int .u64 a, .int .u64 b] w fun e w' => e = .returned (.int .u64 (min a b)) ∧ w' = w) := Lib.hid fun w => by
    rw [← f5]; exact pick_any _ a b (lm_word _ _) ha hb w
  have K4 : Hid (∀ w, Calls Try.prog 23 #[.int .u64 (lm b a), .int .u64 a, .int .u64 b] w fun e w' => e = .returned (.tuple #[.int .u64 (min a b), .int .u64 (max a b)]) ∧ w' = w) := Lib.hid fun w => by
    rw [← f6, ← f7]; exact swap_any _ a b (lm_word _ _) ha hb w
  have K5 := Lib.hid (swap_any m a b hm ha hb)
  have K6 : Hid (∀ w, Calls Try.prog 23 #[.int .u64 m, .int .u64 (sw1 m a b), .int .u64 (pk m a b)] w fun e w' => e = .returned (.tuple #[.int .u64 a, .int .u64 b]) ∧ w' = w) := Lib.hid fun w => by
    have := swap_any m (sw1 m a b) (pk m a b) hm (sw1_word hm ha hb) (pk_word hm ha hb) w
    rwa [f8, f9] at this
  have g1 : bits .or .u64 (bits .or .u64 (lm a b) (lm b a)) (em a b) = 18446744073709551615 := by rw [bits_rr (lm_word _ _) (lm_word _ _), bits_rr (rr_word (lm_word _ _) (lm_word _ _)) (em_word _ _), f1]
  have g2 : bits .and .u64 (lm a b) (lm b a) = 0 := by rw [bits_an (lm_word _ _) (lm_word _ _), f2]
  have g3 : bits .and .u64 (lm a b) (em a b) = 0 := by rw [bits_an (lm_word _ _) (em_word _ _), f3]
  have g4 : bits .and .u64 (lm b a) (em a b) = 0 := by rw [bits_an (lm_word _ _) (em_word _ _), f4]
  have g5 : bits .xor .u64 (sw1 m a b) (pk m a b) = bits .xor .u64 a b := by rw [bits_xr (sw1_word hm ha hb) (pk_word hm ha hb), bits_xr ha hb, f10]
  clear f1 f2 f3 f4 f5 f6 f7 f8 f9 f10 ha hb hm
  generalize lm a b = l at *
  generalize lm b a = g at *
  generalize em a b = e at *
  generalize sw1 m a b = p at *
  generalize pk m a b = q at *
  go_enter Try.func8, Try.ntmps8
  go_wp2_with fail
  refine (shown1 _).mono ?_; rintro e w' ⟨rfl, rfl⟩
  go_wp2_with fail
  (with_reducible refine (K0.out _).mono ?_); rintro e w' ⟨rfl, rfl⟩
  go_wp2_with fail
  (with_reducible refine (K1.out _).mono ?_); rintro e w' ⟨rfl, rfl⟩
  go_wp2_with fail
  (with_reducible refine (K2.out _).mono ?_); rintro e w' ⟨rfl, rfl⟩
  go_wp2_with fail
  (with_reducible refine (K4.out _).mono ?_); rintro e w' ⟨rfl, rfl⟩
  go_wp2_with fail
  (with_reducible refine (K5.out _).mono ?_); rintro e w' ⟨rfl, rfl⟩
  go_wp2_with fail
  (with_reducible refine (K6.out _).mono ?_); rintro e w' ⟨rfl, rfl⟩
  go_wp2_with fail
  (with_reducible refine (K3.out _).mono ?_); rintro e w' ⟨rfl, rfl⟩
  go_wp2_with fail
  go_ret
  exact ⟨rfl, Below.refl _ _⟩
end Go.Proofs.Ytjgbnokhelfnaaa
