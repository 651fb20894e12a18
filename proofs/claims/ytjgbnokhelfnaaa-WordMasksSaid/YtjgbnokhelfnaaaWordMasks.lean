/-
  The walk of shellgamelaw1.WordMasks.
-/
import Derived.Test.YtjgbnokhelfnaaaLaw1
namespace Go.Proofs.Ytjgbnokhelfnaaa
open Go.RowKit Go.Sg
theorem WordMasks_walk (a b : Int) (ha : Word a) (hb : Word b) (w : World) :
    Calls Try.prog 6 #[.int .u64 a, .int .u64 b] w fun e w' => e = .returned (.bool true) ∧ Below w.heap.size w w' := by
  have H1 := Lib.hid ha
  have H2 := Lib.hid hb
  clear ha hb
  go_enter Try.func6, Try.ntmps6
  go_wp2_with (first
    | (go_at_call 11; refine (shown1 _).mono ?_; rintro e w' ⟨rfl, rfl⟩)
    | (go_at_call 16; refine (zero_any a H1.out _).mono ?_; rintro e w' ⟨rfl, rfl⟩)
    | (go_at_call 18; refine (equal_any a b H1.out H2.out _).mono ?_; rintro e w' ⟨rfl, rfl⟩)
    | (go_at_call 20; refine (less_any a b H1.out H2.out _).mono ?_; rintro e w' ⟨rfl, rfl⟩)
    | (go_at_call 17; refine (refZero_any a _).mono ?_; rintro e w' ⟨rfl, rfl⟩)
    | (go_at_call 19; refine (refEqual_any a b _).mono ?_; rintro e w' ⟨rfl, rfl⟩)
    | (go_at_call 21; refine (refLess_any a b _).mono ?_; rintro e w' ⟨rfl, rfl⟩))
  go_ret
  exact ⟨rfl, Below.refl _ _⟩
end Go.Proofs.Ytjgbnokhelfnaaa
