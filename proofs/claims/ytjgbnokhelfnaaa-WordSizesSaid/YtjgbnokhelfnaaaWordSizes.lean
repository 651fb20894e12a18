/-
  The walk of shellgamelaw1.WordSizes.
-/
import Derived.Test.YtjgbnokhelfnaaaLaw1
namespace Go.Proofs.Ytjgbnokhelfnaaa
open Go.RowKit Go.Sg
theorem WordSizes_walk (a b : Int) (ha : Word a) (hb : Num b) (w : World) :
    Calls Try.prog 3 #[.int .u64 a, .int .i64 b] w fun e w' => e = .returned (.bool true) ∧ Below w.heap.size w w' := by
  have H1 := Lib.hid ha
  have H2 := Lib.hid hb
  clear ha hb
  go_enter Try.func3, Try.ntmps3
  go_wp2_with (first
    | (go_at_call 11; refine (shown1 _).mono ?_; rintro e w' ⟨rfl, rfl⟩)
    | (go_at_call 12; refine (log_any a H1.out _).mono ?_; rintro e w' ⟨rfl, rfl⟩)
    | (go_at_call 13; refine (refLog_any a H1.out _).mono ?_; rintro e w' ⟨rfl, rfl⟩)
    | (go_at_call 14; refine (round_any b H2.out.1 H2.out.2 _).mono ?_; rintro e w' ⟨rfl, rfl⟩)
    | (go_at_call 15; refine (refRound_any b H2.out _).mono ?_; rintro e w' ⟨rfl, rfl⟩))
  go_ret
  exact ⟨rfl, Below.refl _ _⟩
end Go.Proofs.Ytjgbnokhelfnaaa
