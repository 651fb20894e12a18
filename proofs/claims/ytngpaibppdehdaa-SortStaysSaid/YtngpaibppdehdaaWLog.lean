/-
  The walks of word.Log.
-/
import Derived.Test.YtngpaibppdehdaaLen
import Derived.Test.YtngpaibppdehdaaPure1
import Derived.WalkKit
import Derived.Lib.Hide
namespace Go.Proofs.Ytngpaibppdehdaa
open Go.RowKit Go.Sg

theorem len64_any (a : Int) (ha : Word a) (w : World) : Calls Try.prog 95 #[.int .u64 a] w fun e w' => e = .returned (.int .i64 (lenI a)) ∧ w' = w :=
  Try.bits_Len64 a w ha.1 (by have := ha.2; omega)

theorem log_any (a : Int) (ha : Word a) (w : World) : Calls Try.prog 79 #[.int .u64 a] w fun e w' => e = .returned (.int .i64 (logI a)) ∧ w' = w := by
  have hb := lenI_bd a
  obtain ⟨hb0, hb1⟩ := hb
  have H0 := Lib.hid (len64_any a ha w)
  clear ha
  go_enter Try.func79, Try.ntmps79
  go_wp2_with fail
  refine H0.out.mono ?_
  rintro e w' ⟨rfl, rfl⟩
  go_wp2
  go_ret
  exact ⟨rfl, rfl⟩
end Go.Proofs.Ytngpaibppdehdaa
