/-
  The walk of shellgamelaw8.PathMeets.
-/
import Derived.Test.YthdglamkmfhimaaRefPath
namespace Go.Proofs.Ythdglamkmfhimaa
open Go.RowKit Go.Sg

theorem PathMeets_walk (n a b : Int) (w : World) (hn : Num n) (_ha : Num a) (_hb : Num b) :
    Calls Try.prog 3 #[.int .i64 n, .int .i64 a, .int .i64 b] w fun e w' => e = .returned (.bool true) ∧ Below w.heap.size w w' := by
  have KS := Lib.hid (fun w' (h : Below w.heap.size w w') => cls_call (P := Try.prog) shown8 (Nat.le_refl _) h)
  have KP := Lib.hid (fun w' (h : Below w.heap.size w w') => cls_same (P := Try.prog) (pathDeep_any n a b hn) h)
  have KR := Lib.hid (fun w' (h : Below w.heap.size w w') => cls_call (P := Try.prog) (ref8Deep_any n a b hn) (Nat.le_refl _) h)
  have hB : Below w.heap.size w w := Below.refl _ _
  generalize deepI n a b = x at *
  go_enter Try.func3, Try.ntmps3
  go_wp2_with (first
    | (go_at_call 9; (with_reducible refine (KS.out _ (by assumption)).mono ?_); rintro e w' ⟨rfl, hb1⟩)
    | (go_at_call 10; (with_reducible refine (KP.out _ (by assumption)).mono ?_); rintro e w' ⟨rfl, hb2⟩)
    | (go_at_call 11; (with_reducible refine (KR.out _ (by assumption)).mono ?_); rintro e w' ⟨rfl, hb3⟩))
  go_ret
  exact ⟨congrArg (fun b => Ending.returned (Value.bool b)) (by simp), by assumption⟩
end Go.Proofs.Ythdglamkmfhimaa
