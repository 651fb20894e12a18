/-
  Joined texts: Word.
-/
import Derived.Test.YthchfdobdghdoaaGreatProg
import Derived.Test.YthchfdobdghdoaaGreatHac
import Derived.WalkKit
import Derived.Laws.Externs
import Derived.Lib.Hide
set_option linter.unusedVariables false
set_option linter.unusedSimpArgs false
set_option linter.unusedSectionVars false
set_option linter.unnecessarySimpa false
section

/-
  The walks of package word: masks, Pick, Swap.
-/
namespace Go.Proofs.YthchfdobdghdoaaGreat
open Go.RowKit Go.Sg

def subEntry : Array Value → Sem Value := fun args => do
  let (x, y, b) ← Extern.MathBitsCarry.three "Sub64" args
  pure (Extern.MathBitsCarry.pair ((x + Extern.MathBitsCarry.m64 - y - b) % Extern.MathBitsCarry.m64) (if x < y + b then 1 else 0))

/-- The borrow. -/
def bor (x y : Int) : Int := b01 (decide (x < y))

theorem run_sub (x y : Nat) (w : World) :
    (subEntry #[.int .u64 x, .int .u64 y, .int .u64 0]).run Tryz.prog w =
      .ok (.tuple #[.int .u64 (((x + 18446744073709551616 - y) % 18446744073709551616 : Nat) : Int), .int .u64 ((if x < y then 1 else 0 : Nat) : Int)]) w := rfl

theorem sub64_0 (x y : Int) (hx : Word x) (hy : Word y) (w : World) : (callFunc 112 #[.int .u64 x, .int .u64 y, .int .u64 0]).run Tryz.prog w =
    .ok (.value (.tuple #[.int .u64 ((x - y) % 18446744073709551616), .int .u64 (bor x y)])) w := by
  obtain ⟨x, rfl, hx⟩ := nat_word hx
  obtain ⟨y, rfl, hy⟩ := nat_word hy
  rw [run_callFunc_extern Tryz.func112 (by kernel_rfl) (by kernel_rfl) (by kernel_rfl) (e := subEntry) (by kernel_rfl), run_sub x y]
  have e1 : (((x + 18446744073709551616 - y) % 18446744073709551616 : Nat) : Int) = ((x : Int) - y) % 18446744073709551616 := by omega
  have e2 : ((if x < y then 1 else 0 : Nat) : Int) = bor x y := by
    unfold bor b01
    by_cases h : x < y
    · have h' : (x : Int) < y := by omega
      simp [h]
    · have h' : ¬ (x : Int) < y := by omega
      simp [h]
  rw [e1, e2]
  rfl

theorem spread_any (a : Int) (ha : Word a) (w : World) : Calls Tryz.prog 113 #[.int .u64 a] w fun e w' => e = .returned (.int .u64 (sm a)) ∧ w' = w := by
  have HS := Lib.hid (spread_eq ha)
  clear ha
  go_enter Tryz.func113, Tryz.ntmps113
  go_wp2
  go_ret
  exact ⟨congrArg (fun x => Ending.returned (Value.int .u64 x)) HS.out, rfl⟩


theorem less_any (a b : Int) (ha : Word a) (hb : Word b) (w : World) : Calls Tryz.prog 101 #[.int .u64 a, .int .u64 b] w fun e w' => e = .returned (.int .u64 (lm a b)) ∧ w' = w := by
  have hs := sub64_0 a b ha hb w
  have h0 := spread_any _ (b01_word (decide (a < b))) w
  rw [sm_b01] at h0
  have H0 := Lib.hid h0
  clear h0
  go_enter Tryz.func101, Tryz.ntmps101
  go_wp2_with fail
  refine H0.out.mono ?_
  rintro e w' ⟨rfl, rfl⟩
  go_wp2
  go_ret
  exact ⟨rfl, rfl⟩
theorem swap_any (m a b : Int) (hm : Word m) (ha : Word a) (hb : Word b) (w : World) : Calls Tryz.prog 114 #[.int .u64 m, .int .u64 a, .int .u64 b] w fun e w' => e = .returned (.tuple #[.int .u64 (sw1 m a b), .int .u64 (pk m a b)]) ∧ w' = w := by
  have H0 := Lib.hid (bits_xr ha hb)
  have H1 := Lib.hid (bits_an hm (xr_word ha hb))
  have H2 := Lib.hid (bits_xr ha (an_word hm (xr_word ha hb)))
  have H3 := Lib.hid (bits_xr hb (an_word hm (xr_word ha hb)))
  clear hm ha hb
  go_enter Tryz.func114, Tryz.ntmps114
  go_wp2
  go_ret2
  refine ⟨?_, rfl⟩
  simp only [Array.getD, H0.out, H1.out, H2.out, H3.out, sw1, pk]
  rfl
end Go.Proofs.YthchfdobdghdoaaGreat
end
