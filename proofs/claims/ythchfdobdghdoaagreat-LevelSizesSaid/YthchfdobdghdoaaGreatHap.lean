/-
  Joined texts: Made.
-/
import Derived.Test.YthchfdobdghdoaaGreatProg
import Derived.Test.YthchfdobdghdoaaGreatHam
set_option linter.unusedVariables false
set_option linter.unusedSimpArgs false
set_option linter.unusedSectionVars false
set_option linter.unnecessarySimpa false
section
/-
  How the program was made, told by the first words of its order alone (the kernel need not go over all of them); what a row's facts are, one by one.
-/
namespace Go.Sg
open Go

theorem signs_app (r : List Char) : ∀ a : List Char, (a.all fun c => c != Char.ofNat 32) = true → wordsSigns (a ++ Char.ofNat 32 :: r) = a :: wordsSigns r
  | [], _ => rfl
  | c :: a, h => by
    simp only [List.all_cons, Bool.and_eq_true, bne_iff_ne, ne_eq] at h
    have ih := signs_app r a h.2
    rw [List.cons_append, wordsSigns.eq_3 _ _ (fun e => h.1 e), ih]
theorem behind_cut {l sum rest : List Char} (h : l = "harness".toList ++ Char.ofNat 32 :: (sum ++ Char.ofNat 32 :: ("cut".toList ++ Char.ofNat 32 :: rest))) (hs : isSumSigns sum = true) (hsp : (sum.all fun c => c != Char.ofNat 32) = true) :
    behindMainWord (wordsSigns l) = "cut".toList :: wordsSigns rest := by
  rw [h, signs_app _ _ (by decide), signs_app _ _ hsp, signs_app _ _ (by decide)]
  simp [behindMainWord, hs]
theorem made_strip (ws : List (List Char)) : stripLifts liftWords ("cut".toList :: ws) = ([], "cut".toList :: ws) := by
  simp [stripLifts, liftWords]
theorem made_make {P : Program} {ws : List (List Char)} (h : behindMainWord (wordsSigns P.initOrder.toList) = "cut".toList :: ws) : P.make = some .cut := by
  unfold Program.make
  rw [h]
  rfl
theorem made_lifts {P : Program} {ws : List (List Char)} (h : behindMainWord (wordsSigns P.initOrder.toList) = "cut".toList :: ws) : P.liftsFinal = false := by
  unfold Program.liftsFinal Program.headLifts
  simp only [h, made_strip]
  simp
theorem made_enter {P : Program} {ws : List (List Char)} (h : behindMainWord (wordsSigns P.initOrder.toList) = "cut".toList :: ws) (h1 : P.laysLater = false) (h2 : P.bearsReflect = false) (h3 : P.doorFits [] = true) : P.mayEnter = true := by
  unfold Program.mayEnter
  simp only [h, made_strip, h1, h2, h3]
  simp
end Go.Sg
namespace Go.Proofs.YthchfdobdghdoaaGreat
open Go.RowKit Go.Sg
/-- the order's signs, by their numbers -/
def orderNums : List Nat := [104, 97, 114, 110, 101, 115, 115, 32, 55, 100, 97, 55, 51, 48, 50, 99, 99, 57, 97, 51, 55, 100, 54, 56, 102, 49, 53, 53, 54, 53, 52, 54, 57, 100, 48, 57, 98, 100, 50, 48, 50, 49, 56, 55, 99, 53, 54, 50, 102, 100, 49, 100, 99, 101, 55, 51, 49, 49, 48, 100, 102, 52, 54, 53, 98, 55, 56, 51, 99, 97, 101, 101, 32, 99, 117, 116, 32, 97, 116, 32, 115, 104, 101, 108, 108, 103, 97, 109, 101, 47, 115, 104, 101, 108, 108, 103, 97, 109, 101, 108, 97, 119, 49, 48, 46, 76, 101, 118, 101, 108, 83, 105, 122, 101, 115, 32, 115, 104, 101, 108, 108, 103, 97, 109, 101, 47, 115, 104, 101, 108, 108, 103, 97, 109, 101, 108, 97, 119, 49, 48, 46, 76, 101, 118, 101, 108, 80, 108, 97, 121, 115]
theorem order_is : Tryz.prog.initOrder = String.ofList (orderNums.map Char.ofNat) := by kernel_rfl
theorem order_signs : Tryz.prog.initOrder.toList = orderNums.map Char.ofNat := by rw [order_is, String.toList_ofList]
theorem order_first : orderNums.map Char.ofNat = "harness".toList ++ Char.ofNat 32 :: (((orderNums.drop 8).take 64).map Char.ofNat ++ Char.ofNat 32 :: ("cut".toList ++ Char.ofNat 32 :: (orderNums.drop 77).map Char.ofNat)) := by kernel_rfl
theorem behind : behindMainWord (wordsSigns Tryz.prog.initOrder.toList) = "cut".toList :: wordsSigns ((orderNums.drop 77).map Char.ofNat) := by
  rw [order_signs]
  exact behind_cut order_first (by kernel_rfl) (by kernel_rfl)
theorem make_is : Tryz.prog.make = some .cut := made_make behind
theorem lifts_is : Tryz.prog.liftsFinal = false := made_lifts behind
theorem enter_is : Tryz.prog.mayEnter = true := made_enter behind (by kernel_rfl) (by kernel_rfl) (by kernel_rfl)
end Go.Proofs.YthchfdobdghdoaaGreat
end
