/-
  The walks of the stable sort on no items.
-/
import Derived.Test.YtmnnfhplgepiaaaPolD
namespace Go.Proofs.Ytmnnfhplgepiaaa
open Go Go.RowKit Go.Sg
theorem insertion0 (a : Option Addr) (cap : Nat) (w : World) :
    Calls Try.prog 29 #[.slice a 0 cap, .int .i64 0, .int .i64 0, .func (.func 23) #[] #[]] w fun e w' => e = .returned (.tuple #[]) ∧ Below w.heap.size w w' := by
  obtain ⟨wo, hwo⟩ : ∃ wo : World, wo = w := ⟨_, rfl⟩
  go_enter Try.func29, Try.ntmps29
  go_wp2_with fail
  go_loopw [8] (fun i wr => i = .int .i64 1 ∧ Hid (Below wo.heap.size wo wr)) (fun _ _ => 0)
  case atStart => exact ⟨rfl, Lib.hid (by rw [hwo]; exact Below.refl _ _)⟩
  case round =>
    obtain ⟨rfl, HB⟩ := hrel
    go_wp2
    go_end0
    exact ⟨rfl, by rw [← hwo]; exact HB.out⟩
theorem stable0 (a : Option Addr) (cap : Nat) (w : World) :
    Calls Try.prog 25 #[.slice a 0 cap, .int .i64 0, .func (.func 23) #[] #[]] w fun e w' => e = .returned (.tuple #[]) ∧ Below w.heap.size w w' := by
  obtain ⟨wo, hwo⟩ : ∃ wo : World, wo = w := ⟨_, rfl⟩
  have K := Lib.hid (fun w' => insertion0 a cap w')
  go_enter Try.func25, Try.ntmps25
  go_wp2_with fail
  go_loopw [7, 8] (fun i j wr => i = .int .i64 0 ∧ j = .int .i64 20 ∧ Hid (Below wo.heap.size wo wr)) (fun _ _ _ => 0)
  case atStart => exact ⟨rfl, rfl, Lib.hid (by rw [hwo]; exact Below.refl _ _)⟩
  case round =>
    obtain ⟨rfl, rfl, HB⟩ := hrel
    go_wp2_with fail
    refine (K.out _).mono ?_
    rintro e w' ⟨rfl, hb⟩
    have HB2 : Hid (Below wo.heap.size wo w') := Lib.hid (HB.out.trans (hb.mono HB.out.size))
    clear hb HB
    go_wp2_with fail
    go_loopw [6] (fun i wr => i = .int .i64 20 ∧ Hid (Below wo.heap.size wo wr)) (fun _ _ => 0)
    case atStart => exact ⟨rfl, HB2⟩
    case round =>
      obtain ⟨rfl, HB⟩ := hrel
      go_wp2
      go_end0
      exact ⟨rfl, by rw [← hwo]; exact HB.out⟩
theorem sort0 (a : Option Addr) (cap : Nat) (w : World) :
    Calls Try.prog 22 #[.slice a 0 cap, .func (.func 23) #[] #[]] w fun e w' => e = .returned (.tuple #[]) ∧ Below w.heap.size w w' := by
  have K := Lib.hid (stable0 a cap w)
  go_enter Try.func22, Try.ntmps22
  go_wp2_with fail
  refine K.out.mono ?_
  rintro e w' ⟨rfl, hT⟩
  have HT := Lib.hid hT
  clear hT
  go_wp2
  go_end0
  exact ⟨rfl, HT.out⟩
end Go.Proofs.Ytmnnfhplgepiaaa
