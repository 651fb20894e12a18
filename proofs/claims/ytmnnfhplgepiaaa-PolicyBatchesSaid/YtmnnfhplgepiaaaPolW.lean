/-
  The walk of policy.Victims at no items; and at any.
-/
import Derived.Test.YtmnnfhplgepiaaaPolV
namespace Go.Proofs.Ytmnnfhplgepiaaa
open Go Go.RowKit Go.Sg
set_option maxRecDepth 100000 in
theorem cloneI_nil (v : Value) (w : World) (hv : SlK itV w v ([] : List It)) :
    Calls Try.prog 21 #[v] w fun e w' => ∃ a cap, e = .returned (.slice a 0 cap) ∧ Below w.heap.size w w' := by
  obtain ⟨a, cap, rfl, h1, h2, h3⟩ := hv
  have HB : Hid (Below w.heap.size w w) := Lib.hid (Below.refl _ _)
  clear h3 h1 h2
  rw [List.length_nil]
  go_enter Try.func21, Try.ntmps21
  go_wp2_with fail
  rw [Go.Lib.run_eql_slice_nil (h := Try.underlying25)]
  simp only [Result.andThen_ok, Oper.upon_value]
  cases a with
  | none =>
    go_wp2
    go_ret
    exact ⟨none, 0, rfl, HB.out⟩
  | some ad =>
    go_wp2
    go_ret
    exact ⟨_, _, rfl, by first | exact HB.out | exact HB.out.alloc (Nat.le_refl _) _⟩
set_option maxRecDepth 100000 in
theorem victims_nil (v : Value) (cap' batch : Int) (w : World) (hv : SlK itV w v ([] : List It)) :
    Calls Try.prog 10 #[v, .int .i64 cap', .int .i64 batch] w fun e w' => ∃ v', e = .returned v' ∧ Sl1 w' v' [] ∧ Below w.heap.size w w' := by
  have HV := Lib.hid hv
  obtain ⟨a, cap, rfl, h1, h2, h3⟩ := hv
  obtain ⟨wo, hwo⟩ : ∃ wo : World, wo = w := ⟨_, rfl⟩
  rw [List.length_nil] at HV ⊢
  clear h1 h2 h3
  have hm0 : min (manyI 0 0 cap' batch) 0 = 0 := by
    have h0 : 0 ≤ manyI 0 0 cap' batch := by unfold manyI; omega
    omega
  have hm1 : (if (0 : Int) < manyI 0 0 cap' batch then (0 : Int) else manyI 0 0 cap' batch) = 0 := by
    have h0 : 0 ≤ manyI 0 0 cap' batch := by unfold manyI; omega
    split <;> omega
  have KM := Lib.hid (fun w' => many_any 0 0 cap' batch w')
  generalize manyI 0 0 cap' batch = mm at *
  go_enter Try.func10, Try.ntmps10
  go_wp2_with fail
  go_loopw [7, 15] (fun c i wr => c = .int .i64 0 ∧ i = .int .i64 0 ∧ Hid (Below wo.heap.size wo wr)) (fun _ _ _ => 0)
  case atStart => exact ⟨rfl, rfl, Lib.hid (by rw [hwo]; exact Below.refl _ _)⟩
  case round =>
    obtain ⟨rfl, rfl, HB⟩ := hrel
    have KC := Lib.hid (cloneI_nil _ wr (HV.out.below (hwo ▸ HB.out)))
    go_wp2_with fail
    refine KC.out.mono ?_
    rintro e w2 ⟨a2, cap2, rfl, hb2⟩
    have HB2 : Hid (Below wo.heap.size wo w2) := Lib.hid (HB.out.trans (hb2.mono HB.out.size))
    clear hb2 KC HB
    go_wp2_with fail
    refine (sort0 a2 cap2 w2).mono ?_
    rintro e w3 ⟨rfl, hb3⟩
    have HB3 : Hid (Below wo.heap.size wo w3) := Lib.hid (HB2.out.trans (hb3.mono HB2.out.size))
    clear hb3 HB2
    go_wp2_with fail
    refine (KM.out _).mono ?_
    rintro e w4 ⟨rfl, rfl⟩
    obtain ⟨wz, hwz⟩ : ∃ wz : World, wz = w4 := ⟨_, rfl⟩
    go_wp2_with fail
    go_loopw [10, 40] (fun sv i wy => sv = .slice none 0 0 ∧ i = .int .i64 0 ∧ Hid (Below wo.heap.size wo wy)) (fun _ _ _ => 0)
    case atStart => exact ⟨rfl, rfl, HB3⟩
    case round =>
      obtain ⟨rfl, rfl, HB⟩ := hrel
      go_wp2
      go_ret
      exact ⟨_, rfl, .inl ⟨rfl, none, 0, rfl⟩, by rw [← hwo]; exact HB.out⟩
theorem victims_all (l : List It) (hl : l.length ≤ 1099511627776) (hw : ∀ x ∈ l, ItW x) (v : Value) (cap' batch : Int) (w : World) (hv : SlK itV w v l) :
    Calls Try.prog 10 #[v, .int .i64 cap', .int .i64 batch] w fun e w' => ∃ v', e = .returned v' ∧ Sl1 w' v' ((victI l cap' batch).map (Value.int .i64)) ∧ Below w.heap.size w w' := by
  by_cases hne : l = []
  · subst hne
    have e : victI [] cap' batch = [] := List.eq_nil_of_length_eq_zero (by rw [victI_len]; have := goI_le [] cap' batch; simpa using this)
    rw [e]
    exact victims_nil v cap' batch w hv
  · exact victims_any l hne hl hw v cap' batch w hv
end Go.Proofs.Ytmnnfhplgepiaaa
