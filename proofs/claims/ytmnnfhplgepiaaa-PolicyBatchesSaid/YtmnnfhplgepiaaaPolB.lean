/-
  The walks of policy's small functions, and of the document's.
-/
import Derived.Test.YtmnnfhplgepiaaaPolC
namespace Go.Proofs.Ytmnnfhplgepiaaa
open Go Go.RowKit Go.Sg
theorem blank_any (c : Int) (w : World) : Calls Try.prog 16 #[.int .i64 c] w fun e w' => e = .returned (.int .u64 (blankI c)) ∧ w' = w := by
  have hw : Word (IntKind.u64.wrap c) := ⟨by rw [IntKind.wrap_u64]; omega, by rw [IntKind.wrap_u64]; omega⟩
  have hm : IntKind.u64.wrap c % 2147483648 = c % 2147483648 := by rw [IntKind.wrap_u64]; omega
  have HB1 : Hid (bits .and .u64 (IntKind.u64.wrap c) 2147483647 = c % 2147483648) := Lib.hid (by rw [bits_an hw ⟨by decide, by decide⟩, an_31 hw, hm])
  have HB2 : Hid (bits .or .u64 9223372036854775808 (c % 2147483648) = blankI c) := Lib.hid (by rw [bits_rr ⟨by decide, by decide⟩ ⟨by omega, by omega⟩, rr_63 (by omega) (by omega)]; rfl)
  clear hw hm
  go_enter Try.func16, Try.ntmps16
  go_wp2
  simp only [HB1.out, HB2.out]
  go_ret
  exact ⟨rfl, rfl⟩
theorem rblank_any (c : Int) (w : World) : Calls Try.prog 17 #[.int .i64 c] w fun e w' => e = .returned (.int .u64 (blankI c)) ∧ w' = w := by
  have hm : (IntKind.u64.wrap c).tmod 2147483648 = c % 2147483648 := by
    rw [IntKind.wrap_u64, Int.tmod_eq_emod_of_nonneg (by omega)]
    omega
  have hb : IntKind.u64.wrap (9223372036854775808 + (IntKind.u64.wrap c).tmod 2147483648) = blankI c := by
    rw [hm, IntKind.wrap_u64]
    unfold blankI
    omega
  go_enter Try.func17, Try.ntmps17
  go_wp2
  go_ret
  exact ⟨ret_u64 (by first | rfl | exact hb), rfl⟩
theorem wrap64_I (n : Int) : wrap64 n = wrapI n := by
  unfold wrapI
  have := IntKind.wrap_i64 n
  first
    | exact this
    | (unfold wrap64; omega)
theorem ret_i64' {a b : Int} (h : a = b) : Ending.returned (.int .i64 a) = .returned (.int .i64 b) := by rw [h]
theorem many_any (r e c b : Int) (w : World) : Calls Try.prog 18 #[.int .i64 r, .int .i64 e, .int .i64 c, .int .i64 b] w fun e' w' => e' = .returned (.int .i64 (manyI r e c b)) ∧ w' = w := by
  have hw := wrap64_I (r - c)
  obtain ⟨s, hs⟩ : ∃ s, wrap64 (r - c) = s := ⟨_, rfl⟩
  obtain ⟨x, hx⟩ : ∃ x : Int, (if s < e then e else s) = x := ⟨_, rfl⟩
  obtain ⟨y, hy⟩ : ∃ y : Int, (if b < x then b else x) = y := ⟨_, rfl⟩
  obtain ⟨z, hz⟩ : ∃ z : Int, (if y < 0 then 0 else y) = z := ⟨_, rfl⟩
  have HM : Hid (z = manyI r e c b) := Lib.hid (by
    unfold manyI
    rw [← hw, hs, ← hz, ← hy, ← hx]
    repeat' split
    all_goals omega)
  rw [← HM.out]
  clear hw HM
  go_enter Try.func18, Try.ntmps18
  go_wp2
  go_ret
  exact ⟨rfl, rfl⟩
theorem rmany_any (r e c b : Int) (w : World) : Calls Try.prog 19 #[.int .i64 r, .int .i64 e, .int .i64 c, .int .i64 b] w fun e' w' => e' = .returned (.int .i64 (manyI r e c b)) ∧ w' = w := by
  have hw := wrap64_I (r - c)
  obtain ⟨s, hs⟩ : ∃ s, wrap64 (r - c) = s := ⟨_, rfl⟩
  obtain ⟨x, hx⟩ : ∃ x : Int, (if e < s then s else e) = x := ⟨_, rfl⟩
  obtain ⟨y, hy⟩ : ∃ y : Int, (if x < b then x else b) = y := ⟨_, rfl⟩
  obtain ⟨z, hz⟩ : ∃ z : Int, (if 0 < y then y else 0) = z := ⟨_, rfl⟩
  have HM : Hid (z = manyI r e c b) := Lib.hid (by
    unfold manyI
    rw [← hw, hs, ← hz, ← hy, ← hx]
    repeat' split
    all_goals omega)
  rw [← HM.out]
  clear hw HM
  go_enter Try.func19, Try.ntmps19
  go_wp2
  go_ret
  exact ⟨rfl, rfl⟩
theorem rkey_any (x : It) (hx : ItW x) (w : World) : Calls Try.prog 15 #[.agg #[.int .i64 x.1, .int .u64 x.2.1, .bool x.2.2]] w fun e w' => e = .returned (.int .u64 (keyI x)) ∧ Below w.heap.size w w' := by
  obtain ⟨c, r, b⟩ := x
  have hr : Word r := hx
  have h0 : r.tmod 4611686018427387904 = r % 4611686018427387904 := Int.tmod_eq_emod_of_nonneg hr.1
  have h1 : IntKind.u64.wrap (r % 4611686018427387904 + 4611686018427387904) = r % 4611686018427387904 + 4611686018427387904 := by rw [IntKind.wrap_u64]; omega
  have HB : Hid (Below w.heap.size w (w.alloc (.cells #[.int .i64 c, .int .u64 r, .bool b] 41))) := Lib.hid ((Below.refl _ _).alloc (Nat.le_refl _) _)
  clear hx hr
  go_enter Try.func15, Try.ntmps15
  cases b
  · go_wp2
    go_ret
    exact ⟨ret_u64 (by first | exact h1 | simp [keyI, h0, h1]), HB.out⟩
  · go_wp2
    go_ret
    exact ⟨ret_u64 (by simp [keyI, h0]), HB.out⟩
end Go.Proofs.Ytmnnfhplgepiaaa
