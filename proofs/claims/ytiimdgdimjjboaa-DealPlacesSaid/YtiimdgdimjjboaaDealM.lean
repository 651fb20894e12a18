/-
  The walk of slices.Repeat of one number.
-/
import Derived.Test.YtiimdgdimjjboaaDealD
import Derived.Laws.IdiomCopy
import Derived.BigRegion
namespace Go.Proofs.Ytiimdgdimjjboaa
open Go Go.RowKit Go.Sg
theorem an_32 (n : Nat) (hn : n < 4294967296) : bits .and .u64 (n : Int) 4294967295 = n := by
  rw [bits_an ⟨by omega, by omega⟩ ⟨by decide, by decide⟩]
  unfold an
  have e : (4294967295 : Int).toNat = 2 ^ 32 - 1 := by decide
  rw [e, Int.toNat_natCast, Nat.and_two_pow_sub_one_eq_mod]
  omega
set_option maxRecDepth 100000 in
theorem mul64_any (n : Nat) (hn2 : n < 4294967296) (w : World) : Calls Try.prog 83 #[.int .u64 1, .int .u64 n] w fun e w' => e = .returned (.tuple #[.int .u64 0, .int .u64 n]) ∧ w' = w := by
  have b1 : bits .and .u64 1 4294967295 = 1 := an_32 1 (by decide)
  have b2 : bits .and .u64 (n : Int) 4294967295 = n := an_32 n hn2
  have b3 : bits .and .u64 0 4294967295 = 0 := an_32 0 (by decide)
  have e1 : (n : Int) / 4294967296 = 0 := by omega
  have e2 : IntKind.u64.wrap (n : Int) = n := by rw [IntKind.wrap_u64]; omega
  go_enter Try.func83, Try.ntmps83
  go_wp2
  go_ret2
  exact ⟨rfl, rfl⟩
theorem mul_any (n : Nat) (hn2 : n < 4294967296) (w : World) : Calls Try.prog 68 #[.int .u64 1, .int .u64 n] w fun e w' => e = .returned (.tuple #[.int .u64 0, .int .u64 n]) ∧ w' = w := by
  have K := Lib.hid (fun w' => mul64_any n hn2 w')
  go_enter Try.func68, Try.ntmps68
  go_wp2_with (first | (go_at_call 83; refine (K.out _).mono ?_; rintro e w' ⟨rfl, rfl⟩) | fail)
  go_ret2
  exact ⟨rfl, rfl⟩
theorem copied {w : World} {G n : Nat} {T : TypeId} {v u : Value} {k : Nat} (h : w.rowIs G T n (fun r => if r < k then v else u)) : ∀ (m o : Nat), o = k → (w.setCells G o (List.replicate m v)).rowIs G T n (fun r => if r < k + m then v else u) := by
  intro m
  induction m generalizing w k with
  | zero => intro o _; exact h
  | succ m ih =>
    intro o ho
    subst ho
    rw [List.replicate_succ, World.setCells]
    have h2 := ih (k := o + 1) (w := w.setCell ⟨G, o, none⟩ v) ((h.set o v).congr (fun r _ => by
      by_cases h1 : r = o
      · simp [h1]
      · by_cases h2 : r < o
        · simp [h1, h2, show r < o + 1 by omega]
        · simp [h1, h2, show ¬ r < o + 1 by omega])) (o + 1) rfl
    rwa [show o + 1 + m = o + (m + 1) by omega] at h2
set_option maxHeartbeats 4000000 in
set_option maxRecDepth 100000 in
theorem repeat_any (x : Int) (b : Nat) (n : Nat) (hn : 1 ≤ n) (hn2 : n ≤ 1000000) (w : World) (hx : w.cell? ⟨b, 0, none⟩ = some (.int .i64 x)) (hb : b < w.heap.size) :
    Calls Try.prog 45 #[.slice (some ⟨b, 0, none⟩) 1 1, .int .i64 n] w fun e w' => ∃ G, e = .returned (.slice (some ⟨G, 0, none⟩) n n) ∧ w.heap.size ≤ G ∧ w'.rowIs G 3 n (fun _ => .int .i64 x) ∧ Below w.heap.size w w' := by
  have KM := Lib.hid (fun w' => mul_any n (by omega) w')
  obtain ⟨i0, hi0, hz0, hz1, hz2⟩ := info_parts (show (Try.prog.info? 3).map (fun i => (i.zero, i.size, i.bytes)) = some (some (.int .i64 0), 1, 8) by kernel_rfl)
  have HI := Lib.hid hi0
  have HZ := Lib.hid hz0
  have HS := Lib.hid hz1
  have HY := Lib.hid hz2
  clear hi0 hz0 hz1 hz2
  have e1 : IntKind.u64.wrap (n : Int) = n := by rw [IntKind.wrap_u64]; omega
  have e2 : IntKind.i64.wrap (n : Int) = n := by rw [IntKind.wrap_i64]; omega
  have e3 : decide ((9223372036854775807 : Int) < (n : Int)) = false := decide_eq_false (by omega)
  have e4 : decide ((n : Int) < 0) = false := decide_eq_false (by omega)
  obtain ⟨w4, hw4⟩ : ∃ w4, w.alloc (.cells (madeCells #[.int .i64 0] n) 3) = w4 := ⟨_, rfl⟩
  have hrow : w4.rowIs w.heap.size 3 n (fun r => .int .i64 0) := by rw [← hw4]; exact World.rowIs_made w (.int .i64 0) n 3
  have hbw : Below w.heap.size w w4 := by rw [← hw4]; exact (Below.refl _ _).alloc (Nat.le_refl _) _
  have hcp : ∀ ty, (Builtin.copy_ #[30, 30] ty #[.slice (some ⟨w.heap.size, 0, none⟩) n n, .slice (some ⟨b, 0, none⟩) 1 1]).run Try.prog w4 = .ok (goInt 1) (w4.setCells w.heap.size 0 [.int .i64 x]) :=
    fun ty => run_copy_cells w4 30 30 ty 3 w.heap.size 0 n n ⟨b, 0, none⟩ 1 1 [.int .i64 x] Try.underlying30 (by kernel_rfl) (Nat.min_eq_left hn).symm (fun j v hj => by
      have hj0 : j = 0 := by
        have := (List.getElem?_eq_some_iff.1 hj).1
        simpa using this
      subst hj0
      rw [addr_add, Nat.zero_add]
      simp at hj
      rw [← hj, hbw.cell (p := ⟨b, 0, none⟩) hb]
      exact hx) (fun j hj => by rw [Nat.zero_add, hrow.cell (by simp at hj; omega)]; rfl) (fun j hj => hrow.frozen _) (by simp [Value.oneCell'])
  have HR4 : Hid ((w4.setCells w.heap.size 0 [.int .i64 x]).rowIs w.heap.size 3 n (fun r => if r < 1 then .int .i64 x else .int .i64 0)) := Lib.hid (by
    have := copied (w := w4) (G := w.heap.size) (n := n) (T := 3) (v := .int .i64 x) (u := .int .i64 0) (k := 0) (hrow.congr (fun r _ => by simp)) 1 0 rfl
    simpa using this)
  have HB4 : Hid (Below w.heap.size w (w4.setCells w.heap.size 0 [.int .i64 x])) := Lib.hid (below_setCells (Nat.le_refl _) _ _ hbw)
  clear hrow hbw hx hb
  go_enter Try.func45, Try.ntmps45
  go_wp2_with (first
    | (go_at_call 68; refine (KM.out _).mono ?_; rintro e w' ⟨rfl, rfl⟩)
    | (at_make; go_loud (refine wpList_make_row _ rfl (.tmp 29) (.tmp 29) 30 rfl 3 i0 (.int .i64 0) Try.underlying30 HI.out HZ.out HS.out rfl .i64 .i64 n rfl rfl (by rw [HY.out]; omega) (by omega) ?_))
    | fail)
  obtain ⟨w, rfl⟩ : ∃ w : World, w = w' := ⟨_, rfl⟩
  obtain ⟨G, hG⟩ : ∃ G, w.heap.size = G := ⟨_, rfl⟩
  rw [hG] at HR4
  have HB4 : Hid (Below w.heap.size w (w4.setCells G 0 [.int .i64 x])) := Lib.hid (by have := HB4.out; rwa [hG] at this ⊢)
  rw [hG]
  have HG := Lib.hid hG
  clear hw4 hcp hG
  go_loopw [8] (fun i wr => ∃ k : Nat, 1 ≤ k ∧ k ≤ n ∧ i = .int .i64 k ∧ Hid (wr.rowIs G 3 n (fun r => if r < k then .int .i64 x else .int .i64 0)) ∧ Hid (Below w.heap.size w wr)) (fun i _ => n - (intOf i).toNat)
  case atStart => exact ⟨1, by omega, hn, rfl, HR4, HB4⟩
  case round =>
    obtain ⟨k, hk1, hkn, rfl, HRK, HBK⟩ := hrel
    by_cases hlt : k < n
    · have hd : decide ((k : Int) < (n : Int)) = true := decide_eq_true (by omega)
      have hd' : decide (k < n) = true := decide_eq_true hlt
      obtain ⟨m, hm⟩ : ∃ m, Nat.min k (n - k) = m := ⟨_, rfl⟩
      have hm1 : 1 ≤ m ∧ k + m ≤ n ∧ m ≤ k := by
        have h1 : Nat.min k (n - k) = min k (n - k) := rfl
        omega
      have hcp : ∀ ty, (Builtin.copy_ #[30, 30] ty #[.slice (some ⟨G, k, none⟩) (n - k) (n - k), .slice (some ⟨G, 0, none⟩) k n]).run Try.prog wr.drew = .ok (goInt m) (wr.drew.setCells G k (List.replicate m (.int .i64 x))) := fun ty => by
        have h := run_copy_cells (P := Try.prog) wr.drew 30 30 ty 3 G k (n - k) (n - k) ⟨G, 0, none⟩ k n (List.replicate m (.int .i64 x)) Try.underlying30 (by kernel_rfl) (by rw [List.length_replicate, hm]) (fun j v hj => by
          obtain ⟨hj1, rfl⟩ := List.getElem?_eq_some_iff.1 hj
          rw [List.length_replicate] at hj1
          rw [addr_add, Nat.zero_add, List.getElem_replicate]
          have := HRK.out.drew.cell (show j < n by omega)
          rwa [if_pos (by omega)] at this) (fun j hj => by
          rw [List.length_replicate] at hj
          rw [HRK.out.drew.cell (show k + j < n by omega)]
          rfl) (fun j hj => HRK.out.drew.frozen _) (by simp [Value.oneCell'])
        rwa [List.length_replicate] at h
      have HR2 : Hid ((wr.drew.setCells G k (List.replicate m (.int .i64 x))).rowIs G 3 n (fun r => if r < k + m then .int .i64 x else .int .i64 0)) := Lib.hid (copied HRK.out.drew m k rfl)
      have HB2 : Hid (Below w.heap.size w (wr.drew.setCells G k (List.replicate m (.int .i64 x)))) := Lib.hid (below_setCells (Nat.le_of_eq HG.out) _ _ HBK.out.drew)
      have i0 : (0 : Int) ≤ (k : Int) := by omega
      have i1 : (k : Int) ≤ (n : Int) := by omega
      have i2 : k ≠ n := by omega
      have i3 : k ≤ n := by omega
      have m1 : IntKind.i64.wrap ((k : Int) + (m : Int)) = (k : Int) + (m : Int) := by rw [IntKind.wrap_i64]; omega
      clear hm
      go_upto_region 9 with fail
      go_region
      all_goals
        go_wp2
        go_roundw
        case rel => exact ⟨k + m, by omega, by omega, by go_num, HR2, HB2⟩
        case measure => simp [intOf]; omega
    · obtain rfl : k = n := by omega
      have hd : decide ((k : Int) < (k : Int)) = false := by simp
      have HR3 : Hid (wr.rowIs G 3 k (fun _ => .int .i64 x)) := Lib.hid (HRK.out.congr (fun r hr => by rw [if_pos hr]))
      go_wp2
      go_ret
      exact ⟨G, rfl, Nat.le_of_eq HG.out, HR3.out, HBK.out⟩
end Go.Proofs.Ytiimdgdimjjboaa
