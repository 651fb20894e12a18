/-
  The walk of policy's comparison of two items; what the sort asks of it.
-/
import Derived.Test.YtmnnfhplgepiaaaPolK
import Derived.Test.YtmnnfhplgepiaaaStabO
import Derived.Test.YtmnnfhplgepiaaaPolM
import Derived.Test.YtmnnfhplgepiaaaReg
import Derived.Deep.RegionHeld3
namespace Go.Proofs.Ytmnnfhplgepiaaa
open Go Go.RowKit Go.Sg
theorem cmpZ_or (x y : It) : (if cmpZ (keyI x) (keyI y) = 0 then cmpZ x.1 y.1 else cmpZ (keyI x) (keyI y)) = cmpV x y := rfl
set_option maxHeartbeats 4000000 in
set_option maxRecDepth 100000 in
theorem against_any (x y : It) (hx : ItW x) (hy : ItW y) (w : World) : Calls Try.prog 23 #[.agg #[.int .i64 x.1, .int .u64 x.2.1, .bool x.2.2], .agg #[.int .i64 y.1, .int .u64 y.2.1, .bool y.2.2]] w fun e w' => e = .returned (.int .i64 (cmpV x y)) ∧ Below w.heap.size w w' := by
  obtain ⟨w0, hw0⟩ : ∃ w0, (w.alloc (.cells #[.int .i64 x.1, .int .u64 x.2.1, .bool x.2.2] 28)).alloc (.cells #[.int .i64 y.1, .int .u64 y.2.1, .bool y.2.2] 28) = w0 := ⟨_, rfl⟩
  have hba : Blk w0 w.heap.size #[.int .i64 x.1, .int .u64 x.2.1, .bool x.2.2] 28 := by rw [← hw0]; exact (Blk.new w _ _).alloc _
  have hbb : Blk w0 (w.heap.size + 1) #[.int .i64 y.1, .int .u64 y.2.1, .bool y.2.2] 28 := by
    rw [← hw0]
    have := Blk.new (w.alloc (.cells #[.int .i64 x.1, .int .u64 x.2.1, .bool x.2.2] 28)) #[.int .i64 y.1, .int .u64 y.2.1, .bool y.2.2] 28
    rw [World.size_alloc] at this
    exact this
  have HB0 : Hid (Below w.heap.size w w0) := Lib.hid (by rw [← hw0]; exact ((Below.refl _ _).alloc (Nat.le_refl _) _).alloc (by simp) _)
  have HC : Hid (∀ w', Below w0.heap.size w0 w' → (w'.cell? ⟨w.heap.size, 0, none⟩ = some (.int .i64 x.1) ∧ w'.cell? ⟨w.heap.size, 1, none⟩ = some (.int .u64 x.2.1) ∧ w'.cell? ⟨w.heap.size, 2, none⟩ = some (.bool x.2.2) ∧ w'.cell? ⟨w.heap.size + 1, 0, none⟩ = some (.int .i64 y.1) ∧ w'.cell? ⟨w.heap.size + 1, 1, none⟩ = some (.int .u64 y.2.1) ∧ w'.cell? ⟨w.heap.size + 1, 2, none⟩ = some (.bool y.2.2))) := Lib.hid fun w' hb => by
    have k1 := hba.below hb hba.lt
    have k2 := hbb.below hb hbb.lt
    exact ⟨k1.cell 0, k1.cell 1, k1.cell 2, k2.cell 0, k2.cell 1, k2.cell 2⟩
  clear hba hbb
  have KX := Lib.hid (fun w' (h : Below w0.heap.size w0 w') => cls_call (P := Try.prog) (key_any x hx) (Nat.le_refl _) h)
  have KY := Lib.hid (fun w' (h : Below w0.heap.size w0 w') => cls_call (P := Try.prog) (key_any y hy) (Nat.le_refl _) h)
  have KU := Lib.hid (fun w' (h : Below w0.heap.size w0 w') => cls_same (P := Try.prog) (compareU_any (keyI x) (keyI y)) h)
  have KI := Lib.hid (fun w' (h : Below w0.heap.size w0 w') => cls_same (P := Try.prog) (compareI_any x.1 y.1) h)
  have KO : Hid (∀ w', Below w0.heap.size w0 w' → Calls Try.prog 26 #[.slice (some ⟨w'.heap.size, 0, none⟩) 2 2] (w'.alloc (.cells #[.int .i64 (cmpZ (keyI x) (keyI y)), .int .i64 (cmpZ x.1 y.1)] 3)) fun e w'' => e = .returned (.int .i64 (cmpV x y)) ∧ Below w0.heap.size w0 w'') := Lib.hid fun w' h => by
    have hb := Blk.new w' #[.int .i64 (cmpZ (keyI x) (keyI y)), .int .i64 (cmpZ x.1 y.1)] 3
    refine (or_any (cmpZ (keyI x) (keyI y)) (cmpZ x.1 y.1) w'.heap.size _ ⟨hb.cell 0, hb.cell 1⟩).mono ?_
    rintro e w'' ⟨rfl, rfl⟩
    exact ⟨by rw [cmpZ_or], h.alloc h.size _⟩
  have U := Try.underlying28
  clear hx hy
  go_enter Try.func23, Try.ntmps23
  go_wp2_with fail
  try rw [hw0]
  clear hw0
  have hX0 := (Below.refl w0.heap.size w0).drew
  have hs0 := HC.out _ hX0
  obtain ⟨c1, c2, c3, c4, c5, c6⟩ := hs0
  generalize cmpZ (keyI x) (keyI y) = cu at *
  generalize cmpZ x.1 y.1 = ci at *
  generalize keyI x = kx at *
  generalize keyI y = ky at *
  go_region_held3 (fun w' => (w'.cell? ⟨w.heap.size, 0, none⟩ = some (.int .i64 x.1) ∧ w'.cell? ⟨w.heap.size, 1, none⟩ = some (.int .u64 x.2.1) ∧ w'.cell? ⟨w.heap.size, 2, none⟩ = some (.bool x.2.2) ∧ w'.cell? ⟨w.heap.size + 1, 0, none⟩ = some (.int .i64 y.1) ∧ w'.cell? ⟨w.heap.size + 1, 1, none⟩ = some (.int .u64 y.2.1) ∧ w'.cell? ⟨w.heap.size + 1, 2, none⟩ = some (.bool y.2.2))) (first | assumption | exact HC.out _ (by assumption) | exact HC.out _ (Below.alloc (by assumption) (Below.size (by assumption)) _)) (first
    | (go_at_call 14; first
        | ((with_reducible refine (KX.out _ (by assumption)).mono ?_); rintro e w' ⟨rfl, hbk⟩)
        | ((with_reducible refine (KY.out _ (by assumption)).mono ?_); rintro e w' ⟨rfl, hbk⟩))
    | (go_at_call 27; (with_reducible refine (KU.out _ (by assumption)).mono ?_); rintro e w' ⟨rfl, hbk⟩)
    | (go_at_call 28; (with_reducible refine (KI.out _ (by assumption)).mono ?_); rintro e w' ⟨rfl, hbk⟩)
    | (go_at_call 26; (with_reducible refine (KO.out _ (by assumption)).mono ?_); rintro e w' ⟨rfl, hbk⟩))
  all_goals
    go_wp2
    go_ret
    exact ⟨rfl, HB0.out.trans (Below.mono (by assumption) HB0.out.size)⟩
theorem cmp_ok {w0 : World} {G : Nat} : CmpOk Try.prog 23 #[] ItW ltI w0 G := fun x y w hx hy _ =>
  (against_any x y hx hy w).mono fun e w' ⟨he, hb⟩ => ⟨_, he, cmpV_lt x y, hb⟩
end Go.Proofs.Ytmnnfhplgepiaaa
