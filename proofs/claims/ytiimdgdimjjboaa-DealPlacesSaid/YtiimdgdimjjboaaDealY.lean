/-
  The walk of deal.Deal at whatever it is given; the head of chapter 9's laws.
-/
import Derived.Test.YtiimdgdimjjboaaDealX
import Derived.Test.YtiimdgdimjjboaaSame9
namespace Go.Sg
open Go Go.RowKit
theorem below_allocD {w w1 : World} {o : Obj} (h : Below (w.alloc o).heap.size (w.alloc o) w1) : Below w.heap.size w w1 := by
  have h1 : Below w.heap.size w (w.alloc o) := (Below.refl _ _).alloc (Nat.le_refl _) _
  exact h1.trans (h.mono h1.size)
theorem slD_lit (w : World) (l : List Di) (e : TypeId) (h : l.length ≤ maxLen) : SlK diV (w.alloc (.cells (flatV diV l).toArray e)) (.slice (some ⟨w.heap.size, 0, none⟩) l.length l.length) l :=
  ⟨_, _, rfl, Nat.le_refl _, h, fun _ => ⟨w.heap.size, 0, rfl, (Blk.new w _ e).lt, (Blk.new w _ e).range⟩⟩
theorem slI_litD (w : World) (zs : List Int) (e : TypeId) (h : zs.length ≤ maxLen) : Sl1 (w.alloc (.cells (zs.map (Value.int .i64)).toArray e)) (.slice (some ⟨w.heap.size, 0, none⟩) zs.length zs.length) (zs.map (Value.int .i64)) := by
  have := Sl1.of_owns (owns_lit (w := w) (base := 0) (e := e) (zs.map (Value.int .i64)).toArray (by omega) (by simpa using h))
  simpa using this
theorem shown9_ord : ordD [(1, 1), (2, 0), (3, 1), (0, -1)] = [0, 2, 1, 3] := (ordD_of (by decide) (by simp [leO_iff, getD'])).symm
theorem shown9_real : realO [(1, 1), (2, 0), (3, 1), (0, -1)] = [0, 2, 1] := by unfold realO; rw [shown9_ord]; rfl
theorem shown9_p : dealP (1, 1, 1) [(1, 1), (2, 0), (3, 1), (0, -1)] = [1, 2, 0, 3] := by
  have : endSt (1, 1, 1) [(1, 1), (2, 0), (3, 1), (0, -1)] = runSt (1, 1, 1) [(1, 1), (2, 0), (3, 1), (0, -1)] [0, 2, 1] := by unfold endSt; rw [shown9_real]
  unfold dealP
  rw [this]
  decide +kernel
theorem shown9_l : dealLost (1, 1, 1) [(1, 1), (2, 0), (3, 1), (0, -1)] = [] := by
  have : endSt (1, 1, 1) [(1, 1), (2, 0), (3, 1), (0, -1)] = runSt (1, 1, 1) [(1, 1), (2, 0), (3, 1), (0, -1)] [0, 2, 1] := by unfold endSt; rw [shown9_real]
  unfold dealLost
  rw [this]
  decide +kernel
end Go.Sg
namespace Go.Proofs.Ytiimdgdimjjboaa
open Go Go.RowKit Go.Sg
set_option maxHeartbeats 1000000 in
set_option maxRecDepth 100000 in
theorem deal_no (s : Sh) (l : List Di) (h : fitD s l = false) (v : Value) (w : World) (hv : SlK diV w v l) :
    Calls Try.prog 19 #[.agg #[.int .i64 s.1, .int .i64 s.2.1, .int .i64 s.2.2], v] w fun e w' => e = .returned (.tuple #[.slice none 0 0, .slice none 0 0]) ∧ Below w.heap.size w w' := by
  have KR := Lib.hid (fun w' => right_any s w')
  have KP := Lib.hid (fun w' => places_any s w')
  obtain ⟨a, cap, rfl, h1, h2, _⟩ := hv
  unfold maxLen at h2
  have HBW : Hid (Below w.heap.size w (w.alloc (.cells #[.int .i64 s.1, .int .i64 s.2.1, .int .i64 s.2.2] 23))) := Lib.hid ((Below.refl _ _).alloc (Nat.le_refl _) _)
  have HBK : Hid (Blk (w.alloc (.cells #[.int .i64 s.1, .int .i64 s.2.1, .int .i64 s.2.2] 23)) w.heap.size #[.int .i64 s.1, .int .i64 s.2.1, .int .i64 s.2.2] 23) := Lib.hid (Blk.new w _ _)
  have hc : rightD s = false ∨ (rightD s = true ∧ ((l.length : Int) != placesD s) = true) := by
    unfold fitD at h
    rcases hr : rightD s with _ | _
    · exact .inl rfl
    · right
      rw [hr] at h
      refine ⟨rfl, ?_⟩
      simpa using h
  clear h
  rcases hc with hr | ⟨hr, q1⟩
  · rw [hr] at KR
    go_enter Try.func19, Try.ntmps19
    go_wp2_with fail
    refine (KR.out _).mono ?_
    rintro e w2 ⟨rfl, hb2⟩
    have HB2 : Hid (Below w.heap.size w w2) := Lib.hid (HBW.out.trans (hb2.mono HBW.out.size))
    clear hb2
    go_wp2
    go_ret2
    exact ⟨rfl, HB2.out⟩
  · rw [hr] at KR
    go_enter Try.func19, Try.ntmps19
    go_wp2_with fail
    refine (KR.out _).mono ?_
    rintro e w2 ⟨rfl, hb2⟩
    have HB2 : Hid (Below w.heap.size w w2) := Lib.hid (HBW.out.trans (hb2.mono HBW.out.size))
    have HK2 := Lib.hid (HBK.out.below hb2 HBK.out.lt)
    have c0 : w2.cell? ⟨w.heap.size, 0, none⟩ = some (.int .i64 s.1) := HK2.out.cell 0
    have c1 : w2.cell? ⟨w.heap.size, 1, none⟩ = some (.int .i64 s.2.1) := HK2.out.cell 1
    have c2 : w2.cell? ⟨w.heap.size, 2, none⟩ = some (.int .i64 s.2.2) := HK2.out.cell 2
    clear hb2
    go_wp2_with fail
    refine (KP.out _).mono ?_
    rintro e w3 ⟨rfl, hb3⟩
    have HB3 : Hid (Below w.heap.size w w3) := Lib.hid (HB2.out.trans (hb3.mono HB2.out.size))
    clear hb3
    go_wp2
    go_ret2
    exact ⟨rfl, HB3.out⟩
theorem deal_any (s : Sh) (l : List Di) (v : Value) (w : World) (hv : SlK diV w v l) :
    Calls Try.prog 19 #[.agg #[.int .i64 s.1, .int .i64 s.2.1, .int .i64 s.2.2], v] w fun e w' => ∃ v1 v2, e = .returned (.tuple #[v1, v2]) ∧ Sl1 w' v1 ((dealP s l).map (Value.int .i64)) ∧ Sl1 w' v2 ((dealLost s l).map (Value.int .i64)) ∧ Below w.heap.size w w' := by
  rcases h : fitD s l with _ | _
  · refine (deal_no s l h v w hv).mono ?_
    rintro e w' ⟨rfl, hb⟩
    have h1 : dealP s l = [] := by unfold dealP; rw [h]; rfl
    have h2 : dealLost s l = [] := by unfold dealLost; rw [h]; rfl
    rw [h1, h2]
    exact ⟨_, _, rfl, .inl ⟨rfl, none, 0, rfl⟩, .inl ⟨rfl, none, 0, rfl⟩, hb⟩
  · have h' := h
    unfold fitD at h'
    rw [Bool.and_eq_true, decide_eq_true_eq] at h'
    exact deal_fit s h'.1 l h'.2 v w hv
set_option maxRecDepth 100000 in
theorem shown9 (w : World) : Calls Try.prog 15 #[] w fun e w' => e = .returned (.bool true) ∧ Below w.heap.size w w' := by
  go_enter Try.func15, Try.ntmps15
  go_wp2_with fail
  refine (deal_any (1, 1, 1) [(1, 1), (2, 0), (3, 1), (0, -1)] _ _ (slD_lit w [(1, 1), (2, 0), (3, 1), (0, -1)] 44 (by decide))).mono ?_
  rw [shown9_p, shown9_l]
  rintro e w1 ⟨va, vb, rfl, hva, hvb, hb1⟩
  have HB1 : Hid (Below w.heap.size w w1) := Lib.hid (below_allocD hb1)
  have HVA := Lib.hid hva
  obtain ⟨b0, bc, rfl⟩ := hvb.len
  clear hb1 hva hvb
  go_wp2_with fail
  refine (same9_any va _ [1, 2, 0, 3] [1, 2, 0, 3] _ (HVA.out.below ((Below.refl _ _).alloc (Nat.le_refl _) _)) (slI_litD w1 [1, 2, 0, 3] 3 (by decide))).mono ?_
  rintro e w3 ⟨rfl, hb3⟩
  have HB3 : Hid (Below w1.heap.size w1 w3) := Lib.hid (below_allocD hb3)
  clear hb3
  have d1 : decide (([1, 2, 0, 3] : List Int) = [1, 2, 0, 3]) = true := by decide
  rw [d1]
  go_wp2
  go_ret
  exact ⟨rfl, HB1.out.trans (HB3.out.mono HB1.out.size)⟩
end Go.Proofs.Ytiimdgdimjjboaa
