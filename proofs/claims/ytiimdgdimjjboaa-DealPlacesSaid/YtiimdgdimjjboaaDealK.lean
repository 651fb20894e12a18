/-
  The walks of how deal compares two items, and two places of a slice of items.
-/
import Derived.Test.YtiimdgdimjjboaaCmpZ
import Derived.Test.YtiimdgdimjjboaaDealL
import Derived.Test.YtiimdgdimjjboaaSlK
namespace Go.Sg
open Go Go.RowKit
def diV (x : Di) : List Value := [.int .u64 x.1, .int .i64 x.2]
theorem diV_k : EncK diV 2 := ⟨fun _ => rfl, fun x u hu => by simp [diV] at hu; rcases hu with rfl | rfl <;> rfl, by decide⟩
/-- what the comparison tells -/
def cmpD (x y : Di) : Int := if x.2 < 0 ∧ y.2 < 0 then 0 else if x.2 ≠ y.2 then cmpZ y.2 x.2 else cmpZ x.1 y.1
theorem cmpD_lt (x y : Di) : decide (cmpD x y < 0) = ltD x y := by
  unfold cmpD ltD
  split
  · rfl
  · split
    · exact cmpZ_neg _ _
    · exact cmpZ_neg _ _
theorem qs_skipD {P : Program} {ops : Array Oper} {C : World → Prop} {o : Oper} {a : Act} {K : Act → Prop} (hw : Region.wanted o (yielded ops a.tmps) = false) (hK : K (a.put o.dst undef)) :
    if Region.wanted o (yielded ops a.tmps) = true then o.quiet P a C K else K (a.put o.dst undef) := by
  rw [if_neg (by rw [hw]; exact Bool.false_ne_true)]
  exact hK
theorem qs_load_midD {P : Program} {ops : Array Oper} {C : World → Prop} {o : Oper} {a : Act} {K : Act → Prop} (hw : Region.wanted o (yielded ops a.tmps) = true) (ty : TypeId) (x : Operand) (ho : o.op = .load ty x)
    (b off : Nat) (hx : a.eval x = .pointer (some ⟨b, off, none⟩)) (cs : List Value) (d : TypeDesc) (hg : ∀ w, C w → w.rangeAt b off cs)
    (hu : P.underlying ty = some d) (hd : d.isRow = true) (hi : (P.info? ty).map (·.size) = some cs.length)
    (hK : K (a.put o.dst (.agg cs.toArray))) : if Region.wanted o (yielded ops a.tmps) = true then o.quiet P a C K else K (a.put o.dst undef) := by
  rw [if_pos hw]
  refine ⟨.agg cs.toArray, fun w hC => ?_, hK⟩
  unfold Oper.quietAt execOp
  simp only [ho, hx, Instr.loadAt, Instr.sureAddr, Sem.run_bind, Sem.run_pure, Result.andThen_ok, run_loadVar_mid w b off ty cs d (hg w hC) hu hd hi]
  exact ⟨rfl, rfl⟩
end Go.Sg
namespace Go.Proofs.Ytiimdgdimjjboaa
open Go Go.RowKit Go.Sg
set_option maxRecDepth 100000 in
theorem againstD_any (x y : Di) (w : World) :
    Calls Try.prog 51 #[.agg #[.int .u64 x.1, .int .i64 x.2], .agg #[.int .u64 y.1, .int .i64 y.2]] w fun e w' => e = .returned (.int .i64 (cmpD x y)) ∧ Below w.heap.size w w' := by
  obtain ⟨xi, xd⟩ := x
  obtain ⟨yi, yd⟩ := y
  have KI := Lib.hid (fun w' => compareI_any yd xd w')
  have KU := Lib.hid (fun w' => compareU_any xi yi w')
  have hcd : cmpD (xi, xd) (yi, yd) = if xd < 0 ∧ yd < 0 then 0 else if xd ≠ yd then cmpZ yd xd else cmpZ xi yi := rfl
  rw [hcd]
  obtain ⟨w2, hw2⟩ : ∃ w2, (w.alloc (.cells #[.int .u64 xi, .int .i64 xd] 44)).alloc (.cells #[.int .u64 yi, .int .i64 yd] 44) = w2 := ⟨_, rfl⟩
  obtain ⟨A, hA⟩ : ∃ A, w.heap.size = A := ⟨_, rfl⟩
  have HB : Hid (Below w.heap.size w w2) := Lib.hid (by rw [← hw2]; exact ((Below.refl _ _).alloc (Nat.le_refl _) _).alloc (by simp) _)
  have ha : Blk w2 A #[.int .u64 xi, .int .i64 xd] 44 := by rw [← hw2, ← hA]; exact (Blk.new w _ _).alloc _
  have hb : Blk w2 (A + 1) #[.int .u64 yi, .int .i64 yd] 44 := by rw [← hw2, ← hA]; have := Blk.new (w.alloc (.cells #[.int .u64 xi, .int .i64 xd] 44)) #[.int .u64 yi, .int .i64 yd] 44; simpa using this
  have c0 : w2.cell? ⟨A, 0, none⟩ = some (.int .u64 xi) := ha.cell 0
  have c1 : w2.cell? ⟨A, 1, none⟩ = some (.int .i64 xd) := ha.cell 1
  have c2 : w2.cell? ⟨A + 1, 0, none⟩ = some (.int .u64 yi) := hb.cell 0
  have c3 : w2.cell? ⟨A + 1, 1, none⟩ = some (.int .i64 yd) := hb.cell 1
  clear ha hb hcd
  obtain ⟨r, hr⟩ : ∃ r, (if xd < 0 ∧ yd < 0 then 0 else if xd ≠ yd then cmpZ yd xd else cmpZ xi yi) = r := ⟨_, rfl⟩
  rw [hr]
  go_enter Try.func51, Try.ntmps51
  go_upto_region 1 with fail
  try rw [hw2, hA]
  clear hw2 hA
  by_cases h1 : xd < 0
  · have d1 : decide (xd < 0) = true := decide_eq_true h1
    by_cases h2 : yd < 0
    · have d2 : decide (yd < 0) = true := decide_eq_true h2
      have HR : Hid (0 = r) := Lib.hid (by rw [← hr, if_pos ⟨h1, h2⟩])
      clear hr
      go_wp2
      go_ret
      exact ⟨by rw [← HR.out]; rfl, HB.out⟩
    · have d2 : decide (yd < 0) = false := decide_eq_false h2
      have q : (xd != yd) = true := by rw [bne_iff_ne]; omega
      have HR : Hid (cmpZ yd xd = r) := Lib.hid (by rw [← hr, if_neg (fun h => h2 h.2), if_pos (by omega)])
      clear hr
      go_wp2_with (first
        | (go_at_call 70; refine (KI.out _).mono ?_; rintro e w' ⟨rfl, rfl⟩)
        | fail)
      go_ret
      exact ⟨by rw [← HR.out]; rfl, HB.out⟩
  · have d1 : decide (xd < 0) = false := decide_eq_false h1
    by_cases h3 : xd = yd
    · have q : (xd != yd) = false := by simp [h3]
      have HR : Hid (cmpZ xi yi = r) := Lib.hid (by rw [← hr, if_neg (fun h => h1 h.1), if_neg (by simpa using h3)])
      clear hr
      go_wp2_with (first
        | (go_at_call 71; refine (KU.out _).mono ?_; rintro e w' ⟨rfl, rfl⟩)
        | fail)
      go_ret
      exact ⟨by rw [← HR.out]; rfl, HB.out⟩
    · have q : (xd != yd) = true := by simpa using h3
      have HR : Hid (cmpZ yd xd = r) := Lib.hid (by rw [← hr, if_neg (fun h => h1 h.1), if_pos h3])
      clear hr
      go_wp2_with (first
        | (go_at_call 70; refine (KI.out _).mono ?_; rintro e w' ⟨rfl, rfl⟩)
        | fail)
      go_ret
      exact ⟨by rw [← HR.out]; rfl, HB.out⟩
end Go.Proofs.Ytiimdgdimjjboaa
