/-
  Joined texts: CmpZ, DealK, DealS, DealT, DealN, DealO.
-/
import Derived.Test.YthchfdobdghdoaaGreatHaw
import Derived.Test.YthchfdobdghdoaaGreatHac
import Derived.Test.YthchfdobdghdoaaGreatHaa
import Derived.Test.YthchfdobdghdoaaGreatHan
import Derived.Test.YthchfdobdghdoaaGreatHad
set_option linter.unusedVariables false
set_option linter.unusedSimpArgs false
set_option linter.unusedSectionVars false
set_option linter.unnecessarySimpa false
section

/-
  The walks of cmp.Compare at int and uint64.
-/
namespace Go.Sg
open Go Go.RowKit
def cmpZ (a b : Int) : Int := if a < b then -1 else if b < a then 1 else 0
theorem cmpZ_neg (a b : Int) : decide (cmpZ a b < 0) = decide (a < b) := by
  unfold cmpZ
  by_cases h1 : a < b
  · simp [h1]
  · by_cases h2 : b < a <;> simp [h1, h2]
end Go.Sg
namespace Go.Proofs.YthchfdobdghdoaaGreat
open Go Go.RowKit Go.Sg
theorem nanU_any (a : Int) (w : World) : Calls Tryz.prog 104 #[.int .u64 a] w fun e w' => e = .returned (.bool false) ∧ w' = w := by
  go_enter Tryz.func104, Tryz.ntmps104
  go_wp2
  go_ret
  exact ⟨by simp, rfl⟩
theorem nanI_any (a : Int) (w : World) : Calls Tryz.prog 127 #[.int .i64 a] w fun e w' => e = .returned (.bool false) ∧ w' = w := by
  go_enter Tryz.func127, Tryz.ntmps127
  go_wp2
  go_ret
  exact ⟨by simp, rfl⟩
theorem compareU_any (a b : Int) (w : World) : Calls Tryz.prog 93 #[.int .u64 a, .int .u64 b] w fun e w' => e = .returned (.int .i64 (cmpZ a b)) ∧ w' = w := by
  have K := Lib.hid (fun a w => nanU_any a w)
  unfold cmpZ
  by_cases h1 : a < b
  · have d1 : decide (a < b) = true := decide_eq_true h1
    rw [if_pos h1]
    clear h1
    go_enter Tryz.func93, Tryz.ntmps93
    go_wp2_with (go_at_call 104; refine (K.out _ _).mono ?_; rintro e w' ⟨rfl, rfl⟩)
    go_ret
    exact ⟨rfl, rfl⟩
  · have d1 : decide (a < b) = false := decide_eq_false h1
    rw [if_neg h1]
    by_cases h2 : b < a
    · have d2 : decide (b < a) = true := decide_eq_true h2
      rw [if_pos h2]
      clear h1 h2
      go_enter Tryz.func93, Tryz.ntmps93
      go_wp2_with (go_at_call 104; refine (K.out _ _).mono ?_; rintro e w' ⟨rfl, rfl⟩)
      go_ret
      exact ⟨rfl, rfl⟩
    · have d2 : decide (b < a) = false := decide_eq_false h2
      rw [if_neg h2]
      clear h1 h2
      go_enter Tryz.func93, Tryz.ntmps93
      go_wp2_with (go_at_call 104; refine (K.out _ _).mono ?_; rintro e w' ⟨rfl, rfl⟩)
      go_ret
      exact ⟨rfl, rfl⟩
theorem compareI_any (a b : Int) (w : World) : Calls Tryz.prog 124 #[.int .i64 a, .int .i64 b] w fun e w' => e = .returned (.int .i64 (cmpZ a b)) ∧ w' = w := by
  have K := Lib.hid (fun a w => nanI_any a w)
  unfold cmpZ
  by_cases h1 : a < b
  · have d1 : decide (a < b) = true := decide_eq_true h1
    rw [if_pos h1]
    clear h1
    go_enter Tryz.func124, Tryz.ntmps124
    go_wp2_with (go_at_call 127; refine (K.out _ _).mono ?_; rintro e w' ⟨rfl, rfl⟩)
    go_ret
    exact ⟨rfl, rfl⟩
  · have d1 : decide (a < b) = false := decide_eq_false h1
    rw [if_neg h1]
    by_cases h2 : b < a
    · have d2 : decide (b < a) = true := decide_eq_true h2
      rw [if_pos h2]
      clear h1 h2
      go_enter Tryz.func124, Tryz.ntmps124
      go_wp2_with (go_at_call 127; refine (K.out _ _).mono ?_; rintro e w' ⟨rfl, rfl⟩)
      go_ret
      exact ⟨rfl, rfl⟩
    · have d2 : decide (b < a) = false := decide_eq_false h2
      rw [if_neg h2]
      clear h1 h2
      go_enter Tryz.func124, Tryz.ntmps124
      go_wp2_with (go_at_call 127; refine (K.out _ _).mono ?_; rintro e w' ⟨rfl, rfl⟩)
      go_ret
      exact ⟨rfl, rfl⟩
end Go.Proofs.YthchfdobdghdoaaGreat
end
section

/-
  The walks of how deal compares two items, and two places of a slice of items.
-/
namespace Go.Sg
open Go Go.RowKit
def diV (x : Di) : List Value := [.int .u64 x.1, .int .i64 x.2]
theorem diV_k : EncK diV 2 := ⟨fun _ => rfl, fun x u hu => by simp [diV] at hu; rcases hu with rfl | rfl <;> rfl, by decide⟩
/-- what the comparison tells -/
def cmpD (x y : Di) : Int := if x.2 < 0 ∧ y.2 < 0 then 0 else if x.2 ≠ y.2 then cmpZ y.2 x.2 else cmpZ x.1 y.1
theorem cmpD_lt (x y : Di) : decide (cmpD x y < 0) = ltD x y := by
  unfold cmpD ltD
  split
  · rfl
  · split
    · exact cmpZ_neg _ _
    · exact cmpZ_neg _ _
theorem qs_skipD {P : Program} {ops : Array Oper} {C : World → Prop} {o : Oper} {a : Act} {K : Act → Prop} (hw : Region.wanted o (yielded ops a.tmps) = false) (hK : K (a.put o.dst undef)) :
    if Region.wanted o (yielded ops a.tmps) = true then o.quiet P a C K else K (a.put o.dst undef) := by
  rw [if_neg (by rw [hw]; exact Bool.false_ne_true)]
  exact hK
theorem qs_load_midD {P : Program} {ops : Array Oper} {C : World → Prop} {o : Oper} {a : Act} {K : Act → Prop} (hw : Region.wanted o (yielded ops a.tmps) = true) (ty : TypeId) (x : Operand) (ho : o.op = .load ty x)
    (b off : Nat) (hx : a.eval x = .pointer (some ⟨b, off, none⟩)) (cs : List Value) (d : TypeDesc) (hg : ∀ w, C w → w.rangeAt b off cs)
    (hu : P.underlying ty = some d) (hd : d.isRow = true) (hi : (P.info? ty).map (·.size) = some cs.length)
    (hK : K (a.put o.dst (.agg cs.toArray))) : if Region.wanted o (yielded ops a.tmps) = true then o.quiet P a C K else K (a.put o.dst undef) := by
  rw [if_pos hw]
  refine ⟨.agg cs.toArray, fun w hC => ?_, hK⟩
  unfold Oper.quietAt execOp
  simp only [ho, hx, Instr.loadAt, Instr.sureAddr, Sem.run_bind, Sem.run_pure, Result.andThen_ok, run_loadVar_mid w b off ty cs d (hg w hC) hu hd hi]
  exact ⟨rfl, rfl⟩
end Go.Sg
namespace Go.Proofs.YthchfdobdghdoaaGreat
open Go Go.RowKit Go.Sg
set_option maxRecDepth 100000 in
theorem againstD_any (x y : Di) (w : World) :
    Calls Tryz.prog 118 #[.agg #[.int .u64 x.1, .int .i64 x.2], .agg #[.int .u64 y.1, .int .i64 y.2]] w fun e w' => e = .returned (.int .i64 (cmpD x y)) ∧ Below w.heap.size w w' := by
  obtain ⟨xi, xd⟩ := x
  obtain ⟨yi, yd⟩ := y
  have KI := Lib.hid (fun w' => compareI_any yd xd w')
  have KU := Lib.hid (fun w' => compareU_any xi yi w')
  have hcd : cmpD (xi, xd) (yi, yd) = if xd < 0 ∧ yd < 0 then 0 else if xd ≠ yd then cmpZ yd xd else cmpZ xi yi := rfl
  rw [hcd]
  obtain ⟨w2, hw2⟩ : ∃ w2, (w.alloc (.cells #[.int .u64 xi, .int .i64 xd] 144)).alloc (.cells #[.int .u64 yi, .int .i64 yd] 144) = w2 := ⟨_, rfl⟩
  obtain ⟨A, hA⟩ : ∃ A, w.heap.size = A := ⟨_, rfl⟩
  have HB : Hid (Below w.heap.size w w2) := Lib.hid (by rw [← hw2]; exact ((Below.refl _ _).alloc (Nat.le_refl _) _).alloc (by simp) _)
  have ha : Blk w2 A #[.int .u64 xi, .int .i64 xd] 144 := by rw [← hw2, ← hA]; exact (Blk.new w _ _).alloc _
  have hb : Blk w2 (A + 1) #[.int .u64 yi, .int .i64 yd] 144 := by rw [← hw2, ← hA]; have := Blk.new (w.alloc (.cells #[.int .u64 xi, .int .i64 xd] 144)) #[.int .u64 yi, .int .i64 yd] 144; simpa using this
  have c0 : w2.cell? ⟨A, 0, none⟩ = some (.int .u64 xi) := ha.cell 0
  have c1 : w2.cell? ⟨A, 1, none⟩ = some (.int .i64 xd) := ha.cell 1
  have c2 : w2.cell? ⟨A + 1, 0, none⟩ = some (.int .u64 yi) := hb.cell 0
  have c3 : w2.cell? ⟨A + 1, 1, none⟩ = some (.int .i64 yd) := hb.cell 1
  clear ha hb hcd
  obtain ⟨r, hr⟩ : ∃ r, (if xd < 0 ∧ yd < 0 then 0 else if xd ≠ yd then cmpZ yd xd else cmpZ xi yi) = r := ⟨_, rfl⟩
  rw [hr]
  go_enter Tryz.func118, Tryz.ntmps118
  go_upto_region 1 with fail
  try rw [hw2, hA]
  clear hw2 hA
  by_cases h1 : xd < 0
  · have d1 : decide (xd < 0) = true := decide_eq_true h1
    by_cases h2 : yd < 0
    · have d2 : decide (yd < 0) = true := decide_eq_true h2
      have HR : Hid (0 = r) := Lib.hid (by rw [← hr, if_pos ⟨h1, h2⟩])
      clear hr
      go_wp2
      go_ret
      exact ⟨by rw [← HR.out]; rfl, HB.out⟩
    · have d2 : decide (yd < 0) = false := decide_eq_false h2
      have q : (xd != yd) = true := by rw [bne_iff_ne]; omega
      have HR : Hid (cmpZ yd xd = r) := Lib.hid (by rw [← hr, if_neg (fun h => h2 h.2), if_pos (by omega)])
      clear hr
      go_wp2_with (first
        | (go_at_call 124; refine (KI.out _).mono ?_; rintro e w' ⟨rfl, rfl⟩)
        | fail)
      go_ret
      exact ⟨by rw [← HR.out]; rfl, HB.out⟩
  · have d1 : decide (xd < 0) = false := decide_eq_false h1
    by_cases h3 : xd = yd
    · have q : (xd != yd) = false := by simp [h3]
      have HR : Hid (cmpZ xi yi = r) := Lib.hid (by rw [← hr, if_neg (fun h => h1 h.1), if_neg (by simpa using h3)])
      clear hr
      go_wp2_with (first
        | (go_at_call 93; refine (KU.out _).mono ?_; rintro e w' ⟨rfl, rfl⟩)
        | fail)
      go_ret
      exact ⟨by rw [← HR.out]; rfl, HB.out⟩
    · have q : (xd != yd) = true := by simpa using h3
      have HR : Hid (cmpZ yd xd = r) := Lib.hid (by rw [← hr, if_neg (fun h => h1 h.1), if_pos h3])
      clear hr
      go_wp2_with (first
        | (go_at_call 124; refine (KI.out _).mono ?_; rintro e w' ⟨rfl, rfl⟩)
        | fail)
      go_ret
      exact ⟨by rw [← HR.out]; rfl, HB.out⟩
end Go.Proofs.YthchfdobdghdoaaGreat
end
section

/-
  The walks of deal's shapes, and of the document's.
-/
namespace Go.Sg
open Go Go.RowKit
/-- A shape: its depth, its slots, its stash. -/
abbrev Sh := Int × Int × Int
def shV (s : Sh) : List Value := [.int .i64 s.1, .int .i64 s.2.1, .int .i64 s.2.2]
def inD (n a b : Int) : Bool := decide (a ≤ n) && decide (n ≤ b)
def rightD (s : Sh) : Bool := inD s.1 0 10 && (inD s.2.1 1 8 && inD s.2.2 1 64)
theorem rightD_iff {s : Sh} : rightD s = true ↔ 0 ≤ s.1 ∧ s.1 ≤ 10 ∧ 1 ≤ s.2.1 ∧ s.2.1 ≤ 8 ∧ 1 ≤ s.2.2 ∧ s.2.2 ≤ 64 := by
  unfold rightD inD
  simp only [Bool.and_eq_true, decide_eq_true_eq]
  omega
def levelsD (s : Sh) : Int := s.2.1 * (s.1 + 1)
def placesD (s : Sh) : Int := if rightD s then levelsD s + s.2.2 + 1 else 0
theorem levelsD_bd {s : Sh} (h : rightD s = true) : 1 ≤ levelsD s ∧ levelsD s ≤ 88 := by
  rw [rightD_iff] at h
  unfold levelsD
  have h1 : s.2.1 * (s.1 + 1) ≤ 8 * 11 := Int.mul_le_mul (by omega) (by omega) (by omega) (by omega)
  have h2 : 1 * 1 ≤ s.2.1 * (s.1 + 1) := Int.mul_le_mul (by omega) (by omega) (by omega) (by omega)
  omega
theorem placesD_bd (s : Sh) : 0 ≤ placesD s ∧ placesD s ≤ 153 := by
  unfold placesD
  by_cases h : rightD s = true
  · have h1 := levelsD_bd h
    rw [if_pos h]
    rw [rightD_iff] at h
    omega
  · rw [if_neg h]
    omega
end Go.Sg
namespace Go.Proofs.YthchfdobdghdoaaGreat
open Go Go.RowKit Go.Sg
theorem in1_any (n a b : Int) (w : World) : Calls Tryz.prog 65 #[.int .i64 n, .int .i64 a, .int .i64 b] w fun e w' => e = .returned (.bool (inD n a b)) ∧ w' = w := by
  by_cases h1 : a ≤ n
  · have d1 : decide (a ≤ n) = true := decide_eq_true h1
    have HR : Hid (decide (n ≤ b) = inD n a b) := Lib.hid (by unfold inD; rw [d1]; rfl)
    go_enter Tryz.func65, Tryz.ntmps65
    go_wp2
    go_ret
    exact ⟨by rw [← HR.out]; rfl, rfl⟩
  · have d1 : decide (a ≤ n) = false := decide_eq_false h1
    have HR : Hid (false = inD n a b) := Lib.hid (by unfold inD; rw [d1]; rfl)
    go_enter Tryz.func65, Tryz.ntmps65
    go_wp2
    go_ret
    exact ⟨by rw [← HR.out]; rfl, rfl⟩
set_option maxHeartbeats 4000000 in
set_option maxRecDepth 100000 in
theorem right_any (s : Sh) (w : World) : Calls Tryz.prog 39 #[.agg #[.int .i64 s.1, .int .i64 s.2.1, .int .i64 s.2.2]] w fun e w' => e = .returned (.bool (rightD s)) ∧ Below w.heap.size w w' := by
  have hr : rightD s = (inD s.1 0 10 && (inD s.2.1 1 8 && inD s.2.2 1 64)) := rfl
  rw [hr]
  have K1 := Lib.hid (fun w' => in1_any s.1 0 10 w')
  have K2 := Lib.hid (fun w' => in1_any s.2.1 1 8 w')
  have K3 := Lib.hid (fun w' => in1_any s.2.2 1 64 w')
  obtain ⟨d, sl, st⟩ := s
  simp only at *
  generalize inD d 0 10 = b1 at *
  generalize inD sl 1 8 = b2 at *
  generalize inD st 1 64 = b3 at *
  have HB : Hid (Below w.heap.size w (w.alloc (.cells #[.int .i64 d, .int .i64 sl, .int .i64 st] 83))) := Lib.hid ((Below.refl _ _).alloc (Nat.le_refl _) _)
  clear hr
  go_enter Tryz.func39, Tryz.ntmps39
  cases b1 <;> cases b2 <;> cases b3
  all_goals
    go_wp2_with (first
      | (go_at_call 65; first
          | ((with_reducible refine (K1.out _).mono ?_); rintro e w' ⟨rfl, rfl⟩)
          | ((with_reducible refine (K2.out _).mono ?_); rintro e w' ⟨rfl, rfl⟩)
          | ((with_reducible refine (K3.out _).mono ?_); rintro e w' ⟨rfl, rfl⟩))
      | fail)
    go_ret
    exact ⟨rfl, HB.out⟩
theorem levels_any (s : Sh) (h : rightD s = true) (w : World) : Calls Tryz.prog 79 #[.agg #[.int .i64 s.1, .int .i64 s.2.1, .int .i64 s.2.2]] w fun e w' => e = .returned (.int .i64 (levelsD s)) ∧ Below w.heap.size w w' := by
  have hb := levelsD_bd h
  rw [rightD_iff] at h
  obtain ⟨d, sl, st⟩ := s
  have hl : levelsD (d, sl, st) = sl * (d + 1) := rfl
  rw [hl] at hb ⊢
  simp only at *
  have m1 : IntKind.i64.wrap (d + 1) = d + 1 := by rw [IntKind.wrap_i64]; omega
  have m2 : IntKind.i64.wrap (sl * (d + 1)) = sl * (d + 1) := by rw [IntKind.wrap_i64]; omega
  have HB : Hid (Below w.heap.size w (w.alloc (.cells #[.int .i64 d, .int .i64 sl, .int .i64 st] 83))) := Lib.hid ((Below.refl _ _).alloc (Nat.le_refl _) _)
  go_enter Tryz.func79, Tryz.ntmps79
  go_wp2
  go_ret
  exact ⟨rfl, HB.out⟩
end Go.Proofs.YthchfdobdghdoaaGreat
end
section

/-
  The walks of how many places a shape has, and of the document's shapes.
-/
namespace Go.Proofs.YthchfdobdghdoaaGreat
open Go Go.RowKit Go.Sg
set_option maxHeartbeats 1000000 in
set_option maxRecDepth 100000 in
theorem places_any (s : Sh) (w : World) : Calls Tryz.prog 63 #[.agg #[.int .i64 s.1, .int .i64 s.2.1, .int .i64 s.2.2]] w fun e w' => e = .returned (.int .i64 (placesD s)) ∧ Below w.heap.size w w' := by
  have KR := Lib.hid (fun w' => right_any s w')
  by_cases hr : rightD s = true
  · have kl := fun w' => levels_any s hr w'
    have hb := levelsD_bd hr
    have hpl : placesD s = levelsD s + s.2.2 + 1 := by unfold placesD; rw [if_pos hr]
    have hst := (rightD_iff.1 hr).2.2.2.2
    rw [hr] at KR
    rw [hpl]
    generalize levelsD s = L at *
    obtain ⟨d, sl, st⟩ := s
    simp only at *
    have m1 : IntKind.i64.wrap (L + st) = L + st := by rw [IntKind.wrap_i64]; omega
    have m2 : IntKind.i64.wrap (L + st + 1) = L + st + 1 := by rw [IntKind.wrap_i64]; omega
    obtain ⟨A, hA⟩ : ∃ A, w.heap.size = A := ⟨_, rfl⟩
    have hbk : Blk (w.alloc (.cells #[.int .i64 d, .int .i64 sl, .int .i64 st] 83)) w.heap.size #[.int .i64 d, .int .i64 sl, .int .i64 st] 83 := Blk.new w _ _
    have hbw : Below w.heap.size w (w.alloc (.cells #[.int .i64 d, .int .i64 sl, .int .i64 st] 83)) := (Below.refl _ _).alloc (Nat.le_refl _) _
    have HBK := Lib.hid hbk
    have HBW := Lib.hid hbw
    clear hbk hbw hpl hr
    go_enter Tryz.func63, Tryz.ntmps63
    go_wp2_with fail
    refine (KR.out _).mono ?_
    rintro e w2 ⟨rfl, hb2⟩
    have HB2 : Hid (Below w.heap.size w w2) := Lib.hid (HBW.out.trans (hb2.mono HBW.out.size))
    have hb3 := HBK.out.below hb2 HBK.out.lt
    rw [hA] at hb3
    obtain ⟨sv, hsv⟩ : ∃ sv : Array Value, #[.int .i64 d, .int .i64 sl, .int .i64 st] = sv := ⟨_, rfl⟩
    have HIX : Hid ((Tryz.prog.info? 83).map (·.size) = some sv.size) := Lib.hid (by rw [← hsv]; kernel_rfl)
    have hs2 : sv[2]? = some (.int .i64 st) := by rw [← hsv]; rfl
    rw [hsv] at hb3 kl
    obtain ⟨C, hCi, hCo, hCB, hCS, hCA⟩ : ∃ C : World → Prop, C w2.drew ∧ (∀ w', C w' → Below w2.heap.size w2 w') ∧ (∀ w', C w' → Blk w' A sv 83) ∧ (∀ w', C w' → w'.cell? ⟨A, 2, none⟩ = some (.int .i64 st)) ∧ (∀ w', C w' → Calls Tryz.prog 79 #[.agg sv] w' fun e w'' => e = .returned (.int .i64 L) ∧ C w'') :=
      ⟨fun w' => Below w2.heap.size w2 w', (Below.refl _ _).drew, fun _ h => h, fun w' h => hb3.below h hb3.lt, fun w' h => ((hb3.below h hb3.lt).cell 2).trans hs2, fun w' h => cls_call (P := Tryz.prog) kl (Nat.le_refl _) h⟩
    have HCO := Lib.hid hCo
    have HCB := Lib.hid hCB
    have HCS := Lib.hid hCS
    have HCA := Lib.hid hCA
    clear hCo hCB hCS hCA kl hb3 hb2 HBK HBW hA hs2 KR
    go_upto_region 3 with fail
    refine wp_region_cls C (by kernel_rfl) (by kernel_rfl) hCi ?_
    with_reducible refine wpQuiet_step ?_
    intro K hK
    refine qs_load_row (by rfl) 83 _ rfl A rfl 83 sv _ (fun w hw => HCB.out w hw) Tryz.underlying83 rfl HIX.out (hK _ ?_)
    clear hK K
    try simp only [Act.put, List.setIfInBounds_toArray, List.set_cons_zero, List.set_cons_succ]
    with_reducible refine wpQuiet_step ?_
    intro K hK
    go_simp
    with_reducible apply Exists.intro
    with_reducible refine ⟨fun _ hC => ?_, hK _ ?_⟩
    with_reducible exact HCA.out _ hC
    clear hK K
    try simp only [Act.put, List.setIfInBounds_toArray, List.set_cons_zero, List.set_cons_succ]
    with_reducible refine wpQuiet_step ?_
    intro K hK
    go_simp
    first
      | (with_reducible refine hK _ ?_)
      | (with_reducible refine ⟨_, fun _ _ => rfl, hK _ ?_⟩)
    clear hK K
    try simp only [Act.put, List.setIfInBounds_toArray, List.set_cons_zero, List.set_cons_succ]
    with_reducible refine wpQuiet_step ?_
    intro K hK
    refine qs_load_cell (by rfl) 3 _ rfl ⟨A, 2, none⟩ rfl (.int .i64 st) (fun w hw => HCS.out w hw) Tryz.isAgg3 (hK _ ?_)
    clear hK K
    try simp only [Act.put, List.setIfInBounds_toArray, List.set_cons_zero, List.set_cons_succ]
    with_reducible refine wpQuiet_step ?_
    intro K hK
    go_simp
    first
      | (with_reducible refine hK _ ?_)
      | (with_reducible refine ⟨_, fun _ _ => rfl, hK _ ?_⟩)
    clear hK K
    try simp only [Act.put, List.setIfInBounds_toArray, List.set_cons_zero, List.set_cons_succ]
    with_reducible refine wpQuiet_step ?_
    intro K hK
    go_simp
    first
      | (with_reducible refine hK _ ?_)
      | (with_reducible refine ⟨_, fun _ _ => rfl, hK _ ?_⟩)
    clear hK K
    try simp only [Act.put, List.setIfInBounds_toArray, List.set_cons_zero, List.set_cons_succ]
    with_reducible refine wpQuiet_step ?_
    intro K hK
    go_simp
    first
      | (with_reducible refine hK _ ?_)
      | (with_reducible refine ⟨_, fun _ _ => rfl, hK _ ?_⟩)
    clear hK K
    try simp only [Act.put, List.setIfInBounds_toArray, List.set_cons_zero, List.set_cons_succ]
    refine wpQuiet_nil ?_
    intro w8 hC8
    have HX := Lib.hid (HCO.out _ hC8)
    clear hC8 hCi HCO HCB HCS HCA
    go_wp2
    go_ret
    exact ⟨rfl, HB2.out.trans (HX.out.mono HB2.out.size)⟩
  · have hrf : rightD s = false := by simpa using hr
    have hpl : placesD s = 0 := by unfold placesD; rw [if_neg hr]
    rw [hrf] at KR
    rw [hpl]
    have HBW : Hid (Below w.heap.size w (w.alloc (.cells #[.int .i64 s.1, .int .i64 s.2.1, .int .i64 s.2.2] 83))) := Lib.hid ((Below.refl _ _).alloc (Nat.le_refl _) _)
    clear hr hrf hpl
    go_enter Tryz.func63, Tryz.ntmps63
    go_wp2_with fail
    refine (KR.out _).mono ?_
    rintro e w2 ⟨rfl, hb2⟩
    have HB2 : Hid (Below w.heap.size w w2) := Lib.hid (HBW.out.trans (hb2.mono HBW.out.size))
    clear hb2
    go_wp2
    go_ret
    exact ⟨rfl, HB2.out⟩
set_option maxHeartbeats 4000000 in
set_option maxRecDepth 100000 in
theorem rright_any (s : Sh) (w : World) : Calls Tryz.prog 42 #[.agg #[.int .i64 s.1, .int .i64 s.2.1, .int .i64 s.2.2]] w fun e w' => e = .returned (.bool (rightD s)) ∧ Below w.heap.size w w' := by
  have hr := @rightD_iff s
  obtain ⟨d, sl, st⟩ := s
  simp only at *
  obtain ⟨r, hrr⟩ : ∃ r, rightD (d, sl, st) = r := ⟨_, rfl⟩
  rw [hrr] at hr ⊢
  have HR : Hid ((0 ≤ d ∧ d ≤ 10 ∧ 1 ≤ sl ∧ sl ≤ 8 ∧ 1 ≤ st ∧ st ≤ 64 → true = r) ∧ (¬ (0 ≤ d ∧ d ≤ 10 ∧ 1 ≤ sl ∧ sl ≤ 8 ∧ 1 ≤ st ∧ st ≤ 64) → false = r)) := Lib.hid (by
    rw [← hr]
    cases r <;> simp)
  have HB : Hid (Below w.heap.size w (w.alloc (.cells #[.int .i64 d, .int .i64 sl, .int .i64 st] 79))) := Lib.hid ((Below.refl _ _).alloc (Nat.le_refl _) _)
  clear hr hrr
  go_enter Tryz.func42, Tryz.ntmps42
  by_cases h0 : 0 ≤ d
  rotate_left
  focus
    have d0 : decide (0 ≤ d) = false := decide_eq_false h0
    go_wp2
    go_ret
    exact ⟨by rw [← HR.out.2 (by omega)]; rfl, HB.out⟩
  have d0 : decide (0 ≤ d) = true := decide_eq_true h0
  by_cases h1 : d ≤ 10
  rotate_left
  focus
    have d1 : decide (d ≤ 10) = false := decide_eq_false h1
    go_wp2
    go_ret
    exact ⟨by rw [← HR.out.2 (by omega)]; rfl, HB.out⟩
  have d1 : decide (d ≤ 10) = true := decide_eq_true h1
  by_cases h2 : 1 ≤ sl
  rotate_left
  focus
    have d2 : decide (1 ≤ sl) = false := decide_eq_false h2
    go_wp2
    go_ret
    exact ⟨by rw [← HR.out.2 (by omega)]; rfl, HB.out⟩
  have d2 : decide (1 ≤ sl) = true := decide_eq_true h2
  by_cases h3 : sl ≤ 8
  rotate_left
  focus
    have d3 : decide (sl ≤ 8) = false := decide_eq_false h3
    go_wp2
    go_ret
    exact ⟨by rw [← HR.out.2 (by omega)]; rfl, HB.out⟩
  have d3 : decide (sl ≤ 8) = true := decide_eq_true h3
  by_cases h4 : 1 ≤ st
  rotate_left
  focus
    have d4 : decide (1 ≤ st) = false := decide_eq_false h4
    go_wp2
    go_ret
    exact ⟨by rw [← HR.out.2 (by omega)]; rfl, HB.out⟩
  have d4 : decide (1 ≤ st) = true := decide_eq_true h4
  by_cases h5 : st ≤ 64
  rotate_left
  focus
    have d5 : decide (st ≤ 64) = false := decide_eq_false h5
    go_wp2
    go_ret
    exact ⟨by rw [← HR.out.2 (by omega)]; rfl, HB.out⟩
  have d5 : decide (st ≤ 64) = true := decide_eq_true h5
  go_wp2
  go_ret
  exact ⟨by rw [← HR.out.1 (by omega)]; rfl, HB.out⟩
set_option maxRecDepth 100000 in
theorem rplaces_any (s : Sh) (w : World) : Calls Tryz.prog 36 #[.agg #[.int .i64 s.1, .int .i64 s.2.1, .int .i64 s.2.2]] w fun e w' => e = .returned (.int .i64 (placesD s)) ∧ Below w.heap.size w w' := by
  have KR := Lib.hid (fun w' => rright_any s w')
  have HBW : Hid (Below w.heap.size w (w.alloc (.cells #[.int .i64 s.1, .int .i64 s.2.1, .int .i64 s.2.2] 79))) := Lib.hid ((Below.refl _ _).alloc (Nat.le_refl _) _)
  have HBK : Hid (Blk (w.alloc (.cells #[.int .i64 s.1, .int .i64 s.2.1, .int .i64 s.2.2] 79)) w.heap.size #[.int .i64 s.1, .int .i64 s.2.1, .int .i64 s.2.2] 79) := Lib.hid (Blk.new w _ _)
  by_cases hr : rightD s = true
  · have hb := levelsD_bd hr
    have hpl : placesD s = levelsD s + s.2.2 + 1 := by unfold placesD; rw [if_pos hr]
    have hst := rightD_iff.1 hr
    have hlv : levelsD s = s.2.1 * (s.1 + 1) := rfl
    rw [hr] at KR
    rw [hpl]
    rw [hlv] at hb ⊢
    obtain ⟨d, sl, st⟩ := s
    simp only at *
    have m0 : IntKind.i64.wrap (d + 1) = d + 1 := by rw [IntKind.wrap_i64]; omega
    have m1 : IntKind.i64.wrap (sl * (d + 1)) = sl * (d + 1) := by rw [IntKind.wrap_i64]; omega
    have m2 : IntKind.i64.wrap (sl * (d + 1) + st) = sl * (d + 1) + st := by rw [IntKind.wrap_i64]; omega
    have m3 : IntKind.i64.wrap (sl * (d + 1) + st + 1) = sl * (d + 1) + st + 1 := by rw [IntKind.wrap_i64]; omega
    clear hpl hlv hr
    go_enter Tryz.func36, Tryz.ntmps36
    go_wp2_with fail
    refine (KR.out _).mono ?_
    rintro e w2 ⟨rfl, hb2⟩
    have HB2 : Hid (Below w.heap.size w w2) := Lib.hid (HBW.out.trans (hb2.mono HBW.out.size))
    have hb3 := HBK.out.below hb2 HBK.out.lt
    have c0 : w2.cell? ⟨w.heap.size, 0, none⟩ = some (.int .i64 d) := hb3.cell 0
    have c1 : w2.cell? ⟨w.heap.size, 1, none⟩ = some (.int .i64 sl) := hb3.cell 1
    have c2 : w2.cell? ⟨w.heap.size, 2, none⟩ = some (.int .i64 st) := hb3.cell 2
    clear hb2 hb3
    go_wp2
    go_ret
    exact ⟨rfl, HB2.out⟩
  · have hrf : rightD s = false := by simpa using hr
    have hpl : placesD s = 0 := by unfold placesD; rw [if_neg hr]
    rw [hrf] at KR
    rw [hpl]
    clear hr hrf hpl
    go_enter Tryz.func36, Tryz.ntmps36
    go_wp2_with fail
    refine (KR.out _).mono ?_
    rintro e w2 ⟨rfl, hb2⟩
    have HB2 : Hid (Below w.heap.size w w2) := Lib.hid (HBW.out.trans (hb2.mono HBW.out.size))
    clear hb2
    go_wp2
    go_ret
    exact ⟨rfl, HB2.out⟩
end Go.Proofs.YthchfdobdghdoaaGreat
end
section

/-
  The walk of the dealer's next.
-/
namespace Go.Sg
open Go Go.RowKit
/-- what a dealer has: its level, its place on it, its stash -/
abbrev Ds := Int × Int × Int
def sinkD (x : Ds) (deep : Int) : Ds := if deep < x.1 then (deep, 0, x.2.2) else x
/-- the next place, and what the dealer has then -/
def takeD (s : Sh) (x : Ds) : Int × Ds :=
  if x.1 < 0 then if x.2.2 = s.2.2 then (-1, x) else (levelsD s + x.2.2, (x.1, x.2.1, x.2.2 + 1))
  else (x.1 * s.2.1 + x.2.1, if x.2.1 + 1 = s.2.1 then (x.1 - 1, 0, x.2.2) else (x.1, x.2.1 + 1, x.2.2))
def nextD (s : Sh) (x : Ds) (deep : Int) : Int × Ds := takeD s (sinkD x deep)
def DsOk (s : Sh) (x : Ds) : Prop := -1 ≤ x.1 ∧ x.1 ≤ s.1 ∧ 0 ≤ x.2.1 ∧ x.2.1 < s.2.1 ∧ 0 ≤ x.2.2 ∧ x.2.2 ≤ s.2.2
theorem sinkD_ok {s : Sh} {x : Ds} {deep : Int} (h : DsOk s x) (hs : rightD s = true) (h0 : 0 ≤ deep) : DsOk s (sinkD x deep) := by
  rw [rightD_iff] at hs
  unfold sinkD DsOk at *
  split
  · simp only; omega
  · exact h
theorem takeD_ok {s : Sh} {x : Ds} (h : DsOk s x) (hs : rightD s = true) : DsOk s (takeD s x).2 := by
  rw [rightD_iff] at hs
  unfold takeD DsOk at *
  split
  · split
    · exact h
    · simp only; omega
  · split
    · simp only; omega
    · simp only; omega
def NX (T : TypeId) (w0 : World) (D : Nat) (vals : Array Value) (w : World) : Prop := Blk w D vals T ∧ MFrame (fun i => i = D) w0 w
theorem NX.set {T : TypeId} {w0 w : World} {D : Nat} {vals : Array Value} (h : NX T w0 D vals w) (o : Nat) (v : Value) : NX T w0 D (vals.setIfInBounds o v) (w.setCell ⟨D, o, none⟩ v) :=
  ⟨h.1.set o v, h.2.setCells [v] o (.inl rfl)⟩
theorem NX.below {T : TypeId} {w0 w w' : World} {D : Nat} {vals : Array Value} (h : NX T w0 D vals w) (hb : Below w.heap.size w w') : NX T w0 D vals w' :=
  ⟨h.1.below hb h.1.lt, h.2.trans (MFrame.of_below hb)⟩
end Go.Sg
namespace Go.Proofs.YthchfdobdghdoaaGreat
open Go Go.RowKit Go.Sg
theorem info_shD (x y z : Int) : (Tryz.prog.info? 83).map (·.size) = some [Value.int .i64 x, .int .i64 y, .int .i64 z].length := by kernel_rfl
set_option maxHeartbeats 1500000 in
set_option maxRecDepth 100000 in
theorem next_any (s : Sh) (hs : rightD s = true) (x : Ds) (hx : DsOk s x) (deep : Int) (hd0 : 0 ≤ deep) (D : Nat) (w : World) (hb : Blk w D #[.int .i64 s.1, .int .i64 s.2.1, .int .i64 s.2.2, .int .i64 x.1, .int .i64 x.2.1, .int .i64 x.2.2] 167) :
    Calls Tryz.prog 107 #[.pointer (some ⟨D, 0, none⟩), .int .i64 deep] w fun e w' => e = .returned (.int .i64 (nextD s x deep).1) ∧ NX 167 w D #[.int .i64 s.1, .int .i64 s.2.1, .int .i64 s.2.2, .int .i64 (nextD s x deep).2.1, .int .i64 (nextD s x deep).2.2.1, .int .i64 (nextD s x deep).2.2.2] w' := by
  obtain ⟨y, hy⟩ : ∃ y, sinkD x deep = y := ⟨_, rfl⟩
  have hyok := sinkD_ok hx hs hd0
  have kl := fun w' => levels_any s hs w'
  have hlb := levelsD_bd hs
  have hn : nextD s x deep = takeD s y := by unfold nextD; rw [hy]
  have htd : takeD s y = if y.1 < 0 then if y.2.2 = s.2.2 then (-1, y) else (levelsD s + y.2.2, (y.1, y.2.1, y.2.2 + 1)) else (y.1 * s.2.1 + y.2.1, if y.2.1 + 1 = s.2.1 then (y.1 - 1, 0, y.2.2) else (y.1, y.2.1 + 1, y.2.2)) := rfl
  rw [hn, htd]
  rw [hy] at hyok
  rw [rightD_iff] at hs
  generalize levelsD s = LV at *
  clear hn htd
  obtain ⟨⟨p, lv3, on3, sh3⟩, hr⟩ : ∃ r : Int × Ds, (if y.1 < 0 then if y.2.2 = s.2.2 then (-1, y) else (LV + y.2.2, (y.1, y.2.1, y.2.2 + 1)) else (y.1 * s.2.1 + y.2.1, if y.2.1 + 1 = s.2.1 then (y.1 - 1, 0, y.2.2) else (y.1, y.2.1 + 1, y.2.2))) = r := ⟨_, rfl⟩
  rw [hr]
  obtain ⟨d, sl, st⟩ := s
  obtain ⟨lv, on, sh⟩ := x
  obtain ⟨lv2, on2, sh2⟩ := y
  unfold DsOk at hx hyok
  simp only at *
  have KL : Hid (∀ (w1 : World) (w' : World), Below w1.heap.size w1 w' → Calls Tryz.prog 79 #[.agg [.int .i64 d, .int .i64 sl, .int .i64 st].toArray] w' fun e w'' => e = .returned (.int .i64 LV) ∧ Below w1.heap.size w1 w'') := Lib.hid fun w1 w' h => cls_call (P := Tryz.prog) kl (Nat.le_refl _) h
  clear kl
  obtain ⟨wo, rfl⟩ : ∃ wo : World, wo = w := ⟨_, rfl⟩
  have HN : Hid (NX 167 wo D #[.int .i64 d, .int .i64 sl, .int .i64 st, .int .i64 lv, .int .i64 on, .int .i64 sh] wo) := Lib.hid ⟨hb, MFrame.refl _ _⟩
  clear hb
  go_enter Tryz.func107, Tryz.ntmps107
  go_upto_region 1 with fail
  have c3 : wo.cell? ⟨D, 3, none⟩ = some (.int .i64 lv) := HN.out.1.cell 3
  have f3 := HN.out.1.free 3
  have c4 : wo.cell? ⟨D, 4, none⟩ = some (.int .i64 on) := HN.out.1.cell 4
  have f4 := HN.out.1.free 4
  have HY := Lib.hid hy
  clear hy
  by_cases hdl : deep < lv
  focus
    have d1 : decide (deep < lv) = true := decide_eq_true hdl
    have e : (deep, (0 : Int), sh) = (lv2, on2, sh2) := by rw [← HY.out]; unfold sinkD; rw [if_pos hdl]
    simp only [Prod.mk.injEq] at e
    obtain ⟨e1, e2, e3⟩ := e
    have HE := Lib.hid (And.intro e1 (And.intro e2 e3))
    clear e1 e2 e3
    go_upto_region 3 with fail
    refine at_world (fun w' => NX 167 wo D #[.int .i64 d, .int .i64 sl, .int .i64 st, .int .i64 lv2, .int .i64 on2, .int .i64 sh2] w') (by rw [← HE.out.1, ← HE.out.2.1, ← HE.out.2.2]; exact (HN.out.set 3 (.int .i64 deep)).set 4 (.int .i64 0)) ?_
    intro w2 hN2
  rotate_left
  focus
    have d1 : decide (deep < lv) = false := decide_eq_false hdl
    have e : (lv, on, sh) = (lv2, on2, sh2) := by rw [← HY.out]; unfold sinkD; rw [if_neg hdl]
    simp only [Prod.mk.injEq] at e
    obtain ⟨e1, e2, e3⟩ := e
    have HE := Lib.hid (And.intro e1 (And.intro e2 e3))
    clear e1 e2 e3
    go_upto_region 3 with fail
    refine at_world (fun w' => NX 167 wo D #[.int .i64 d, .int .i64 sl, .int .i64 st, .int .i64 lv2, .int .i64 on2, .int .i64 sh2] w') (by rw [← HE.out.1, ← HE.out.2.1, ← HE.out.2.2]; exact HN.out) ?_
    intro w2 hN2
  all_goals
    clear HN c3 f3 c4 f4 hdl d1 HE HY
    have HN := Lib.hid hN2
    clear hN2
    by_cases hneg : lv2 < 0
    · have d2 : decide (lv2 < 0) = true := decide_eq_true hneg
      rw [if_pos hneg] at hr
      by_cases hfull : sh2 = st
      · have q : (sh2 == st) = true := by simp [hfull]
        rw [if_pos hfull] at hr
        simp only [Prod.mk.injEq] at hr
        have HE := Lib.hid hr
        clear hr
        obtain ⟨C, hCi, hCo, hCB⟩ : ∃ C : World → Prop, C w2.drew ∧ (∀ w', C w' → Below w2.heap.size w2 w') ∧ (∀ w', C w' → Blk w' D #[.int .i64 d, .int .i64 sl, .int .i64 st, .int .i64 lv2, .int .i64 on2, .int .i64 sh2] 167) :=
          ⟨fun w' => Below w2.heap.size w2 w', (Below.refl _ _).drew, fun _ h => h, fun w' h => HN.out.1.below h HN.out.1.lt⟩
        have HCO := Lib.hid hCo
        have HCB := Lib.hid hCB
        clear hCo hCB
        go_upto_region 3 with fail
        refine wp_region_cls C (by kernel_rfl) (by kernel_rfl) hCi ?_
        with_reducible refine wpQuiet_step ?_
        intro K hK
        go_simp
        first
          | (with_reducible refine hK _ ?_)
          | (with_reducible refine ⟨_, fun _ _ => rfl, hK _ ?_⟩)
        clear hK K
        try simp only [Act.put, List.setIfInBounds_toArray, List.set_cons_zero, List.set_cons_succ]
        with_reducible refine wpQuiet_step ?_
        intro K hK
        go_simp
        first
          | (with_reducible refine hK _ ?_)
          | (with_reducible refine ⟨_, fun _ _ => rfl, hK _ ?_⟩)
        clear hK K
        try simp only [Act.put, List.setIfInBounds_toArray, List.set_cons_zero, List.set_cons_succ]
        with_reducible refine wpQuiet_step ?_
        intro K hK
        go_simp
        first
          | (with_reducible refine hK _ ?_)
          | (with_reducible refine ⟨_, fun _ _ => rfl, hK _ ?_⟩)
        clear hK K
        try simp only [Act.put, List.setIfInBounds_toArray, List.set_cons_zero, List.set_cons_succ]
        with_reducible refine wpQuiet_step ?_
        intro K hK
        refine qs_load_cell (by rfl) 3 _ rfl ⟨D, 3, none⟩ rfl (.int .i64 lv2) (fun w hw => (HCB.out w hw).cell 3) Tryz.isAgg3 (hK _ ?_)
        clear hK K
        try simp only [Act.put, List.setIfInBounds_toArray, List.set_cons_zero, List.set_cons_succ]
        with_reducible refine wpQuiet_step ?_
        intro K hK
        go_simp
        first
          | (with_reducible refine hK _ ?_)
          | (with_reducible refine ⟨_, fun _ _ => rfl, hK _ ?_⟩)
        clear hK K
        try simp only [Act.put, List.setIfInBounds_toArray, List.set_cons_zero, List.set_cons_succ]
        with_reducible refine wpQuiet_step ?_
        intro K hK
        go_simp
        first
          | (with_reducible refine hK _ ?_)
          | (with_reducible refine ⟨_, fun _ _ => rfl, hK _ ?_⟩)
        clear hK K
        try simp only [Act.put, List.setIfInBounds_toArray, List.set_cons_zero, List.set_cons_succ]
        with_reducible refine wpQuiet_step ?_
        intro K hK
        go_simp
        first
          | (with_reducible refine hK _ ?_)
          | (with_reducible refine ⟨_, fun _ _ => rfl, hK _ ?_⟩)
        clear hK K
        try simp only [Act.put, List.setIfInBounds_toArray, List.set_cons_zero, List.set_cons_succ]
        with_reducible refine wpQuiet_step ?_
        intro K hK
        go_simp
        first
          | (with_reducible refine hK _ ?_)
          | (with_reducible refine ⟨_, fun _ _ => rfl, hK _ ?_⟩)
        clear hK K
        try simp only [Act.put, List.setIfInBounds_toArray, List.set_cons_zero, List.set_cons_succ]
        with_reducible refine wpQuiet_step ?_
        intro K hK
        go_simp
        first
          | (with_reducible refine hK _ ?_)
          | (with_reducible refine ⟨_, fun _ _ => rfl, hK _ ?_⟩)
        clear hK K
        try simp only [Act.put, List.setIfInBounds_toArray, List.set_cons_zero, List.set_cons_succ]
        with_reducible refine wpQuiet_step ?_
        intro K hK
        refine qs_load_cell (by rfl) 3 _ rfl ⟨D, 5, none⟩ rfl (.int .i64 sh2) (fun w hw => (HCB.out w hw).cell 5) Tryz.isAgg3 (hK _ ?_)
        clear hK K
        try simp only [Act.put, List.setIfInBounds_toArray, List.set_cons_zero, List.set_cons_succ]
        with_reducible refine wpQuiet_step ?_
        intro K hK
        go_simp
        first
          | (with_reducible refine hK _ ?_)
          | (with_reducible refine ⟨_, fun _ _ => rfl, hK _ ?_⟩)
        clear hK K
        try simp only [Act.put, List.setIfInBounds_toArray, List.set_cons_zero, List.set_cons_succ]
        with_reducible refine wpQuiet_step ?_
        intro K hK
        go_simp
        first
          | (with_reducible refine hK _ ?_)
          | (with_reducible refine ⟨_, fun _ _ => rfl, hK _ ?_⟩)
        clear hK K
        try simp only [Act.put, List.setIfInBounds_toArray, List.set_cons_zero, List.set_cons_succ]
        with_reducible refine wpQuiet_step ?_
        intro K hK
        go_simp
        first
          | (with_reducible refine hK _ ?_)
          | (with_reducible refine ⟨_, fun _ _ => rfl, hK _ ?_⟩)
        clear hK K
        try simp only [Act.put, List.setIfInBounds_toArray, List.set_cons_zero, List.set_cons_succ]
        with_reducible refine wpQuiet_step ?_
        intro K hK
        go_simp
        first
          | (with_reducible refine hK _ ?_)
          | (with_reducible refine ⟨_, fun _ _ => rfl, hK _ ?_⟩)
        clear hK K
        try simp only [Act.put, List.setIfInBounds_toArray, List.set_cons_zero, List.set_cons_succ]
        with_reducible refine wpQuiet_step ?_
        intro K hK
        refine qs_load_cell (by rfl) 3 _ rfl ⟨D, 2, none⟩ rfl (.int .i64 st) (fun w hw => (HCB.out w hw).cell 2) Tryz.isAgg3 (hK _ ?_)
        clear hK K
        try simp only [Act.put, List.setIfInBounds_toArray, List.set_cons_zero, List.set_cons_succ]
        with_reducible refine wpQuiet_step ?_
        intro K hK
        go_simp
        first
          | (with_reducible refine hK _ ?_)
          | (with_reducible refine ⟨_, fun _ _ => rfl, hK _ ?_⟩)
        clear hK K
        try simp only [Act.put, List.setIfInBounds_toArray, List.set_cons_zero, List.set_cons_succ]
        with_reducible refine wpQuiet_step ?_
        intro K hK
        go_simp
        first
          | (with_reducible refine hK _ ?_)
          | (with_reducible refine ⟨_, fun _ _ => rfl, hK _ ?_⟩)
        clear hK K
        try simp only [Act.put, List.setIfInBounds_toArray, List.set_cons_zero, List.set_cons_succ]
        with_reducible refine wpQuiet_step ?_
        intro K hK
        go_simp
        first
          | (with_reducible refine hK _ ?_)
          | (with_reducible refine ⟨_, fun _ _ => rfl, hK _ ?_⟩)
        clear hK K
        try simp only [Act.put, List.setIfInBounds_toArray, List.set_cons_zero, List.set_cons_succ]
        refine wpQuiet_nil ?_
        intro wn hCn
        have HN := Lib.hid (HN.out.below (HCO.out _ hCn))
        clear hCn hCi HCO HCB
        go_wp2
        go_ret
        exact ⟨by rw [← HE.out.1]; rfl, by rw [← HE.out.2.1, ← HE.out.2.2.1, ← HE.out.2.2.2]; exact HN.out⟩
      · have q : (sh2 == st) = false := by simpa using hfull
        rw [if_neg hfull] at hr
        simp only [Prod.mk.injEq] at hr
        have HE := Lib.hid hr
        clear hr
        obtain ⟨C, hCi, hCo, hCB⟩ : ∃ C : World → Prop, C w2.drew ∧ (∀ w', C w' → Below w2.heap.size w2 w') ∧ (∀ w', C w' → Blk w' D #[.int .i64 d, .int .i64 sl, .int .i64 st, .int .i64 lv2, .int .i64 on2, .int .i64 sh2] 167) :=
          ⟨fun w' => Below w2.heap.size w2 w', (Below.refl _ _).drew, fun _ h => h, fun w' h => HN.out.1.below h HN.out.1.lt⟩
        have HCO := Lib.hid hCo
        have HCB := Lib.hid hCB
        clear hCo hCB
        go_upto_region 3 with fail
        refine wp_region_cls C (by kernel_rfl) (by kernel_rfl) hCi ?_
        with_reducible refine wpQuiet_step ?_
        intro K hK
        go_simp
        first
          | (with_reducible refine hK _ ?_)
          | (with_reducible refine ⟨_, fun _ _ => rfl, hK _ ?_⟩)
        clear hK K
        try simp only [Act.put, List.setIfInBounds_toArray, List.set_cons_zero, List.set_cons_succ]
        with_reducible refine wpQuiet_step ?_
        intro K hK
        go_simp
        first
          | (with_reducible refine hK _ ?_)
          | (with_reducible refine ⟨_, fun _ _ => rfl, hK _ ?_⟩)
        clear hK K
        try simp only [Act.put, List.setIfInBounds_toArray, List.set_cons_zero, List.set_cons_succ]
        with_reducible refine wpQuiet_step ?_
        intro K hK
        go_simp
        first
          | (with_reducible refine hK _ ?_)
          | (with_reducible refine ⟨_, fun _ _ => rfl, hK _ ?_⟩)
        clear hK K
        try simp only [Act.put, List.setIfInBounds_toArray, List.set_cons_zero, List.set_cons_succ]
        with_reducible refine wpQuiet_step ?_
        intro K hK
        refine qs_load_cell (by rfl) 3 _ rfl ⟨D, 3, none⟩ rfl (.int .i64 lv2) (fun w hw => (HCB.out w hw).cell 3) Tryz.isAgg3 (hK _ ?_)
        clear hK K
        try simp only [Act.put, List.setIfInBounds_toArray, List.set_cons_zero, List.set_cons_succ]
        with_reducible refine wpQuiet_step ?_
        intro K hK
        go_simp
        first
          | (with_reducible refine hK _ ?_)
          | (with_reducible refine ⟨_, fun _ _ => rfl, hK _ ?_⟩)
        clear hK K
        try simp only [Act.put, List.setIfInBounds_toArray, List.set_cons_zero, List.set_cons_succ]
        with_reducible refine wpQuiet_step ?_
        intro K hK
        go_simp
        first
          | (with_reducible refine hK _ ?_)
          | (with_reducible refine ⟨_, fun _ _ => rfl, hK _ ?_⟩)
        clear hK K
        try simp only [Act.put, List.setIfInBounds_toArray, List.set_cons_zero, List.set_cons_succ]
        with_reducible refine wpQuiet_step ?_
        intro K hK
        go_simp
        first
          | (with_reducible refine hK _ ?_)
          | (with_reducible refine ⟨_, fun _ _ => rfl, hK _ ?_⟩)
        clear hK K
        try simp only [Act.put, List.setIfInBounds_toArray, List.set_cons_zero, List.set_cons_succ]
        with_reducible refine wpQuiet_step ?_
        intro K hK
        go_simp
        first
          | (with_reducible refine hK _ ?_)
          | (with_reducible refine ⟨_, fun _ _ => rfl, hK _ ?_⟩)
        clear hK K
        try simp only [Act.put, List.setIfInBounds_toArray, List.set_cons_zero, List.set_cons_succ]
        with_reducible refine wpQuiet_step ?_
        intro K hK
        go_simp
        first
          | (with_reducible refine hK _ ?_)
          | (with_reducible refine ⟨_, fun _ _ => rfl, hK _ ?_⟩)
        clear hK K
        try simp only [Act.put, List.setIfInBounds_toArray, List.set_cons_zero, List.set_cons_succ]
        with_reducible refine wpQuiet_step ?_
        intro K hK
        refine qs_load_cell (by rfl) 3 _ rfl ⟨D, 5, none⟩ rfl (.int .i64 sh2) (fun w hw => (HCB.out w hw).cell 5) Tryz.isAgg3 (hK _ ?_)
        clear hK K
        try simp only [Act.put, List.setIfInBounds_toArray, List.set_cons_zero, List.set_cons_succ]
        with_reducible refine wpQuiet_step ?_
        intro K hK
        go_simp
        first
          | (with_reducible refine hK _ ?_)
          | (with_reducible refine ⟨_, fun _ _ => rfl, hK _ ?_⟩)
        clear hK K
        try simp only [Act.put, List.setIfInBounds_toArray, List.set_cons_zero, List.set_cons_succ]
        with_reducible refine wpQuiet_step ?_
        intro K hK
        go_simp
        first
          | (with_reducible refine hK _ ?_)
          | (with_reducible refine ⟨_, fun _ _ => rfl, hK _ ?_⟩)
        clear hK K
        try simp only [Act.put, List.setIfInBounds_toArray, List.set_cons_zero, List.set_cons_succ]
        with_reducible refine wpQuiet_step ?_
        intro K hK
        go_simp
        first
          | (with_reducible refine hK _ ?_)
          | (with_reducible refine ⟨_, fun _ _ => rfl, hK _ ?_⟩)
        clear hK K
        try simp only [Act.put, List.setIfInBounds_toArray, List.set_cons_zero, List.set_cons_succ]
        with_reducible refine wpQuiet_step ?_
        intro K hK
        go_simp
        first
          | (with_reducible refine hK _ ?_)
          | (with_reducible refine ⟨_, fun _ _ => rfl, hK _ ?_⟩)
        clear hK K
        try simp only [Act.put, List.setIfInBounds_toArray, List.set_cons_zero, List.set_cons_succ]
        with_reducible refine wpQuiet_step ?_
        intro K hK
        refine qs_load_cell (by rfl) 3 _ rfl ⟨D, 2, none⟩ rfl (.int .i64 st) (fun w hw => (HCB.out w hw).cell 2) Tryz.isAgg3 (hK _ ?_)
        clear hK K
        try simp only [Act.put, List.setIfInBounds_toArray, List.set_cons_zero, List.set_cons_succ]
        with_reducible refine wpQuiet_step ?_
        intro K hK
        go_simp
        first
          | (with_reducible refine hK _ ?_)
          | (with_reducible refine ⟨_, fun _ _ => rfl, hK _ ?_⟩)
        clear hK K
        try simp only [Act.put, List.setIfInBounds_toArray, List.set_cons_zero, List.set_cons_succ]
        with_reducible refine wpQuiet_step ?_
        intro K hK
        go_simp
        first
          | (with_reducible refine hK _ ?_)
          | (with_reducible refine ⟨_, fun _ _ => rfl, hK _ ?_⟩)
        clear hK K
        try simp only [Act.put, List.setIfInBounds_toArray, List.set_cons_zero, List.set_cons_succ]
        with_reducible refine wpQuiet_step ?_
        intro K hK
        go_simp
        first
          | (with_reducible refine hK _ ?_)
          | (with_reducible refine ⟨_, fun _ _ => rfl, hK _ ?_⟩)
        clear hK K
        try simp only [Act.put, List.setIfInBounds_toArray, List.set_cons_zero, List.set_cons_succ]
        refine wpQuiet_nil ?_
        intro wn hCn
        have HN := Lib.hid (HN.out.below (HCO.out _ hCn))
        clear hCn hCi HCO HCB
        have c3 : wn.cell? ⟨D, 3, none⟩ = some (.int .i64 lv2) := HN.out.1.cell 3
        have f3 := HN.out.1.free 3
        have c5 : wn.cell? ⟨D, 5, none⟩ = some (.int .i64 sh2) := HN.out.1.cell 5
        have f5 := HN.out.1.free 5
        have m1 : IntKind.i64.wrap (sh2 + 1) = sh2 + 1 := by rw [IntKind.wrap_i64]; omega
        have m2 : IntKind.i64.wrap (LV + (sh2 + 1)) = LV + (sh2 + 1) := by rw [IntKind.wrap_i64]; omega
        have m3 : IntKind.i64.wrap (LV + (sh2 + 1) - 1) = LV + (sh2 + 1) - 1 := by rw [IntKind.wrap_i64]; omega
        go_upto_region 7 with fail
        refine at_world (fun w' => NX 167 wo D #[.int .i64 d, .int .i64 sl, .int .i64 st, .int .i64 lv2, .int .i64 on2, .int .i64 (sh2 + 1)] w') (HN.out.set 5 (.int .i64 (sh2 + 1))) ?_
        intro w5 hN2
        clear HN
        have HN := Lib.hid hN2
        clear hN2
        clear c3 c5 f3 f5
        have t1 : ∀ w', Below w5.heap.size w5 w' → Blk w' D #[.int .i64 d, .int .i64 sl, .int .i64 st, .int .i64 lv2, .int .i64 on2, .int .i64 (sh2 + 1)] 167 := fun w' h => HN.out.1.below h HN.out.1.lt
        have t2 : ∀ w', Below w5.heap.size w5 w' → Calls Tryz.prog 79 #[.agg [.int .i64 d, .int .i64 sl, .int .i64 st].toArray] w' fun e w'' => e = .returned (.int .i64 LV) ∧ Below w5.heap.size w5 w'' := KL.out w5
        obtain ⟨C, hCi, hCo, hCI⟩ : ∃ C : World → Prop, C w5.drew ∧ (∀ w', C w' → Below w5.heap.size w5 w') ∧ (∀ w', Below w5.heap.size w5 w' → C w') := ⟨fun w' => Below w5.heap.size w5 w', (Below.refl _ _).drew, fun _ h => h, fun _ h => h⟩
        have HCO := Lib.hid hCo
        have HCB : Hid (∀ w', C w' → Blk w' D #[.int .i64 d, .int .i64 sl, .int .i64 st, .int .i64 lv2, .int .i64 on2, .int .i64 (sh2 + 1)] 167) := Lib.hid fun w' h => t1 w' (hCo w' h)
        have HCA : Hid (∀ w', C w' → Calls Tryz.prog 79 #[.agg [.int .i64 d, .int .i64 sl, .int .i64 st].toArray] w' fun e w'' => e = .returned (.int .i64 LV) ∧ C w'') := Lib.hid fun w' h => (t2 w' (hCo w' h)).mono fun e w'' he => ⟨he.1, hCI _ he.2⟩
        clear t1 t2
        have HCX : Hid (∀ w', C w' → w'.rangeAt D 0 [.int .i64 d, .int .i64 sl, .int .i64 st]) := Lib.hid fun w' h j u hu => by
          have h2 := (HCB.out w' h).cell (0 + j)
          rw [h2, Nat.zero_add]
          have hj : j < 3 := (List.getElem?_eq_some_iff.1 hu).1
          match j, hj with
          | 0, _ => exact hu
          | 1, _ => exact hu
          | 2, _ => exact hu
        clear hCo hCI
        refine wp_region_cls C (by kernel_rfl) (by kernel_rfl) hCi ?_
        with_reducible refine wpQuiet_step ?_
        intro K hK
        go_simp
        first
          | (with_reducible refine hK _ ?_)
          | (with_reducible refine ⟨_, fun _ _ => rfl, hK _ ?_⟩)
        clear hK K
        try simp only [Act.put, List.setIfInBounds_toArray, List.set_cons_zero, List.set_cons_succ]
        with_reducible refine wpQuiet_step ?_
        intro K hK
        go_simp
        first
          | (with_reducible refine hK _ ?_)
          | (with_reducible refine ⟨_, fun _ _ => rfl, hK _ ?_⟩)
        clear hK K
        try simp only [Act.put, List.setIfInBounds_toArray, List.set_cons_zero, List.set_cons_succ]
        with_reducible refine wpQuiet_step ?_
        intro K hK
        go_simp
        first
          | (with_reducible refine hK _ ?_)
          | (with_reducible refine ⟨_, fun _ _ => rfl, hK _ ?_⟩)
        clear hK K
        try simp only [Act.put, List.setIfInBounds_toArray, List.set_cons_zero, List.set_cons_succ]
        with_reducible refine wpQuiet_step ?_
        intro K hK
        refine qs_load_midD (by rfl) 83 (.tmp 52) rfl D 0 rfl [.int .i64 d, .int .i64 sl, .int .i64 st] _ (fun w hw => HCX.out w hw) Tryz.underlying83 rfl (info_shD _ _ _) (hK _ ?_)
        clear hK K
        try simp only [Act.put, List.setIfInBounds_toArray, List.set_cons_zero, List.set_cons_succ]
        with_reducible refine wpQuiet_step ?_
        intro K hK
        go_simp
        with_reducible apply Exists.intro
        with_reducible refine ⟨fun _ hC => ?_, hK _ ?_⟩
        with_reducible exact HCA.out _ hC
        clear hK K
        try simp only [Act.put, List.setIfInBounds_toArray, List.set_cons_zero, List.set_cons_succ]
        with_reducible refine wpQuiet_step ?_
        intro K hK
        go_simp
        first
          | (with_reducible refine hK _ ?_)
          | (with_reducible refine ⟨_, fun _ _ => rfl, hK _ ?_⟩)
        clear hK K
        try simp only [Act.put, List.setIfInBounds_toArray, List.set_cons_zero, List.set_cons_succ]
        with_reducible refine wpQuiet_step ?_
        intro K hK
        go_simp
        first
          | (with_reducible refine hK _ ?_)
          | (with_reducible refine ⟨_, fun _ _ => rfl, hK _ ?_⟩)
        clear hK K
        try simp only [Act.put, List.setIfInBounds_toArray, List.set_cons_zero, List.set_cons_succ]
        with_reducible refine wpQuiet_step ?_
        intro K hK
        go_simp
        first
          | (with_reducible refine hK _ ?_)
          | (with_reducible refine ⟨_, fun _ _ => rfl, hK _ ?_⟩)
        clear hK K
        try simp only [Act.put, List.setIfInBounds_toArray, List.set_cons_zero, List.set_cons_succ]
        with_reducible refine wpQuiet_step ?_
        intro K hK
        refine qs_load_cell (by rfl) 3 _ rfl ⟨D, 5, none⟩ rfl (.int .i64 (sh2 + 1)) (fun w hw => (HCB.out w hw).cell 5) Tryz.isAgg3 (hK _ ?_)
        clear hK K
        try simp only [Act.put, List.setIfInBounds_toArray, List.set_cons_zero, List.set_cons_succ]
        with_reducible refine wpQuiet_step ?_
        intro K hK
        go_simp
        first
          | (with_reducible refine hK _ ?_)
          | (with_reducible refine ⟨_, fun _ _ => rfl, hK _ ?_⟩)
        clear hK K
        try simp only [Act.put, List.setIfInBounds_toArray, List.set_cons_zero, List.set_cons_succ]
        with_reducible refine wpQuiet_step ?_
        intro K hK
        go_simp
        first
          | (with_reducible refine hK _ ?_)
          | (with_reducible refine ⟨_, fun _ _ => rfl, hK _ ?_⟩)
        clear hK K
        try simp only [Act.put, List.setIfInBounds_toArray, List.set_cons_zero, List.set_cons_succ]
        with_reducible refine wpQuiet_step ?_
        intro K hK
        go_simp
        first
          | (with_reducible refine hK _ ?_)
          | (with_reducible refine ⟨_, fun _ _ => rfl, hK _ ?_⟩)
        clear hK K
        try simp only [Act.put, List.setIfInBounds_toArray, List.set_cons_zero, List.set_cons_succ]
        refine wpQuiet_nil ?_
        intro wn2 hCn
        have HN := Lib.hid (HN.out.below (HCO.out _ hCn))
        clear hCn hCi HCO HCB HCA HCX
        go_wp2
        go_ret
        exact ⟨congrArg (fun n => Ending.returned (Value.int .i64 n)) (by show LV + (sh2 + 1) - 1 = p; have := HE.out.1; omega), by rw [← HE.out.2.1, ← HE.out.2.2.1, ← HE.out.2.2.2]; exact HN.out⟩
    · have d2 : decide (lv2 < 0) = false := decide_eq_false hneg
      rw [if_neg hneg] at hr
      simp only [Prod.mk.injEq] at hr
      have hmul : 0 ≤ lv2 * sl ∧ lv2 * sl ≤ 10 * 8 := ⟨Int.mul_nonneg (by omega) (by omega), Int.mul_le_mul (by omega) (by omega) (by omega) (by omega)⟩
      have m1 : IntKind.i64.wrap (lv2 * sl) = lv2 * sl := by rw [IntKind.wrap_i64]; omega
      have m2 : IntKind.i64.wrap (lv2 * sl + on2) = lv2 * sl + on2 := by rw [IntKind.wrap_i64]; omega
      have m3 : IntKind.i64.wrap (on2 + 1) = on2 + 1 := by rw [IntKind.wrap_i64]; omega
      have m4 : IntKind.i64.wrap (lv2 - 1) = lv2 - 1 := by rw [IntKind.wrap_i64]; omega
      obtain ⟨C, hCi, hCo, hCB⟩ : ∃ C : World → Prop, C w2.drew ∧ (∀ w', C w' → Below w2.heap.size w2 w') ∧ (∀ w', C w' → Blk w' D #[.int .i64 d, .int .i64 sl, .int .i64 st, .int .i64 lv2, .int .i64 on2, .int .i64 sh2] 167) :=
        ⟨fun w' => Below w2.heap.size w2 w', (Below.refl _ _).drew, fun _ h => h, fun w' h => HN.out.1.below h HN.out.1.lt⟩
      have HCO := Lib.hid hCo
      have HCB := Lib.hid hCB
      clear hCo hCB
      go_upto_region 3 with fail
      refine wp_region_cls C (by kernel_rfl) (by kernel_rfl) hCi ?_
      with_reducible refine wpQuiet_step ?_
      intro K hK
      go_simp
      first
        | (with_reducible refine hK _ ?_)
        | (with_reducible refine ⟨_, fun _ _ => rfl, hK _ ?_⟩)
      clear hK K
      try simp only [Act.put, List.setIfInBounds_toArray, List.set_cons_zero, List.set_cons_succ]
      with_reducible refine wpQuiet_step ?_
      intro K hK
      go_simp
      first
        | (with_reducible refine hK _ ?_)
        | (with_reducible refine ⟨_, fun _ _ => rfl, hK _ ?_⟩)
      clear hK K
      try simp only [Act.put, List.setIfInBounds_toArray, List.set_cons_zero, List.set_cons_succ]
      with_reducible refine wpQuiet_step ?_
      intro K hK
      go_simp
      first
        | (with_reducible refine hK _ ?_)
        | (with_reducible refine ⟨_, fun _ _ => rfl, hK _ ?_⟩)
      clear hK K
      try simp only [Act.put, List.setIfInBounds_toArray, List.set_cons_zero, List.set_cons_succ]
      with_reducible refine wpQuiet_step ?_
      intro K hK
      refine qs_load_cell (by rfl) 3 _ rfl ⟨D, 3, none⟩ rfl (.int .i64 lv2) (fun w hw => (HCB.out w hw).cell 3) Tryz.isAgg3 (hK _ ?_)
      clear hK K
      try simp only [Act.put, List.setIfInBounds_toArray, List.set_cons_zero, List.set_cons_succ]
      with_reducible refine wpQuiet_step ?_
      intro K hK
      go_simp
      first
        | (with_reducible refine hK _ ?_)
        | (with_reducible refine ⟨_, fun _ _ => rfl, hK _ ?_⟩)
      clear hK K
      try simp only [Act.put, List.setIfInBounds_toArray, List.set_cons_zero, List.set_cons_succ]
      with_reducible refine wpQuiet_step ?_
      intro K hK
      go_simp
      first
        | (with_reducible refine hK _ ?_)
        | (with_reducible refine ⟨_, fun _ _ => rfl, hK _ ?_⟩)
      clear hK K
      try simp only [Act.put, List.setIfInBounds_toArray, List.set_cons_zero, List.set_cons_succ]
      with_reducible refine wpQuiet_step ?_
      intro K hK
      refine qs_skipD (by rfl) (hK _ ?_)
      clear hK K
      try simp only [Act.put, List.setIfInBounds_toArray, List.set_cons_zero, List.set_cons_succ]
      with_reducible refine wpQuiet_step ?_
      intro K hK
      refine qs_skipD (by rfl) (hK _ ?_)
      clear hK K
      try simp only [Act.put, List.setIfInBounds_toArray, List.set_cons_zero, List.set_cons_succ]
      with_reducible refine wpQuiet_step ?_
      intro K hK
      refine qs_skipD (by rfl) (hK _ ?_)
      clear hK K
      try simp only [Act.put, List.setIfInBounds_toArray, List.set_cons_zero, List.set_cons_succ]
      with_reducible refine wpQuiet_step ?_
      intro K hK
      refine qs_skipD (by rfl) (hK _ ?_)
      clear hK K
      try simp only [Act.put, List.setIfInBounds_toArray, List.set_cons_zero, List.set_cons_succ]
      with_reducible refine wpQuiet_step ?_
      intro K hK
      refine qs_skipD (by rfl) (hK _ ?_)
      clear hK K
      try simp only [Act.put, List.setIfInBounds_toArray, List.set_cons_zero, List.set_cons_succ]
      with_reducible refine wpQuiet_step ?_
      intro K hK
      refine qs_skipD (by rfl) (hK _ ?_)
      clear hK K
      try simp only [Act.put, List.setIfInBounds_toArray, List.set_cons_zero, List.set_cons_succ]
      with_reducible refine wpQuiet_step ?_
      intro K hK
      refine qs_skipD (by rfl) (hK _ ?_)
      clear hK K
      try simp only [Act.put, List.setIfInBounds_toArray, List.set_cons_zero, List.set_cons_succ]
      with_reducible refine wpQuiet_step ?_
      intro K hK
      refine qs_skipD (by rfl) (hK _ ?_)
      clear hK K
      try simp only [Act.put, List.setIfInBounds_toArray, List.set_cons_zero, List.set_cons_succ]
      with_reducible refine wpQuiet_step ?_
      intro K hK
      refine qs_skipD (by rfl) (hK _ ?_)
      clear hK K
      try simp only [Act.put, List.setIfInBounds_toArray, List.set_cons_zero, List.set_cons_succ]
      with_reducible refine wpQuiet_step ?_
      intro K hK
      refine qs_skipD (by rfl) (hK _ ?_)
      clear hK K
      try simp only [Act.put, List.setIfInBounds_toArray, List.set_cons_zero, List.set_cons_succ]
      with_reducible refine wpQuiet_step ?_
      intro K hK
      go_simp
      first
        | (with_reducible refine hK _ ?_)
        | (with_reducible refine ⟨_, fun _ _ => rfl, hK _ ?_⟩)
      clear hK K
      try simp only [Act.put, List.setIfInBounds_toArray, List.set_cons_zero, List.set_cons_succ]
      with_reducible refine wpQuiet_step ?_
      intro K hK
      go_simp
      first
        | (with_reducible refine hK _ ?_)
        | (with_reducible refine ⟨_, fun _ _ => rfl, hK _ ?_⟩)
      clear hK K
      try simp only [Act.put, List.setIfInBounds_toArray, List.set_cons_zero, List.set_cons_succ]
      refine wpQuiet_nil ?_
      intro wn hCn
      have HN := Lib.hid (HN.out.below (HCO.out _ hCn))
      clear hCn hCi HCO HCB
      have c3 : wn.cell? ⟨D, 3, none⟩ = some (.int .i64 lv2) := HN.out.1.cell 3
      have f3 := HN.out.1.free 3
      go_upto_region 8 with fail
      clear c3 f3
      obtain ⟨C, hCi, hCo, hCB⟩ : ∃ C : World → Prop, C wn.drew ∧ (∀ w', C w' → Below wn.heap.size wn w') ∧ (∀ w', C w' → Blk w' D #[.int .i64 d, .int .i64 sl, .int .i64 st, .int .i64 lv2, .int .i64 on2, .int .i64 sh2] 167) :=
        ⟨fun w' => Below wn.heap.size wn w', (Below.refl _ _).drew, fun _ h => h, fun w' h => HN.out.1.below h HN.out.1.lt⟩
      have HCO := Lib.hid hCo
      have HCB := Lib.hid hCB
      clear hCo hCB
      refine wp_region_cls C (by kernel_rfl) (by kernel_rfl) hCi ?_
      with_reducible refine wpQuiet_step ?_
      intro K hK
      go_simp
      first
        | (with_reducible refine hK _ ?_)
        | (with_reducible refine ⟨_, fun _ _ => rfl, hK _ ?_⟩)
      clear hK K
      try simp only [Act.put, List.setIfInBounds_toArray, List.set_cons_zero, List.set_cons_succ]
      with_reducible refine wpQuiet_step ?_
      intro K hK
      go_simp
      first
        | (with_reducible refine hK _ ?_)
        | (with_reducible refine ⟨_, fun _ _ => rfl, hK _ ?_⟩)
      clear hK K
      try simp only [Act.put, List.setIfInBounds_toArray, List.set_cons_zero, List.set_cons_succ]
      with_reducible refine wpQuiet_step ?_
      intro K hK
      go_simp
      first
        | (with_reducible refine hK _ ?_)
        | (with_reducible refine ⟨_, fun _ _ => rfl, hK _ ?_⟩)
      clear hK K
      try simp only [Act.put, List.setIfInBounds_toArray, List.set_cons_zero, List.set_cons_succ]
      with_reducible refine wpQuiet_step ?_
      intro K hK
      refine qs_load_cell (by rfl) 3 _ rfl ⟨D, 3, none⟩ rfl (.int .i64 lv2) (fun w hw => (HCB.out w hw).cell 3) Tryz.isAgg3 (hK _ ?_)
      clear hK K
      try simp only [Act.put, List.setIfInBounds_toArray, List.set_cons_zero, List.set_cons_succ]
      with_reducible refine wpQuiet_step ?_
      intro K hK
      go_simp
      first
        | (with_reducible refine hK _ ?_)
        | (with_reducible refine ⟨_, fun _ _ => rfl, hK _ ?_⟩)
      clear hK K
      try simp only [Act.put, List.setIfInBounds_toArray, List.set_cons_zero, List.set_cons_succ]
      with_reducible refine wpQuiet_step ?_
      intro K hK
      go_simp
      first
        | (with_reducible refine hK _ ?_)
        | (with_reducible refine ⟨_, fun _ _ => rfl, hK _ ?_⟩)
      clear hK K
      try simp only [Act.put, List.setIfInBounds_toArray, List.set_cons_zero, List.set_cons_succ]
      with_reducible refine wpQuiet_step ?_
      intro K hK
      go_simp
      first
        | (with_reducible refine hK _ ?_)
        | (with_reducible refine ⟨_, fun _ _ => rfl, hK _ ?_⟩)
      clear hK K
      try simp only [Act.put, List.setIfInBounds_toArray, List.set_cons_zero, List.set_cons_succ]
      with_reducible refine wpQuiet_step ?_
      intro K hK
      go_simp
      first
        | (with_reducible refine hK _ ?_)
        | (with_reducible refine ⟨_, fun _ _ => rfl, hK _ ?_⟩)
      clear hK K
      try simp only [Act.put, List.setIfInBounds_toArray, List.set_cons_zero, List.set_cons_succ]
      with_reducible refine wpQuiet_step ?_
      intro K hK
      refine qs_load_cell (by rfl) 3 _ rfl ⟨D, 1, none⟩ rfl (.int .i64 sl) (fun w hw => (HCB.out w hw).cell 1) Tryz.isAgg3 (hK _ ?_)
      clear hK K
      try simp only [Act.put, List.setIfInBounds_toArray, List.set_cons_zero, List.set_cons_succ]
      with_reducible refine wpQuiet_step ?_
      intro K hK
      go_simp
      first
        | (with_reducible refine hK _ ?_)
        | (with_reducible refine ⟨_, fun _ _ => rfl, hK _ ?_⟩)
      clear hK K
      try simp only [Act.put, List.setIfInBounds_toArray, List.set_cons_zero, List.set_cons_succ]
      with_reducible refine wpQuiet_step ?_
      intro K hK
      go_simp
      first
        | (with_reducible refine hK _ ?_)
        | (with_reducible refine ⟨_, fun _ _ => rfl, hK _ ?_⟩)
      clear hK K
      try simp only [Act.put, List.setIfInBounds_toArray, List.set_cons_zero, List.set_cons_succ]
      with_reducible refine wpQuiet_step ?_
      intro K hK
      go_simp
      first
        | (with_reducible refine hK _ ?_)
        | (with_reducible refine ⟨_, fun _ _ => rfl, hK _ ?_⟩)
      clear hK K
      try simp only [Act.put, List.setIfInBounds_toArray, List.set_cons_zero, List.set_cons_succ]
      with_reducible refine wpQuiet_step ?_
      intro K hK
      go_simp
      first
        | (with_reducible refine hK _ ?_)
        | (with_reducible refine ⟨_, fun _ _ => rfl, hK _ ?_⟩)
      clear hK K
      try simp only [Act.put, List.setIfInBounds_toArray, List.set_cons_zero, List.set_cons_succ]
      with_reducible refine wpQuiet_step ?_
      intro K hK
      refine qs_load_cell (by rfl) 3 _ rfl ⟨D, 4, none⟩ rfl (.int .i64 on2) (fun w hw => (HCB.out w hw).cell 4) Tryz.isAgg3 (hK _ ?_)
      clear hK K
      try simp only [Act.put, List.setIfInBounds_toArray, List.set_cons_zero, List.set_cons_succ]
      with_reducible refine wpQuiet_step ?_
      intro K hK
      go_simp
      first
        | (with_reducible refine hK _ ?_)
        | (with_reducible refine ⟨_, fun _ _ => rfl, hK _ ?_⟩)
      clear hK K
      try simp only [Act.put, List.setIfInBounds_toArray, List.set_cons_zero, List.set_cons_succ]
      with_reducible refine wpQuiet_step ?_
      intro K hK
      go_simp
      first
        | (with_reducible refine hK _ ?_)
        | (with_reducible refine ⟨_, fun _ _ => rfl, hK _ ?_⟩)
      clear hK K
      try simp only [Act.put, List.setIfInBounds_toArray, List.set_cons_zero, List.set_cons_succ]
      refine wpQuiet_nil ?_
      intro wm hCn
      have HN := Lib.hid (HN.out.below (HCO.out _ hCn))
      clear hCn hCi HCO HCB
      have c4 : wm.cell? ⟨D, 4, none⟩ = some (.int .i64 on2) := HN.out.1.cell 4
      have f4 := HN.out.1.free 4
      go_upto_region 10 with fail
      refine at_world (fun w' => NX 167 wo D #[.int .i64 d, .int .i64 sl, .int .i64 st, .int .i64 lv2, .int .i64 (on2 + 1), .int .i64 sh2] w') (HN.out.set 4 (.int .i64 (on2 + 1))) ?_
      intro w5 hN2
      clear HN
      have HN := Lib.hid hN2
      clear hN2
      clear c4 f4
      by_cases hlast : on2 + 1 = sl
      · have q : (on2 + 1 == sl) = true := by simp [hlast]
        rw [if_pos hlast] at hr
        obtain ⟨hr1, hr2⟩ := hr
        simp only [Prod.mk.injEq] at hr2
        have HE := Lib.hid (And.intro hr1 hr2)
        clear hr1 hr2
        obtain ⟨C, hCi, hCo, hCB⟩ : ∃ C : World → Prop, C w5.drew ∧ (∀ w', C w' → Below w5.heap.size w5 w') ∧ (∀ w', C w' → Blk w' D #[.int .i64 d, .int .i64 sl, .int .i64 st, .int .i64 lv2, .int .i64 (on2 + 1), .int .i64 sh2] 167) :=
          ⟨fun w' => Below w5.heap.size w5 w', (Below.refl _ _).drew, fun _ h => h, fun w' h => HN.out.1.below h HN.out.1.lt⟩
        have HCO := Lib.hid hCo
        have HCB := Lib.hid hCB
        clear hCo hCB
        refine wp_region_cls C (by kernel_rfl) (by kernel_rfl) hCi ?_
        with_reducible refine wpQuiet_step ?_
        intro K hK
        go_simp
        first
          | (with_reducible refine hK _ ?_)
          | (with_reducible refine ⟨_, fun _ _ => rfl, hK _ ?_⟩)
        clear hK K
        try simp only [Act.put, List.setIfInBounds_toArray, List.set_cons_zero, List.set_cons_succ]
        with_reducible refine wpQuiet_step ?_
        intro K hK
        go_simp
        first
          | (with_reducible refine hK _ ?_)
          | (with_reducible refine ⟨_, fun _ _ => rfl, hK _ ?_⟩)
        clear hK K
        try simp only [Act.put, List.setIfInBounds_toArray, List.set_cons_zero, List.set_cons_succ]
        with_reducible refine wpQuiet_step ?_
        intro K hK
        go_simp
        first
          | (with_reducible refine hK _ ?_)
          | (with_reducible refine ⟨_, fun _ _ => rfl, hK _ ?_⟩)
        clear hK K
        try simp only [Act.put, List.setIfInBounds_toArray, List.set_cons_zero, List.set_cons_succ]
        with_reducible refine wpQuiet_step ?_
        intro K hK
        refine qs_load_cell (by rfl) 3 _ rfl ⟨D, 4, none⟩ rfl (.int .i64 (on2 + 1)) (fun w hw => (HCB.out w hw).cell 4) Tryz.isAgg3 (hK _ ?_)
        clear hK K
        try simp only [Act.put, List.setIfInBounds_toArray, List.set_cons_zero, List.set_cons_succ]
        with_reducible refine wpQuiet_step ?_
        intro K hK
        go_simp
        first
          | (with_reducible refine hK _ ?_)
          | (with_reducible refine ⟨_, fun _ _ => rfl, hK _ ?_⟩)
        clear hK K
        try simp only [Act.put, List.setIfInBounds_toArray, List.set_cons_zero, List.set_cons_succ]
        with_reducible refine wpQuiet_step ?_
        intro K hK
        go_simp
        first
          | (with_reducible refine hK _ ?_)
          | (with_reducible refine ⟨_, fun _ _ => rfl, hK _ ?_⟩)
        clear hK K
        try simp only [Act.put, List.setIfInBounds_toArray, List.set_cons_zero, List.set_cons_succ]
        with_reducible refine wpQuiet_step ?_
        intro K hK
        go_simp
        first
          | (with_reducible refine hK _ ?_)
          | (with_reducible refine ⟨_, fun _ _ => rfl, hK _ ?_⟩)
        clear hK K
        try simp only [Act.put, List.setIfInBounds_toArray, List.set_cons_zero, List.set_cons_succ]
        with_reducible refine wpQuiet_step ?_
        intro K hK
        go_simp
        first
          | (with_reducible refine hK _ ?_)
          | (with_reducible refine ⟨_, fun _ _ => rfl, hK _ ?_⟩)
        clear hK K
        try simp only [Act.put, List.setIfInBounds_toArray, List.set_cons_zero, List.set_cons_succ]
        with_reducible refine wpQuiet_step ?_
        intro K hK
        refine qs_load_cell (by rfl) 3 _ rfl ⟨D, 1, none⟩ rfl (.int .i64 sl) (fun w hw => (HCB.out w hw).cell 1) Tryz.isAgg3 (hK _ ?_)
        clear hK K
        try simp only [Act.put, List.setIfInBounds_toArray, List.set_cons_zero, List.set_cons_succ]
        with_reducible refine wpQuiet_step ?_
        intro K hK
        go_simp
        first
          | (with_reducible refine hK _ ?_)
          | (with_reducible refine ⟨_, fun _ _ => rfl, hK _ ?_⟩)
        clear hK K
        try simp only [Act.put, List.setIfInBounds_toArray, List.set_cons_zero, List.set_cons_succ]
        refine wpQuiet_nil ?_
        intro w6 hCn
        have HN := Lib.hid (HN.out.below (HCO.out _ hCn))
        clear hCn hCi HCO HCB
        have c3 : w6.cell? ⟨D, 3, none⟩ = some (.int .i64 lv2) := HN.out.1.cell 3
        have f3 := HN.out.1.free 3
        have c4 : w6.cell? ⟨D, 4, none⟩ = some (.int .i64 (on2 + 1)) := HN.out.1.cell 4
        have f4 := HN.out.1.free 4
        go_wp2
        go_ret
        exact ⟨congrArg (fun n => Ending.returned (Value.int .i64 n)) (show IntKind.i64.wrap p = p by rw [← HE.out.1]; exact m2), by rw [← HE.out.2.1, ← HE.out.2.2.1, ← HE.out.2.2.2]; exact (HN.out.set 3 (.int .i64 (lv2 - 1))).set 4 (.int .i64 0)⟩
      · have q : (on2 + 1 == sl) = false := by simpa using hlast
        rw [if_neg hlast] at hr
        obtain ⟨hr1, hr2⟩ := hr
        simp only [Prod.mk.injEq] at hr2
        have HE := Lib.hid (And.intro hr1 hr2)
        clear hr1 hr2
        obtain ⟨C, hCi, hCo, hCB⟩ : ∃ C : World → Prop, C w5.drew ∧ (∀ w', C w' → Below w5.heap.size w5 w') ∧ (∀ w', C w' → Blk w' D #[.int .i64 d, .int .i64 sl, .int .i64 st, .int .i64 lv2, .int .i64 (on2 + 1), .int .i64 sh2] 167) :=
          ⟨fun w' => Below w5.heap.size w5 w', (Below.refl _ _).drew, fun _ h => h, fun w' h => HN.out.1.below h HN.out.1.lt⟩
        have HCO := Lib.hid hCo
        have HCB := Lib.hid hCB
        clear hCo hCB
        refine wp_region_cls C (by kernel_rfl) (by kernel_rfl) hCi ?_
        with_reducible refine wpQuiet_step ?_
        intro K hK
        go_simp
        first
          | (with_reducible refine hK _ ?_)
          | (with_reducible refine ⟨_, fun _ _ => rfl, hK _ ?_⟩)
        clear hK K
        try simp only [Act.put, List.setIfInBounds_toArray, List.set_cons_zero, List.set_cons_succ]
        with_reducible refine wpQuiet_step ?_
        intro K hK
        go_simp
        first
          | (with_reducible refine hK _ ?_)
          | (with_reducible refine ⟨_, fun _ _ => rfl, hK _ ?_⟩)
        clear hK K
        try simp only [Act.put, List.setIfInBounds_toArray, List.set_cons_zero, List.set_cons_succ]
        with_reducible refine wpQuiet_step ?_
        intro K hK
        go_simp
        first
          | (with_reducible refine hK _ ?_)
          | (with_reducible refine ⟨_, fun _ _ => rfl, hK _ ?_⟩)
        clear hK K
        try simp only [Act.put, List.setIfInBounds_toArray, List.set_cons_zero, List.set_cons_succ]
        with_reducible refine wpQuiet_step ?_
        intro K hK
        refine qs_load_cell (by rfl) 3 _ rfl ⟨D, 4, none⟩ rfl (.int .i64 (on2 + 1)) (fun w hw => (HCB.out w hw).cell 4) Tryz.isAgg3 (hK _ ?_)
        clear hK K
        try simp only [Act.put, List.setIfInBounds_toArray, List.set_cons_zero, List.set_cons_succ]
        with_reducible refine wpQuiet_step ?_
        intro K hK
        go_simp
        first
          | (with_reducible refine hK _ ?_)
          | (with_reducible refine ⟨_, fun _ _ => rfl, hK _ ?_⟩)
        clear hK K
        try simp only [Act.put, List.setIfInBounds_toArray, List.set_cons_zero, List.set_cons_succ]
        with_reducible refine wpQuiet_step ?_
        intro K hK
        go_simp
        first
          | (with_reducible refine hK _ ?_)
          | (with_reducible refine ⟨_, fun _ _ => rfl, hK _ ?_⟩)
        clear hK K
        try simp only [Act.put, List.setIfInBounds_toArray, List.set_cons_zero, List.set_cons_succ]
        with_reducible refine wpQuiet_step ?_
        intro K hK
        go_simp
        first
          | (with_reducible refine hK _ ?_)
          | (with_reducible refine ⟨_, fun _ _ => rfl, hK _ ?_⟩)
        clear hK K
        try simp only [Act.put, List.setIfInBounds_toArray, List.set_cons_zero, List.set_cons_succ]
        with_reducible refine wpQuiet_step ?_
        intro K hK
        go_simp
        first
          | (with_reducible refine hK _ ?_)
          | (with_reducible refine ⟨_, fun _ _ => rfl, hK _ ?_⟩)
        clear hK K
        try simp only [Act.put, List.setIfInBounds_toArray, List.set_cons_zero, List.set_cons_succ]
        with_reducible refine wpQuiet_step ?_
        intro K hK
        refine qs_load_cell (by rfl) 3 _ rfl ⟨D, 1, none⟩ rfl (.int .i64 sl) (fun w hw => (HCB.out w hw).cell 1) Tryz.isAgg3 (hK _ ?_)
        clear hK K
        try simp only [Act.put, List.setIfInBounds_toArray, List.set_cons_zero, List.set_cons_succ]
        with_reducible refine wpQuiet_step ?_
        intro K hK
        go_simp
        first
          | (with_reducible refine hK _ ?_)
          | (with_reducible refine ⟨_, fun _ _ => rfl, hK _ ?_⟩)
        clear hK K
        try simp only [Act.put, List.setIfInBounds_toArray, List.set_cons_zero, List.set_cons_succ]
        refine wpQuiet_nil ?_
        intro w6 hCn
        have HN := Lib.hid (HN.out.below (HCO.out _ hCn))
        clear hCn hCi HCO HCB
        go_wp2
        go_ret
        exact ⟨congrArg (fun n => Ending.returned (Value.int .i64 n)) (show IntKind.i64.wrap p = p by rw [← HE.out.1]; exact m2), by rw [← HE.out.2.1, ← HE.out.2.2.1, ← HE.out.2.2.2]; exact HN.out⟩
end Go.Proofs.YthchfdobdghdoaaGreat
end
section

/-
  The walk of deal.Order's comparison, a closure over two boxes.
-/
namespace Go.Proofs.YthchfdobdghdoaaGreat
open Go Go.RowKit Go.Sg
theorem info_diV (x : Di) : (Tryz.prog.info? 144).map (·.size) = some (diV x).length := by kernel_rfl
set_option maxHeartbeats 1000000 in
set_option maxRecDepth 100000 in
theorem order1_any (pc pl b off n cap i j : Nat) (x y : Di) (w : World) (hi : i < n) (hj : j < n) (hn : n ≤ 1099511627776) (hf : w.cell? ⟨pc, 0, none⟩ = some (.func (.func 118) #[] #[]))
    (hl : w.cell? ⟨pl, 0, none⟩ = some (.slice (some ⟨b, off, none⟩) n cap)) (hx : w.rangeAt b (off + i * 2) (diV x)) (hy : w.rangeAt b (off + j * 2) (diV y)) (hpc : pc < w.heap.size) (hpl : pl < w.heap.size) (hb : b < w.heap.size) :
    Calls Tryz.prog 120 #[.int .i64 i, .int .i64 j, .pointer (some ⟨pc, 0, none⟩), .pointer (some ⟨pl, 0, none⟩)] w fun e w' => e = .returned (.int .i64 (cmpD x y)) ∧ Below w.heap.size w w' := by
  have ka := fun w' => againstD_any x y w'
  obtain ⟨C, hCi, hCo, hCF, hCL, hCX, hCY, hCA⟩ : ∃ C : World → Prop, C w.drew ∧ (∀ w', C w' → Below w.heap.size w w') ∧ (∀ w', C w' → w'.cell? ⟨pc, 0, none⟩ = some (.func (.func 118) #[] #[])) ∧ (∀ w', C w' → w'.cell? ⟨pl, 0, none⟩ = some (.slice (some ⟨b, off, none⟩) n cap))
      ∧ (∀ w', C w' → w'.rangeAt b (off + i * 2) (diV x)) ∧ (∀ w', C w' → w'.rangeAt b (off + j * 2) (diV y))
      ∧ (∀ w', C w' → Calls Tryz.prog 118 #[.agg (diV x).toArray, .agg (diV y).toArray] w' fun e w'' => e = .returned (.int .i64 (cmpD x y)) ∧ C w'') :=
    ⟨fun w' => Below w.heap.size w w', (Below.refl _ _).drew, fun _ h => h, fun w' h => (h.cell (p := ⟨pc, 0, none⟩) hpc).trans hf, fun w' h => (h.cell (p := ⟨pl, 0, none⟩) hpl).trans hl,
      fun w' h k u hu => (h.cell (p := ⟨b, off + i * 2 + k, none⟩) hb).trans (hx k u hu), fun w' h k u hu => (h.cell (p := ⟨b, off + j * 2 + k, none⟩) hb).trans (hy k u hu), fun w' h => cls_call (P := Tryz.prog) ka (Nat.le_refl _) h⟩
  have HCO := Lib.hid hCo
  have HCF := Lib.hid hCF
  have HCL := Lib.hid hCL
  have HCX := Lib.hid hCX
  have HCY := Lib.hid hCY
  have HCA := Lib.hid hCA
  have i0 : (0 : Int) ≤ (i : Int) := by omega
  have i1 : (i : Int) < (n : Int) := by omega
  have j0 : (0 : Int) ≤ (j : Int) := by omega
  have j1 : (j : Int) < (n : Int) := by omega
  clear hCo hCF hCL hCX hCY hCA ka hf hl hx hy hpc hpl hb
  generalize cmpD x y = r at *
  go_enter Tryz.func120, Tryz.ntmps120
  go_wp2_with fail
  refine wp_region_cls C (by kernel_rfl) (by kernel_rfl) hCi ?_
  with_reducible refine wpQuiet_step ?_
  intro K hK
  refine qs_load_cell (by rfl) 180 _ rfl ⟨pc, 0, none⟩ rfl (.func (.func 118) #[] #[]) (fun w hw => HCF.out w hw) Tryz.isAgg180 (hK _ ?_)
  clear hK K
  try simp only [Act.put, List.setIfInBounds_toArray, List.set_cons_zero, List.set_cons_succ]
  with_reducible refine wpQuiet_step ?_
  intro K hK
  refine qs_load_cell (by rfl) 153 _ rfl ⟨pl, 0, none⟩ rfl (.slice (some ⟨b, off, none⟩) n cap) (fun w hw => HCL.out w hw) Tryz.isAgg153 (hK _ ?_)
  clear hK K
  try simp only [Act.put, List.setIfInBounds_toArray, List.set_cons_zero, List.set_cons_succ]
  with_reducible refine wpQuiet_step ?_
  intro K hK
  go_simp
  first
    | (with_reducible refine hK _ ?_)
    | (with_reducible refine ⟨_, fun _ _ => rfl, hK _ ?_⟩)
  clear hK K
  try simp only [Act.put, List.setIfInBounds_toArray, List.set_cons_zero, List.set_cons_succ]
  with_reducible refine wpQuiet_step ?_
  intro K hK
  go_simp
  first
    | (with_reducible refine hK _ ?_)
    | (with_reducible refine ⟨_, fun _ _ => rfl, hK _ ?_⟩)
  clear hK K
  try simp only [Act.put, List.setIfInBounds_toArray, List.set_cons_zero, List.set_cons_succ]
  with_reducible refine wpQuiet_step ?_
  intro K hK
  refine qs_load_midD (by rfl) 144 (.tmp 10) rfl b (off + i * 2) rfl (diV x) _ (fun w hw => HCX.out w hw) Tryz.underlying144 rfl (info_diV _) (hK _ ?_)
  clear hK K
  try simp only [Act.put, List.setIfInBounds_toArray, List.set_cons_zero, List.set_cons_succ]
  with_reducible refine wpQuiet_step ?_
  intro K hK
  refine qs_load_cell (by rfl) 153 _ rfl ⟨pl, 0, none⟩ rfl (.slice (some ⟨b, off, none⟩) n cap) (fun w hw => HCL.out w hw) Tryz.isAgg153 (hK _ ?_)
  clear hK K
  try simp only [Act.put, List.setIfInBounds_toArray, List.set_cons_zero, List.set_cons_succ]
  with_reducible refine wpQuiet_step ?_
  intro K hK
  go_simp
  first
    | (with_reducible refine hK _ ?_)
    | (with_reducible refine ⟨_, fun _ _ => rfl, hK _ ?_⟩)
  clear hK K
  try simp only [Act.put, List.setIfInBounds_toArray, List.set_cons_zero, List.set_cons_succ]
  with_reducible refine wpQuiet_step ?_
  intro K hK
  go_simp
  first
    | (with_reducible refine hK _ ?_)
    | (with_reducible refine ⟨_, fun _ _ => rfl, hK _ ?_⟩)
  clear hK K
  try simp only [Act.put, List.setIfInBounds_toArray, List.set_cons_zero, List.set_cons_succ]
  with_reducible refine wpQuiet_step ?_
  intro K hK
  refine qs_load_midD (by rfl) 144 (.tmp 14) rfl b (off + j * 2) rfl (diV y) _ (fun w hw => HCY.out w hw) Tryz.underlying144 rfl (info_diV _) (hK _ ?_)
  clear hK K
  try simp only [Act.put, List.setIfInBounds_toArray, List.set_cons_zero, List.set_cons_succ]
  with_reducible refine wpQuiet_step ?_
  intro K hK
  go_simp
  with_reducible apply Exists.intro
  with_reducible refine ⟨fun _ hC => ?_, hK _ ?_⟩
  with_reducible exact HCA.out _ hC
  clear hK K
  try simp only [Act.put, List.setIfInBounds_toArray, List.set_cons_zero, List.set_cons_succ]
  with_reducible refine wpQuiet_step ?_
  intro K hK
  go_simp
  first
    | (with_reducible refine hK _ ?_)
    | (with_reducible refine ⟨_, fun _ _ => rfl, hK _ ?_⟩)
  clear hK K
  try simp only [Act.put, List.setIfInBounds_toArray, List.set_cons_zero, List.set_cons_succ]
  refine wpQuiet_nil ?_
  intro w8 hC8
  have HX := Lib.hid (HCO.out _ hC8)
  clear hC8 hCi HCO HCF HCL HCX HCY HCA
  go_wp2
  go_ret
  exact ⟨rfl, HX.out⟩
theorem cmpO_ok {w0 : World} {G pc pl b off cap : Nat} {l : List Di} (hn : l.length ≤ 1099511627776) (hf : w0.cell? ⟨pc, 0, none⟩ = some (.func (.func 118) #[] #[]))
    (hl : w0.cell? ⟨pl, 0, none⟩ = some (.slice (some ⟨b, off, none⟩) l.length cap)) (hr : w0.rangeAt b off (flatV diV l)) (hpc : pc < w0.heap.size) (hpl : pl < w0.heap.size) (hb : b < w0.heap.size) (gc : pc ≠ G) (gl : pl ≠ G) (gb : b ≠ G) :
    CmpOk Tryz.prog 120 #[.pointer (some ⟨pc, 0, none⟩), .pointer (some ⟨pl, 0, none⟩)] (fun i => 0 ≤ i ∧ i < (l.length : Int)) (ltO l) w0 G := by
  intro x y w hx hy hfr
  obtain ⟨i, rfl⟩ := Int.eq_ofNat_of_zero_le hx.1
  obtain ⟨j, rfl⟩ := Int.eq_ofNat_of_zero_le hy.1
  have hi : i < l.length := by omega
  have hj : j < l.length := by omega
  have hcl : ∀ (k o : Nat), k < w0.heap.size → k ≠ G → w.cell? ⟨k, o, none⟩ = w0.cell? ⟨k, o, none⟩ := fun k o h1 h2 => World.cell?_of_block (a := ⟨k, o, none⟩) (hfr.block k h1 h2)
  refine (order1_any pc pl b off l.length cap i j l[i] l[j] w hi hj hn ((hcl pc 0 hpc gc).trans hf) ((hcl pl 0 hpl gl).trans hl) (fun k u hu => (hcl b _ hb gb).trans (range_flat diV_k hr hi k u hu)) (fun k u hu => (hcl b _ hb gb).trans (range_flat diV_k hr hj k u hu)) (Nat.lt_of_lt_of_le hpc hfr.size) (Nat.lt_of_lt_of_le hpl hfr.size) (Nat.lt_of_lt_of_le hb hfr.size)).mono ?_
  rintro e w' ⟨rfl, hbw⟩
  refine ⟨_, rfl, ?_, hbw⟩
  rw [cmpD_lt]
  unfold ltO getD'
  simp [List.getD_eq_getElem?_getD, List.getElem?_eq_getElem hi, List.getElem?_eq_getElem hj]
end Go.Proofs.YthchfdobdghdoaaGreat
end
