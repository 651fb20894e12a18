/-
  Joined texts: StrJ, StrK, StrM, StrN, StrO.
-/
import Derived.Test.YthchfdobdghdoaaGreatHaw
set_option linter.unusedVariables false
set_option linter.unusedSimpArgs false
set_option linter.unusedSectionVars false
set_option linter.unnecessarySimpa false
section

/-
  The walk of a stable sort's blocks: insertion.
-/
namespace Go.Sg.Rws
open Go Go.RowKit Go.Sg
/-- What is asked of a comparison: in every world that the sort passes through. -/
def CmpOk (P : Program) (g : Nat) (lb : Array Value) (S : Rt → Prop) (lt : Rt → Rt → Bool) (w0 : World) (G : Nat) : Prop :=
  ∀ (x y : Rt) (w : World), S x → S y → MFrame (fun i => i = G) w0 w → Calls P g (#[.agg (rtV x).toArray, .agg (rtV y).toArray] ++ lb) w fun e w' => ∃ c : Int, e = .returned (.int .i64 c) ∧ decide (c < 0) = lt x y ∧ Below w.heap.size w w'
/-- A call that puts R in order. -/
def SortPost (le : Rt → Rt → Prop) (R : List Rt) (Q : List Rt → World → Prop) (e : Ending) (w' : World) : Prop := e = .returned (.tuple #[]) ∧ ∃ T, T.Perm R ∧ T.Pairwise le ∧ Q T w'
end Go.Sg.Rws
namespace Go.Proofs.YthchfdobdghdoaaGreat.Rws
open Go Go.RowKit Go.Sg Go.Sg.Rws
variable {w0 w : World} {G : Nat} {tl : List Value} {S : Rt → Prop} {lt : Rt → Rt → Bool} {le : Rt → Rt → Prop}

set_option maxHeartbeats 4000000 in
set_option maxRecDepth 100000 in
theorem insertion_any (tr : ∀ x y z, le x y → le y z → le x z) (A R C : List Rt) (n cap : Nat) (a b : Int) (hA : (A.length : Int) = a) (hR : a + R.length = b) (hn : b + C.length = n) (hc : n ≤ cap) (hcap : n ≤ 1099511627776)
    (hS : ∀ x ∈ R, S x) (hF : R.Pairwise (Fit lt le)) (hcmp : CmpOk Tryz.prog 92 #[] S lt w0 G) (w : World) (h : RwR w0 G tl (A ++ R ++ C) w) :
    Calls Tryz.prog 115 #[.slice (some ⟨G, 0, none⟩) n cap, .int .i64 a, .int .i64 b, .func (.func 92) #[] #[]] w (SortPost le R (fun T w' => RwR w0 G tl (A ++ T ++ C) w')) := by
  have hab : 0 ≤ a := by omega
  have hbn : b ≤ n := by omega
  have HCMP := Lib.hid hcmp
  by_cases h0 : R = []
  · subst h0
    have hba : b = a := by simpa using hR.symm
    have HX := Lib.hid h
    have d : decide (a + 1 < b) = false := decide_eq_false (by omega)
    clear h hA hn hF hS hR hcmp
    subst hba
    go_enter Tryz.func115, Tryz.ntmps115
    go_wp2_with fail
    go_loop [8] (fun i => i = .int .i64 (b + 1)) (fun _ => 0)
    case atStart => rfl
    case round =>
      subst hrel
      go_wp2
      go_end0
      exact ⟨rfl, [], List.Perm.refl _, List.Pairwise.nil, by simpa using HX.out⟩
  obtain ⟨r0, R', hR0⟩ := List.exists_cons_of_ne_nil h0
  have HX0 : Hid (∃ U V T : List Rt, R = U ++ V ∧ U.length = 1 ∧ T.Perm U ∧ T.Pairwise le ∧ RwR w0 G tl (A ++ T ++ V ++ C) w) := Lib.hid ⟨[r0], R', [r0], hR0, rfl, List.Perm.refl _, List.pairwise_singleton _ _, by rw [hR0] at h; simpa using h⟩
  have HA := Lib.hid hA
  have HR := Lib.hid hR
  have HN := Lib.hid hn
  have HS := Lib.hid hS
  have HF := Lib.hid hF
  have hlR : 1 ≤ R.length := by rw [hR0]; simp
  have hab1 : a + 1 ≤ b := by omega
  clear h hA hR hn hS hF hR0 h0 hlR hcmp
  go_enter Tryz.func115, Tryz.ntmps115
  go_wp2_with fail
  go_loopw [8, 9] (fun i _ wr => ∃ m : Nat, i = .int .i64 (a + m) ∧ 1 ≤ m ∧ a + m ≤ b ∧ Hid (∃ U V T : List Rt, R = U ++ V ∧ U.length = m ∧ T.Perm U ∧ T.Pairwise le ∧ RwR w0 G tl (A ++ T ++ V ++ C) wr)) (fun i _ _ => (b - intOf i).toNat)
  case atStart => exact ⟨1, rfl, Nat.le_refl _, by omega, HX0⟩
  case round =>
    obtain ⟨m, rfl, hm1, hmb, HX⟩ := hrel
    by_cases hlt : a + (m : Int) < b
    · have d : decide (a + (m : Int) < b) = true := decide_eq_true hlt
      obtain ⟨U, V, T, e1, e2, e3, e4, e5⟩ := HX.out
      have hV : V ≠ [] := fun e => by have := HR.out; have := congrArg List.length e1; rw [e] at this; simp at this; omega
      obtain ⟨y, V', rfl⟩ := List.exists_cons_of_ne_nil hV
      have HY : Hid (∃ T1 T2 : List Rt, T = T1 ++ T2 ∧ T1.length = m ∧ (∀ s ∈ T2, le y s) ∧ RwR w0 G tl (A ++ T1 ++ y :: (T2 ++ V') ++ C) wr) := Lib.hid ⟨T, [], by simp, by rw [e3.length_eq, e2], fun s hs => absurd hs List.not_mem_nil, by simpa using e5⟩
      have HFT : Hid (∀ x ∈ T, Fit lt le x y) := Lib.hid fun x hx => by
        have hf := HF.out
        rw [e1] at hf
        exact (List.pairwise_append.1 hf).2.2 x (e3.mem_iff.1 hx) y List.mem_cons_self
      have HST : Hid (S y ∧ ∀ x ∈ T, S x) := Lib.hid ⟨HS.out y (by rw [e1]; simp), fun x hx => HS.out x (by rw [e1]; exact List.mem_append_left _ (e3.mem_iff.1 hx))⟩
      have HTP := Lib.hid e4
      have HEND : Hid (∀ (T1 T2 : List Rt) (w' : World), T = T1 ++ T2 → (∀ s ∈ T2, le y s) → (T1 = [] ∨ ∃ x, T1.getLast? = some x ∧ le x y) → RwR w0 G tl (A ++ T1 ++ y :: (T2 ++ V') ++ C) w' → ∃ U V T : List Rt, R = U ++ V ∧ U.length = m + 1 ∧ T.Perm U ∧ T.Pairwise le ∧ RwR w0 G tl (A ++ T ++ V ++ C) w') := Lib.hid fun T1 T2 w' h1 h2 h3 h4 => by
        subst h1
        exact ⟨U ++ [y], V', T1 ++ y :: T2, by rw [e1]; simp, by simp [e2], perm_ins e3, ins_stop tr e4 h2 h3, by simpa using h4⟩
      have HLEN : Hid (∀ (T1 T2 : List Rt), T = T1 ++ T2 → (A ++ T1 ++ y :: (T2 ++ V') ++ C).length = n) := Lib.hid fun T1 T2 h => by
        have h1 := HA.out; have h2 := HR.out; have h3 := HN.out
        have h4 := congrArg List.length e1
        have h5 := e3.length_eq
        rw [h] at h5
        simp only [List.length_append, List.length_cons] at h4 h5 ⊢
        omega
      clear e1 e2 e3 e4 e5 HX hV HX0
      go_wp2_with fail
      go_loopw [9] (fun jv wr => ∃ t : Nat, jv = .int .i64 (a + t) ∧ t ≤ m ∧ Hid (∃ T1 T2 : List Rt, T = T1 ++ T2 ∧ T1.length = t ∧ (∀ s ∈ T2, le y s) ∧ RwR w0 G tl (A ++ T1 ++ y :: (T2 ++ V') ++ C) wr)) (fun jv _ => (intOf jv - a).toNat)
      case atStart => exact ⟨m, rfl, Nat.le_refl _, HY⟩
      case round =>
        obtain ⟨t, rfl, htm, HZ⟩ := hrel
        clear HY
        by_cases ht0 : t = 0
        · subst ht0
          have d1 : decide (a < a + ((0 : Nat) : Int)) = false := decide_eq_false (by omega)
          have d2 : decide (a < a) = false := decide_eq_false (by omega)
          have HE : Hid (∀ n : Nat, ∃ U V T : List Rt, R = U ++ V ∧ U.length = m + 1 ∧ T.Perm U ∧ T.Pairwise le ∧ RwR w0 G tl (A ++ T ++ V ++ C) (wr.drewN n)) := Lib.hid (fun n => by
            obtain ⟨T1, T2, f1, f2, f3, f4⟩ := HZ.out
            exact HEND.out T1 T2 _ f1 f3 (.inl (List.length_eq_zero_iff.1 f2)) (f4.drewN n))
          clear HZ
          go_wp2_with fail
          go_quiet (fail)
          go_wp2
          go_roundw
          case rel => exact ⟨m + 1, by go_num, by omega, by omega, Lib.hid (HE.out _)⟩
          case measure => simp [intOf]; omega
        · obtain ⟨t, rfl⟩ : ∃ s, t = s + 1 := ⟨t - 1, by omega⟩
          obtain ⟨T1, T2, f1, f2, f3, f4⟩ := HZ.out
          obtain ⟨T0, x, rfl⟩ := split_last (l := T1) (fun e => by rw [e] at f2; simp at f2)
          have hl0 : T0.length = t := by simpa using f2
          obtain ⟨J, hJ⟩ : ∃ J : Nat, a + (t : Int) = J := ⟨(a + t).toNat, by omega⟩
          have hJ1 : a + ((t + 1 : Nat) : Int) = (J : Int) + 1 := by omega
          have hAJ : A.length + t = J := by have := HA.out; omega
          have hx : (A ++ (T0 ++ [x]) ++ y :: (T2 ++ V') ++ C)[J]? = some x := by
            have e : A ++ (T0 ++ [x]) ++ y :: (T2 ++ V') ++ C = (A ++ T0) ++ x :: (y :: (T2 ++ V') ++ C) := by simp only [List.append_assoc, List.cons_append, List.nil_append]
            rw [e]
            exact get_mid _ _ _ _ (by rw [List.length_append]; omega)
          have hy : (A ++ (T0 ++ [x]) ++ y :: (T2 ++ V') ++ C)[J + 1]? = some y := by
            have e : A ++ (T0 ++ [x]) ++ y :: (T2 ++ V') ++ C = (A ++ (T0 ++ [x])) ++ y :: (T2 ++ V' ++ C) := by simp only [List.append_assoc, List.cons_append, List.nil_append]
            rw [e]
            exact get_mid _ _ _ _ (by simp only [List.length_append, List.length_cons, List.length_nil]; omega)
          have hsw : swL (A ++ (T0 ++ [x]) ++ y :: (T2 ++ V') ++ C) (J + 1) J = A ++ T0 ++ y :: (x :: T2 ++ V') ++ C := by
            rw [swL_comm]
            have e : A ++ (T0 ++ [x]) ++ y :: (T2 ++ V') ++ C = (A ++ T0) ++ x :: y :: (T2 ++ V' ++ C) := by simp only [List.append_assoc, List.cons_append, List.nil_append]
            rw [e, swL_next _ _ _ _ J (by rw [List.length_append]; omega)]
            simp only [List.append_assoc, List.cons_append, List.nil_append]
          have hlen := HLEN.out _ _ f1
          have hJn : J + 1 < n := by
            rw [← hlen]
            exact (List.getElem?_eq_some_iff.1 hy).1
          have hxT : x ∈ T := by rw [f1]; simp
          have hfit := HFT.out x hxT
          have HNO : Hid (lt y x = false → ∀ w', RwR w0 G tl (A ++ (T0 ++ [x]) ++ y :: (T2 ++ V') ++ C) w' → ∃ U V T : List Rt, R = U ++ V ∧ U.length = m + 1 ∧ T.Perm U ∧ T.Pairwise le ∧ RwR w0 G tl (A ++ T ++ V ++ C) w') := Lib.hid fun e w' h => HEND.out (T0 ++ [x]) T2 w' f1 f3 (.inr ⟨x, by simp, hfit.2 e⟩) h
          have HYES : Hid (lt y x = true → ∀ w', RwR w0 G tl (A ++ T0 ++ y :: (x :: T2 ++ V') ++ C) w' → ∃ T1 T2 : List Rt, T = T1 ++ T2 ∧ T1.length = t ∧ (∀ s ∈ T2, le y s) ∧ RwR w0 G tl (A ++ T1 ++ y :: (T2 ++ V') ++ C) w') := Lib.hid fun e w' h => ⟨T0, x :: T2, by rw [f1]; simp, hl0, fun s hs => by
            rcases List.mem_cons.1 hs with rfl | hs
            · exact hfit.1 e
            · exact f3 s hs, h⟩
          have hSx := HST.out.2 x hxT
          have hSy := HST.out.1
          have K : Hid (∀ w', RwR w0 G tl (A ++ (T0 ++ [x]) ++ y :: (T2 ++ V') ++ C) w' → Calls Tryz.prog 92 #[.agg #[.int .u64 y.1, .int .u64 y.2.1, .int .i64 y.2.2], .agg #[.int .u64 x.1, .int .u64 x.2.1, .int .i64 x.2.2]] w' fun e w'' => ∃ c : Int, e = .returned (.int .i64 c) ∧ decide (c < 0) = lt y x ∧ Below w'.heap.size w' w'') := Lib.hid fun w' h => by
            have := HCMP.out y x w' hSy hSx h.fr
            rwa [Array.append_empty] at this
          have HCELL : Hid (∀ w', RwR w0 G tl (A ++ (T0 ++ [x]) ++ y :: (T2 ++ V') ++ C) w' → (w'.cell? ⟨G, J * 3, none⟩ = some (.int .u64 x.1) ∧ w'.cell? ⟨G, J * 3 + 1, none⟩ = some (.int .u64 x.2.1) ∧ w'.cell? ⟨G, J * 3 + 2, none⟩ = some (.int .i64 x.2.2)) ∧ w'.cell? ⟨G, (J + 1) * 3, none⟩ = some (.int .u64 y.1) ∧ w'.cell? ⟨G, (J + 1) * 3 + 1, none⟩ = some (.int .u64 y.2.1) ∧ w'.cell? ⟨G, (J + 1) * 3 + 2, none⟩ = some (.int .i64 y.2.2)) := Lib.hid fun w' h => by
            have r1 := h.at rtV_k hx
            have r2 := h.at rtV_k hy
            exact ⟨⟨r1 0 _ rfl, r1 1 _ rfl, r1 2 _ rfl⟩, r2 0 _ rfl, r2 1 _ rfl, r2 2 _ rfl⟩
          have HFREE : Hid (∀ w', RwR w0 G tl (A ++ (T0 ++ [x]) ++ y :: (T2 ++ V') ++ C) w' → (w'.frozen? ⟨G, J * 3, none⟩ = false ∧ w'.frozen? ⟨G, J * 3 + 1, none⟩ = false ∧ w'.frozen? ⟨G, J * 3 + 2, none⟩ = false) ∧ w'.frozen? ⟨G, (J + 1) * 3, none⟩ = false ∧ w'.frozen? ⟨G, (J + 1) * 3 + 1, none⟩ = false ∧ w'.frozen? ⟨G, (J + 1) * 3 + 2, none⟩ = false) := Lib.hid fun w' h => ⟨⟨h.blk.free _, h.blk.free _, h.blk.free _⟩, h.blk.free _, h.blk.free _, h.blk.free _⟩
          have HSW : Hid (∀ w', RwR w0 G tl (A ++ (T0 ++ [x]) ++ y :: (T2 ++ V') ++ C) w' → RwR w0 G tl (A ++ T0 ++ y :: (x :: T2 ++ V') ++ C) ((w'.setCells G ((J + 1) * 3) (rtV x)).setCells G (J * 3) (rtV y))) := Lib.hid fun w' h => by
            have := h.swap rtV_k hy hx
            rwa [hsw] at this
          have iJ0 : (0 : Int) ≤ (J : Int) := by omega
          have iJ1 : (J : Int) < (n : Int) := by omega
          have iK0 : (0 : Int) ≤ (J : Int) + 1 := by omega
          have iK1 : (J : Int) + 1 < (n : Int) := by omega
          have wJ := IntWalk.i64_in (J : Int) (by omega)
          have wK := IntWalk.i64_in ((J : Int) + 1) (by omega)
          have nJ : ((J : Int) + 1).toNat = J + 1 := by omega
          have dj : decide (a < (J : Int) + 1) = true := decide_eq_true (by omega)
          have hX1 := f4.drew
          have hc1 := HCELL.out _ hX1
          have HJ : Hid (a + (t : Int) = J) := Lib.hid hJ
          rw [hJ1]
          clear f1 f2 f3 f4 hx hy hsw hlen hfit hxT hSx hSy hl0 hAJ HZ hJ hJ1 HEND HLEN HFT HST
          cases hlx : lt y x
          all_goals
            rw [hlx] at K HNO HYES
            clear hlx
            go_wp2_with fail
            go_region_held3 (fun w' => (w'.cell? ⟨G, J * 3, none⟩ = some (.int .u64 x.1) ∧ w'.cell? ⟨G, J * 3 + 1, none⟩ = some (.int .u64 x.2.1) ∧ w'.cell? ⟨G, J * 3 + 2, none⟩ = some (.int .i64 x.2.2)) ∧ w'.cell? ⟨G, (J + 1) * 3, none⟩ = some (.int .u64 y.1) ∧ w'.cell? ⟨G, (J + 1) * 3 + 1, none⟩ = some (.int .u64 y.2.1) ∧ w'.cell? ⟨G, (J + 1) * 3 + 2, none⟩ = some (.int .i64 y.2.2)) (first | exact HCELL.out _ (by assumption)) (first
              | (go_at_call 92; refine (K.out _ hX1).mono ?_; rintro e w2 ⟨c, rfl, hcd, hb2⟩; have hX2 := hX1.below hb2))
          · have HE := Lib.hid (HNO.out (by trivial) _ hX2)
            clear hX1 hX2 hc1 HNO HYES K HCELL HFREE HSW hb2
            go_wp2
            go_roundw
            case rel => exact ⟨m + 1, by go_num, by omega, by omega, HE⟩
            case measure => simp [intOf]; omega
          · obtain ⟨⟨x0, x1, x2⟩, y0, y1, y2⟩ := HCELL.out _ hX2
            obtain ⟨⟨fx0, fx1, fx2⟩, fy0, fy1, fy2⟩ := HFREE.out _ hX2
            have HD := Lib.hid (HYES.out (by trivial) _ (HSW.out _ hX2).drew)
            clear hX1 hX2 hc1 HNO HYES K HCELL HFREE HSW hb2
            go_wp2_with fail
            go_region_law (fail)
            all_goals
              clear x0 x1 x2 y0 y1 y2 fx0 fx1 fx2 fy0 fy1 fy2
              go_wp2
              go_roundw
              case rel => exact ⟨t, by rw [HJ.out], by omega, HD⟩
              case measure => have := HJ.out; simp [intOf]; omega
    · have HE : Hid (∃ T : List Rt, T.Perm R ∧ T.Pairwise le ∧ RwR w0 G tl (A ++ T ++ C) wr) := Lib.hid (by
        obtain ⟨U, V, T, e1, e2, e3, e4, e5⟩ := HX.out
        have hV : V = [] := List.length_eq_zero_iff.1 (by have := HR.out; have := congrArg List.length e1; rw [List.length_append] at this; omega)
        subst hV
        rw [List.append_nil] at e1 e5
        subst e1
        exact ⟨T, e3, e4, e5⟩)
      clear HX HX0
      go_wp2
      go_end0
      obtain ⟨T, h1, h2, h3⟩ := HE.out
      exact ⟨rfl, T, h1, h2, by simpa using h3⟩
end Go.Proofs.YthchfdobdghdoaaGreat.Rws
end
section

/-
  The walk of a stable sort's merges: one element goes into a block.
-/
namespace Go.Proofs.YthchfdobdghdoaaGreat.Rws
open Go Go.RowKit Go.Sg Go.Sg.Rws
variable {w0 w : World} {G : Nat} {tl : List Value} {S : Rt → Prop} {lt : Rt → Rt → Bool} {le : Rt → Rt → Prop}
/-- A call that merges U and V. -/
def MrgPost (le : Rt → Rt → Prop) (U V : List Rt) (Q : List Rt → World → Prop) (e : Ending) (w' : World) : Prop := e = .returned (.tuple #[]) ∧ ∃ T, Mrg le U V T ∧ Q T w'

set_option maxHeartbeats 8000000 in
set_option maxRecDepth 100000 in
theorem merge_left (tr : ∀ x y z, le x y → le y z → le x z) (A : List Rt) (x : Rt) (V C : List Rt) (n cap a b : Nat) (hA : A.length = a) (hV : a + 1 + V.length = b) (hn : b + C.length = n) (hV0 : 0 < V.length) (hc : n ≤ cap) (hcap : n ≤ 1099511627776)
    (hSx : S x) (hSV : ∀ y ∈ V, S y) (hF : ∀ y ∈ V, Fit lt le x y) (hpV : V.Pairwise le) (hcmp : CmpOk Tryz.prog 92 #[] S lt w0 G) (w : World) (h : RwR w0 G tl (A ++ [x] ++ V ++ C) w) :
    Calls Tryz.prog 116 #[.slice (some ⟨G, 0, none⟩) n cap, .int .i64 (a : Int), .int .i64 ((a : Int) + 1), .int .i64 (b : Int), .func (.func 92) #[] #[]] w (MrgPost le [x] V (fun T w' => RwR w0 G tl (A ++ T ++ C) w')) := by
  have hbn : b ≤ n := by omega
  have hab1 : a + 1 < b := by omega
  have HCMP := Lib.hid hcmp
  have HA := Lib.hid hA
  have HV := Lib.hid hV
  have HSX := Lib.hid hSx
  have HSV := Lib.hid hSV
  have HF := Lib.hid hF
  have HPV := Lib.hid hpV
  have HX0 : Hid (RwR w0 G tl (A ++ [x] ++ V ++ C) w) := Lib.hid h
  have d0 : (a : Int) + 1 - (a : Int) = 1 := by omega
  clear hcmp hA hV hn hSx hSV hF hpV h hV0
  go_enter Tryz.func116, Tryz.ntmps116
  go_wp2_with fail
  go_loopw [10, 11, 12] (fun iv jv _ wr => ∃ i j : Nat, iv = .int .i64 i ∧ jv = .int .i64 j ∧ a + 1 ≤ i ∧ i ≤ j ∧ j ≤ b ∧ Hid ((∀ y ∈ V.take (i - (a + 1)), le y x) ∧ (∀ y ∈ V.drop (j - (a + 1)), le x y)) ∧ Hid (RwR w0 G tl (A ++ [x] ++ V ++ C) wr)) (fun iv jv _ _ => (intOf jv - intOf iv).toNat)
  case atStart =>
    refine ⟨a + 1, b, by go_num, rfl, by omega, by omega, by omega, Lib.hid ⟨?_, ?_⟩, HX0⟩
    · rw [Nat.sub_self, List.take_zero]; intro y hy; cases hy
    · rw [List.drop_of_length_le (by have := HV.out; omega)]; intro y hy; cases hy
  case round =>
    obtain ⟨i, j, rfl, rfl, hai, hij, hjb, HP, HX⟩ := hrel
    clear HX0
    by_cases hlt : i < j
    · have d : decide ((i : Int) < (j : Int)) = true := decide_eq_true (by omega)
      have d' : decide (i < j) = true := decide_eq_true hlt
      obtain ⟨m, hm⟩ : ∃ m : Nat, ((i : Int) + (j : Int)) / 2 = m := ⟨(i + j) / 2, by omega⟩
      have hm1 : i ≤ m := by omega
      have hm2 : m < j := by omega
      have hsV : m - (a + 1) < V.length := by have := HV.out; omega
      have hu : (A ++ [x] ++ V ++ C)[m]? = some V[m - (a + 1)] := get_in _ _ _ _ hsV m (by rw [List.length_append, HA.out]; simp; omega)
      have hv : (A ++ [x] ++ V ++ C)[a]? = some x := by
        have e : A ++ [x] ++ V ++ C = A ++ x :: (V ++ C) := by simp only [List.append_assoc, List.cons_append, List.nil_append]
        rw [e]
        exact get_mid _ _ _ _ HA.out
      have hmV := List.getElem_mem hsV
      have HYES : Hid (lt V[m - (a + 1)] x = true → (∀ y ∈ V.take (m + 1 - (a + 1)), le y x)) := Lib.hid fun e => by
        rw [show m + 1 - (a + 1) = m - (a + 1) + 1 by omega]
        exact take_le tr HPV.out hsV ((HF.out _ hmV).1 e)
      have HNO : Hid (lt V[m - (a + 1)] x = false → (∀ y ∈ V.drop (m - (a + 1)), le x y)) := Lib.hid fun e => drop_ge tr HPV.out hsV ((HF.out _ hmV).2 e)
      have hSm := HSV.out _ hmV
      have hSx := HSX.out
      generalize V[m - (a + 1)] = u at *
      have K : Hid (∀ w', RwR w0 G tl (A ++ [x] ++ V ++ C) w' → Calls Tryz.prog 92 #[.agg #[.int .u64 u.1, .int .u64 u.2.1, .int .i64 u.2.2], .agg #[.int .u64 x.1, .int .u64 x.2.1, .int .i64 x.2.2]] w' fun e w'' => ∃ c : Int, e = .returned (.int .i64 c) ∧ decide (c < 0) = lt u x ∧ Below w'.heap.size w' w'') := Lib.hid fun w' h => by
        have := HCMP.out u x w' hSm hSx h.fr
        rwa [Array.append_empty] at this
      have HCELL : Hid (∀ w', RwR w0 G tl (A ++ [x] ++ V ++ C) w' → (w'.cell? ⟨G, m * 3, none⟩ = some (.int .u64 u.1) ∧ w'.cell? ⟨G, m * 3 + 1, none⟩ = some (.int .u64 u.2.1) ∧ w'.cell? ⟨G, m * 3 + 2, none⟩ = some (.int .i64 u.2.2)) ∧ (w'.cell? ⟨G, a * 3, none⟩ = some (.int .u64 x.1) ∧ w'.cell? ⟨G, a * 3 + 1, none⟩ = some (.int .u64 x.2.1) ∧ w'.cell? ⟨G, a * 3 + 2, none⟩ = some (.int .i64 x.2.2))) := Lib.hid fun w' h => by
        have r1 := h.at rtV_k hu
        have r2 := h.at rtV_k hv
        exact ⟨⟨r1 0 _ rfl, r1 1 _ rfl, r1 2 _ rfl⟩, r2 0 _ rfl, r2 1 _ rfl, r2 2 _ rfl⟩
      have iM0 : (0 : Int) ≤ (m : Int) := by omega
      have iM1 : (m : Int) < (n : Int) := by omega
      have iA0 : (0 : Int) ≤ (a : Int) := by omega
      have iA1 : (a : Int) < (n : Int) := by omega
      have hX1 := HX.out.drew
      have hc1 := HCELL.out _ hX1
      go_upto_region 5 with fail
      clear hm hu hv hmV hSm hSx hsV
      cases hlx : lt u x
      all_goals
        rw [hlx] at K HNO HYES
        clear hlx
        go_wp2_with fail
        go_region_held3 (fun w' => (w'.cell? ⟨G, m * 3, none⟩ = some (.int .u64 u.1) ∧ w'.cell? ⟨G, m * 3 + 1, none⟩ = some (.int .u64 u.2.1) ∧ w'.cell? ⟨G, m * 3 + 2, none⟩ = some (.int .i64 u.2.2)) ∧ (w'.cell? ⟨G, a * 3, none⟩ = some (.int .u64 x.1) ∧ w'.cell? ⟨G, a * 3 + 1, none⟩ = some (.int .u64 x.2.1) ∧ w'.cell? ⟨G, a * 3 + 2, none⟩ = some (.int .i64 x.2.2))) (first | exact HCELL.out _ (by assumption)) (first
          | (go_at_call 92; refine (K.out _ hX1).mono ?_; rintro e w2 ⟨c, rfl, hcd, hb2⟩; have hX2 := hX1.below hb2))
      · have HN := Lib.hid (HNO.out (by trivial))
        have HX2 := Lib.hid hX2
        clear hX1 hX2 hc1 HNO HYES K HCELL hb2 HX
        go_wp2
        go_roundw
        case rel => exact ⟨i, m, rfl, rfl, hai, hm1, by omega, Lib.hid ⟨HP.out.1, HN.out⟩, HX2⟩
        case measure => simp [intOf]; omega
      · have HN := Lib.hid (HYES.out (by trivial))
        have HX2 := Lib.hid hX2
        clear hX1 hX2 hc1 HNO HYES K HCELL hb2 HX
        go_wp2
        go_roundw
        case rel => exact ⟨m + 1, j, by go_num, rfl, by omega, by omega, hjb, Lib.hid ⟨HN.out, HP.out.2⟩, HX2⟩
        case measure => simp [intOf]; omega
    · obtain rfl : i = j := by omega
      obtain ⟨s, rfl⟩ : ∃ s, i = a + 1 + s := ⟨i - (a + 1), by omega⟩
      have hsV : s ≤ V.length := by have := HV.out; omega
      rw [show a + 1 + s - (a + 1) = s by omega] at HP
      have hVs : V = V.take s ++ V.drop s := (List.take_append_drop _ _).symm
      have hl1 : (V.take s).length = s := by rw [List.length_take]; omega
      generalize V.take s = V1 at *
      generalize V.drop s = V2 at *
      subst hVs
      have HM : Hid (Mrg le [x] (V1 ++ V2) (V1 ++ x :: V2)) := Lib.hid (Mrg.in_right HPV.out HP.out.1 HP.out.2)
      have HX0 : Hid (RwR w0 G tl (A ++ (V1.take 0 ++ x :: V1.drop 0) ++ (V2 ++ C)) wr) := Lib.hid (by simpa using HX.out)
      obtain ⟨I, hI⟩ : ∃ I, a + 1 + s = I := ⟨_, rfl⟩
      rw [hI] at hai hjb ⊢
      have d : decide ((I : Int) < (I : Int)) = false := decide_eq_false (by omega)
      have HL1 := Lib.hid hl1
      clear HP HX HPV HF HSV HSX hl1 HV hsV
      go_wp2_with fail
      go_loopw [13] (fun kv wr => ∃ t : Nat, t ≤ s ∧ kv = .int .i64 ((a + t : Nat) : Int) ∧ Hid (RwR w0 G tl (A ++ (V1.take t ++ x :: V1.drop t) ++ (V2 ++ C)) wr)) (fun kv _ => (((a + s : Nat) : Int) - intOf kv).toNat)
      case atStart => exact ⟨0, by omega, rfl, HX0⟩
      case round =>
        obtain ⟨t, hts, rfl, HX⟩ := hrel
        clear HX0
        by_cases hlt2 : t < s
        · have ht1 : t < V1.length := by rw [HL1.out]; exact hlt2
          obtain ⟨hx, hy⟩ := get_up A x V1 (V2 ++ C) t ht1 (a + t) (by rw [HA.out])
          have hsw := swL_up A x V1 (V2 ++ C) t ht1 (a + t) (by rw [HA.out])
          have HSW : Hid (∀ w', RwR w0 G tl (A ++ (V1.take t ++ x :: V1.drop t) ++ (V2 ++ C)) w' → RwR w0 G tl (A ++ (V1.take (t + 1) ++ x :: V1.drop (t + 1)) ++ (V2 ++ C)) ((w'.setCells G ((a + t) * 3) (rtV V1[t])).setCells G ((a + t + 1) * 3) (rtV x))) := Lib.hid fun w' h => by
            have := h.swap rtV_k hx hy
            rwa [hsw] at this
          generalize V1[t] = y at *
          obtain ⟨J, hJ⟩ : ∃ J, a + t = J := ⟨_, rfl⟩
          rw [hJ] at hx hy HSW ⊢
          have HCELL : Hid (∀ w', RwR w0 G tl (A ++ (V1.take t ++ x :: V1.drop t) ++ (V2 ++ C)) w' → (w'.cell? ⟨G, J * 3, none⟩ = some (.int .u64 x.1) ∧ w'.cell? ⟨G, J * 3 + 1, none⟩ = some (.int .u64 x.2.1) ∧ w'.cell? ⟨G, J * 3 + 2, none⟩ = some (.int .i64 x.2.2)) ∧ (w'.cell? ⟨G, (J + 1) * 3, none⟩ = some (.int .u64 y.1) ∧ w'.cell? ⟨G, (J + 1) * 3 + 1, none⟩ = some (.int .u64 y.2.1) ∧ w'.cell? ⟨G, (J + 1) * 3 + 2, none⟩ = some (.int .i64 y.2.2))) := Lib.hid fun w' h => by
            have r1 := h.at rtV_k hx
            have r2 := h.at rtV_k hy
            exact ⟨⟨r1 0 _ rfl, r1 1 _ rfl, r1 2 _ rfl⟩, r2 0 _ rfl, r2 1 _ rfl, r2 2 _ rfl⟩
          have HFREE : Hid (∀ w', RwR w0 G tl (A ++ (V1.take t ++ x :: V1.drop t) ++ (V2 ++ C)) w' → (w'.frozen? ⟨G, J * 3, none⟩ = false ∧ w'.frozen? ⟨G, J * 3 + 1, none⟩ = false ∧ w'.frozen? ⟨G, J * 3 + 2, none⟩ = false) ∧ (w'.frozen? ⟨G, (J + 1) * 3, none⟩ = false ∧ w'.frozen? ⟨G, (J + 1) * 3 + 1, none⟩ = false ∧ w'.frozen? ⟨G, (J + 1) * 3 + 2, none⟩ = false)) := Lib.hid fun w' h => ⟨⟨h.blk.free _, h.blk.free _, h.blk.free _⟩, h.blk.free _, h.blk.free _, h.blk.free _⟩
          obtain ⟨⟨x0, x1, x2⟩, y0, y1, y2⟩ := HCELL.out _ HX.out
          obtain ⟨⟨fx0, fx1, fx2⟩, fy0, fy1, fy2⟩ := HFREE.out _ HX.out
          have d2 : decide ((J : Int) < (I : Int) - 1) = true := decide_eq_true (by omega)
          have iJ0 : (0 : Int) ≤ (J : Int) := by omega
          have iJ1 : (J : Int) < (n : Int) := by omega
          have iK0 : (0 : Int) ≤ (J : Int) + 1 := by omega
          have iK1 : (J : Int) + 1 < (n : Int) := by omega
          have wK := IntWalk.i64_in ((J : Int) + 1) (by omega)
          have nJ : ((J : Int) + 1).toNat = J + 1 := by omega
          have HD := Lib.hid (HSW.out _ HX.out).drew
          have HJ := Lib.hid hJ
          clear hx hy hsw HSW HCELL HFREE HX hJ
          go_wp2_with fail
          go_region_law (fail)
          all_goals
            clear x0 x1 x2 y0 y1 y2 fx0 fx1 fx2 fy0 fy1 fy2
            go_wp2
            go_roundw
            case rel => exact ⟨t + 1, by omega, by have := HJ.out; congr 1; omega, HD⟩
            case measure => have := HJ.out; simp [intOf]; omega
        · obtain rfl : t = s := by omega
          have HE : Hid (RwR w0 G tl (A ++ (V1 ++ x :: V2) ++ C) wr) := Lib.hid (by
            have h := HX.out
            rw [List.take_of_length_le (Nat.le_of_eq HL1.out), List.drop_of_length_le (Nat.le_of_eq HL1.out)] at h
            simpa using h)
          obtain ⟨J, hJ⟩ : ∃ J, a + t = J := ⟨_, rfl⟩
          rw [hJ]
          have d2 : decide ((J : Int) < (I : Int) - 1) = false := decide_eq_false (by omega)
          clear HX
          go_wp2
          go_end0
          exact ⟨rfl, V1 ++ x :: V2, HM.out, by simpa using HE.out⟩
end Go.Proofs.YthchfdobdghdoaaGreat.Rws
end
section

/-
  The walk of a stable sort's merges: the last element goes into the block ahead of it.
-/
namespace Go.Proofs.YthchfdobdghdoaaGreat.Rws
open Go Go.RowKit Go.Sg Go.Sg.Rws
variable {w0 w : World} {G : Nat} {tl : List Value} {S : Rt → Prop} {lt : Rt → Rt → Bool} {le : Rt → Rt → Prop}

set_option maxHeartbeats 8000000 in
set_option maxRecDepth 100000 in
theorem merge_right (tr : ∀ x y z, le x y → le y z → le x z) (A U : List Rt) (y : Rt) (C : List Rt) (n cap a m : Nat) (hA : A.length = a) (hU : a + U.length = m) (hn : m + 1 + C.length = n) (hU1 : 1 < U.length) (hc : n ≤ cap) (hcap : n ≤ 1099511627776)
    (hSy : S y) (hSU : ∀ x ∈ U, S x) (hF : ∀ x ∈ U, Fit lt le x y) (hpU : U.Pairwise le) (hcmp : CmpOk Tryz.prog 92 #[] S lt w0 G) (w : World) (h : RwR w0 G tl (A ++ U ++ [y] ++ C) w) :
    Calls Tryz.prog 116 #[.slice (some ⟨G, 0, none⟩) n cap, .int .i64 (a : Int), .int .i64 (m : Int), .int .i64 ((m : Int) + 1), .func (.func 92) #[] #[]] w (MrgPost le U [y] (fun T w' => RwR w0 G tl (A ++ T ++ C) w')) := by
  have ham : a + 1 < m := by omega
  have hmn : m < n := by omega
  have HCMP := Lib.hid hcmp
  have HA := Lib.hid hA
  have HU := Lib.hid hU
  have HSY := Lib.hid hSy
  have HSU := Lib.hid hSU
  have HF := Lib.hid hF
  have HPU := Lib.hid hpU
  have HX0 : Hid (RwR w0 G tl (A ++ U ++ [y] ++ C) w) := Lib.hid h
  have d0 : ((m : Int) - (a : Int) == 1) = false := by rw [beq_eq_false_iff_ne]; omega
  have d1 : (m : Int) + 1 - (m : Int) = 1 := by omega
  clear hcmp hA hU hn hSy hSU hF hpU h hU1
  go_enter Tryz.func116, Tryz.ntmps116
  go_wp2_with fail
  go_loopw [14, 15, 16] (fun iv jv _ wr => ∃ i j : Nat, iv = .int .i64 i ∧ jv = .int .i64 j ∧ a ≤ i ∧ i ≤ j ∧ j ≤ m ∧ Hid ((∀ x ∈ U.take (i - a), le x y) ∧ (∀ x ∈ U.drop (j - a), le y x)) ∧ Hid (RwR w0 G tl (A ++ U ++ [y] ++ C) wr)) (fun iv jv _ _ => (intOf jv - intOf iv).toNat)
  case atStart =>
    refine ⟨a, m, rfl, rfl, by omega, by omega, by omega, Lib.hid ⟨?_, ?_⟩, HX0⟩
    · rw [Nat.sub_self, List.take_zero]; intro y hy; cases hy
    · rw [List.drop_of_length_le (by have := HU.out; omega)]; intro y hy; cases hy
  case round =>
    obtain ⟨i, j, rfl, rfl, hai, hij, hjb, HP, HX⟩ := hrel
    clear HX0
    by_cases hlt : i < j
    · have d : decide ((i : Int) < (j : Int)) = true := decide_eq_true (by omega)
      have d' : decide (i < j) = true := decide_eq_true hlt
      obtain ⟨o, hm⟩ : ∃ o : Nat, ((i : Int) + (j : Int)) / 2 = o := ⟨(i + j) / 2, by omega⟩
      have hm1 : i ≤ o := by omega
      have hm2 : o < j := by omega
      have hsU : o - a < U.length := by have := HU.out; omega
      have hv : (A ++ U ++ [y] ++ C)[o]? = some U[o - a] := by
        rw [List.append_assoc (A ++ U)]
        exact get_in _ _ _ _ hsU o (by rw [HA.out]; omega)
      have hu : (A ++ U ++ [y] ++ C)[m]? = some y := by
        have e : A ++ U ++ [y] ++ C = (A ++ U) ++ y :: C := by simp only [List.append_assoc, List.cons_append, List.nil_append]
        rw [e]
        exact get_mid _ _ _ _ (by rw [List.length_append, HA.out]; exact HU.out)
      have hmU := List.getElem_mem hsU
      have HNO : Hid (lt y U[o - a] = false → (∀ x ∈ U.take (o + 1 - a), le x y)) := Lib.hid fun e => by
        rw [show o + 1 - a = o - a + 1 by omega]
        exact take_le tr HPU.out hsU ((HF.out _ hmU).2 e)
      have HYES : Hid (lt y U[o - a] = true → (∀ x ∈ U.drop (o - a), le y x)) := Lib.hid fun e => drop_ge tr HPU.out hsU ((HF.out _ hmU).1 e)
      have hSm := HSU.out _ hmU
      have hSy := HSY.out
      generalize U[o - a] = x at *
      have K : Hid (∀ w', RwR w0 G tl (A ++ U ++ [y] ++ C) w' → Calls Tryz.prog 92 #[.agg #[.int .u64 y.1, .int .u64 y.2.1, .int .i64 y.2.2], .agg #[.int .u64 x.1, .int .u64 x.2.1, .int .i64 x.2.2]] w' fun e w'' => ∃ c : Int, e = .returned (.int .i64 c) ∧ decide (c < 0) = lt y x ∧ Below w'.heap.size w' w'') := Lib.hid fun w' h => by
        have := HCMP.out y x w' hSy hSm h.fr
        rwa [Array.append_empty] at this
      have HCELL : Hid (∀ w', RwR w0 G tl (A ++ U ++ [y] ++ C) w' → (w'.cell? ⟨G, m * 3, none⟩ = some (.int .u64 y.1) ∧ w'.cell? ⟨G, m * 3 + 1, none⟩ = some (.int .u64 y.2.1) ∧ w'.cell? ⟨G, m * 3 + 2, none⟩ = some (.int .i64 y.2.2)) ∧ (w'.cell? ⟨G, o * 3, none⟩ = some (.int .u64 x.1) ∧ w'.cell? ⟨G, o * 3 + 1, none⟩ = some (.int .u64 x.2.1) ∧ w'.cell? ⟨G, o * 3 + 2, none⟩ = some (.int .i64 x.2.2))) := Lib.hid fun w' h => by
        have r1 := h.at rtV_k hu
        have r2 := h.at rtV_k hv
        exact ⟨⟨r1 0 _ rfl, r1 1 _ rfl, r1 2 _ rfl⟩, r2 0 _ rfl, r2 1 _ rfl, r2 2 _ rfl⟩
      have iM0 : (0 : Int) ≤ (m : Int) := by omega
      have iM1 : (m : Int) < (n : Int) := by omega
      have iA0 : (0 : Int) ≤ (o : Int) := by omega
      have iA1 : (o : Int) < (n : Int) := by omega
      have hX1 := HX.out.drew
      have hc1 := HCELL.out _ hX1
      go_upto_region 17 with fail
      clear hm hu hv hmU hSm hSy hsU
      cases hlx : lt y x
      all_goals
        rw [hlx] at K HNO HYES
        clear hlx
        go_wp2_with fail
        go_region_held3 (fun w' => (w'.cell? ⟨G, m * 3, none⟩ = some (.int .u64 y.1) ∧ w'.cell? ⟨G, m * 3 + 1, none⟩ = some (.int .u64 y.2.1) ∧ w'.cell? ⟨G, m * 3 + 2, none⟩ = some (.int .i64 y.2.2)) ∧ (w'.cell? ⟨G, o * 3, none⟩ = some (.int .u64 x.1) ∧ w'.cell? ⟨G, o * 3 + 1, none⟩ = some (.int .u64 x.2.1) ∧ w'.cell? ⟨G, o * 3 + 2, none⟩ = some (.int .i64 x.2.2))) (first | exact HCELL.out _ (by assumption)) (first
          | (go_at_call 92; refine (K.out _ hX1).mono ?_; rintro e w2 ⟨c, rfl, hcd, hb2⟩; have hX2 := hX1.below hb2))
      · have HN := Lib.hid (HNO.out (by trivial))
        have HX2 := Lib.hid hX2
        clear hX1 hX2 hc1 HNO HYES K HCELL hb2 HX
        go_wp2
        go_roundw
        case rel => exact ⟨o + 1, j, by go_num, rfl, by omega, by omega, hjb, Lib.hid ⟨HN.out, HP.out.2⟩, HX2⟩
        case measure => simp [intOf]; omega
      · have HN := Lib.hid (HYES.out (by trivial))
        have HX2 := Lib.hid hX2
        clear hX1 hX2 hc1 HNO HYES K HCELL hb2 HX
        go_wp2
        go_roundw
        case rel => exact ⟨i, o, rfl, rfl, hai, hm1, by omega, Lib.hid ⟨HP.out.1, HN.out⟩, HX2⟩
        case measure => simp [intOf]; omega
    · obtain rfl : i = j := by omega
      obtain ⟨s, hs⟩ : ∃ s, i = a + s := ⟨i - a, by omega⟩
      have hsU : s ≤ U.length := by have := HU.out; omega
      rw [show i - a = s by omega] at HP
      have HM : Hid (Mrg le U [y] (U.take s ++ y :: U.drop s)) := Lib.hid (by
        have := Mrg.in_left (u1 := U.take s) (u2 := U.drop s) (y := y) (by rw [List.take_append_drop]; exact HPU.out) HP.out.1 HP.out.2
        rwa [List.take_append_drop] at this)
      have HX0 : Hid (RwR w0 G tl (A ++ (U.take U.length ++ y :: U.drop U.length) ++ C) wr) := Lib.hid (by simpa using HX.out)
      have d : decide ((i : Int) < (i : Int)) = false := decide_eq_false (by omega)
      have HS := Lib.hid hs
      clear HP HX HPU HF HSU HSY hs
      go_wp2_with fail
      go_loopw [17] (fun kv wr => ∃ t : Nat, s ≤ t ∧ t ≤ U.length ∧ kv = .int .i64 ((a + t : Nat) : Int) ∧ Hid (RwR w0 G tl (A ++ (U.take t ++ y :: U.drop t) ++ C) wr)) (fun kv _ => (intOf kv).toNat)
      case atStart => exact ⟨U.length, hsU, Nat.le_refl _, by rw [HU.out], HX0⟩
      case round =>
        obtain ⟨t, hst, htU, rfl, HX⟩ := hrel
        clear HX0
        by_cases hlt2 : s < t
        · obtain ⟨t, rfl⟩ : ∃ q, t = q + 1 := ⟨t - 1, by omega⟩
          have ht1 : t < U.length := by omega
          obtain ⟨hx, hy⟩ := get_down A U y C t ht1 (a + t) (by rw [HA.out])
          have hsw := swL_down A U y C t ht1 (a + t) (by rw [HA.out])
          have HSW : Hid (∀ w', RwR w0 G tl (A ++ (U.take (t + 1) ++ y :: U.drop (t + 1)) ++ C) w' → RwR w0 G tl (A ++ (U.take t ++ y :: U.drop t) ++ C) ((w'.setCells G ((a + t + 1) * 3) (rtV U[t])).setCells G ((a + t) * 3) (rtV y))) := Lib.hid fun w' h => by
            have := h.swap rtV_k hy hx
            rwa [hsw] at this
          generalize U[t] = x at *
          have e1 : a + (t + 1) = a + t + 1 := by omega
          rw [e1]
          have hmt : a + t + 1 ≤ m := by have := HU.out; omega
          obtain ⟨J, hJ⟩ : ∃ J, a + t = J := ⟨_, rfl⟩
          rw [hJ] at hx hy HSW hmt ⊢
          have HCELL : Hid (∀ w', RwR w0 G tl (A ++ (U.take (t + 1) ++ y :: U.drop (t + 1)) ++ C) w' → (w'.cell? ⟨G, J * 3, none⟩ = some (.int .u64 x.1) ∧ w'.cell? ⟨G, J * 3 + 1, none⟩ = some (.int .u64 x.2.1) ∧ w'.cell? ⟨G, J * 3 + 2, none⟩ = some (.int .i64 x.2.2)) ∧ (w'.cell? ⟨G, (J + 1) * 3, none⟩ = some (.int .u64 y.1) ∧ w'.cell? ⟨G, (J + 1) * 3 + 1, none⟩ = some (.int .u64 y.2.1) ∧ w'.cell? ⟨G, (J + 1) * 3 + 2, none⟩ = some (.int .i64 y.2.2))) := Lib.hid fun w' h => by
            have r1 := h.at rtV_k hx
            have r2 := h.at rtV_k hy
            exact ⟨⟨r1 0 _ rfl, r1 1 _ rfl, r1 2 _ rfl⟩, r2 0 _ rfl, r2 1 _ rfl, r2 2 _ rfl⟩
          have HFREE : Hid (∀ w', RwR w0 G tl (A ++ (U.take (t + 1) ++ y :: U.drop (t + 1)) ++ C) w' → (w'.frozen? ⟨G, J * 3, none⟩ = false ∧ w'.frozen? ⟨G, J * 3 + 1, none⟩ = false ∧ w'.frozen? ⟨G, J * 3 + 2, none⟩ = false) ∧ (w'.frozen? ⟨G, (J + 1) * 3, none⟩ = false ∧ w'.frozen? ⟨G, (J + 1) * 3 + 1, none⟩ = false ∧ w'.frozen? ⟨G, (J + 1) * 3 + 2, none⟩ = false)) := Lib.hid fun w' h => ⟨⟨h.blk.free _, h.blk.free _, h.blk.free _⟩, h.blk.free _, h.blk.free _, h.blk.free _⟩
          obtain ⟨⟨x0, x1, x2⟩, y0, y1, y2⟩ := HCELL.out _ HX.out
          obtain ⟨⟨fx0, fx1, fx2⟩, fy0, fy1, fy2⟩ := HFREE.out _ HX.out
          have d2 : decide ((i : Int) < (J : Int) + 1) = true := decide_eq_true (by have := HS.out; omega)
          have d3 : decide (i < J + 1) = true := decide_eq_true (by have := HS.out; omega)
          have iJ0 : (0 : Int) ≤ (J : Int) := by omega
          have iJ1 : (J : Int) < (n : Int) := by omega
          have iK0 : (0 : Int) ≤ (J : Int) + 1 := by omega
          have iK1 : (J : Int) + 1 < (n : Int) := by omega
          have wJ := IntWalk.i64_in (J : Int) (by omega)
          have wK := IntWalk.i64_in ((J : Int) + 1) (by omega)
          have nJ : ((J : Int) + 1).toNat = J + 1 := by omega
          have HD := Lib.hid (HSW.out _ HX.out).drew
          have HJ := Lib.hid hJ
          clear hx hy hsw HSW HCELL HFREE HX hJ e1
          go_wp2_with fail
          go_region_law (fail)
          all_goals
            clear x0 x1 x2 y0 y1 y2 fx0 fx1 fx2 fy0 fy1 fy2
            go_wp2
            go_roundw
            case rel => exact ⟨t, by omega, by omega, by rw [HJ.out], HD⟩
            case measure => simp [intOf]
        · obtain rfl : t = s := by omega
          have HE := Lib.hid HX.out
          have HS2 := Lib.hid HS.out.symm
          rw [HS2.out]
          have d2 : decide ((i : Int) < (i : Int)) = false := decide_eq_false (by omega)
          clear HX
          go_wp2
          go_end0
          exact ⟨rfl, U.take t ++ y :: U.drop t, HM.out, by simpa using HE.out⟩
end Go.Proofs.YthchfdobdghdoaaGreat.Rws
end
section

/-
  The walk of a stable sort's merges.
-/
namespace Go.Proofs.YthchfdobdghdoaaGreat.Rws
open Go Go.RowKit Go.Sg Go.Sg.Rws
variable {w0 w : World} {G : Nat} {tl : List Value} {S : Rt → Prop} {lt : Rt → Rt → Bool} {le : Rt → Rt → Prop}
/-- What a merge of fewer than L elements does. -/
def MergeBelow (w0 : World) (G : Nat) (tl : List Value) (S : Rt → Prop) (lt : Rt → Rt → Bool) (le : Rt → Rt → Prop) (n cap L : Nat) : Prop :=
  ∀ (A U V C : List Rt) (a m b : Nat) (w : World), A.length = a → a + U.length = m → m + V.length = b → b + C.length = n → 0 < U.length → 0 < V.length → U.length + V.length < L → (∀ x ∈ U, S x) → (∀ y ∈ V, S y) → (∀ x ∈ U, ∀ y ∈ V, Fit lt le x y) → U.Pairwise le → V.Pairwise le → RwR w0 G tl (A ++ U ++ V ++ C) w →
    Calls Tryz.prog 116 #[.slice (some ⟨G, 0, none⟩) n cap, .int .i64 (a : Int), .int .i64 (m : Int), .int .i64 (b : Int), .func (.func 92) #[] #[]] w (MrgPost le U V (fun T w' => RwR w0 G tl (A ++ T ++ C) w'))

set_option maxHeartbeats 20000000 in
set_option maxRecDepth 100000 in
theorem merge_main (tr : ∀ x y z, le x y → le y z → le x z) (A U V C : List Rt) (n cap a m b : Nat) (hA : A.length = a) (hU : a + U.length = m) (hV : m + V.length = b) (hn : b + C.length = n) (hU1 : 1 < U.length) (hV1 : 1 < V.length) (hc : n ≤ cap) (hcap : n ≤ 1099511627776)
    (hSU : ∀ x ∈ U, S x) (hSV : ∀ y ∈ V, S y) (hF : ∀ x ∈ U, ∀ y ∈ V, Fit lt le x y) (hpU : U.Pairwise le) (hpV : V.Pairwise le) (hcmp : CmpOk Tryz.prog 92 #[] S lt w0 G)
    (hIH : MergeBelow w0 G tl S lt le n cap (U.length + V.length)) (w : World) (h : RwR w0 G tl (A ++ U ++ V ++ C) w) :
    Calls Tryz.prog 116 #[.slice (some ⟨G, 0, none⟩) n cap, .int .i64 (a : Int), .int .i64 (m : Int), .int .i64 (b : Int), .func (.func 92) #[] #[]] w (MrgPost le U V (fun T w' => RwR w0 G tl (A ++ T ++ C) w')) := by
  have ham : a + 1 < m := by omega
  have hmb : m + 1 < b := by omega
  have hbn : b ≤ n := by omega
  have HCMP := Lib.hid hcmp
  have HIH := Lib.hid hIH
  have HA := Lib.hid hA
  have HU := Lib.hid hU
  have HV := Lib.hid hV
  have HN := Lib.hid hn
  have HSU := Lib.hid hSU
  have HSV := Lib.hid hSV
  have HF := Lib.hid hF
  have HPU := Lib.hid hpU
  have HPV := Lib.hid hpV
  have HX0 : Hid (RwR w0 G tl (A ++ U ++ V ++ C) w) := Lib.hid h
  have d0 : ((m : Int) - (a : Int) == 1) = false := by rw [beq_eq_false_iff_ne]; omega
  have d1 : ((b : Int) - (m : Int) == 1) = false := by rw [beq_eq_false_iff_ne]; omega
  obtain ⟨mid, hmid⟩ : ∃ mid : Nat, ((a : Int) + (b : Int)) / 2 = mid := ⟨(a + b) / 2, by omega⟩
  have hmid1 : 2 * mid ≤ a + b := by omega
  have hmid2 : a + b ≤ 2 * mid + 1 := by omega
  have HE : Hid (∃ lo hi : Nat, (lo = a ∨ lo + b = mid + m) ∧ (hi = mid ∨ hi = m) ∧ a ≤ lo ∧ lo ≤ hi ∧ hi ≤ m ∧ hi ≤ mid ∧ mid + m ≤ lo + b ∧ (mid < m → lo + b = mid + m ∧ hi = mid) ∧ (¬ mid < m → lo = a ∧ hi = m)) := Lib.hid (by
    by_cases e : mid < m
    · exact ⟨mid + m - b, mid, .inr (by omega), .inl rfl, by omega, by omega, by omega, by omega, by omega, fun _ => ⟨by omega, rfl⟩, fun h => absurd e h⟩
    · exact ⟨a, m, .inl rfl, .inr rfl, by omega, by omega, by omega, by omega, by omega, fun h => absurd h e, fun _ => ⟨rfl, rfl⟩⟩)
  obtain ⟨lo, hi, hlo, hhi, g1, g2, g3, g4, g5, g6, g7⟩ := HE.out
  have HLO := Lib.hid hlo
  have HHI := Lib.hid hhi
  have HG6 := Lib.hid g6
  have HG7 := Lib.hid g7
  obtain ⟨NN, hNN⟩ : ∃ NN, mid + m = NN := ⟨_, rfl⟩
  have HNN := Lib.hid hNN
  have eNN : (mid : Int) + (m : Int) = (NN : Int) := by omega
  have hNN1 : 1 ≤ NN := by omega
  obtain ⟨pp, hpp⟩ : ∃ pp : Nat, (NN : Int) - 1 = pp := ⟨NN - 1, by omega⟩
  clear hcmp hIH hA hU hV hn hSU hSV hF hpU hpV h hU1 hV1 hlo hhi g6 g7 HE hNN
  go_enter Tryz.func116, Tryz.ntmps116
  go_upto_if 140 with fail
  go_cut [20, 21] (fun sv rv wx => sv = .int .i64 (lo : Int) ∧ rv = .int .i64 (hi : Int) ∧ wx = w)
  case first =>
    as_aux_lemma =>
      by_cases hmm : mid < m
      · obtain ⟨k1, k2⟩ := HG6.out hmm
        have elo : (NN : Int) - (b : Int) = (lo : Int) := by have := HNN.out; omega
        have dm : decide ((mid : Int) < (m : Int)) = true := decide_eq_true (by omega)
        have dm' : decide (mid < m) = true := decide_eq_true hmm
        have HH0 : Hid ((mid : Int) = (hi : Int)) := Lib.hid (by omega)
        clear k1 k2
        go_wp2_with fail
        go_meet
        exact ⟨rfl, by rw [HH0.out], rfl⟩
      · obtain ⟨k1, k2⟩ := HG7.out hmm
        have HL0 : Hid ((a : Int) = (lo : Int)) := Lib.hid (by omega)
        have HH0 : Hid ((m : Int) = (hi : Int)) := Lib.hid (by omega)
        have dm : decide ((mid : Int) < (m : Int)) = false := decide_eq_false (by omega)
        have dm' : decide (mid < m) = false := decide_eq_false hmm
        clear k1 k2
        go_wp2_with fail
        go_meet
        exact ⟨by rw [HL0.out], by rw [HH0.out], rfl⟩
  case rest =>
    obtain ⟨rfl, rfl, rfl⟩ := hcut
    go_wp2_with fail
    go_loopw [20, 21, 23] (fun sv rv _ wr => ∃ s r : Nat, sv = .int .i64 s ∧ rv = .int .i64 r ∧ lo ≤ s ∧ s ≤ r ∧ r ≤ hi ∧ Hid ((s = lo ∨ ∃ x y, 0 < s - a ∧ U[s - a - 1]? = some x ∧ V[mid - s]? = some y ∧ le x y) ∧ (r = hi ∨ ∃ x y, 0 < mid - r ∧ V[mid - r - 1]? = some x ∧ U[r - a]? = some y ∧ le x y)) ∧ Hid (RwR w0 G tl (A ++ U ++ V ++ C) wr)) (fun sv rv _ _ => (intOf rv - intOf sv).toNat)
    case atStart => exact ⟨lo, hi, rfl, rfl, by omega, by omega, by omega, Lib.hid ⟨.inl rfl, .inl rfl⟩, HX0⟩
    case round =>
      obtain ⟨s, r, rfl, rfl, hls, hsr, hrh, HP, HX⟩ := hrel
      clear HX0
      by_cases hlt : s < r
      · as_aux_lemma =>
          have d : decide ((s : Int) < (r : Int)) = true := decide_eq_true (by omega)
          have d' : decide (s < r) = true := decide_eq_true hlt
          obtain ⟨o, hm⟩ : ∃ o : Nat, ((s : Int) + (r : Int)) / 2 = o := ⟨(s + r) / 2, by omega⟩
          have hm1 : s ≤ o := by omega
          have hm2 : o < r := by omega
          obtain ⟨q, hq⟩ : ∃ q : Nat, (pp : Int) - (o : Int) = q := ⟨pp - o, by have := HNN.out; omega⟩
          have hqm : q = m + (mid - 1 - o) := by have := HNN.out; omega
          have hsU : o - a < U.length := by have := HU.out; omega
          have hsV : mid - 1 - o < V.length := by have := HV.out; omega
          have hv : (A ++ U ++ V ++ C)[o]? = some U[o - a] := by
            rw [List.append_assoc (A ++ U)]
            exact get_in _ _ _ _ hsU o (by rw [HA.out]; omega)
          have hu : (A ++ U ++ V ++ C)[q]? = some V[mid - 1 - o] := get_in _ _ _ _ hsV q (by rw [List.length_append, HA.out, HU.out]; omega)
          have hmU := List.getElem_mem hsU
          have hmV := List.getElem_mem hsV
          have hfit := HF.out _ hmU _ hmV
          have HNO : Hid (lt V[mid - 1 - o] U[o - a] = false → ∃ x y, 0 < o + 1 - a ∧ U[o + 1 - a - 1]? = some x ∧ V[mid - (o + 1)]? = some y ∧ le x y) := Lib.hid fun e => ⟨U[o - a], V[mid - 1 - o], by omega, by rw [show o + 1 - a - 1 = o - a by omega, List.getElem?_eq_getElem hsU], by rw [show mid - (o + 1) = mid - 1 - o by omega, List.getElem?_eq_getElem hsV], hfit.2 e⟩
          have HYES : Hid (lt V[mid - 1 - o] U[o - a] = true → ∃ x y, 0 < mid - o ∧ V[mid - o - 1]? = some x ∧ U[o - a]? = some y ∧ le x y) := Lib.hid fun e => ⟨V[mid - 1 - o], U[o - a], by omega, by rw [show mid - o - 1 = mid - 1 - o by omega, List.getElem?_eq_getElem hsV], by rw [List.getElem?_eq_getElem hsU], hfit.1 e⟩
          have hSx := HSU.out _ hmU
          have hSy := HSV.out _ hmV
          clear hfit
          generalize U[o - a] = x at *
          generalize V[mid - 1 - o] = y at *
          have K : Hid (∀ w', RwR w0 G tl (A ++ U ++ V ++ C) w' → Calls Tryz.prog 92 #[.agg #[.int .u64 y.1, .int .u64 y.2.1, .int .i64 y.2.2], .agg #[.int .u64 x.1, .int .u64 x.2.1, .int .i64 x.2.2]] w' fun e w'' => ∃ c : Int, e = .returned (.int .i64 c) ∧ decide (c < 0) = lt y x ∧ Below w'.heap.size w' w'') := Lib.hid fun w' h => by
            have := HCMP.out y x w' hSy hSx h.fr
            rwa [Array.append_empty] at this
          have HCELL : Hid (∀ w', RwR w0 G tl (A ++ U ++ V ++ C) w' → (w'.cell? ⟨G, q * 3, none⟩ = some (.int .u64 y.1) ∧ w'.cell? ⟨G, q * 3 + 1, none⟩ = some (.int .u64 y.2.1) ∧ w'.cell? ⟨G, q * 3 + 2, none⟩ = some (.int .i64 y.2.2)) ∧ (w'.cell? ⟨G, o * 3, none⟩ = some (.int .u64 x.1) ∧ w'.cell? ⟨G, o * 3 + 1, none⟩ = some (.int .u64 x.2.1) ∧ w'.cell? ⟨G, o * 3 + 2, none⟩ = some (.int .i64 x.2.2))) := Lib.hid fun w' h => by
            have r1 := h.at rtV_k hu
            have r2 := h.at rtV_k hv
            exact ⟨⟨r1 0 _ rfl, r1 1 _ rfl, r1 2 _ rfl⟩, r2 0 _ rfl, r2 1 _ rfl, r2 2 _ rfl⟩
          have hqn : q < n := by omega
          have iM0 : (0 : Int) ≤ (q : Int) := by omega
          have iM1 : (q : Int) < (n : Int) := by omega
          have iA0 : (0 : Int) ≤ (o : Int) := by omega
          have iA1 : (o : Int) < (n : Int) := by omega
          have wq := IntWalk.i64_in (q : Int) (by omega)
          have hX1 := HX.out.drew
          have hc1 := HCELL.out _ hX1
          clear hqm
          go_upto_region 35 with fail
          clear hm hu hv hmU hmV hSx hSy hsU hsV
          cases hlx : lt y x
          all_goals
            rw [hlx] at K HNO HYES
            clear hlx
            go_wp2_with fail
            go_region_held3 (fun w' => (w'.cell? ⟨G, q * 3, none⟩ = some (.int .u64 y.1) ∧ w'.cell? ⟨G, q * 3 + 1, none⟩ = some (.int .u64 y.2.1) ∧ w'.cell? ⟨G, q * 3 + 2, none⟩ = some (.int .i64 y.2.2)) ∧ (w'.cell? ⟨G, o * 3, none⟩ = some (.int .u64 x.1) ∧ w'.cell? ⟨G, o * 3 + 1, none⟩ = some (.int .u64 x.2.1) ∧ w'.cell? ⟨G, o * 3 + 2, none⟩ = some (.int .i64 x.2.2))) (first | exact HCELL.out _ (by assumption)) (first
              | (go_at_call 92; refine (K.out _ hX1).mono ?_; rintro e w2 ⟨c, rfl, hcd, hb2⟩; have hX2 := hX1.below hb2))
          · have HN1 := Lib.hid (HNO.out (by trivial))
            have HX2 := Lib.hid hX2
            clear hX1 hX2 hc1 HNO HYES K HCELL hb2 HX
            go_wp2
            go_roundw
            case rel => exact ⟨o + 1, r, by go_num, rfl, by omega, by omega, hrh, Lib.hid ⟨.inr HN1.out, HP.out.2⟩, HX2⟩
            case measure => simp [intOf]; omega
          · have HN1 := Lib.hid (HYES.out (by trivial))
            have HX2 := Lib.hid hX2
            clear hX1 hX2 hc1 HNO HYES K HCELL hb2 HX
            go_wp2
            go_roundw
            case rel => exact ⟨s, o, rfl, rfl, hls, hm1, by omega, Lib.hid ⟨HP.out.1, .inr HN1.out⟩, HX2⟩
            case measure => simp [intOf]; omega
      · obtain rfl : s = r := by omega
        have d : decide ((s : Int) < (s : Int)) = false := decide_eq_false (by omega)
        have HCUT := Lib.hid (cut_ok tr HPU.out HPV.out HU.out HV.out (by omega) (by omega) (by omega) (by omega) HLO.out HHI.out HP.out.1 HP.out.2)
        obtain ⟨en, hen⟩ : ∃ en : Nat, (NN : Int) - (s : Int) = en := ⟨NN - s, by have := HNN.out; omega⟩
        have hen1 : en = m + (mid - s) := by have := HNN.out; omega
        have hl1 : (U.take (s - a)).length = s - a := by rw [List.length_take]; have := HU.out; omega
        have hl2 : (U.drop (s - a)).length = m - s := by rw [List.length_drop]; have := HU.out; omega
        have hl3 : (V.take (mid - s)).length = mid - s := by rw [List.length_take]; have := HV.out; omega
        have hl4 : (V.drop (mid - s)).length = b - en := by rw [List.length_drop]; have := HV.out; omega
        have eU : U = U.take (s - a) ++ U.drop (s - a) := (List.take_append_drop _ _).symm
        have eV : V = V.take (mid - s) ++ V.drop (mid - s) := (List.take_append_drop _ _).symm
        generalize U.take (s - a) = U1 at *
        generalize U.drop (s - a) = U2 at *
        generalize V.take (mid - s) = V1 at *
        generalize V.drop (mid - s) = V2 at *
        subst eU eV
        have HL1 := Lib.hid (And.intro hl1 (And.intro hl2 (And.intro hl3 hl4)))
        have HEN := Lib.hid hen1
        have hb1 : a ≤ s := by omega
        have hb2 : s ≤ m := by omega
        have hb3 : s ≤ mid := by omega
        have hb4 : m ≤ en := by omega
        have hb5 : en ≤ b := by omega
        have hb6 : mid ≤ en := by omega
        have hPU := List.pairwise_append.1 HPU.out
        have hPV := List.pairwise_append.1 HPV.out
        have HP4 := Lib.hid (And.intro (And.intro hPU.1 hPU.2.1) (And.intro hPV.1 hPV.2.1))
        clear HP hl1 hl2 hl3 hl4 hen1 hPU hPV HLO HHI HG6 HG7 g1 g2 g3 g4 g5 hls hrh hmid1 hmid2
        go_upto_region 39 with fail
        go_cut [185] (fun tv wx => tv = .bool (decide (s < m ∧ m < en)) ∧ wx = wr)
        case first =>
          as_aux_lemma =>
            by_cases q1 : s < m
            · have e1 : decide ((s : Int) < (m : Int)) = true := decide_eq_true (by omega)
              have e1' : decide (s < m) = true := decide_eq_true q1
              by_cases q2 : m < en
              · have e2 : decide ((m : Int) < (en : Int)) = true := decide_eq_true (by omega)
                have e2' : decide (m < en) = true := decide_eq_true q2
                go_wp2_with fail
                go_meet
                exact ⟨by first | rfl | simp [q1, q2], rfl⟩
              · have e2 : decide ((m : Int) < (en : Int)) = false := decide_eq_false (by omega)
                have e2' : decide (m < en) = false := decide_eq_false q2
                go_wp2_with fail
                go_meet
                exact ⟨by first | rfl | simp [q1, q2], rfl⟩
            · have e1 : decide ((s : Int) < (m : Int)) = false := decide_eq_false (by omega)
              have e1' : decide (s < m) = false := decide_eq_false q1
              go_wp2_with fail
              go_meet
              exact ⟨by first | rfl | simp [q1], rfl⟩
        case rest =>
        obtain ⟨rfl, rfl⟩ := hcut
        go_upto_if 185 with fail
        go_cut [] (fun wx => Hid (RwR w0 G tl (A ++ U1 ++ V1 ++ U2 ++ V2 ++ C) wx))
        case first =>
          as_aux_lemma =>
            by_cases q1 : s < m ∧ m < en
            · rw [decide_eq_true q1]
              have K := Lib.hid (rotate_any (A ++ U1) U2 V1 (V2 ++ C) n cap (s : Int) (m : Int) (en : Int) (.func (.func 92) #[] #[]) (by have := HA.out; have := HL1.out.1; simp; omega) (by have := HL1.out.2.1; omega) (by have := HL1.out.2.2.1; have := HEN.out; omega) (by have := HL1.out.2.2.2; have := HN.out; simp; omega) (by have := HL1.out.2.1; omega) (by have := HL1.out.2.2.1; have := HEN.out; omega) hc hcap _ (by simpa using HX.out))
              go_wp2_with fail
              refine K.out.mono ?_
              rintro e w' ⟨rfl, hX⟩
              have HX1 := Lib.hid hX
              clear hX K
              go_wp2_with fail
              go_meet
              exact Lib.hid (by simpa using HX1.out)
            · rw [decide_eq_false q1]
              go_wp2_with fail
              go_meet
              exact Lib.hid (by
                have h := HX.out
                have : U2 = [] ∨ V1 = [] := by
                  have h2 := HL1.out.2.1
                  have h3 := HL1.out.2.2.1
                  have h4 := HEN.out
                  by_cases hs : s < m
                  · exact .inr (List.length_eq_zero_iff.1 (by omega))
                  · exact .inl (List.length_eq_zero_iff.1 (by omega))
                rcases this with rfl | rfl <;> simpa using h)
        case rest =>
        have HX2 := Lib.hid hcut.out
        clear HX hcut
        go_upto_region 41 with fail
        go_cut [199] (fun tv wx => tv = .bool (decide (a < s ∧ s < mid)) ∧ wx = wc)
        case first =>
          as_aux_lemma =>
            by_cases q1 : a < s
            · have e1 : decide ((a : Int) < (s : Int)) = true := decide_eq_true (by omega)
              have e1' : decide (a < s) = true := decide_eq_true q1
              by_cases q2 : s < mid
              · have e2 : decide ((s : Int) < (mid : Int)) = true := decide_eq_true (by omega)
                have e2' : decide (s < mid) = true := decide_eq_true q2
                go_wp2_with fail
                go_meet
                exact ⟨by first | rfl | simp [q1, q2], rfl⟩
              · have e2 : decide ((s : Int) < (mid : Int)) = false := decide_eq_false (by omega)
                have e2' : decide (s < mid) = false := decide_eq_false q2
                go_wp2_with fail
                go_meet
                exact ⟨by first | rfl | simp [q1, q2], rfl⟩
            · have e1 : decide ((a : Int) < (s : Int)) = false := decide_eq_false (by omega)
              have e1' : decide (a < s) = false := decide_eq_false q1
              go_wp2_with fail
              go_meet
              exact ⟨by first | rfl | simp [q1], rfl⟩
        case rest =>
        obtain ⟨rfl, rfl⟩ := hcut
        go_upto_if 199 with fail
        go_cut [] (fun wx => Hid (∃ T, Mrg le U1 V1 T ∧ RwR w0 G tl (A ++ T ++ U2 ++ V2 ++ C) wx))
        case first =>
          as_aux_lemma =>
            by_cases q1 : a < s ∧ s < mid
            · rw [decide_eq_true q1]
              have hc4 : U1.length + V1.length < (U1 ++ U2).length + (V1 ++ V2).length := by
                obtain ⟨h1, h2, h3, h4⟩ := HL1.out
                have h5 := HU.out
                have h6 := HV.out
                simp only [List.length_append] at h5 h6 ⊢
                omega
              have K := Lib.hid (HIH.out (A) U1 V1 (U2 ++ V2 ++ C) a s mid _ (by exact HA.out) (by have := HL1.out.1; omega) (by have := HL1.out.2.2.1; omega) (by obtain ⟨h1, h2, h3, h4⟩ := HL1.out; have h5 := HU.out; have h6 := HV.out; have h7 := HN.out; have h8 := HEN.out; simp only [List.length_append] at h5 h6 ⊢; omega) (by have := HL1.out.1; omega) (by have := HL1.out.2.2.1; omega) hc4 (fun x hx => HSU.out x (by simp [hx])) (fun x hx => HSV.out x (by simp [hx])) (fun x hx y hy => HF.out x (by simp [hx]) y (by simp [hy])) HP4.out.1.1 HP4.out.2.1 (by simpa using HX2.out))
              go_wp2_with fail
              refine K.out.mono ?_
              rintro e w' ⟨rfl, T, hM, hX⟩
              have HX1 := Lib.hid (And.intro hM hX)
              clear hM hX K
              go_wp2_with fail
              go_meet
              exact Lib.hid ⟨T, HX1.out.1, by simpa using HX1.out.2⟩
            · rw [decide_eq_false q1]
              go_wp2_with fail
              go_meet
              exact Lib.hid (by
                have h := HX2.out
                have : U1 = [] ∨ V1 = [] := by
                  have h2 := HL1.out.1
                  have h3 := HL1.out.2.2.1
                  by_cases hs : a < s
                  · exact .inr (List.length_eq_zero_iff.1 (by omega))
                  · exact .inl (List.length_eq_zero_iff.1 (by omega))
                rcases this with rfl | rfl
                · exact ⟨V1, Mrg.one_right rfl HP4.out.2.1, by simpa using h⟩
                · exact ⟨U1, Mrg.one_left rfl HP4.out.1.1, by simpa using h⟩)
        case rest =>
        obtain ⟨T1, hM1, hX4⟩ := hcut.out
        have HM1 := Lib.hid hM1
        have HX4 := Lib.hid hX4
        clear HX2 hcut hM1 hX4
        go_upto_region 43 with fail
        go_cut [213] (fun tv wx => tv = .bool (decide (mid < en ∧ en < b)) ∧ wx = wc)
        case first =>
          as_aux_lemma =>
            by_cases q1 : mid < en
            · have e1 : decide ((mid : Int) < (en : Int)) = true := decide_eq_true (by omega)
              have e1' : decide (mid < en) = true := decide_eq_true q1
              by_cases q2 : en < b
              · have e2 : decide ((en : Int) < (b : Int)) = true := decide_eq_true (by omega)
                have e2' : decide (en < b) = true := decide_eq_true q2
                go_wp2_with fail
                go_meet
                exact ⟨by first | rfl | simp [q1, q2], rfl⟩
              · have e2 : decide ((en : Int) < (b : Int)) = false := decide_eq_false (by omega)
                have e2' : decide (en < b) = false := decide_eq_false q2
                go_wp2_with fail
                go_meet
                exact ⟨by first | rfl | simp [q1, q2], rfl⟩
            · have e1 : decide ((mid : Int) < (en : Int)) = false := decide_eq_false (by omega)
              have e1' : decide (mid < en) = false := decide_eq_false q1
              go_wp2_with fail
              go_meet
              exact ⟨by first | rfl | simp [q1], rfl⟩
        case rest =>
        obtain ⟨rfl, rfl⟩ := hcut
        by_cases q1 : mid < en ∧ en < b
        · as_aux_lemma =>
            rw [decide_eq_true q1]
            have hc4 : U2.length + V2.length < (U1 ++ U2).length + (V1 ++ V2).length := by
              obtain ⟨h1, h2, h3, h4⟩ := HL1.out
              have h5 := HU.out
              have h6 := HV.out
              simp only [List.length_append] at h5 h6 ⊢
              omega
            have K := Lib.hid (HIH.out (A ++ T1) U2 V2 (C) mid en b _ (by obtain ⟨h1, h2, h3, h4⟩ := HL1.out; have h5 := HA.out; have h6 := HM1.out.length; rw [List.length_append]; omega) (by have := HL1.out.2.1; have := HEN.out; omega) (by have := HL1.out.2.2.2; omega) HN.out (by have := HL1.out.2.1; have := HEN.out; omega) (by have := HL1.out.2.2.2; omega) hc4 (fun x hx => HSU.out x (by simp [hx])) (fun x hx => HSV.out x (by simp [hx])) (fun x hx y hy => HF.out x (by simp [hx]) y (by simp [hy])) HP4.out.1.2 HP4.out.2.2 (by simpa using HX4.out))
            go_wp2_with fail
            refine K.out.mono ?_
            rintro e w' ⟨rfl, T, hM, hX⟩
            have HX1 := Lib.hid (And.intro hM hX)
            clear hM hX K
            go_wp2_with fail
            go_end0
            exact ⟨rfl, T1 ++ T, HM1.out.join HX1.out.1 HCUT.out, by simpa using HX1.out.2⟩
        · as_aux_lemma =>
            rw [decide_eq_false q1]
            go_wp2
            go_end0
            obtain ⟨T2, hM2, hX6⟩ : ∃ T, Mrg le U2 V2 T ∧ RwR w0 G tl (A ++ T1 ++ T ++ C) _ := (by
              have h := HX4.out
              have : U2 = [] ∨ V2 = [] := by
                have h2 := HL1.out.2.1
                have h3 := HL1.out.2.2.2
                have h4 := HEN.out
                by_cases hs : mid < en
                · exact .inr (List.length_eq_zero_iff.1 (by omega))
                · exact .inl (List.length_eq_zero_iff.1 (by omega))
              rcases this with rfl | rfl
              · exact ⟨V2, Mrg.one_right rfl HP4.out.2.2, by simpa using h⟩
              · exact ⟨U2, Mrg.one_left rfl HP4.out.1.2, by simpa using h⟩)
            exact ⟨rfl, T1 ++ T2, HM1.out.join hM2 HCUT.out, by simpa using hX6⟩
end Go.Proofs.YthchfdobdghdoaaGreat.Rws
end
section

/-
  The walk of slices.SortStableFunc at items.
-/
namespace Go.Proofs.YthchfdobdghdoaaGreat.Rws
open Go Go.RowKit Go.Sg Go.Sg.Rws
variable {w0 w : World} {G : Nat} {tl : List Value} {S : Rt → Prop} {lt : Rt → Rt → Bool} {le : Rt → Rt → Prop}

theorem MergeBelow.mono {n cap L L' : Nat} (h : MergeBelow w0 G tl S lt le n cap L) (hl : L' ≤ L) : MergeBelow w0 G tl S lt le n cap L' :=
  fun A U V C a m b w h1 h2 h3 h4 h5 h6 h7 => h A U V C a m b w h1 h2 h3 h4 h5 h6 (by omega)
theorem merge_all (tr : ∀ x y z, le x y → le y z → le x z) {n cap : Nat} (hc : n ≤ cap) (hcap : n ≤ 1099511627776) (hcmp : CmpOk Tryz.prog 92 #[] S lt w0 G) : ∀ L, MergeBelow w0 G tl S lt le n cap L
  | 0 => fun A U V C a m b w _ _ _ _ _ _ h => by omega
  | L + 1 => fun A U V C a m b w hA hU hV hn hU0 hV0 hL hSU hSV hF hpU hpV h => by
    have ih := merge_all tr hc hcap hcmp L
    by_cases e1 : U.length = 1
    · obtain ⟨x, rfl⟩ := List.length_eq_one_iff.1 e1
      obtain rfl : a + 1 = m := by simpa using hU
      have := merge_left tr A x V C n cap a b hA hV hn hV0 hc hcap (hSU x (by simp)) hSV (fun y hy => hF x (by simp) y hy) hpV hcmp w h
      rwa [show ((a : Int) + 1) = ((a + 1 : Nat) : Int) by simp] at this
    by_cases e2 : V.length = 1
    · obtain ⟨y, rfl⟩ := List.length_eq_one_iff.1 e2
      obtain rfl : m + 1 = b := by simpa using hV
      have := merge_right tr A U y C n cap a m hA hU (by omega) (by omega) hc hcap (hSV y (by simp)) hSU (fun x hx => hF x hx y (by simp)) hpU hcmp w h
      rwa [show ((m : Int) + 1) = ((m + 1 : Nat) : Int) by simp] at this
    exact merge_main tr A U V C n cap a m b hA hU hV hn (by omega) (by omega) hc hcap hSU hSV hF hpU hpV hcmp (ih.mono (by omega)) w h

set_option maxHeartbeats 8000000 in
set_option maxRecDepth 100000 in
theorem stable_any (tr : ∀ x y z, le x y → le y z → le x z) (d0 : List Rt) (n cap : Nat) (hn : d0.length = n) (hc : n ≤ cap) (hcap : n ≤ 1099511627776)
    (hS : ∀ x ∈ d0, S x) (hF : d0.Pairwise (Fit lt le)) (hcmp : CmpOk Tryz.prog 92 #[] S lt w0 G) (w : World) (h : RwR w0 G tl d0 w) :
    Calls Tryz.prog 103 #[.slice (some ⟨G, 0, none⟩) n cap, .int .i64 (n : Int), .func (.func 92) #[] #[]] w (SortPost le d0 (fun T w' => RwR w0 G tl T w')) := by
  have HIN := Lib.hid (fun A R C a b hA hR hn' hS' hF' w h => insertion_any (w0 := w0) (G := G) (tl := tl) tr A R C n cap a b hA hR hn' hc hcap hS' hF' hcmp w h)
  have HME := Lib.hid (merge_all (tl := tl) tr hc hcap hcmp (n + 1))
  have HNl := Lib.hid hn
  have HS := Lib.hid hS
  have HF := Lib.hid hF
  have hn40 : n ≤ 1099511627776 := by omega
  have HX0 : Hid (∃ D0 D R : List Rt, d0 = D0 ++ R ∧ Ahead le 20 D0 D ∧ D.length = 0 ∧ RwR w0 G tl (D ++ R) w) := Lib.hid ⟨[], [], d0, rfl, Ahead.nil _, rfl, h⟩
  clear hn hS hF hcmp h
  go_enter Tryz.func103, Tryz.ntmps103
  go_wp2_with fail
  go_loopw [7, 8] (fun av bv wr => ∃ a : Nat, av = .int .i64 a ∧ bv = .int .i64 ((a + 20 : Nat) : Int) ∧ a ≤ n ∧ Hid (∃ D0 D R : List Rt, d0 = D0 ++ R ∧ Ahead le 20 D0 D ∧ D.length = a ∧ RwR w0 G tl (D ++ R) wr)) (fun av _ _ => n - (intOf av).toNat)
  case atStart => exact ⟨0, rfl, rfl, by omega, HX0⟩
  case round =>
    obtain ⟨a, rfl, rfl, han, HX⟩ := hrel
    clear HX0
    by_cases hle : a + 20 ≤ n
    · have d : decide (((a + 20 : Nat) : Int) ≤ (n : Int)) = true := decide_eq_true (by omega)
      have d' : decide (a + 20 ≤ n) = true := decide_eq_true hle
      obtain ⟨D0, D, R, e1, e2, e3, e4⟩ := HX.out
      have hRl : R.length = n - a := by
        have h1 := congrArg List.length e1
        have h2 := e2.1
        have h3 := HNl.out
        rw [List.length_append] at h1
        omega
      have eR : R = R.take 20 ++ R.drop 20 := (List.take_append_drop _ _).symm
      have hl1 : (R.take 20).length = 20 := by rw [List.length_take]; omega
      have hl2 : (R.drop 20).length = n - a - 20 := by rw [List.length_drop]; omega
      generalize R.take 20 = B at *
      generalize R.drop 20 = C at *
      subst eR
      have K := Lib.hid (HIN.out D B C (a : Int) ((a + 20 : Nat) : Int) (by omega) (by omega) (by omega) (fun x hx => HS.out x (by rw [e1]; simp [hx])) (by
        have h := HF.out
        rw [e1] at h
        exact (List.pairwise_append.1 (List.pairwise_append.1 h).2.1).1) wr (by simpa using e4))
      have HE : Hid (∀ T w', T.Perm B → T.Pairwise le → RwR w0 G tl (D ++ T ++ C) w' → ∃ D0 D R : List Rt, d0 = D0 ++ R ∧ Ahead le 20 D0 D ∧ D.length = a + 20 ∧ RwR w0 G tl (D ++ R) w') := Lib.hid fun T w' h1 h2 h3 => ⟨D0 ++ B, D ++ T, C, by rw [e1]; simp, e2.snoc (by rw [h1.length_eq, hl1]) h1 h2, by rw [List.length_append, h1.length_eq, e3, hl1], h3⟩
      clear e1 e2 e3 e4 hRl hl1 hl2 HX
      go_wp2_with fail
      refine K.out.mono ?_
      rintro e w' ⟨rfl, T, h1, h2, h3⟩
      have HXE := Lib.hid (HE.out T w' h1 h2 h3)
      clear h1 h2 h3 K HE
      go_wp2
      go_roundw
      case rel => exact ⟨a + 20, by go_num, by go_num, hle, HXE⟩
      case measure => simp [intOf]; omega
    · have d : decide (((a + 20 : Nat) : Int) ≤ (n : Int)) = false := decide_eq_false (by omega)
      have d' : decide (a + 20 ≤ n) = false := decide_eq_false hle
      obtain ⟨D0, D, R, e1, e2, e3, e4⟩ := HX.out
      have hRl : R.length = n - a := by
        have h1 := congrArg List.length e1
        have h2 := e2.1
        have h3 := HNl.out
        rw [List.length_append] at h1
        omega
      have K := Lib.hid (HIN.out D R [] (a : Int) (n : Int) (by omega) (by omega) (by simp) (fun x hx => HS.out x (by rw [e1]; simp [hx])) (by
        have h := HF.out
        rw [e1] at h
        exact (List.pairwise_append.1 h).2.1) wr (by simpa using e4))
      have HE : Hid (∀ T w', T.Perm R → T.Pairwise le → RwR w0 G tl (D ++ T ++ []) w' → ∃ d, Chunks le 20 d0 d ∧ RwR w0 G tl d w') := Lib.hid fun T w' h1 h2 h3 => ⟨D ++ T, by rw [e1]; exact e2.2 _ _ (.last _ _ (by rw [h1.length_eq]; omega) h1 h2), by simpa using h3⟩
      clear e1 e2 e3 e4 hRl HX
      go_wp2_with fail
      refine K.out.mono ?_
      rintro e w2 ⟨rfl, T, h1, h2, h3⟩
      have HX1 := Lib.hid (HE.out T w2 h1 h2 h3)
      clear h1 h2 h3 K HE HIN d d' hle
      go_wp2_with fail
      go_loopw [6, 7, 8, 9] (fun sv _ _ _ wr => ∃ s : Nat, sv = .int .i64 s ∧ 0 < s ∧ s ≤ 4398046511104 ∧ Hid (∃ d, Chunks le s d0 d ∧ RwR w0 G tl d wr)) (fun sv _ _ _ _ => n - (intOf sv).toNat)
      case atStart => exact ⟨20, rfl, by omega, by omega, HX1⟩
      case round =>
        obtain ⟨s, rfl, hs0, hsm, HX⟩ := hrel
        clear HX1
        by_cases hsn : s < n
        · have d : decide ((s : Int) < (n : Int)) = true := decide_eq_true (by omega)
          have d' : decide (s < n) = true := decide_eq_true hsn
          have HX1 : Hid (∃ D0 D R0 R : List Rt, d0 = D0 ++ R0 ∧ Ahead le (2 * s) D0 D ∧ D.length = 0 ∧ Chunks le s R0 R ∧ RwR w0 G tl (D ++ R) wr) := Lib.hid (by
            obtain ⟨d, h1, h2⟩ := HX.out
            exact ⟨[], [], d0, d, rfl, Ahead.nil _, rfl, h1, h2⟩)
          clear HX
          go_wp2_with fail
          obtain ⟨wo, rfl⟩ : ∃ wo : World, wo = wr := ⟨_, rfl⟩
          go_loopw [7, 8] (fun av bv wr => ∃ a : Nat, av = .int .i64 a ∧ bv = .int .i64 ((a + 2 * s : Nat) : Int) ∧ a ≤ n ∧ Hid (∃ D0 D R0 R : List Rt, d0 = D0 ++ R0 ∧ Ahead le (2 * s) D0 D ∧ D.length = a ∧ Chunks le s R0 R ∧ RwR w0 G tl (D ++ R) wr)) (fun av _ _ => n - (intOf av).toNat)
          case atStart => exact ⟨0, rfl, by first | rfl | go_num | (congr 1; omega), by omega, HX1⟩
          case round =>
            obtain ⟨a, rfl, rfl, han2, HX⟩ := hrel
            clear HX1
            obtain ⟨D0, D, R0, R, e1, e2, e3, e4, e5⟩ := HX.out
            have hRl : R.length = n - a := by
              have h1 := congrArg List.length e1
              have h2 := e2.1
              have h3 := HNl.out
              have h4 := e4.length
              rw [List.length_append] at h1
              omega
            by_cases hle2 : a + 2 * s ≤ n
            · have d2 : decide (((a + 2 * s : Nat) : Int) ≤ (n : Int)) = true := decide_eq_true (by omega)
              have d2' : decide (a + 2 * s ≤ n) = true := decide_eq_true hle2
              obtain ⟨U0, U, T0, T, f1, f2, f3, f4, f5, f6⟩ := e4.full (by omega) hs0
              subst f1 f2
              have hTl : T.length = n - a - s := by rw [List.length_append] at hRl; omega
              obtain ⟨V0, V, X0, X, g1, g2, g3, g4, g5, g6⟩ := f6.full (by omega) hs0
              subst g1 g2
              have hXl : X.length = n - a - 2 * s := by rw [List.length_append] at hTl; omega
              have K := Lib.hid (HME.out D U V X a (a + s) (a + 2 * s) wr e3 (by omega) (by omega) (by omega) (by omega) (by omega) (by omega) (fun x hx => HS.out x (by rw [e1]; simp [f4.mem_iff.1 hx])) (fun x hx => HS.out x (by rw [e1]; simp [g4.mem_iff.1 hx]))
                (fit_of (by rw [← e1]; exact HF.out) f4 g4) f5 g5 (by simpa using e5))
              have HE : Hid (∀ Z w', Mrg le U V Z → RwR w0 G tl (D ++ Z ++ X) w' → ∃ D0 D R0 R : List Rt, d0 = D0 ++ R0 ∧ Ahead le (2 * s) D0 D ∧ D.length = a + 2 * s ∧ Chunks le s R0 R ∧ RwR w0 G tl (D ++ R) w') := Lib.hid fun Z w' h1 h2 => ⟨D0 ++ (U0 ++ V0), D ++ Z, X0, X, by rw [e1]; simp, e2.snoc (by rw [h1.length]; omega) (h1.1.trans (f4.append g4)) h1.2, by rw [List.length_append, h1.length]; omega, g6, h2⟩
              clear e1 e2 e3 e4 e5 f3 f4 f5 f6 g3 g4 g5 g6 HX hRl hTl hXl
              have i1 : ((a + 2 * s : Nat) : Int) = (a : Int) + 2 * (s : Int) := by omega
              have i2 : ((a + s : Nat) : Int) = (a : Int) + (s : Int) := by omega
              rw [i1, i2] at K
              rw [i1] at d2 ⊢
              go_wp2_with fail
              refine K.out.mono ?_
              rintro e w' ⟨rfl, Z, h1, h2⟩
              have HXE := Lib.hid (HE.out Z w' h1 h2)
              clear h1 h2 K HE i1 i2
              go_wp2
              go_roundw
              case rel => exact ⟨a + 2 * s, by go_num, by first | rfl | go_num | (congr 1; omega), hle2, HXE⟩
              case measure => simp [intOf]; omega
            · have d2 : decide (((a + 2 * s : Nat) : Int) ≤ (n : Int)) = false := decide_eq_false (by omega)
              have d2' : decide (a + 2 * s ≤ n) = false := decide_eq_false hle2
              have i1 : ((a + 2 * s : Nat) : Int) = (a : Int) + 2 * (s : Int) := by omega
              by_cases hms : a + s < n
              · have d3 : decide ((a : Int) + (s : Int) < (n : Int)) = true := decide_eq_true (by omega)
                have d3' : decide (a + s < n) = true := decide_eq_true hms
                obtain ⟨U0, U, T0, T, f1, f2, f3, f4, f5, f6⟩ := e4.full (by omega) hs0
                subst f1 f2
                have hTl : T.length = n - a - s := by rw [List.length_append] at hRl; omega
                obtain ⟨g4, g5⟩ := f6.all (by omega)
                have K := Lib.hid (HME.out D U T [] a (a + s) n wr e3 (by omega) (by omega) (by simp) (by omega) (by omega) (by omega) (fun x hx => HS.out x (by rw [e1]; simp [f4.mem_iff.1 hx])) (fun x hx => HS.out x (by rw [e1]; simp [g4.mem_iff.1 hx]))
                  (fit_of (R0 := []) (by rw [List.append_nil, ← e1]; exact HF.out) f4 g4) f5 g5 (by simpa using e5))
                have HE : Hid (∀ Z w', Mrg le U T Z → RwR w0 G tl (D ++ Z ++ []) w' → ∃ d, Chunks le (s * 2) d0 d ∧ RwR w0 G tl d w') := Lib.hid fun Z w' h1 h2 => ⟨D ++ Z, by
                  rw [e1, Nat.mul_comm]
                  exact e2.2 _ _ (.last _ _ (by rw [h1.length]; omega) (h1.1.trans (f4.append g4)) h1.2), by simpa using h2⟩
                clear e1 e2 e3 e4 e5 f3 f4 f5 f6 g4 g5 HX hRl hTl
                have i2 : ((a + s : Nat) : Int) = (a : Int) + (s : Int) := by omega
                rw [i2] at K
                rw [i1] at d2 ⊢
                go_wp2_with fail
                refine K.out.mono ?_
                rintro e w' ⟨rfl, Z, h1, h2⟩
                have HXE := Lib.hid (HE.out Z w' h1 h2)
                clear h1 h2 K HE i1 i2
                go_wp2
                go_roundw
                case rel => exact ⟨s * 2, by go_num, by omega, by omega, HXE⟩
                case measure => simp [intOf]; omega
              · have d3 : decide ((a : Int) + (s : Int) < (n : Int)) = false := decide_eq_false (by omega)
                have d3' : decide (a + s < n) = false := decide_eq_false hms
                have HXE : Hid (∃ d, Chunks le (s * 2) d0 d ∧ RwR w0 G tl d wr) := Lib.hid (by
                  obtain ⟨g4, g5⟩ := e4.all (by omega)
                  exact ⟨D ++ R, by
                    rw [e1, Nat.mul_comm]
                    exact e2.2 _ _ (.last _ _ (by omega) g4 g5), e5⟩)
                clear e1 e2 e3 e4 e5 HX hRl
                rw [i1] at d2 ⊢
                go_wp2
                go_roundw
                case rel => exact ⟨s * 2, by go_num, by omega, by omega, HXE⟩
                case measure => simp [intOf]; omega
        · have d : decide ((s : Int) < (n : Int)) = false := decide_eq_false (by omega)
          have d' : decide (s < n) = false := decide_eq_false hsn
          have HE : Hid (∃ T : List Rt, T.Perm d0 ∧ T.Pairwise le ∧ RwR w0 G tl T wr) := Lib.hid (by
            obtain ⟨d, h1, h2⟩ := HX.out
            obtain ⟨h3, h4⟩ := h1.all (by have := h1.length; have := HNl.out; omega)
            exact ⟨d, h3, h4, h2⟩)
          clear HX
          go_wp2
          go_end0
          exact ⟨rfl, HE.out⟩

theorem sortStable_any (tr : ∀ x y z, le x y → le y z → le x z) (d0 : List Rt) (n cap : Nat) (hn : d0.length = n) (hc : n ≤ cap) (hcap : n ≤ 1099511627776)
    (hS : ∀ x ∈ d0, S x) (hF : d0.Pairwise (Fit lt le)) (hcmp : CmpOk Tryz.prog 92 #[] S lt w0 G) (w : World) (h : RwR w0 G tl d0 w) :
    Calls Tryz.prog 91 #[.slice (some ⟨G, 0, none⟩) n cap, .func (.func 92) #[] #[]] w (SortPost le d0 (fun T w' => RwR w0 G tl T w')) := by
  have K := Lib.hid (stable_any tr d0 n cap hn hc hcap hS hF hcmp w h)
  clear hn hS hF hcmp h
  go_enter Tryz.func91, Tryz.ntmps91
  go_wp2_with fail
  refine K.out.mono ?_
  rintro e w' ⟨rfl, hT⟩
  have HT := Lib.hid hT
  clear hT
  go_wp2
  go_end0
  exact ⟨rfl, HT.out⟩
end Go.Proofs.YthchfdobdghdoaaGreat.Rws
end
