/-
  The walk of a stable sort's blocks: insertion.
-/
import Derived.Test.YtiimdgdimjjboaaStdI
namespace Go.Sg
open Go Go.RowKit
/-- What is asked of a comparison: in every world that the sort passes through. -/
def CmpOk (P : Program) (g : Nat) (lb : Array Value) (S : Int → Prop) (lt : Int → Int → Bool) (w0 : World) (G : Nat) : Prop :=
  ∀ (x y : Int) (w : World), S x → S y → MFrame (fun i => i = G) w0 w → Calls P g (#[.int .i64 x, .int .i64 y] ++ lb) w fun e w' => ∃ c : Int, e = .returned (.int .i64 c) ∧ decide (c < 0) = lt x y ∧ Below w.heap.size w w'
/-- A call that puts R in order. -/
def SortPost (le : Int → Int → Prop) (R : List Int) (Q : List Int → World → Prop) (e : Ending) (w' : World) : Prop := e = .returned (.tuple #[]) ∧ ∃ T, T.Perm R ∧ T.Pairwise le ∧ Q T w'
end Go.Sg
namespace Go.Proofs.Ytiimdgdimjjboaa
open Go Go.RowKit Go.Sg
variable {w0 w : World} {G : Nat} {tl : List Value} {c1 c2 : Value} {S : Int → Prop} {lt : Int → Int → Bool} {le : Int → Int → Prop}

set_option maxHeartbeats 4000000 in
set_option maxRecDepth 100000 in
theorem insertion_any (tr : ∀ x y z, le x y → le y z → le x z) (A R C : List Int) (n cap : Nat) (a b : Int) (hA : (A.length : Int) = a) (hR : a + R.length = b) (hn : b + C.length = n) (hc : n ≤ cap) (hcap : n ≤ 1099511627776)
    (hS : ∀ x ∈ R, S x) (hF : R.Pairwise (Fit lt le)) (hcmp : CmpOk Try.prog 53 #[c1, c2] S lt w0 G) (w : World) (h : RwI w0 G tl (A ++ R ++ C) w) :
    Calls Try.prog 86 #[.slice (some ⟨G, 0, none⟩) n cap, .int .i64 a, .int .i64 b, .func (.func 53) #[] #[c1, c2]] w (SortPost le R (fun T w' => RwI w0 G tl (A ++ T ++ C) w')) := by
  have hab : 0 ≤ a := by omega
  have hbn : b ≤ n := by omega
  have HCMP := Lib.hid hcmp
  by_cases h0 : R = []
  · subst h0
    have hba : b = a := by simpa using hR.symm
    have HX := Lib.hid h
    have d : decide (a + 1 < b) = false := decide_eq_false (by omega)
    clear h hA hn hF hS hR hcmp
    subst hba
    go_enter Try.func86, Try.ntmps86
    go_wp2_with fail
    go_loop [8] (fun i => i = .int .i64 (b + 1)) (fun _ => 0)
    case atStart => rfl
    case round =>
      subst hrel
      go_wp2
      go_end0
      exact ⟨rfl, [], List.Perm.refl _, List.Pairwise.nil, by simpa using HX.out⟩
  obtain ⟨r0, R', hR0⟩ := List.exists_cons_of_ne_nil h0
  have HX0 : Hid (∃ U V T : List Int, R = U ++ V ∧ U.length = 1 ∧ T.Perm U ∧ T.Pairwise le ∧ RwI w0 G tl (A ++ T ++ V ++ C) w) := Lib.hid ⟨[r0], R', [r0], hR0, rfl, List.Perm.refl _, List.pairwise_singleton _ _, by rw [hR0] at h; simpa using h⟩
  have HA := Lib.hid hA
  have HR := Lib.hid hR
  have HN := Lib.hid hn
  have HS := Lib.hid hS
  have HF := Lib.hid hF
  have hlR : 1 ≤ R.length := by rw [hR0]; simp
  have hab1 : a + 1 ≤ b := by omega
  clear h hA hR hn hS hF hR0 h0 hlR hcmp
  go_enter Try.func86, Try.ntmps86
  go_wp2_with fail
  go_loopw [8, 9] (fun i _ wr => ∃ m : Nat, i = .int .i64 (a + m) ∧ 1 ≤ m ∧ a + m ≤ b ∧ Hid (∃ U V T : List Int, R = U ++ V ∧ U.length = m ∧ T.Perm U ∧ T.Pairwise le ∧ RwI w0 G tl (A ++ T ++ V ++ C) wr)) (fun i _ _ => (b - intOf i).toNat)
  case atStart => exact ⟨1, rfl, Nat.le_refl _, by omega, HX0⟩
  case round =>
    obtain ⟨m, rfl, hm1, hmb, HX⟩ := hrel
    by_cases hlt : a + (m : Int) < b
    · have d : decide (a + (m : Int) < b) = true := decide_eq_true hlt
      obtain ⟨U, V, T, e1, e2, e3, e4, e5⟩ := HX.out
      have hV : V ≠ [] := fun e => by have := HR.out; have := congrArg List.length e1; rw [e] at this; simp at this; omega
      obtain ⟨y, V', rfl⟩ := List.exists_cons_of_ne_nil hV
      have HY : Hid (∃ T1 T2 : List Int, T = T1 ++ T2 ∧ T1.length = m ∧ (∀ s ∈ T2, le y s) ∧ RwI w0 G tl (A ++ T1 ++ y :: (T2 ++ V') ++ C) wr) := Lib.hid ⟨T, [], by simp, by rw [e3.length_eq, e2], fun s hs => absurd hs List.not_mem_nil, by simpa using e5⟩
      have HFT : Hid (∀ x ∈ T, Fit lt le x y) := Lib.hid fun x hx => by
        have hf := HF.out
        rw [e1] at hf
        exact (List.pairwise_append.1 hf).2.2 x (e3.mem_iff.1 hx) y List.mem_cons_self
      have HST : Hid (S y ∧ ∀ x ∈ T, S x) := Lib.hid ⟨HS.out y (by rw [e1]; simp), fun x hx => HS.out x (by rw [e1]; exact List.mem_append_left _ (e3.mem_iff.1 hx))⟩
      have HTP := Lib.hid e4
      have HEND : Hid (∀ (T1 T2 : List Int) (w' : World), T = T1 ++ T2 → (∀ s ∈ T2, le y s) → (T1 = [] ∨ ∃ x, T1.getLast? = some x ∧ le x y) → RwI w0 G tl (A ++ T1 ++ y :: (T2 ++ V') ++ C) w' → ∃ U V T : List Int, R = U ++ V ∧ U.length = m + 1 ∧ T.Perm U ∧ T.Pairwise le ∧ RwI w0 G tl (A ++ T ++ V ++ C) w') := Lib.hid fun T1 T2 w' h1 h2 h3 h4 => by
        subst h1
        exact ⟨U ++ [y], V', T1 ++ y :: T2, by rw [e1]; simp, by simp [e2], perm_ins e3, ins_stop tr e4 h2 h3, by simpa using h4⟩
      have HLEN : Hid (∀ (T1 T2 : List Int), T = T1 ++ T2 → (A ++ T1 ++ y :: (T2 ++ V') ++ C).length = n) := Lib.hid fun T1 T2 h => by
        have h1 := HA.out; have h2 := HR.out; have h3 := HN.out
        have h4 := congrArg List.length e1
        have h5 := e3.length_eq
        rw [h] at h5
        simp only [List.length_append, List.length_cons] at h4 h5 ⊢
        omega
      clear e1 e2 e3 e4 e5 HX hV HX0
      go_wp2_with fail
      go_loopw [9] (fun jv wr => ∃ t : Nat, jv = .int .i64 (a + t) ∧ t ≤ m ∧ Hid (∃ T1 T2 : List Int, T = T1 ++ T2 ∧ T1.length = t ∧ (∀ s ∈ T2, le y s) ∧ RwI w0 G tl (A ++ T1 ++ y :: (T2 ++ V') ++ C) wr)) (fun jv _ => (intOf jv - a).toNat)
      case atStart => exact ⟨m, rfl, Nat.le_refl _, HY⟩
      case round =>
        obtain ⟨t, rfl, htm, HZ⟩ := hrel
        clear HY
        by_cases ht0 : t = 0
        · subst ht0
          have d1 : decide (a < a + ((0 : Nat) : Int)) = false := decide_eq_false (by omega)
          have d2 : decide (a < a) = false := decide_eq_false (by omega)
          have HE : Hid (∀ n : Nat, ∃ U V T : List Int, R = U ++ V ∧ U.length = m + 1 ∧ T.Perm U ∧ T.Pairwise le ∧ RwI w0 G tl (A ++ T ++ V ++ C) (wr.drewN n)) := Lib.hid (fun n => by
            obtain ⟨T1, T2, f1, f2, f3, f4⟩ := HZ.out
            exact HEND.out T1 T2 _ f1 f3 (.inl (List.length_eq_zero_iff.1 f2)) (f4.drewN n))
          clear HZ
          go_wp2_with fail
          go_quiet (fail)
          go_wp2
          go_roundw
          case rel => exact ⟨m + 1, by go_num, by omega, by omega, Lib.hid (HE.out _)⟩
          case measure => simp [intOf]; omega
        · obtain ⟨t, rfl⟩ : ∃ s, t = s + 1 := ⟨t - 1, by omega⟩
          obtain ⟨T1, T2, f1, f2, f3, f4⟩ := HZ.out
          obtain ⟨T0, x, rfl⟩ := split_last (l := T1) (fun e => by rw [e] at f2; simp at f2)
          have hl0 : T0.length = t := by simpa using f2
          obtain ⟨J, hJ⟩ : ∃ J : Nat, a + (t : Int) = J := ⟨(a + t).toNat, by omega⟩
          have hJ1 : a + ((t + 1 : Nat) : Int) = (J : Int) + 1 := by omega
          have hAJ : A.length + t = J := by have := HA.out; omega
          have hx : (A ++ (T0 ++ [x]) ++ y :: (T2 ++ V') ++ C)[J]? = some x := by
            have e : A ++ (T0 ++ [x]) ++ y :: (T2 ++ V') ++ C = (A ++ T0) ++ x :: (y :: (T2 ++ V') ++ C) := by simp only [List.append_assoc, List.cons_append, List.nil_append]
            rw [e]
            exact get_mid _ _ _ _ (by rw [List.length_append]; omega)
          have hy : (A ++ (T0 ++ [x]) ++ y :: (T2 ++ V') ++ C)[J + 1]? = some y := by
            have e : A ++ (T0 ++ [x]) ++ y :: (T2 ++ V') ++ C = (A ++ (T0 ++ [x])) ++ y :: (T2 ++ V' ++ C) := by simp only [List.append_assoc, List.cons_append, List.nil_append]
            rw [e]
            exact get_mid _ _ _ _ (by simp only [List.length_append, List.length_cons, List.length_nil]; omega)
          have hsw : swL (A ++ (T0 ++ [x]) ++ y :: (T2 ++ V') ++ C) (J + 1) J = A ++ T0 ++ y :: (x :: T2 ++ V') ++ C := by
            rw [swL_comm]
            have e : A ++ (T0 ++ [x]) ++ y :: (T2 ++ V') ++ C = (A ++ T0) ++ x :: y :: (T2 ++ V' ++ C) := by simp only [List.append_assoc, List.cons_append, List.nil_append]
            rw [e, swL_next _ _ _ _ J (by rw [List.length_append]; omega)]
            simp only [List.append_assoc, List.cons_append, List.nil_append]
          have hlen := HLEN.out _ _ f1
          have hJn : J + 1 < n := by
            rw [← hlen]
            exact (List.getElem?_eq_some_iff.1 hy).1
          have hxT : x ∈ T := by rw [f1]; simp
          have hfit := HFT.out x hxT
          have HNO : Hid (lt y x = false → ∀ w', RwI w0 G tl (A ++ (T0 ++ [x]) ++ y :: (T2 ++ V') ++ C) w' → ∃ U V T : List Int, R = U ++ V ∧ U.length = m + 1 ∧ T.Perm U ∧ T.Pairwise le ∧ RwI w0 G tl (A ++ T ++ V ++ C) w') := Lib.hid fun e w' h => HEND.out (T0 ++ [x]) T2 w' f1 f3 (.inr ⟨x, by simp, hfit.2 e⟩) h
          have HYES : Hid (lt y x = true → ∀ w', RwI w0 G tl (A ++ T0 ++ y :: (x :: T2 ++ V') ++ C) w' → ∃ T1 T2 : List Int, T = T1 ++ T2 ∧ T1.length = t ∧ (∀ s ∈ T2, le y s) ∧ RwI w0 G tl (A ++ T1 ++ y :: (T2 ++ V') ++ C) w') := Lib.hid fun e w' h => ⟨T0, x :: T2, by rw [f1]; simp, hl0, fun s hs => by
            rcases List.mem_cons.1 hs with rfl | hs
            · exact hfit.1 e
            · exact f3 s hs, h⟩
          have hSx := HST.out.2 x hxT
          have hSy := HST.out.1
          have K : Hid (∀ w', RwI w0 G tl (A ++ (T0 ++ [x]) ++ y :: (T2 ++ V') ++ C) w' → Calls Try.prog 53 #[.int .i64 y, .int .i64 x, c1, c2] w' fun e w'' => ∃ c : Int, e = .returned (.int .i64 c) ∧ decide (c < 0) = lt y x ∧ Below w'.heap.size w' w'') := Lib.hid fun w' h => by
            have := HCMP.out y x w' hSy hSx h.fr
            simpa using this
          have HCELL : Hid (∀ w', RwI w0 G tl (A ++ (T0 ++ [x]) ++ y :: (T2 ++ V') ++ C) w' → (w'.cell? ⟨G, J, none⟩ = some (.int .i64 x)) ∧ w'.cell? ⟨G, (J + 1), none⟩ = some (.int .i64 y)) := Lib.hid fun w' h => by
            have r1 := h.at1 hx
            have r2 := h.at1 hy
            exact ⟨r1, r2⟩
          have HFREE : Hid (∀ w', RwI w0 G tl (A ++ (T0 ++ [x]) ++ y :: (T2 ++ V') ++ C) w' → (w'.frozen? ⟨G, J, none⟩ = false) ∧ w'.frozen? ⟨G, (J + 1), none⟩ = false) := Lib.hid fun w' h => ⟨h.blk.free _, h.blk.free _⟩
          have HSW : Hid (∀ w', RwI w0 G tl (A ++ (T0 ++ [x]) ++ y :: (T2 ++ V') ++ C) w' → RwI w0 G tl (A ++ T0 ++ y :: (x :: T2 ++ V') ++ C) ((w'.setCells G (J + 1) (intV x)).setCells G J (intV y))) := Lib.hid fun w' h => by
            have := h.swap1 hy hx
            rwa [hsw] at this
          have iJ0 : (0 : Int) ≤ (J : Int) := by omega
          have iJ1 : (J : Int) < (n : Int) := by omega
          have iK0 : (0 : Int) ≤ (J : Int) + 1 := by omega
          have iK1 : (J : Int) + 1 < (n : Int) := by omega
          have wJ := IntWalk.i64_in (J : Int) (by omega)
          have wK := IntWalk.i64_in ((J : Int) + 1) (by omega)
          have nJ : ((J : Int) + 1).toNat = J + 1 := by omega
          have dj : decide (a < (J : Int) + 1) = true := decide_eq_true (by omega)
          have hX1 := f4.drew
          have hc1 := HCELL.out _ hX1
          have HJ : Hid (a + (t : Int) = J) := Lib.hid hJ
          rw [hJ1]
          clear f1 f2 f3 f4 hx hy hsw hlen hfit hxT hSx hSy hl0 hAJ HZ hJ hJ1 HEND HLEN HFT HST
          cases hlx : lt y x
          all_goals
            rw [hlx] at K HNO HYES
            clear hlx
            go_wp2_with fail
            go_region_held3 (fun w' => (w'.cell? ⟨G, J, none⟩ = some (.int .i64 x)) ∧ w'.cell? ⟨G, (J + 1), none⟩ = some (.int .i64 y)) (first | exact HCELL.out _ (by assumption)) (first
              | (go_at_call 53; refine (K.out _ hX1).mono ?_; rintro e w2 ⟨c, rfl, hcd, hb2⟩; have hX2 := hX1.below hb2))
          · have HE := Lib.hid (HNO.out (by trivial) _ hX2)
            clear hX1 hX2 hc1 HNO HYES K HCELL HFREE HSW hb2
            go_wp2
            go_roundw
            case rel => exact ⟨m + 1, by go_num, by omega, by omega, HE⟩
            case measure => simp [intOf]; omega
          · obtain ⟨x0, y0⟩ := HCELL.out _ hX2
            obtain ⟨fx0, fy0⟩ := HFREE.out _ hX2
            have HD := Lib.hid (HYES.out (by trivial) _ (HSW.out _ hX2).drew)
            clear hX1 hX2 hc1 HNO HYES K HCELL HFREE HSW hb2
            go_wp2_with fail
            go_region_law (fail)
            all_goals
              clear x0 y0 fx0 fy0
              go_wp2
              go_roundw
              case rel => exact ⟨t, by rw [HJ.out], by omega, HD⟩
              case measure => have := HJ.out; simp [intOf]; omega
    · have HE : Hid (∃ T : List Int, T.Perm R ∧ T.Pairwise le ∧ RwI w0 G tl (A ++ T ++ C) wr) := Lib.hid (by
        obtain ⟨U, V, T, e1, e2, e3, e4, e5⟩ := HX.out
        have hV : V = [] := List.length_eq_zero_iff.1 (by have := HR.out; have := congrArg List.length e1; rw [List.length_append] at this; omega)
        subst hV
        rw [List.append_nil] at e1 e5
        subst e1
        exact ⟨T, e3, e4, e5⟩)
      clear HX HX0
      go_wp2
      go_end0
      obtain ⟨T, h1, h2, h3⟩ := HE.out
      exact ⟨rfl, T, h1, h2, by simpa using h3⟩
end Go.Proofs.Ytiimdgdimjjboaa
