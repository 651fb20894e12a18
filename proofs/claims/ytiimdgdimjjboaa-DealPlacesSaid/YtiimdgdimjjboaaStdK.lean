/-
  The walk of a stable sort's merges: one element goes into a block.
-/
import Derived.Test.YtiimdgdimjjboaaStdJ
namespace Go.Proofs.Ytiimdgdimjjboaa
open Go Go.RowKit Go.Sg
variable {w0 w : World} {G : Nat} {tl : List Value} {c1 c2 : Value} {S : Int → Prop} {lt : Int → Int → Bool} {le : Int → Int → Prop}
/-- A call that merges U and V. -/
def MrgPost (le : Int → Int → Prop) (U V : List Int) (Q : List Int → World → Prop) (e : Ending) (w' : World) : Prop := e = .returned (.tuple #[]) ∧ ∃ T, Mrg le U V T ∧ Q T w'

set_option maxHeartbeats 8000000 in
set_option maxRecDepth 100000 in
theorem merge_left (tr : ∀ x y z, le x y → le y z → le x z) (A : List Int) (x : Int) (V C : List Int) (n cap a b : Nat) (hA : A.length = a) (hV : a + 1 + V.length = b) (hn : b + C.length = n) (hV0 : 0 < V.length) (hc : n ≤ cap) (hcap : n ≤ 1099511627776)
    (hSx : S x) (hSV : ∀ y ∈ V, S y) (hF : ∀ y ∈ V, Fit lt le x y) (hpV : V.Pairwise le) (hcmp : CmpOk Try.prog 53 #[c1, c2] S lt w0 G) (w : World) (h : RwI w0 G tl (A ++ [x] ++ V ++ C) w) :
    Calls Try.prog 87 #[.slice (some ⟨G, 0, none⟩) n cap, .int .i64 (a : Int), .int .i64 ((a : Int) + 1), .int .i64 (b : Int), .func (.func 53) #[] #[c1, c2]] w (MrgPost le [x] V (fun T w' => RwI w0 G tl (A ++ T ++ C) w')) := by
  have hbn : b ≤ n := by omega
  have hab1 : a + 1 < b := by omega
  have HCMP := Lib.hid hcmp
  have HA := Lib.hid hA
  have HV := Lib.hid hV
  have HSX := Lib.hid hSx
  have HSV := Lib.hid hSV
  have HF := Lib.hid hF
  have HPV := Lib.hid hpV
  have HX0 : Hid (RwI w0 G tl (A ++ [x] ++ V ++ C) w) := Lib.hid h
  have d0 : (a : Int) + 1 - (a : Int) = 1 := by omega
  clear hcmp hA hV hn hSx hSV hF hpV h hV0
  go_enter Try.func87, Try.ntmps87
  go_wp2_with fail
  go_loopw [10, 11, 12] (fun iv jv _ wr => ∃ i j : Nat, iv = .int .i64 i ∧ jv = .int .i64 j ∧ a + 1 ≤ i ∧ i ≤ j ∧ j ≤ b ∧ Hid ((∀ y ∈ V.take (i - (a + 1)), le y x) ∧ (∀ y ∈ V.drop (j - (a + 1)), le x y)) ∧ Hid (RwI w0 G tl (A ++ [x] ++ V ++ C) wr)) (fun iv jv _ _ => (intOf jv - intOf iv).toNat)
  case atStart =>
    refine ⟨a + 1, b, by go_num, rfl, by omega, by omega, by omega, Lib.hid ⟨?_, ?_⟩, HX0⟩
    · rw [Nat.sub_self, List.take_zero]; intro y hy; cases hy
    · rw [List.drop_of_length_le (by have := HV.out; omega)]; intro y hy; cases hy
  case round =>
    obtain ⟨i, j, rfl, rfl, hai, hij, hjb, HP, HX⟩ := hrel
    clear HX0
    by_cases hlt : i < j
    · have d : decide ((i : Int) < (j : Int)) = true := decide_eq_true (by omega)
      have d' : decide (i < j) = true := decide_eq_true hlt
      obtain ⟨m, hm⟩ : ∃ m : Nat, ((i : Int) + (j : Int)) / 2 = m := ⟨(i + j) / 2, by omega⟩
      have hm1 : i ≤ m := by omega
      have hm2 : m < j := by omega
      have hsV : m - (a + 1) < V.length := by have := HV.out; omega
      have hu : (A ++ [x] ++ V ++ C)[m]? = some V[m - (a + 1)] := get_in _ _ _ _ hsV m (by rw [List.length_append, HA.out]; simp; omega)
      have hv : (A ++ [x] ++ V ++ C)[a]? = some x := by
        have e : A ++ [x] ++ V ++ C = A ++ x :: (V ++ C) := by simp only [List.append_assoc, List.cons_append, List.nil_append]
        rw [e]
        exact get_mid _ _ _ _ HA.out
      have hmV := List.getElem_mem hsV
      have HYES : Hid (lt V[m - (a + 1)] x = true → (∀ y ∈ V.take (m + 1 - (a + 1)), le y x)) := Lib.hid fun e => by
        rw [show m + 1 - (a + 1) = m - (a + 1) + 1 by omega]
        exact take_le tr HPV.out hsV ((HF.out _ hmV).1 e)
      have HNO : Hid (lt V[m - (a + 1)] x = false → (∀ y ∈ V.drop (m - (a + 1)), le x y)) := Lib.hid fun e => drop_ge tr HPV.out hsV ((HF.out _ hmV).2 e)
      have hSm := HSV.out _ hmV
      have hSx := HSX.out
      generalize V[m - (a + 1)] = u at *
      have K : Hid (∀ w', RwI w0 G tl (A ++ [x] ++ V ++ C) w' → Calls Try.prog 53 #[.int .i64 u, .int .i64 x, c1, c2] w' fun e w'' => ∃ c : Int, e = .returned (.int .i64 c) ∧ decide (c < 0) = lt u x ∧ Below w'.heap.size w' w'') := Lib.hid fun w' h => by
        have := HCMP.out u x w' hSm hSx h.fr
        simpa using this
      have HCELL : Hid (∀ w', RwI w0 G tl (A ++ [x] ++ V ++ C) w' → (w'.cell? ⟨G, m, none⟩ = some (.int .i64 u)) ∧ (w'.cell? ⟨G, a, none⟩ = some (.int .i64 x))) := Lib.hid fun w' h => by
        have r1 := h.at1 hu
        have r2 := h.at1 hv
        exact ⟨r1, r2⟩
      have iM0 : (0 : Int) ≤ (m : Int) := by omega
      have iM1 : (m : Int) < (n : Int) := by omega
      have iA0 : (0 : Int) ≤ (a : Int) := by omega
      have iA1 : (a : Int) < (n : Int) := by omega
      have hX1 := HX.out.drew
      have hc1 := HCELL.out _ hX1
      go_upto_region 5 with fail
      clear hm hu hv hmV hSm hSx hsV
      cases hlx : lt u x
      all_goals
        rw [hlx] at K HNO HYES
        clear hlx
        go_wp2_with fail
        go_region_held3 (fun w' => (w'.cell? ⟨G, m, none⟩ = some (.int .i64 u)) ∧ (w'.cell? ⟨G, a, none⟩ = some (.int .i64 x))) (first | exact HCELL.out _ (by assumption)) (first
          | (go_at_call 53; refine (K.out _ hX1).mono ?_; rintro e w2 ⟨c, rfl, hcd, hb2⟩; have hX2 := hX1.below hb2))
      · have HN := Lib.hid (HNO.out (by trivial))
        have HX2 := Lib.hid hX2
        clear hX1 hX2 hc1 HNO HYES K HCELL hb2 HX
        go_wp2
        go_roundw
        case rel => exact ⟨i, m, rfl, rfl, hai, hm1, by omega, Lib.hid ⟨HP.out.1, HN.out⟩, HX2⟩
        case measure => simp [intOf]; omega
      · have HN := Lib.hid (HYES.out (by trivial))
        have HX2 := Lib.hid hX2
        clear hX1 hX2 hc1 HNO HYES K HCELL hb2 HX
        go_wp2
        go_roundw
        case rel => exact ⟨m + 1, j, by go_num, rfl, by omega, by omega, hjb, Lib.hid ⟨HN.out, HP.out.2⟩, HX2⟩
        case measure => simp [intOf]; omega
    · obtain rfl : i = j := by omega
      obtain ⟨s, rfl⟩ : ∃ s, i = a + 1 + s := ⟨i - (a + 1), by omega⟩
      have hsV : s ≤ V.length := by have := HV.out; omega
      rw [show a + 1 + s - (a + 1) = s by omega] at HP
      have hVs : V = V.take s ++ V.drop s := (List.take_append_drop _ _).symm
      have hl1 : (V.take s).length = s := by rw [List.length_take]; omega
      generalize V.take s = V1 at *
      generalize V.drop s = V2 at *
      subst hVs
      have HM : Hid (Mrg le [x] (V1 ++ V2) (V1 ++ x :: V2)) := Lib.hid (Mrg.in_right HPV.out HP.out.1 HP.out.2)
      have HX0 : Hid (RwI w0 G tl (A ++ (V1.take 0 ++ x :: V1.drop 0) ++ (V2 ++ C)) wr) := Lib.hid (by simpa using HX.out)
      obtain ⟨I, hI⟩ : ∃ I, a + 1 + s = I := ⟨_, rfl⟩
      rw [hI] at hai hjb ⊢
      have d : decide ((I : Int) < (I : Int)) = false := decide_eq_false (by omega)
      have HL1 := Lib.hid hl1
      clear HP HX HPV HF HSV HSX hl1 HV hsV
      go_wp2_with fail
      go_loopw [13] (fun kv wr => ∃ t : Nat, t ≤ s ∧ kv = .int .i64 ((a + t : Nat) : Int) ∧ Hid (RwI w0 G tl (A ++ (V1.take t ++ x :: V1.drop t) ++ (V2 ++ C)) wr)) (fun kv _ => (((a + s : Nat) : Int) - intOf kv).toNat)
      case atStart => exact ⟨0, by omega, rfl, HX0⟩
      case round =>
        obtain ⟨t, hts, rfl, HX⟩ := hrel
        clear HX0
        by_cases hlt2 : t < s
        · have ht1 : t < V1.length := by rw [HL1.out]; exact hlt2
          obtain ⟨hx, hy⟩ := get_up A x V1 (V2 ++ C) t ht1 (a + t) (by rw [HA.out])
          have hsw := swL_up A x V1 (V2 ++ C) t ht1 (a + t) (by rw [HA.out])
          have HSW : Hid (∀ w', RwI w0 G tl (A ++ (V1.take t ++ x :: V1.drop t) ++ (V2 ++ C)) w' → RwI w0 G tl (A ++ (V1.take (t + 1) ++ x :: V1.drop (t + 1)) ++ (V2 ++ C)) ((w'.setCells G (a + t) (intV V1[t])).setCells G (a + t + 1) (intV x))) := Lib.hid fun w' h => by
            have := h.swap1 hx hy
            rwa [hsw] at this
          generalize V1[t] = y at *
          obtain ⟨J, hJ⟩ : ∃ J, a + t = J := ⟨_, rfl⟩
          rw [hJ] at hx hy HSW ⊢
          have HCELL : Hid (∀ w', RwI w0 G tl (A ++ (V1.take t ++ x :: V1.drop t) ++ (V2 ++ C)) w' → (w'.cell? ⟨G, J, none⟩ = some (.int .i64 x)) ∧ (w'.cell? ⟨G, (J + 1), none⟩ = some (.int .i64 y))) := Lib.hid fun w' h => by
            have r1 := h.at1 hx
            have r2 := h.at1 hy
            exact ⟨r1, r2⟩
          have HFREE : Hid (∀ w', RwI w0 G tl (A ++ (V1.take t ++ x :: V1.drop t) ++ (V2 ++ C)) w' → (w'.frozen? ⟨G, J, none⟩ = false) ∧ (w'.frozen? ⟨G, (J + 1), none⟩ = false)) := Lib.hid fun w' h => ⟨h.blk.free _, h.blk.free _⟩
          obtain ⟨x0, y0⟩ := HCELL.out _ HX.out
          obtain ⟨fx0, fy0⟩ := HFREE.out _ HX.out
          have d2 : decide ((J : Int) < (I : Int) - 1) = true := decide_eq_true (by omega)
          have iJ0 : (0 : Int) ≤ (J : Int) := by omega
          have iJ1 : (J : Int) < (n : Int) := by omega
          have iK0 : (0 : Int) ≤ (J : Int) + 1 := by omega
          have iK1 : (J : Int) + 1 < (n : Int) := by omega
          have wK := IntWalk.i64_in ((J : Int) + 1) (by omega)
          have nJ : ((J : Int) + 1).toNat = J + 1 := by omega
          have HD := Lib.hid (HSW.out _ HX.out).drew
          have HJ := Lib.hid hJ
          clear hx hy hsw HSW HCELL HFREE HX hJ
          go_wp2_with fail
          go_region_law (fail)
          all_goals
            clear x0 y0 fx0 fy0
            go_wp2
            go_roundw
            case rel => exact ⟨t + 1, by omega, by have := HJ.out; congr 1; omega, HD⟩
            case measure => have := HJ.out; simp [intOf]; omega
        · obtain rfl : t = s := by omega
          have HE : Hid (RwI w0 G tl (A ++ (V1 ++ x :: V2) ++ C) wr) := Lib.hid (by
            have h := HX.out
            rw [List.take_of_length_le (Nat.le_of_eq HL1.out), List.drop_of_length_le (Nat.le_of_eq HL1.out)] at h
            simpa using h)
          obtain ⟨J, hJ⟩ : ∃ J, a + t = J := ⟨_, rfl⟩
          rw [hJ]
          have d2 : decide ((J : Int) < (I : Int) - 1) = false := decide_eq_false (by omega)
          clear HX
          go_wp2
          go_end0
          exact ⟨rfl, V1 ++ x :: V2, HM.out, by simpa using HE.out⟩
end Go.Proofs.Ytiimdgdimjjboaa
