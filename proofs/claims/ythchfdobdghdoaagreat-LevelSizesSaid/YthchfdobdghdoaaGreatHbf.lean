/-
  Joined texts: Path, RefPath.
-/
import Derived.Test.YthchfdobdghdoaaGreatHak
import Derived.Test.YthchfdobdghdoaaGreatHac
import Derived.Test.YthchfdobdghdoaaGreatHam
import Derived.Test.YthchfdobdghdoaaGreatHae
import Derived.Test.YthchfdobdghdoaaGreatHar
set_option linter.unusedVariables false
set_option linter.unusedSimpArgs false
set_option linter.unusedSectionVars false
set_option linter.unnecessarySimpa false
section

/-
  The walks of package path.
-/
namespace Go.Proofs.YthchfdobdghdoaaGreat
open Go.RowKit Go.Sg

theorem pathRight_any (n : Int) (_hn : Num n) (w : World) : Calls Tryz.prog 38 #[.int .i64 n] w fun e w' => e = .returned (.bool (rightB n)) ∧ w' = w := by
  by_cases h0 : 1 ≤ n
  · have b0 : decide (1 ≤ n) = true := decide_eq_true h0
    by_cases h1 : n ≤ 1024
    · have b1 : decide (n ≤ 1024) = true := decide_eq_true h1
      have HB := Lib.hid (right_bits h0 h1)
      go_enter Tryz.func38, Tryz.ntmps38
      go_wp2
      all_goals
        go_ret
        first
          | exact ⟨congrArg (fun b => Ending.returned (Value.bool b)) HB.out, rfl⟩
          | exact ⟨congrArg (fun b => Ending.returned (Value.bool b)) (by rw [← HB.out]; simp [*]), rfl⟩
    · have b1 : decide (n ≤ 1024) = false := decide_eq_false h1
      have HB : Hid (rightB n = false) := Lib.hid (by
        cases h : rightB n with
        | false => rfl
        | true => have := rightB_bd h; omega)
      go_enter Tryz.func38, Tryz.ntmps38
      go_wp2
      go_ret
      exact ⟨congrArg (fun b => Ending.returned (Value.bool b)) HB.out.symm, rfl⟩
  · have b0 : decide (1 ≤ n) = false := decide_eq_false h0
    have HB : Hid (rightB n = false) := Lib.hid (by
      cases h : rightB n with
      | false => rfl
      | true => have := rightB_bd h; omega)
    go_enter Tryz.func38, Tryz.ntmps38
    go_wp2
    go_ret
    exact ⟨congrArg (fun b => Ending.returned (Value.bool b)) HB.out.symm, rfl⟩

theorem pathDepth_any (n : Int) (hn : Num n) (w : World) : Calls Tryz.prog 66 #[.int .i64 n] w fun e w' => e = .returned (.int .i64 (depthI n)) ∧ w' = w := by
  cases h : rightB n with
  | false =>
    have K : Hid (∀ w, Calls Tryz.prog 38 #[.int .i64 n] w fun e w' => e = .returned (.bool false) ∧ w' = w) := Lib.hid fun w => by
      have := pathRight_any n hn w; rwa [h] at this
    have HD := Lib.hid (show depthI n = 0 by simp [depthI, h])
    clear h
    go_enter Tryz.func66, Tryz.ntmps66
    go_wp2_with (go_at_call 38; (with_reducible refine (K.out _).mono ?_); rintro e w' ⟨rfl, rfl⟩)
    go_ret
    exact ⟨ret_i64 HD.out.symm, rfl⟩
  | true =>
    have K : Hid (∀ w, Calls Tryz.prog 38 #[.int .i64 n] w fun e w' => e = .returned (.bool true) ∧ w' = w) := Lib.hid fun w => by
      have := pathRight_any n hn w; rwa [h] at this
    have hb := rightB_bd h
    obtain ⟨b0, b1⟩ := hb
    have KL : Hid (∀ w, Calls Tryz.prog 80 #[.int .u64 n] w fun e w' => e = .returned (.int .i64 (depthI n)) ∧ w' = w) := Lib.hid fun w => by
      have := log_any n ⟨by omega, by omega⟩ w
      rw [depthI, if_pos h]; exact this
    clear h hn
    go_enter Tryz.func66, Tryz.ntmps66
    go_wp2_with (first
      | (go_at_call 38; (with_reducible refine (K.out _).mono ?_); rintro e w' ⟨rfl, rfl⟩)
      | (go_at_call 80; (with_reducible refine (KL.out _).mono ?_); rintro e w' ⟨rfl, rfl⟩))
    go_ret
    exact ⟨rfl, rfl⟩

theorem pathNodes_any (n : Int) (hn : Num n) (w : World) : Calls Tryz.prog 32 #[.int .i64 n] w fun e w' => e = .returned (.int .i64 (nodesI n)) ∧ w' = w := by
  cases h : rightB n with
  | false =>
    have K : Hid (∀ w, Calls Tryz.prog 38 #[.int .i64 n] w fun e w' => e = .returned (.bool false) ∧ w' = w) := Lib.hid fun w => by
      have := pathRight_any n hn w; rwa [h] at this
    have HD := Lib.hid (show nodesI n = 0 by simp [nodesI, h])
    clear h
    go_enter Tryz.func32, Tryz.ntmps32
    go_wp2_with (go_at_call 38; (with_reducible refine (K.out _).mono ?_); rintro e w' ⟨rfl, rfl⟩)
    go_ret
    exact ⟨ret_i64 HD.out.symm, rfl⟩
  | true =>
    have K : Hid (∀ w, Calls Tryz.prog 38 #[.int .i64 n] w fun e w' => e = .returned (.bool true) ∧ w' = w) := Lib.hid fun w => by
      have := pathRight_any n hn w; rwa [h] at this
    have hb := rightB_bd h
    obtain ⟨b0, b1⟩ := hb
    have HD := Lib.hid (show nodesI n = 2 * n - 1 by simp [nodesI, h])
    clear h hn
    go_enter Tryz.func32, Tryz.ntmps32
    go_wp2_with (first
      | (go_at_call 38; (with_reducible refine (K.out _).mono ?_); rintro e w' ⟨rfl, rfl⟩))
    go_ret
    exact ⟨ret_i64 HD.out.symm, rfl⟩

theorem pathHas_any (n l : Int) (hn : Num n) (w : World) : Calls Tryz.prog 81 #[.int .i64 n, .int .i64 l] w fun e w' => e = .returned (.bool (hasB n l)) ∧ w' = w := by
  have HR : Hid (∀ w, Calls Tryz.prog 38 #[.int .i64 n] w fun e w' => e = .returned (.bool (rightB n)) ∧ w' = w) := Lib.hid fun w => pathRight_any n hn w
  have HD : Hid (hasB n l = (rightB n && decide (0 ≤ l) && decide (l < n))) := Lib.hid rfl
  generalize hasB n l = x at *
  cases h : rightB n with
  | false =>
    rw [h] at HR
    have hx : x = false := by have := HD.out; simpa [h] using this
    subst hx
    clear h HD
    go_enter Tryz.func81, Tryz.ntmps81
    go_wp2_with (go_at_call 38; (with_reducible refine (HR.out _).mono ?_); rintro e w' ⟨rfl, rfl⟩)
    go_ret
    exact ⟨rfl, rfl⟩
  | true =>
    rw [h] at HR
    cases h1 : decide (0 ≤ l) with
    | false =>
      have hx : x = false := by have := HD.out; simpa [h, h1] using this
      subst hx
      clear h HD
      go_enter Tryz.func81, Tryz.ntmps81
      go_wp2_with (go_at_call 38; (with_reducible refine (HR.out _).mono ?_); rintro e w' ⟨rfl, rfl⟩)
      go_ret
      exact ⟨rfl, rfl⟩
    | true =>
      have hx : x = decide (l < n) := by have := HD.out; simpa [h, h1] using this
      subst hx
      clear h HD
      go_enter Tryz.func81, Tryz.ntmps81
      go_wp2_with (go_at_call 38; (with_reducible refine (HR.out _).mono ?_); rintro e w' ⟨rfl, rfl⟩)
      all_goals
        go_ret
        exact ⟨by simp [*], rfl⟩

theorem pathNode_any (n l d : Int) (hn : Num n) (hd : Num d) (w : World) :
    Calls Tryz.prog 82 #[.int .i64 n, .int .i64 l, .int .i64 d] w fun e w' => e = .returned (.int .i64 (nodeI n l d)) ∧ Below w.heap.size w w' := by
  have KD : Hid (∀ w, Calls Tryz.prog 66 #[.int .i64 n] w fun e w' => e = .returned (.int .i64 (depthI n)) ∧ w' = w) := Lib.hid fun w => pathDepth_any n hn w
  have KH : Hid (∀ w, Calls Tryz.prog 81 #[.int .i64 n, .int .i64 l] w fun e w' => e = .returned (.bool (hasB n l)) ∧ w' = w) := Lib.hid fun w => pathHas_any n l hn w
  have HV : Hid (nodeI n l d = if hasB n l = true ∧ 0 ≤ d ∧ d ≤ depthI n then 2 ^ d.toNat - 1 + l / 2 ^ (depthI n - d).toNat else -1) := Lib.hid rfl
  have hlb : hasB n l = true → 0 ≤ l ∧ l < 1024 := fun h => by
    simp only [hasB, Bool.and_eq_true, decide_eq_true_eq] at h
    have := rightB_bd h.1.1
    omega
  obtain ⟨D0, D1⟩ := depthI_bd n
  generalize nodeI n l d = x at *
  generalize depthI n = D at *
  generalize hasB n l = hb at *
  obtain ⟨d0, d1⟩ := hd
  cases hb with
  | false =>
    have hx : x = -1 := by have := HV.out; simpa using this
    subst hx
    clear HV hlb
    go_enter Tryz.func82, Tryz.ntmps82
    go_wp2_with (first
      | (go_at_call 66; (with_reducible refine (KD.out _).mono ?_); rintro e w' ⟨rfl, rfl⟩)
      | (go_at_call 81; (with_reducible refine (KH.out _).mono ?_); rintro e w' ⟨rfl, rfl⟩))
    go_ret
    exact ⟨rfl, Below.refl _ _⟩
  | true =>
    obtain ⟨l0, l1⟩ := hlb rfl
    by_cases c1 : d < 0
    · have hx : x = -1 := by have := HV.out; rw [this, if_neg (by omega)]
      subst hx
      have b1 : decide (d < 0) = true := decide_eq_true c1
      clear HV hlb
      go_enter Tryz.func82, Tryz.ntmps82
      go_wp2_with (first
        | (go_at_call 66; (with_reducible refine (KD.out _).mono ?_); rintro e w' ⟨rfl, rfl⟩)
        | (go_at_call 81; (with_reducible refine (KH.out _).mono ?_); rintro e w' ⟨rfl, rfl⟩))
      go_ret
      exact ⟨rfl, Below.refl _ _⟩
    · have b1 : decide (d < 0) = false := decide_eq_false c1
      have d2 : 0 ≤ d := by omega
      by_cases c2 : D - d < 0
      · have hx : x = -1 := by have := HV.out; rw [this, if_neg (by omega)]
        subst hx
        have b2 : decide (D - d < 0) = true := decide_eq_true c2
        clear HV hlb
        go_enter Tryz.func82, Tryz.ntmps82
        go_wp2_with (first
          | (go_at_call 66; (with_reducible refine (KD.out _).mono ?_); rintro e w' ⟨rfl, rfl⟩)
          | (go_at_call 81; (with_reducible refine (KH.out _).mono ?_); rintro e w' ⟨rfl, rfl⟩))
        go_ret
        exact ⟨rfl, Below.refl _ _⟩
      · have hx : x = 2 ^ d.toNat - 1 + l / 2 ^ (D - d).toNat := by have := HV.out; rw [this, if_pos ⟨rfl, by omega, by omega⟩]
        have HX := Lib.hid hx
        have b2 : decide (D - d < 0) = false := decide_eq_false c2
        have d3 : d ≤ 10 := by omega
        have hp := pow_le_62 d.toNat (by omega)
        obtain ⟨p0, p1⟩ := hp
        have HW := Lib.hid (wrap64_pow d.toNat (by omega))
        have HQ : Hid (0 ≤ l / 2 ^ (D - d).toNat ∧ l / 2 ^ (D - d).toNat < 1024 ∧ (2 : Int) ^ d.toNat ≤ 1024) := Lib.hid (by
          have hq := pow_le_62 (D - d).toNat (by omega)
          have e : (2 : Int) ^ d.toNat ≤ 2 ^ 10 := by
            have : (2 : Nat) ^ d.toNat ≤ 2 ^ 10 := Nat.pow_le_pow_right (by decide) (by omega)
            exact_mod_cast this
          have e10 : (2 : Int) ^ 10 = 1024 := by decide
          refine ⟨Int.ediv_nonneg l0 (by omega), ?_, by omega⟩
          have := Int.ediv_le_self (2 ^ (D - d).toNat) l0
          omega)
        clear HV hlb hx
        go_enter Tryz.func82, Tryz.ntmps82
        go_wp2_with (first
          | (go_at_call 66; (with_reducible refine (KD.out _).mono ?_); rintro e w' ⟨rfl, rfl⟩)
          | (go_at_call 81; (with_reducible refine (KH.out _).mono ?_); rintro e w' ⟨rfl, rfl⟩))
        go_quiet (fail)
        go_wp2
        go_ret
        refine ⟨ret_i64 ?_, below_drewN' (Below.refl _ _)⟩
        rw [HX.out]
        obtain ⟨q0, q1, q2⟩ := HQ.out
        generalize l / 2 ^ (D - d).toNat = q at *
        unfold wrap64
        omega

theorem info_int : (Tryz.prog.info? 3).map (fun i => (i.zero, i.size, i.bytes)) = some (some (.int .i64 0), 1, 8) := by kernel_rfl

set_option maxRecDepth 100000 in
theorem pathPathN_any (n l : Int) (hn : Num n) (w : World) :
    Calls Tryz.prog 68 #[.int .i64 n, .int .i64 l] w (RetSlN (ints (pathL n l)) w) := by
  have KD : Hid (∀ w, Calls Tryz.prog 66 #[.int .i64 n] w fun e w' => e = .returned (.int .i64 (depthI n)) ∧ w' = w) := Lib.hid fun w => pathDepth_any n hn w
  have KH : Hid (∀ w, Calls Tryz.prog 81 #[.int .i64 n, .int .i64 l] w fun e w' => e = .returned (.bool (hasB n l)) ∧ w' = w) := Lib.hid fun w => pathHas_any n l hn w
  have KN : Hid (∀ d w, Num d → Calls Tryz.prog 82 #[.int .i64 n, .int .i64 l, .int .i64 d] w fun e w' => e = .returned (.int .i64 (nodeI n l d)) ∧ Below w.heap.size w w') := Lib.hid fun d w hd => pathNode_any n l d hn hd w
  cases hb : hasB n l with
  | false =>
    have HP := Lib.hid (show ints (pathL n l) = [] by simp [pathL, hb, ints])
    rw [hb] at KH
    clear hb
    go_enter Tryz.func68, Tryz.ntmps68
    go_wp2_with (go_at_call 81; (with_reducible refine (KH.out _).mono ?_); rintro e w' ⟨rfl, rfl⟩)
    go_ret
    exact ⟨_, rfl, by rw [HP.out]; exact .inl ⟨rfl, none, 0, rfl⟩, Below.refl _ _, fun k hk => by simp [Value.ownBlock] at hk⟩
  | true =>
    have HP := Lib.hid (show ints (pathL n l) = ints ((List.range ((depthI n).toNat + 1)).map (fun d : Nat => nodeI n l (d : Int))) by simp [pathL, hb])
    rw [hb] at KH
    clear hb
    obtain ⟨D0, D1⟩ := depthI_bd n
    obtain ⟨D, hD⟩ : ∃ D : Nat, depthI n = (D : Int) := ⟨(depthI n).toNat, by omega⟩
    rw [hD] at D0 D1 KD HP
    rw [Int.toNat_natCast] at HP
    clear hD
    generalize nodeI n l = f at *
    obtain ⟨i0, hi, hz0, hz1, hz2⟩ := info_parts info_int
    have HI := Lib.hid hi
    have HZ := Lib.hid hz0
    have HS := Lib.hid hz1
    have HY := Lib.hid hz2
    clear hi hz0 hz1 hz2
    have hD10 : D ≤ 10 := by omega
    go_enter Tryz.func68, Tryz.ntmps68
    go_wp2_with (first
      | (go_at_call 81; (with_reducible refine (KH.out _).mono ?_); rintro e w' ⟨rfl, rfl⟩)
      | (go_at_call 66; (with_reducible refine (KD.out _).mono ?_); rintro e w' ⟨rfl, rfl⟩))
    go_loopw [5, 14] (fun v i wr => ∃ k : Nat, k ≤ D + 1 ∧ i = .int .i64 k ∧ wr.ownsRow w'.heap.size 3 1 v k (ints ((List.range k).map (fun d : Nat => f (d : Int)))) ∧ Below w'.heap.size w' wr) (fun _ i _ => D + 1 - (intOf i).toNat)
    case atStart => exact ⟨0, by omega, rfl, World.ownsRow_nil _ _ _ _, Below.refl _ _⟩
    case round =>
      obtain ⟨k, hk, rfl, hown, hbel⟩ := hrel
      have HO := Lib.hid hown
      have HB := Lib.hid hbel
      clear hown hbel
      by_cases hlt : k < D + 1
      · go_wp2_with fail
        refine (KN.out (k : Int) _ ⟨by omega, by omega⟩).mono ?_
        rintro e w1 ⟨rfl, hb1⟩
        have HO1 := Lib.hid (ownsRow_below HO.out hb1)
        have HB1 := Lib.hid (HB.out.trans (hb1.mono HB.out.size))
        clear hb1 HO
        go_wp2_with (first
          | (at_builtin; go_loud (refine wpList_append_own _ rfl (.tmp 17) (.tmp 22) 36 rfl w'.heap.size 3 i0 (.int .i64 0) 1 8 Tryz.underlying36 HI.out HZ.out HS.out HY.out rfl (by decide) _ k _ rfl (HO1.out.alloc _) ⟨w1.heap.size, 0, none⟩ 1 1 [.int .i64 (f (k : Int))] rfl rfl ?c1 (fun u hu => by simp at hu; subst hu; rfl) (by unfold maxLen; omega) (by omega) (by simp; have := HB1.out.size; omega) ?_))
          | fail)
        case c1 => intro j u hu; cases j <;> simp_all [Addr.add]
        intro v' w2 hown2 hgrow _
        have hB2 : Below w'.heap.size w' w2 := (HB1.out.alloc HB1.out.size _).grown hgrow (by simp; have := HB1.out.size; omega) (owns_ge HO1.out)
        have HO2 := Lib.hid hown2
        have HB2 := Lib.hid hB2
        clear hown2 hgrow hB2 HO1 HB1
        go_wp2
        go_roundw
        case rel =>
          refine ⟨k + 1, by omega, by go_num, ?_, HB2.out⟩
          have := HO2.out
          rw [List.range_succ]
          simpa [ints] using this
        case measure => simp [intOf]; omega
      · have hk2 : k = D + 1 := by omega
        have HK := Lib.hid hk2
        clear hk2
        go_wp2
        go_ret
        refine ⟨_, rfl, ?_, HB.out, owns_ge HO.out⟩
        rw [HP.out, ← HK.out]
        exact Sl1.of_owns HO.out

theorem pathDeep_any (n a b : Int) (hn : Num n) (w : World) : Calls Tryz.prog 100 #[.int .i64 n, .int .i64 a, .int .i64 b] w fun e w' => e = .returned (.int .i64 (deepI n a b)) ∧ w' = w := by
  have KD : Hid (∀ w, Calls Tryz.prog 66 #[.int .i64 n] w fun e w' => e = .returned (.int .i64 (depthI n)) ∧ w' = w) := Lib.hid fun w => pathDepth_any n hn w
  have KA : Hid (∀ w, Calls Tryz.prog 81 #[.int .i64 n, .int .i64 a] w fun e w' => e = .returned (.bool (hasB n a)) ∧ w' = w) := Lib.hid fun w => pathHas_any n a hn w
  have KB : Hid (∀ w, Calls Tryz.prog 81 #[.int .i64 n, .int .i64 b] w fun e w' => e = .returned (.bool (hasB n b)) ∧ w' = w) := Lib.hid fun w => pathHas_any n b hn w
  cases ha : hasB n a with
  | false =>
    have HV := Lib.hid (show deepI n a b = -1 by simp [deepI, ha])
    rw [ha] at KA
    clear ha
    go_enter Tryz.func100, Tryz.ntmps100
    go_wp2_with (go_at_call 81; (first | (with_reducible refine (KA.out _).mono ?_) | (with_reducible refine (KB.out _).mono ?_)); rintro e w' ⟨rfl, rfl⟩)
    go_ret
    exact ⟨ret_i64 HV.out.symm, rfl⟩
  | true =>
    cases hb : hasB n b with
    | false =>
      have HV := Lib.hid (show deepI n a b = -1 by simp [deepI, hb])
      rw [ha] at KA
      rw [hb] at KB
      clear ha hb
      go_enter Tryz.func100, Tryz.ntmps100
      go_wp2_with (go_at_call 81; (first | (with_reducible refine (KA.out _).mono ?_) | (with_reducible refine (KB.out _).mono ?_)); rintro e w' ⟨rfl, rfl⟩)
      go_ret
      exact ⟨ret_i64 HV.out.symm, rfl⟩
    | true =>
      obtain ⟨D, hD, hn2, hdep, a0, a1⟩ := hasB_of ha
      obtain ⟨D', _, hn3, hdep', b0, b1⟩ := hasB_of hb
      have hDD : D' = D := by rw [hdep] at hdep'; omega
      rw [hDD] at b1
      have HV := Lib.hid (show deepI n a b = (eqs D a b : Int) by simp [deepI, ha, hb, hdep])
      rw [ha] at KA
      rw [hb] at KB
      rw [hdep] at KD
      obtain ⟨m, hm, m0, m1⟩ := exists_first a0 a1 b0 b1
      have HE := Lib.hid (eqs_of hm m0 m1)
      have H0 := Lib.hid m0
      have H1 := Lib.hid m1
      clear ha hb hn2 hn3 hdep hdep' hDD m0 m1 a1 b1 hn
      have hmm : (m : Int) ≤ D := by omega
      have hmd : (D : Int) ≤ 10 := by omega
      go_enter Tryz.func100, Tryz.ntmps100
      go_wp2_with (go_at_call 81; (first | (with_reducible refine (KA.out _).mono ?_) | (with_reducible refine (KB.out _).mono ?_)); rintro e w' ⟨rfl, rfl⟩)
      go_loop [1, 2, 7] (fun x y i => ∃ (k : Nat) (p q : Int), k ≤ m ∧ x = .int .i64 p ∧ y = .int .i64 q ∧ i = .int .i64 k ∧ Hid (p = a / 2 ^ k) ∧ Hid (q = b / 2 ^ k)) (fun _ _ i => m - (intOf i).toNat)
      case atStart => exact ⟨0, a, b, by omega, rfl, rfl, rfl, Lib.hid (by simp), Lib.hid (by simp)⟩
      case round =>
        obtain ⟨k, p, q, hk, rfl, rfl, rfl, HP, HQ⟩ := hrel
        by_cases hlt : k < m
        · have hne : (p != q) = true := by
            have := H0.out k hlt
            rw [← HP.out, ← HQ.out] at this
            simpa using this
          go_wp2
          go_round
          case rel => exact ⟨k + 1, p / 2, q / 2, by omega, rfl, rfl, by go_num, Lib.hid (by rw [half_pow, HP.out]), Lib.hid (by rw [half_pow, HQ.out])⟩
          case measure => simp [intOf]; omega
        · have hkm : k = m := by omega
          have hne : (p != q) = false := by
            have := H1.out
            rw [← hkm, ← HP.out, ← HQ.out] at this
            simp [this]
          have HK := Lib.hid hkm
          clear hkm
          go_wp2_with (go_at_call 66; (with_reducible refine (KD.out _).mono ?_); rintro e w' ⟨rfl, rfl⟩)
          go_ret
          refine ⟨ret_i64 ?_, rfl⟩
          rw [HV.out, HE.out]
          have := HK.out
          omega
end Go.Proofs.YthchfdobdghdoaaGreat
end
section

/-
  The references of chapter 8, and the head of its laws.
-/
namespace Go.Proofs.YthchfdobdghdoaaGreat
open Go.RowKit Go.Sg

set_option maxRecDepth 100000 in
theorem ref8Right_any (n : Int) (hn : Num n) (w : World) : Calls Tryz.prog 41 #[.int .i64 n] w fun e w' => e = .returned (.bool (rightB n)) ∧ w' = w := by
  obtain ⟨n0, n1⟩ := hn
  go_enter Tryz.func41, Tryz.ntmps41
  go_wp2
  go_loop [3] (fun x => ∃ (c : Int) (j : Nat), x = .int .i64 c ∧ 1 ≤ c ∧ c ≤ 1024 ∧ j ≤ 10 ∧ Hid (c = 2 ^ j) ∧ Hid (j = 0 ∨ (2 : Int) ^ (j - 1) < n)) (fun x => (1024 - intOf x).toNat)
  case atStart => exact ⟨1, 0, rfl, by omega, by omega, by omega, Lib.hid (by simp), Lib.hid (.inl rfl)⟩
  case round =>
    obtain ⟨c, j, rfl, c0, c1, j1, HC, HJ⟩ := hrel
    by_cases h : c < n
    · have hb : decide (c < n) = true := decide_eq_true h
      by_cases h' : c < 1024
      · have hb' : decide (c < 1024) = true := decide_eq_true h'
        have hj2 : j < 10 := by
          have := HC.out
          rcases Nat.lt_or_ge j 10 with g | g
          · exact g
          · have := pow_mono' 10 j g
            have e : (2 : Int) ^ 10 = 1024 := by decide
            omega
        go_wp2
        go_round
        case rel => exact ⟨2 * c, j + 1, rfl, by omega, by have := HC.out; have e := pow_mono' (j + 1) 10 (by omega); rw [Int.pow_succ] at e; have e : (2 : Int) ^ 10 = 1024 := by decide
                                                           omega, by omega, Lib.hid (by have := HC.out; rw [Int.pow_succ]; omega), Lib.hid (.inr (by have := HC.out; simp only [Nat.add_sub_cancel]; omega))⟩
        case measure => simp [intOf]; omega
      · have hb' : decide (c < 1024) = false := decide_eq_false h'
        have HR := Lib.hid (refRight_end j1 HJ.out (.inr (by
          have := HC.out
          rcases Nat.lt_or_ge j 10 with g | g
          · have := pow_lt' j 10 g
            have e : (2 : Int) ^ 10 = 1024 := by decide
            omega
          · omega)))
        go_wp2
        go_ret
        exact ⟨congrArg (fun b => Ending.returned (Value.bool b)) (by rw [← HR.out, HC.out]), rfl⟩
    · have hb : decide (c < n) = false := decide_eq_false h
      have HR := Lib.hid (refRight_end j1 HJ.out (.inl (by have := HC.out; omega)))
      go_wp2
      go_ret
      exact ⟨congrArg (fun b => Ending.returned (Value.bool b)) (by rw [← HR.out, HC.out]), rfl⟩

set_option maxRecDepth 100000 in
theorem ref8Depth_any (n : Int) (hn : Num n) (w : World) : Calls Tryz.prog 64 #[.int .i64 n] w fun e w' => e = .returned (.int .i64 (depthI n)) ∧ w' = w := by
  cases h : rightB n with
  | false =>
    have K : Hid (∀ w, Calls Tryz.prog 41 #[.int .i64 n] w fun e w' => e = .returned (.bool false) ∧ w' = w) := Lib.hid fun w => by
      have := ref8Right_any n hn w; rwa [h] at this
    have HD := Lib.hid (show depthI n = 0 by simp [depthI, h])
    clear h
    go_enter Tryz.func64, Tryz.ntmps64
    go_wp2_with (go_at_call 41; (with_reducible refine (K.out _).mono ?_); rintro e w' ⟨rfl, rfl⟩)
    go_ret
    exact ⟨ret_i64 HD.out.symm, rfl⟩
  | true =>
    have K : Hid (∀ w, Calls Tryz.prog 41 #[.int .i64 n] w fun e w' => e = .returned (.bool true) ∧ w' = w) := Lib.hid fun w => by
      have := ref8Right_any n hn w; rwa [h] at this
    obtain ⟨D, hD, hn2⟩ := rightB_of h
    have HD := Lib.hid (show depthI n = D by rw [hn2, depthI_pow D hD])
    have HN := Lib.hid hn2
    clear h hn hn2
    go_enter Tryz.func64, Tryz.ntmps64
    go_wp2_with (go_at_call 41; (with_reducible refine (K.out _).mono ?_); rintro e w' ⟨rfl, rfl⟩)
    go_loop [0, 3] (fun x k => ∃ (c : Int) (i j : Nat), x = .int .i64 c ∧ k = .int .i64 j ∧ Hid (c = 2 ^ i) ∧ i + j = D ∧ 1 ≤ c ∧ c ≤ 1024) (fun x _ => (intOf x).toNat)
    case atStart => exact ⟨n, D, 0, rfl, rfl, HN, by omega, by rw [HN.out]; have := pow_le_62 D (by omega); omega, by rw [HN.out]; exact pow_mono' D 10 hD⟩
    case round =>
      obtain ⟨c, i, j, rfl, rfl, HC, hij, hc1, hc2⟩ := hrel
      by_cases h : 1 < c
      · have hi : 1 ≤ i := by
          have := HC.out
          rcases Nat.eq_zero_or_pos i with g | g
          · subst g; simp at this; omega
          · exact g
        have HH := Lib.hid (show c = 2 * 2 ^ (i - 1) by have := HC.out; have e : i = (i - 1) + 1 := by omega
                                                        rw [e, Int.pow_succ] at this; omega)
        go_wp2
        go_round
        case rel => exact ⟨c / 2, i - 1, j + 1, rfl, by go_num, Lib.hid (by have := HH.out; omega), by omega, by omega, by omega⟩
        case measure => simp [intOf]; omega
      · have HI : Hid (i = 0) := Lib.hid (by
          have h1 := HC.out
          rcases Nat.eq_zero_or_pos i with g | g
          · exact g
          · have := pow_mono' 1 i g; omega)
        go_wp2
        go_ret
        exact ⟨ret_i64 (by rw [HD.out]; have := HI.out; omega), rfl⟩

set_option maxRecDepth 100000 in
theorem ref8Nodes_any (n : Int) (hn : Num n) (w : World) : Calls Tryz.prog 34 #[.int .i64 n] w fun e w' => e = .returned (.int .i64 (nodesI n)) ∧ w' = w := by
  cases h : rightB n with
  | false =>
    have K : Hid (∀ w, Calls Tryz.prog 41 #[.int .i64 n] w fun e w' => e = .returned (.bool false) ∧ w' = w) := Lib.hid fun w => by
      have := ref8Right_any n hn w; rwa [h] at this
    have HD := Lib.hid (show nodesI n = 0 by simp [nodesI, h])
    clear h
    go_enter Tryz.func34, Tryz.ntmps34
    go_wp2_with (go_at_call 41; (with_reducible refine (K.out _).mono ?_); rintro e w' ⟨rfl, rfl⟩)
    go_ret
    exact ⟨ret_i64 HD.out.symm, rfl⟩
  | true =>
    have K : Hid (∀ w, Calls Tryz.prog 41 #[.int .i64 n] w fun e w' => e = .returned (.bool true) ∧ w' = w) := Lib.hid fun w => by
      have := ref8Right_any n hn w; rwa [h] at this
    have hb := rightB_bd h
    obtain ⟨b0, b1⟩ := hb
    have HD := Lib.hid (show nodesI n = 2 * n - 1 by simp [nodesI, h])
    clear h hn
    go_enter Tryz.func34, Tryz.ntmps34
    go_wp2_with (go_at_call 41; (with_reducible refine (K.out _).mono ?_); rintro e w' ⟨rfl, rfl⟩)
    go_ret
    exact ⟨ret_i64 HD.out.symm, rfl⟩

set_option maxRecDepth 100000 in
theorem ref8Path_any (n l : Int) (hn : Num n) (w : World) :
    Calls Tryz.prog 70 #[.int .i64 n, .int .i64 l] w (RetSl (ints (pathL n l)) w) := by
  have KR : Hid (∀ w, Calls Tryz.prog 41 #[.int .i64 n] w fun e w' => e = .returned (.bool (rightB n)) ∧ w' = w) := Lib.hid fun w => ref8Right_any n hn w
  cases hb : hasB n l with
  | false =>
    have HP := Lib.hid (show ints (pathL n l) = [] by simp [pathL, hb, ints])
    have hcs : rightB n = false ∨ l < 0 ∨ n ≤ l := by
      cases hr : rightB n with
      | false => exact .inl rfl
      | true =>
        simp [hasB, hr] at hb
        omega
    clear hb
    cases hr : rightB n with
    | false =>
      rw [hr] at KR
      clear hcs hr
      go_enter Tryz.func70, Tryz.ntmps70
      go_wp2_with (go_at_call 41; (with_reducible refine (KR.out _).mono ?_); rintro e w' ⟨rfl, rfl⟩)
      go_ret
      exact ⟨_, rfl, by rw [HP.out]; exact .inl ⟨rfl, none, 0, rfl⟩, Below.refl _ _⟩
    | true =>
      rw [hr] at KR hcs
      have hcs2 : l < 0 ∨ n ≤ l := by simpa using hcs
      clear hcs hr
      by_cases hl : l < 0
      · have b0 : decide (l < 0) = true := decide_eq_true hl
        clear hcs2
        go_enter Tryz.func70, Tryz.ntmps70
        go_wp2_with (go_at_call 41; (with_reducible refine (KR.out _).mono ?_); rintro e w' ⟨rfl, rfl⟩)
        go_ret
        exact ⟨_, rfl, by rw [HP.out]; exact .inl ⟨rfl, none, 0, rfl⟩, Below.refl _ _⟩
      · have b0 : decide (l < 0) = false := decide_eq_false hl
        have hl2 : n ≤ l := by omega
        clear hcs2
        go_enter Tryz.func70, Tryz.ntmps70
        go_wp2_with (go_at_call 41; (with_reducible refine (KR.out _).mono ?_); rintro e w' ⟨rfl, rfl⟩)
        go_ret
        exact ⟨_, rfl, by rw [HP.out]; exact .inl ⟨rfl, none, 0, rfl⟩, Below.refl _ _⟩
  | true =>
    obtain ⟨D, hD, hn2, hdep, l0, l1⟩ := hasB_of hb
    have hr : rightB n = true := by simp [hasB] at hb; exact hb.1.1
    rw [hr] at KR
    have hnl : l < n := by rw [hn2]; exact l1
    have HP := Lib.hid (tailL_all hb hdep)
    have hbd := rightB_bd hr
    obtain ⟨bd0, bd1⟩ := hbd
    have HU : Hid (∀ d : Nat, d + 1 ≤ D → (nodeI n l ((d + 1 : Nat) : Int) - 1) / 2 = nodeI n l (d : Int)) := Lib.hid fun d hd => by rw [hn2]; exact node_up hD l0 l1 d hd
    have HB : Hid (∀ d : Nat, d ≤ D → 0 ≤ nodeI n l (d : Int) ∧ nodeI n l (d : Int) < 2048 ∧ (0 < nodeI n l (d : Int) ↔ 0 < d)) := Lib.hid fun d hd => by
      rw [hn2]
      have h1 := node_bd hD l0 l1 d hd
      have h2 := pow_mono' (d + 1) 11 (by omega)
      have h3 := pow_le_62 d (by omega)
      have e : (2 : Int) ^ 11 = 2048 := by decide
      refine ⟨by omega, by omega, ?_⟩
      rcases Nat.eq_zero_or_pos d with g | g
      · subst g; simp at h1 ⊢; omega
      · have := pow_mono' 1 d g
        omega
    have HN : Hid (n - 1 + l = nodeI n l (D : Int)) := Lib.hid (by
      rw [hn2, nodeI_at hD l0 l1 D (Nat.le_refl _)]
      simp)
    obtain ⟨i0, hi, hz0, hz1, hz2⟩ := info_parts info_int
    have HI := Lib.hid hi
    have HZ := Lib.hid hz0
    have HS := Lib.hid hz1
    have HY := Lib.hid hz2
    clear hi hz0 hz1 hz2 hb hr hdep hn2 l1 hn
    go_enter Tryz.func70, Tryz.ntmps70
    go_wp2_with (go_at_call 41; (with_reducible refine (KR.out _).mono ?_); rintro e w' ⟨rfl, rfl⟩)
    go_loopw [5, 6] (fun x v wr => ∃ d : Nat, d ≤ D ∧ x = .int .i64 (nodeI n l (d : Int)) ∧ Sl1 wr v (ints (tailL n l d (D - d + 1))) ∧ Below w'.heap.size w' wr) (fun x _ _ => (intOf x).toNat)
    case atStart =>
      refine ⟨D, Nat.le_refl _, ?_, ?_, (Below.refl _ _).alloc (Nat.le_refl _) _⟩
      · rw [← HN.out]
      · have := @Sl1.of_owns _ _ _ _ _ _ (owns_lit (w := w') (base := 0) (e := 3) #[.int .i64 (n - 1 + l)] (by omega) (by simp [maxLen]))
        rw [Nat.sub_self, tailL_cons]
        simpa [ints, tailL, HN.out] using this
    case round =>
      obtain ⟨d, hd, rfl, hs, hbel⟩ := hrel
      have HW := Lib.hid hbel
      have hbb := HB.out d hd
      obtain ⟨q0, q1, q2⟩ := hbb
      have HQ := Lib.hid q2
      clear q2 hbel
      have HXd : Hid (∀ d', d = d' + 1 → (nodeI n l (d : Int) - 1) / 2 = nodeI n l (d' : Int)) := Lib.hid fun d' h => by subst h; exact HU.out d' hd
      have HT : Hid (ints (tailL n l d (D - d + 1)) = .int .i64 (nodeI n l (d : Int)) :: ints (tailL n l (d + 1) (D - d))) := Lib.hid (by rw [tailL_cons]; rfl)
      generalize nodeI n l (d : Int) = x at *
      by_cases h : 0 < x
      · have hd1 : 0 < d := HQ.out.1 h
        obtain ⟨d', rfl⟩ : ∃ d', d = d' + 1 := ⟨d - 1, by omega⟩
        have HX := Lib.hid (HXd.out d' rfl)
        clear HXd
        rcases hs with ⟨e1, _⟩ | ⟨_, b, off, cap, rfl, hl, hm, hlt, hc⟩
        · exfalso
          rw [HT.out] at e1
          simp at e1
        · have hlen : (ints (tailL n l (d' + 1) (D - (d' + 1) + 1))).length = D - (d' + 1) + 1 := by simp [ints, tailL]
          rw [hlen] at hl
          have HC := Lib.hid hc
          have HL := Lib.hid hlen
          have HLT := Lib.hid hlt
          rw [hlen]
          clear hc hlen hlt HT
          go_wp2_with (first
            | (at_builtin; go_loud (refine wpList_append_own _ rfl (.tmp 31) (.tmp 32) 36 rfl 0 3 i0 (.int .i64 0) 1 8 Tryz.underlying36 HI.out HZ.out HS.out HY.out rfl (by decide) _ 1 [.int .i64 (nodeI n l (d' : Int))] rfl ?own ⟨b, off, none⟩ (D - (d' + 1) + 1) cap (ints (tailL n l (d' + 1) (D - (d' + 1) + 1))) rfl ?len ?c1 (ints_one _) (by unfold maxLen; omega) (by omega) (by omega) ?_))
            | fail)
          case own => 
            have := owns_lit (w := wr) (base := 0) (e := 3) #[.int .i64 ((x - 1) / 2)] (by omega) (by simp [maxLen])
            rw [HX.out] at this ⊢
            exact this
          case len => rw [HL.out]; omega
          case c1 =>
            intro j u hu
            obtain ⟨hj, rfl⟩ := List.getElem?_eq_some_iff.1 hu
            rw [addr_add]
            exact (((Below.refl wr.heap.size wr).alloc (Nat.le_refl _) _).cell (p := ⟨b, off + j, none⟩) HLT.out).trans (HC.out j hj)
          intro v' w2 hown2 hgrow _
          have HO2 := Lib.hid hown2
          have HB2 : Hid (Below w'.heap.size w' w2) := Lib.hid ((HW.out.alloc HW.out.size _).grown hgrow (by simp; have := HW.out.size; omega) (by intro k hk; simp [Value.ownBlock] at hk; have := HW.out.size; omega))
          clear hown2 hgrow
          go_wp2
          go_roundw
          case rel =>
            refine ⟨d', by omega, by rw [HX.out], ?_, HB2.out⟩
            have := Sl1.of_owns HO2.out
            rw [show D - d' + 1 = (D - (d' + 1) + 1) + 1 by omega, tailL_cons]
            simpa [ints] using this
          case measure => simp only [intOf]; omega
      · have hd0 : d = 0 := by
          have := HQ.out
          omega
        have HE := Lib.hid hd0
        have HSL := Lib.hid hs
        clear hd0 hs
        go_wp2
        go_ret
        refine ⟨_, rfl, ?_, HW.out⟩
        have := HSL.out
        rw [HE.out] at this
        rw [← HP.out]
        simpa using this

end Go.Proofs.YthchfdobdghdoaaGreat
end
