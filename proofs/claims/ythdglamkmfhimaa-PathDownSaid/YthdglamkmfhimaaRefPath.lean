/-
  The references of chapter 8, and the head of its laws.
-/
import Derived.Test.YthdglamkmfhimaaPath
import Derived.Test.YthdglamkmfhimaaSame8
namespace Go.Proofs.Ythdglamkmfhimaa
open Go.RowKit Go.Sg

theorem ref8Right_any (n : Int) (hn : Num n) (w : World) : Calls Try.prog 15 #[.int .i64 n] w fun e w' => e = .returned (.bool (rightB n)) ∧ w' = w := by
  obtain ⟨n0, n1⟩ := hn
  go_enter Try.func15, Try.ntmps15
  go_wp2
  go_loop [3] (fun x => ∃ (c : Int) (j : Nat), x = .int .i64 c ∧ 1 ≤ c ∧ c ≤ 1024 ∧ j ≤ 10 ∧ Hid (c = 2 ^ j) ∧ Hid (j = 0 ∨ (2 : Int) ^ (j - 1) < n)) (fun x => (1024 - intOf x).toNat)
  case atStart => exact ⟨1, 0, rfl, by omega, by omega, by omega, Lib.hid (by simp), Lib.hid (.inl rfl)⟩
  case round =>
    obtain ⟨c, j, rfl, c0, c1, j1, HC, HJ⟩ := hrel
    by_cases h : c < n
    · have hb : decide (c < n) = true := decide_eq_true h
      by_cases h' : c < 1024
      · have hb' : decide (c < 1024) = true := decide_eq_true h'
        have hj2 : j < 10 := by
          have := HC.out
          rcases Nat.lt_or_ge j 10 with g | g
          · exact g
          · have := pow_mono' 10 j g
            have e : (2 : Int) ^ 10 = 1024 := by decide
            omega
        go_wp2
        go_round
        case rel => exact ⟨2 * c, j + 1, rfl, by omega, by have := HC.out; have e := pow_mono' (j + 1) 10 (by omega); rw [Int.pow_succ] at e; have e : (2 : Int) ^ 10 = 1024 := by decide
                                                           omega, by omega, Lib.hid (by have := HC.out; rw [Int.pow_succ]; omega), Lib.hid (.inr (by have := HC.out; simp only [Nat.add_sub_cancel]; omega))⟩
        case measure => simp [intOf]; omega
      · have hb' : decide (c < 1024) = false := decide_eq_false h'
        have HR := Lib.hid (refRight_end j1 HJ.out (.inr (by
          have := HC.out
          rcases Nat.lt_or_ge j 10 with g | g
          · have := pow_lt' j 10 g
            have e : (2 : Int) ^ 10 = 1024 := by decide
            omega
          · omega)))
        go_wp2
        go_ret
        exact ⟨congrArg (fun b => Ending.returned (Value.bool b)) (by rw [← HR.out, HC.out]), rfl⟩
    · have hb : decide (c < n) = false := decide_eq_false h
      have HR := Lib.hid (refRight_end j1 HJ.out (.inl (by have := HC.out; omega)))
      go_wp2
      go_ret
      exact ⟨congrArg (fun b => Ending.returned (Value.bool b)) (by rw [← HR.out, HC.out]), rfl⟩

theorem ref8Depth_any (n : Int) (hn : Num n) (w : World) : Calls Try.prog 17 #[.int .i64 n] w fun e w' => e = .returned (.int .i64 (depthI n)) ∧ w' = w := by
  cases h : rightB n with
  | false =>
    have K : Hid (∀ w, Calls Try.prog 15 #[.int .i64 n] w fun e w' => e = .returned (.bool false) ∧ w' = w) := Lib.hid fun w => by
      have := ref8Right_any n hn w; rwa [h] at this
    have HD := Lib.hid (show depthI n = 0 by simp [depthI, h])
    clear h
    go_enter Try.func17, Try.ntmps17
    go_wp2_with (go_at_call 15; (with_reducible refine (K.out _).mono ?_); rintro e w' ⟨rfl, rfl⟩)
    go_ret
    exact ⟨ret_i64 HD.out.symm, rfl⟩
  | true =>
    have K : Hid (∀ w, Calls Try.prog 15 #[.int .i64 n] w fun e w' => e = .returned (.bool true) ∧ w' = w) := Lib.hid fun w => by
      have := ref8Right_any n hn w; rwa [h] at this
    obtain ⟨D, hD, hn2⟩ := rightB_of h
    have HD := Lib.hid (show depthI n = D by rw [hn2, depthI_pow D hD])
    have HN := Lib.hid hn2
    clear h hn hn2
    go_enter Try.func17, Try.ntmps17
    go_wp2_with (go_at_call 15; (with_reducible refine (K.out _).mono ?_); rintro e w' ⟨rfl, rfl⟩)
    go_loop [0, 3] (fun x k => ∃ (c : Int) (i j : Nat), x = .int .i64 c ∧ k = .int .i64 j ∧ Hid (c = 2 ^ i) ∧ i + j = D ∧ 1 ≤ c ∧ c ≤ 1024) (fun x _ => (intOf x).toNat)
    case atStart => exact ⟨n, D, 0, rfl, rfl, HN, by omega, by rw [HN.out]; have := pow_le_62 D (by omega); omega, by rw [HN.out]; exact pow_mono' D 10 hD⟩
    case round =>
      obtain ⟨c, i, j, rfl, rfl, HC, hij, hc1, hc2⟩ := hrel
      by_cases h : 1 < c
      · have hi : 1 ≤ i := by
          have := HC.out
          rcases Nat.eq_zero_or_pos i with g | g
          · subst g; simp at this; omega
          · exact g
        have HH := Lib.hid (show c = 2 * 2 ^ (i - 1) by have := HC.out; have e : i = (i - 1) + 1 := by omega
                                                        rw [e, Int.pow_succ] at this; omega)
        go_wp2
        go_round
        case rel => exact ⟨c / 2, i - 1, j + 1, rfl, by go_num, Lib.hid (by have := HH.out; omega), by omega, by omega, by omega⟩
        case measure => simp [intOf]; omega
      · have HI : Hid (i = 0) := Lib.hid (by
          have h1 := HC.out
          rcases Nat.eq_zero_or_pos i with g | g
          · exact g
          · have := pow_mono' 1 i g; omega)
        go_wp2
        go_ret
        exact ⟨ret_i64 (by rw [HD.out]; have := HI.out; omega), rfl⟩

theorem ref8Nodes_any (n : Int) (hn : Num n) (w : World) : Calls Try.prog 19 #[.int .i64 n] w fun e w' => e = .returned (.int .i64 (nodesI n)) ∧ w' = w := by
  cases h : rightB n with
  | false =>
    have K : Hid (∀ w, Calls Try.prog 15 #[.int .i64 n] w fun e w' => e = .returned (.bool false) ∧ w' = w) := Lib.hid fun w => by
      have := ref8Right_any n hn w; rwa [h] at this
    have HD := Lib.hid (show nodesI n = 0 by simp [nodesI, h])
    clear h
    go_enter Try.func19, Try.ntmps19
    go_wp2_with (go_at_call 15; (with_reducible refine (K.out _).mono ?_); rintro e w' ⟨rfl, rfl⟩)
    go_ret
    exact ⟨ret_i64 HD.out.symm, rfl⟩
  | true =>
    have K : Hid (∀ w, Calls Try.prog 15 #[.int .i64 n] w fun e w' => e = .returned (.bool true) ∧ w' = w) := Lib.hid fun w => by
      have := ref8Right_any n hn w; rwa [h] at this
    have hb := rightB_bd h
    obtain ⟨b0, b1⟩ := hb
    have HD := Lib.hid (show nodesI n = 2 * n - 1 by simp [nodesI, h])
    clear h hn
    go_enter Try.func19, Try.ntmps19
    go_wp2_with (go_at_call 15; (with_reducible refine (K.out _).mono ?_); rintro e w' ⟨rfl, rfl⟩)
    go_ret
    exact ⟨ret_i64 HD.out.symm, rfl⟩

theorem ref8Path_any (n l : Int) (hn : Num n) (w : World) :
    Calls Try.prog 22 #[.int .i64 n, .int .i64 l] w (RetSl (ints (pathL n l)) w) := by
  have KR : Hid (∀ w, Calls Try.prog 15 #[.int .i64 n] w fun e w' => e = .returned (.bool (rightB n)) ∧ w' = w) := Lib.hid fun w => ref8Right_any n hn w
  cases hb : hasB n l with
  | false =>
    have HP := Lib.hid (show ints (pathL n l) = [] by simp [pathL, hb, ints])
    have hcs : rightB n = false ∨ l < 0 ∨ n ≤ l := by
      cases hr : rightB n with
      | false => exact .inl rfl
      | true =>
        simp [hasB, hr] at hb
        omega
    clear hb
    cases hr : rightB n with
    | false =>
      rw [hr] at KR
      clear hcs hr
      go_enter Try.func22, Try.ntmps22
      go_wp2_with (go_at_call 15; (with_reducible refine (KR.out _).mono ?_); rintro e w' ⟨rfl, rfl⟩)
      go_ret
      exact ⟨_, rfl, by rw [HP.out]; exact .inl ⟨rfl, none, 0, rfl⟩, Below.refl _ _⟩
    | true =>
      rw [hr] at KR hcs
      have hcs2 : l < 0 ∨ n ≤ l := by simpa using hcs
      clear hcs hr
      by_cases hl : l < 0
      · have b0 : decide (l < 0) = true := decide_eq_true hl
        clear hcs2
        go_enter Try.func22, Try.ntmps22
        go_wp2_with (go_at_call 15; (with_reducible refine (KR.out _).mono ?_); rintro e w' ⟨rfl, rfl⟩)
        go_ret
        exact ⟨_, rfl, by rw [HP.out]; exact .inl ⟨rfl, none, 0, rfl⟩, Below.refl _ _⟩
      · have b0 : decide (l < 0) = false := decide_eq_false hl
        have hl2 : n ≤ l := by omega
        clear hcs2
        go_enter Try.func22, Try.ntmps22
        go_wp2_with (go_at_call 15; (with_reducible refine (KR.out _).mono ?_); rintro e w' ⟨rfl, rfl⟩)
        go_ret
        exact ⟨_, rfl, by rw [HP.out]; exact .inl ⟨rfl, none, 0, rfl⟩, Below.refl _ _⟩
  | true =>
    obtain ⟨D, hD, hn2, hdep, l0, l1⟩ := hasB_of hb
    have hr : rightB n = true := by simp [hasB] at hb; exact hb.1.1
    rw [hr] at KR
    have hnl : l < n := by rw [hn2]; exact l1
    have HP := Lib.hid (tailL_all hb hdep)
    have hbd := rightB_bd hr
    obtain ⟨bd0, bd1⟩ := hbd
    have HU : Hid (∀ d : Nat, d + 1 ≤ D → (nodeI n l ((d + 1 : Nat) : Int) - 1) / 2 = nodeI n l (d : Int)) := Lib.hid fun d hd => by rw [hn2]; exact node_up hD l0 l1 d hd
    have HB : Hid (∀ d : Nat, d ≤ D → 0 ≤ nodeI n l (d : Int) ∧ nodeI n l (d : Int) < 2048 ∧ (0 < nodeI n l (d : Int) ↔ 0 < d)) := Lib.hid fun d hd => by
      rw [hn2]
      have h1 := node_bd hD l0 l1 d hd
      have h2 := pow_mono' (d + 1) 11 (by omega)
      have h3 := pow_le_62 d (by omega)
      have e : (2 : Int) ^ 11 = 2048 := by decide
      refine ⟨by omega, by omega, ?_⟩
      rcases Nat.eq_zero_or_pos d with g | g
      · subst g; simp at h1 ⊢; omega
      · have := pow_mono' 1 d g
        omega
    have HN : Hid (n - 1 + l = nodeI n l (D : Int)) := Lib.hid (by
      rw [hn2, nodeI_at hD l0 l1 D (Nat.le_refl _)]
      simp)
    obtain ⟨i0, hi, hz0, hz1, hz2⟩ := info_parts info_int
    have HI := Lib.hid hi
    have HZ := Lib.hid hz0
    have HS := Lib.hid hz1
    have HY := Lib.hid hz2
    clear hi hz0 hz1 hz2 hb hr hdep hn2 l1 hn
    go_enter Try.func22, Try.ntmps22
    go_wp2_with (go_at_call 15; (with_reducible refine (KR.out _).mono ?_); rintro e w' ⟨rfl, rfl⟩)
    go_loopw [5, 6] (fun x v wr => ∃ d : Nat, d ≤ D ∧ x = .int .i64 (nodeI n l (d : Int)) ∧ Sl1 wr v (ints (tailL n l d (D - d + 1))) ∧ Below w'.heap.size w' wr) (fun x _ _ => (intOf x).toNat)
    case atStart =>
      refine ⟨D, Nat.le_refl _, ?_, ?_, (Below.refl _ _).alloc (Nat.le_refl _) _⟩
      · rw [← HN.out]
      · have := @Sl1.of_owns _ _ _ _ _ _ (owns_lit (w := w') (base := 0) (e := 3) #[.int .i64 (n - 1 + l)] (by omega) (by simp [maxLen]))
        rw [Nat.sub_self, tailL_cons]
        simpa [ints, tailL, HN.out] using this
    case round =>
      obtain ⟨d, hd, rfl, hs, hbel⟩ := hrel
      have HW := Lib.hid hbel
      have hbb := HB.out d hd
      obtain ⟨q0, q1, q2⟩ := hbb
      have HQ := Lib.hid q2
      clear q2 hbel
      have HXd : Hid (∀ d', d = d' + 1 → (nodeI n l (d : Int) - 1) / 2 = nodeI n l (d' : Int)) := Lib.hid fun d' h => by subst h; exact HU.out d' hd
      have HT : Hid (ints (tailL n l d (D - d + 1)) = .int .i64 (nodeI n l (d : Int)) :: ints (tailL n l (d + 1) (D - d))) := Lib.hid (by rw [tailL_cons]; rfl)
      generalize nodeI n l (d : Int) = x at *
      by_cases h : 0 < x
      · have hd1 : 0 < d := HQ.out.1 h
        obtain ⟨d', rfl⟩ : ∃ d', d = d' + 1 := ⟨d - 1, by omega⟩
        have HX := Lib.hid (HXd.out d' rfl)
        clear HXd
        rcases hs with ⟨e1, _⟩ | ⟨_, b, off, cap, rfl, hl, hm, hlt, hc⟩
        · exfalso
          rw [HT.out] at e1
          simp at e1
        · have hlen : (ints (tailL n l (d' + 1) (D - (d' + 1) + 1))).length = D - (d' + 1) + 1 := by simp [ints, tailL]
          rw [hlen] at hl
          have HC := Lib.hid hc
          have HL := Lib.hid hlen
          have HLT := Lib.hid hlt
          rw [hlen]
          clear hc hlen hlt HT
          go_wp2_with (first
            | (at_builtin; go_loud (refine wpList_append_own _ rfl (.tmp 31) (.tmp 32) 26 rfl 0 3 i0 (.int .i64 0) 1 8 Try.underlying26 HI.out HZ.out HS.out HY.out rfl (by decide) _ 1 [.int .i64 (nodeI n l (d' : Int))] rfl ?own ⟨b, off, none⟩ (D - (d' + 1) + 1) cap (ints (tailL n l (d' + 1) (D - (d' + 1) + 1))) rfl ?len ?c1 (ints_one _) (by unfold maxLen; omega) (by omega) (by omega) ?_))
            | fail)
          case own => 
            have := owns_lit (w := wr) (base := 0) (e := 3) #[.int .i64 ((x - 1) / 2)] (by omega) (by simp [maxLen])
            rw [HX.out] at this ⊢
            exact this
          case len => rw [HL.out]; omega
          case c1 =>
            intro j u hu
            obtain ⟨hj, rfl⟩ := List.getElem?_eq_some_iff.1 hu
            rw [addr_add]
            exact (((Below.refl wr.heap.size wr).alloc (Nat.le_refl _) _).cell (p := ⟨b, off + j, none⟩) HLT.out).trans (HC.out j hj)
          intro v' w2 hown2 hgrow _
          have HO2 := Lib.hid hown2
          have HB2 : Hid (Below w'.heap.size w' w2) := Lib.hid ((HW.out.alloc HW.out.size _).grown hgrow (by simp; have := HW.out.size; omega) (by intro k hk; simp [Value.ownBlock] at hk; have := HW.out.size; omega))
          clear hown2 hgrow
          go_wp2
          go_roundw
          case rel =>
            refine ⟨d', by omega, by rw [HX.out], ?_, HB2.out⟩
            have := Sl1.of_owns HO2.out
            rw [show D - d' + 1 = (D - (d' + 1) + 1) + 1 by omega, tailL_cons]
            simpa [ints] using this
          case measure => simp only [intOf]; omega
      · have hd0 : d = 0 := by
          have := HQ.out
          omega
        have HE := Lib.hid hd0
        have HSL := Lib.hid hs
        clear hd0 hs
        go_wp2
        go_ret
        refine ⟨_, rfl, ?_, HW.out⟩
        have := HSL.out
        rw [HE.out] at this
        rw [← HP.out]
        simpa using this

theorem ref8Node_any (n l d : Int) (hn : Num n) (hd : Num d) (w : World) :
    Calls Try.prog 20 #[.int .i64 n, .int .i64 l, .int .i64 d] w fun e w' => e = .returned (.int .i64 (nodeI n l d)) ∧ Below w.heap.size w w' := by
  have KP : Hid (∀ w, Calls Try.prog 22 #[.int .i64 n, .int .i64 l] w (RetSl (ints (pathL n l)) w)) := Lib.hid fun w => ref8Path_any n l hn w
  obtain ⟨d0, d1⟩ := hd
  cases hb : hasB n l with
  | false =>
    have HP := Lib.hid (show (ints (pathL n l)) = [] by simp [pathL, hb, ints])
    have HV := Lib.hid (show nodeI n l d = -1 by simp [nodeI, hb])
    clear hb
    generalize ints (pathL n l) = us at *
    by_cases c : d < 0
    · have b0 : decide (d < 0) = true := decide_eq_true c
      go_enter Try.func20, Try.ntmps20
      go_wp2_with (go_at_call 22; (with_reducible refine (KP.out _).mono ?_); rintro e w' ⟨v, rfl, hs, hbel⟩)
      obtain ⟨ao, cap, rfl⟩ := hs.len
      rw [HP.out]
      have HB := Lib.hid hbel
      clear hs hbel
      go_wp2
      go_ret
      exact ⟨ret_i64 HV.out.symm, HB.out⟩
    · have b0 : decide (d < 0) = false := decide_eq_false c
      have b1 : decide (0 ≤ d) = true := decide_eq_true (by omega)
      go_enter Try.func20, Try.ntmps20
      go_wp2_with (go_at_call 22; (with_reducible refine (KP.out _).mono ?_); rintro e w' ⟨v, rfl, hs, hbel⟩)
      obtain ⟨ao, cap, rfl⟩ := hs.len
      rw [HP.out]
      have HB := Lib.hid hbel
      clear hs hbel
      go_wp2
      rw [run_len_slice (h := show Try.prog.underlying 26 = some (.slice (Try.prog.elem 26)) from Try.underlying26)]
      simp only [Result.andThen_ok, Oper.upon_value]
      go_wp2
      go_ret
      exact ⟨ret_i64 HV.out.symm, HB.out⟩
  | true =>
    obtain ⟨D, hD, hn2, hdep, l0, l1⟩ := hasB_of hb
    have HL := Lib.hid (show (ints (pathL n l)).length = D + 1 by rw [ints_len, pathL_len hb, hdep]; rfl)
    have HA : Hid (∀ d : Nat, (h : d < (ints (pathL n l)).length) → (ints (pathL n l))[d] = .int .i64 (nodeI n l (d : Int))) := Lib.hid fun d h => by
      simp only [ints, List.getElem_map]
      rw [pathL_at hb]
    have HV : Hid (nodeI n l d = if hasB n l = true ∧ 0 ≤ d ∧ d ≤ depthI n then 2 ^ d.toNat - 1 + l / 2 ^ (depthI n - d).toNat else -1) := Lib.hid rfl
    rw [hdep, hb] at HV
    clear hb hn2 hdep l0 l1
    by_cases c : d < 0
    · have b0 : decide (d < 0) = true := decide_eq_true c
      go_enter Try.func20, Try.ntmps20
      go_wp2_with (go_at_call 22; (with_reducible refine (KP.out _).mono ?_); rintro e w' ⟨v, rfl, hs, hbel⟩)
      obtain ⟨ao, cap, rfl⟩ := hs.len
      rw [HL.out]
      have HB := Lib.hid hbel
      clear hs hbel
      go_wp2
      go_ret
      exact ⟨ret_i64 (by rw [HV.out, if_neg (by omega)]), HB.out⟩
    · have b0 : decide (d < 0) = false := decide_eq_false c
      obtain ⟨k, rfl⟩ : ∃ k : Nat, d = k := ⟨d.toNat, by omega⟩
      by_cases c2 : k < D + 1
      · have b2 : decide ((D : Int) + 1 ≤ (k : Int)) = false := decide_eq_false (by omega)
        go_enter Try.func20, Try.ntmps20
        go_wp2_with (go_at_call 22; (with_reducible refine (KP.out _).mono ?_); rintro e w' ⟨v, rfl, hs, hbel⟩)
        have HB := Lib.hid hbel
        rcases hs with ⟨e1, _⟩ | ⟨_, b, off, cap, rfl, hl, hm, hlt, hc⟩
        · exfalso
          have := HL.out
          rw [e1] at this
          simp at this
        · have hcell := hc k (by rw [HL.out]; exact c2)
          rw [HA.out] at hcell
          rw [HL.out] at hl ⊢
          clear hc hbel
          go_wp2
          rw [run_len_slice (h := show Try.prog.underlying 26 = some (.slice (Try.prog.elem 26)) from Try.underlying26)]
          simp only [Result.andThen_ok, Oper.upon_value]
          go_wp2
          go_ret
          exact ⟨rfl, HB.out⟩
      · have b2 : decide ((D : Int) + 1 ≤ (k : Int)) = true := decide_eq_true (by omega)
        go_enter Try.func20, Try.ntmps20
        go_wp2_with (go_at_call 22; (with_reducible refine (KP.out _).mono ?_); rintro e w' ⟨v, rfl, hs, hbel⟩)
        obtain ⟨ao, cap, rfl⟩ := hs.len
        rw [HL.out]
        have HB := Lib.hid hbel
        clear hs hbel
        go_wp2
        rw [run_len_slice (h := show Try.prog.underlying 26 = some (.slice (Try.prog.elem 26)) from Try.underlying26)]
        simp only [Result.andThen_ok, Oper.upon_value]
        go_wp2
        go_ret
        exact ⟨ret_i64 (by rw [HV.out, if_neg (by omega)]), HB.out⟩

theorem ref8Deep_any (n a b : Int) (hn : Num n) (w : World) : Calls Try.prog 11 #[.int .i64 n, .int .i64 a, .int .i64 b] w fun e w' => e = .returned (.int .i64 (deepI n a b)) ∧ Below w.heap.size w w' := by
  have KA : Hid (∀ w, Calls Try.prog 22 #[.int .i64 n, .int .i64 a] w (RetSl (ints (pathL n a)) w)) := Lib.hid fun w => ref8Path_any n a hn w
  have KB : Hid (∀ w, Calls Try.prog 22 #[.int .i64 n, .int .i64 b] w (RetSl (ints (pathL n b)) w)) := Lib.hid fun w => ref8Path_any n b hn w
  by_cases hab : hasB n a = true ∧ hasB n b = true
  · obtain ⟨ha, hb⟩ := hab
    obtain ⟨D, hD, hn2, hdep, a0, a1⟩ := hasB_of ha
    obtain ⟨D', _, hn3, hdep', b0, b1⟩ := hasB_of hb
    have hDD : D' = D := by rw [hdep] at hdep'; omega
    rw [hDD] at b1
    obtain ⟨m, hm, m0, m1⟩ := exists_first a0 a1 b0 b1
    have HV := Lib.hid (show deepI n a b = ((D - m : Nat) : Int) by rw [deepI, if_pos ⟨ha, hb⟩, hdep, Int.toNat_natCast, eqs_of hm m0 m1])
    have HLA := Lib.hid (show (ints (pathL n a)).length = D + 1 by rw [ints_len, pathL_len ha, hdep]; rfl)
    have HLB := Lib.hid (show (ints (pathL n b)).length = D + 1 by rw [ints_len, pathL_len hb, hdep]; rfl)
    have HAA : Hid (∀ d : Nat, (h : d < (ints (pathL n a)).length) → (ints (pathL n a))[d] = .int .i64 (nodeI n a (d : Int))) := Lib.hid fun d h => by
      simp only [ints, List.getElem_map]
      rw [pathL_at ha]
    have HAB : Hid (∀ d : Nat, (h : d < (ints (pathL n b)).length) → (ints (pathL n b))[d] = .int .i64 (nodeI n b (d : Int))) := Lib.hid fun d h => by
      simp only [ints, List.getElem_map]
      rw [pathL_at hb]
    have HEQ : Hid (∀ d : Nat, d ≤ D → (nodeI n a (d : Int) == nodeI n b (d : Int)) = decide (d ≤ D - m)) := Lib.hid fun d hd => by
      rw [hn2, nodeI_at hD a0 a1 d hd, nodeI_at hD b0 b1 d hd]
      by_cases hc : d ≤ D - m
      · rw [decide_eq_true hc, eq_up m1 (show m ≤ D - d by omega)]
        simp
      · rw [decide_eq_false hc, beq_eq_false_iff_ne]
        have := m0 (D - d) (by omega)
        omega
    clear ha hb hn2 hn3 hdep hdep' hDD m0 m1 a0 a1 b0 b1 hn
    go_enter Try.func11, Try.ntmps11
    go_wp2_with fail
    refine (KA.out _).mono ?_
    rintro e w1 ⟨v1, rfl, hs1, hb1⟩
    have HS1 := Lib.hid hs1
    have HB1 := Lib.hid hb1
    clear hs1 hb1
    go_wp2_with fail
    refine (KB.out _).mono ?_
    rintro e w2 ⟨v2, rfl, hs2, hb2⟩
    have hsa := HS1.out.below hb2
    have HB2 := Lib.hid (HB1.out.trans (hb2.mono HB1.out.size))
    clear hb2 HS1 HB1
    rcases hsa with ⟨e1, _⟩ | ⟨_, p1, o1, cap1, rfl, hl1, hm1, hlt1, hc1⟩
    · exfalso
      have := HLA.out
      rw [e1] at this
      simp at this
    rcases hs2 with ⟨e1, _⟩ | ⟨_, p2, o2, cap2, rfl, hl2, hm2, hlt2, hc2⟩
    · exfalso
      have := HLB.out
      rw [e1] at this
      simp at this
    rw [HLA.out] at hl1 ⊢
    rw [HLB.out] at hl2 ⊢
    have C1 := Lib.hid hc1
    have C2 := Lib.hid hc2
    have L1 := Lib.hid hlt1
    have L2 := Lib.hid hlt2
    clear hc1 hc2 hlt1 hlt2
    go_wp2
    go_loopw [9, 10] (fun x i wr => ∃ k : Nat, k ≤ D - m + 1 ∧ x = .int .i64 ((k : Int) - 1) ∧ i = .int .i64 k ∧ Below w2.heap.size w2 wr) (fun _ i _ => D + 1 - (intOf i).toNat)
    case atStart => exact ⟨0, by omega, rfl, rfl, Below.refl _ _⟩
    case round =>
      obtain ⟨k, hk, rfl, rfl, hW⟩ := hrel
      have HW := Lib.hid hW
      by_cases hlt : k < D + 1
      · have c1 : wr.cell? ⟨p1, o1 + k, none⟩ = some (.int .i64 (nodeI n a (k : Int))) := by rw [hW.cell L1.out, C1.out k (by rw [HLA.out]; exact hlt), HAA.out]
        have c2 : wr.cell? ⟨p2, o2 + k, none⟩ = some (.int .i64 (nodeI n b (k : Int))) := by rw [hW.cell L2.out, C2.out k (by rw [HLB.out]; exact hlt), HAB.out]
        have i0 : (0 : Int) ≤ (k : Int) := by omega
        have i1 : (k : Int) < ((D + 1 : Nat) : Int) := by omega
        have i2 : (k : Int) < (D : Int) + 1 := by omega
        have i3 : decide ((k : Int) < (D : Int) + 1) = true := decide_eq_true i2
        have hq := HEQ.out k (by omega)
        clear hW
        generalize nodeI n a (k : Int) = x at *
        generalize nodeI n b (k : Int) = y at *
        by_cases he : k ≤ D - m
        · rw [decide_eq_true he] at hq
          go_wp2_with fail
          go_quiet (fail)
          have HD := Lib.hid (show Below wr.heap.size wr (wr.drewN nq) from below_drewN' (Below.refl _ _))
          go_wp2
          go_roundw
          case rel => exact ⟨k + 1, by omega, by go_num, by go_num, HW.out.trans (HD.out.mono HW.out.size)⟩
          case measure => simp [intOf]; omega
        · rw [decide_eq_false he] at hq
          have HK : Hid (k = D - m + 1) := Lib.hid (by omega)
          go_wp2_with fail
          go_quiet (fail)
          have HD := Lib.hid (show Below wr.heap.size wr (wr.drewN nq) from below_drewN' (Below.refl _ _))
          go_wp2
          go_ret
          refine ⟨ret_i64 ?_, HB2.out.trans ((HW.out.trans (HD.out.mono HW.out.size)).mono HB2.out.size)⟩
          rw [HV.out]
          have := HK.out
          omega
      · have hq : k = D - m + 1 ∧ k = D + 1 := by omega
        have HK := Lib.hid hq
        have g1 : decide ((k : Int) < ((D + 1 : Nat) : Int)) = false := decide_eq_false (by omega)
        have g2 : decide ((k : Int) < (D : Int) + 1) = false := decide_eq_false (by omega)
        clear hq hW
        go_wp2_with fail
        go_quiet (fail)
        have HD := Lib.hid (show Below wr.heap.size wr (wr.drewN nq) from below_drewN' (Below.refl _ _))
        go_wp2
        go_ret
        refine ⟨ret_i64 ?_, HB2.out.trans ((HW.out.trans (HD.out.mono HW.out.size)).mono HB2.out.size)⟩
        rw [HV.out]
        have := HK.out
        omega
  · have HV := Lib.hid (show deepI n a b = -1 by rw [deepI, if_neg hab])
    by_cases ha : hasB n a = true
    · have hb : hasB n b = false := by
        cases h : hasB n b with
        | false => rfl
        | true => exact absurd ⟨ha, h⟩ hab
      have HLA := Lib.hid (show 0 < (ints (pathL n a)).length by rw [ints_len, pathL_len ha]; omega)
      have HLB := Lib.hid (show (ints (pathL n b)).length = 0 by rw [ints_len, pathL_not hb]; rfl)
      clear ha hb hab
      go_enter Try.func11, Try.ntmps11
      go_wp2_with fail
      refine (KA.out _).mono ?_
      rintro e w1 ⟨v1, rfl, hs1, hb1⟩
      obtain ⟨ao1, cap1, rfl⟩ := hs1.len
      have hp := HLA.out
      generalize (ints (pathL n a)).length = la at *
      have HB1 := Lib.hid hb1
      clear hs1 hb1
      go_wp2_with fail
      refine (KB.out _).mono ?_
      rintro e w2 ⟨v2, rfl, hs2, hb2⟩
      obtain ⟨ao2, cap2, rfl⟩ := hs2.len
      rw [HLB.out]
      have HB2 := Lib.hid (HB1.out.trans (hb2.mono HB1.out.size))
      clear hs2 hb2
      have g1 : decide ((0 : Int) < (la : Int)) = true := decide_eq_true (by omega)
      go_wp2
      go_loopw [9, 10] (fun x i wr => x = .int .i64 (-1) ∧ i = .int .i64 0 ∧ wr = w2) (fun _ i _ => 0)
      case atStart => exact ⟨rfl, rfl, rfl⟩
      case round =>
        obtain ⟨rfl, rfl, rfl⟩ := hrel
        go_wp2_with fail
        go_quiet (fail)
        have HD := Lib.hid (show Below wr.heap.size wr (wr.drewN nq) from below_drewN' (Below.refl _ _))
        go_wp2
        go_ret
        exact ⟨ret_i64 HV.out.symm, HB2.out.trans (HD.out.mono HB2.out.size)⟩
    · have ha : hasB n a = false := by simpa using ha
      have HLA := Lib.hid (show (ints (pathL n a)).length = 0 by rw [ints_len, pathL_not ha]; rfl)
      clear ha hab
      go_enter Try.func11, Try.ntmps11
      go_wp2_with fail
      refine (KA.out _).mono ?_
      rintro e w1 ⟨v1, rfl, hs1, hb1⟩
      obtain ⟨ao1, cap1, rfl⟩ := hs1.len
      rw [HLA.out]
      have HB1 := Lib.hid hb1
      clear hs1 hb1
      go_wp2_with fail
      refine (KB.out _).mono ?_
      rintro e w2 ⟨v2, rfl, hs2, hb2⟩
      obtain ⟨ao2, cap2, rfl⟩ := hs2.len
      generalize (ints (pathL n b)).length = lb at *
      have HB2 := Lib.hid (HB1.out.trans (hb2.mono HB1.out.size))
      clear hs2 hb2
      go_wp2
      go_loopw [9, 10] (fun x i wr => x = .int .i64 (-1) ∧ i = .int .i64 0 ∧ wr = w2) (fun _ i _ => 0)
      case atStart => exact ⟨rfl, rfl, rfl⟩
      case round =>
        obtain ⟨rfl, rfl, rfl⟩ := hrel
        go_wp2_with fail
        go_quiet (fail)
        have HD := Lib.hid (show Below wr.heap.size wr (wr.drewN nq) from below_drewN' (Below.refl _ _))
        go_wp2
        go_ret
        exact ⟨ret_i64 HV.out.symm, HB2.out.trans (HD.out.mono HB2.out.size)⟩

theorem shown8 (w : World) : Calls Try.prog 9 #[] w fun e w' => e = .returned (.bool true) ∧ Below w.heap.size w w' := by
  have E1 := Lib.hid (show pathL 4 2 = [0, 2, 5] by decide +kernel)
  have E2 := Lib.hid (show deepI 4 2 3 = 1 by decide +kernel)
  have E3 := Lib.hid (show deepI 4 1 2 = 0 by decide +kernel)
  go_enter Try.func9, Try.ntmps9
  go_wp2_with fail
  refine (pathPath_any 4 2 ⟨by omega, by omega⟩ _).mono ?_
  rintro e w1 ⟨v1, rfl, hs1, hb1⟩
  rw [E1.out] at hs1
  have HS1 := Lib.hid hs1
  have HB1 := Lib.hid hb1
  clear hs1 hb1
  go_wp2_with fail
  refine (same8_any _ _ [0, 2, 5] [0, 2, 5] _ (HS1.out.below ((Below.refl _ _).alloc (Nat.le_refl _) _)) (Sl1.of_owns (owns_lit (base := 0) #[.int .i64 0, .int .i64 2, .int .i64 5] (by omega) (by simp [maxLen])))).mono ?_
  rintro e w2 ⟨rfl, hb2⟩
  have HB2 := Lib.hid (HB1.out.trans ((((Below.refl w1.heap.size w1).alloc (Nat.le_refl _) _).trans (hb2.mono (by simp))).mono HB1.out.size))
  clear hb2
  go_wp2_with fail
  refine (pathDeep_any 4 2 3 ⟨by omega, by omega⟩ _).mono ?_
  rintro e w3 ⟨rfl, rfl⟩
  rw [E2.out]
  go_wp2_with fail
  refine (pathDeep_any 4 1 2 ⟨by omega, by omega⟩ _).mono ?_
  rintro e w4 ⟨rfl, rfl⟩
  rw [E3.out]
  go_wp2
  go_ret
  exact ⟨rfl, HB2.out⟩
end Go.Proofs.Ythdglamkmfhimaa
