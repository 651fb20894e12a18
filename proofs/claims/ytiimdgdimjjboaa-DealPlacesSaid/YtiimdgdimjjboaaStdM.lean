/-
  The walk of a stable sort's merges: the last element goes into the block ahead of it.
-/
import Derived.Test.YtiimdgdimjjboaaStdK
namespace Go.Proofs.Ytiimdgdimjjboaa
open Go Go.RowKit Go.Sg
variable {w0 w : World} {G : Nat} {tl : List Value} {c1 c2 : Value} {S : Int → Prop} {lt : Int → Int → Bool} {le : Int → Int → Prop}

set_option maxHeartbeats 8000000 in
set_option maxRecDepth 100000 in
theorem merge_right (tr : ∀ x y z, le x y → le y z → le x z) (A U : List Int) (y : Int) (C : List Int) (n cap a m : Nat) (hA : A.length = a) (hU : a + U.length = m) (hn : m + 1 + C.length = n) (hU1 : 1 < U.length) (hc : n ≤ cap) (hcap : n ≤ 1099511627776)
    (hSy : S y) (hSU : ∀ x ∈ U, S x) (hF : ∀ x ∈ U, Fit lt le x y) (hpU : U.Pairwise le) (hcmp : CmpOk Try.prog 53 #[c1, c2] S lt w0 G) (w : World) (h : RwI w0 G tl (A ++ U ++ [y] ++ C) w) :
    Calls Try.prog 87 #[.slice (some ⟨G, 0, none⟩) n cap, .int .i64 (a : Int), .int .i64 (m : Int), .int .i64 ((m : Int) + 1), .func (.func 53) #[] #[c1, c2]] w (MrgPost le U [y] (fun T w' => RwI w0 G tl (A ++ T ++ C) w')) := by
  have ham : a + 1 < m := by omega
  have hmn : m < n := by omega
  have HCMP := Lib.hid hcmp
  have HA := Lib.hid hA
  have HU := Lib.hid hU
  have HSY := Lib.hid hSy
  have HSU := Lib.hid hSU
  have HF := Lib.hid hF
  have HPU := Lib.hid hpU
  have HX0 : Hid (RwI w0 G tl (A ++ U ++ [y] ++ C) w) := Lib.hid h
  have d0 : ((m : Int) - (a : Int) == 1) = false := by rw [beq_eq_false_iff_ne]; omega
  have d1 : (m : Int) + 1 - (m : Int) = 1 := by omega
  clear hcmp hA hU hn hSy hSU hF hpU h hU1
  go_enter Try.func87, Try.ntmps87
  go_wp2_with fail
  go_loopw [14, 15, 16] (fun iv jv _ wr => ∃ i j : Nat, iv = .int .i64 i ∧ jv = .int .i64 j ∧ a ≤ i ∧ i ≤ j ∧ j ≤ m ∧ Hid ((∀ x ∈ U.take (i - a), le x y) ∧ (∀ x ∈ U.drop (j - a), le y x)) ∧ Hid (RwI w0 G tl (A ++ U ++ [y] ++ C) wr)) (fun iv jv _ _ => (intOf jv - intOf iv).toNat)
  case atStart =>
    refine ⟨a, m, rfl, rfl, by omega, by omega, by omega, Lib.hid ⟨?_, ?_⟩, HX0⟩
    · rw [Nat.sub_self, List.take_zero]; intro y hy; cases hy
    · rw [List.drop_of_length_le (by have := HU.out; omega)]; intro y hy; cases hy
  case round =>
    obtain ⟨i, j, rfl, rfl, hai, hij, hjb, HP, HX⟩ := hrel
    clear HX0
    by_cases hlt : i < j
    · have d : decide ((i : Int) < (j : Int)) = true := decide_eq_true (by omega)
      have d' : decide (i < j) = true := decide_eq_true hlt
      obtain ⟨o, hm⟩ : ∃ o : Nat, ((i : Int) + (j : Int)) / 2 = o := ⟨(i + j) / 2, by omega⟩
      have hm1 : i ≤ o := by omega
      have hm2 : o < j := by omega
      have hsU : o - a < U.length := by have := HU.out; omega
      have hv : (A ++ U ++ [y] ++ C)[o]? = some U[o - a] := by
        rw [List.append_assoc (A ++ U)]
        exact get_in _ _ _ _ hsU o (by rw [HA.out]; omega)
      have hu : (A ++ U ++ [y] ++ C)[m]? = some y := by
        have e : A ++ U ++ [y] ++ C = (A ++ U) ++ y :: C := by simp only [List.append_assoc, List.cons_append, List.nil_append]
        rw [e]
        exact get_mid _ _ _ _ (by rw [List.length_append, HA.out]; exact HU.out)
      have hmU := List.getElem_mem hsU
      have HNO : Hid (lt y U[o - a] = false → (∀ x ∈ U.take (o + 1 - a), le x y)) := Lib.hid fun e => by
        rw [show o + 1 - a = o - a + 1 by omega]
        exact take_le tr HPU.out hsU ((HF.out _ hmU).2 e)
      have HYES : Hid (lt y U[o - a] = true → (∀ x ∈ U.drop (o - a), le y x)) := Lib.hid fun e => drop_ge tr HPU.out hsU ((HF.out _ hmU).1 e)
      have hSm := HSU.out _ hmU
      have hSy := HSY.out
      generalize U[o - a] = x at *
      have K : Hid (∀ w', RwI w0 G tl (A ++ U ++ [y] ++ C) w' → Calls Try.prog 53 #[.int .i64 y, .int .i64 x, c1, c2] w' fun e w'' => ∃ c : Int, e = .returned (.int .i64 c) ∧ decide (c < 0) = lt y x ∧ Below w'.heap.size w' w'') := Lib.hid fun w' h => by
        have := HCMP.out y x w' hSy hSm h.fr
        simpa using this
      have HCELL : Hid (∀ w', RwI w0 G tl (A ++ U ++ [y] ++ C) w' → (w'.cell? ⟨G, m, none⟩ = some (.int .i64 y)) ∧ (w'.cell? ⟨G, o, none⟩ = some (.int .i64 x))) := Lib.hid fun w' h => by
        have r1 := h.at1 hu
        have r2 := h.at1 hv
        exact ⟨r1, r2⟩
      have iM0 : (0 : Int) ≤ (m : Int) := by omega
      have iM1 : (m : Int) < (n : Int) := by omega
      have iA0 : (0 : Int) ≤ (o : Int) := by omega
      have iA1 : (o : Int) < (n : Int) := by omega
      have hX1 := HX.out.drew
      have hc1 := HCELL.out _ hX1
      go_upto_region 17 with fail
      clear hm hu hv hmU hSm hSy hsU
      cases hlx : lt y x
      all_goals
        rw [hlx] at K HNO HYES
        clear hlx
        go_wp2_with fail
        go_region_held3 (fun w' => (w'.cell? ⟨G, m, none⟩ = some (.int .i64 y)) ∧ (w'.cell? ⟨G, o, none⟩ = some (.int .i64 x))) (first | exact HCELL.out _ (by assumption)) (first
          | (go_at_call 53; refine (K.out _ hX1).mono ?_; rintro e w2 ⟨c, rfl, hcd, hb2⟩; have hX2 := hX1.below hb2))
      · have HN := Lib.hid (HNO.out (by trivial))
        have HX2 := Lib.hid hX2
        clear hX1 hX2 hc1 HNO HYES K HCELL hb2 HX
        go_wp2
        go_roundw
        case rel => exact ⟨o + 1, j, by go_num, rfl, by omega, by omega, hjb, Lib.hid ⟨HN.out, HP.out.2⟩, HX2⟩
        case measure => simp [intOf]; omega
      · have HN := Lib.hid (HYES.out (by trivial))
        have HX2 := Lib.hid hX2
        clear hX1 hX2 hc1 HNO HYES K HCELL hb2 HX
        go_wp2
        go_roundw
        case rel => exact ⟨i, o, rfl, rfl, hai, hm1, by omega, Lib.hid ⟨HP.out.1, HN.out⟩, HX2⟩
        case measure => simp [intOf]; omega
    · obtain rfl : i = j := by omega
      obtain ⟨s, hs⟩ : ∃ s, i = a + s := ⟨i - a, by omega⟩
      have hsU : s ≤ U.length := by have := HU.out; omega
      rw [show i - a = s by omega] at HP
      have HM : Hid (Mrg le U [y] (U.take s ++ y :: U.drop s)) := Lib.hid (by
        have := Mrg.in_left (u1 := U.take s) (u2 := U.drop s) (y := y) (by rw [List.take_append_drop]; exact HPU.out) HP.out.1 HP.out.2
        rwa [List.take_append_drop] at this)
      have HX0 : Hid (RwI w0 G tl (A ++ (U.take U.length ++ y :: U.drop U.length) ++ C) wr) := Lib.hid (by simpa using HX.out)
      have d : decide ((i : Int) < (i : Int)) = false := decide_eq_false (by omega)
      have HS := Lib.hid hs
      clear HP HX HPU HF HSU HSY hs
      go_wp2_with fail
      go_loopw [17] (fun kv wr => ∃ t : Nat, s ≤ t ∧ t ≤ U.length ∧ kv = .int .i64 ((a + t : Nat) : Int) ∧ Hid (RwI w0 G tl (A ++ (U.take t ++ y :: U.drop t) ++ C) wr)) (fun kv _ => (intOf kv).toNat)
      case atStart => exact ⟨U.length, hsU, Nat.le_refl _, by rw [HU.out], HX0⟩
      case round =>
        obtain ⟨t, hst, htU, rfl, HX⟩ := hrel
        clear HX0
        by_cases hlt2 : s < t
        · obtain ⟨t, rfl⟩ : ∃ q, t = q + 1 := ⟨t - 1, by omega⟩
          have ht1 : t < U.length := by omega
          obtain ⟨hx, hy⟩ := get_down A U y C t ht1 (a + t) (by rw [HA.out])
          have hsw := swL_down A U y C t ht1 (a + t) (by rw [HA.out])
          have HSW : Hid (∀ w', RwI w0 G tl (A ++ (U.take (t + 1) ++ y :: U.drop (t + 1)) ++ C) w' → RwI w0 G tl (A ++ (U.take t ++ y :: U.drop t) ++ C) ((w'.setCells G (a + t + 1) (intV U[t])).setCells G (a + t) (intV y))) := Lib.hid fun w' h => by
            have := h.swap1 hy hx
            rwa [hsw] at this
          generalize U[t] = x at *
          have e1 : a + (t + 1) = a + t + 1 := by omega
          rw [e1]
          have hmt : a + t + 1 ≤ m := by have := HU.out; omega
          obtain ⟨J, hJ⟩ : ∃ J, a + t = J := ⟨_, rfl⟩
          rw [hJ] at hx hy HSW hmt ⊢
          have HCELL : Hid (∀ w', RwI w0 G tl (A ++ (U.take (t + 1) ++ y :: U.drop (t + 1)) ++ C) w' → (w'.cell? ⟨G, J, none⟩ = some (.int .i64 x)) ∧ (w'.cell? ⟨G, (J + 1), none⟩ = some (.int .i64 y))) := Lib.hid fun w' h => by
            have r1 := h.at1 hx
            have r2 := h.at1 hy
            exact ⟨r1, r2⟩
          have HFREE : Hid (∀ w', RwI w0 G tl (A ++ (U.take (t + 1) ++ y :: U.drop (t + 1)) ++ C) w' → (w'.frozen? ⟨G, J, none⟩ = false) ∧ (w'.frozen? ⟨G, (J + 1), none⟩ = false)) := Lib.hid fun w' h => ⟨h.blk.free _, h.blk.free _⟩
          obtain ⟨x0, y0⟩ := HCELL.out _ HX.out
          obtain ⟨fx0, fy0⟩ := HFREE.out _ HX.out
          have d2 : decide ((i : Int) < (J : Int) + 1) = true := decide_eq_true (by have := HS.out; omega)
          have d3 : decide (i < J + 1) = true := decide_eq_true (by have := HS.out; omega)
          have iJ0 : (0 : Int) ≤ (J : Int) := by omega
          have iJ1 : (J : Int) < (n : Int) := by omega
          have iK0 : (0 : Int) ≤ (J : Int) + 1 := by omega
          have iK1 : (J : Int) + 1 < (n : Int) := by omega
          have wJ := IntWalk.i64_in (J : Int) (by omega)
          have wK := IntWalk.i64_in ((J : Int) + 1) (by omega)
          have nJ : ((J : Int) + 1).toNat = J + 1 := by omega
          have HD := Lib.hid (HSW.out _ HX.out).drew
          have HJ := Lib.hid hJ
          clear hx hy hsw HSW HCELL HFREE HX hJ e1
          go_wp2_with fail
          go_region_law (fail)
          all_goals
            clear x0 y0 fx0 fy0
            go_wp2
            go_roundw
            case rel => exact ⟨t, by omega, by omega, by rw [HJ.out], HD⟩
            case measure => simp [intOf]
        · obtain rfl : t = s := by omega
          have HE := Lib.hid HX.out
          have HS2 := Lib.hid HS.out.symm
          rw [HS2.out]
          have d2 : decide ((i : Int) < (i : Int)) = false := decide_eq_false (by omega)
          clear HX
          go_wp2
          go_end0
          exact ⟨rfl, U.take t ++ y :: U.drop t, HM.out, by simpa using HE.out⟩
end Go.Proofs.Ytiimdgdimjjboaa
