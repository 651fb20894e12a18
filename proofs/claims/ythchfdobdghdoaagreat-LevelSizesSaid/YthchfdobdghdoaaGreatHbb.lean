/-
  Joined texts: DealD, DealP, DealM.
-/
import Derived.Test.YthchfdobdghdoaaGreatHay
import Derived.Deep.OwnRows
import Derived.Lib.SliceRun
import Derived.Laws.IdiomCopy
import Derived.BigRegion
set_option linter.unusedVariables false
set_option linter.unusedSimpArgs false
set_option linter.unusedSectionVars false
set_option linter.unnecessarySimpa false
section

/-
  The walks of slices.IndexFunc and slices.DeleteFunc with deal's predicate.
-/
namespace Go.Sg
open Go Go.RowKit
/-- those of the first j that are places -/
def keptD (f : Nat → Int) (j : Nat) : List Int := ((List.range j).map f).filter (fun x => decide (0 ≤ x))
theorem keptD_succ (f : Nat → Int) (j : Nat) : keptD f (j + 1) = if 0 ≤ f j then keptD f j ++ [f j] else keptD f j := by
  unfold keptD
  rw [List.range_succ, List.map_append, List.filter_append]
  by_cases h : 0 ≤ f j
  · simp [h]
  · simp [h]
theorem keptD_all {f : Nat → Int} {j : Nat} (h : ∀ r, r < j → 0 ≤ f r) : keptD f j = (List.range j).map f := by
  unfold keptD
  rw [List.filter_eq_self]
  intro x hx
  obtain ⟨r, hr, rfl⟩ := List.mem_map.1 hx
  simpa using h r (List.mem_range.1 hr)
theorem rowIs_fill {b n : Nat} {t : TypeId} : ∀ (vs : List Value) (o : Nat) {w : World} {f : Nat → Value}, w.rowIs b t n f → ∃ g : Nat → Value, (w.setCells b o vs).rowIs b t n g ∧ ∀ r, r < o → g r = f r
  | [], o, w, f, h => ⟨f, h, fun _ _ => rfl⟩
  | v :: vs, o, w, f, h => by
    obtain ⟨g, h1, h2⟩ := rowIs_fill vs (o + 1) (h.set o v)
    refine ⟨g, h1, fun r hr => ?_⟩
    rw [h2 r (by omega)]
    have : r ≠ o := by omega
    simp [this]
end Go.Sg
namespace Go.Proofs.YthchfdobdghdoaaGreat
open Go Go.RowKit Go.Sg
theorem deal1_any (x : Int) (w : World) : Calls Tryz.prog 109 #[.int .i64 x] w fun e w' => e = .returned (.bool (decide (x < 0))) ∧ w' = w := by
  go_enter Tryz.func109, Tryz.ntmps109
  go_wp2
  go_ret
  exact ⟨rfl, rfl⟩
set_option maxRecDepth 100000 in
theorem index_any (f : Nat → Int) (n cap G : Nat) (hn : n ≤ 1099511627776) (w : World) (h : w.rowIs G 3 n (fun r => .int .i64 (f r))) :
    Calls Tryz.prog 67 #[.slice (some ⟨G, 0, none⟩) n cap, .func (.func 109) #[] #[]] w fun e w' => ((∃ k : Nat, k < n ∧ f k < 0 ∧ (∀ r, r < k → 0 ≤ f r) ∧ e = .returned (.int .i64 k)) ∨ ((∀ r, r < n → 0 ≤ f r) ∧ e = .returned (.int .i64 (-1)))) ∧ w' = w := by
  have HR := Lib.hid h
  have KD := Lib.hid (fun x w' => deal1_any x w')
  clear h
  go_enter Tryz.func67, Tryz.ntmps67
  go_wp2_with fail
  go_loop [5, 8] (fun _ i => ∃ k : Nat, k ≤ n ∧ i = .int .i64 k ∧ Hid (∀ r, r < k → 0 ≤ f r)) (fun _ i => n - (intOf i).toNat)
  case atStart => exact ⟨0, by omega, rfl, Lib.hid (fun r hr => by omega)⟩
  case round =>
    obtain ⟨k, hk, rfl, HA⟩ := hrel
    by_cases hlt : k < n
    · have hd : decide ((k : Int) < (n : Int)) = true := decide_eq_true (by omega)
      have hd' : decide (k < n) = true := decide_eq_true hlt
      have k0 : (0 : Int) ≤ (k : Int) := by omega
      have k1 : (k : Int) < (n : Int) := by omega
      have c0 := HR.out.cell hlt
      have HX : Hid (f k < 0 → ((∃ k : Nat, k < n ∧ f k < 0 ∧ (∀ r, r < k → 0 ≤ f r) ∧ Ending.returned (.int .i64 (k : Int)) = .returned (.int .i64 k)))) := Lib.hid fun h => ⟨k, hlt, h, HA.out, rfl⟩
      have HY : Hid (¬ f k < 0 → ∀ r, r < k + 1 → 0 ≤ f r) := Lib.hid fun h r hr => by
        rcases Nat.lt_or_ge r k with h1 | h1
        · exact HA.out r h1
        · obtain rfl : r = k := by omega
          omega
      have HFK : Hid (∀ z, f k = z → True) := Lib.hid fun _ _ => trivial
      obtain ⟨z, hz⟩ : ∃ z, f k = z := ⟨_, rfl⟩
      rw [hz] at HX HY c0
      have HZ := Lib.hid hz
      clear hz
      by_cases hneg : z < 0
      · have dz : decide (z < 0) = true := decide_eq_true hneg
        go_wp2_with (first | (go_at_call 109; refine (KD.out _ _).mono ?_; rintro e w' ⟨rfl, rfl⟩) | fail)
        go_ret
        exact ⟨.inl ⟨k, hlt, by rw [HZ.out]; exact hneg, HA.out, rfl⟩, rfl⟩
      · have dz : decide (z < 0) = false := decide_eq_false hneg
        go_wp2_with (first | (go_at_call 109; refine (KD.out _ _).mono ?_; rintro e w' ⟨rfl, rfl⟩) | fail)
        go_round
        case rel => exact ⟨k + 1, by omega, by go_num, Lib.hid (HY.out hneg)⟩
        case measure => simp [intOf]; omega
    · obtain rfl : k = n := by omega
      have hd : decide ((k : Int) < (k : Int)) = false := by simp
      go_wp2
      go_ret
      exact ⟨.inr ⟨HA.out, rfl⟩, rfl⟩
theorem zero_int (w : World) : (zeroValue 3).run Tryz.prog w = .ok (.int .i64 0) w := by
  have := Tryz.zeroValue3
  first | exact this w | exact this | simpa using this w
set_option maxHeartbeats 4000000 in
set_option maxRecDepth 100000 in
theorem delete_any (f : Nat → Int) (n cap G : Nat) (hn : n ≤ 1099511627776) (hc : n ≤ cap) (hcm : cap ≤ maxLen) (w : World) (h : w.rowIs G 3 n (fun r => .int .i64 (f r))) :
    Calls Tryz.prog 108 #[.slice (some ⟨G, 0, none⟩) n cap, .func (.func 109) #[] #[]] w fun e w' => e = .returned (.slice (some ⟨G, 0, none⟩) (keptD f n).length cap) ∧ (∃ g : Nat → Value, w'.rowIs G 3 n g ∧ ∀ r (hr : r < (keptD f n).length), g r = .int .i64 (keptD f n)[r]) ∧ MFrame (fun i => i = G) w w' := by
  have KI := Lib.hid (index_any f n cap G hn w h)
  have KD := Lib.hid (fun x w' => deal1_any x w')
  have HR := Lib.hid h
  unfold maxLen at hcm
  clear h
  go_enter Tryz.func108, Tryz.ntmps108
  go_wp2_with fail
  refine KI.out.mono ?_
  rintro e w' ⟨he, rfl⟩
  obtain ⟨wo, rfl⟩ : ∃ wo : World, wo = w' := ⟨_, rfl⟩
  rcases he with ⟨k0, hk0, hneg, hall, rfl⟩ | ⟨hall, rfl⟩
  · have HALL := Lib.hid hall
    have HNEG := Lib.hid hneg
    have q1 : ((k0 : Int) == -1) = false := beq_eq_false_iff_ne.2 (by omega)
    have hk1 : keptD f (k0 + 1) = (List.range k0).map f := by rw [keptD_succ, if_neg (by omega), keptD_all hall]
    have HK1 : Hid ((keptD f (k0 + 1)).length = k0 ∧ ∀ r (hr : r < (keptD f (k0 + 1)).length), (keptD f (k0 + 1))[r] = f r) := Lib.hid ⟨by rw [hk1]; simp, fun r hr => by simp [hk1]⟩
    clear hall hneg hk1 KI
    go_wp2_with fail
    go_loopw [5, 6, 7] (fun iv jv _ wr => ∃ j : Nat, k0 < j ∧ j ≤ n ∧ jv = .int .i64 j ∧ iv = .int .i64 ((keptD f j).length : Int) ∧ (keptD f j).length < j ∧ Hid (∃ g : Nat → Int, wr.rowIs G 3 n (fun r => .int .i64 (g r)) ∧ (∀ r (hr : r < (keptD f j).length), g r = (keptD f j)[r]) ∧ ∀ r, j ≤ r → g r = f r) ∧ Hid (MFrame (fun i => i = G) wo wr)) (fun _ jv _ _ => n - (intOf jv).toNat)
    case atStart =>
      refine ⟨k0 + 1, by omega, by omega, by go_num, by rw [HK1.out.1], by rw [HK1.out.1]; omega, Lib.hid ⟨f, HR.out, fun r hr => (HK1.out.2 r hr).symm, fun r _ => rfl⟩, Lib.hid (MFrame.refl _ _)⟩
    case round =>
      obtain ⟨j, hkj, hjn, rfl, rfl, hlt0, HG, HF⟩ := hrel
      have HS := Lib.hid (keptD_succ f j)
      by_cases hlt : j < n
      · have hd : decide ((j : Int) < (n : Int)) = true := decide_eq_true (by omega)
        have hd' : decide (j < n) = true := decide_eq_true hlt
        have j0 : (0 : Int) ≤ (j : Int) := by omega
        have j1 : (j : Int) < (n : Int) := by omega
        obtain ⟨g, hg1, hg2, hg3⟩ := HG.out
        have c0 := hg1.cell hlt
        rw [hg3 j (Nat.le_refl _)] at c0
        have HG1 := Lib.hid hg1
        have HG2 := Lib.hid hg2
        have HG3 := Lib.hid hg3
        obtain ⟨K, hK⟩ : ∃ K, keptD f j = K := ⟨_, rfl⟩
        have HKK := Lib.hid hK
        rw [hK] at hlt0 HS ⊢
        have HKs : Hid (∀ r (hr : r < K.length), g r = K[r]) := Lib.hid (by subst hK; exact hg2)
        clear hg1 hg2 hg3 hK HG HG2
        obtain ⟨z, hz⟩ : ∃ z, f j = z := ⟨_, rfl⟩
        have HZ := Lib.hid hz
        rw [hz] at c0 HS
        clear hz
        by_cases hneg : z < 0
        · have dz : decide (z < 0) = true := decide_eq_true hneg
          have HE : Hid (keptD f (j + 1) = K) := Lib.hid (by rw [HS.out, if_neg (by omega)])
          go_wp2_with (first | (go_at_call 109; refine (KD.out _ _).mono ?_; rintro e w' ⟨rfl, rfl⟩) | fail)
          go_roundw
          case rel => exact ⟨j + 1, by omega, by omega, by go_num, by rw [HE.out], by rw [HE.out]; omega, Lib.hid ⟨g, HG1.out, by rw [HE.out]; exact HKs.out, fun r hr => HG3.out r (by omega)⟩, HF⟩
          case measure => simp [intOf]; omega
        · have dz : decide (z < 0) = false := decide_eq_false hneg
          have HE : Hid (keptD f (j + 1) = K ++ [z]) := Lib.hid (by rw [HS.out, if_pos (by omega)])
          have c1 := HG1.out.cell (show K.length < n by omega)
          have f1 := HG1.out.frozen K.length
          have i0 : (0 : Int) ≤ (K.length : Int) := by omega
          have i1 : (K.length : Int) < (n : Int) := by omega
          have HN1 : Hid ((wr.setCell ⟨G, K.length, none⟩ (.int .i64 z)).rowIs G 3 n (fun r => .int .i64 (if r = K.length then z else g r))) := Lib.hid ((HG1.out.set K.length (.int .i64 z)).congr (fun r _ => by by_cases h : r = K.length <;> simp [h]))
          have HF1 : Hid (MFrame (fun i => i = G) wo (wr.setCell ⟨G, K.length, none⟩ (.int .i64 z))) := Lib.hid (HF.out.setCells [.int .i64 z] K.length (.inl rfl))
          go_wp2_with (first | (go_at_call 109; refine (KD.out _ _).mono ?_; rintro e w' ⟨rfl, rfl⟩) | fail)
          go_roundw
          case rel =>
            refine ⟨j + 1, by omega, by omega, by go_num, by rw [HE.out]; simp, by rw [HE.out, List.length_append, List.length_singleton]; omega, Lib.hid ⟨_, HN1.out, ?_, fun r hr => ?_⟩, HF1⟩
            · rw [HE.out]
              intro r hr
              rw [List.length_append, List.length_singleton] at hr
              by_cases h : r = K.length
              · subst h; simp
              · rw [if_neg h, List.getElem_append_left (by omega)]
                exact HKs.out r (by omega)
            · have : r ≠ K.length := by omega
              rw [if_neg this]
              exact HG3.out r (by omega)
          case measure => simp [intOf]; omega
      · obtain rfl : j = n := by omega
        have hd : decide ((j : Int) < (j : Int)) = false := by simp
        obtain ⟨g, hg1, hg2, hg3⟩ := HG.out
        obtain ⟨K, hK⟩ : ∃ K, keptD f j = K := ⟨_, rfl⟩
        have HKs : Hid (∀ r (hr : r < K.length), g r = K[r]) := Lib.hid (by subst hK; exact hg2)
        have HKK := Lib.hid hK
        rw [hK] at hlt0 ⊢
        have hcl : ∀ ty, (Builtin.clear_ #[36] ty #[.slice (some ⟨G, K.length, none⟩) (j - K.length) (cap - K.length)]).run Tryz.prog wr = .ok (.tuple #[]) (wr.setCells G K.length (List.replicate (j - K.length) (.int .i64 0))) :=
          fun ty => Lib.run_clear_slice wr _ 3 ty (.int .i64 0) Tryz.underlying36 zero_int rfl rfl G K.length _ _ (by omega) (fun t ht => by rw [hg1.cell (by omega)]; rfl) (fun t ht => hg1.frozen _)
        have HFL := Lib.hid (rowIs_fill (List.replicate (j - K.length) (Value.int .i64 0)) K.length hg1)
        have HF1 : Hid (MFrame (fun i => i = G) wo (wr.setCells G K.length (List.replicate (j - K.length) (.int .i64 0)))) := Lib.hid (HF.out.setCells _ _ (.inl rfl))
        have i0 : (0 : Int) ≤ (K.length : Int) := by omega
        have i1 : (K.length : Int) ≤ (j : Int) := by omega
        have i2 : (K.length : Int) ≤ (cap : Int) := by omega
        have i3 : (j : Int) ≤ (cap : Int) := by omega
        have i4 : K.length ≠ cap := by omega
        clear hg1 hg2 hg3 HG hK HS HF HK1 HALL HNEG
        go_wp2
        go_ret
        obtain ⟨g2, h1, h2⟩ := HFL.out
        exact ⟨by rw [HKK.out]; rfl, ⟨g2, h1, fun r hr => by
          have hr' : r < K.length := by rw [← HKK.out]; exact hr
          rw [h2 r hr', HKs.out r hr']
          simp only [HKK.out]⟩, HF1.out⟩
  · have hk1 : keptD f n = (List.range n).map f := keptD_all hall
    have HK1 : Hid ((keptD f n).length = n ∧ ∀ r (hr : r < (keptD f n).length), Value.int .i64 (f r) = .int .i64 (keptD f n)[r]) := Lib.hid ⟨by rw [hk1]; simp, fun r hr => by simp [hk1]⟩
    clear hall hk1 KI
    go_wp2
    go_ret
    exact ⟨by rw [HK1.out.1]; rfl, ⟨_, HR.out, HK1.out.2⟩, MFrame.refl _ _⟩
end Go.Proofs.YthchfdobdghdoaaGreat
end
section

/-
  Who goes where: the dealing, in plain Lean: who is dealt a place, who is lost, what is left.
-/
namespace Go.Sg
open Go Go.RowKit
/-- the places that a dealer has passed -/
def usedD (s : Sh) (x : Ds) (p : Int) : Prop := ((x.1 + 1) * s.2.1 ≤ p ∧ p < levelsD s) ∨ (x.1 * s.2.1 ≤ p ∧ p < x.1 * s.2.1 + x.2.1) ∨ (levelsD s ≤ p ∧ p < levelsD s + x.2.2)
theorem mulS {a b S : Int} (h : a ≤ b) (hS : 0 ≤ S) : a * S ≤ b * S := Int.mul_le_mul_of_nonneg_right h hS
theorem levels_mul (s : Sh) : levelsD s = s.1 * s.2.1 + s.2.1 := by unfold levelsD; rw [Int.mul_add, Int.mul_one, Int.mul_comm]
theorem used_sink {s : Sh} {x : Ds} {deep : Int} (hs : rightD s = true) (hx : DsOk s x) (p : Int) (h : usedD s x p) : usedD s (sinkD x deep) p := by
  rw [rightD_iff] at hs
  unfold sinkD
  split
  · rename_i hlt
    have h1 : (deep + 1) * s.2.1 ≤ x.1 * s.2.1 := mulS (by omega) (by omega)
    have h2 : x.1 * s.2.1 ≤ s.1 * s.2.1 := mulS hx.2.1 (by omega)
    have h3 := levels_mul s
    have h4 : (x.1 + 1) * s.2.1 = x.1 * s.2.1 + s.2.1 := by rw [Int.add_mul, Int.one_mul]
    unfold usedD at *
    obtain ⟨_, _, o1, o2, o3, o4⟩ := hx
    simp only
    rcases h with h | h | h
    · exact .inl ⟨by omega, h.2⟩
    · exact .inl ⟨by omega, by omega⟩
    · exact .inr (.inr h)
  · exact h
theorem take_spec {s : Sh} {x : Ds} (hs : rightD s = true) (hx : DsOk s x) :
    (∀ p, usedD s x p → usedD s (takeD s x).2 p) ∧ (0 ≤ (takeD s x).1 → (takeD s x).1 < levelsD s + s.2.2 ∧ ¬ usedD s x (takeD s x).1 ∧ usedD s (takeD s x).2 (takeD s x).1) := by
  have hlb := levelsD_bd hs
  rw [rightD_iff] at hs
  obtain ⟨o0, o00, o1, o2, o3, o4⟩ := hx
  have h3 := levels_mul s
  have h4 : (x.1 + 1) * s.2.1 = x.1 * s.2.1 + s.2.1 := by rw [Int.add_mul, Int.one_mul]
  unfold takeD
  split
  · rename_i hneg
    have ha : x.1 = -1 := by omega
    have h5 : x.1 * s.2.1 = - s.2.1 := by rw [ha]; omega
    split
    · exact ⟨fun p h => h, fun h => by simp only at h; omega⟩
    · refine ⟨fun p h => ?_, fun _ => ⟨by simp only; omega, ?_, ?_⟩⟩
      · unfold usedD at *
        simp only
        rcases h with h | h | h
        · exact .inl h
        · exact .inr (.inl h)
        · exact .inr (.inr ⟨h.1, by omega⟩)
      · unfold usedD
        simp only
        omega
      · unfold usedD
        simp only
        exact .inr (.inr ⟨by omega, by omega⟩)
  · rename_i hneg
    have h6 : x.1 * s.2.1 ≤ s.1 * s.2.1 := mulS o00 (by omega)
    have h7 : 0 ≤ x.1 * s.2.1 := Int.mul_nonneg (by omega) (by omega)
    split
    · rename_i hl
      have h8 : (x.1 - 1 + 1) * s.2.1 = x.1 * s.2.1 := by rw [show x.1 - 1 + 1 = x.1 by omega]
      refine ⟨fun p h => ?_, fun _ => ⟨by simp only; omega, ?_, ?_⟩⟩
      · unfold usedD at *
        simp only
        rw [h8]
        rcases h with h | h | h
        · exact .inl ⟨by omega, h.2⟩
        · exact .inl ⟨by omega, by omega⟩
        · exact .inr (.inr h)
      · unfold usedD
        simp only
        omega
      · unfold usedD
        simp only
        rw [h8]
        exact .inl ⟨by omega, by omega⟩
    · refine ⟨fun p h => ?_, fun _ => ⟨by simp only; omega, ?_, ?_⟩⟩
      · unfold usedD at *
        simp only
        rcases h with h | h | h
        · exact .inl h
        · exact .inr (.inl ⟨h.1, by omega⟩)
        · exact .inr (.inr h)
      · unfold usedD
        simp only
        omega
      · unfold usedD
        simp only
        exact .inr (.inl ⟨by omega, by omega⟩)
theorem next_spec {s : Sh} {x : Ds} {deep : Int} (hs : rightD s = true) (hx : DsOk s x) (hd : 0 ≤ deep) :
    DsOk s (nextD s x deep).2 ∧ (∀ p, usedD s x p → usedD s (nextD s x deep).2 p) ∧ (0 ≤ (nextD s x deep).1 → (nextD s x deep).1 < levelsD s + s.2.2 ∧ ¬ usedD s x (nextD s x deep).1 ∧ usedD s (nextD s x deep).2 (nextD s x deep).1) := by
  have hy := sinkD_ok hx hs hd
  obtain ⟨h1, h2⟩ := take_spec hs hy
  unfold nextD
  refine ⟨takeD_ok hy hs, fun p h => h1 p (used_sink hs hx p h), fun h => ?_⟩
  obtain ⟨h3, h4, h5⟩ := h2 h
  exact ⟨h3, fun h => h4 (used_sink hs hx _ h), h5⟩
/-- how many are below nought -/
def cntN (f : Nat → Int) (n : Nat) : Nat := (List.range n).countP (fun r => decide (f r < 0))
def upd (f : Nat → Int) (k : Nat) (v : Int) : Nat → Int := fun r => if r = k then v else f r
theorem cntN_succ (f : Nat → Int) (n : Nat) : cntN f (n + 1) = cntN f n + if f n < 0 then 1 else 0 := by
  unfold cntN
  rw [List.range_succ, List.countP_append, List.countP_singleton]
  simp
theorem cntN_le (f : Nat → Int) (n : Nat) : cntN f n ≤ n := by
  unfold cntN
  have := List.countP_le_length (p := fun r => decide (f r < 0)) (l := List.range n)
  simpa using this
theorem cntN_congr {f g : Nat → Int} {n : Nat} (h : ∀ r, r < n → f r = g r) : cntN f n = cntN g n := by
  induction n with
  | zero => rfl
  | succ n ih => rw [cntN_succ, cntN_succ, ih (fun r hr => h r (by omega)), h n (by omega)]
theorem cntN_upd {f : Nat → Int} {n k : Nat} {v : Int} (hk : k < n) : cntN (upd f k v) n + (if f k < 0 then 1 else 0) = cntN f n + (if v < 0 then 1 else 0) := by
  induction n with
  | zero => omega
  | succ n ih =>
    rw [cntN_succ, cntN_succ]
    rcases Nat.lt_or_ge k n with h | h
    · have h2 : upd f k v n = f n := by unfold upd; rw [if_neg (by omega)]
      have := ih h
      rw [h2]
      omega
    · obtain rfl : k = n := by omega
      have h2 : upd f k v k = v := by unfold upd; rw [if_pos rfl]
      have h3 : cntN (upd f k v) k = cntN f k := cntN_congr (fun r hr => by unfold upd; rw [if_neg (by omega)])
      rw [h2, h3]
      omega
theorem kept_cnt (f : Nat → Int) (n : Nat) : (keptD f n).length + cntN f n = n := by
  induction n with
  | zero => rfl
  | succ n ih =>
    rw [keptD_succ, cntN_succ]
    by_cases h : 0 ≤ f n
    · rw [if_pos h, if_neg (by omega), List.length_append, List.length_singleton]; omega
    · rw [if_neg h, if_pos (by omega)]; omega
/-- what a dealing has made -/
structure St where
  ds : Ds
  pl : Nat → Int
  lf : Nat → Int
  lost : List Int
def stepSt (s : Sh) (l : List Di) (x : St) (i : Int) : St :=
  if (nextD s x.ds (getD' l i).2).1 < 0 then ⟨(nextD s x.ds (getD' l i).2).2, x.pl, x.lf, x.lost ++ [i]⟩
  else ⟨(nextD s x.ds (getD' l i).2).2, upd x.pl i.toNat (nextD s x.ds (getD' l i).2).1, upd x.lf (nextD s x.ds (getD' l i).2).1.toNat (-1), x.lost⟩
def st0 (s : Sh) : St := ⟨(s.1, 0, 0), fun _ => -1, fun r => r, []⟩
def runSt (s : Sh) (l : List Di) (is : List Int) : St := is.foldl (stepSt s l) (st0 s)
theorem runSt_snoc (s : Sh) (l : List Di) (is : List Int) (i : Int) : runSt s l (is ++ [i]) = stepSt s l (runSt s l is) i := by unfold runSt; rw [List.foldl_append]; rfl
/-- those that are dealt -/
def realO (l : List Di) : List Int := (ordD l).takeWhile (fun i => decide (0 ≤ (getD' l i).2))
structure DInv (s : Sh) (n : Nat) (done : List Int) (x : St) : Prop where
  ok : DsOk s x.ds
  use : ∀ p : Nat, p < n → x.lf p < 0 → usedD s x.ds p
  lfv : ∀ p : Nat, x.lf p = p ∨ x.lf p = -1
  plv : ∀ i : Nat, x.pl i = -1 ∨ (0 ≤ x.pl i ∧ x.pl i < levelsD s + s.2.2)
  new : ∀ i : Nat, (i : Int) ∉ done → x.pl i = -1
  cnt : cntN x.lf n + cntN x.pl n = n
theorem DInv.start (s : Sh) (hs : rightD s = true) (n : Nat) : DInv s n [] (st0 s) := by
  have hs' := rightD_iff.1 hs
  refine ⟨⟨by show -1 ≤ s.1; omega, by show s.1 ≤ s.1; omega, by show (0 : Int) ≤ 0; omega, by show 0 < s.2.1; omega, by show (0 : Int) ≤ 0; omega, by show 0 ≤ s.2.2; omega⟩, fun p _ h => by have : (p : Int) < 0 := h; omega, fun p => .inl rfl, fun i => .inl rfl, fun i _ => rfl, ?_⟩
  have h1 : cntN (st0 s).lf n = 0 := by
    unfold cntN
    rw [List.countP_eq_zero]
    intro r _
    have hr : ¬ ((r : Int) < 0) := by omega
    simp [st0, hr]
  have h2 : cntN (st0 s).pl n = n := by
    unfold cntN
    have := (List.countP_eq_length (p := fun r => decide ((st0 s).pl r < 0)) (l := List.range n)).2 (fun r _ => by simp [st0])
    simpa using this
  omega
theorem DInv.step {s : Sh} {n : Nat} {done : List Int} {x : St} {l : List Di} {i : Int} (hs : rightD s = true) (hn : (n : Int) = levelsD s + s.2.2 + 1) (h : DInv s n done x) (hi0 : 0 ≤ i) (hin : i < n) (hid : i ∉ done) (hd : 0 ≤ (getD' l i).2) :
    DInv s n (done ++ [i]) (stepSt s l x i) ∧ (0 ≤ (nextD s x.ds (getD' l i).2).1 → (nextD s x.ds (getD' l i).2).1.toNat < n) := by
  obtain ⟨h1, h2, h3⟩ := next_spec hs h.ok hd
  unfold stepSt
  generalize nextD s x.ds (getD' l i).2 = r at *
  by_cases hneg : r.1 < 0
  · rw [if_pos hneg]
    exact ⟨⟨h1, fun p hp hl => h2 _ (h.use p hp hl), h.lfv, h.plv, fun j hj => h.new j (fun hm => hj (List.mem_append_left _ hm)), h.cnt⟩, fun h0 => by omega⟩
  · rw [if_neg hneg]
    obtain ⟨h4, h5, h6⟩ := h3 (by omega)
    have hlt : r.1.toNat < n := by omega
    refine ⟨⟨h1, fun p hp hl => ?_, fun p => ?_, fun j => ?_, fun j hj => ?_, ?_⟩, fun _ => hlt⟩
    · simp only [upd] at hl
      by_cases hpe : p = r.1.toNat
      · have : (p : Int) = r.1 := by omega
        rw [this]
        exact h6
      · rw [if_neg hpe] at hl
        exact h2 _ (h.use p hp hl)
    · simp only [upd]
      by_cases hpe : p = r.1.toNat
      · rw [if_pos hpe]; exact .inr rfl
      · rw [if_neg hpe]; exact h.lfv p
    · simp only [upd]
      by_cases hpe : j = i.toNat
      · rw [if_pos hpe]; exact .inr ⟨by omega, h4⟩
      · rw [if_neg hpe]; exact h.plv j
    · simp only [upd]
      have hne : j ≠ i.toNat := fun e => hj (List.mem_append_right _ (by rw [List.mem_singleton]; omega))
      rw [if_neg hne]
      exact h.new j (fun hm => hj (List.mem_append_left _ hm))
    · have c1 := cntN_upd (f := x.lf) (v := -1) hlt
      have c2 := cntN_upd (f := x.pl) (v := r.1) (show i.toNat < n by omega)
      have hp0 : x.pl i.toNat = -1 := h.new i.toNat (by rwa [show ((i.toNat : Nat) : Int) = i by omega])
      have hl0 : ¬ x.lf r.1.toNat < 0 := fun hl => h5 (by
        have := h.use r.1.toNat hlt hl
        rwa [show ((r.1.toNat : Nat) : Int) = r.1 by omega] at this)
      rw [if_neg hl0, if_pos (by omega)] at c1
      rw [hp0, if_pos (by omega), if_neg hneg] at c2
      have := h.cnt
      show cntN (upd x.lf r.1.toNat (-1)) n + cntN (upd x.pl i.toNat r.1) n = n
      omega
/-- those that have no place are given the places that are left, one behind the other -/
def fillL : List Int → List Int → List Int
  | [], _ => []
  | p :: ps, lf => if p < 0 then lf.headD 0 :: fillL ps lf.tail else p :: fillL ps lf
theorem fillL_len : ∀ (ps lf : List Int), (fillL ps lf).length = ps.length
  | [], _ => rfl
  | p :: ps, lf => by
    unfold fillL
    split <;> simp [fillL_len]
end Go.Sg
end
section

/-
  The walk of slices.Repeat of one number.
-/
namespace Go.Proofs.YthchfdobdghdoaaGreat
open Go Go.RowKit Go.Sg
theorem an_32 (n : Nat) (hn : n < 4294967296) : bits .and .u64 (n : Int) 4294967295 = n := by
  rw [bits_an ⟨by omega, by omega⟩ ⟨by decide, by decide⟩]
  unfold an
  have e : (4294967295 : Int).toNat = 2 ^ 32 - 1 := by decide
  rw [e, Int.toNat_natCast, Nat.and_two_pow_sub_one_eq_mod]
  omega
set_option maxRecDepth 100000 in
theorem mul64_any (n : Nat) (hn2 : n < 4294967296) (w : World) : Calls Tryz.prog 123 #[.int .u64 1, .int .u64 n] w fun e w' => e = .returned (.tuple #[.int .u64 0, .int .u64 n]) ∧ w' = w := by
  have b1 : bits .and .u64 1 4294967295 = 1 := an_32 1 (by decide)
  have b2 : bits .and .u64 (n : Int) 4294967295 = n := an_32 n hn2
  have b3 : bits .and .u64 0 4294967295 = 0 := an_32 0 (by decide)
  have e1 : (n : Int) / 4294967296 = 0 := by omega
  have e2 : IntKind.u64.wrap (n : Int) = n := by rw [IntKind.wrap_u64]; omega
  go_enter Tryz.func123, Tryz.ntmps123
  go_wp2
  go_ret2
  exact ⟨rfl, rfl⟩
theorem mul_any (n : Nat) (hn2 : n < 4294967296) (w : World) : Calls Tryz.prog 117 #[.int .u64 1, .int .u64 n] w fun e w' => e = .returned (.tuple #[.int .u64 0, .int .u64 n]) ∧ w' = w := by
  have K := Lib.hid (fun w' => mul64_any n hn2 w')
  go_enter Tryz.func117, Tryz.ntmps117
  go_wp2_with (first | (go_at_call 123; refine (K.out _).mono ?_; rintro e w' ⟨rfl, rfl⟩) | fail)
  go_ret2
  exact ⟨rfl, rfl⟩
theorem copied {w : World} {G n : Nat} {T : TypeId} {v u : Value} {k : Nat} (h : w.rowIs G T n (fun r => if r < k then v else u)) : ∀ (m o : Nat), o = k → (w.setCells G o (List.replicate m v)).rowIs G T n (fun r => if r < k + m then v else u) := by
  intro m
  induction m generalizing w k with
  | zero => intro o _; exact h
  | succ m ih =>
    intro o ho
    subst ho
    rw [List.replicate_succ, World.setCells]
    have h2 := ih (k := o + 1) (w := w.setCell ⟨G, o, none⟩ v) ((h.set o v).congr (fun r _ => by
      by_cases h1 : r = o
      · simp [h1]
      · by_cases h2 : r < o
        · simp [h1, h2, show r < o + 1 by omega]
        · simp [h1, h2, show ¬ r < o + 1 by omega])) (o + 1) rfl
    rwa [show o + 1 + m = o + (m + 1) by omega] at h2
set_option maxHeartbeats 4000000 in
set_option maxRecDepth 100000 in
theorem repeat_any (x : Int) (b : Nat) (n : Nat) (hn : 1 ≤ n) (hn2 : n ≤ 1000000) (w : World) (hx : w.cell? ⟨b, 0, none⟩ = some (.int .i64 x)) (hb : b < w.heap.size) :
    Calls Tryz.prog 105 #[.slice (some ⟨b, 0, none⟩) 1 1, .int .i64 n] w fun e w' => ∃ G, e = .returned (.slice (some ⟨G, 0, none⟩) n n) ∧ w.heap.size ≤ G ∧ w'.rowIs G 3 n (fun _ => .int .i64 x) ∧ Below w.heap.size w w' := by
  have KM := Lib.hid (fun w' => mul_any n (by omega) w')
  obtain ⟨i0, hi0, hz0, hz1, hz2⟩ := info_parts (show (Tryz.prog.info? 3).map (fun i => (i.zero, i.size, i.bytes)) = some (some (.int .i64 0), 1, 8) by kernel_rfl)
  have HI := Lib.hid hi0
  have HZ := Lib.hid hz0
  have HS := Lib.hid hz1
  have HY := Lib.hid hz2
  clear hi0 hz0 hz1 hz2
  have e1 : IntKind.u64.wrap (n : Int) = n := by rw [IntKind.wrap_u64]; omega
  have e2 : IntKind.i64.wrap (n : Int) = n := by rw [IntKind.wrap_i64]; omega
  have e3 : decide ((9223372036854775807 : Int) < (n : Int)) = false := decide_eq_false (by omega)
  have e4 : decide ((n : Int) < 0) = false := decide_eq_false (by omega)
  obtain ⟨w4, hw4⟩ : ∃ w4, w.alloc (.cells (madeCells #[.int .i64 0] n) 3) = w4 := ⟨_, rfl⟩
  have hrow : w4.rowIs w.heap.size 3 n (fun r => .int .i64 0) := by rw [← hw4]; exact World.rowIs_made w (.int .i64 0) n 3
  have hbw : Below w.heap.size w w4 := by rw [← hw4]; exact (Below.refl _ _).alloc (Nat.le_refl _) _
  have hcp : ∀ ty, (Builtin.copy_ #[36, 36] ty #[.slice (some ⟨w.heap.size, 0, none⟩) n n, .slice (some ⟨b, 0, none⟩) 1 1]).run Tryz.prog w4 = .ok (goInt 1) (w4.setCells w.heap.size 0 [.int .i64 x]) :=
    fun ty => run_copy_cells w4 36 36 ty 3 w.heap.size 0 n n ⟨b, 0, none⟩ 1 1 [.int .i64 x] Tryz.underlying36 (by kernel_rfl) (Nat.min_eq_left hn).symm (fun j v hj => by
      have hj0 : j = 0 := by
        have := (List.getElem?_eq_some_iff.1 hj).1
        simpa using this
      subst hj0
      rw [addr_add, Nat.zero_add]
      simp at hj
      rw [← hj, hbw.cell (p := ⟨b, 0, none⟩) hb]
      exact hx) (fun j hj => by rw [Nat.zero_add, hrow.cell (by simp at hj; omega)]; rfl) (fun j hj => hrow.frozen _) (by simp [Value.oneCell'])
  have HR4 : Hid ((w4.setCells w.heap.size 0 [.int .i64 x]).rowIs w.heap.size 3 n (fun r => if r < 1 then .int .i64 x else .int .i64 0)) := Lib.hid (by
    have := copied (w := w4) (G := w.heap.size) (n := n) (T := 3) (v := .int .i64 x) (u := .int .i64 0) (k := 0) (hrow.congr (fun r _ => by simp)) 1 0 rfl
    simpa using this)
  have HB4 : Hid (Below w.heap.size w (w4.setCells w.heap.size 0 [.int .i64 x])) := Lib.hid (below_setCells (Nat.le_refl _) _ _ hbw)
  clear hrow hbw hx hb
  go_enter Tryz.func105, Tryz.ntmps105
  go_wp2_with (first
    | (go_at_call 117; refine (KM.out _).mono ?_; rintro e w' ⟨rfl, rfl⟩)
    | (at_make; go_loud (refine wpList_make_row _ rfl (.tmp 29) (.tmp 29) 36 rfl 3 i0 (.int .i64 0) Tryz.underlying36 HI.out HZ.out HS.out rfl .i64 .i64 n rfl rfl (by rw [HY.out]; omega) (by omega) ?_))
    | fail)
  obtain ⟨w, rfl⟩ : ∃ w : World, w = w' := ⟨_, rfl⟩
  obtain ⟨G, hG⟩ : ∃ G, w.heap.size = G := ⟨_, rfl⟩
  rw [hG] at HR4
  have HB4 : Hid (Below w.heap.size w (w4.setCells G 0 [.int .i64 x])) := Lib.hid (by have := HB4.out; rwa [hG] at this ⊢)
  rw [hG]
  have HG := Lib.hid hG
  clear hw4 hcp hG
  go_loopw [8] (fun i wr => ∃ k : Nat, 1 ≤ k ∧ k ≤ n ∧ i = .int .i64 k ∧ Hid (wr.rowIs G 3 n (fun r => if r < k then .int .i64 x else .int .i64 0)) ∧ Hid (Below w.heap.size w wr)) (fun i _ => n - (intOf i).toNat)
  case atStart => exact ⟨1, by omega, hn, rfl, HR4, HB4⟩
  case round =>
    obtain ⟨k, hk1, hkn, rfl, HRK, HBK⟩ := hrel
    by_cases hlt : k < n
    · have hd : decide ((k : Int) < (n : Int)) = true := decide_eq_true (by omega)
      have hd' : decide (k < n) = true := decide_eq_true hlt
      obtain ⟨m, hm⟩ : ∃ m, Nat.min k (n - k) = m := ⟨_, rfl⟩
      have hm1 : 1 ≤ m ∧ k + m ≤ n ∧ m ≤ k := by
        have h1 : Nat.min k (n - k) = min k (n - k) := rfl
        omega
      have hcp : ∀ ty, (Builtin.copy_ #[36, 36] ty #[.slice (some ⟨G, k, none⟩) (n - k) (n - k), .slice (some ⟨G, 0, none⟩) k n]).run Tryz.prog wr.drew = .ok (goInt m) (wr.drew.setCells G k (List.replicate m (.int .i64 x))) := fun ty => by
        have h := run_copy_cells (P := Tryz.prog) wr.drew 36 36 ty 3 G k (n - k) (n - k) ⟨G, 0, none⟩ k n (List.replicate m (.int .i64 x)) Tryz.underlying36 (by kernel_rfl) (by rw [List.length_replicate, hm]) (fun j v hj => by
          obtain ⟨hj1, rfl⟩ := List.getElem?_eq_some_iff.1 hj
          rw [List.length_replicate] at hj1
          rw [addr_add, Nat.zero_add, List.getElem_replicate]
          have := HRK.out.drew.cell (show j < n by omega)
          rwa [if_pos (by omega)] at this) (fun j hj => by
          rw [List.length_replicate] at hj
          rw [HRK.out.drew.cell (show k + j < n by omega)]
          rfl) (fun j hj => HRK.out.drew.frozen _) (by simp [Value.oneCell'])
        rwa [List.length_replicate] at h
      have HR2 : Hid ((wr.drew.setCells G k (List.replicate m (.int .i64 x))).rowIs G 3 n (fun r => if r < k + m then .int .i64 x else .int .i64 0)) := Lib.hid (copied HRK.out.drew m k rfl)
      have HB2 : Hid (Below w.heap.size w (wr.drew.setCells G k (List.replicate m (.int .i64 x)))) := Lib.hid (below_setCells (Nat.le_of_eq HG.out) _ _ HBK.out.drew)
      have i0 : (0 : Int) ≤ (k : Int) := by omega
      have i1 : (k : Int) ≤ (n : Int) := by omega
      have i2 : k ≠ n := by omega
      have i3 : k ≤ n := by omega
      have m1 : IntKind.i64.wrap ((k : Int) + (m : Int)) = (k : Int) + (m : Int) := by rw [IntKind.wrap_i64]; omega
      clear hm
      go_upto_region 9 with fail
      go_region
      all_goals
        go_wp2
        go_roundw
        case rel => exact ⟨k + m, by omega, by omega, by go_num, HR2, HB2⟩
        case measure => simp [intOf]; omega
    · obtain rfl : k = n := by omega
      have hd : decide ((k : Int) < (k : Int)) = false := by simp
      have HR3 : Hid (wr.rowIs G 3 k (fun _ => .int .i64 x)) := Lib.hid (HRK.out.congr (fun r hr => by rw [if_pos hr]))
      go_wp2
      go_ret
      exact ⟨G, rfl, Nat.le_of_eq HG.out, HR3.out, HBK.out⟩
end Go.Proofs.YthchfdobdghdoaaGreat
end
