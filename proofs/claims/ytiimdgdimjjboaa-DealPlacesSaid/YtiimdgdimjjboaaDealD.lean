/-
  The walks of slices.IndexFunc and slices.DeleteFunc with deal's predicate.
-/
import Derived.Test.YtiimdgdimjjboaaDealN
import Derived.Deep.OwnRows
import Derived.Lib.SliceRun
namespace Go.Sg
open Go Go.RowKit
/-- those of the first j that are places -/
def keptD (f : Nat → Int) (j : Nat) : List Int := ((List.range j).map f).filter (fun x => decide (0 ≤ x))
theorem keptD_succ (f : Nat → Int) (j : Nat) : keptD f (j + 1) = if 0 ≤ f j then keptD f j ++ [f j] else keptD f j := by
  unfold keptD
  rw [List.range_succ, List.map_append, List.filter_append]
  by_cases h : 0 ≤ f j
  · simp [h]
  · simp [h]
theorem keptD_len (f : Nat → Int) (j : Nat) : (keptD f j).length ≤ j := by
  unfold keptD
  have := List.length_filter_le (fun x => decide (0 ≤ x)) ((List.range j).map f)
  simpa using this
theorem keptD_all {f : Nat → Int} {j : Nat} (h : ∀ r, r < j → 0 ≤ f r) : keptD f j = (List.range j).map f := by
  unfold keptD
  rw [List.filter_eq_self]
  intro x hx
  obtain ⟨r, hr, rfl⟩ := List.mem_map.1 hx
  simpa using h r (List.mem_range.1 hr)
theorem rowIs_fill {b n : Nat} {t : TypeId} : ∀ (vs : List Value) (o : Nat) {w : World} {f : Nat → Value}, w.rowIs b t n f → ∃ g : Nat → Value, (w.setCells b o vs).rowIs b t n g ∧ ∀ r, r < o → g r = f r
  | [], o, w, f, h => ⟨f, h, fun _ _ => rfl⟩
  | v :: vs, o, w, f, h => by
    obtain ⟨g, h1, h2⟩ := rowIs_fill vs (o + 1) (h.set o v)
    refine ⟨g, h1, fun r hr => ?_⟩
    rw [h2 r (by omega)]
    have : r ≠ o := by omega
    simp [this]
end Go.Sg
namespace Go.Proofs.Ytiimdgdimjjboaa
open Go Go.RowKit Go.Sg
theorem deal1_any (x : Int) (w : World) : Calls Try.prog 48 #[.int .i64 x] w fun e w' => e = .returned (.bool (decide (x < 0))) ∧ w' = w := by
  go_enter Try.func48, Try.ntmps48
  go_wp2
  go_ret
  exact ⟨rfl, rfl⟩
set_option maxRecDepth 100000 in
theorem index_any (f : Nat → Int) (n cap G : Nat) (hn : n ≤ 1099511627776) (w : World) (h : w.rowIs G 3 n (fun r => .int .i64 (f r))) :
    Calls Try.prog 69 #[.slice (some ⟨G, 0, none⟩) n cap, .func (.func 48) #[] #[]] w fun e w' => ((∃ k : Nat, k < n ∧ f k < 0 ∧ (∀ r, r < k → 0 ≤ f r) ∧ e = .returned (.int .i64 k)) ∨ ((∀ r, r < n → 0 ≤ f r) ∧ e = .returned (.int .i64 (-1)))) ∧ w' = w := by
  have HR := Lib.hid h
  have KD := Lib.hid (fun x w' => deal1_any x w')
  clear h
  go_enter Try.func69, Try.ntmps69
  go_wp2_with fail
  go_loop [5, 8] (fun _ i => ∃ k : Nat, k ≤ n ∧ i = .int .i64 k ∧ Hid (∀ r, r < k → 0 ≤ f r)) (fun _ i => n - (intOf i).toNat)
  case atStart => exact ⟨0, by omega, rfl, Lib.hid (fun r hr => by omega)⟩
  case round =>
    obtain ⟨k, hk, rfl, HA⟩ := hrel
    by_cases hlt : k < n
    · have hd : decide ((k : Int) < (n : Int)) = true := decide_eq_true (by omega)
      have hd' : decide (k < n) = true := decide_eq_true hlt
      have k0 : (0 : Int) ≤ (k : Int) := by omega
      have k1 : (k : Int) < (n : Int) := by omega
      have c0 := HR.out.cell hlt
      have HX : Hid (f k < 0 → ((∃ k : Nat, k < n ∧ f k < 0 ∧ (∀ r, r < k → 0 ≤ f r) ∧ Ending.returned (.int .i64 (k : Int)) = .returned (.int .i64 k)))) := Lib.hid fun h => ⟨k, hlt, h, HA.out, rfl⟩
      have HY : Hid (¬ f k < 0 → ∀ r, r < k + 1 → 0 ≤ f r) := Lib.hid fun h r hr => by
        rcases Nat.lt_or_ge r k with h1 | h1
        · exact HA.out r h1
        · obtain rfl : r = k := by omega
          omega
      have HFK : Hid (∀ z, f k = z → True) := Lib.hid fun _ _ => trivial
      obtain ⟨z, hz⟩ : ∃ z, f k = z := ⟨_, rfl⟩
      rw [hz] at HX HY c0
      have HZ := Lib.hid hz
      clear hz
      by_cases hneg : z < 0
      · have dz : decide (z < 0) = true := decide_eq_true hneg
        go_wp2_with (first | (go_at_call 48; refine (KD.out _ _).mono ?_; rintro e w' ⟨rfl, rfl⟩) | fail)
        go_ret
        exact ⟨.inl ⟨k, hlt, by rw [HZ.out]; exact hneg, HA.out, rfl⟩, rfl⟩
      · have dz : decide (z < 0) = false := decide_eq_false hneg
        go_wp2_with (first | (go_at_call 48; refine (KD.out _ _).mono ?_; rintro e w' ⟨rfl, rfl⟩) | fail)
        go_round
        case rel => exact ⟨k + 1, by omega, by go_num, Lib.hid (HY.out hneg)⟩
        case measure => simp [intOf]; omega
    · obtain rfl : k = n := by omega
      have hd : decide ((k : Int) < (k : Int)) = false := by simp
      go_wp2
      go_ret
      exact ⟨.inr ⟨HA.out, rfl⟩, rfl⟩
theorem zero_int (w : World) : (zeroValue 3).run Try.prog w = .ok (.int .i64 0) w := by
  have := Try.zeroValue3
  first | exact this w | exact this | simpa using this w
set_option maxHeartbeats 4000000 in
set_option maxRecDepth 100000 in
theorem delete_any (f : Nat → Int) (n cap G : Nat) (hn : n ≤ 1099511627776) (hc : n ≤ cap) (hcm : cap ≤ maxLen) (w : World) (h : w.rowIs G 3 n (fun r => .int .i64 (f r))) :
    Calls Try.prog 47 #[.slice (some ⟨G, 0, none⟩) n cap, .func (.func 48) #[] #[]] w fun e w' => e = .returned (.slice (some ⟨G, 0, none⟩) (keptD f n).length cap) ∧ (∃ g : Nat → Value, w'.rowIs G 3 n g ∧ ∀ r (hr : r < (keptD f n).length), g r = .int .i64 (keptD f n)[r]) ∧ MFrame (fun i => i = G) w w' := by
  have KI := Lib.hid (index_any f n cap G hn w h)
  have KD := Lib.hid (fun x w' => deal1_any x w')
  have HR := Lib.hid h
  unfold maxLen at hcm
  clear h
  go_enter Try.func47, Try.ntmps47
  go_wp2_with fail
  refine KI.out.mono ?_
  rintro e w' ⟨he, rfl⟩
  obtain ⟨wo, rfl⟩ : ∃ wo : World, wo = w' := ⟨_, rfl⟩
  rcases he with ⟨k0, hk0, hneg, hall, rfl⟩ | ⟨hall, rfl⟩
  · have HALL := Lib.hid hall
    have HNEG := Lib.hid hneg
    have q1 : ((k0 : Int) == -1) = false := beq_eq_false_iff_ne.2 (by omega)
    have hk1 : keptD f (k0 + 1) = (List.range k0).map f := by rw [keptD_succ, if_neg (by omega), keptD_all hall]
    have HK1 : Hid ((keptD f (k0 + 1)).length = k0 ∧ ∀ r (hr : r < (keptD f (k0 + 1)).length), (keptD f (k0 + 1))[r] = f r) := Lib.hid ⟨by rw [hk1]; simp, fun r hr => by simp [hk1]⟩
    clear hall hneg hk1 KI
    go_wp2_with fail
    go_loopw [5, 6, 7] (fun iv jv _ wr => ∃ j : Nat, k0 < j ∧ j ≤ n ∧ jv = .int .i64 j ∧ iv = .int .i64 ((keptD f j).length : Int) ∧ (keptD f j).length < j ∧ Hid (∃ g : Nat → Int, wr.rowIs G 3 n (fun r => .int .i64 (g r)) ∧ (∀ r (hr : r < (keptD f j).length), g r = (keptD f j)[r]) ∧ ∀ r, j ≤ r → g r = f r) ∧ Hid (MFrame (fun i => i = G) wo wr)) (fun _ jv _ _ => n - (intOf jv).toNat)
    case atStart =>
      refine ⟨k0 + 1, by omega, by omega, by go_num, by rw [HK1.out.1], by rw [HK1.out.1]; omega, Lib.hid ⟨f, HR.out, fun r hr => (HK1.out.2 r hr).symm, fun r _ => rfl⟩, Lib.hid (MFrame.refl _ _)⟩
    case round =>
      obtain ⟨j, hkj, hjn, rfl, rfl, hlt0, HG, HF⟩ := hrel
      have HS := Lib.hid (keptD_succ f j)
      by_cases hlt : j < n
      · have hd : decide ((j : Int) < (n : Int)) = true := decide_eq_true (by omega)
        have hd' : decide (j < n) = true := decide_eq_true hlt
        have j0 : (0 : Int) ≤ (j : Int) := by omega
        have j1 : (j : Int) < (n : Int) := by omega
        obtain ⟨g, hg1, hg2, hg3⟩ := HG.out
        have c0 := hg1.cell hlt
        rw [hg3 j (Nat.le_refl _)] at c0
        have HG1 := Lib.hid hg1
        have HG2 := Lib.hid hg2
        have HG3 := Lib.hid hg3
        obtain ⟨K, hK⟩ : ∃ K, keptD f j = K := ⟨_, rfl⟩
        have HKK := Lib.hid hK
        rw [hK] at hlt0 HS ⊢
        have HKs : Hid (∀ r (hr : r < K.length), g r = K[r]) := Lib.hid (by subst hK; exact hg2)
        clear hg1 hg2 hg3 hK HG HG2
        obtain ⟨z, hz⟩ : ∃ z, f j = z := ⟨_, rfl⟩
        have HZ := Lib.hid hz
        rw [hz] at c0 HS
        clear hz
        by_cases hneg : z < 0
        · have dz : decide (z < 0) = true := decide_eq_true hneg
          have HE : Hid (keptD f (j + 1) = K) := Lib.hid (by rw [HS.out, if_neg (by omega)])
          go_wp2_with (first | (go_at_call 48; refine (KD.out _ _).mono ?_; rintro e w' ⟨rfl, rfl⟩) | fail)
          go_roundw
          case rel => exact ⟨j + 1, by omega, by omega, by go_num, by rw [HE.out], by rw [HE.out]; omega, Lib.hid ⟨g, HG1.out, by rw [HE.out]; exact HKs.out, fun r hr => HG3.out r (by omega)⟩, HF⟩
          case measure => simp [intOf]; omega
        · have dz : decide (z < 0) = false := decide_eq_false hneg
          have HE : Hid (keptD f (j + 1) = K ++ [z]) := Lib.hid (by rw [HS.out, if_pos (by omega)])
          have c1 := HG1.out.cell (show K.length < n by omega)
          have f1 := HG1.out.frozen K.length
          have i0 : (0 : Int) ≤ (K.length : Int) := by omega
          have i1 : (K.length : Int) < (n : Int) := by omega
          have HN1 : Hid ((wr.setCell ⟨G, K.length, none⟩ (.int .i64 z)).rowIs G 3 n (fun r => .int .i64 (if r = K.length then z else g r))) := Lib.hid ((HG1.out.set K.length (.int .i64 z)).congr (fun r _ => by by_cases h : r = K.length <;> simp [h]))
          have HF1 : Hid (MFrame (fun i => i = G) wo (wr.setCell ⟨G, K.length, none⟩ (.int .i64 z))) := Lib.hid (HF.out.setCells [.int .i64 z] K.length (.inl rfl))
          go_wp2_with (first | (go_at_call 48; refine (KD.out _ _).mono ?_; rintro e w' ⟨rfl, rfl⟩) | fail)
          go_roundw
          case rel =>
            refine ⟨j + 1, by omega, by omega, by go_num, by rw [HE.out]; simp, by rw [HE.out, List.length_append, List.length_singleton]; omega, Lib.hid ⟨_, HN1.out, ?_, fun r hr => ?_⟩, HF1⟩
            · rw [HE.out]
              intro r hr
              rw [List.length_append, List.length_singleton] at hr
              by_cases h : r = K.length
              · subst h; simp
              · rw [if_neg h, List.getElem_append_left (by omega)]
                exact HKs.out r (by omega)
            · have : r ≠ K.length := by omega
              rw [if_neg this]
              exact HG3.out r (by omega)
          case measure => simp [intOf]; omega
      · obtain rfl : j = n := by omega
        have hd : decide ((j : Int) < (j : Int)) = false := by simp
        obtain ⟨g, hg1, hg2, hg3⟩ := HG.out
        obtain ⟨K, hK⟩ : ∃ K, keptD f j = K := ⟨_, rfl⟩
        have HKs : Hid (∀ r (hr : r < K.length), g r = K[r]) := Lib.hid (by subst hK; exact hg2)
        have HKK := Lib.hid hK
        rw [hK] at hlt0 ⊢
        have hcl : ∀ ty, (Builtin.clear_ #[30] ty #[.slice (some ⟨G, K.length, none⟩) (j - K.length) (cap - K.length)]).run Try.prog wr = .ok (.tuple #[]) (wr.setCells G K.length (List.replicate (j - K.length) (.int .i64 0))) :=
          fun ty => Lib.run_clear_slice wr _ 3 ty (.int .i64 0) Try.underlying30 zero_int rfl rfl G K.length _ _ (by omega) (fun t ht => by rw [hg1.cell (by omega)]; rfl) (fun t ht => hg1.frozen _)
        have HFL := Lib.hid (rowIs_fill (List.replicate (j - K.length) (Value.int .i64 0)) K.length hg1)
        have HF1 : Hid (MFrame (fun i => i = G) wo (wr.setCells G K.length (List.replicate (j - K.length) (.int .i64 0)))) := Lib.hid (HF.out.setCells _ _ (.inl rfl))
        have i0 : (0 : Int) ≤ (K.length : Int) := by omega
        have i1 : (K.length : Int) ≤ (j : Int) := by omega
        have i2 : (K.length : Int) ≤ (cap : Int) := by omega
        have i3 : (j : Int) ≤ (cap : Int) := by omega
        have i4 : K.length ≠ cap := by omega
        clear hg1 hg2 hg3 HG hK HS HF HK1 HALL HNEG
        go_wp2
        go_ret
        obtain ⟨g2, h1, h2⟩ := HFL.out
        exact ⟨by rw [HKK.out]; rfl, ⟨g2, h1, fun r hr => by
          have hr' : r < K.length := by rw [← HKK.out]; exact hr
          rw [h2 r hr', HKs.out r hr']
          simp only [HKK.out]⟩, HF1.out⟩
  · have hk1 : keptD f n = (List.range n).map f := keptD_all hall
    have HK1 : Hid ((keptD f n).length = n ∧ ∀ r (hr : r < (keptD f n).length), Value.int .i64 (f r) = .int .i64 (keptD f n)[r]) := Lib.hid ⟨by rw [hk1]; simp, fun r hr => by simp [hk1]⟩
    clear hall hk1 KI
    go_wp2
    go_ret
    exact ⟨by rw [HK1.out.1]; rfl, ⟨_, HR.out, HK1.out.2⟩, MFrame.refl _ _⟩
end Go.Proofs.Ytiimdgdimjjboaa
