/-
  Joined texts: Ref5.
-/
import Derived.Test.YthchfdobdghdoaaGreatHbj
import Derived.Test.YthchfdobdghdoaaGreatHat
set_option linter.unusedVariables false
set_option linter.unusedSimpArgs false
set_option linter.unusedSectionVars false
set_option linter.unnecessarySimpa false
section

/-
  The walks of shellgameref5.Right and Pairs.
-/
namespace Go.Sg
open Go Go.RowKit
theorem right_stop {n : Int} {r : Nat} (hr : r ≤ 10) (hb : ∀ s, s < r → ((2 ^ s : Nat) : Int) < n) (he : n ≤ ((2 ^ r : Nat) : Int) ∨ r = 10) : (((2 ^ r : Nat) : Int) == n) = rightB n := by
  by_cases e : ((2 ^ r : Nat) : Int) = n
  · rw [← e, show ((2 ^ r : Nat) : Int) = (2 : Int) ^ r by simp, rightB_pow r hr]
    simp
  · rw [show (((2 ^ r : Nat) : Int) == n) = false by simpa using e, eq_comm]
    cases h : rightB n with
    | false => rfl
    | true =>
      obtain ⟨j, hj, hjn⟩ := rightB_of h
      have hjn' : ((2 ^ j : Nat) : Int) = n := by rw [hjn]; simp
      rcases Nat.lt_trichotomy j r with h1 | h1 | h1
      · have := hb j h1; omega
      · subst h1; exact absurd hjn' e
      · have h2 : 2 ^ r < 2 ^ j := Nat.pow_lt_pow_right (by omega) h1
        rcases he with he | he
        · omega
        · omega
theorem div_test (m j : Nat) : (((m : Int) / (j : Int) % 2) == 0) = decide (m / j % 2 = 0) := by
  rw [Bool.eq_iff_iff, beq_iff_eq, decide_eq_true_eq]
  constructor <;> intro h <;> omega
theorem div_tmod (m j : Nat) : (((m : Int) / (j : Int)).tmod 2 == 0) = decide (m / j % 2 = 0) := by
  rw [Int.tmod_eq_emod_of_nonneg (Int.ediv_nonneg (by omega) (by omega))]
  exact div_test m j
theorem cells_new (w : World) (cs : List Value) (t : TypeId) : ∀ j u, cs[j]? = some u → (w.alloc (.cells cs.toArray t)).cell? ((⟨w.heap.size, 0, none⟩ : Addr).add j) = some u := by
  intro j u hu
  rw [addr_add, Nat.zero_add, cell_of_row _ _ _ _ _ (0, 0) (heap_alloc_new w _), List.getElem?_toArray]
  exact hu
end Go.Sg
namespace Go.Proofs.YthchfdobdghdoaaGreat
open Go Go.RowKit Go.Sg

theorem ref5Right_any (n : Int) (hn : Num n) (w : World) : Calls Tryz.prog 86 #[.int .i64 n] w fun e w' => e = .returned (.bool (rightB n)) ∧ w' = w := by
  obtain ⟨hn1, hn2⟩ := hn
  go_enter Tryz.func86, Tryz.ntmps86
  go_wp2
  go_loop [3] (fun v => ∃ r : Nat, r ≤ 10 ∧ v = .int .i64 ((2 ^ r : Nat) : Int) ∧ Hid (∀ s, s < r → ((2 ^ s : Nat) : Int) < n)) (fun v => 2048 - (intOf v).toNat)
  case atStart => exact ⟨0, by omega, rfl, Lib.hid fun s hs => by omega⟩
  case round =>
    obtain ⟨r, hr, rfl, HB⟩ := hrel
    have hp : 2 ^ (r + 1) = 2 * 2 ^ r := by rw [Nat.pow_succ]; omega
    have hp0 := Nat.two_pow_pos r
    have h10 : 2 ^ r ≤ 1024 := Nat.le_trans (Nat.pow_le_pow_right (by omega) hr) (by decide)
    have h10' : 2 ^ r < 1024 ↔ r < 10 := by
      constructor
      · intro h
        rcases Nat.lt_or_ge r 10 with h2 | h2
        · exact h2
        · have : 2 ^ 10 ≤ 2 ^ r := Nat.pow_le_pow_right (by omega) h2
          omega
      · intro h
        have : 2 ^ r ≤ 2 ^ 9 := Nat.pow_le_pow_right (by omega) (by omega)
        omega
    by_cases h1 : ((2 ^ r : Nat) : Int) < n
    · by_cases h2 : r < 10
      · have h3 := h10'.2 h2
        have HB2 : Hid (∀ s, s < r + 1 → ((2 ^ s : Nat) : Int) < n) := Lib.hid fun s hs => by
          rcases Nat.lt_or_ge s r with h | h
          · exact HB.out s h
          · obtain rfl : s = r := by omega
            exact h1
        clear HB h10' h10
        obtain ⟨k, hk⟩ : ∃ k, 2 ^ r = k := ⟨_, rfl⟩
        rw [hk] at hp hp0 h1 h3 ⊢
        have d1 : decide ((k : Int) < n) = true := decide_eq_true h1
        have d2 : decide ((k : Int) < 1024) = true := decide_eq_true (by omega)
        go_wp2
        go_round
        case rel => exact ⟨r + 1, by omega, by rw [hp]; go_num, HB2⟩
        case measure => simp [intOf]; omega
      · have hr10 : r = 10 := by omega
        have HS := Lib.hid (right_stop hr HB.out (.inr hr10))
        subst hr10
        clear h10' HB hp
        rw [show (2 ^ 10 : Nat) = 1024 from rfl] at HS h1 ⊢
        have d1 : decide (((1024 : Nat) : Int) < n) = true := decide_eq_true h1
        go_wp2
        go_ret
        exact ⟨by rw [← HS.out]; rfl, rfl⟩
    · have HS := Lib.hid (right_stop hr HB.out (.inl (by omega)))
      clear HB h10' hp
      obtain ⟨k, hk⟩ : ∃ k, 2 ^ r = k := ⟨_, rfl⟩
      rw [hk] at HS h1 h10 hp0 ⊢
      have d1 : decide ((k : Int) < n) = false := decide_eq_false h1
      go_wp2
      go_ret
      exact ⟨by rw [← HS.out]; rfl, rfl⟩

theorem info_pair5 : (Tryz.prog.info? 127).map (fun i => (i.zero, i.size, i.bytes)) = some (some (.agg #[.int .i64 0, .int .i64 0, .bool false]), 3, 24) := by kernel_rfl

set_option maxRecDepth 100000 in
set_option maxHeartbeats 2000000 in
theorem ref5Pairs_yes (t : Nat) (ht : t ≤ 10) (w : World) : Calls Tryz.prog 71 #[.int .i64 ((2 ^ t : Nat) : Int)] w fun e w' =>
    ∃ v, e = .returned v ∧ w'.ownsRow w.heap.size 127 3 v (netP (2 ^ t) t).length (prsV (netP (2 ^ t) t)) ∧ Below w.heap.size w w' := by
  have hr : rightB ((2 ^ t : Nat) : Int) = true := by
    have := rightB_pow t ht
    rwa [show ((2 ^ t : Nat) : Int) = (2 : Int) ^ t by simp]
  have hN1024 : 2 ^ t ≤ 1024 := Nat.le_trans (Nat.pow_le_pow_right (by omega) ht) (by decide)
  have hN0 := Nat.two_pow_pos t
  have K := Lib.hid (ref5Right_any ((2 ^ t : Nat) : Int) ⟨by omega, by omega⟩ w)
  rw [hr] at K
  have hlenN : (netP (2 ^ t) t).length ≤ 112640 := by
    refine Nat.le_trans (netP_length (2 ^ t) t) ?_
    have h3 : t * (t + 1) ≤ 110 := Nat.mul_le_mul ht (show t + 1 ≤ 11 by omega)
    exact Nat.mul_le_mul hN1024 h3
  obtain ⟨i0, hi0, hz0, hz1, hz2⟩ := info_parts info_pair5
  have HI := Lib.hid hi0
  have HZ := Lib.hid hz0
  have HS := Lib.hid hz1
  have HY := Lib.hid hz2
  clear hi0 hz0 hz1 hz2 hr
  obtain ⟨N, hN⟩ : ∃ N, 2 ^ t = N := ⟨_, rfl⟩
  rw [hN] at K hN1024 hN0 hlenN ⊢
  go_enter Tryz.func71, Tryz.ntmps71
  go_wp2_with (first
    | (go_at_call 86; refine K.out.mono ?_; rintro e w' ⟨rfl, rfl⟩)
    | fail)
  go_loopw [3, 4] (fun o v wr => ∃ r : Nat, r ≤ t ∧ v = .int .i64 ((2 ^ (r + 1) : Nat) : Int) ∧ wr.ownsRow w'.heap.size 127 3 o (netP N r).length (prsV (netP N r)) ∧ Below w'.heap.size w' wr) (fun _ v _ => 4096 - (intOf v).toNat)
  case atStart => exact ⟨0, by omega, rfl, World.ownsRow_nil _ _ _ _, Below.refl _ _⟩
  case round =>
    obtain ⟨r, hr, rfl, hO, hB⟩ := hrel
    by_cases hrt : r < t
    · obtain ⟨K2, hK⟩ : ∃ K, 2 ^ (r + 1) = K := ⟨_, rfl⟩
      have hKN : K2 ≤ N := by rw [← hK, ← hN]; exact Nat.pow_le_pow_right (by omega) (by omega)
      have hKp : 0 < K2 := by rw [← hK]; exact Nat.two_pow_pos _
      have hKt : 2 ^ (r + 1 + 1) = 2 * K2 := by rw [Nat.pow_succ, hK]; omega
      have HO := Lib.hid hO
      have HB := Lib.hid hB
      clear hO hB
      rw [hK]
      go_wp2
      go_loopw [3, 5] (fun o v wr => ∃ (c : Nat) (pre : List Pr), c ≤ r + 1 ∧ v = .int .i64 ((2 ^ c / 2 : Nat) : Int) ∧ pre ++ mergeP N K2 c = netP N (r + 1) ∧ Hid (wr.ownsRow w'.heap.size 127 3 o pre.length (prsV pre)) ∧ Hid (Below w'.heap.size w' wr)) (fun _ v _ => (intOf v).toNat)
      case atStart => exact ⟨r + 1, netP N r, by omega, by rw [hK]; go_num, by rw [← hK]; rfl, HO, HB⟩
      case round =>
        obtain ⟨c, pre, hcr, rfl, hpre, HO2, HB2⟩ := hrel
        cases c with
        | zero =>
          have hz : 2 ^ 0 / 2 = 0 := rfl
          rw [hz]
          have hpre' : pre = netP N (r + 1) := by rw [← hpre]; simp [mergeP]
          subst hpre'
          go_wp2
          go_roundw
          case rel => exact ⟨r + 1, by omega, by rw [hKt]; go_num, HO2.out, HB2.out⟩
          case measure => simp [intOf]; omega
        | succ c =>
          obtain ⟨j, hj⟩ : ∃ j, 2 ^ c = j := ⟨_, rfl⟩
          have hjp : 0 < j := by rw [← hj]; exact Nat.two_pow_pos _
          have hjK : j * 2 ≤ K2 := by rw [← hK, ← hj, ← Nat.pow_succ]; exact Nat.pow_le_pow_right (by omega) (by omega)
          have hj2 : 2 ^ (c + 1) / 2 = j := by rw [Nat.pow_succ, hj]; omega
          rw [hj2]
          have d1 : decide ((1 : Int) ≤ (j : Int)) = true := decide_eq_true (by omega)
          go_wp2
          go_loopw [3, 6] (fun o v wr => ∃ m : Nat, m ≤ N ∧ v = .int .i64 (m : Int) ∧ Hid (wr.ownsRow w'.heap.size 127 3 o (pre ++ stageP K2 j m).length (prsV (pre ++ stageP K2 j m))) ∧ Hid (Below w'.heap.size w' wr)) (fun _ v _ => N - (intOf v).toNat)
          case atStart => exact ⟨0, by omega, by go_num, by simpa [stageP] using HO2, HB2⟩
          case round =>
            obtain ⟨m, hm, rfl, HO3, HB3⟩ := hrel
            by_cases hmN : m < N
            · have hA := div_test m j
              have hA2 := div_test m K2
              have hA3 := div_tmod m j
              have hA4 := div_tmod m K2
              have hu1 : (m : Int) / (j : Int) ≤ (m : Int) := Int.ediv_le_self _ (by omega)
              have hu2 : (m : Int) / (K2 : Int) ≤ (m : Int) := Int.ediv_le_self _ (by omega)
              have hq1 : (0 : Int) ≤ (m : Int) / (j : Int) := Int.ediv_nonneg (by omega) (by omega)
              have hq2 : (0 : Int) ≤ (m : Int) / (K2 : Int) := Int.ediv_nonneg (by omega) (by omega)
              by_cases hg : m / j % 2 = 0
              · rw [decide_eq_true hg] at hA hA3
                have hst : stageP K2 j (m + 1) = stageP K2 j m ++ [(m, m + j, decide (m / K2 % 2 = 0))] := by simp [stageP, hg]
                have hlen2 : (pre ++ stageP K2 j m).length + 1 ≤ (netP N t).length := by
                  have hpx : (pre ++ stageP K2 j m) ++ [(m, m + j, decide (m / K2 % 2 = 0))] <+: netP N t := by
                    refine List.IsPrefix.trans ?_ (netP_pre N (show r + 1 ≤ t by omega))
                    rw [← hpre, List.append_assoc, ← hst]
                    refine (List.prefix_append_right_inj pre).2 ?_
                    exact (stageP_pre K2 j (show m + 1 ≤ N by omega)).trans (by rw [← hj]; exact List.prefix_append _ _)
                  have := hpx.length_le
                  rw [List.length_append] at this
                  exact this
                obtain ⟨up, hup⟩ : ∃ up, decide (m / K2 % 2 = 0) = up := ⟨_, rfl⟩
                rw [hup] at hA2 hA4 hst
                have hcast : prsV (pre ++ stageP K2 j (m + 1)) = prsV (pre ++ stageP K2 j m) ++ [.int .i64 (m : Int), .int .i64 ((m : Int) + (j : Int)), .bool up] := by
                  rw [hst, ← List.append_assoc, prsV_snoc]; rfl
                have hlen3 : (pre ++ stageP K2 j (m + 1)).length = (pre ++ stageP K2 j m).length + 1 := by rw [hst, ← List.append_assoc, List.length_append]; rfl
                have HC := Lib.hid hcast
                have HL := Lib.hid hlen3
                clear hcast hlen3 hst hup
                generalize hp1 : pre ++ stageP K2 j (m + 1) = pre1 at *
                generalize hpq : pre ++ stageP K2 j m = pre2 at *
                have hsz := HB3.out.size
                go_wp2_with (first
                  | (at_builtin; go_loud (refine wpList_append_own _ rfl (.tmp 31) (.tmp 42) 125 rfl w'.heap.size 127 i0 (.agg #[.int .i64 0, .int .i64 0, .bool false]) 3 24 Tryz.underlying125 HI.out HZ.out HS.out HY.out rfl (by decide) _ pre2.length (prsV pre2) rfl (HO3.out.alloc _) ⟨wr.heap.size, 0, none⟩ 1 1 [.int .i64 (m : Int), .int .i64 ((m : Int) + (j : Int)), .bool up] rfl rfl (cells_new _ _ _) (by simp [Value.oneCell']) (by unfold maxLen; omega) (by omega) (by simp; omega) ?_))
                  | fail)
                intro v' w4 hown hgrow _
                have HO4 := Lib.hid hown
                have HB4 : Hid (Below w'.heap.size w' w4) := Lib.hid ((HB3.out.alloc hsz _).grown hgrow (by simp; omega) (fun k hk => (HO3.out.lt k hk).1))
                obtain ⟨ga, gc, rfl⟩ := owns_slice hown
                clear hown hgrow HO3 HB3
                go_wp2
                go_roundw
                case rel => exact ⟨m + 1, by omega, by go_num, by rw [hp1, HL.out, HC.out]; exact HO4, HB4⟩
                case measure => simp [intOf]; omega
              · rw [decide_eq_false hg] at hA hA3
                have hst : stageP K2 j (m + 1) = stageP K2 j m := by simp [stageP, hg]
                go_wp2
                go_roundw
                case rel => exact ⟨m + 1, by omega, by go_num, by rw [hst]; exact HO3, HB3⟩
                case measure => simp [intOf]; omega
            · obtain rfl : m = N := by omega
              go_wp2
              go_roundw
              case rel => exact ⟨c, pre ++ stageP K2 j m, by omega, by go_num, by rw [← hpre, ← hj]; simp [mergeP], HO3, HB3⟩
              case measure => simp [intOf]; omega
    · obtain rfl : r = t := by omega
      have h2 : 2 ^ (r + 1) = 2 * N := by rw [Nat.pow_succ, hN]; omega
      rw [h2]
      have HO := Lib.hid hO
      have HB := Lib.hid hB
      obtain ⟨oa, oc, rfl⟩ := owns_slice hO
      clear hO hB
      go_wp2
      go_ret
      exact ⟨_, rfl, HO.out, HB.out⟩
end Go.Proofs.YthchfdobdghdoaaGreat
end
