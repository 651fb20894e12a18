/-
  The walk of shellgamelaw1.WordLeast.
-/
import Derived.Test.YtjgbnokhelfnaaaLaw1
import Derived.Test.YtjgbnokhelfnaaaRow
namespace Go.Proofs.Ytjgbnokhelfnaaa
open Go.RowKit Go.Sg

theorem pick_less {x c a b : Int} (ha : Word a) (hb : Word b) (h : x < c) : pk (lm x c) a b = a := by
  unfold lm; rw [pk_mk _ ha hb, decide_eq_true h]; rfl
theorem pick_more {x c a b : Int} (ha : Word a) (hb : Word b) (h : ¬ x < c) : pk (lm x c) a b = b := by
  unfold lm; rw [pk_mk _ ha hb, decide_eq_false h]; rfl

theorem WordLeast_walk (v : Value) (zs : List Int) (w : World) (hv : SlI .u64 w v zs) :
    Calls Try.prog 7 #[v] w fun e w' => e = .returned (.bool true) ∧ Below w.heap.size w w' := by
  rcases hv with ⟨hz, a, cap, rfl⟩ | ⟨hz, b, off, cap, rfl, hl, hm, hb, hc, hw⟩
  · clear hz
    go_enter Try.func7, Try.ntmps7
    go_wp2_with (go_at_call 11; refine (shown1 _).mono ?_; rintro e w' ⟨rfl, rfl⟩)
    go_ret
    exact ⟨rfl, Below.refl _ _⟩
  · have hpos : 0 < zs.length := Nat.pos_of_ne_zero (fun h => hz (List.length_eq_zero_iff.1 h))
    by_cases h200 : 200 < zs.length
    · have g1 : ((zs.length : Int) == 0) = false := by rw [beq_eq_false_iff_ne]; omega
      have g2 : decide ((200 : Int) < (zs.length : Int)) = true := decide_eq_true (by omega)
      clear hz hc hw hpos h200
      go_enter Try.func7, Try.ntmps7
      go_wp2_with (go_at_call 11; refine (shown1 _).mono ?_; rintro e w' ⟨rfl, rfl⟩)
      go_ret
      exact ⟨rfl, Below.refl _ _⟩
    · have hword : ∀ n ∈ zs, Word n := fun n hn => u64_of (hw n hn)
      have HW := Lib.hid hword
      have g1 : ((zs.length : Int) == 0) = false := by rw [beq_eq_false_iff_ne]; omega
      have g2 : decide ((200 : Int) < (zs.length : Int)) = false := decide_eq_false (by omega)
      have c0 : w.cell? ⟨b, off, none⟩ = some (.int .u64 zs[0]) := hc 0 hpos
      have HC := Lib.hid hc
      have g3 : (0 : Int) < (zs.length : Int) := by omega
      have g4 : (zs.length : Int) ≤ 200 := by omega
      clear hz hc hw hword
      go_enter Try.func7, Try.ntmps7
      go_wp2_with (go_at_call 11; refine (shown1 _).mono ?_; rintro e w' ⟨rfl, rfl⟩)
      go_loop [4, 5, 6] (fun x t i => ∃ (k j : Nat) (c : Int), 1 ≤ k ∧ k ≤ zs.length ∧ x = .int .u64 c ∧ t = .int .u64 j ∧ i = .int .i64 k ∧ j < k ∧
          Hid (∃ h : j < zs.length, c = zs[j]) ∧ Hid (∀ r (h : r < zs.length), r < k → c ≤ zs[r]) ∧ Hid (∀ r (h : r < zs.length), r < j → c < zs[r])) (fun _ _ i => zs.length - (intOf i).toNat)
      case atStart => exact ⟨1, 0, zs[0], by omega, by omega, rfl, rfl, rfl, by omega, Lib.hid ⟨hpos, rfl⟩, Lib.hid (fun r h h1 => by obtain rfl : r = 0 := by omega
                                                                                                                                      exact Int.le_refl _), Lib.hid (fun r h h1 => by omega)⟩
      case round =>
        obtain ⟨k, j, c, hk1, hk2, rfl, rfl, rfl, hjk, H1, H2, H3⟩ := hrel
        have HWc : Hid (Word c) := Lib.hid (by obtain ⟨h, rfl⟩ := H1.out; exact HW.out _ (List.getElem_mem h))
        by_cases hlt : k < zs.length
        · have ck : w'.cell? ⟨b, off + k, none⟩ = some (.int .u64 zs[k]) := HC.out k hlt
          have HWk : Hid (Word zs[k]) := Lib.hid (HW.out _ (List.getElem_mem hlt))
          have KL := Lib.hid (less_any zs[k] c HWk.out HWc.out)
          by_cases hc : zs[k] < c
          · have KP : Hid (∀ w, Calls Try.prog 22 #[.int .u64 (lm zs[k] c), .int .u64 zs[k], .int .u64 c] w fun e w' => e = .returned (.int .u64 zs[k]) ∧ w' = w) := Lib.hid fun w => by
              have := pick_any (lm zs[k] c) zs[k] c (lm_word _ _) HWk.out HWc.out w
              rwa [pick_less HWk.out HWc.out hc] at this
            have KQ : Hid (∀ w, Calls Try.prog 22 #[.int .u64 (lm zs[k] c), .int .u64 (k : Int), .int .u64 (j : Int)] w fun e w' => e = .returned (.int .u64 (k : Int)) ∧ w' = w) := Lib.hid fun w => by
              have := pick_any (lm zs[k] c) (k : Int) (j : Int) (lm_word _ _) ⟨by omega, by omega⟩ ⟨by omega, by omega⟩ w
              rwa [pick_less ⟨by omega, by omega⟩ ⟨by omega, by omega⟩ hc] at this
            have HLT := Lib.hid hc
            clear hc
            go_wp2_with (first
              | (go_at_call 20; (with_reducible refine (KL.out _).mono ?_); rintro e w' ⟨rfl, rfl⟩)
              | (go_at_call 22; (first | (with_reducible refine (KP.out _).mono ?_) | (with_reducible refine (KQ.out _).mono ?_)); rintro e w' ⟨rfl, rfl⟩))
            go_round
            case rel =>
              refine ⟨k + 1, k, zs[k], by omega, by omega, rfl, rfl, by go_num, by omega, Lib.hid ⟨hlt, rfl⟩, Lib.hid ?_, Lib.hid ?_⟩
              · intro r h h1
                have h2 := HLT.out
                rcases Nat.lt_or_ge r k with h3 | h3
                · have := H2.out r h h3; omega
                · obtain rfl : r = k := by omega
                  exact Int.le_refl _
              · intro r h h1
                have h2 := HLT.out
                have := H2.out r h h1; omega
            case measure => simp [intOf]; omega
          · have KP : Hid (∀ w, Calls Try.prog 22 #[.int .u64 (lm zs[k] c), .int .u64 zs[k], .int .u64 c] w fun e w' => e = .returned (.int .u64 c) ∧ w' = w) := Lib.hid fun w => by
              have := pick_any (lm zs[k] c) zs[k] c (lm_word _ _) HWk.out HWc.out w
              rwa [pick_more HWk.out HWc.out hc] at this
            have KQ : Hid (∀ w, Calls Try.prog 22 #[.int .u64 (lm zs[k] c), .int .u64 (k : Int), .int .u64 (j : Int)] w fun e w' => e = .returned (.int .u64 (j : Int)) ∧ w' = w) := Lib.hid fun w => by
              have := pick_any (lm zs[k] c) (k : Int) (j : Int) (lm_word _ _) ⟨by omega, by omega⟩ ⟨by omega, by omega⟩ w
              rwa [pick_more ⟨by omega, by omega⟩ ⟨by omega, by omega⟩ hc] at this
            have HLT := Lib.hid hc
            clear hc
            go_wp2_with (first
              | (go_at_call 20; (with_reducible refine (KL.out _).mono ?_); rintro e w' ⟨rfl, rfl⟩)
              | (go_at_call 22; (first | (with_reducible refine (KP.out _).mono ?_) | (with_reducible refine (KQ.out _).mono ?_)); rintro e w' ⟨rfl, rfl⟩))
            go_round
            case rel =>
              refine ⟨k + 1, j, c, by omega, by omega, rfl, rfl, by go_num, by omega, H1, Lib.hid ?_, H3⟩
              intro r h h1
              have h2 := HLT.out
              rcases Nat.lt_or_ge r k with h3 | h3
              · exact H2.out r h h3
              · obtain rfl : r = k := by omega
                omega
            case measure => simp [intOf]; omega
        · have HK : Hid (k = zs.length) := Lib.hid (by omega)
          have hjl : j < zs.length := by omega
          have H2' : Hid (∀ r (h : r < zs.length), c ≤ zs[r]) := Lib.hid fun r h => H2.out r h (by have := HK.out; omega)
          clear H2
          go_wp2
          go_loop [8] (fun i => ∃ r : Nat, r ≤ zs.length ∧ i = .int .i64 r) (fun i => zs.length - (intOf i).toNat)
          case atStart => exact ⟨0, by omega, rfl⟩
          case round =>
            obtain ⟨r, hr, rfl⟩ := hrel
            by_cases hlt' : r < zs.length
            · have cr := HC.out r hlt'
              have b1 : decide (zs[r] < c) = false := decide_eq_false (by have := H2'.out r hlt'; omega)
              by_cases hrj : r < j
              · have b2 : decide ((r : Int) < (j : Int)) = true := decide_eq_true (by omega)
                have b3 : (zs[r] == c) = false := by have := H3.out r hlt' hrj; rw [beq_eq_false_iff_ne]; omega
                go_wp2
                go_round
                case rel => exact ⟨r + 1, by omega, by go_num⟩
                case measure => simp [intOf]; omega
              · have b2 : decide ((r : Int) < (j : Int)) = false := decide_eq_false (by omega)
                go_wp2
                go_round
                case rel => exact ⟨r + 1, by omega, by go_num⟩
                case measure => simp [intOf]; omega
            · have cj : w'.cell? ⟨b, off + j, none⟩ = some (.int .u64 c) := by
                obtain ⟨h, e⟩ := H1.out
                rw [e]; exact HC.out j h
              have KZ : Hid (∀ w, Calls Try.prog 16 #[.int .u64 c] w fun e w' => e = .returned (.int .u64 (zm c)) ∧ w' = w) := Lib.hid (zero_any c HWc.out)
              have KE : Hid (∀ w, Calls Try.prog 18 #[.int .u64 c, .int .u64 0] w fun e w' => e = .returned (.int .u64 (zm c)) ∧ w' = w) := Lib.hid fun w => equal_any c 0 HWc.out zero_word w
              have KF : Hid (∀ w, Calls Try.prog 18 #[.int .u64 c, .int .u64 c] w fun e w' => e = .returned (.int .u64 18446744073709551615) ∧ w' = w) := Lib.hid fun w => by
                have := equal_any c c HWc.out HWc.out w
                have e : em c c = 18446744073709551615 := by simp [em, mk]
                rwa [e] at this
              go_wp2_with (first
                | (go_at_call 16; (with_reducible refine (KZ.out _).mono ?_); rintro e w' ⟨rfl, rfl⟩)
                | (go_at_call 18; (first | (with_reducible refine (KE.out _).mono ?_) | (with_reducible refine (KF.out _).mono ?_)); rintro e w' ⟨rfl, rfl⟩))
              go_ret
              exact ⟨rfl, Below.refl _ _⟩
end Go.Proofs.Ytjgbnokhelfnaaa
