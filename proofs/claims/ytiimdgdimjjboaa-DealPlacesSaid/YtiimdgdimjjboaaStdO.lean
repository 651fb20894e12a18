/-
  The walk of slices.SortStableFunc at items.
-/
import Derived.Test.YtiimdgdimjjboaaStdN
namespace Go.Proofs.Ytiimdgdimjjboaa
open Go Go.RowKit Go.Sg
variable {w0 w : World} {G : Nat} {tl : List Value} {c1 c2 : Value} {S : Int → Prop} {lt : Int → Int → Bool} {le : Int → Int → Prop}

theorem MergeBelow.mono {n cap L L' : Nat} (h : MergeBelow c1 c2 w0 G tl S lt le n cap L) (hl : L' ≤ L) : MergeBelow c1 c2 w0 G tl S lt le n cap L' :=
  fun A U V C a m b w h1 h2 h3 h4 h5 h6 h7 => h A U V C a m b w h1 h2 h3 h4 h5 h6 (by omega)
theorem merge_all (tr : ∀ x y z, le x y → le y z → le x z) {n cap : Nat} (hc : n ≤ cap) (hcap : n ≤ 1099511627776) (hcmp : CmpOk Try.prog 53 #[c1, c2] S lt w0 G) : ∀ L, MergeBelow c1 c2 w0 G tl S lt le n cap L
  | 0 => fun A U V C a m b w _ _ _ _ _ _ h => by omega
  | L + 1 => fun A U V C a m b w hA hU hV hn hU0 hV0 hL hSU hSV hF hpU hpV h => by
    have ih := merge_all tr hc hcap hcmp L
    by_cases e1 : U.length = 1
    · obtain ⟨x, rfl⟩ := List.length_eq_one_iff.1 e1
      obtain rfl : a + 1 = m := by simpa using hU
      have := merge_left tr A x V C n cap a b hA hV hn hV0 hc hcap (hSU x (by simp)) hSV (fun y hy => hF x (by simp) y hy) hpV hcmp w h
      rwa [show ((a : Int) + 1) = ((a + 1 : Nat) : Int) by simp] at this
    by_cases e2 : V.length = 1
    · obtain ⟨y, rfl⟩ := List.length_eq_one_iff.1 e2
      obtain rfl : m + 1 = b := by simpa using hV
      have := merge_right tr A U y C n cap a m hA hU (by omega) (by omega) hc hcap (hSV y (by simp)) hSU (fun x hx => hF x hx y (by simp)) hpU hcmp w h
      rwa [show ((m : Int) + 1) = ((m + 1 : Nat) : Int) by simp] at this
    exact merge_main tr A U V C n cap a m b hA hU hV hn (by omega) (by omega) hc hcap hSU hSV hF hpU hpV hcmp (ih.mono (by omega)) w h

set_option maxHeartbeats 8000000 in
set_option maxRecDepth 100000 in
theorem stable_any (tr : ∀ x y z, le x y → le y z → le x z) (d0 : List Int) (n cap : Nat) (hn : d0.length = n) (hc : n ≤ cap) (hcap : n ≤ 1099511627776)
    (hS : ∀ x ∈ d0, S x) (hF : d0.Pairwise (Fit lt le)) (hcmp : CmpOk Try.prog 53 #[c1, c2] S lt w0 G) (w : World) (h : RwI w0 G tl d0 w) :
    Calls Try.prog 72 #[.slice (some ⟨G, 0, none⟩) n cap, .int .i64 (n : Int), .func (.func 53) #[] #[c1, c2]] w (SortPost le d0 (fun T w' => RwI w0 G tl T w')) := by
  have HIN := Lib.hid (fun A R C a b hA hR hn' hS' hF' w h => insertion_any (w0 := w0) (G := G) (tl := tl) tr A R C n cap a b hA hR hn' hc hcap hS' hF' hcmp w h)
  have HME := Lib.hid (merge_all (tl := tl) tr hc hcap hcmp (n + 1))
  have HNl := Lib.hid hn
  have HS := Lib.hid hS
  have HF := Lib.hid hF
  have hn40 : n ≤ 1099511627776 := by omega
  have HX0 : Hid (∃ D0 D R : List Int, d0 = D0 ++ R ∧ Ahead le 20 D0 D ∧ D.length = 0 ∧ RwI w0 G tl (D ++ R) w) := Lib.hid ⟨[], [], d0, rfl, Ahead.nil _, rfl, h⟩
  clear hn hS hF hcmp h
  go_enter Try.func72, Try.ntmps72
  go_wp2_with fail
  go_loopw [7, 8] (fun av bv wr => ∃ a : Nat, av = .int .i64 a ∧ bv = .int .i64 ((a + 20 : Nat) : Int) ∧ a ≤ n ∧ Hid (∃ D0 D R : List Int, d0 = D0 ++ R ∧ Ahead le 20 D0 D ∧ D.length = a ∧ RwI w0 G tl (D ++ R) wr)) (fun av _ _ => n - (intOf av).toNat)
  case atStart => exact ⟨0, rfl, rfl, by omega, HX0⟩
  case round =>
    obtain ⟨a, rfl, rfl, han, HX⟩ := hrel
    clear HX0
    by_cases hle : a + 20 ≤ n
    · have d : decide (((a + 20 : Nat) : Int) ≤ (n : Int)) = true := decide_eq_true (by omega)
      have d' : decide (a + 20 ≤ n) = true := decide_eq_true hle
      obtain ⟨D0, D, R, e1, e2, e3, e4⟩ := HX.out
      have hRl : R.length = n - a := by
        have h1 := congrArg List.length e1
        have h2 := e2.1
        have h3 := HNl.out
        rw [List.length_append] at h1
        omega
      have eR : R = R.take 20 ++ R.drop 20 := (List.take_append_drop _ _).symm
      have hl1 : (R.take 20).length = 20 := by rw [List.length_take]; omega
      have hl2 : (R.drop 20).length = n - a - 20 := by rw [List.length_drop]; omega
      generalize R.take 20 = B at *
      generalize R.drop 20 = C at *
      subst eR
      have K := Lib.hid (HIN.out D B C (a : Int) ((a + 20 : Nat) : Int) (by omega) (by omega) (by omega) (fun x hx => HS.out x (by rw [e1]; simp [hx])) (by
        have h := HF.out
        rw [e1] at h
        exact (List.pairwise_append.1 (List.pairwise_append.1 h).2.1).1) wr (by simpa using e4))
      have HE : Hid (∀ T w', T.Perm B → T.Pairwise le → RwI w0 G tl (D ++ T ++ C) w' → ∃ D0 D R : List Int, d0 = D0 ++ R ∧ Ahead le 20 D0 D ∧ D.length = a + 20 ∧ RwI w0 G tl (D ++ R) w') := Lib.hid fun T w' h1 h2 h3 => ⟨D0 ++ B, D ++ T, C, by rw [e1]; simp, e2.snoc (by rw [h1.length_eq, hl1]) h1 h2, by rw [List.length_append, h1.length_eq, e3, hl1], h3⟩
      clear e1 e2 e3 e4 hRl hl1 hl2 HX
      go_wp2_with fail
      refine K.out.mono ?_
      rintro e w' ⟨rfl, T, h1, h2, h3⟩
      have HXE := Lib.hid (HE.out T w' h1 h2 h3)
      clear h1 h2 h3 K HE
      go_wp2
      go_roundw
      case rel => exact ⟨a + 20, by go_num, by go_num, hle, HXE⟩
      case measure => simp [intOf]; omega
    · have d : decide (((a + 20 : Nat) : Int) ≤ (n : Int)) = false := decide_eq_false (by omega)
      have d' : decide (a + 20 ≤ n) = false := decide_eq_false hle
      obtain ⟨D0, D, R, e1, e2, e3, e4⟩ := HX.out
      have hRl : R.length = n - a := by
        have h1 := congrArg List.length e1
        have h2 := e2.1
        have h3 := HNl.out
        rw [List.length_append] at h1
        omega
      have K := Lib.hid (HIN.out D R [] (a : Int) (n : Int) (by omega) (by omega) (by simp) (fun x hx => HS.out x (by rw [e1]; simp [hx])) (by
        have h := HF.out
        rw [e1] at h
        exact (List.pairwise_append.1 h).2.1) wr (by simpa using e4))
      have HE : Hid (∀ T w', T.Perm R → T.Pairwise le → RwI w0 G tl (D ++ T ++ []) w' → ∃ d, Chunks le 20 d0 d ∧ RwI w0 G tl d w') := Lib.hid fun T w' h1 h2 h3 => ⟨D ++ T, by rw [e1]; exact e2.2 _ _ (.last _ _ (by rw [h1.length_eq]; omega) h1 h2), by simpa using h3⟩
      clear e1 e2 e3 e4 hRl HX
      go_wp2_with fail
      refine K.out.mono ?_
      rintro e w2 ⟨rfl, T, h1, h2, h3⟩
      have HX1 := Lib.hid (HE.out T w2 h1 h2 h3)
      clear h1 h2 h3 K HE HIN d d' hle
      go_wp2_with fail
      go_loopw [6, 7, 8, 9] (fun sv _ _ _ wr => ∃ s : Nat, sv = .int .i64 s ∧ 0 < s ∧ s ≤ 4398046511104 ∧ Hid (∃ d, Chunks le s d0 d ∧ RwI w0 G tl d wr)) (fun sv _ _ _ _ => n - (intOf sv).toNat)
      case atStart => exact ⟨20, rfl, by omega, by omega, HX1⟩
      case round =>
        obtain ⟨s, rfl, hs0, hsm, HX⟩ := hrel
        clear HX1
        by_cases hsn : s < n
        · have d : decide ((s : Int) < (n : Int)) = true := decide_eq_true (by omega)
          have d' : decide (s < n) = true := decide_eq_true hsn
          have HX1 : Hid (∃ D0 D R0 R : List Int, d0 = D0 ++ R0 ∧ Ahead le (2 * s) D0 D ∧ D.length = 0 ∧ Chunks le s R0 R ∧ RwI w0 G tl (D ++ R) wr) := Lib.hid (by
            obtain ⟨d, h1, h2⟩ := HX.out
            exact ⟨[], [], d0, d, rfl, Ahead.nil _, rfl, h1, h2⟩)
          clear HX
          go_wp2_with fail
          obtain ⟨wo, rfl⟩ : ∃ wo : World, wo = wr := ⟨_, rfl⟩
          go_loopw [7, 8] (fun av bv wr => ∃ a : Nat, av = .int .i64 a ∧ bv = .int .i64 ((a + 2 * s : Nat) : Int) ∧ a ≤ n ∧ Hid (∃ D0 D R0 R : List Int, d0 = D0 ++ R0 ∧ Ahead le (2 * s) D0 D ∧ D.length = a ∧ Chunks le s R0 R ∧ RwI w0 G tl (D ++ R) wr)) (fun av _ _ => n - (intOf av).toNat)
          case atStart => exact ⟨0, rfl, by first | rfl | go_num | (congr 1; omega), by omega, HX1⟩
          case round =>
            obtain ⟨a, rfl, rfl, han2, HX⟩ := hrel
            clear HX1
            obtain ⟨D0, D, R0, R, e1, e2, e3, e4, e5⟩ := HX.out
            have hRl : R.length = n - a := by
              have h1 := congrArg List.length e1
              have h2 := e2.1
              have h3 := HNl.out
              have h4 := e4.length
              rw [List.length_append] at h1
              omega
            by_cases hle2 : a + 2 * s ≤ n
            · have d2 : decide (((a + 2 * s : Nat) : Int) ≤ (n : Int)) = true := decide_eq_true (by omega)
              have d2' : decide (a + 2 * s ≤ n) = true := decide_eq_true hle2
              obtain ⟨U0, U, T0, T, f1, f2, f3, f4, f5, f6⟩ := e4.full (by omega) hs0
              subst f1 f2
              have hTl : T.length = n - a - s := by rw [List.length_append] at hRl; omega
              obtain ⟨V0, V, X0, X, g1, g2, g3, g4, g5, g6⟩ := f6.full (by omega) hs0
              subst g1 g2
              have hXl : X.length = n - a - 2 * s := by rw [List.length_append] at hTl; omega
              have K := Lib.hid (HME.out D U V X a (a + s) (a + 2 * s) wr e3 (by omega) (by omega) (by omega) (by omega) (by omega) (by omega) (fun x hx => HS.out x (by rw [e1]; simp [f4.mem_iff.1 hx])) (fun x hx => HS.out x (by rw [e1]; simp [g4.mem_iff.1 hx]))
                (fit_of (by rw [← e1]; exact HF.out) f4 g4) f5 g5 (by simpa using e5))
              have HE : Hid (∀ Z w', Mrg le U V Z → RwI w0 G tl (D ++ Z ++ X) w' → ∃ D0 D R0 R : List Int, d0 = D0 ++ R0 ∧ Ahead le (2 * s) D0 D ∧ D.length = a + 2 * s ∧ Chunks le s R0 R ∧ RwI w0 G tl (D ++ R) w') := Lib.hid fun Z w' h1 h2 => ⟨D0 ++ (U0 ++ V0), D ++ Z, X0, X, by rw [e1]; simp, e2.snoc (by rw [h1.length]; omega) (h1.1.trans (f4.append g4)) h1.2, by rw [List.length_append, h1.length]; omega, g6, h2⟩
              clear e1 e2 e3 e4 e5 f3 f4 f5 f6 g3 g4 g5 g6 HX hRl hTl hXl
              have i1 : ((a + 2 * s : Nat) : Int) = (a : Int) + 2 * (s : Int) := by omega
              have i2 : ((a + s : Nat) : Int) = (a : Int) + (s : Int) := by omega
              rw [i1, i2] at K
              rw [i1] at d2 ⊢
              go_wp2_with fail
              refine K.out.mono ?_
              rintro e w' ⟨rfl, Z, h1, h2⟩
              have HXE := Lib.hid (HE.out Z w' h1 h2)
              clear h1 h2 K HE i1 i2
              go_wp2
              go_roundw
              case rel => exact ⟨a + 2 * s, by go_num, by first | rfl | go_num | (congr 1; omega), hle2, HXE⟩
              case measure => simp [intOf]; omega
            · have d2 : decide (((a + 2 * s : Nat) : Int) ≤ (n : Int)) = false := decide_eq_false (by omega)
              have d2' : decide (a + 2 * s ≤ n) = false := decide_eq_false hle2
              have i1 : ((a + 2 * s : Nat) : Int) = (a : Int) + 2 * (s : Int) := by omega
              by_cases hms : a + s < n
              · have d3 : decide ((a : Int) + (s : Int) < (n : Int)) = true := decide_eq_true (by omega)
                have d3' : decide (a + s < n) = true := decide_eq_true hms
                obtain ⟨U0, U, T0, T, f1, f2, f3, f4, f5, f6⟩ := e4.full (by omega) hs0
                subst f1 f2
                have hTl : T.length = n - a - s := by rw [List.length_append] at hRl; omega
                obtain ⟨g4, g5⟩ := f6.all (by omega)
                have K := Lib.hid (HME.out D U T [] a (a + s) n wr e3 (by omega) (by omega) (by simp) (by omega) (by omega) (by omega) (fun x hx => HS.out x (by rw [e1]; simp [f4.mem_iff.1 hx])) (fun x hx => HS.out x (by rw [e1]; simp [g4.mem_iff.1 hx]))
                  (fit_of (R0 := []) (by rw [List.append_nil, ← e1]; exact HF.out) f4 g4) f5 g5 (by simpa using e5))
                have HE : Hid (∀ Z w', Mrg le U T Z → RwI w0 G tl (D ++ Z ++ []) w' → ∃ d, Chunks le (s * 2) d0 d ∧ RwI w0 G tl d w') := Lib.hid fun Z w' h1 h2 => ⟨D ++ Z, by
                  rw [e1, Nat.mul_comm]
                  exact e2.2 _ _ (.last _ _ (by rw [h1.length]; omega) (h1.1.trans (f4.append g4)) h1.2), by simpa using h2⟩
                clear e1 e2 e3 e4 e5 f3 f4 f5 f6 g4 g5 HX hRl hTl
                have i2 : ((a + s : Nat) : Int) = (a : Int) + (s : Int) := by omega
                rw [i2] at K
                rw [i1] at d2 ⊢
                go_wp2_with fail
                refine K.out.mono ?_
                rintro e w' ⟨rfl, Z, h1, h2⟩
                have HXE := Lib.hid (HE.out Z w' h1 h2)
                clear h1 h2 K HE i1 i2
                go_wp2
                go_roundw
                case rel => exact ⟨s * 2, by go_num, by omega, by omega, HXE⟩
                case measure => simp [intOf]; omega
              · have d3 : decide ((a : Int) + (s : Int) < (n : Int)) = false := decide_eq_false (by omega)
                have d3' : decide (a + s < n) = false := decide_eq_false hms
                have HXE : Hid (∃ d, Chunks le (s * 2) d0 d ∧ RwI w0 G tl d wr) := Lib.hid (by
                  obtain ⟨g4, g5⟩ := e4.all (by omega)
                  exact ⟨D ++ R, by
                    rw [e1, Nat.mul_comm]
                    exact e2.2 _ _ (.last _ _ (by omega) g4 g5), e5⟩)
                clear e1 e2 e3 e4 e5 HX hRl
                rw [i1] at d2 ⊢
                go_wp2
                go_roundw
                case rel => exact ⟨s * 2, by go_num, by omega, by omega, HXE⟩
                case measure => simp [intOf]; omega
        · have d : decide ((s : Int) < (n : Int)) = false := decide_eq_false (by omega)
          have d' : decide (s < n) = false := decide_eq_false hsn
          have HE : Hid (∃ T : List Int, T.Perm d0 ∧ T.Pairwise le ∧ RwI w0 G tl T wr) := Lib.hid (by
            obtain ⟨d, h1, h2⟩ := HX.out
            obtain ⟨h3, h4⟩ := h1.all (by have := h1.length; have := HNl.out; omega)
            exact ⟨d, h3, h4, h2⟩)
          clear HX
          go_wp2
          go_end0
          exact ⟨rfl, HE.out⟩

theorem sortStable_any (tr : ∀ x y z, le x y → le y z → le x z) (d0 : List Int) (n cap : Nat) (hn : d0.length = n) (hc : n ≤ cap) (hcap : n ≤ 1099511627776)
    (hS : ∀ x ∈ d0, S x) (hF : d0.Pairwise (Fit lt le)) (hcmp : CmpOk Try.prog 53 #[c1, c2] S lt w0 G) (w : World) (h : RwI w0 G tl d0 w) :
    Calls Try.prog 52 #[.slice (some ⟨G, 0, none⟩) n cap, .func (.func 53) #[] #[c1, c2]] w (SortPost le d0 (fun T w' => RwI w0 G tl T w')) := by
  have K := Lib.hid (stable_any tr d0 n cap hn hc hcap hS hF hcmp w h)
  clear hn hS hF hcmp h
  go_enter Try.func52, Try.ntmps52
  go_wp2_with fail
  refine K.out.mono ?_
  rintro e w' ⟨rfl, hT⟩
  have HT := Lib.hid hT
  clear hT
  go_wp2
  go_end0
  exact ⟨rfl, HT.out⟩
end Go.Proofs.Ytiimdgdimjjboaa
