/-
  The walk of a stable sort's merges.
-/
import Derived.Test.YtiimdgdimjjboaaStdM
namespace Go.Proofs.Ytiimdgdimjjboaa
open Go Go.RowKit Go.Sg
variable {w0 w : World} {G : Nat} {tl : List Value} {c1 c2 : Value} {S : Int → Prop} {lt : Int → Int → Bool} {le : Int → Int → Prop}
/-- What a merge of fewer than L elements does. -/
def MergeBelow (c1 c2 : Value) (w0 : World) (G : Nat) (tl : List Value) (S : Int → Prop) (lt : Int → Int → Bool) (le : Int → Int → Prop) (n cap L : Nat) : Prop :=
  ∀ (A U V C : List Int) (a m b : Nat) (w : World), A.length = a → a + U.length = m → m + V.length = b → b + C.length = n → 0 < U.length → 0 < V.length → U.length + V.length < L → (∀ x ∈ U, S x) → (∀ y ∈ V, S y) → (∀ x ∈ U, ∀ y ∈ V, Fit lt le x y) → U.Pairwise le → V.Pairwise le → RwI w0 G tl (A ++ U ++ V ++ C) w →
    Calls Try.prog 87 #[.slice (some ⟨G, 0, none⟩) n cap, .int .i64 (a : Int), .int .i64 (m : Int), .int .i64 (b : Int), .func (.func 53) #[] #[c1, c2]] w (MrgPost le U V (fun T w' => RwI w0 G tl (A ++ T ++ C) w'))

set_option maxHeartbeats 20000000 in
set_option maxRecDepth 100000 in
theorem merge_main (tr : ∀ x y z, le x y → le y z → le x z) (A U V C : List Int) (n cap a m b : Nat) (hA : A.length = a) (hU : a + U.length = m) (hV : m + V.length = b) (hn : b + C.length = n) (hU1 : 1 < U.length) (hV1 : 1 < V.length) (hc : n ≤ cap) (hcap : n ≤ 1099511627776)
    (hSU : ∀ x ∈ U, S x) (hSV : ∀ y ∈ V, S y) (hF : ∀ x ∈ U, ∀ y ∈ V, Fit lt le x y) (hpU : U.Pairwise le) (hpV : V.Pairwise le) (hcmp : CmpOk Try.prog 53 #[c1, c2] S lt w0 G)
    (hIH : MergeBelow c1 c2 w0 G tl S lt le n cap (U.length + V.length)) (w : World) (h : RwI w0 G tl (A ++ U ++ V ++ C) w) :
    Calls Try.prog 87 #[.slice (some ⟨G, 0, none⟩) n cap, .int .i64 (a : Int), .int .i64 (m : Int), .int .i64 (b : Int), .func (.func 53) #[] #[c1, c2]] w (MrgPost le U V (fun T w' => RwI w0 G tl (A ++ T ++ C) w')) := by
  have ham : a + 1 < m := by omega
  have hmb : m + 1 < b := by omega
  have hbn : b ≤ n := by omega
  have HCMP := Lib.hid hcmp
  have HIH := Lib.hid hIH
  have HA := Lib.hid hA
  have HU := Lib.hid hU
  have HV := Lib.hid hV
  have HN := Lib.hid hn
  have HSU := Lib.hid hSU
  have HSV := Lib.hid hSV
  have HF := Lib.hid hF
  have HPU := Lib.hid hpU
  have HPV := Lib.hid hpV
  have HX0 : Hid (RwI w0 G tl (A ++ U ++ V ++ C) w) := Lib.hid h
  have d0 : ((m : Int) - (a : Int) == 1) = false := by rw [beq_eq_false_iff_ne]; omega
  have d1 : ((b : Int) - (m : Int) == 1) = false := by rw [beq_eq_false_iff_ne]; omega
  obtain ⟨mid, hmid⟩ : ∃ mid : Nat, ((a : Int) + (b : Int)) / 2 = mid := ⟨(a + b) / 2, by omega⟩
  have hmid1 : 2 * mid ≤ a + b := by omega
  have hmid2 : a + b ≤ 2 * mid + 1 := by omega
  have HE : Hid (∃ lo hi : Nat, (lo = a ∨ lo + b = mid + m) ∧ (hi = mid ∨ hi = m) ∧ a ≤ lo ∧ lo ≤ hi ∧ hi ≤ m ∧ hi ≤ mid ∧ mid + m ≤ lo + b ∧ (mid < m → lo + b = mid + m ∧ hi = mid) ∧ (¬ mid < m → lo = a ∧ hi = m)) := Lib.hid (by
    by_cases e : mid < m
    · exact ⟨mid + m - b, mid, .inr (by omega), .inl rfl, by omega, by omega, by omega, by omega, by omega, fun _ => ⟨by omega, rfl⟩, fun h => absurd e h⟩
    · exact ⟨a, m, .inl rfl, .inr rfl, by omega, by omega, by omega, by omega, by omega, fun h => absurd h e, fun _ => ⟨rfl, rfl⟩⟩)
  obtain ⟨lo, hi, hlo, hhi, g1, g2, g3, g4, g5, g6, g7⟩ := HE.out
  have HLO := Lib.hid hlo
  have HHI := Lib.hid hhi
  have HG6 := Lib.hid g6
  have HG7 := Lib.hid g7
  obtain ⟨NN, hNN⟩ : ∃ NN, mid + m = NN := ⟨_, rfl⟩
  have HNN := Lib.hid hNN
  have eNN : (mid : Int) + (m : Int) = (NN : Int) := by omega
  have hNN1 : 1 ≤ NN := by omega
  obtain ⟨pp, hpp⟩ : ∃ pp : Nat, (NN : Int) - 1 = pp := ⟨NN - 1, by omega⟩
  clear hcmp hIH hA hU hV hn hSU hSV hF hpU hpV h hU1 hV1 hlo hhi g6 g7 HE hNN
  go_enter Try.func87, Try.ntmps87
  go_upto_if 140 with fail
  go_cut [20, 21] (fun sv rv wx => sv = .int .i64 (lo : Int) ∧ rv = .int .i64 (hi : Int) ∧ wx = w)
  case first =>
    as_aux_lemma =>
      by_cases hmm : mid < m
      · obtain ⟨k1, k2⟩ := HG6.out hmm
        have elo : (NN : Int) - (b : Int) = (lo : Int) := by have := HNN.out; omega
        have dm : decide ((mid : Int) < (m : Int)) = true := decide_eq_true (by omega)
        have dm' : decide (mid < m) = true := decide_eq_true hmm
        have HH0 : Hid ((mid : Int) = (hi : Int)) := Lib.hid (by omega)
        clear k1 k2
        go_wp2_with fail
        go_meet
        exact ⟨rfl, by rw [HH0.out], rfl⟩
      · obtain ⟨k1, k2⟩ := HG7.out hmm
        have HL0 : Hid ((a : Int) = (lo : Int)) := Lib.hid (by omega)
        have HH0 : Hid ((m : Int) = (hi : Int)) := Lib.hid (by omega)
        have dm : decide ((mid : Int) < (m : Int)) = false := decide_eq_false (by omega)
        have dm' : decide (mid < m) = false := decide_eq_false hmm
        clear k1 k2
        go_wp2_with fail
        go_meet
        exact ⟨by rw [HL0.out], by rw [HH0.out], rfl⟩
  case rest =>
    obtain ⟨rfl, rfl, rfl⟩ := hcut
    go_wp2_with fail
    go_loopw [20, 21, 23] (fun sv rv _ wr => ∃ s r : Nat, sv = .int .i64 s ∧ rv = .int .i64 r ∧ lo ≤ s ∧ s ≤ r ∧ r ≤ hi ∧ Hid ((s = lo ∨ ∃ x y, 0 < s - a ∧ U[s - a - 1]? = some x ∧ V[mid - s]? = some y ∧ le x y) ∧ (r = hi ∨ ∃ x y, 0 < mid - r ∧ V[mid - r - 1]? = some x ∧ U[r - a]? = some y ∧ le x y)) ∧ Hid (RwI w0 G tl (A ++ U ++ V ++ C) wr)) (fun sv rv _ _ => (intOf rv - intOf sv).toNat)
    case atStart => exact ⟨lo, hi, rfl, rfl, by omega, by omega, by omega, Lib.hid ⟨.inl rfl, .inl rfl⟩, HX0⟩
    case round =>
      obtain ⟨s, r, rfl, rfl, hls, hsr, hrh, HP, HX⟩ := hrel
      clear HX0
      by_cases hlt : s < r
      · as_aux_lemma =>
          have d : decide ((s : Int) < (r : Int)) = true := decide_eq_true (by omega)
          have d' : decide (s < r) = true := decide_eq_true hlt
          obtain ⟨o, hm⟩ : ∃ o : Nat, ((s : Int) + (r : Int)) / 2 = o := ⟨(s + r) / 2, by omega⟩
          have hm1 : s ≤ o := by omega
          have hm2 : o < r := by omega
          obtain ⟨q, hq⟩ : ∃ q : Nat, (pp : Int) - (o : Int) = q := ⟨pp - o, by have := HNN.out; omega⟩
          have hqm : q = m + (mid - 1 - o) := by have := HNN.out; omega
          have hsU : o - a < U.length := by have := HU.out; omega
          have hsV : mid - 1 - o < V.length := by have := HV.out; omega
          have hv : (A ++ U ++ V ++ C)[o]? = some U[o - a] := by
            rw [List.append_assoc (A ++ U)]
            exact get_in _ _ _ _ hsU o (by rw [HA.out]; omega)
          have hu : (A ++ U ++ V ++ C)[q]? = some V[mid - 1 - o] := get_in _ _ _ _ hsV q (by rw [List.length_append, HA.out, HU.out]; omega)
          have hmU := List.getElem_mem hsU
          have hmV := List.getElem_mem hsV
          have hfit := HF.out _ hmU _ hmV
          have HNO : Hid (lt V[mid - 1 - o] U[o - a] = false → ∃ x y, 0 < o + 1 - a ∧ U[o + 1 - a - 1]? = some x ∧ V[mid - (o + 1)]? = some y ∧ le x y) := Lib.hid fun e => ⟨U[o - a], V[mid - 1 - o], by omega, by rw [show o + 1 - a - 1 = o - a by omega, List.getElem?_eq_getElem hsU], by rw [show mid - (o + 1) = mid - 1 - o by omega, List.getElem?_eq_getElem hsV], hfit.2 e⟩
          have HYES : Hid (lt V[mid - 1 - o] U[o - a] = true → ∃ x y, 0 < mid - o ∧ V[mid - o - 1]? = some x ∧ U[o - a]? = some y ∧ le x y) := Lib.hid fun e => ⟨V[mid - 1 - o], U[o - a], by omega, by rw [show mid - o - 1 = mid - 1 - o by omega, List.getElem?_eq_getElem hsV], by rw [List.getElem?_eq_getElem hsU], hfit.1 e⟩
          have hSx := HSU.out _ hmU
          have hSy := HSV.out _ hmV
          clear hfit
          generalize U[o - a] = x at *
          generalize V[mid - 1 - o] = y at *
          have K : Hid (∀ w', RwI w0 G tl (A ++ U ++ V ++ C) w' → Calls Try.prog 53 #[.int .i64 y, .int .i64 x, c1, c2] w' fun e w'' => ∃ c : Int, e = .returned (.int .i64 c) ∧ decide (c < 0) = lt y x ∧ Below w'.heap.size w' w'') := Lib.hid fun w' h => by
            have := HCMP.out y x w' hSy hSx h.fr
            simpa using this
          have HCELL : Hid (∀ w', RwI w0 G tl (A ++ U ++ V ++ C) w' → (w'.cell? ⟨G, q, none⟩ = some (.int .i64 y)) ∧ (w'.cell? ⟨G, o, none⟩ = some (.int .i64 x))) := Lib.hid fun w' h => by
            have r1 := h.at1 hu
            have r2 := h.at1 hv
            exact ⟨r1, r2⟩
          have hqn : q < n := by omega
          have iM0 : (0 : Int) ≤ (q : Int) := by omega
          have iM1 : (q : Int) < (n : Int) := by omega
          have iA0 : (0 : Int) ≤ (o : Int) := by omega
          have iA1 : (o : Int) < (n : Int) := by omega
          have wq := IntWalk.i64_in (q : Int) (by omega)
          have hX1 := HX.out.drew
          have hc1 := HCELL.out _ hX1
          clear hqm
          go_upto_region 35 with fail
          clear hm hu hv hmU hmV hSx hSy hsU hsV
          cases hlx : lt y x
          all_goals
            rw [hlx] at K HNO HYES
            clear hlx
            go_wp2_with fail
            go_region_held3 (fun w' => (w'.cell? ⟨G, q, none⟩ = some (.int .i64 y)) ∧ (w'.cell? ⟨G, o, none⟩ = some (.int .i64 x))) (first | exact HCELL.out _ (by assumption)) (first
              | (go_at_call 53; refine (K.out _ hX1).mono ?_; rintro e w2 ⟨c, rfl, hcd, hb2⟩; have hX2 := hX1.below hb2))
          · have HN1 := Lib.hid (HNO.out (by trivial))
            have HX2 := Lib.hid hX2
            clear hX1 hX2 hc1 HNO HYES K HCELL hb2 HX
            go_wp2
            go_roundw
            case rel => exact ⟨o + 1, r, by go_num, rfl, by omega, by omega, hrh, Lib.hid ⟨.inr HN1.out, HP.out.2⟩, HX2⟩
            case measure => simp [intOf]; omega
          · have HN1 := Lib.hid (HYES.out (by trivial))
            have HX2 := Lib.hid hX2
            clear hX1 hX2 hc1 HNO HYES K HCELL hb2 HX
            go_wp2
            go_roundw
            case rel => exact ⟨s, o, rfl, rfl, hls, hm1, by omega, Lib.hid ⟨HP.out.1, .inr HN1.out⟩, HX2⟩
            case measure => simp [intOf]; omega
      · obtain rfl : s = r := by omega
        have d : decide ((s : Int) < (s : Int)) = false := decide_eq_false (by omega)
        have HCUT := Lib.hid (cut_ok tr HPU.out HPV.out HU.out HV.out (by omega) (by omega) (by omega) (by omega) HLO.out HHI.out HP.out.1 HP.out.2)
        obtain ⟨en, hen⟩ : ∃ en : Nat, (NN : Int) - (s : Int) = en := ⟨NN - s, by have := HNN.out; omega⟩
        have hen1 : en = m + (mid - s) := by have := HNN.out; omega
        have hl1 : (U.take (s - a)).length = s - a := by rw [List.length_take]; have := HU.out; omega
        have hl2 : (U.drop (s - a)).length = m - s := by rw [List.length_drop]; have := HU.out; omega
        have hl3 : (V.take (mid - s)).length = mid - s := by rw [List.length_take]; have := HV.out; omega
        have hl4 : (V.drop (mid - s)).length = b - en := by rw [List.length_drop]; have := HV.out; omega
        have eU : U = U.take (s - a) ++ U.drop (s - a) := (List.take_append_drop _ _).symm
        have eV : V = V.take (mid - s) ++ V.drop (mid - s) := (List.take_append_drop _ _).symm
        generalize U.take (s - a) = U1 at *
        generalize U.drop (s - a) = U2 at *
        generalize V.take (mid - s) = V1 at *
        generalize V.drop (mid - s) = V2 at *
        subst eU eV
        have HL1 := Lib.hid (And.intro hl1 (And.intro hl2 (And.intro hl3 hl4)))
        have HEN := Lib.hid hen1
        have hb1 : a ≤ s := by omega
        have hb2 : s ≤ m := by omega
        have hb3 : s ≤ mid := by omega
        have hb4 : m ≤ en := by omega
        have hb5 : en ≤ b := by omega
        have hb6 : mid ≤ en := by omega
        have hPU := List.pairwise_append.1 HPU.out
        have hPV := List.pairwise_append.1 HPV.out
        have HP4 := Lib.hid (And.intro (And.intro hPU.1 hPU.2.1) (And.intro hPV.1 hPV.2.1))
        clear HP hl1 hl2 hl3 hl4 hen1 hPU hPV HLO HHI HG6 HG7 g1 g2 g3 g4 g5 hls hrh hmid1 hmid2
        go_upto_region 39 with fail
        go_cut [185] (fun tv wx => tv = .bool (decide (s < m ∧ m < en)) ∧ wx = wr)
        case first =>
          as_aux_lemma =>
            by_cases q1 : s < m
            · have e1 : decide ((s : Int) < (m : Int)) = true := decide_eq_true (by omega)
              have e1' : decide (s < m) = true := decide_eq_true q1
              by_cases q2 : m < en
              · have e2 : decide ((m : Int) < (en : Int)) = true := decide_eq_true (by omega)
                have e2' : decide (m < en) = true := decide_eq_true q2
                go_wp2_with fail
                go_meet
                exact ⟨by first | rfl | simp [q1, q2], rfl⟩
              · have e2 : decide ((m : Int) < (en : Int)) = false := decide_eq_false (by omega)
                have e2' : decide (m < en) = false := decide_eq_false q2
                go_wp2_with fail
                go_meet
                exact ⟨by first | rfl | simp [q1, q2], rfl⟩
            · have e1 : decide ((s : Int) < (m : Int)) = false := decide_eq_false (by omega)
              have e1' : decide (s < m) = false := decide_eq_false q1
              go_wp2_with fail
              go_meet
              exact ⟨by first | rfl | simp [q1], rfl⟩
        case rest =>
        obtain ⟨rfl, rfl⟩ := hcut
        go_upto_if 185 with fail
        go_cut [] (fun wx => Hid (RwI w0 G tl (A ++ U1 ++ V1 ++ U2 ++ V2 ++ C) wx))
        case first =>
          as_aux_lemma =>
            by_cases q1 : s < m ∧ m < en
            · rw [decide_eq_true q1]
              have K := Lib.hid (rotate_any (A ++ U1) U2 V1 (V2 ++ C) n cap (s : Int) (m : Int) (en : Int) (.func (.func 53) #[] #[c1, c2]) (by have := HA.out; have := HL1.out.1; simp; omega) (by have := HL1.out.2.1; omega) (by have := HL1.out.2.2.1; have := HEN.out; omega) (by have := HL1.out.2.2.2; have := HN.out; simp; omega) (by have := HL1.out.2.1; omega) (by have := HL1.out.2.2.1; have := HEN.out; omega) hc hcap _ (by simpa using HX.out))
              go_wp2_with fail
              refine K.out.mono ?_
              rintro e w' ⟨rfl, hX⟩
              have HX1 := Lib.hid hX
              clear hX K
              go_wp2_with fail
              go_meet
              exact Lib.hid (by simpa using HX1.out)
            · rw [decide_eq_false q1]
              go_wp2_with fail
              go_meet
              exact Lib.hid (by
                have h := HX.out
                have : U2 = [] ∨ V1 = [] := by
                  have h2 := HL1.out.2.1
                  have h3 := HL1.out.2.2.1
                  have h4 := HEN.out
                  by_cases hs : s < m
                  · exact .inr (List.length_eq_zero_iff.1 (by omega))
                  · exact .inl (List.length_eq_zero_iff.1 (by omega))
                rcases this with rfl | rfl <;> simpa using h)
        case rest =>
        have HX2 := Lib.hid hcut.out
        clear HX hcut
        go_upto_region 41 with fail
        go_cut [199] (fun tv wx => tv = .bool (decide (a < s ∧ s < mid)) ∧ wx = wc)
        case first =>
          as_aux_lemma =>
            by_cases q1 : a < s
            · have e1 : decide ((a : Int) < (s : Int)) = true := decide_eq_true (by omega)
              have e1' : decide (a < s) = true := decide_eq_true q1
              by_cases q2 : s < mid
              · have e2 : decide ((s : Int) < (mid : Int)) = true := decide_eq_true (by omega)
                have e2' : decide (s < mid) = true := decide_eq_true q2
                go_wp2_with fail
                go_meet
                exact ⟨by first | rfl | simp [q1, q2], rfl⟩
              · have e2 : decide ((s : Int) < (mid : Int)) = false := decide_eq_false (by omega)
                have e2' : decide (s < mid) = false := decide_eq_false q2
                go_wp2_with fail
                go_meet
                exact ⟨by first | rfl | simp [q1, q2], rfl⟩
            · have e1 : decide ((a : Int) < (s : Int)) = false := decide_eq_false (by omega)
              have e1' : decide (a < s) = false := decide_eq_false q1
              go_wp2_with fail
              go_meet
              exact ⟨by first | rfl | simp [q1], rfl⟩
        case rest =>
        obtain ⟨rfl, rfl⟩ := hcut
        go_upto_if 199 with fail
        go_cut [] (fun wx => Hid (∃ T, Mrg le U1 V1 T ∧ RwI w0 G tl (A ++ T ++ U2 ++ V2 ++ C) wx))
        case first =>
          as_aux_lemma =>
            by_cases q1 : a < s ∧ s < mid
            · rw [decide_eq_true q1]
              have hc4 : U1.length + V1.length < (U1 ++ U2).length + (V1 ++ V2).length := by
                obtain ⟨h1, h2, h3, h4⟩ := HL1.out
                have h5 := HU.out
                have h6 := HV.out
                simp only [List.length_append] at h5 h6 ⊢
                omega
              have K := Lib.hid (HIH.out (A) U1 V1 (U2 ++ V2 ++ C) a s mid _ (by exact HA.out) (by have := HL1.out.1; omega) (by have := HL1.out.2.2.1; omega) (by obtain ⟨h1, h2, h3, h4⟩ := HL1.out; have h5 := HU.out; have h6 := HV.out; have h7 := HN.out; have h8 := HEN.out; simp only [List.length_append] at h5 h6 ⊢; omega) (by have := HL1.out.1; omega) (by have := HL1.out.2.2.1; omega) hc4 (fun x hx => HSU.out x (by simp [hx])) (fun x hx => HSV.out x (by simp [hx])) (fun x hx y hy => HF.out x (by simp [hx]) y (by simp [hy])) HP4.out.1.1 HP4.out.2.1 (by simpa using HX2.out))
              go_wp2_with fail
              refine K.out.mono ?_
              rintro e w' ⟨rfl, T, hM, hX⟩
              have HX1 := Lib.hid (And.intro hM hX)
              clear hM hX K
              go_wp2_with fail
              go_meet
              exact Lib.hid ⟨T, HX1.out.1, by simpa using HX1.out.2⟩
            · rw [decide_eq_false q1]
              go_wp2_with fail
              go_meet
              exact Lib.hid (by
                have h := HX2.out
                have : U1 = [] ∨ V1 = [] := by
                  have h2 := HL1.out.1
                  have h3 := HL1.out.2.2.1
                  by_cases hs : a < s
                  · exact .inr (List.length_eq_zero_iff.1 (by omega))
                  · exact .inl (List.length_eq_zero_iff.1 (by omega))
                rcases this with rfl | rfl
                · exact ⟨V1, Mrg.one_right rfl HP4.out.2.1, by simpa using h⟩
                · exact ⟨U1, Mrg.one_left rfl HP4.out.1.1, by simpa using h⟩)
        case rest =>
        obtain ⟨T1, hM1, hX4⟩ := hcut.out
        have HM1 := Lib.hid hM1
        have HX4 := Lib.hid hX4
        clear HX2 hcut hM1 hX4
        go_upto_region 43 with fail
        go_cut [213] (fun tv wx => tv = .bool (decide (mid < en ∧ en < b)) ∧ wx = wc)
        case first =>
          as_aux_lemma =>
            by_cases q1 : mid < en
            · have e1 : decide ((mid : Int) < (en : Int)) = true := decide_eq_true (by omega)
              have e1' : decide (mid < en) = true := decide_eq_true q1
              by_cases q2 : en < b
              · have e2 : decide ((en : Int) < (b : Int)) = true := decide_eq_true (by omega)
                have e2' : decide (en < b) = true := decide_eq_true q2
                go_wp2_with fail
                go_meet
                exact ⟨by first | rfl | simp [q1, q2], rfl⟩
              · have e2 : decide ((en : Int) < (b : Int)) = false := decide_eq_false (by omega)
                have e2' : decide (en < b) = false := decide_eq_false q2
                go_wp2_with fail
                go_meet
                exact ⟨by first | rfl | simp [q1, q2], rfl⟩
            · have e1 : decide ((mid : Int) < (en : Int)) = false := decide_eq_false (by omega)
              have e1' : decide (mid < en) = false := decide_eq_false q1
              go_wp2_with fail
              go_meet
              exact ⟨by first | rfl | simp [q1], rfl⟩
        case rest =>
        obtain ⟨rfl, rfl⟩ := hcut
        by_cases q1 : mid < en ∧ en < b
        · as_aux_lemma =>
            rw [decide_eq_true q1]
            have hc4 : U2.length + V2.length < (U1 ++ U2).length + (V1 ++ V2).length := by
              obtain ⟨h1, h2, h3, h4⟩ := HL1.out
              have h5 := HU.out
              have h6 := HV.out
              simp only [List.length_append] at h5 h6 ⊢
              omega
            have K := Lib.hid (HIH.out (A ++ T1) U2 V2 (C) mid en b _ (by obtain ⟨h1, h2, h3, h4⟩ := HL1.out; have h5 := HA.out; have h6 := HM1.out.length; rw [List.length_append]; omega) (by have := HL1.out.2.1; have := HEN.out; omega) (by have := HL1.out.2.2.2; omega) HN.out (by have := HL1.out.2.1; have := HEN.out; omega) (by have := HL1.out.2.2.2; omega) hc4 (fun x hx => HSU.out x (by simp [hx])) (fun x hx => HSV.out x (by simp [hx])) (fun x hx y hy => HF.out x (by simp [hx]) y (by simp [hy])) HP4.out.1.2 HP4.out.2.2 (by simpa using HX4.out))
            go_wp2_with fail
            refine K.out.mono ?_
            rintro e w' ⟨rfl, T, hM, hX⟩
            have HX1 := Lib.hid (And.intro hM hX)
            clear hM hX K
            go_wp2_with fail
            go_end0
            exact ⟨rfl, T1 ++ T, HM1.out.join HX1.out.1 HCUT.out, by simpa using HX1.out.2⟩
        · as_aux_lemma =>
            rw [decide_eq_false q1]
            go_wp2
            go_end0
            obtain ⟨T2, hM2, hX6⟩ : ∃ T, Mrg le U2 V2 T ∧ RwI w0 G tl (A ++ T1 ++ T ++ C) _ := (by
              have h := HX4.out
              have : U2 = [] ∨ V2 = [] := by
                have h2 := HL1.out.2.1
                have h3 := HL1.out.2.2.2
                have h4 := HEN.out
                by_cases hs : mid < en
                · exact .inr (List.length_eq_zero_iff.1 (by omega))
                · exact .inl (List.length_eq_zero_iff.1 (by omega))
              rcases this with rfl | rfl
              · exact ⟨V2, Mrg.one_right rfl HP4.out.2.2, by simpa using h⟩
              · exact ⟨U2, Mrg.one_left rfl HP4.out.1.2, by simpa using h⟩)
            exact ⟨rfl, T1 ++ T2, HM1.out.join hM2 HCUT.out, by simpa using hX6⟩
end Go.Proofs.Ytiimdgdimjjboaa
