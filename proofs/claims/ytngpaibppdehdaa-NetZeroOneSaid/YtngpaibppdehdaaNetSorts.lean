/-
  The walk of shellgamelaw5.NetSorts.
-/
import Derived.Test.YtngpaibppdehdaaSorted
import Derived.Test.YtngpaibppdehdaaSame5
namespace Go.Proofs.Ytngpaibppdehdaa
open Go Go.RowKit Go.Sg

theorem SlI_words {w : World} {v : Value} {xs : List Int} (h : SlI .u64 w v xs) : ∀ x ∈ xs, Word x := by
  rcases h with ⟨rfl, _⟩ | ⟨_, b, off, cap, _, _, _, _, _, h⟩
  · intro x hx; cases hx
  · exact fun x hx => u64_of (h x hx)
theorem ref5Sort_no (v : Value) (xs : List Int) (hn : rightB (xs.length : Int) = false) (hlen : xs.length ≤ 1099511627776) (w : World) (hv : Sl1 w v (xs.map (Value.int .u64))) :
    Calls Try.prog 53 #[v] w fun e w' => e = .returned (.tuple #[.slice none 0 0, .int .i64 1]) ∧ w' = w := by
  obtain ⟨a, cap, rfl⟩ := hv.len
  rw [List.length_map]
  have K := Lib.hid (fun w => ref5Right_any (xs.length : Int) ⟨by omega, by omega⟩ w)
  rw [hn] at K
  clear hv
  go_enter Try.func53, Try.ntmps53
  go_wp2_with (go_at_call 29; refine (K.out _).mono ?_; rintro e w' ⟨rfl, rfl⟩)
  go_ret2
  exact ⟨rfl, rfl⟩
theorem ref5Sort_yes (v : Value) (xs : List Int) (hn : rightB (xs.length : Int) = true) (w : World) (hv : Sl1 w v (xs.map (Value.int .u64))) :
    Calls Try.prog 53 #[v] w fun e w' => ∃ v' ys, e = .returned (.tuple #[v', .int .i64 0]) ∧ SortOf xs ys ∧ Sl1 w' v' (ys.map (Value.int .u64)) ∧ Below w.heap.size w w' := by
  have hbd := rightB_bd hn
  have HV := Lib.hid hv
  obtain ⟨a, cap, rfl⟩ := hv.len
  rw [List.length_map] at HV ⊢
  have K := Lib.hid (fun w => ref5Right_any (xs.length : Int) ⟨by omega, by omega⟩ w)
  rw [hn] at K
  have K2 := Lib.hid (ref5Sorted_any _ xs (fun e => by rw [e] at hbd; simp at hbd) (by omega) w HV.out)
  clear hv
  go_enter Try.func53, Try.ntmps53
  go_wp2_with (first
    | (go_at_call 29; refine (K.out _).mono ?_; rintro e w' ⟨rfl, rfl⟩)
    | fail)
  refine K2.out.mono ?_
  rintro e w' ⟨v', ys, rfl, h1, h2, h3⟩
  have H1 := Lib.hid h1
  have H2 := Lib.hid h2
  have H3 := Lib.hid h3
  clear h1 h2 h3
  go_wp2
  go_ret2
  exact ⟨_, ys, rfl, H1.out, H2.out, H3.out⟩
/-- net.Sort, told by its words alone -/
theorem netSort_any (v : Value) (xs : List Int) (hn : rightB (xs.length : Int) = true) (hw : ∀ x ∈ xs, Word x) (w : World) (hv : Sl1 w v (xs.map (Value.int .u64))) :
    Calls Try.prog 52 #[v] w fun e w' => ∃ v' ys, e = .returned (.tuple #[v', .int .i64 0]) ∧ SortOf xs ys ∧ Sl1 w' v' (ys.map (Value.int .u64)) ∧ Below w.heap.size w w' := by
  obtain ⟨t, ht, hnt⟩ := rightB_of hn
  have hl : xs.length = 2 ^ t := by
    have : ((xs.length : Nat) : Int) = ((2 ^ t : Nat) : Int) := by rw [hnt]; simp
    exact_mod_cast this
  exact (netSort_yes t ht v xs hl hw w hv).mono fun e w' ⟨v', he, h1, h2⟩ => ⟨v', netOf t xs, he, SortOf.net hw hl, h1, h2⟩

set_option maxHeartbeats 4000000 in
set_option maxRecDepth 100000 in
theorem NetSorts_walk (v : Value) (xs : List Int) (w : World) (hv : SlI .u64 w v xs) :
    Calls Try.prog 12 #[v] w fun e w' => e = .returned (.bool true) ∧ Below w.heap.size w w' := by
  have KS := Lib.hid (shown5 w)
  have hwx : ∀ x ∈ xs, Word x := SlI_words hv
  have HV := Lib.hid (Sl1.of_SlI hv)
  obtain ⟨a, cap, rfl⟩ : ∃ a c, v = .slice a xs.length c := by have := HV.out.len; rwa [List.length_map] at this
  have hmx := HV.out.len_le
  rw [List.length_map] at hmx
  unfold maxLen at hmx
  clear hv
  by_cases h300 : 300 < xs.length
  · have d : decide ((300 : Int) < (xs.length : Int)) = true := decide_eq_true (by omega)
    go_enter Try.func12, Try.ntmps12
    go_wp2_with fail
    refine KS.out.mono ?_
    rintro e w1 ⟨rfl, hb1⟩
    have HB1 := Lib.hid hb1
    clear hb1
    go_wp2
    go_ret
    exact ⟨rfl, HB1.out⟩
  have d : decide ((300 : Int) < (xs.length : Int)) = false := decide_eq_false (by omega)
  cases hr : rightB (xs.length : Int) with
  | false =>
    go_enter Try.func12, Try.ntmps12
    go_wp2_with fail
    refine KS.out.mono ?_
    rintro e w1 ⟨rfl, hb1⟩
    have HB1 := Lib.hid hb1
    have HV1 := Lib.hid (HV.out.below hb1)
    clear hb1
    go_wp2_with fail
    refine (netSort_no _ xs hr w1 HV1.out).mono ?_
    rintro e w2 ⟨rfl, hb2⟩
    have HB2 := Lib.hid (HB1.out.trans (hb2.mono HB1.out.size))
    have HV2 := Lib.hid (HV1.out.below hb2)
    clear hb2
    go_wp2_with fail
    refine (ref5Sort_no _ xs hr (by omega) w2 HV2.out).mono ?_
    rintro e w3 ⟨rfl, rfl⟩
    go_wp2_with fail
    refine (same5_any _ _ [] [] _ (.inl ⟨rfl, none, 0, rfl⟩) (.inl ⟨rfl, none, 0, rfl⟩)).mono ?_
    rintro e w4 ⟨rfl, hb4⟩
    have HB4 := Lib.hid (HB2.out.trans (hb4.mono HB2.out.size))
    clear hb4
    rw [decide_eq_true rfl]
    go_wp2
    go_ret
    exact ⟨rfl, HB4.out⟩
  | true =>
    go_enter Try.func12, Try.ntmps12
    go_wp2_with fail
    refine KS.out.mono ?_
    rintro e w1 ⟨rfl, hb1⟩
    have HB1 := Lib.hid hb1
    have HV1 := Lib.hid (HV.out.below hb1)
    clear hb1
    go_wp2_with fail
    refine (netSort_any _ xs hr hwx w1 HV1.out).mono ?_
    rintro e w2 ⟨v2, ys, rfl, hs2, hv2, hb2⟩
    have HB2 := Lib.hid (HB1.out.trans (hb2.mono HB1.out.size))
    have HV2 := Lib.hid (HV1.out.below hb2)
    have HS2 := Lib.hid hs2
    obtain ⟨a2, c2, rfl⟩ : ∃ a c, v2 = .slice a ys.length c := by have := hv2.len; rwa [List.length_map] at this
    have HY2 := Lib.hid hv2
    clear hb2 hv2 hs2
    go_wp2_with fail
    refine (ref5Sort_yes _ xs hr w2 HV2.out).mono ?_
    rintro e w3 ⟨v3, zs, rfl, hs3, hv3, hb3⟩
    obtain rfl := HS2.out.uniq hs3
    have HB3 := Lib.hid (HB2.out.trans (hb3.mono HB2.out.size))
    have HY3 := Lib.hid (HY2.out.below hb3)
    obtain ⟨a3, c3, rfl⟩ : ∃ a c, v3 = .slice a ys.length c := by have := hv3.len; rwa [List.length_map] at this
    have HZ3 := Lib.hid hv3
    clear hb3 hv3 hs3
    go_wp2_with fail
    refine (same5_any _ _ ys ys _ HY3.out HZ3.out).mono ?_
    rintro e w4 ⟨rfl, hb4⟩
    have HB4 := Lib.hid (HB3.out.trans (hb4.mono HB3.out.size))
    clear hb4
    rw [decide_eq_true rfl]
    go_wp2
    go_ret
    exact ⟨rfl, HB4.out⟩
end Go.Proofs.Ytngpaibppdehdaa
