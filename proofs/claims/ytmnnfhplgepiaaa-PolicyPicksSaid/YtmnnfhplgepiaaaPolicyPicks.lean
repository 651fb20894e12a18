/-
  The walk of the law PolicyPicks: keys, how many are taken away, and which ones, are as the document says.
-/
import Derived.Test.YtmnnfhplgepiaaaPolR
import Derived.Test.YtmnnfhplgepiaaaPolS
namespace Go.Proofs.Ytmnnfhplgepiaaa
open Go Go.RowKit Go.Sg
set_option maxHeartbeats 4000000 in
set_option maxRecDepth 100000 in
theorem PolicyPicks_walk (v : Value) (l : List It) (c b : Int) (w : World) (hv : SlK itV w v l) (ho : ∀ x ∈ l, ItOk x) (_hc : Num c) (_hb : Num b) :
    Calls Try.prog 7 #[v, .int .i64 c, .int .i64 b] w fun e w' => e = .returned (.bool true) ∧ Below w.heap.size w w' := by
  have hw : ∀ x ∈ l, ItW x := fun x hx => (ho x hx).2
  have HV := Lib.hid hv
  obtain ⟨a, cap, rfl, h1, h2, _⟩ := hv
  have KS := Lib.hid (fun w' => shown16 w')
  unfold maxLen at h2
  clear ho _hc _hb
  go_enter Try.func7, Try.ntmps7
  go_wp2_with fail
  refine (KS.out _).mono ?_
  rintro e w1 ⟨rfl, hb1⟩
  have HB1 := Lib.hid hb1
  have HV1 := Lib.hid (HV.out.below hb1)
  clear hb1
  by_cases hL : 100 < l.length
  · have d3 : decide ((100 : Int) < (l.length : Int)) = true := decide_eq_true (by omega)
    have d3' : decide (100 < l.length) = true := decide_eq_true hL
    go_wp2
    go_ret
    exact ⟨rfl, HB1.out⟩
  have d3 : decide ((100 : Int) < (l.length : Int)) = false := decide_eq_false (by omega)
  have d3' : decide (100 < l.length) = false := decide_eq_false hL
  have hl : l.length ≤ 100 := by omega
  have KA := Lib.hid (as_any l (by omega) _ w1 HV1.out)
  go_wp2_with fail
  refine KA.out.mono ?_
  rintro e w2 ⟨v2, rfl, hown, hb2⟩
  have HB2 : Hid (Below w.heap.size w w2) := Lib.hid (HB1.out.trans (hb2.mono HB1.out.size))
  have HV2 := Lib.hid (HV1.out.below hb2)
  have HR2 := Lib.hid (SlK.of_owns hown)
  obtain ⟨a2, cap2, rfl, h3, h4, _⟩ := HR2.out
  unfold maxLen at h4
  clear hb2 hown KA HB1 HV1
  have HW := Lib.hid hw
  clear hw
  obtain ⟨wo, hwo⟩ : ∃ wo : World, wo = w2 := ⟨_, rfl⟩
  have HVO : Hid (SlK itV wo (.slice a l.length cap) l) := Lib.hid (by rw [hwo]; exact HV2.out)
  have HRO : Hid (SlK itV wo (.slice a2 l.length cap2) l) := Lib.hid (by rw [hwo]; exact HR2.out)
  have HBO : Hid (Below w.heap.size w wo) := Lib.hid (by rw [hwo]; exact HB2.out)
  go_wp2_with fail
  go_loopw [9] (fun i wr => ∃ k : Nat, k ≤ l.length ∧ i = .int .i64 k ∧ Hid (Below wo.heap.size wo wr)) (fun i _ => l.length - (intOf i).toNat)
  case atStart => exact ⟨0, by omega, rfl, Lib.hid (by rw [hwo]; exact Below.refl _ _)⟩
  case round =>
    obtain ⟨k, hk, rfl, HB⟩ := hrel
    by_cases hlt : k < l.length
    · have hd : decide ((k : Int) < (l.length : Int)) = true := decide_eq_true (by omega)
      have hd' : decide (k < l.length) = true := decide_eq_true hlt
      have i0 : (0 : Int) ≤ (k : Int) := by omega
      have i1 : (k : Int) < (l.length : Int) := by omega
      obtain ⟨_, _, e1, _, _, f1⟩ := HVO.out
      obtain ⟨b1, o1, rfl, hlt1, hr1⟩ := f1 (fun e => by rw [e] at hlt; simp at hlt)
      obtain ⟨_, _, e2, _, _, f2⟩ := HRO.out
      simp only [Value.slice.injEq, true_and] at e1 e2
      obtain ⟨rfl, rfl⟩ := e1
      obtain ⟨rfl, rfl⟩ := e2
      obtain ⟨b2, o2, rfl, hlt2, hr2⟩ := f2 (fun e => by rw [e] at hlt; simp at hlt)
      have hx1 := range_flat itV_k hr1 hlt
      have hx2 := range_flat itV_k hr2 hlt
      have hxw := HW.out _ (List.getElem_mem hlt)
      clear f1 f2 hr1 hr2
      generalize l[k] = x at *
      obtain ⟨C, hCi, hCo, hCX, hCY, hC1, hC2, hC3, hC4⟩ : ∃ C : World → Prop, C wr.drew ∧ (∀ w', C w' → Below wo.heap.size wo w') ∧ (∀ w', C w' → w'.rangeAt b1 (o1 + k * 3) (itV x)) ∧ (∀ w', C w' → w'.rangeAt b2 (o2 + k * 3) (itV x))
          ∧ (∀ w', C w' → Calls Try.prog 14 #[.agg (itV x).toArray] w' fun e w'' => e = .returned (.int .u64 (keyI x)) ∧ C w'')
          ∧ (∀ w', C w' → Calls Try.prog 15 #[.agg (itV x).toArray] w' fun e w'' => e = .returned (.int .u64 (keyI x)) ∧ C w'')
          ∧ (∀ w', C w' → Calls Try.prog 16 #[.int .i64 x.1] w' fun e w'' => e = .returned (.int .u64 (blankI x.1)) ∧ C w'')
          ∧ (∀ w', C w' → Calls Try.prog 17 #[.int .i64 x.1] w' fun e w'' => e = .returned (.int .u64 (blankI x.1)) ∧ C w'') :=
        ⟨fun w' => Below wo.heap.size wo w', HB.out.drew, fun _ h => h, fun w' h j u hu => (h.cell (p := ⟨b1, o1 + k * 3 + j, none⟩) hlt1).trans (hx1 j u hu), fun w' h j u hu => (h.cell (p := ⟨b2, o2 + k * 3 + j, none⟩) hlt2).trans (hx2 j u hu),
          fun w' h => cls_call (P := Try.prog) (key_any x hxw) (Nat.le_refl _) h, fun w' h => cls_call (P := Try.prog) (rkey_any x hxw) (Nat.le_refl _) h,
          fun w' h => cls_same (P := Try.prog) (blank_any x.1) h, fun w' h => cls_same (P := Try.prog) (rblank_any x.1) h⟩
      have HCO := Lib.hid hCo
      have HCX := Lib.hid hCX
      have HCY := Lib.hid hCY
      have HK1 := Lib.hid hC1
      have HK2 := Lib.hid hC2
      have HK3 := Lib.hid hC3
      have HK4 := Lib.hid hC4
      clear hCo hCX hCY hC1 hC2 hC3 hC4 hx1 hx2 hxw
      have q1 : (keyI x != keyI x) = false := by simp
      have q2 : (blankI x.1 != blankI x.1) = false := by simp
      generalize keyI x = kx at *
      generalize blankI x.1 = bx at *
      go_upto_region 8 with fail
      refine wp_region_cls C (by kernel_rfl) (by kernel_rfl) hCi ?_
      repeat (first
        | (with_reducible refine wpQuiet_step ?_
           intro K hK
           refine qs_skipA (by rfl) (hK _ ?_)
           clear hK K
           try simp only [Act.put, List.setIfInBounds_toArray, List.set_cons_zero, List.set_cons_succ])
        | (with_reducible refine wpQuiet_step ?_
           intro K hK
           refine qs_load_mid16 (by rfl) 28 (.tmp 29) rfl b1 (o1 + k * 3) rfl (itV x) _ (fun w hw => HCX.out w hw) Try.underlying28 rfl (info_itE x) (hK _ ?_)
           clear hK K
           try simp only [Act.put, List.setIfInBounds_toArray, List.set_cons_zero, List.set_cons_succ])
        | (with_reducible refine wpQuiet_step ?_
           intro K hK
           refine qs_load_mid16 (by rfl) 41 (.tmp 34) rfl b2 (o2 + k * 3) rfl (itV x) _ (fun w hw => HCY.out w hw) Try.underlying41 rfl (info_itR x) (hK _ ?_)
           clear hK K
           try simp only [Act.put, List.setIfInBounds_toArray, List.set_cons_zero, List.set_cons_succ])
        | (with_reducible refine wpQuiet_step ?_
           intro K hK
           refine qs_load_cell (by rfl) 3 _ rfl ⟨b1, o1 + k * 3, none⟩ rfl (.int .i64 x.1) (fun w hw => HCX.out w hw 0 _ rfl) Try.isAgg3 (hK _ ?_)
           clear hK K
           try simp only [Act.put, List.setIfInBounds_toArray, List.set_cons_zero, List.set_cons_succ])
        | (with_reducible refine wpQuiet_step ?_
           intro K hK
           go_simp
           first
             | (with_reducible refine hK _ ?_; clear hK K)
             | (with_reducible refine ⟨_, fun _ _ => rfl, hK _ ?_⟩; clear hK K)
             | (with_reducible apply Exists.intro
                with_reducible refine ⟨fun _ hC => ?_, hK _ ?_⟩
                (first
                  | with_reducible exact HK1.out _ hC
                  | with_reducible exact HK2.out _ hC
                  | with_reducible exact HK3.out _ hC
                  | with_reducible exact HK4.out _ hC)
                clear hK K
                try simp only [Act.put, List.setIfInBounds_toArray, List.set_cons_zero, List.set_cons_succ])))
      refine wpQuiet_nil ?_
      intro w8 hC8
      have HX8 := Lib.hid (HCO.out _ hC8)
      clear hC8 hCi HCO HCX HCY HK1 HK2 HK3 HK4
      go_wp2
      go_roundw
      case rel => exact ⟨k + 1, by omega, by go_num, HX8⟩
      case measure => simp [intOf]; omega
    · obtain rfl : k = l.length := by omega
      have hd : decide ((l.length : Int) < (l.length : Int)) = false := by simp
      have KM1 := Lib.hid (fun w' => many_any (l.length : Int) c b c w')
      have KR1 := Lib.hid (fun w' => rmany_any (l.length : Int) c b c w')
      have KM2 := Lib.hid (fun w' => many_any c b (l.length : Int) b w')
      have KR2 := Lib.hid (fun w' => rmany_any c b (l.length : Int) b w')
      have m1 : (manyI (l.length : Int) c b c == manyI (l.length : Int) c b c) = true := by simp
      have m2 : (manyI c b (l.length : Int) b == manyI c b (l.length : Int) b) = true := by simp
      have KV := Lib.hid (victims_all l (by omega) (HW.out) _ c b wr (HVO.out.below HB.out))
      have KR := Lib.hid (fun w' (h : Below wo.heap.size wo w') => rvictims_any l (by omega) HW.out _ c b w' (HRO.out.below h))
      have HBR : Hid (Below w.heap.size w wr) := Lib.hid (HBO.out.trans (HB.out.mono HBO.out.size))
      generalize manyI (l.length : Int) c b c = y1 at *
      generalize manyI c b (l.length : Int) b = y2 at *
      go_wp2_with (first
        | (go_at_call 18; first
            | ((with_reducible refine (KM1.out _).mono ?_); rintro e w' ⟨rfl, rfl⟩)
            | ((with_reducible refine (KM2.out _).mono ?_); rintro e w' ⟨rfl, rfl⟩))
        | (go_at_call 19; first
            | ((with_reducible refine (KR1.out _).mono ?_); rintro e w' ⟨rfl, rfl⟩)
            | ((with_reducible refine (KR2.out _).mono ?_); rintro e w' ⟨rfl, rfl⟩))
        | fail)
      refine KV.out.mono ?_
      rintro e w4 ⟨va, rfl, hsa, hb4⟩
      have HS4 := Lib.hid hsa
      have HB4 := Lib.hid (HB.out.trans (hb4.mono HB.out.size))
      clear hsa hb4
      go_wp2_with fail
      refine (KR.out _ HB4.out).mono ?_
      rintro e w5 ⟨vb, rfl, hsb, hb5⟩
      have HS5 := Lib.hid hsb
      have HS4' := Lib.hid (HS4.out.below hb5)
      have HB5 := Lib.hid (HB4.out.trans (hb5.mono HB4.out.size))
      clear hsb hb5
      go_wp2_with fail
      refine (same16_any va vb _ _ w5 HS4'.out HS5.out).mono ?_
      rintro e w6 ⟨rfl, hb6⟩
      have HB6 := Lib.hid (HB5.out.trans (hb6.mono HB5.out.size))
      have ds : decide (victI l c b = victI l c b) = true := by simp
      rw [ds]
      clear hb6
      go_wp2
      go_ret
      exact ⟨rfl, HBO.out.trans (HB6.out.mono HBO.out.size)⟩
end Go.Proofs.Ytmnnfhplgepiaaa
