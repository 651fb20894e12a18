/-
  The walk of the law DealPlaces: shapes, places, the order, and where each one goes, are as the document says.
-/
import Derived.Test.YtiimdgdimjjboaaDealY
import Derived.Test.YtiimdgdimjjboaaDealRC
import Derived.Test.YtiimdgdimjjboaaDealV
import Derived.Test.YtiimdgdimjjboaaDItem
namespace Go.Proofs.Ytiimdgdimjjboaa
open Go Go.RowKit Go.Sg
set_option maxHeartbeats 8000000 in
set_option maxRecDepth 100000 in
theorem DealPlaces_walk (s : Sh) (v : Value) (l : List Di) (fit : Bool) (w : World) (_n1 : Num s.1) (_n2 : Num s.2.1) (_n3 : Num s.2.2) (hv : SlK diV w v l) (_ho : ∀ x ∈ l, DiOk x) :
    Calls Try.prog 3 #[.agg #[.int .i64 s.1, .int .i64 s.2.1, .int .i64 s.2.2], v, .bool fit] w fun e w' => e = .returned (.bool true) ∧ Below w.heap.size w w' := by
  have KS := Lib.hid (fun w' => shown9 w')
  have KR := Lib.hid (fun w' => rright_any s w')
  have HV := Lib.hid hv
  obtain ⟨a, cap, rfl, h1, h2, _⟩ := hv
  unfold maxLen at h2
  have HBW : Hid (Below w.heap.size w (w.alloc (.cells #[.int .i64 s.1, .int .i64 s.2.1, .int .i64 s.2.2] 23))) := Lib.hid ((Below.refl _ _).alloc (Nat.le_refl _) _)
  have HBK : Hid (Blk (w.alloc (.cells #[.int .i64 s.1, .int .i64 s.2.1, .int .i64 s.2.2] 23)) w.heap.size #[.int .i64 s.1, .int .i64 s.2.1, .int .i64 s.2.2] 23) := Lib.hid (Blk.new w _ _)
  clear _ho
  go_enter Try.func3, Try.ntmps3
  go_wp2_with fail
  refine (KS.out _).mono ?_
  rintro e w2 ⟨rfl, hb2⟩
  have HB2 : Hid (Below w.heap.size w w2) := Lib.hid (HBW.out.trans (hb2.mono HBW.out.size))
  have HK2 := Lib.hid (HBK.out.below hb2 HBK.out.lt)
  clear hb2 KS HBW HBK
  by_cases hL : 160 < l.length
  · have d3 : decide ((160 : Int) < (l.length : Int)) = true := decide_eq_true (by omega)
    have d3' : decide (160 < l.length) = true := decide_eq_true hL
    go_wp2
    go_ret
    exact ⟨rfl, HB2.out⟩
  have d3 : decide ((160 : Int) < (l.length : Int)) = false := decide_eq_false (by omega)
  have d3' : decide (160 < l.length) = false := decide_eq_false hL
  have hl160 : l.length ≤ 160 := by omega
  have c0 : w2.cell? ⟨w.heap.size, 0, none⟩ = some (.int .i64 s.1) := HK2.out.cell 0
  have c1 : w2.cell? ⟨w.heap.size, 1, none⟩ = some (.int .i64 s.2.1) := HK2.out.cell 1
  have c2 : w2.cell? ⟨w.heap.size, 2, none⟩ = some (.int .i64 s.2.2) := HK2.out.cell 2
  obtain ⟨S, hS⟩ : ∃ S, w.heap.size = S := ⟨_, rfl⟩
  obtain ⟨R, hR⟩ : ∃ R, w2.heap.size = R := ⟨_, rfl⟩
  obtain ⟨w3, hw3⟩ : ∃ w3, w2.alloc (.cells #[.int .i64 s.1, .int .i64 s.2.1, .int .i64 s.2.2] 26) = w3 := ⟨_, rfl⟩
  have hb3 : Below w2.heap.size w2 w3 := by rw [← hw3]; exact (Below.refl _ _).alloc (Nat.le_refl _) _
  have HB3 : Hid (Below w.heap.size w w3) := Lib.hid (HB2.out.trans (hb3.mono HB2.out.size))
  have HK3 : Hid (Blk w3 S #[.int .i64 s.1, .int .i64 s.2.1, .int .i64 s.2.2] 23) := Lib.hid (by rw [← hS]; exact HK2.out.below hb3 HK2.out.lt)
  have HT3 : Hid (Blk w3 R #[.int .i64 s.1, .int .i64 s.2.1, .int .i64 s.2.2] 26) := Lib.hid (by rw [← hw3, ← hR]; exact Blk.new w2 _ _)
  have HV3 : Hid (SlK diV w3 (.slice a l.length cap) l) := Lib.hid (HV.out.below HB3.out)
  have HSE := Lib.hid hS
  rw [hS] at c0 c1 c2 ⊢
  clear hb3 hS HK2 HB2 HV
  rcases hf : fit with _ | _
  · clear hf KR
    go_upto_region 5 with fail
    clear hw3 hR c0 c1 c2
    go_upto_region 7 with fail
    have KD := Lib.hid (fun w' (h : Below w3.heap.size w3 w') => deal_any s l _ w' (HV3.out.below h))
    have KA := Lib.hid (fun w' (h : Below w3.heap.size w3 w') => as9_any l (by omega) _ w' (HV3.out.below h))
    have KE := Lib.hid (fun va w' (h : SlK diV w' va l) => rdeal_any s l va w' h)
    have KO := Lib.hid (fun w' (h : Below w3.heap.size w3 w') => order_sl l (by omega) _ w' (HV3.out.below h))
    have KQ := Lib.hid (fun va w' (h : SlK diV w' va l) => rorder_any l (by omega) va w' h)
    have K1 := Lib.hid (fun w' => right_any s w')
    have K2 := Lib.hid (fun w' => rright_any s w')
    have K3 := Lib.hid (fun w' => places_any s w')
    have K4 := Lib.hid (fun w' => rplaces_any s w')
    have HC : Hid (∀ w', Below w3.heap.size w3 w' → (w'.cell? ⟨S, 0, none⟩ = some (.int .i64 s.1) ∧ w'.cell? ⟨S, 1, none⟩ = some (.int .i64 s.2.1) ∧ w'.cell? ⟨S, 2, none⟩ = some (.int .i64 s.2.2) ∧ w'.cell? ⟨R, 0, none⟩ = some (.int .i64 s.1) ∧ w'.cell? ⟨R, 1, none⟩ = some (.int .i64 s.2.1) ∧ w'.cell? ⟨R, 2, none⟩ = some (.int .i64 s.2.2))) := Lib.hid fun w' h => by
      have b1 := HK3.out.below h HK3.out.lt
      have b2 := HT3.out.below h HT3.out.lt
      exact ⟨b1.cell 0, b1.cell 1, b1.cell 2, b2.cell 0, b2.cell 1, b2.cell 2⟩
    obtain ⟨g0, g1, g2, -⟩ := HC.out w3 (Below.refl _ _)
    have q1 : (rightD s == rightD s) = true := by simp
    have q2 : (placesD s == placesD s) = true := by simp
    have q3 : decide (ordD l = ordD l) = true := by simp
    have q4 : decide (dealP s l = dealP s l) = true := by simp
    have q5 : decide (dealLost s l = dealLost s l) = true := by simp
    generalize rightD s = rd at *
    generalize placesD s = pd at *
    generalize ordD l = od at *
    generalize dealP s l = dp at *
    generalize dealLost s l = dl at *
    go_wp2_with fail
    refine (KD.out _ (Below.refl _ _)).mono ?_
    rintro e wa ⟨va, vb, rfl, hva, hvb, hba⟩
    have HVA := Lib.hid hva
    have HVB := Lib.hid hvb
    have HBA := Lib.hid hba
    clear hva hvb hba g0 g1 g2
    have HAW : Hid (∀ w', Below wa.heap.size wa w' → Below w3.heap.size w3 w') := Lib.hid fun w' h => HBA.out.trans (h.mono HBA.out.size)
    have hb0 : Below wa.heap.size wa wa.drew := (Below.refl _ _).drew
    go_upto_region 8 with fail
    go_region_held3 (fun w' => Below wa.heap.size wa w' ∧ w'.cell? ⟨R, 0, none⟩ = some (.int .i64 s.1) ∧ w'.cell? ⟨R, 1, none⟩ = some (.int .i64 s.2.1) ∧ w'.cell? ⟨R, 2, none⟩ = some (.int .i64 s.2.2)) (first | exact ⟨by assumption, (HC.out _ (HAW.out _ (by assumption))).2.2.2⟩) (first
      | (go_at_call 21; with_reducible refine (KA.out _ (HAW.out _ hb0)).mono ?_; rintro e wb ⟨ra, rfl, hra, hbb⟩; have hb1 := hb0.trans (hbb.mono hb0.size); have hra2 := SlK.of_owns hra)
      | (go_at_call 20; with_reducible refine (KE.out _ _ hra2).mono ?_; rintro e wc ⟨vc, vd, rfl, hvc, hvd, hbc⟩; have hb2 := hb1.trans (hbc.mono hb1.size)))
    all_goals
      have HVC := Lib.hid hvc
      have HVD := Lib.hid hvd
      have HVA2 := Lib.hid (HVA.out.below hb2)
      have HVB2 := Lib.hid (HVB.out.below hb2)
      have HCW : Hid (∀ w', Below wc.heap.size wc w' → Below w3.heap.size w3 w') := Lib.hid fun w' h => HAW.out _ (hb2.trans (h.mono hb2.size))
      clear hvc hvd hb2 hb1 hb0 hbb hbc hra hra2 HVA HVB HBA HAW
      have hy0 : Below wc.heap.size wc wc.drew := (Below.refl _ _).drew
      go_upto_region 9 with fail
      go_region_held3 (fun w' => Below wc.heap.size wc w' ∧ w'.cell? ⟨S, 0, none⟩ = some (.int .i64 s.1) ∧ w'.cell? ⟨S, 1, none⟩ = some (.int .i64 s.2.1) ∧ w'.cell? ⟨S, 2, none⟩ = some (.int .i64 s.2.2) ∧ w'.cell? ⟨R, 0, none⟩ = some (.int .i64 s.1) ∧ w'.cell? ⟨R, 1, none⟩ = some (.int .i64 s.2.1) ∧ w'.cell? ⟨R, 2, none⟩ = some (.int .i64 s.2.2)) (first | exact ⟨by assumption, HC.out _ (HCW.out _ (by assumption))⟩) (first
        | (go_at_call 22; with_reducible refine (K1.out _).mono ?_; rintro e x1 ⟨rfl, hx1⟩; have hy1 := hy0.trans (hx1.mono hy0.size))
        | (go_at_call 16; with_reducible refine (K2.out _).mono ?_; rintro e x2 ⟨rfl, hx2⟩; have hy2 := hy1.trans (hx2.mono hy1.size))
        | (go_at_call 23; with_reducible refine (K3.out _).mono ?_; rintro e x3 ⟨rfl, hx3⟩; have hy3 := hy2.trans (hx3.mono hy2.size))
        | (go_at_call 18; with_reducible refine (K4.out _).mono ?_; rintro e x4 ⟨rfl, hx4⟩; have hy4 := hy3.trans (hx4.mono hy3.size))
        | (go_at_call 25; with_reducible refine (KO.out _ (HCW.out _ hy4)).mono ?_; rintro e x5 ⟨vo, rfl, ho5, hx5⟩; have hy5 := hy4.trans (hx5.mono hy4.size))
        | (go_at_call 21; with_reducible refine (KA.out _ (HCW.out _ hy5)).mono ?_; rintro e x6 ⟨r6, rfl, hr6, hx6⟩; have hy6 := hy5.trans (hx6.mono hy5.size); have ho6 := ho5.below hx6; have hs6 := SlK.of_owns hr6)
        | (go_at_call 26; with_reducible refine (KQ.out _ _ hs6).mono ?_; rintro e x7 ⟨vr, rfl, hr7, hx7⟩; have hy7 := hy6.trans (hx7.mono hy6.size); have ho7 := ho6.below hx7; have hs7 := Sl1.of_owns hr7)
        | (go_at_call 24; with_reducible refine (same9_any vo vr od od _ ho7 hs7).mono ?_; rintro e x8 ⟨rfl, hx8⟩; have hy8 := hy7.trans (hx8.mono hy7.size))
        | (go_at_call 24; with_reducible refine (same9_any va vc dp dp _ (HVA2.out.below hy8) (HVC.out.below hy8)).mono ?_; rintro e x9 ⟨rfl, hx9⟩; have hy9 := hy8.trans (hx9.mono hy8.size))
        | (go_at_call 24; with_reducible refine (same9_any vb vd dl dl _ (HVB2.out.below hy9) (HVD.out.below hy9)).mono ?_; rintro e x10 ⟨rfl, hx10⟩; have hy10 := hy9.trans (hx10.mono hy9.size)))
      all_goals
        have HFI := Lib.hid (HB3.out.trans ((HCW.out _ hy10).mono HB3.out.size))
        clear hy10 hy9 hy8 hy7 hy6 hy5 hy4 hy3 hy2 hy1 hy0 HCW
        go_wp2
        go_ret
        exact ⟨rfl, HFI.out⟩

  rcases hr : rightD s with _ | _
  · rw [hr] at KR
    clear hf
    go_upto_region 5 with fail
    clear hw3 hR c0 c1 c2
    have t0 : w3.cell? ⟨R, 0, none⟩ = some (.int .i64 s.1) := HT3.out.cell 0
    have t1 : w3.cell? ⟨R, 1, none⟩ = some (.int .i64 s.2.1) := HT3.out.cell 1
    have t2 : w3.cell? ⟨R, 2, none⟩ = some (.int .i64 s.2.2) := HT3.out.cell 2
    go_wp2_with fail
    refine (KR.out _).mono ?_
    rintro e w4 ⟨rfl, hb4⟩
    have HB4 : Hid (Below w.heap.size w w4) := Lib.hid (HB3.out.trans (hb4.mono HB3.out.size))
    have HK4 := Lib.hid (HK3.out.below hb4 HK3.out.lt)
    have HT4 := Lib.hid (HT3.out.below hb4 HT3.out.lt)
    have HV4 := Lib.hid (HV3.out.below hb4)
    clear hb4 t0 t1 t2 HB3 HK3 HT3 HV3 hr
    go_upto_region 7 with fail
    have KD := Lib.hid (fun w' (h : Below w4.heap.size w4 w') => deal_any s l _ w' (HV4.out.below h))
    have KA := Lib.hid (fun w' (h : Below w4.heap.size w4 w') => as9_any l (by omega) _ w' (HV4.out.below h))
    have KE := Lib.hid (fun va w' (h : SlK diV w' va l) => rdeal_any s l va w' h)
    have KO := Lib.hid (fun w' (h : Below w4.heap.size w4 w') => order_sl l (by omega) _ w' (HV4.out.below h))
    have KQ := Lib.hid (fun va w' (h : SlK diV w' va l) => rorder_any l (by omega) va w' h)
    have K1 := Lib.hid (fun w' => right_any s w')
    have K2 := Lib.hid (fun w' => rright_any s w')
    have K3 := Lib.hid (fun w' => places_any s w')
    have K4 := Lib.hid (fun w' => rplaces_any s w')
    have HC : Hid (∀ w', Below w4.heap.size w4 w' → (w'.cell? ⟨S, 0, none⟩ = some (.int .i64 s.1) ∧ w'.cell? ⟨S, 1, none⟩ = some (.int .i64 s.2.1) ∧ w'.cell? ⟨S, 2, none⟩ = some (.int .i64 s.2.2) ∧ w'.cell? ⟨R, 0, none⟩ = some (.int .i64 s.1) ∧ w'.cell? ⟨R, 1, none⟩ = some (.int .i64 s.2.1) ∧ w'.cell? ⟨R, 2, none⟩ = some (.int .i64 s.2.2))) := Lib.hid fun w' h => by
      have b1 := HK4.out.below h HK4.out.lt
      have b2 := HT4.out.below h HT4.out.lt
      exact ⟨b1.cell 0, b1.cell 1, b1.cell 2, b2.cell 0, b2.cell 1, b2.cell 2⟩
    obtain ⟨g0, g1, g2, -⟩ := HC.out w4 (Below.refl _ _)
    have q1 : (rightD s == rightD s) = true := by simp
    have q2 : (placesD s == placesD s) = true := by simp
    have q3 : decide (ordD l = ordD l) = true := by simp
    have q4 : decide (dealP s l = dealP s l) = true := by simp
    have q5 : decide (dealLost s l = dealLost s l) = true := by simp
    generalize rightD s = rd at *
    generalize placesD s = pd at *
    generalize ordD l = od at *
    generalize dealP s l = dp at *
    generalize dealLost s l = dl at *
    go_wp2_with fail
    refine (KD.out _ (Below.refl _ _)).mono ?_
    rintro e wa ⟨va, vb, rfl, hva, hvb, hba⟩
    have HVA := Lib.hid hva
    have HVB := Lib.hid hvb
    have HBA := Lib.hid hba
    clear hva hvb hba g0 g1 g2
    have HAW : Hid (∀ w', Below wa.heap.size wa w' → Below w4.heap.size w4 w') := Lib.hid fun w' h => HBA.out.trans (h.mono HBA.out.size)
    have hb0 : Below wa.heap.size wa wa.drew := (Below.refl _ _).drew
    go_upto_region 8 with fail
    go_region_held3 (fun w' => Below wa.heap.size wa w' ∧ w'.cell? ⟨R, 0, none⟩ = some (.int .i64 s.1) ∧ w'.cell? ⟨R, 1, none⟩ = some (.int .i64 s.2.1) ∧ w'.cell? ⟨R, 2, none⟩ = some (.int .i64 s.2.2)) (first | exact ⟨by assumption, (HC.out _ (HAW.out _ (by assumption))).2.2.2⟩) (first
      | (go_at_call 21; with_reducible refine (KA.out _ (HAW.out _ hb0)).mono ?_; rintro e wb ⟨ra, rfl, hra, hbb⟩; have hb1 := hb0.trans (hbb.mono hb0.size); have hra2 := SlK.of_owns hra)
      | (go_at_call 20; with_reducible refine (KE.out _ _ hra2).mono ?_; rintro e wc ⟨vc, vd, rfl, hvc, hvd, hbc⟩; have hb2 := hb1.trans (hbc.mono hb1.size)))
    all_goals
      have HVC := Lib.hid hvc
      have HVD := Lib.hid hvd
      have HVA2 := Lib.hid (HVA.out.below hb2)
      have HVB2 := Lib.hid (HVB.out.below hb2)
      have HCW : Hid (∀ w', Below wc.heap.size wc w' → Below w4.heap.size w4 w') := Lib.hid fun w' h => HAW.out _ (hb2.trans (h.mono hb2.size))
      clear hvc hvd hb2 hb1 hb0 hbb hbc hra hra2 HVA HVB HBA HAW
      have hy0 : Below wc.heap.size wc wc.drew := (Below.refl _ _).drew
      go_upto_region 9 with fail
      go_region_held3 (fun w' => Below wc.heap.size wc w' ∧ w'.cell? ⟨S, 0, none⟩ = some (.int .i64 s.1) ∧ w'.cell? ⟨S, 1, none⟩ = some (.int .i64 s.2.1) ∧ w'.cell? ⟨S, 2, none⟩ = some (.int .i64 s.2.2) ∧ w'.cell? ⟨R, 0, none⟩ = some (.int .i64 s.1) ∧ w'.cell? ⟨R, 1, none⟩ = some (.int .i64 s.2.1) ∧ w'.cell? ⟨R, 2, none⟩ = some (.int .i64 s.2.2)) (first | exact ⟨by assumption, HC.out _ (HCW.out _ (by assumption))⟩) (first
        | (go_at_call 22; with_reducible refine (K1.out _).mono ?_; rintro e x1 ⟨rfl, hx1⟩; have hy1 := hy0.trans (hx1.mono hy0.size))
        | (go_at_call 16; with_reducible refine (K2.out _).mono ?_; rintro e x2 ⟨rfl, hx2⟩; have hy2 := hy1.trans (hx2.mono hy1.size))
        | (go_at_call 23; with_reducible refine (K3.out _).mono ?_; rintro e x3 ⟨rfl, hx3⟩; have hy3 := hy2.trans (hx3.mono hy2.size))
        | (go_at_call 18; with_reducible refine (K4.out _).mono ?_; rintro e x4 ⟨rfl, hx4⟩; have hy4 := hy3.trans (hx4.mono hy3.size))
        | (go_at_call 25; with_reducible refine (KO.out _ (HCW.out _ hy4)).mono ?_; rintro e x5 ⟨vo, rfl, ho5, hx5⟩; have hy5 := hy4.trans (hx5.mono hy4.size))
        | (go_at_call 21; with_reducible refine (KA.out _ (HCW.out _ hy5)).mono ?_; rintro e x6 ⟨r6, rfl, hr6, hx6⟩; have hy6 := hy5.trans (hx6.mono hy5.size); have ho6 := ho5.below hx6; have hs6 := SlK.of_owns hr6)
        | (go_at_call 26; with_reducible refine (KQ.out _ _ hs6).mono ?_; rintro e x7 ⟨vr, rfl, hr7, hx7⟩; have hy7 := hy6.trans (hx7.mono hy6.size); have ho7 := ho6.below hx7; have hs7 := Sl1.of_owns hr7)
        | (go_at_call 24; with_reducible refine (same9_any vo vr od od _ ho7 hs7).mono ?_; rintro e x8 ⟨rfl, hx8⟩; have hy8 := hy7.trans (hx8.mono hy7.size))
        | (go_at_call 24; with_reducible refine (same9_any va vc dp dp _ (HVA2.out.below hy8) (HVC.out.below hy8)).mono ?_; rintro e x9 ⟨rfl, hx9⟩; have hy9 := hy8.trans (hx9.mono hy8.size))
        | (go_at_call 24; with_reducible refine (same9_any vb vd dl dl _ (HVB2.out.below hy9) (HVD.out.below hy9)).mono ?_; rintro e x10 ⟨rfl, hx10⟩; have hy10 := hy9.trans (hx10.mono hy9.size)))
      all_goals
        have HFI := Lib.hid (HB4.out.trans ((HCW.out _ hy10).mono HB4.out.size))
        clear hy10 hy9 hy8 hy7 hy6 hy5 hy4 hy3 hy2 hy1 hy0 HCW
        go_wp2
        go_ret
        exact ⟨rfl, HFI.out⟩

  · rw [hr] at KR
    have hs' := rightD_iff.1 hr
    have hlb := levelsD_bd hr
    have hpb := placesD_bd s
    obtain ⟨n, hn⟩ : ∃ n : Nat, placesD s = n := ⟨_, (Int.toNat_of_nonneg hpb.1).symm⟩
    have KP := Lib.hid (fun w' => rplaces_any s w')
    rw [hn] at KP
    have hn1 : n ≤ 153 := by omega
    have HRT := Lib.hid hr
    clear hf hr hlb hs' hpb hn
    go_upto_region 5 with fail
    clear hw3 hR c0 c1 c2
    have t0 : w3.cell? ⟨R, 0, none⟩ = some (.int .i64 s.1) := HT3.out.cell 0
    have t1 : w3.cell? ⟨R, 1, none⟩ = some (.int .i64 s.2.1) := HT3.out.cell 1
    have t2 : w3.cell? ⟨R, 2, none⟩ = some (.int .i64 s.2.2) := HT3.out.cell 2
    go_wp2_with fail
    refine (KR.out _).mono ?_
    rintro e w4 ⟨rfl, hb4⟩
    have HB4 : Hid (Below w.heap.size w w4) := Lib.hid (HB3.out.trans (hb4.mono HB3.out.size))
    have HK4 := Lib.hid (HK3.out.below hb4 HK3.out.lt)
    have HT4 := Lib.hid (HT3.out.below hb4 HT3.out.lt)
    have HV4 := Lib.hid (HV3.out.below hb4)
    clear hb4 t0 t1 t2 HB3 HK3 HT3 HV3 KR
    have t0 : w4.cell? ⟨R, 0, none⟩ = some (.int .i64 s.1) := HT4.out.cell 0
    have t1 : w4.cell? ⟨R, 1, none⟩ = some (.int .i64 s.2.1) := HT4.out.cell 1
    have t2 : w4.cell? ⟨R, 2, none⟩ = some (.int .i64 s.2.2) := HT4.out.cell 2
    go_wp2_with fail
    refine (KP.out _).mono ?_
    rintro e w5 ⟨rfl, hb5⟩
    have HB5 : Hid (Below w.heap.size w w5) := Lib.hid (HB4.out.trans (hb5.mono HB4.out.size))
    have HK5 := Lib.hid (HK4.out.below hb5 HK4.out.lt)
    have HT5 := Lib.hid (HT4.out.below hb5 HT4.out.lt)
    have HV5 := Lib.hid (HV4.out.below hb5)
    have KF := Lib.hid (filled_any l n (by omega) _ w5 HV5.out)
    clear hb5 t0 t1 t2 HB4 HK4 HT4 HV4 KP
    go_wp2_with fail
    refine KF.out.mono ?_
    rintro e w6 ⟨kv, rfl, hown, hb6⟩
    have HB6 : Hid (Below w.heap.size w w6) := Lib.hid (HB5.out.trans (hb6.mono HB5.out.size))
    have HK6 := Lib.hid (HK5.out.below hb6 HK5.out.lt)
    have HT6 := Lib.hid (HT5.out.below hb6 HT5.out.lt)
    have hkl : (mkD (fillF l) n).length = n := mkD_len _ _
    obtain ⟨K, hK⟩ : ∃ K, mkD (fillF l) n = K := ⟨_, rfl⟩
    rw [hK] at hown hkl
    rw [← hkl] at hown
    have HV6 := Lib.hid (SlK.of_owns hown)
    obtain ⟨ka, kcap, rfl, hk1, hk2, _⟩ := HV6.out
    unfold maxLen at hk2
    have hk160 : K.length ≤ 160 := by omega
    clear hb6 HB5 HK5 HT5 HV5 hown KF hK hkl
    go_upto_region 7 with fail
    have KD := Lib.hid (fun w' (h : Below w6.heap.size w6 w') => deal_any s K _ w' (HV6.out.below h))
    have KA := Lib.hid (fun w' (h : Below w6.heap.size w6 w') => as9_any K (by omega) _ w' (HV6.out.below h))
    have KE := Lib.hid (fun va w' (h : SlK diV w' va K) => rdeal_any s K va w' h)
    have KO := Lib.hid (fun w' (h : Below w6.heap.size w6 w') => order_sl K (by omega) _ w' (HV6.out.below h))
    have KQ := Lib.hid (fun va w' (h : SlK diV w' va K) => rorder_any K (by omega) va w' h)
    have K1 := Lib.hid (fun w' => right_any s w')
    have K2 := Lib.hid (fun w' => rright_any s w')
    have K3 := Lib.hid (fun w' => places_any s w')
    have K4 := Lib.hid (fun w' => rplaces_any s w')
    have HC : Hid (∀ w', Below w6.heap.size w6 w' → (w'.cell? ⟨S, 0, none⟩ = some (.int .i64 s.1) ∧ w'.cell? ⟨S, 1, none⟩ = some (.int .i64 s.2.1) ∧ w'.cell? ⟨S, 2, none⟩ = some (.int .i64 s.2.2) ∧ w'.cell? ⟨R, 0, none⟩ = some (.int .i64 s.1) ∧ w'.cell? ⟨R, 1, none⟩ = some (.int .i64 s.2.1) ∧ w'.cell? ⟨R, 2, none⟩ = some (.int .i64 s.2.2))) := Lib.hid fun w' h => by
      have b1 := HK6.out.below h HK6.out.lt
      have b2 := HT6.out.below h HT6.out.lt
      exact ⟨b1.cell 0, b1.cell 1, b1.cell 2, b2.cell 0, b2.cell 1, b2.cell 2⟩
    obtain ⟨g0, g1, g2, -⟩ := HC.out w6 (Below.refl _ _)
    have q1 : (rightD s == rightD s) = true := by simp
    have q2 : (placesD s == placesD s) = true := by simp
    have q3 : decide (ordD K = ordD K) = true := by simp
    have q4 : decide (dealP s K = dealP s K) = true := by simp
    have q5 : decide (dealLost s K = dealLost s K) = true := by simp
    generalize rightD s = rd at *
    generalize placesD s = pd at *
    generalize ordD K = od at *
    generalize dealP s K = dp at *
    generalize dealLost s K = dl at *
    go_wp2_with fail
    refine (KD.out _ (Below.refl _ _)).mono ?_
    rintro e wa ⟨va, vb, rfl, hva, hvb, hba⟩
    have HVA := Lib.hid hva
    have HVB := Lib.hid hvb
    have HBA := Lib.hid hba
    clear hva hvb hba g0 g1 g2
    have HAW : Hid (∀ w', Below wa.heap.size wa w' → Below w6.heap.size w6 w') := Lib.hid fun w' h => HBA.out.trans (h.mono HBA.out.size)
    have hb0 : Below wa.heap.size wa wa.drew := (Below.refl _ _).drew
    go_upto_region 8 with fail
    go_region_held3 (fun w' => Below wa.heap.size wa w' ∧ w'.cell? ⟨R, 0, none⟩ = some (.int .i64 s.1) ∧ w'.cell? ⟨R, 1, none⟩ = some (.int .i64 s.2.1) ∧ w'.cell? ⟨R, 2, none⟩ = some (.int .i64 s.2.2)) (first | exact ⟨by assumption, (HC.out _ (HAW.out _ (by assumption))).2.2.2⟩) (first
      | (go_at_call 21; with_reducible refine (KA.out _ (HAW.out _ hb0)).mono ?_; rintro e wb ⟨ra, rfl, hra, hbb⟩; have hb1 := hb0.trans (hbb.mono hb0.size); have hra2 := SlK.of_owns hra)
      | (go_at_call 20; with_reducible refine (KE.out _ _ hra2).mono ?_; rintro e wc ⟨vc, vd, rfl, hvc, hvd, hbc⟩; have hb2 := hb1.trans (hbc.mono hb1.size)))
    all_goals
      have HVC := Lib.hid hvc
      have HVD := Lib.hid hvd
      have HVA2 := Lib.hid (HVA.out.below hb2)
      have HVB2 := Lib.hid (HVB.out.below hb2)
      have HCW : Hid (∀ w', Below wc.heap.size wc w' → Below w6.heap.size w6 w') := Lib.hid fun w' h => HAW.out _ (hb2.trans (h.mono hb2.size))
      clear hvc hvd hb2 hb1 hb0 hbb hbc hra hra2 HVA HVB HBA HAW
      have hy0 : Below wc.heap.size wc wc.drew := (Below.refl _ _).drew
      go_upto_region 9 with fail
      go_region_held3 (fun w' => Below wc.heap.size wc w' ∧ w'.cell? ⟨S, 0, none⟩ = some (.int .i64 s.1) ∧ w'.cell? ⟨S, 1, none⟩ = some (.int .i64 s.2.1) ∧ w'.cell? ⟨S, 2, none⟩ = some (.int .i64 s.2.2) ∧ w'.cell? ⟨R, 0, none⟩ = some (.int .i64 s.1) ∧ w'.cell? ⟨R, 1, none⟩ = some (.int .i64 s.2.1) ∧ w'.cell? ⟨R, 2, none⟩ = some (.int .i64 s.2.2)) (first | exact ⟨by assumption, HC.out _ (HCW.out _ (by assumption))⟩) (first
        | (go_at_call 22; with_reducible refine (K1.out _).mono ?_; rintro e x1 ⟨rfl, hx1⟩; have hy1 := hy0.trans (hx1.mono hy0.size))
        | (go_at_call 16; with_reducible refine (K2.out _).mono ?_; rintro e x2 ⟨rfl, hx2⟩; have hy2 := hy1.trans (hx2.mono hy1.size))
        | (go_at_call 23; with_reducible refine (K3.out _).mono ?_; rintro e x3 ⟨rfl, hx3⟩; have hy3 := hy2.trans (hx3.mono hy2.size))
        | (go_at_call 18; with_reducible refine (K4.out _).mono ?_; rintro e x4 ⟨rfl, hx4⟩; have hy4 := hy3.trans (hx4.mono hy3.size))
        | (go_at_call 25; with_reducible refine (KO.out _ (HCW.out _ hy4)).mono ?_; rintro e x5 ⟨vo, rfl, ho5, hx5⟩; have hy5 := hy4.trans (hx5.mono hy4.size))
        | (go_at_call 21; with_reducible refine (KA.out _ (HCW.out _ hy5)).mono ?_; rintro e x6 ⟨r6, rfl, hr6, hx6⟩; have hy6 := hy5.trans (hx6.mono hy5.size); have ho6 := ho5.below hx6; have hs6 := SlK.of_owns hr6)
        | (go_at_call 26; with_reducible refine (KQ.out _ _ hs6).mono ?_; rintro e x7 ⟨vr, rfl, hr7, hx7⟩; have hy7 := hy6.trans (hx7.mono hy6.size); have ho7 := ho6.below hx7; have hs7 := Sl1.of_owns hr7)
        | (go_at_call 24; with_reducible refine (same9_any vo vr od od _ ho7 hs7).mono ?_; rintro e x8 ⟨rfl, hx8⟩; have hy8 := hy7.trans (hx8.mono hy7.size))
        | (go_at_call 24; with_reducible refine (same9_any va vc dp dp _ (HVA2.out.below hy8) (HVC.out.below hy8)).mono ?_; rintro e x9 ⟨rfl, hx9⟩; have hy9 := hy8.trans (hx9.mono hy8.size))
        | (go_at_call 24; with_reducible refine (same9_any vb vd dl dl _ (HVB2.out.below hy9) (HVD.out.below hy9)).mono ?_; rintro e x10 ⟨rfl, hx10⟩; have hy10 := hy9.trans (hx10.mono hy9.size)))
      all_goals
        have HFI := Lib.hid (HB6.out.trans ((HCW.out _ hy10).mono HB6.out.size))
        clear hy10 hy9 hy8 hy7 hy6 hy5 hy4 hy3 hy2 hy1 hy0 HCW
        go_wp2
        go_ret
        exact ⟨rfl, HFI.out⟩

end Go.Proofs.Ytiimdgdimjjboaa

