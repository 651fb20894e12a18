/-
  The walk of the law LevelTwo: two levels of one memory do not know of each other.
-/
import Derived.Test.YtiimdgdimjjboaaLvTwoW
import Derived.Test.YtiimdgdimjjboaaHbp
import Derived.BigQuiet
import Derived.Deep.DeepCutAuto
set_option linter.unusedVariables false
set_option linter.unusedSimpArgs false
set_option linter.unusedSectionVars false
set_option linter.unnecessarySimpa false
namespace Go.Proofs.Ytiimdgdimjjboaa
open Go Go.RowKit Go.Sg
set_option maxHeartbeats 40000000 in
set_option maxRecDepth 100000 in
theorem LevelTwo_walk (n n2 : Int) (v : Value) (l : List Sx) (w : World) (hn : Num n) (hn2 : Num n2) (hv : SlK sxV w v l) (ho : ∀ x ∈ l, SxOk x) :
    Calls Try.prog 13 #[.int .i64 n, .int .i64 n2, v] w fun e w' => e = .returned (.bool true) ∧ Below w.heap.size w w' := by
  have KS := Lib.hid (fun w' => lshown_any w')
  have KC := Lib.hid (fun w' => lconfig_any n hn w')
  have KC2 := Lib.hid (fun w' => lconfig_any n2 hn2 w')
  have HO := Lib.hid ho
  obtain ⟨a, cap, rfl, hmx, hat⟩ := sxV_at hv
  have HAT := Lib.hid hat
  unfold maxLen at hmx
  clear hv ho hat
  by_cases hL3 : 12 < l.length
  · have d3 : decide ((12 : Int) < (l.length : Int)) = true := decide_eq_true (by omega)
    have d3' : decide (12 < l.length) = true := decide_eq_true hL3
    go_enter Try.func13, Try.ntmps13
    go_wp2_with fail
    refine (KS.out _).mono ?_
    rintro e w1 ⟨rfl, hb1⟩
    have HB1 := Lib.hid hb1
    clear hb1
    go_wp2
    go_ret
    exact ⟨rfl, HB1.out⟩
  have d3 : decide ((12 : Int) < (l.length : Int)) = false := decide_eq_false (by omega)
  have d3' : decide (12 < l.length) = false := decide_eq_false hL3
  have HC := Lib.hid (cfg_ok n)
  have HG := Lib.hid (cfg_ok n2)
  have KM := Lib.hid (fun w' => lmade_any (cfgL n) HC.out.ok HC.out.new HC.out.lev w')
  obtain ⟨c, hc⟩ : ∃ c, cfgL n = c := ⟨_, rfl⟩
  obtain ⟨g, hg⟩ : ∃ g, cfgL n2 = g := ⟨_, rfl⟩
  rw [hc] at HC KM KC
  rw [hg] at HG KC2
  have HST := Lib.hid (two_start HC.out HG.out)
  clear hc hg
  go_enter Try.func13, Try.ntmps13
  go_wp2_with fail
  refine (KS.out _).mono ?_
  rintro e w1 ⟨rfl, hb1⟩
  have HB1 := Lib.hid hb1
  clear hb1 KS
  go_wp2_with fail
  refine (KC.out _).mono ?_
  rintro e w2 ⟨rfl, hb2⟩
  have HB2 : Hid (Below w.heap.size w w2) := Lib.hid (HB1.out.trans (hb2.mono HB1.out.size))
  clear hb2 KC
  obtain ⟨A, hA⟩ : ∃ A, w2.heap.size = A := ⟨_, rfl⟩
  have hbx : Blk (w2.alloc (.cells #[.int .i64 0, .int .i64 0, .int .i64 0] 55)) A #[.int .i64 0, .int .i64 0, .int .i64 0] 55 := by rw [← hA]; exact Blk.new w2 _ _
  have HBX := Lib.hid hbx
  have HI3 : Hid ((Try.prog.info? 55).map (·.size) = some (#[.int .i64 c.1, .int .i64 c.2.1, .int .i64 c.2.2] : Array Value).size) := Lib.hid (by kernel_rfl)
  have HW3 : Hid (Blk ((w2.alloc (.cells #[.int .i64 0, .int .i64 0, .int .i64 0] 55)).setRow A #[.int .i64 c.1, .int .i64 c.2.1, .int .i64 c.2.2]) A #[.int .i64 c.1, .int .i64 c.2.1, .int .i64 c.2.2] 55 ∧ Below w.heap.size w ((w2.alloc (.cells #[.int .i64 0, .int .i64 0, .int .i64 0] 55)).setRow A #[.int .i64 c.1, .int .i64 c.2.1, .int .i64 c.2.2])) :=
    Lib.hid ⟨HBX.out.setRow _, below_rowS (HB2.out.alloc HB2.out.size _) _ _ (by rw [← hA]; exact HB2.out.size)⟩
  clear hbx
  go_upto_region 5 with (first
    | (refine wpList_store_row rfl 55 (.tmp 8) (.tmp 39) rfl A #[.int .i64 c.1, .int .i64 c.2.1, .int .i64 c.2.2] rfl rfl 55 _ HBX.out HI3.out (by rfl) (by simp [Value.oneCell']) ?_)
    | fail)
  generalize (w2.alloc (.cells #[.int .i64 0, .int .i64 0, .int .i64 0] 55)).setRow A #[.int .i64 c.1, .int .i64 c.2.1, .int .i64 c.2.2] = w3 at *
  have HAWA := Lib.hid HW3.out.1.lt
  have HB3 := Lib.hid HW3.out.2
  have HCF : Hid (∀ w', Below w3.heap.size w3 w' → w'.cell? ⟨A, 0, none⟩ = some (.int .i64 c.1) ∧ w'.cell? ⟨A, 1, none⟩ = some (.int .i64 c.2.1) ∧ w'.cell? ⟨A, 2, none⟩ = some (.int .i64 c.2.2) ∧ Below w.heap.size w w') := Lib.hid fun w' hb => ⟨(HW3.out.1.below hb HAWA.out).cell 0, (HW3.out.1.below hb HAWA.out).cell 1, (HW3.out.1.below hb HAWA.out).cell 2, HW3.out.2.trans (hb.mono HW3.out.2.size)⟩
  clear hA HBX HI3 HB2 HW3 HAWA HB1
  have HBr3 := Lib.hid (Below.refl w3.heap.size w3)
  go_wp2_with fail
  refine (KC2.out _).mono ?_
  rintro e w2 ⟨rfl, hb2⟩
  have HB2 : Hid (Below w3.heap.size w3 w2) := Lib.hid (HBr3.out.trans (hb2.mono HBr3.out.size))
  clear hb2 KC2
  obtain ⟨B, hB⟩ : ∃ B, w2.heap.size = B := ⟨_, rfl⟩
  have hbx : Blk (w2.alloc (.cells #[.int .i64 0, .int .i64 0, .int .i64 0] 55)) B #[.int .i64 0, .int .i64 0, .int .i64 0] 55 := by rw [← hB]; exact Blk.new w2 _ _
  have HBX := Lib.hid hbx
  have HI3 : Hid ((Try.prog.info? 55).map (·.size) = some (#[.int .i64 g.1, .int .i64 g.2.1, .int .i64 g.2.2] : Array Value).size) := Lib.hid (by kernel_rfl)
  have HW3 : Hid (Blk ((w2.alloc (.cells #[.int .i64 0, .int .i64 0, .int .i64 0] 55)).setRow B #[.int .i64 g.1, .int .i64 g.2.1, .int .i64 g.2.2]) B #[.int .i64 g.1, .int .i64 g.2.1, .int .i64 g.2.2] 55 ∧ Below w3.heap.size w3 ((w2.alloc (.cells #[.int .i64 0, .int .i64 0, .int .i64 0] 55)).setRow B #[.int .i64 g.1, .int .i64 g.2.1, .int .i64 g.2.2])) :=
    Lib.hid ⟨HBX.out.setRow _, below_rowS (HB2.out.alloc HB2.out.size _) _ _ (by rw [← hB]; exact HB2.out.size)⟩
  clear hbx
  go_upto_region 6 with (first
    | (refine wpList_store_row rfl 55 (.tmp 9) (.tmp 41) rfl B #[.int .i64 g.1, .int .i64 g.2.1, .int .i64 g.2.2] rfl rfl 55 _ HBX.out HI3.out (by rfl) (by simp [Value.oneCell']) ?_)
    | fail)
  generalize (w2.alloc (.cells #[.int .i64 0, .int .i64 0, .int .i64 0] 55)).setRow B #[.int .i64 g.1, .int .i64 g.2.1, .int .i64 g.2.2] = w5 at *
  have HAWB := Lib.hid HW3.out.1.lt
  have HB5 := Lib.hid HW3.out.2
  have HCG : Hid (∀ w', Below w5.heap.size w5 w' → w'.cell? ⟨B, 0, none⟩ = some (.int .i64 g.1) ∧ w'.cell? ⟨B, 1, none⟩ = some (.int .i64 g.2.1) ∧ w'.cell? ⟨B, 2, none⟩ = some (.int .i64 g.2.2) ∧ Below w3.heap.size w3 w') := Lib.hid fun w' hb => ⟨(HW3.out.1.below hb HAWB.out).cell 0, (HW3.out.1.below hb HAWB.out).cell 1, (HW3.out.1.below hb HAWB.out).cell 2, HW3.out.2.trans (hb.mono HW3.out.2.size)⟩
  clear hB HBX HI3 HB2 HW3 HAWB HBr3
  have HCC : Hid (∀ w', Below w5.heap.size w5 w' → (w'.cell? ⟨A, 0, none⟩ = some (.int .i64 c.1) ∧ w'.cell? ⟨A, 1, none⟩ = some (.int .i64 c.2.1) ∧ w'.cell? ⟨A, 2, none⟩ = some (.int .i64 c.2.2)) ∧ (w'.cell? ⟨B, 0, none⟩ = some (.int .i64 g.1) ∧ w'.cell? ⟨B, 1, none⟩ = some (.int .i64 g.2.1) ∧ w'.cell? ⟨B, 2, none⟩ = some (.int .i64 g.2.2)) ∧ Below w.heap.size w w') := Lib.hid fun w' hb => by
    have h1 := HCG.out w' hb
    have h2 := HCF.out w' h1.2.2.2
    exact ⟨⟨h2.1, h2.2.1, h2.2.2.1⟩, ⟨h1.1, h1.2.1, h1.2.2.1⟩, h2.2.2.2⟩
  clear HCG HCF HB5 HB3
  have HIL := Lib.hid (info_lcL c)
  have HIG := Lib.hid (info_lcL g)
  have KZ1 := Lib.hid (fun w' => lSizes_any c HC.out.ok w')
  have KZ2 := Lib.hid (fun w' => lSizes_any g HG.out.ok w')
  have HZS : Hid (zs2 c g = [(szL c).1, (szL c).2.1, (szL c).2.2, (szL g).1, (szL g).2.1, (szL g).2.2]) := Lib.hid rfl
  obtain ⟨s1, hs1⟩ : ∃ s, (szL c).1 = s := ⟨_, rfl⟩
  obtain ⟨s2, hs2⟩ : ∃ s, (szL c).2.1 = s := ⟨_, rfl⟩
  obtain ⟨s3, hs3⟩ : ∃ s, (szL c).2.2 = s := ⟨_, rfl⟩
  obtain ⟨t1, ht1⟩ : ∃ s, (szL g).1 = s := ⟨_, rfl⟩
  obtain ⟨t2, ht2⟩ : ∃ s, (szL g).2.1 = s := ⟨_, rfl⟩
  obtain ⟨t3, ht3⟩ : ∃ s, (szL g).2.2 = s := ⟨_, rfl⟩
  rw [hs1, hs2, hs3] at KZ1 HZS
  rw [ht1, ht2, ht3] at KZ2 HZS
  clear hs1 hs2 hs3 ht1 ht2 ht3
  obtain ⟨⟨a0, a1, a2⟩, -, -⟩ := HCC.out _ (Below.refl _ _)
  go_wp2_with fail
  refine (KZ1.out _).mono ?_
  rintro e w6 ⟨rfl, hb6⟩
  have HB6 := Lib.hid hb6
  clear a0 a1 a2 hb6 KZ1
  obtain ⟨-, ⟨a0, a1, a2⟩, -⟩ := HCC.out _ HB6.out
  go_wp2_with fail
  refine (KZ2.out _).mono ?_
  rintro e w7 ⟨rfl, hb7⟩
  have HB7 : Hid (Below w5.heap.size w5 w7) := Lib.hid (HB6.out.trans (hb7.mono HB6.out.size))
  clear a0 a1 a2 hb7 KZ2 HB6
  obtain ⟨G, hG⟩ : ∃ G, w7.heap.size = G := ⟨_, rfl⟩
  obtain ⟨w8, hw8⟩ : ∃ w8, w7.alloc (.cells #[.int .i64 s1, .int .i64 s2, .int .i64 s3, .int .i64 t1, .int .i64 t2, .int .i64 t3] 3) = w8 := ⟨_, rfl⟩
  have hb8 : Below w5.heap.size w5 w8 := by rw [← hw8]; exact HB7.out.alloc HB7.out.size _
  have k8 : Blk w8 G #[.int .i64 s1, .int .i64 s2, .int .i64 s3, .int .i64 t1, .int .i64 t2, .int .i64 t3] 3 := by rw [← hw8, ← hG]; exact Blk.new w7 _ _
  have hsl : Sl1 w8 (.slice (some ⟨G, 0, none⟩) 6 6) (ints (zs2 c g)) := by
    rw [HZS.out]
    refine .inr ⟨by simp [ints], G, 0, 6, rfl, by simp [ints], by decide, k8.lt, fun i hi => ?_⟩
    rw [Nat.zero_add, k8.cell]
    have h6 : i < 6 := by simpa [ints] using hi
    match i, h6 with
    | 0, _ => rfl
    | 1, _ => rfl
    | 2, _ => rfl
    | 3, _ => rfl
    | 4, _ => rfl
    | 5, _ => rfl
  have KMm := Lib.hid (memNew_any _ (zs2 c g) w8 hsl)
  have HB8 := Lib.hid hb8
  have HW8 := Lib.hid hw8
  have HOK := Lib.hid (zs2_ok HC.out HG.out)
  clear hb8 k8 hsl hw8 HB7
  go_wp2_with fail
  rw [HW8.out]
  refine KMm.out.mono ?_
  rintro e w9 ⟨hb9, ⟨h0, -⟩ | ⟨-, p, F, rfl, hm, hF⟩⟩
  · rw [HOK.out] at h0; cases h0
  have HB9 : Hid (Below w5.heap.size w5 w9) := Lib.hid (HB8.out.trans (hb9.mono HB8.out.size))
  have H9 : Hid (OneX 110 w5 w9 p (Mm.fresh (zs2 c g)) (fun _ => False) (fun _ => True)) := Lib.hid ⟨F, hm, fun k hk => Nat.le_trans HB8.out.size (hF k hk), HB9.out, fun _ h => h.elim, fun _ h => h.elim, trivial⟩
  clear hb9 hm hF KMm HW8 HOK hG HZS
  obtain ⟨M, hM⟩ : ∃ M, Mm.fresh (zs2 c g) = M := ⟨_, rfl⟩
  rw [hM] at H9 HST
  have KN1 : Hid (∀ w', OneX 110 w5 w' p M (fun _ => False) (fun _ => True) → Calls Try.prog 39 #[.pointer (some ⟨p, 0, none⟩), .int .i64 0, .agg #[.int .i64 c.1, .int .i64 c.2.1, .int .i64 c.2.2]] w' fun e w2 => ∃ q ib, e = .returned (.tuple #[.pointer (some ⟨q, 0, none⟩), .int .i64 0]) ∧ LvR w5 w2 p q ib c 0 ⟨M, false, []⟩ (fun _ => False) (fun _ => True)) := Lib.hid fun w' h' => by
    refine (lNew_any keeps_true c HC.out.ok 0 ⟨by decide, by decide⟩ (by decide) h').mono fun e w2 h => ?_
    rw [if_pos HST.out.2.1] at h
    exact h
  have KN2 : Hid (∀ (D : Nat → Prop) (X : World → Prop), Keeps D X → ∀ w', OneX 110 w5 w' p M D X → Calls Try.prog 39 #[.pointer (some ⟨p, 0, none⟩), .int .i64 3, .agg #[.int .i64 g.1, .int .i64 g.2.1, .int .i64 g.2.2]] w' fun e w2 => ∃ q ib, e = .returned (.tuple #[.pointer (some ⟨q, 0, none⟩), .int .i64 0]) ∧ LvR w5 w2 p q ib g 3 ⟨M, false, []⟩ D X) := Lib.hid fun D X hK w' h' => by
    refine (lNew_any hK g HG.out.ok 3 ⟨by decide, by decide⟩ (by decide) h').mono fun e w2 h => ?_
    rw [if_pos HST.out.2.2] at h
    exact h
  clear hM
  obtain ⟨⟨a0, a1, a2⟩, -, -⟩ := HCC.out _ HB9.out
  go_wp2_with fail
  refine (KN1.out _ H9.out).mono ?_
  rintro e w10 ⟨qx, ix, rfl, hx⟩
  have HX := Lib.hid hx
  clear a0 a1 a2 hx H9 KN1 HB9
  obtain ⟨-, ⟨a0, a1, a2⟩, -⟩ := HCC.out _ HX.out.one.old
  go_wp2_with fail
  refine (KN2.out _ _ (keeps_and keeps_true (keeps_lv p qx ix c 0 false [])) _ HX.out.one).mono ?_
  rintro e w11 ⟨qy, iy, rfl, hy⟩
  have HY := Lib.hid hy
  clear a0 a1 a2 hy KN2
  obtain ⟨⟨a0, a1, a2⟩, -, -⟩ := HCC.out _ HY.out.one.old
  go_wp2_with fail
  refine (KM.out _).mono ?_
  rintro e w12 ⟨p2, qz, iz, rfl, hz⟩
  have HTW := Lib.hid (tw_made HX.out.ne HX.out.ge HY.out hz)
  clear a0 a1 a2 hz HX HY KM
  obtain ⟨P, hP⟩ : ∃ P : TwP, P = ⟨p, p2, qx, ix, qy, iy, qz, iz⟩ := ⟨_, rfl⟩
  rw [← hP] at HTW
  have HP : Hid (P.p = p ∧ P.p2 = p2 ∧ P.qx = qx ∧ P.qy = qy ∧ P.qz = qz) := Lib.hid (by rw [hP]; exact ⟨rfl, rfl, rfl, rfl, rfl⟩)
  have KX : Hid (∀ (S : TwS) (k : Nat), k ≤ 1000 → LsFit c 0 ⟨S.M, S.ox, S.jx⟩ k → ∀ (D : Nat → Prop) (X : World → Prop), Keeps D X → ∀ (w' : World) (op id at' fr lf : Int) (d : List Int), (d.length = 8 ∧ ∀ x ∈ d, Word x) → Word id → TwR w5 w' P c g S D X → Calls Try.prog 33 #[.pointer (some ⟨qx, 0, none⟩), .int .i64 op, .int .u64 id, .int .i64 at', .agg (cw d), .int .i64 fr, .int .i64 lf] w' fun e w2 =>
      e = .returned (.tuple #[.agg (cw (Ls.tell ⟨S.M, S.ox, S.jx⟩ 0 c op id at' fr lf).1), .bool (Ls.tell ⟨S.M, S.ox, S.jx⟩ 0 c op id at' fr lf).2]) ∧ TwR w5 w2 P c g ⟨(Ls.acc ⟨S.M, S.ox, S.jx⟩ 0 c op id at' d fr lf).M, (Ls.acc ⟨S.M, S.ox, S.jx⟩ 0 c op id at' d fr lf).over, (Ls.acc ⟨S.M, S.ox, S.jx⟩ 0 c op id at' d fr lf).ids, S.oy, S.jy, S.Z⟩ D X) :=
    Lib.hid fun S k hk hS D X hK w' op id at' fr lf d hd hid h => by
      have := tw_x (Q := Try.prog) (f := 33) (args := #[.pointer (some ⟨P.qx, 0, none⟩), .int .i64 op, .int .u64 id, .int .i64 at', .agg (cw d), .int .i64 fr, .int .i64 lf]) (R := fun e => e = .returned (.tuple #[.agg (cw (Ls.tell ⟨S.M, S.ox, S.jx⟩ 0 c op id at' fr lf).1), .bool (Ls.tell ⟨S.M, S.ox, S.jx⟩ 0 c op id at' fr lf).2])) (S' := Ls.acc ⟨S.M, S.ox, S.jx⟩ 0 c op id at' d fr lf) hK h (fun D' X' hK' h' => fitAccess hK' HC.out 0 (by decide) op id at' fr lf d hd hid P.qx P.ix ⟨S.M, S.ox, S.jx⟩ k hk hS h')
      rw [HP.out.2.2.1] at this
      exact this
  have KZ : Hid (∀ (S : TwS) (k : Nat), k ≤ 1000 → LsFit c 1 S.Z k → ∀ (D : Nat → Prop) (X : World → Prop), Keeps D X → ∀ (w' : World) (op id at' fr lf : Int) (d : List Int), (d.length = 8 ∧ ∀ x ∈ d, Word x) → Word id → TwR w5 w' P c g S D X → Calls Try.prog 33 #[.pointer (some ⟨qz, 0, none⟩), .int .i64 op, .int .u64 id, .int .i64 at', .agg (cw d), .int .i64 fr, .int .i64 lf] w' fun e w2 =>
      e = .returned (.tuple #[.agg (cw (S.Z.tell 1 c op id at' fr lf).1), .bool (S.Z.tell 1 c op id at' fr lf).2]) ∧ TwR w5 w2 P c g ⟨S.M, S.ox, S.jx, S.oy, S.jy, S.Z.acc 1 c op id at' d fr lf⟩ D X) :=
    Lib.hid fun S k hk hS D X hK w' op id at' fr lf d hd hid h => by
      have := tw_z (Q := Try.prog) (f := 33) (args := #[.pointer (some ⟨P.qz, 0, none⟩), .int .i64 op, .int .u64 id, .int .i64 at', .agg (cw d), .int .i64 fr, .int .i64 lf]) (R := fun e => e = .returned (.tuple #[.agg (cw (S.Z.tell 1 c op id at' fr lf).1), .bool (S.Z.tell 1 c op id at' fr lf).2])) (S' := S.Z.acc 1 c op id at' d fr lf) hK h (fun D' X' hK' h' => fitAccess hK' HC.out 1 (by decide) op id at' fr lf d hd hid P.qz P.iz S.Z k hk hS h')
      rw [HP.out.2.2.2.2] at this
      exact this
  have KY : Hid (∀ (S : TwS) (k : Nat), k ≤ 1000 → LsFit g 3 ⟨S.M, S.oy, S.jy⟩ k → ∀ (D : Nat → Prop) (X : World → Prop), Keeps D X → ∀ (w' : World) (op id at' fr lf : Int) (d : List Int), (d.length = 8 ∧ ∀ x ∈ d, Word x) → Word id → TwR w5 w' P c g S D X → Calls Try.prog 33 #[.pointer (some ⟨qy, 0, none⟩), .int .i64 op, .int .u64 id, .int .i64 at', .agg (cw d), .int .i64 fr, .int .i64 lf] w' fun e w2 =>
      e = .returned (.tuple #[.agg (cw (Ls.tell ⟨S.M, S.oy, S.jy⟩ 3 g op id at' fr lf).1), .bool (Ls.tell ⟨S.M, S.oy, S.jy⟩ 3 g op id at' fr lf).2]) ∧ TwR w5 w2 P c g ⟨(Ls.acc ⟨S.M, S.oy, S.jy⟩ 3 g op id at' d fr lf).M, S.ox, S.jx, (Ls.acc ⟨S.M, S.oy, S.jy⟩ 3 g op id at' d fr lf).over, (Ls.acc ⟨S.M, S.oy, S.jy⟩ 3 g op id at' d fr lf).ids, S.Z⟩ D X) :=
    Lib.hid fun S k hk hS D X hK w' op id at' fr lf d hd hid h => by
      have := tw_y (Q := Try.prog) (f := 33) (args := #[.pointer (some ⟨P.qy, 0, none⟩), .int .i64 op, .int .u64 id, .int .i64 at', .agg (cw d), .int .i64 fr, .int .i64 lf]) (R := fun e => e = .returned (.tuple #[.agg (cw (Ls.tell ⟨S.M, S.oy, S.jy⟩ 3 g op id at' fr lf).1), .bool (Ls.tell ⟨S.M, S.oy, S.jy⟩ 3 g op id at' fr lf).2])) (S' := Ls.acc ⟨S.M, S.oy, S.jy⟩ 3 g op id at' d fr lf) hK h (fun D' X' hK' h' => fitAccess hK' HG.out 3 (by decide) op id at' fr lf d hd hid P.qy P.iy ⟨S.M, S.oy, S.jy⟩ k hk hS h')
      rw [HP.out.2.2.2.1] at this
      exact this
  clear hP
  go_wp2_with fail
  go_loopw [24, 25, 26, 27, 28] (fun iv _ _ _ _ wr => ∃ k : Nat, k ≤ l.length ∧ iv = .int .i64 k ∧ Hid (∃ S : TwS, TwoI c g S.M S.ox S.jx S.oy S.jy S.Z k ∧ TwR w5 wr P c g S (fun _ => False) (fun _ => True))) (fun iv _ _ _ _ _ => l.length - (intOf iv).toNat)
  case atStart => exact ⟨0, by omega, rfl, Lib.hid ⟨_, HST.out.1, HTW.out⟩⟩
  case round =>
    obtain ⟨k, hk, rfl, HR⟩ := hrel
    by_cases hlt : k < l.length
    · have g1 : decide ((k : Int) < (l.length : Int)) = true := decide_eq_true (by omega)
      have g1' : decide (k < l.length) = true := decide_eq_true hlt
      have k0 : (0 : Int) ≤ (k : Int) := by omega
      have k1 : (k : Int) < (l.length : Int) := by omega
      obtain ⟨S, hI, hL⟩ := HR.out
      have HI := Lib.hid hI
      have HL := Lib.hid hL
      clear hI hL HR HTW HST
      obtain ⟨b, off, rfl, hlb, hcells⟩ := HAT.out k hlt
      have hx := HO.out l[k] (List.getElem_mem hlt)
      have HCE := Lib.hid hcells
      clear hcells
      generalize l[k] = x at *
      obtain ⟨xo, xi, xa, xn, xf, xt⟩ := x
      simp only at hx HCE
      obtain ⟨n1, n2, n3, n4, n5, n6⟩ := hx
      simp only at n1 n2 n3 n4 n5 n6
      have HLC : Hid (∀ w', Below w5.heap.size w5 w' → w'.cell? ⟨b, off + k * 6, none⟩ = some (.int .i64 xo) ∧ w'.cell? ⟨b, off + k * 6 + 1, none⟩ = some (.int .u64 xi) ∧ w'.cell? ⟨b, off + k * 6 + 2, none⟩ = some (.int .i64 xa) ∧ w'.cell? ⟨b, off + k * 6 + 3, none⟩ = some (.int .u64 xn) ∧ w'.cell? ⟨b, off + k * 6 + 4, none⟩ = some (.int .i64 xf) ∧ w'.cell? ⟨b, off + k * 6 + 5, none⟩ = some (.int .i64 xt)) := Lib.hid fun w' h => HCE.out w' (HCC.out w' h).2.2
      obtain ⟨xn1, hxn1⟩ : ∃ y, IntKind.u64.wrap (xn + 1) = y := ⟨_, rfl⟩
      have hw1 : Word xn1 := by rw [← hxn1, IntKind.wrap_u64]; exact ⟨by omega, by omega⟩
      have HXN := Lib.hid hxn1
      have KD := Lib.hid (fun w' => ldata_any xn n4 w')
      have KD1 := Lib.hid (fun w' => ldata_any xn1 hw1 w')
      have hd0 := datL_ok xn
      have hd1 := datL_ok xn1
      generalize datL xn = dl at *
      generalize datL xn1 = dm at *
      obtain ⟨X2, hX2⟩ : ∃ X2, X2 = Ls.acc ⟨S.M, S.ox, S.jx⟩ 0 c xo xi xa dl xf xt := ⟨_, rfl⟩
      obtain ⟨Z2, hZ2⟩ : ∃ Z2, Z2 = S.Z.acc 1 c xo xi xa dl xf xt := ⟨_, rfl⟩
      obtain ⟨Y2, hY2⟩ : ∃ Y2, Y2 = Ls.acc ⟨X2.M, S.oy, S.jy⟩ 3 g xo xi xa dm xt xf := ⟨_, rfl⟩
      obtain ⟨q1, q2, q3, q4, q5⟩ := two_step HC.out HG.out HI.out (op := xo) (id := xi) (at' := xa) (fr := xf) (lf := xt) n2.1 hd0 hd1 hX2 hZ2 hY2
      have KX1 := Lib.hid (fun D X hK w' h => KX.out S (2 * k) (by omega) HI.out.x D X hK w' xo xi xa xf xt dl hd0 n2 h)
      have KZ1 := Lib.hid (fun D X hK w' h => KZ.out ⟨X2.M, X2.over, X2.ids, S.oy, S.jy, S.Z⟩ (2 * k) (by omega) HI.out.z D X hK w' xo xi xa xf xt dl hd0 n2 h)
      have KY1 := Lib.hid (fun D X hK w' h => KY.out ⟨X2.M, X2.over, X2.ids, S.oy, S.jy, Z2⟩ (2 * k + 1) (by omega) q4 D X hK w' xo xi xa xt xf dm hd1 n2 h)
      rw [← hX2] at KX1
      simp only at KZ1 KY1
      rw [← hZ2, q1] at KZ1
      rw [← hY2] at KY1
      have htl := tell_ok (first := 0) HC.out.right HI.out.x xo xi xa xf xt
      obtain ⟨tl, htle⟩ : ∃ tl, Ls.tell ⟨S.M, S.ox, S.jx⟩ 0 c xo xi xa xf xt = tl := ⟨_, rfl⟩
      rw [htle] at htl KX1 KZ1
      obtain ⟨tu, tb⟩ := tl
      simp only at htl KX1 KZ1
      obtain ⟨ty, htye⟩ : ∃ tl, Ls.tell ⟨X2.M, S.oy, S.jy⟩ 3 g xo xi xa xt xf = tl := ⟨_, rfl⟩
      rw [htye] at KY1
      obtain ⟨tyu, tyb⟩ := ty
      have HEQ : Hid (∀ w, (Op.equalIn 10000 66 (.agg (wv tu).toArray) (.agg (wv tu).toArray)).run Try.prog w = .ok true w) := Lib.hid fun w => by
        have h := run_eqdata tu tu htl.1 htl.1 w
        rw [decide_eq_true rfl, cw_eq] at h
        exact h
      obtain ⟨xs, hxs⟩ : ∃ xs, wv tu = xs := ⟨_, rfl⟩
      rw [hxs] at HEQ
      rw [cw_eq tu, hxs] at KX1 KZ1
      have hlx : xs.length = 8 := by rw [← hxs, wv_len, htl.1]
      have hox : ∀ v ∈ xs, v.oneCell' = true := by rw [← hxs]; exact wv_one _
      have hix : (Try.prog.info? 66).map (·.size) = some xs.length := by rw [← hxs]; exact info_dataR _ htl.1
      have HQ5 := Lib.hid q5
      have HQ2 := Lib.hid q2
      have HQ3 := Lib.hid q3
      have hd := HL.out.below keeps_true ((Below.refl _ _).drew)
      have HKX := Lib.hid keeps_true
      have HSX : Hid (∀ w', True → Below w5.heap.size w5 w' → w'.cell? ⟨b, off + k * 6, none⟩ = some (.int .i64 xo) ∧ w'.cell? ⟨b, off + k * 6 + 1, none⟩ = some (.int .u64 xi) ∧ w'.cell? ⟨b, off + k * 6 + 2, none⟩ = some (.int .i64 xa) ∧ w'.cell? ⟨b, off + k * 6 + 3, none⟩ = some (.int .u64 xn) ∧ w'.cell? ⟨b, off + k * 6 + 4, none⟩ = some (.int .i64 xf) ∧ w'.cell? ⟨b, off + k * 6 + 5, none⟩ = some (.int .i64 xt)) := Lib.hid fun w' _ h => HLC.out w' h
      clear q1 q2 q3 q4 q5 hX2 hZ2 hY2 htle htye hxs htl HCE n1 n2 n3 n4 n5 n6 hd0 hd1 hw1 HL hxn1
      go_upto_region 19 with fail
      go_cut [25, 26] (fun bv tv wx => ∃ V : Nat, bv = .pointer (some ⟨V, 0, none⟩) ∧ tv = .bool tb ∧ Hid (TwR w5 wx P c g ⟨X2.M, X2.over, X2.ids, S.oy, S.jy, S.Z⟩ (fun k => False ∨ k = V) (fun w => True ∧ Blk w V xs.toArray 66) ∧ (∀ k, False → k ≠ V) ∧ w5.heap.size ≤ V))
      case first =>
        refine wp_region_held_drew (S := (fun w' => w'.cell? ⟨b, off + k * 6, none⟩ = some (.int .i64 xo) ∧ w'.cell? ⟨b, off + k * 6 + 1, none⟩ = some (.int .u64 xi) ∧ w'.cell? ⟨b, off + k * 6 + 2, none⟩ = some (.int .i64 xa) ∧ w'.cell? ⟨b, off + k * 6 + 3, none⟩ = some (.int .u64 xn) ∧ w'.cell? ⟨b, off + k * 6 + 4, none⟩ = some (.int .i64 xf) ∧ w'.cell? ⟨b, off + k * 6 + 5, none⟩ = some (.int .i64 xt))) (by as_aux_lemma => kernel_rfl) (HSX.out _ hd.x hd.old) (fun hHeld => ?_)
        refine wpAnyH_take (i := 0) (oi := _) (v := ?_) rfl (by as_aux_lemma => kernel_rfl) (by as_aux_lemma => kernel_rfl) (by as_aux_lemma => kernel_rfl) (fun _ _ _ h => h) (Or.inl ⟨by rfl, ?_⟩) (by assumption) ?_
        rotate_left
        · (intro wS hSw; (try dsimp only at hSw); go_simp; try with_reducible rfl)
        try simp only [Act.put, List.setIfInBounds_toArray, List.set_cons_zero, List.set_cons_succ]
        refine wpAnyH_take (i := 1) (oi := _) (v := ?_) rfl (by as_aux_lemma => kernel_rfl) (by as_aux_lemma => kernel_rfl) (by as_aux_lemma => kernel_rfl) (fun _ _ _ h => h) (Or.inl ⟨by rfl, ?_⟩) (by assumption) ?_
        rotate_left
        · (intro wS hSw; (try dsimp only at hSw); go_simp; try with_reducible rfl)
        try simp only [Act.put, List.setIfInBounds_toArray, List.set_cons_zero, List.set_cons_succ]
        refine wpAnyH_take (i := 2) (oi := _) (v := ?_) rfl (by as_aux_lemma => kernel_rfl) (by as_aux_lemma => kernel_rfl) (by as_aux_lemma => kernel_rfl) (fun _ _ _ h => h) (Or.inl ⟨by rfl, ?_⟩) (by assumption) ?_
        rotate_left
        · (intro wS hSw; (try dsimp only at hSw); go_simp; try with_reducible rfl)
        try simp only [Act.put, List.setIfInBounds_toArray, List.set_cons_zero, List.set_cons_succ]
        refine wpAnyH_take (i := 3) (oi := _) (v := ?_) rfl (by as_aux_lemma => kernel_rfl) (by as_aux_lemma => kernel_rfl) (by as_aux_lemma => kernel_rfl) (fun _ _ _ h => h) (Or.inl ⟨by rfl, ?_⟩) (by assumption) ?_
        rotate_left
        · (intro wS hSw; (try dsimp only at hSw); go_simp; try with_reducible rfl)
        try simp only [Act.put, List.setIfInBounds_toArray, List.set_cons_zero, List.set_cons_succ]
        refine wpAnyH_take (i := 4) (oi := _) (v := ?_) rfl (by as_aux_lemma => kernel_rfl) (by as_aux_lemma => kernel_rfl) (by as_aux_lemma => kernel_rfl) (fun _ _ _ h => h) (Or.inl ⟨by rfl, ?_⟩) (by assumption) ?_
        rotate_left
        · (intro wS hSw; (try dsimp only at hSw); go_simp; try with_reducible rfl)
        try simp only [Act.put, List.setIfInBounds_toArray, List.set_cons_zero, List.set_cons_succ]
        refine wpAnyH_take (i := 5) (oi := _) (v := ?_) rfl (by as_aux_lemma => kernel_rfl) (by as_aux_lemma => kernel_rfl) (by as_aux_lemma => kernel_rfl) (fun _ _ _ h => h) (Or.inl ⟨by rfl, ?_⟩) (by assumption) ?_
        rotate_left
        · (intro wS hSw; (try dsimp only at hSw); go_simp; try with_reducible rfl)
        try simp only [Act.put, List.setIfInBounds_toArray, List.set_cons_zero, List.set_cons_succ]
        refine wpAnyH_take (i := 6) (oi := _) (v := ?_) rfl (by as_aux_lemma => kernel_rfl) (by as_aux_lemma => kernel_rfl) (by as_aux_lemma => kernel_rfl) (fun _ _ _ h => h) (Or.inl ⟨by rfl, ?_⟩) (by assumption) ?_
        rotate_left
        · (intro wS hSw; (try dsimp only at hSw); go_simp; try with_reducible rfl)
        try simp only [Act.put, List.setIfInBounds_toArray, List.set_cons_zero, List.set_cons_succ]
        refine wpAnyH_take (i := 7) (oi := _) (v := ?_) rfl (by as_aux_lemma => kernel_rfl) (by as_aux_lemma => kernel_rfl) (by as_aux_lemma => kernel_rfl) (fun _ _ _ h => h) (Or.inl ⟨by rfl, ?_⟩) (by assumption) ?_
        rotate_left
        · (intro wS hSw; (try dsimp only at hSw); go_simp; try with_reducible rfl)
        try simp only [Act.put, List.setIfInBounds_toArray, List.set_cons_zero, List.set_cons_succ]
        refine wpAnyH_take (i := 8) (oi := _) (v := ?_) rfl (by as_aux_lemma => kernel_rfl) (by as_aux_lemma => kernel_rfl) (by as_aux_lemma => kernel_rfl) (fun _ _ _ h => h) (Or.inl ⟨by rfl, ?_⟩) (by assumption) ?_
        rotate_left
        · (intro wS hSw; (try dsimp only at hSw); go_simp; try with_reducible rfl)
        try simp only [Act.put, List.setIfInBounds_toArray, List.set_cons_zero, List.set_cons_succ]
        refine wpAnyH_take (i := 9) (oi := _) (v := ?_) rfl (by as_aux_lemma => kernel_rfl) (by as_aux_lemma => kernel_rfl) (by as_aux_lemma => kernel_rfl) (fun _ _ _ h => h) (Or.inl ⟨by rfl, ?_⟩) (by assumption) ?_
        rotate_left
        · (intro wS hSw; (try dsimp only at hSw); go_simp; try with_reducible rfl)
        try simp only [Act.put, List.setIfInBounds_toArray, List.set_cons_zero, List.set_cons_succ]
        refine wpAnyH_take (i := 10) (oi := _) (v := ?_) rfl (by as_aux_lemma => kernel_rfl) (by as_aux_lemma => kernel_rfl) (by as_aux_lemma => kernel_rfl) (fun _ _ _ h => h) (Or.inl ⟨by rfl, ?_⟩) (by assumption) ?_
        rotate_left
        · (intro wS hSw; (try dsimp only at hSw); go_simp; try with_reducible rfl)
        try simp only [Act.put, List.setIfInBounds_toArray, List.set_cons_zero, List.set_cons_succ]
        refine wpAnyH_take (i := 11) (oi := _) (v := ?_) rfl (by as_aux_lemma => kernel_rfl) (by as_aux_lemma => kernel_rfl) (by as_aux_lemma => kernel_rfl) (fun _ _ _ h => h) (Or.inl ⟨by rfl, ?_⟩) (by assumption) ?_
        rotate_left
        · (intro wS hSw; (try dsimp only at hSw); go_simp; try with_reducible rfl)
        try simp only [Act.put, List.setIfInBounds_toArray, List.set_cons_zero, List.set_cons_succ]
        refine wpAnyH_take (i := 12) (oi := _) (v := ?_) rfl (by as_aux_lemma => kernel_rfl) (by as_aux_lemma => kernel_rfl) (by as_aux_lemma => kernel_rfl) (fun _ _ _ h => h) (Or.inl ⟨by rfl, ?_⟩) (by assumption) ?_
        rotate_left
        · (intro wS hSw; (try dsimp only at hSw); go_simp; try with_reducible rfl)
        try simp only [Act.put, List.setIfInBounds_toArray, List.set_cons_zero, List.set_cons_succ]
        refine wpAnyH_take (i := 13) (oi := _) (v := ?_) rfl (by as_aux_lemma => kernel_rfl) (by as_aux_lemma => kernel_rfl) (by as_aux_lemma => kernel_rfl) (fun _ _ _ h => h) (Or.inl ⟨by rfl, ?_⟩) (by assumption) ?_
        rotate_left
        · (intro wS hSw; (try dsimp only at hSw); go_simp; try with_reducible rfl)
        try simp only [Act.put, List.setIfInBounds_toArray, List.set_cons_zero, List.set_cons_succ]
        refine wpAnyH_take (i := 14) (oi := _) (v := ?_) rfl (by as_aux_lemma => kernel_rfl) (by as_aux_lemma => kernel_rfl) (by as_aux_lemma => kernel_rfl) (fun _ _ _ h => h) (Or.inl ⟨by rfl, ?_⟩) (by assumption) ?_
        rotate_left
        · (intro wS hSw; (try dsimp only at hSw); go_simp; try with_reducible rfl)
        try simp only [Act.put, List.setIfInBounds_toArray, List.set_cons_zero, List.set_cons_succ]
        refine wpAnyH_take (i := 15) (oi := _) (v := ?_) rfl (by as_aux_lemma => kernel_rfl) (by as_aux_lemma => kernel_rfl) (by as_aux_lemma => kernel_rfl) (fun _ _ _ h => h) (Or.inl ⟨by rfl, ?_⟩) (by assumption) ?_
        rotate_left
        · (intro wS hSw; (try dsimp only at hSw); go_simp; try with_reducible rfl)
        try simp only [Act.put, List.setIfInBounds_toArray, List.set_cons_zero, List.set_cons_succ]
        refine wpAnyH_take (i := 16) (oi := _) (v := ?_) rfl (by as_aux_lemma => kernel_rfl) (by as_aux_lemma => kernel_rfl) (by as_aux_lemma => kernel_rfl) (fun _ _ _ h => h) (Or.inl ⟨by rfl, ?_⟩) (by assumption) ?_
        rotate_left
        · (intro wS hSw; (try dsimp only at hSw); go_simp; try with_reducible rfl)
        try simp only [Act.put, List.setIfInBounds_toArray, List.set_cons_zero, List.set_cons_succ]
        refine wpAnyH_take (i := 17) (oi := _) (v := ?_) rfl (by as_aux_lemma => kernel_rfl) (by as_aux_lemma => kernel_rfl) (by as_aux_lemma => kernel_rfl) (fun _ _ _ h => h) (Or.inl ⟨by rfl, ?_⟩) (by assumption) ?_
        rotate_left
        · (intro wS hSw; (try dsimp only at hSw); go_simp; try with_reducible rfl)
        try simp only [Act.put, List.setIfInBounds_toArray, List.set_cons_zero, List.set_cons_succ]
        refine wpAnyH_take (i := 18) (oi := _) (v := ?_) rfl (by as_aux_lemma => kernel_rfl) (by as_aux_lemma => kernel_rfl) (by as_aux_lemma => kernel_rfl) (fun _ _ _ h => h) (Or.inl ⟨by rfl, ?_⟩) (by assumption) ?_
        rotate_left
        · (intro wS hSw; (try dsimp only at hSw); go_simp; try with_reducible rfl)
        try simp only [Act.put, List.setIfInBounds_toArray, List.set_cons_zero, List.set_cons_succ]
        refine wpAnyH_take (i := 19) (oi := _) (v := ?_) rfl (by as_aux_lemma => kernel_rfl) (by as_aux_lemma => kernel_rfl) (by as_aux_lemma => kernel_rfl) (fun _ _ _ h => h) (Or.inl ⟨by rfl, ?_⟩) (by assumption) ?_
        rotate_left
        · (intro wS hSw; (try dsimp only at hSw); go_simp; try with_reducible rfl)
        try simp only [Act.put, List.setIfInBounds_toArray, List.set_cons_zero, List.set_cons_succ]
        refine wpAnyH_take (i := 20) (oi := _) (v := ?_) rfl (by as_aux_lemma => kernel_rfl) (by as_aux_lemma => kernel_rfl) (by as_aux_lemma => kernel_rfl) (fun _ _ _ h => h) (Or.inl ⟨by rfl, ?_⟩) (by assumption) ?_
        rotate_left
        · (intro wS hSw; (try dsimp only at hSw); go_simp; try with_reducible rfl)
        try simp only [Act.put, List.setIfInBounds_toArray, List.set_cons_zero, List.set_cons_succ]
        refine wpAnyH_take (i := 22) (oi := _) (v := ?_) rfl (by as_aux_lemma => kernel_rfl) (by as_aux_lemma => kernel_rfl) (by as_aux_lemma => kernel_rfl) (fun _ _ _ h => h) (Or.inl ⟨by rfl, ?_⟩) (by assumption) ?_
        rotate_left
        · (intro wS hSw; (try dsimp only at hSw); go_simp; try with_reducible rfl)
        try simp only [Act.put, List.setIfInBounds_toArray, List.set_cons_zero, List.set_cons_succ]
        refine wpAnyH_take (i := 23) (oi := _) (v := ?_) rfl (by as_aux_lemma => kernel_rfl) (by as_aux_lemma => kernel_rfl) (by as_aux_lemma => kernel_rfl) (fun _ _ _ h => h) (Or.inl ⟨by rfl, ?_⟩) (by assumption) ?_
        rotate_left
        · (intro wS hSw; (try dsimp only at hSw); go_simp; try with_reducible rfl)
        try simp only [Act.put, List.setIfInBounds_toArray, List.set_cons_zero, List.set_cons_succ]
        refine wpAnyH_take (i := 24) (oi := _) (v := ?_) rfl (by as_aux_lemma => kernel_rfl) (by as_aux_lemma => kernel_rfl) (by as_aux_lemma => kernel_rfl) (fun _ _ _ h => h) (Or.inl ⟨by rfl, ?_⟩) (by assumption) ?_
        rotate_left
        · (intro wS hSw; (try dsimp only at hSw); go_simp; try with_reducible rfl)
        try simp only [Act.put, List.setIfInBounds_toArray, List.set_cons_zero, List.set_cons_succ]
        refine wpAnyH_take (i := 25) (oi := _) (v := ?_) rfl (by as_aux_lemma => kernel_rfl) (by as_aux_lemma => kernel_rfl) (by as_aux_lemma => kernel_rfl) (fun _ _ _ h => h) (Or.inl ⟨by rfl, ?_⟩) (by assumption) ?_
        rotate_left
        · (intro wS hSw; (try dsimp only at hSw); go_simp; try with_reducible rfl)
        try simp only [Act.put, List.setIfInBounds_toArray, List.set_cons_zero, List.set_cons_succ]
        refine wpAnyH_take (i := 26) (oi := _) (v := ?_) rfl (by as_aux_lemma => kernel_rfl) (by as_aux_lemma => kernel_rfl) (by as_aux_lemma => kernel_rfl) (fun _ _ _ h => h) (Or.inl ⟨by rfl, ?_⟩) (by assumption) ?_
        rotate_left
        · (intro wS hSw; (try dsimp only at hSw); go_simp; try with_reducible rfl)
        try simp only [Act.put, List.setIfInBounds_toArray, List.set_cons_zero, List.set_cons_succ]
        refine wpAnyH_take (i := 27) (oi := _) (v := ?_) rfl (by as_aux_lemma => kernel_rfl) (by as_aux_lemma => kernel_rfl) (by as_aux_lemma => kernel_rfl) (fun _ _ _ h => h) (Or.inl ⟨by rfl, ?_⟩) (by assumption) ?_
        rotate_left
        · (intro wS hSw; (try dsimp only at hSw); go_simp; try with_reducible rfl)
        try simp only [Act.put, List.setIfInBounds_toArray, List.set_cons_zero, List.set_cons_succ]
        refine wpAnyH_take (i := 28) (oi := _) (v := ?_) rfl (by as_aux_lemma => kernel_rfl) (by as_aux_lemma => kernel_rfl) (by as_aux_lemma => kernel_rfl) (fun _ _ _ h => h) (Or.inl ⟨by rfl, ?_⟩) (by assumption) ?_
        rotate_left
        · (intro wS hSw; (try dsimp only at hSw); go_simp; try with_reducible rfl)
        try simp only [Act.put, List.setIfInBounds_toArray, List.set_cons_zero, List.set_cons_succ]
        refine wpAnyH_take (i := 29) (oi := _) (v := ?_) rfl (by as_aux_lemma => kernel_rfl) (by as_aux_lemma => kernel_rfl) (by as_aux_lemma => kernel_rfl) (fun _ _ _ h => h) (Or.inl ⟨by rfl, ?_⟩) (by assumption) ?_
        rotate_left
        · (intro wS hSw; (try dsimp only at hSw); go_simp; try with_reducible rfl)
        try simp only [Act.put, List.setIfInBounds_toArray, List.set_cons_zero, List.set_cons_succ]
        refine wpAnyH_take (i := 30) (oi := _) (v := ?_) rfl (by as_aux_lemma => kernel_rfl) (by as_aux_lemma => kernel_rfl) (by as_aux_lemma => kernel_rfl) (fun _ _ _ h => h) (Or.inl ⟨by rfl, ?_⟩) (by assumption) ?_
        rotate_left
        · (intro wS hSw; (try dsimp only at hSw); go_simp; try with_reducible rfl)
        try simp only [Act.put, List.setIfInBounds_toArray, List.set_cons_zero, List.set_cons_succ]
        refine wpAnyH_take (i := 31) (oi := _) (v := ?_) rfl (by as_aux_lemma => kernel_rfl) (by as_aux_lemma => kernel_rfl) (by as_aux_lemma => kernel_rfl) (fun _ _ _ h => h) (Or.inl ⟨by rfl, ?_⟩) (by assumption) ?_
        rotate_left
        · (intro wS hSw; (try dsimp only at hSw); go_simp; try with_reducible rfl)
        try simp only [Act.put, List.setIfInBounds_toArray, List.set_cons_zero, List.set_cons_succ]
        refine wpAnyH_ready (rs := [21, 36]) (by as_aux_lemma => kernel_rfl) (by simp) ?_
        refine (AllReadyH.cons (o := _) rfl (fun K hK => ?_) (AllReadyH.cons (o := _) rfl (fun K hK => ?_) AllReadyH.nil))
        focus
          go_simp
          refine (KD.out _).mono ?_
          rintro e wx1 ⟨rfl, hbx1⟩
          have k1 := hd.below HKX.out hbx1
          refine hK.out _ _ (HSX.out _ k1.x k1.old) (fun hHeld => ?_)
          clear hK K
          try simp only [Act.put, List.setIfInBounds_toArray, List.set_cons_zero, List.set_cons_succ]
          refine wpAnyH_ready (rs := [32, 36]) (by as_aux_lemma => kernel_rfl) (by simp) ?_
          refine (AllReadyH.cons (o := _) rfl (fun K hK => ?_) (AllReadyH.cons (o := _) rfl (fun K hK => ?_) AllReadyH.nil))
          focus
            go_simp
            refine (KX1.out _ _ HKX.out _ k1).mono ?_
            rintro e wx2 ⟨rfl, k2⟩
            refine hK.out _ _ (HSX.out _ k2.x k2.old) (fun hHeld => ?_)
            clear hK K
            try simp only [Act.put, List.setIfInBounds_toArray, List.set_cons_zero, List.set_cons_succ]
            refine wpAnyH_take (i := 33) (oi := _) (v := ?_) rfl (by as_aux_lemma => kernel_rfl) (by as_aux_lemma => kernel_rfl) (by as_aux_lemma => kernel_rfl) (fun _ _ _ h => h) (Or.inl ⟨by rfl, ?_⟩) (by assumption) ?_
            rotate_left
            · (intro wS hSw; (try dsimp only at hSw); go_simp; try with_reducible rfl)
            try simp only [Act.put, List.setIfInBounds_toArray, List.set_cons_zero, List.set_cons_succ]
            refine wpAnyH_take (i := 34) (oi := _) (v := ?_) rfl (by as_aux_lemma => kernel_rfl) (by as_aux_lemma => kernel_rfl) (by as_aux_lemma => kernel_rfl) (fun _ _ _ h => h) (Or.inl ⟨by rfl, ?_⟩) (by assumption) ?_
            rotate_left
            · (intro wS hSw; (try dsimp only at hSw); go_simp; try with_reducible rfl)
            try simp only [Act.put, List.setIfInBounds_toArray, List.set_cons_zero, List.set_cons_succ]
            refine wpAnyH_take (i := 35) (oi := _) (v := ?_) rfl (by as_aux_lemma => kernel_rfl) (by as_aux_lemma => kernel_rfl) (by as_aux_lemma => kernel_rfl) (fun _ _ _ h => h) (Or.inl ⟨by rfl, ?_⟩) (by assumption) ?_
            rotate_left
            · (intro wS hSw; (try dsimp only at hSw); go_simp; try with_reducible rfl)
            try simp only [Act.put, List.setIfInBounds_toArray, List.set_cons_zero, List.set_cons_succ]
            refine wpAnyH_ready (rs := [36]) (by as_aux_lemma => kernel_rfl) (by simp) ?_
            refine (AllReadyH.cons (o := _) rfl (fun K hK => ?_) AllReadyH.nil)
            focus
              go_simp
              have k3 := TwB.new HKX.out k2
              try simp only [World.size_alloc] at k3
              refine hK.out _ _ (HSX.out _ k3.x k3.old) (fun hHeld => ?_)
              clear hK K
              try simp only [Act.put, List.setIfInBounds_toArray, List.set_cons_zero, List.set_cons_succ]
              refine wpAnyH_ready (rs := [37]) (by as_aux_lemma => kernel_rfl) (by simp) ?_
              refine (AllReadyH.cons (o := _) rfl (fun K hK => ?_) AllReadyH.nil)
              focus
                rw [if_pos (by rfl)]
                refine wp_store_mid _ _ _ rfl _ 0 xs.toArray rfl rfl (k3.there xs hlx) hix (all_oneCell_toArray hox) ?_
                refine hK.out _ _ (HSX.out _ (k3.fill xs hlx).x.1 (k3.fill xs hlx).old) (fun hHeld => ?_)
                clear hK K
                try simp only [Act.put, List.setIfInBounds_toArray, List.set_cons_zero, List.set_cons_succ]
                refine wpAnyH_take (i := 38) (oi := _) (v := ?_) rfl (by as_aux_lemma => kernel_rfl) (by as_aux_lemma => kernel_rfl) (by as_aux_lemma => kernel_rfl) (fun _ _ _ h => h) (Or.inl ⟨by rfl, ?_⟩) (by assumption) ?_
                rotate_left
                · (intro wS hSw; (try dsimp only at hSw); go_simp; try with_reducible rfl)
                try simp only [Act.put, List.setIfInBounds_toArray, List.set_cons_zero, List.set_cons_succ]
                refine wpAnyH_done (by as_aux_lemma => kernel_rfl) ?_ _
                go_wp2_with fail
                go_meet
                exact ⟨_, rfl, rfl, Lib.hid ⟨k3.fill xs hlx, k3.ne, k3.ge⟩⟩
          focus
            go_simp
            have k2 := TwB.new HKX.out k1
            try simp only [World.size_alloc] at k2
            refine hK.out _ _ (HSX.out _ k2.x k2.old) (fun hHeld => ?_)
            clear hK K
            try simp only [Act.put, List.setIfInBounds_toArray, List.set_cons_zero, List.set_cons_succ]
            refine wpAnyH_ready (rs := [32]) (by as_aux_lemma => kernel_rfl) (by simp) ?_
            refine (AllReadyH.cons (o := _) rfl (fun K hK => ?_) AllReadyH.nil)
            focus
              go_simp
              refine (k2.call (fun D' X' hK' h' => KX1.out D' X' hK' _ h')).mono ?_
              rintro e wx3 ⟨rfl, k3⟩
              refine hK.out _ _ (HSX.out _ k3.x k3.old) (fun hHeld => ?_)
              clear hK K
              try simp only [Act.put, List.setIfInBounds_toArray, List.set_cons_zero, List.set_cons_succ]
              refine wpAnyH_take (i := 33) (oi := _) (v := ?_) rfl (by as_aux_lemma => kernel_rfl) (by as_aux_lemma => kernel_rfl) (by as_aux_lemma => kernel_rfl) (fun _ _ _ h => h) (Or.inl ⟨by rfl, ?_⟩) (by assumption) ?_
              rotate_left
              · (intro wS hSw; (try dsimp only at hSw); go_simp; try with_reducible rfl)
              try simp only [Act.put, List.setIfInBounds_toArray, List.set_cons_zero, List.set_cons_succ]
              refine wpAnyH_take (i := 34) (oi := _) (v := ?_) rfl (by as_aux_lemma => kernel_rfl) (by as_aux_lemma => kernel_rfl) (by as_aux_lemma => kernel_rfl) (fun _ _ _ h => h) (Or.inl ⟨by rfl, ?_⟩) (by assumption) ?_
              rotate_left
              · (intro wS hSw; (try dsimp only at hSw); go_simp; try with_reducible rfl)
              try simp only [Act.put, List.setIfInBounds_toArray, List.set_cons_zero, List.set_cons_succ]
              refine wpAnyH_take (i := 35) (oi := _) (v := ?_) rfl (by as_aux_lemma => kernel_rfl) (by as_aux_lemma => kernel_rfl) (by as_aux_lemma => kernel_rfl) (fun _ _ _ h => h) (Or.inl ⟨by rfl, ?_⟩) (by assumption) ?_
              rotate_left
              · (intro wS hSw; (try dsimp only at hSw); go_simp; try with_reducible rfl)
              try simp only [Act.put, List.setIfInBounds_toArray, List.set_cons_zero, List.set_cons_succ]
              refine wpAnyH_ready (rs := [37]) (by as_aux_lemma => kernel_rfl) (by simp) ?_
              refine (AllReadyH.cons (o := _) rfl (fun K hK => ?_) AllReadyH.nil)
              focus
                rw [if_pos (by rfl)]
                refine wp_store_mid _ _ _ rfl _ 0 xs.toArray rfl rfl (k3.there xs hlx) hix (all_oneCell_toArray hox) ?_
                refine hK.out _ _ (HSX.out _ (k3.fill xs hlx).x.1 (k3.fill xs hlx).old) (fun hHeld => ?_)
                clear hK K
                try simp only [Act.put, List.setIfInBounds_toArray, List.set_cons_zero, List.set_cons_succ]
                refine wpAnyH_take (i := 38) (oi := _) (v := ?_) rfl (by as_aux_lemma => kernel_rfl) (by as_aux_lemma => kernel_rfl) (by as_aux_lemma => kernel_rfl) (fun _ _ _ h => h) (Or.inl ⟨by rfl, ?_⟩) (by assumption) ?_
                rotate_left
                · (intro wS hSw; (try dsimp only at hSw); go_simp; try with_reducible rfl)
                try simp only [Act.put, List.setIfInBounds_toArray, List.set_cons_zero, List.set_cons_succ]
                refine wpAnyH_done (by as_aux_lemma => kernel_rfl) ?_ _
                go_wp2_with fail
                go_meet
                exact ⟨_, rfl, rfl, Lib.hid ⟨k3.fill xs hlx, k3.ne, k3.ge⟩⟩
        focus
          go_simp
          have k1 := TwB.new HKX.out hd
          try simp only [World.size_alloc] at k1
          refine hK.out _ _ (HSX.out _ k1.x k1.old) (fun hHeld => ?_)
          clear hK K
          try simp only [Act.put, List.setIfInBounds_toArray, List.set_cons_zero, List.set_cons_succ]
          refine wpAnyH_ready (rs := [21]) (by as_aux_lemma => kernel_rfl) (by simp) ?_
          refine (AllReadyH.cons (o := _) rfl (fun K hK => ?_) AllReadyH.nil)
          focus
            go_simp
            refine (KD.out _).mono ?_
            rintro e wx1 ⟨rfl, hbx1⟩
            have k2 := k1.below hbx1
            refine hK.out _ _ (HSX.out _ k2.x k2.old) (fun hHeld => ?_)
            clear hK K
            try simp only [Act.put, List.setIfInBounds_toArray, List.set_cons_zero, List.set_cons_succ]
            refine wpAnyH_ready (rs := [32]) (by as_aux_lemma => kernel_rfl) (by simp) ?_
            refine (AllReadyH.cons (o := _) rfl (fun K hK => ?_) AllReadyH.nil)
            focus
              go_simp
              refine (k2.call (fun D' X' hK' h' => KX1.out D' X' hK' _ h')).mono ?_
              rintro e wx3 ⟨rfl, k3⟩
              refine hK.out _ _ (HSX.out _ k3.x k3.old) (fun hHeld => ?_)
              clear hK K
              try simp only [Act.put, List.setIfInBounds_toArray, List.set_cons_zero, List.set_cons_succ]
              refine wpAnyH_take (i := 33) (oi := _) (v := ?_) rfl (by as_aux_lemma => kernel_rfl) (by as_aux_lemma => kernel_rfl) (by as_aux_lemma => kernel_rfl) (fun _ _ _ h => h) (Or.inl ⟨by rfl, ?_⟩) (by assumption) ?_
              rotate_left
              · (intro wS hSw; (try dsimp only at hSw); go_simp; try with_reducible rfl)
              try simp only [Act.put, List.setIfInBounds_toArray, List.set_cons_zero, List.set_cons_succ]
              refine wpAnyH_take (i := 34) (oi := _) (v := ?_) rfl (by as_aux_lemma => kernel_rfl) (by as_aux_lemma => kernel_rfl) (by as_aux_lemma => kernel_rfl) (fun _ _ _ h => h) (Or.inl ⟨by rfl, ?_⟩) (by assumption) ?_
              rotate_left
              · (intro wS hSw; (try dsimp only at hSw); go_simp; try with_reducible rfl)
              try simp only [Act.put, List.setIfInBounds_toArray, List.set_cons_zero, List.set_cons_succ]
              refine wpAnyH_take (i := 35) (oi := _) (v := ?_) rfl (by as_aux_lemma => kernel_rfl) (by as_aux_lemma => kernel_rfl) (by as_aux_lemma => kernel_rfl) (fun _ _ _ h => h) (Or.inl ⟨by rfl, ?_⟩) (by assumption) ?_
              rotate_left
              · (intro wS hSw; (try dsimp only at hSw); go_simp; try with_reducible rfl)
              try simp only [Act.put, List.setIfInBounds_toArray, List.set_cons_zero, List.set_cons_succ]
              refine wpAnyH_ready (rs := [37]) (by as_aux_lemma => kernel_rfl) (by simp) ?_
              refine (AllReadyH.cons (o := _) rfl (fun K hK => ?_) AllReadyH.nil)
              focus
                rw [if_pos (by rfl)]
                refine wp_store_mid _ _ _ rfl _ 0 xs.toArray rfl rfl (k3.there xs hlx) hix (all_oneCell_toArray hox) ?_
                refine hK.out _ _ (HSX.out _ (k3.fill xs hlx).x.1 (k3.fill xs hlx).old) (fun hHeld => ?_)
                clear hK K
                try simp only [Act.put, List.setIfInBounds_toArray, List.set_cons_zero, List.set_cons_succ]
                refine wpAnyH_take (i := 38) (oi := _) (v := ?_) rfl (by as_aux_lemma => kernel_rfl) (by as_aux_lemma => kernel_rfl) (by as_aux_lemma => kernel_rfl) (fun _ _ _ h => h) (Or.inl ⟨by rfl, ?_⟩) (by assumption) ?_
                rotate_left
                · (intro wS hSw; (try dsimp only at hSw); go_simp; try with_reducible rfl)
                try simp only [Act.put, List.setIfInBounds_toArray, List.set_cons_zero, List.set_cons_succ]
                refine wpAnyH_done (by as_aux_lemma => kernel_rfl) ?_ _
                go_wp2_with fail
                go_meet
                exact ⟨_, rfl, rfl, Lib.hid ⟨k3.fill xs hlx, k3.ne, k3.ge⟩⟩
      case rest =>
      obtain ⟨V, rfl, rfl, HV⟩ := hcut
      generalize wc = wz at *
      have hd := HV.out.1.below (keeps_and keeps_true (keeps_blk V xs.toArray 66)) ((Below.refl _ _).drew)
      have HKX := Lib.hid (keeps_and keeps_true (keeps_blk V xs.toArray 66))
      have HSX : Hid (∀ w', (True ∧ Blk w' V xs.toArray 66) → Below w5.heap.size w5 w' → w'.cell? ⟨b, off + k * 6, none⟩ = some (.int .i64 xo) ∧ w'.cell? ⟨b, off + k * 6 + 1, none⟩ = some (.int .u64 xi) ∧ w'.cell? ⟨b, off + k * 6 + 2, none⟩ = some (.int .i64 xa) ∧ w'.cell? ⟨b, off + k * 6 + 3, none⟩ = some (.int .u64 xn) ∧ w'.cell? ⟨b, off + k * 6 + 4, none⟩ = some (.int .i64 xf) ∧ w'.cell? ⟨b, off + k * 6 + 5, none⟩ = some (.int .i64 xt)) := Lib.hid fun w' _ h => HLC.out w' h
      clear HV KX1
      go_upto_region 20 with fail
      go_cut [27, 28] (fun bv tv wx => ∃ V2 : Nat, bv = .pointer (some ⟨V2, 0, none⟩) ∧ tv = .bool tb ∧ Hid (TwR w5 wx P c g ⟨X2.M, X2.over, X2.ids, S.oy, S.jy, Z2⟩ (fun k => (False ∨ k = V) ∨ k = V2) (fun w => (True ∧ Blk w V xs.toArray 66) ∧ Blk w V2 xs.toArray 66) ∧ (∀ k, (False ∨ k = V) → k ≠ V2) ∧ w5.heap.size ≤ V2))
      case first =>
        refine wp_region_held_drew (S := (fun w' => w'.cell? ⟨b, off + k * 6, none⟩ = some (.int .i64 xo) ∧ w'.cell? ⟨b, off + k * 6 + 1, none⟩ = some (.int .u64 xi) ∧ w'.cell? ⟨b, off + k * 6 + 2, none⟩ = some (.int .i64 xa) ∧ w'.cell? ⟨b, off + k * 6 + 3, none⟩ = some (.int .u64 xn) ∧ w'.cell? ⟨b, off + k * 6 + 4, none⟩ = some (.int .i64 xf) ∧ w'.cell? ⟨b, off + k * 6 + 5, none⟩ = some (.int .i64 xt))) (by as_aux_lemma => kernel_rfl) (HSX.out _ hd.x hd.old) (fun hHeld => ?_)
        refine wpAnyH_take (i := 0) (oi := _) (v := ?_) rfl (by as_aux_lemma => kernel_rfl) (by as_aux_lemma => kernel_rfl) (by as_aux_lemma => kernel_rfl) (fun _ _ _ h => h) (Or.inl ⟨by rfl, ?_⟩) (by assumption) ?_
        rotate_left
        · (intro wS hSw; (try dsimp only at hSw); go_simp; try with_reducible rfl)
        try simp only [Act.put, List.setIfInBounds_toArray, List.set_cons_zero, List.set_cons_succ]
        refine wpAnyH_take (i := 1) (oi := _) (v := ?_) rfl (by as_aux_lemma => kernel_rfl) (by as_aux_lemma => kernel_rfl) (by as_aux_lemma => kernel_rfl) (fun _ _ _ h => h) (Or.inl ⟨by rfl, ?_⟩) (by assumption) ?_
        rotate_left
        · (intro wS hSw; (try dsimp only at hSw); go_simp; try with_reducible rfl)
        try simp only [Act.put, List.setIfInBounds_toArray, List.set_cons_zero, List.set_cons_succ]
        refine wpAnyH_take (i := 2) (oi := _) (v := ?_) rfl (by as_aux_lemma => kernel_rfl) (by as_aux_lemma => kernel_rfl) (by as_aux_lemma => kernel_rfl) (fun _ _ _ h => h) (Or.inl ⟨by rfl, ?_⟩) (by assumption) ?_
        rotate_left
        · (intro wS hSw; (try dsimp only at hSw); go_simp; try with_reducible rfl)
        try simp only [Act.put, List.setIfInBounds_toArray, List.set_cons_zero, List.set_cons_succ]
        refine wpAnyH_take (i := 3) (oi := _) (v := ?_) rfl (by as_aux_lemma => kernel_rfl) (by as_aux_lemma => kernel_rfl) (by as_aux_lemma => kernel_rfl) (fun _ _ _ h => h) (Or.inl ⟨by rfl, ?_⟩) (by assumption) ?_
        rotate_left
        · (intro wS hSw; (try dsimp only at hSw); go_simp; try with_reducible rfl)
        try simp only [Act.put, List.setIfInBounds_toArray, List.set_cons_zero, List.set_cons_succ]
        refine wpAnyH_take (i := 4) (oi := _) (v := ?_) rfl (by as_aux_lemma => kernel_rfl) (by as_aux_lemma => kernel_rfl) (by as_aux_lemma => kernel_rfl) (fun _ _ _ h => h) (Or.inl ⟨by rfl, ?_⟩) (by assumption) ?_
        rotate_left
        · (intro wS hSw; (try dsimp only at hSw); go_simp; try with_reducible rfl)
        try simp only [Act.put, List.setIfInBounds_toArray, List.set_cons_zero, List.set_cons_succ]
        refine wpAnyH_take (i := 5) (oi := _) (v := ?_) rfl (by as_aux_lemma => kernel_rfl) (by as_aux_lemma => kernel_rfl) (by as_aux_lemma => kernel_rfl) (fun _ _ _ h => h) (Or.inl ⟨by rfl, ?_⟩) (by assumption) ?_
        rotate_left
        · (intro wS hSw; (try dsimp only at hSw); go_simp; try with_reducible rfl)
        try simp only [Act.put, List.setIfInBounds_toArray, List.set_cons_zero, List.set_cons_succ]
        refine wpAnyH_take (i := 6) (oi := _) (v := ?_) rfl (by as_aux_lemma => kernel_rfl) (by as_aux_lemma => kernel_rfl) (by as_aux_lemma => kernel_rfl) (fun _ _ _ h => h) (Or.inl ⟨by rfl, ?_⟩) (by assumption) ?_
        rotate_left
        · (intro wS hSw; (try dsimp only at hSw); go_simp; try with_reducible rfl)
        try simp only [Act.put, List.setIfInBounds_toArray, List.set_cons_zero, List.set_cons_succ]
        refine wpAnyH_take (i := 7) (oi := _) (v := ?_) rfl (by as_aux_lemma => kernel_rfl) (by as_aux_lemma => kernel_rfl) (by as_aux_lemma => kernel_rfl) (fun _ _ _ h => h) (Or.inl ⟨by rfl, ?_⟩) (by assumption) ?_
        rotate_left
        · (intro wS hSw; (try dsimp only at hSw); go_simp; try with_reducible rfl)
        try simp only [Act.put, List.setIfInBounds_toArray, List.set_cons_zero, List.set_cons_succ]
        refine wpAnyH_take (i := 8) (oi := _) (v := ?_) rfl (by as_aux_lemma => kernel_rfl) (by as_aux_lemma => kernel_rfl) (by as_aux_lemma => kernel_rfl) (fun _ _ _ h => h) (Or.inl ⟨by rfl, ?_⟩) (by assumption) ?_
        rotate_left
        · (intro wS hSw; (try dsimp only at hSw); go_simp; try with_reducible rfl)
        try simp only [Act.put, List.setIfInBounds_toArray, List.set_cons_zero, List.set_cons_succ]
        refine wpAnyH_take (i := 9) (oi := _) (v := ?_) rfl (by as_aux_lemma => kernel_rfl) (by as_aux_lemma => kernel_rfl) (by as_aux_lemma => kernel_rfl) (fun _ _ _ h => h) (Or.inl ⟨by rfl, ?_⟩) (by assumption) ?_
        rotate_left
        · (intro wS hSw; (try dsimp only at hSw); go_simp; try with_reducible rfl)
        try simp only [Act.put, List.setIfInBounds_toArray, List.set_cons_zero, List.set_cons_succ]
        refine wpAnyH_take (i := 10) (oi := _) (v := ?_) rfl (by as_aux_lemma => kernel_rfl) (by as_aux_lemma => kernel_rfl) (by as_aux_lemma => kernel_rfl) (fun _ _ _ h => h) (Or.inl ⟨by rfl, ?_⟩) (by assumption) ?_
        rotate_left
        · (intro wS hSw; (try dsimp only at hSw); go_simp; try with_reducible rfl)
        try simp only [Act.put, List.setIfInBounds_toArray, List.set_cons_zero, List.set_cons_succ]
        refine wpAnyH_take (i := 11) (oi := _) (v := ?_) rfl (by as_aux_lemma => kernel_rfl) (by as_aux_lemma => kernel_rfl) (by as_aux_lemma => kernel_rfl) (fun _ _ _ h => h) (Or.inl ⟨by rfl, ?_⟩) (by assumption) ?_
        rotate_left
        · (intro wS hSw; (try dsimp only at hSw); go_simp; try with_reducible rfl)
        try simp only [Act.put, List.setIfInBounds_toArray, List.set_cons_zero, List.set_cons_succ]
        refine wpAnyH_take (i := 12) (oi := _) (v := ?_) rfl (by as_aux_lemma => kernel_rfl) (by as_aux_lemma => kernel_rfl) (by as_aux_lemma => kernel_rfl) (fun _ _ _ h => h) (Or.inl ⟨by rfl, ?_⟩) (by assumption) ?_
        rotate_left
        · (intro wS hSw; (try dsimp only at hSw); go_simp; try with_reducible rfl)
        try simp only [Act.put, List.setIfInBounds_toArray, List.set_cons_zero, List.set_cons_succ]
        refine wpAnyH_take (i := 13) (oi := _) (v := ?_) rfl (by as_aux_lemma => kernel_rfl) (by as_aux_lemma => kernel_rfl) (by as_aux_lemma => kernel_rfl) (fun _ _ _ h => h) (Or.inl ⟨by rfl, ?_⟩) (by assumption) ?_
        rotate_left
        · (intro wS hSw; (try dsimp only at hSw); go_simp; try with_reducible rfl)
        try simp only [Act.put, List.setIfInBounds_toArray, List.set_cons_zero, List.set_cons_succ]
        refine wpAnyH_take (i := 14) (oi := _) (v := ?_) rfl (by as_aux_lemma => kernel_rfl) (by as_aux_lemma => kernel_rfl) (by as_aux_lemma => kernel_rfl) (fun _ _ _ h => h) (Or.inl ⟨by rfl, ?_⟩) (by assumption) ?_
        rotate_left
        · (intro wS hSw; (try dsimp only at hSw); go_simp; try with_reducible rfl)
        try simp only [Act.put, List.setIfInBounds_toArray, List.set_cons_zero, List.set_cons_succ]
        refine wpAnyH_take (i := 15) (oi := _) (v := ?_) rfl (by as_aux_lemma => kernel_rfl) (by as_aux_lemma => kernel_rfl) (by as_aux_lemma => kernel_rfl) (fun _ _ _ h => h) (Or.inl ⟨by rfl, ?_⟩) (by assumption) ?_
        rotate_left
        · (intro wS hSw; (try dsimp only at hSw); go_simp; try with_reducible rfl)
        try simp only [Act.put, List.setIfInBounds_toArray, List.set_cons_zero, List.set_cons_succ]
        refine wpAnyH_take (i := 16) (oi := _) (v := ?_) rfl (by as_aux_lemma => kernel_rfl) (by as_aux_lemma => kernel_rfl) (by as_aux_lemma => kernel_rfl) (fun _ _ _ h => h) (Or.inl ⟨by rfl, ?_⟩) (by assumption) ?_
        rotate_left
        · (intro wS hSw; (try dsimp only at hSw); go_simp; try with_reducible rfl)
        try simp only [Act.put, List.setIfInBounds_toArray, List.set_cons_zero, List.set_cons_succ]
        refine wpAnyH_take (i := 17) (oi := _) (v := ?_) rfl (by as_aux_lemma => kernel_rfl) (by as_aux_lemma => kernel_rfl) (by as_aux_lemma => kernel_rfl) (fun _ _ _ h => h) (Or.inl ⟨by rfl, ?_⟩) (by assumption) ?_
        rotate_left
        · (intro wS hSw; (try dsimp only at hSw); go_simp; try with_reducible rfl)
        try simp only [Act.put, List.setIfInBounds_toArray, List.set_cons_zero, List.set_cons_succ]
        refine wpAnyH_take (i := 18) (oi := _) (v := ?_) rfl (by as_aux_lemma => kernel_rfl) (by as_aux_lemma => kernel_rfl) (by as_aux_lemma => kernel_rfl) (fun _ _ _ h => h) (Or.inl ⟨by rfl, ?_⟩) (by assumption) ?_
        rotate_left
        · (intro wS hSw; (try dsimp only at hSw); go_simp; try with_reducible rfl)
        try simp only [Act.put, List.setIfInBounds_toArray, List.set_cons_zero, List.set_cons_succ]
        refine wpAnyH_take (i := 19) (oi := _) (v := ?_) rfl (by as_aux_lemma => kernel_rfl) (by as_aux_lemma => kernel_rfl) (by as_aux_lemma => kernel_rfl) (fun _ _ _ h => h) (Or.inl ⟨by rfl, ?_⟩) (by assumption) ?_
        rotate_left
        · (intro wS hSw; (try dsimp only at hSw); go_simp; try with_reducible rfl)
        try simp only [Act.put, List.setIfInBounds_toArray, List.set_cons_zero, List.set_cons_succ]
        refine wpAnyH_take (i := 20) (oi := _) (v := ?_) rfl (by as_aux_lemma => kernel_rfl) (by as_aux_lemma => kernel_rfl) (by as_aux_lemma => kernel_rfl) (fun _ _ _ h => h) (Or.inl ⟨by rfl, ?_⟩) (by assumption) ?_
        rotate_left
        · (intro wS hSw; (try dsimp only at hSw); go_simp; try with_reducible rfl)
        try simp only [Act.put, List.setIfInBounds_toArray, List.set_cons_zero, List.set_cons_succ]
        refine wpAnyH_take (i := 22) (oi := _) (v := ?_) rfl (by as_aux_lemma => kernel_rfl) (by as_aux_lemma => kernel_rfl) (by as_aux_lemma => kernel_rfl) (fun _ _ _ h => h) (Or.inl ⟨by rfl, ?_⟩) (by assumption) ?_
        rotate_left
        · (intro wS hSw; (try dsimp only at hSw); go_simp; try with_reducible rfl)
        try simp only [Act.put, List.setIfInBounds_toArray, List.set_cons_zero, List.set_cons_succ]
        refine wpAnyH_take (i := 23) (oi := _) (v := ?_) rfl (by as_aux_lemma => kernel_rfl) (by as_aux_lemma => kernel_rfl) (by as_aux_lemma => kernel_rfl) (fun _ _ _ h => h) (Or.inl ⟨by rfl, ?_⟩) (by assumption) ?_
        rotate_left
        · (intro wS hSw; (try dsimp only at hSw); go_simp; try with_reducible rfl)
        try simp only [Act.put, List.setIfInBounds_toArray, List.set_cons_zero, List.set_cons_succ]
        refine wpAnyH_take (i := 24) (oi := _) (v := ?_) rfl (by as_aux_lemma => kernel_rfl) (by as_aux_lemma => kernel_rfl) (by as_aux_lemma => kernel_rfl) (fun _ _ _ h => h) (Or.inl ⟨by rfl, ?_⟩) (by assumption) ?_
        rotate_left
        · (intro wS hSw; (try dsimp only at hSw); go_simp; try with_reducible rfl)
        try simp only [Act.put, List.setIfInBounds_toArray, List.set_cons_zero, List.set_cons_succ]
        refine wpAnyH_take (i := 25) (oi := _) (v := ?_) rfl (by as_aux_lemma => kernel_rfl) (by as_aux_lemma => kernel_rfl) (by as_aux_lemma => kernel_rfl) (fun _ _ _ h => h) (Or.inl ⟨by rfl, ?_⟩) (by assumption) ?_
        rotate_left
        · (intro wS hSw; (try dsimp only at hSw); go_simp; try with_reducible rfl)
        try simp only [Act.put, List.setIfInBounds_toArray, List.set_cons_zero, List.set_cons_succ]
        refine wpAnyH_take (i := 26) (oi := _) (v := ?_) rfl (by as_aux_lemma => kernel_rfl) (by as_aux_lemma => kernel_rfl) (by as_aux_lemma => kernel_rfl) (fun _ _ _ h => h) (Or.inl ⟨by rfl, ?_⟩) (by assumption) ?_
        rotate_left
        · (intro wS hSw; (try dsimp only at hSw); go_simp; try with_reducible rfl)
        try simp only [Act.put, List.setIfInBounds_toArray, List.set_cons_zero, List.set_cons_succ]
        refine wpAnyH_take (i := 27) (oi := _) (v := ?_) rfl (by as_aux_lemma => kernel_rfl) (by as_aux_lemma => kernel_rfl) (by as_aux_lemma => kernel_rfl) (fun _ _ _ h => h) (Or.inl ⟨by rfl, ?_⟩) (by assumption) ?_
        rotate_left
        · (intro wS hSw; (try dsimp only at hSw); go_simp; try with_reducible rfl)
        try simp only [Act.put, List.setIfInBounds_toArray, List.set_cons_zero, List.set_cons_succ]
        refine wpAnyH_take (i := 28) (oi := _) (v := ?_) rfl (by as_aux_lemma => kernel_rfl) (by as_aux_lemma => kernel_rfl) (by as_aux_lemma => kernel_rfl) (fun _ _ _ h => h) (Or.inl ⟨by rfl, ?_⟩) (by assumption) ?_
        rotate_left
        · (intro wS hSw; (try dsimp only at hSw); go_simp; try with_reducible rfl)
        try simp only [Act.put, List.setIfInBounds_toArray, List.set_cons_zero, List.set_cons_succ]
        refine wpAnyH_take (i := 29) (oi := _) (v := ?_) rfl (by as_aux_lemma => kernel_rfl) (by as_aux_lemma => kernel_rfl) (by as_aux_lemma => kernel_rfl) (fun _ _ _ h => h) (Or.inl ⟨by rfl, ?_⟩) (by assumption) ?_
        rotate_left
        · (intro wS hSw; (try dsimp only at hSw); go_simp; try with_reducible rfl)
        try simp only [Act.put, List.setIfInBounds_toArray, List.set_cons_zero, List.set_cons_succ]
        refine wpAnyH_take (i := 30) (oi := _) (v := ?_) rfl (by as_aux_lemma => kernel_rfl) (by as_aux_lemma => kernel_rfl) (by as_aux_lemma => kernel_rfl) (fun _ _ _ h => h) (Or.inl ⟨by rfl, ?_⟩) (by assumption) ?_
        rotate_left
        · (intro wS hSw; (try dsimp only at hSw); go_simp; try with_reducible rfl)
        try simp only [Act.put, List.setIfInBounds_toArray, List.set_cons_zero, List.set_cons_succ]
        refine wpAnyH_take (i := 31) (oi := _) (v := ?_) rfl (by as_aux_lemma => kernel_rfl) (by as_aux_lemma => kernel_rfl) (by as_aux_lemma => kernel_rfl) (fun _ _ _ h => h) (Or.inl ⟨by rfl, ?_⟩) (by assumption) ?_
        rotate_left
        · (intro wS hSw; (try dsimp only at hSw); go_simp; try with_reducible rfl)
        try simp only [Act.put, List.setIfInBounds_toArray, List.set_cons_zero, List.set_cons_succ]
        refine wpAnyH_ready (rs := [21, 36]) (by as_aux_lemma => kernel_rfl) (by simp) ?_
        refine (AllReadyH.cons (o := _) rfl (fun K hK => ?_) (AllReadyH.cons (o := _) rfl (fun K hK => ?_) AllReadyH.nil))
        focus
          go_simp
          refine (KD.out _).mono ?_
          rintro e wx1 ⟨rfl, hbx1⟩
          have k1 := hd.below HKX.out hbx1
          refine hK.out _ _ (HSX.out _ k1.x k1.old) (fun hHeld => ?_)
          clear hK K
          try simp only [Act.put, List.setIfInBounds_toArray, List.set_cons_zero, List.set_cons_succ]
          refine wpAnyH_ready (rs := [32, 36]) (by as_aux_lemma => kernel_rfl) (by simp) ?_
          refine (AllReadyH.cons (o := _) rfl (fun K hK => ?_) (AllReadyH.cons (o := _) rfl (fun K hK => ?_) AllReadyH.nil))
          focus
            go_simp
            refine (KZ1.out _ _ HKX.out _ k1).mono ?_
            rintro e wx2 ⟨rfl, k2⟩
            refine hK.out _ _ (HSX.out _ k2.x k2.old) (fun hHeld => ?_)
            clear hK K
            try simp only [Act.put, List.setIfInBounds_toArray, List.set_cons_zero, List.set_cons_succ]
            refine wpAnyH_take (i := 33) (oi := _) (v := ?_) rfl (by as_aux_lemma => kernel_rfl) (by as_aux_lemma => kernel_rfl) (by as_aux_lemma => kernel_rfl) (fun _ _ _ h => h) (Or.inl ⟨by rfl, ?_⟩) (by assumption) ?_
            rotate_left
            · (intro wS hSw; (try dsimp only at hSw); go_simp; try with_reducible rfl)
            try simp only [Act.put, List.setIfInBounds_toArray, List.set_cons_zero, List.set_cons_succ]
            refine wpAnyH_take (i := 34) (oi := _) (v := ?_) rfl (by as_aux_lemma => kernel_rfl) (by as_aux_lemma => kernel_rfl) (by as_aux_lemma => kernel_rfl) (fun _ _ _ h => h) (Or.inl ⟨by rfl, ?_⟩) (by assumption) ?_
            rotate_left
            · (intro wS hSw; (try dsimp only at hSw); go_simp; try with_reducible rfl)
            try simp only [Act.put, List.setIfInBounds_toArray, List.set_cons_zero, List.set_cons_succ]
            refine wpAnyH_take (i := 35) (oi := _) (v := ?_) rfl (by as_aux_lemma => kernel_rfl) (by as_aux_lemma => kernel_rfl) (by as_aux_lemma => kernel_rfl) (fun _ _ _ h => h) (Or.inl ⟨by rfl, ?_⟩) (by assumption) ?_
            rotate_left
            · (intro wS hSw; (try dsimp only at hSw); go_simp; try with_reducible rfl)
            try simp only [Act.put, List.setIfInBounds_toArray, List.set_cons_zero, List.set_cons_succ]
            refine wpAnyH_ready (rs := [36]) (by as_aux_lemma => kernel_rfl) (by simp) ?_
            refine (AllReadyH.cons (o := _) rfl (fun K hK => ?_) AllReadyH.nil)
            focus
              go_simp
              have k3 := TwB.new HKX.out k2
              try simp only [World.size_alloc] at k3
              refine hK.out _ _ (HSX.out _ k3.x k3.old) (fun hHeld => ?_)
              clear hK K
              try simp only [Act.put, List.setIfInBounds_toArray, List.set_cons_zero, List.set_cons_succ]
              refine wpAnyH_ready (rs := [37]) (by as_aux_lemma => kernel_rfl) (by simp) ?_
              refine (AllReadyH.cons (o := _) rfl (fun K hK => ?_) AllReadyH.nil)
              focus
                rw [if_pos (by rfl)]
                refine wp_store_mid _ _ _ rfl _ 0 xs.toArray rfl rfl (k3.there xs hlx) hix (all_oneCell_toArray hox) ?_
                refine hK.out _ _ (HSX.out _ (k3.fill xs hlx).x.1 (k3.fill xs hlx).old) (fun hHeld => ?_)
                clear hK K
                try simp only [Act.put, List.setIfInBounds_toArray, List.set_cons_zero, List.set_cons_succ]
                refine wpAnyH_take (i := 38) (oi := _) (v := ?_) rfl (by as_aux_lemma => kernel_rfl) (by as_aux_lemma => kernel_rfl) (by as_aux_lemma => kernel_rfl) (fun _ _ _ h => h) (Or.inl ⟨by rfl, ?_⟩) (by assumption) ?_
                rotate_left
                · (intro wS hSw; (try dsimp only at hSw); go_simp; try with_reducible rfl)
                try simp only [Act.put, List.setIfInBounds_toArray, List.set_cons_zero, List.set_cons_succ]
                refine wpAnyH_done (by as_aux_lemma => kernel_rfl) ?_ _
                go_wp2_with fail
                go_meet
                exact ⟨_, rfl, rfl, Lib.hid ⟨k3.fill xs hlx, k3.ne, k3.ge⟩⟩
          focus
            go_simp
            have k2 := TwB.new HKX.out k1
            try simp only [World.size_alloc] at k2
            refine hK.out _ _ (HSX.out _ k2.x k2.old) (fun hHeld => ?_)
            clear hK K
            try simp only [Act.put, List.setIfInBounds_toArray, List.set_cons_zero, List.set_cons_succ]
            refine wpAnyH_ready (rs := [32]) (by as_aux_lemma => kernel_rfl) (by simp) ?_
            refine (AllReadyH.cons (o := _) rfl (fun K hK => ?_) AllReadyH.nil)
            focus
              go_simp
              refine (k2.call (fun D' X' hK' h' => KZ1.out D' X' hK' _ h')).mono ?_
              rintro e wx3 ⟨rfl, k3⟩
              refine hK.out _ _ (HSX.out _ k3.x k3.old) (fun hHeld => ?_)
              clear hK K
              try simp only [Act.put, List.setIfInBounds_toArray, List.set_cons_zero, List.set_cons_succ]
              refine wpAnyH_take (i := 33) (oi := _) (v := ?_) rfl (by as_aux_lemma => kernel_rfl) (by as_aux_lemma => kernel_rfl) (by as_aux_lemma => kernel_rfl) (fun _ _ _ h => h) (Or.inl ⟨by rfl, ?_⟩) (by assumption) ?_
              rotate_left
              · (intro wS hSw; (try dsimp only at hSw); go_simp; try with_reducible rfl)
              try simp only [Act.put, List.setIfInBounds_toArray, List.set_cons_zero, List.set_cons_succ]
              refine wpAnyH_take (i := 34) (oi := _) (v := ?_) rfl (by as_aux_lemma => kernel_rfl) (by as_aux_lemma => kernel_rfl) (by as_aux_lemma => kernel_rfl) (fun _ _ _ h => h) (Or.inl ⟨by rfl, ?_⟩) (by assumption) ?_
              rotate_left
              · (intro wS hSw; (try dsimp only at hSw); go_simp; try with_reducible rfl)
              try simp only [Act.put, List.setIfInBounds_toArray, List.set_cons_zero, List.set_cons_succ]
              refine wpAnyH_take (i := 35) (oi := _) (v := ?_) rfl (by as_aux_lemma => kernel_rfl) (by as_aux_lemma => kernel_rfl) (by as_aux_lemma => kernel_rfl) (fun _ _ _ h => h) (Or.inl ⟨by rfl, ?_⟩) (by assumption) ?_
              rotate_left
              · (intro wS hSw; (try dsimp only at hSw); go_simp; try with_reducible rfl)
              try simp only [Act.put, List.setIfInBounds_toArray, List.set_cons_zero, List.set_cons_succ]
              refine wpAnyH_ready (rs := [37]) (by as_aux_lemma => kernel_rfl) (by simp) ?_
              refine (AllReadyH.cons (o := _) rfl (fun K hK => ?_) AllReadyH.nil)
              focus
                rw [if_pos (by rfl)]
                refine wp_store_mid _ _ _ rfl _ 0 xs.toArray rfl rfl (k3.there xs hlx) hix (all_oneCell_toArray hox) ?_
                refine hK.out _ _ (HSX.out _ (k3.fill xs hlx).x.1 (k3.fill xs hlx).old) (fun hHeld => ?_)
                clear hK K
                try simp only [Act.put, List.setIfInBounds_toArray, List.set_cons_zero, List.set_cons_succ]
                refine wpAnyH_take (i := 38) (oi := _) (v := ?_) rfl (by as_aux_lemma => kernel_rfl) (by as_aux_lemma => kernel_rfl) (by as_aux_lemma => kernel_rfl) (fun _ _ _ h => h) (Or.inl ⟨by rfl, ?_⟩) (by assumption) ?_
                rotate_left
                · (intro wS hSw; (try dsimp only at hSw); go_simp; try with_reducible rfl)
                try simp only [Act.put, List.setIfInBounds_toArray, List.set_cons_zero, List.set_cons_succ]
                refine wpAnyH_done (by as_aux_lemma => kernel_rfl) ?_ _
                go_wp2_with fail
                go_meet
                exact ⟨_, rfl, rfl, Lib.hid ⟨k3.fill xs hlx, k3.ne, k3.ge⟩⟩
        focus
          go_simp
          have k1 := TwB.new HKX.out hd
          try simp only [World.size_alloc] at k1
          refine hK.out _ _ (HSX.out _ k1.x k1.old) (fun hHeld => ?_)
          clear hK K
          try simp only [Act.put, List.setIfInBounds_toArray, List.set_cons_zero, List.set_cons_succ]
          refine wpAnyH_ready (rs := [21]) (by as_aux_lemma => kernel_rfl) (by simp) ?_
          refine (AllReadyH.cons (o := _) rfl (fun K hK => ?_) AllReadyH.nil)
          focus
            go_simp
            refine (KD.out _).mono ?_
            rintro e wx1 ⟨rfl, hbx1⟩
            have k2 := k1.below hbx1
            refine hK.out _ _ (HSX.out _ k2.x k2.old) (fun hHeld => ?_)
            clear hK K
            try simp only [Act.put, List.setIfInBounds_toArray, List.set_cons_zero, List.set_cons_succ]
            refine wpAnyH_ready (rs := [32]) (by as_aux_lemma => kernel_rfl) (by simp) ?_
            refine (AllReadyH.cons (o := _) rfl (fun K hK => ?_) AllReadyH.nil)
            focus
              go_simp
              refine (k2.call (fun D' X' hK' h' => KZ1.out D' X' hK' _ h')).mono ?_
              rintro e wx3 ⟨rfl, k3⟩
              refine hK.out _ _ (HSX.out _ k3.x k3.old) (fun hHeld => ?_)
              clear hK K
              try simp only [Act.put, List.setIfInBounds_toArray, List.set_cons_zero, List.set_cons_succ]
              refine wpAnyH_take (i := 33) (oi := _) (v := ?_) rfl (by as_aux_lemma => kernel_rfl) (by as_aux_lemma => kernel_rfl) (by as_aux_lemma => kernel_rfl) (fun _ _ _ h => h) (Or.inl ⟨by rfl, ?_⟩) (by assumption) ?_
              rotate_left
              · (intro wS hSw; (try dsimp only at hSw); go_simp; try with_reducible rfl)
              try simp only [Act.put, List.setIfInBounds_toArray, List.set_cons_zero, List.set_cons_succ]
              refine wpAnyH_take (i := 34) (oi := _) (v := ?_) rfl (by as_aux_lemma => kernel_rfl) (by as_aux_lemma => kernel_rfl) (by as_aux_lemma => kernel_rfl) (fun _ _ _ h => h) (Or.inl ⟨by rfl, ?_⟩) (by assumption) ?_
              rotate_left
              · (intro wS hSw; (try dsimp only at hSw); go_simp; try with_reducible rfl)
              try simp only [Act.put, List.setIfInBounds_toArray, List.set_cons_zero, List.set_cons_succ]
              refine wpAnyH_take (i := 35) (oi := _) (v := ?_) rfl (by as_aux_lemma => kernel_rfl) (by as_aux_lemma => kernel_rfl) (by as_aux_lemma => kernel_rfl) (fun _ _ _ h => h) (Or.inl ⟨by rfl, ?_⟩) (by assumption) ?_
              rotate_left
              · (intro wS hSw; (try dsimp only at hSw); go_simp; try with_reducible rfl)
              try simp only [Act.put, List.setIfInBounds_toArray, List.set_cons_zero, List.set_cons_succ]
              refine wpAnyH_ready (rs := [37]) (by as_aux_lemma => kernel_rfl) (by simp) ?_
              refine (AllReadyH.cons (o := _) rfl (fun K hK => ?_) AllReadyH.nil)
              focus
                rw [if_pos (by rfl)]
                refine wp_store_mid _ _ _ rfl _ 0 xs.toArray rfl rfl (k3.there xs hlx) hix (all_oneCell_toArray hox) ?_
                refine hK.out _ _ (HSX.out _ (k3.fill xs hlx).x.1 (k3.fill xs hlx).old) (fun hHeld => ?_)
                clear hK K
                try simp only [Act.put, List.setIfInBounds_toArray, List.set_cons_zero, List.set_cons_succ]
                refine wpAnyH_take (i := 38) (oi := _) (v := ?_) rfl (by as_aux_lemma => kernel_rfl) (by as_aux_lemma => kernel_rfl) (by as_aux_lemma => kernel_rfl) (fun _ _ _ h => h) (Or.inl ⟨by rfl, ?_⟩) (by assumption) ?_
                rotate_left
                · (intro wS hSw; (try dsimp only at hSw); go_simp; try with_reducible rfl)
                try simp only [Act.put, List.setIfInBounds_toArray, List.set_cons_zero, List.set_cons_succ]
                refine wpAnyH_done (by as_aux_lemma => kernel_rfl) ?_ _
                go_wp2_with fail
                go_meet
                exact ⟨_, rfl, rfl, Lib.hid ⟨k3.fill xs hlx, k3.ne, k3.ge⟩⟩
      case rest =>
      obtain ⟨V2, rfl, rfl, HV2⟩ := hcut
      generalize wc = wy at *
      have HK2 := Lib.hid (keeps_and (keeps_and keeps_true (keeps_blk V xs.toArray 66)) (keeps_blk V2 xs.toArray 66))
      have HT2 := Lib.hid HV2.out.1
      have hd := HT2.out.below HK2.out ((Below.refl _ _).drew)
      clear HV2 HSX HKX KZ1 KD
      obtain ⟨e0, e1, e2, e3, e4, e5⟩ := HLC.out _ HT2.out.old
      have hxn1 := HXN.out
      go_wp2_with fail
      go_region_held3 (fun w' => w'.cell? ⟨b, off + k * 6, none⟩ = some (.int .i64 xo) ∧ w'.cell? ⟨b, off + k * 6 + 1, none⟩ = some (.int .u64 xi) ∧ w'.cell? ⟨b, off + k * 6 + 2, none⟩ = some (.int .i64 xa) ∧ w'.cell? ⟨b, off + k * 6 + 3, none⟩ = some (.int .u64 xn) ∧ w'.cell? ⟨b, off + k * 6 + 4, none⟩ = some (.int .i64 xf) ∧ w'.cell? ⟨b, off + k * 6 + 5, none⟩ = some (.int .i64 xt)) (first | exact HLC.out _ hd.old | exact HLC.out _ hd2.old | exact HLC.out _ hLy.old) (first
        | (go_at_call 34; with_reducible refine (KD1.out _).mono ?_; rintro e wx ⟨rfl, hbx⟩; have hd2 := hd.below HK2.out hbx)
        | (go_at_call 33; with_reducible refine (KY1.out _ _ HK2.out _ hd2).mono ?_; rintro e wu ⟨rfl, hLy⟩))
      all_goals
        have HT3 := Lib.hid hLy
        clear hLy hd2 hd HT2 KY1 KD1 e0 e1 e2 e3 e4 e5 hbx hxn1
        obtain ⟨ov, hov⟩ : ∃ ov, X2.over = ov := ⟨_, rfl⟩
        obtain ⟨cn, hcn⟩ : ∃ cn, cntL X2.ids = cn := ⟨_, rfl⟩
        have KO1 : Hid (∀ w', TwR w5 w' P c g ⟨Y2.M, X2.over, X2.ids, Y2.over, Y2.ids, Z2⟩ (fun k => (False ∨ k = V) ∨ k = V2) (fun w => (True ∧ Blk w V xs.toArray 66) ∧ Blk w V2 xs.toArray 66) → Calls Try.prog 35 #[.pointer (some ⟨qx, 0, none⟩)] w' (fun e w2 => e = .returned (.bool ov) ∧ w2 = w') ∧ Calls Try.prog 35 #[.pointer (some ⟨qz, 0, none⟩)] w' (fun e w2 => e = .returned (.bool ov) ∧ w2 = w') ∧ Calls Try.prog 36 #[.pointer (some ⟨qx, 0, none⟩)] w' (fun e w2 => e = .returned (.int .i64 cn) ∧ w2 = w') ∧ Calls Try.prog 36 #[.pointer (some ⟨qz, 0, none⟩)] w' (fun e w2 => e = .returned (.int .i64 cn) ∧ w2 = w')) := Lib.hid fun w' h => by
          have hx := h.pair.x.2
          have h1 := lOver_any P.p P.qx P.ix c 0 X2.over w' hx.1.1.1
          have h2 := lOver_any P.p2 P.qz P.iz c 1 Z2.over w' hx.2.1
          have h3 := lBlocks_any P.p P.qx P.ix c 0 X2.over X2.ids w' hx.1.1
          have h4 := lBlocks_any P.p2 P.qz P.iz c 1 Z2.over Z2.ids w' hx.2
          rw [HP.out.2.2.1, hov] at h1
          rw [HP.out.2.2.2.2, HQ2.out, hov] at h2
          rw [HP.out.2.2.1, hcn] at h3
          rw [HP.out.2.2.2.2, HQ3.out, hcn] at h4
          exact ⟨h1, h2, h3, h4⟩
        have nb : (tb != tb) = false := by cases tb <;> rfl
        have nv : (ov != ov) = false := by cases ov <;> rfl
        have nc : ((cn : Int) != (cn : Int)) = false := by simp
        have eqx := HEQ.out
        clear hov hcn
        go_wp2_with (first
          | (refine wpList_load_row rfl 66 (.tmp 25) rfl V rfl 66 xs.toArray (0, 0) _ HT3.out.x.1.2 Try.underlying66 rfl (by have := hix; simpa using this) ?_)
          | (refine wpList_load_row rfl 66 (.tmp 27) rfl V2 rfl 66 xs.toArray (0, 0) _ HT3.out.x.2 Try.underlying66 rfl (by have := hix; simpa using this) ?_)
          | fail)
        refine (KO1.out _ HT3.out).1.mono ?_
        rintro e v1 ⟨rfl, rfl⟩
        go_wp2_with fail
        refine (KO1.out _ HT3.out).2.1.mono ?_
        rintro e v2 ⟨rfl, rfl⟩
        go_wp2_with fail
        refine (KO1.out _ HT3.out).2.2.1.mono ?_
        rintro e v3 ⟨rfl, rfl⟩
        go_wp2_with fail
        refine (KO1.out _ HT3.out).2.2.2.mono ?_
        rintro e v4 ⟨rfl, rfl⟩
        have HTE := Lib.hid (HT3.out.less (E := fun _ => False) (Y := fun _ => True) (fun k hk => hk.elim) (fun _ _ => trivial))
        clear HT3 KO1 eqx
        go_wp2_with fail
        go_roundw
        case rel => exact ⟨k + 1, by omega, by go_num, Lib.hid ⟨_, HQ5.out, HTE.out⟩⟩
        case measure => simp [intOf]; omega
    · have hkl : k = l.length := by omega
      have g1 : decide ((k : Int) < (l.length : Int)) = false := decide_eq_false (by omega)
      have g1' : decide (k < l.length) = false := decide_eq_false hlt
      obtain ⟨S, hI, hL⟩ := HR.out
      have HBE := Lib.hid (HCC.out _ hL.old).2.2
      have KF := Lib.hid (one_fault hL.pair.left)
      rw [hI.fault, HP.out.1] at KF
      clear hI hL HR HTW HST
      go_wp2_with fail
      refine KF.out.mono ?_
      rintro e w20 ⟨rfl, rfl⟩
      go_wp2
      go_ret
      exact ⟨rfl, HBE.out⟩
end Go.Proofs.Ytiimdgdimjjboaa
