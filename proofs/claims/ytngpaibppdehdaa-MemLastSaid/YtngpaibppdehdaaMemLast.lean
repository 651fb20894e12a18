/-
  The walk of shellgamelaw3.MemLast.
-/
import Derived.Test.YtngpaibppdehdaaOne
import Derived.Deep.DeepCutAuto
namespace Go.Sg
open Go Go.RowKit
def wst (M : Mm) (l : Lk) : Mm := M.write l.1 l.2.1 (cellL l.2.2.1)
def wrun (M : Mm) (ls : List Lk) : Mm := ls.foldl wst M
def wantStep (r a : Int) (c : List Int) (l : Lk) : List Int := if l.1 = r ∧ l.2.1 = a then cellL l.2.2.1 else c
def wantL (r a : Int) (c : List Int) (ls : List Lk) : List Int := ls.foldl (wantStep r a) c
theorem wrun_snoc (M : Mm) (ls : List Lk) (k : Nat) (h : k < ls.length) : wrun M (ls.take (k + 1)) = wst (wrun M (ls.take k)) ls[k] := by
  rw [List.take_succ_eq_append_getElem h, wrun, List.foldl_append]
  rfl
theorem wantL_snoc (r a : Int) (c : List Int) (ls : List Lk) (k : Nat) (h : k < ls.length) : wantL r a c (ls.take (k + 1)) = wantStep r a (wantL r a c (ls.take k)) ls[k] := by
  rw [List.take_succ_eq_append_getElem h, wantL, List.foldl_append]
  rfl
theorem wrun_size (ls : List Lk) : ∀ (M : Mm) (r : Int), (wrun M ls).size r = M.size r := by
  induction ls with
  | nil => exact fun M r => rfl
  | cons l ls ih => exact fun M r => (ih (wst M l) r).trans (Mm.write_size _ _ _ _ _)
theorem wrun_read (ls : List Lk) : ∀ (M : Mm) (r a : Int), M.has r a = true → (wrun M ls).read r a = wantL r a (M.read r a) ls := by
  induction ls with
  | nil => exact fun M r a _ => rfl
  | cons l ls ih =>
    intro M r a h
    have := ih (wst M l) r a (by unfold wst; rw [Mm.write_has]; exact h)
    show (wrun (wst M l) ls).read r a = wantL r a (wantStep r a (M.read r a) l) ls
    rw [this]
    unfold wst wantStep
    rw [Mm.read_write]
    by_cases e : l.1 = r ∧ l.2.1 = a
    · rw [if_pos ⟨h, e⟩, if_pos e]
    · rw [if_neg (fun h2 => e h2.2), if_neg e]
theorem wantL_ok (r a : Int) (ls : List Lk) : ∀ c : List Int, c.length = 12 → (wantL r a c ls).length = 12 := by
  induction ls with
  | nil => exact fun c h => h
  | cons l ls ih =>
    intro c h
    refine ih _ ?_
    unfold wantStep
    split
    · exact cellL_len _
    · exact h
theorem write_prefix (M : Mm) (r a : Int) (c : List Int) : (M.write r a c).evs.take M.evs.length = M.evs ∧ M.evs.length ≤ (M.write r a c).evs.length := by
  rw [Mm.write_evs]
  split
  · simp
  · simp
theorem size_of_regs {M N : Mm} (h : N.regs = M.regs) (r : Int) : N.size r = M.size r := by unfold Mm.size; rw [h]
theorem read_of_regs {M N : Mm} (h : N.regs = M.regs) (r a : Int) : N.read r a = M.read r a := by
  unfold Mm.read
  rw [Mm.has_of_size (size_of_regs h), h]
theorem SlE_take {w : World} {a : Option Addr} {n cap : Nat} {es : List Ev} (h : SlE w (.slice a n cap) es) {k : Nat} (hk : k ≤ n) : SlE w (.slice a k cap) (es.take k) := by
  obtain ⟨a', c, e, h1, h2, h3⟩ := h
  simp only [Value.slice.injEq] at e
  obtain ⟨rfl, rfl, rfl⟩ := e
  have hl : (es.take k).length = k := by rw [List.length_take]; omega
  refine ⟨a, cap, by rw [hl], by omega, h2, fun hn => ?_⟩
  obtain ⟨b, off, rfl, hlt, hr⟩ := h3 (fun e => hn (by rw [e]; simp))
  refine ⟨b, off, rfl, hlt, fun j u hu => hr j u ?_⟩
  rw [← evsV_take, List.getElem?_take] at hu
  split at hu
  · exact hu
  · cases hu
theorem fresh_has43 {r a : Nat} (hr : r < 2) (ha : a < 4 - r) : (Mm.fresh [4, 3]).has (r : Int) (a : Int) = true ∧ (Mm.fresh [4, 3]).read (r : Int) (a : Int) = zeros := by
  have h2 : (r = 0 ∧ (a = 0 ∨ a = 1 ∨ a = 2 ∨ a = 3)) ∨ (r = 1 ∧ (a = 0 ∨ a = 1 ∨ a = 2)) := by omega
  rcases h2 with ⟨rfl, rfl | rfl | rfl | rfl⟩ | ⟨rfl, rfl | rfl | rfl⟩ <;> exact ⟨rfl, rfl⟩
end Go.Sg
namespace Go.Proofs.Ytngpaibppdehdaa
open Go.RowKit Go.Sg

set_option maxHeartbeats 4000000 in
set_option maxRecDepth 100000 in
theorem MemLast_walk (vl : Value) (ls : List Lk) (w : World) (hl : SlL w vl ls) :
    Calls Try.prog 7 #[vl] w fun e w' => e = .returned (.bool true) ∧ Below w.heap.size w w' := by
  obtain ⟨va, vcap, rfl, v1, v2, v3, v4⟩ := hl
  have V3 := Lib.hid v3
  have V4 := Lib.hid v4
  clear v3 v4
  unfold maxLen at v2
  go_enter Try.func7, Try.ntmps7
  go_wp2_with fail
  refine (shown3 w).mono ?_
  rintro e w1 ⟨rfl, hb1⟩
  have HB1 := Lib.hid hb1
  clear hb1
  go_wp2_with fail
  refine (memNew_any _ [4, 3] _ (Sl1.of_owns (owns_lit (base := 0) #[.int .i64 4, .int .i64 3] (by omega) (by simp [maxLen])))).mono ?_
  rintro e w2 ⟨hb2, hr⟩
  rcases hr with ⟨h0, _⟩ | ⟨_, p, F, rfl, hm, hF⟩
  · exact absurd h0 (by decide)
  have HX : Hid (OneR 108 w w2 p (Mm.fresh [4, 3])) := Lib.hid ⟨F, hm, fun k hk => by have := hF k hk; have h3 := HB1.out.size; simp only [World.size_alloc] at this; omega, (below_alloc' HB1.out _).trans (hb2.mono (below_alloc' HB1.out _).size), fun _ h => h.elim, fun _ h => h.elim, trivial⟩
  clear hb2 hm hF HB1
  by_cases h80 : 80 < ls.length
  · have d : decide ((80 : Int) < (ls.length : Int)) = true := decide_eq_true (by omega)
    go_wp2
    go_ret
    exact ⟨rfl, HX.out.old⟩
  have d : decide ((80 : Int) < (ls.length : Int)) = false := decide_eq_false (by omega)
  go_wp2
  go_loopw [6, 7] (fun wv i wr => ∃ k : Nat, k ≤ ls.length ∧ i = .int .i64 k ∧ Hid (∃ M, M = wrun (Mm.fresh [4, 3]) (ls.take k) ∧ OneX 108 w wr p M (OwnE wv M.evs) (fun w' => SlE w' wv M.evs) ∧ M.evs.length ≤ k)) (fun _ i _ => ls.length - (intOf i).toNat)
  case atStart =>
    refine ⟨0, by omega, rfl, Lib.hid ⟨Mm.fresh [4, 3], by simp [wrun], HX.out.less (fun k hk => ?_) (fun _ => ?_), by simp [Mm.fresh]⟩⟩
    · exact absurd rfl hk.2
    · exact ⟨none, 0, rfl, Nat.le_refl _, by simp, fun h => absurd rfl h⟩
  case round =>
    obtain ⟨k, hk, rfl, HS⟩ := hrel
    by_cases hlt : k < ls.length
    · obtain ⟨vb, voff, rfl, hvlt, hvr⟩ := V4.out (fun e => by rw [e] at hlt; simp at hlt)
      obtain ⟨M, hM, hX, hE⟩ := HS.out
      have hld : wr.rangeAt vb (voff + k * 4) (lkV ls[k]) := fun j u hu => (hX.old.cell (p := ⟨vb, voff + k * 4 + j, none⟩) hvlt).trans (hvr k hlt j u hu)
      have hok := V3.out ls[k] (List.getElem_mem hlt)
      have HMS := Lib.hid (wrun_snoc (Mm.fresh [4, 3]) ls k hlt)
      rw [← hM] at HMS
      obtain ⟨wa, wcap, rfl, q1, q2, _⟩ := hX.x
      have HXk := Lib.hid hX
      have HE := Lib.hid hE
      obtain ⟨n, hn⟩ : ∃ n, M.evs.length = n := ⟨_, rfl⟩
      clear hX hE hvr HS hM
      generalize ls[k] = x at *
      obtain ⟨xr, xa, xn, xb⟩ := x
      obtain ⟨k1, k2, k3⟩ := hok
      obtain ⟨c0, c1, c2, c3⟩ := lk_at hld
      simp only at k1 k2 k3 c0 c1 c2 c3
      clear hld
      rw [hn] at HXk HE q1
      go_upto_region 10 with fail
      obtain ⟨wb, hwb⟩ : ∃ y, wr.alloc (.cells #[.int .i64 xr, .int .i64 xa, .int .u64 xn, .bool xb] 41) = y := ⟨_, rfl⟩
      have hK1 := keeps_slE (.slice wa n wcap) M.evs
      have HTB := Lib.hid (OneX.box hK1 HXk.out #[.int .i64 xr, .int .i64 xa, .int .u64 xn, .bool xb] 41)
      rw [hwb] at HTB ⊢
      have HK2 := Lib.hid (keeps_and hK1 (keeps_blk wr.heap.size #[.int .i64 xr, .int .i64 xa, .int .u64 xn, .bool xb] 41))
      have HK1 := Lib.hid hK1
      clear hwb c0 c1 c2 c3 HXk hK1
      generalize wr.heap.size = bq at *
      have HS : Hid (∀ w' M', OneX 108 w w' p M' (fun i => OwnE (.slice wa n wcap) M.evs i ∨ i = bq) (fun w' => SlE w' (.slice wa n wcap) M.evs ∧ Blk w' bq #[.int .i64 xr, .int .i64 xa, .int .u64 xn, .bool xb] 41) → (w'.cell? ⟨bq, 0, none⟩ = some (.int .i64 xr) ∧ w'.cell? ⟨bq, 1, none⟩ = some (.int .i64 xa) ∧ w'.cell? ⟨bq, 2, none⟩ = some (.int .u64 xn))) := Lib.hid fun w' M' h => ⟨h.x.2.cell 0, h.x.2.cell 1, h.x.2.cell 2⟩
      have hT1 := HTB.out.drew HK2.out
      obtain ⟨c0, c1, c2⟩ := HS.out _ _ HTB.out
      go_region_held3 (fun w' => w'.cell? ⟨bq, 0, none⟩ = some (.int .i64 xr) ∧ w'.cell? ⟨bq, 1, none⟩ = some (.int .i64 xa) ∧ w'.cell? ⟨bq, 2, none⟩ = some (.int .u64 xn)) (first | exact HS.out _ _ (by assumption)) (first
        | (go_at_call 34; refine (cell3_any xn _).mono ?_; rintro e wA ⟨rfl, hbA⟩; have hT2 := hT1.below HK2.out hbA)
        | (go_at_call 33; refine (one_write HK2.out xr xa (cellL xn) (cellL_len xn) (cellL_words xn) hT2 (by rw [hn]; have := HE.out; omega)).mono ?_; rintro e wB ⟨rfl, hT3⟩))
      have HT3 := Lib.hid (hT3.less (E := OwnE (.slice wa n wcap) M.evs) (Y := fun w => SlE w (.slice wa n wcap) M.evs) (fun k h => .inl h) (fun h => h.1))
      have hpre := write_prefix M xr xa (cellL xn)
      have hle := write_evs_le M xr xa (cellL xn)
      have HWR := Lib.hid (show wst M (xr, xa, xn, xb) = M.write xr xa (cellL xn) from rfl)
      rw [HWR.out] at HMS
      clear hT3 hT2 hT1 c0 c1 c2 HTB HS HK2 HWR
      generalize M.write xr xa (cellL xn) = M4 at *
      obtain ⟨n4, hn4⟩ : ∃ n, M4.evs.length = n := ⟨_, rfl⟩
      rw [hn, hn4] at hpre
      rw [hn, hn4] at hle
      have HPRE := Lib.hid hpre.1
      have hnn := hpre.2
      clear hpre
      have HTR := Lib.hid (one_trace HK1.out HT3.out (by have := HE.out; omega))
      have HSZ := Lib.hid HT3.out.old.size
      clear HT3
      go_wp2_with fail
      refine HTR.out.mono ?_
      rintro e w4 ⟨tv, rfl, hT4, _, hfr⟩
      obtain ⟨ta, tcap, rfl, t1, t2, t3⟩ := hT4.x.2
      have HT3 := Lib.hid t3
      have hs1 := SlE_take (k := n) hT4.x.2 (by rw [hn4]; exact hnn)
      rw [HPRE.out] at hs1
      have hs2 := hT4.x.1
      rw [hn4] at t1 hT4 hfr ⊢
      have HT4 := Lib.hid hT4
      have HFR := Lib.hid hfr
      have HS1 := Lib.hid hs1
      have HS2 := Lib.hid hs2
      clear hT4 hfr HTR t3 hs1 hs2
      have d3 : decide ((n4 : Int) < (n : Int)) = false := decide_eq_false (by omega)
      go_wp2_with fail
      refine (sameE3_any _ _ M.evs M.evs _ HS1.out HS2.out).mono ?_
      rintro e w5 ⟨rfl, hb5⟩
      rw [decide_eq_true rfl]
      have hT5 := HT4.out.below (keeps_and HK1.out (keeps_slE _ _)) hb5
      have HT5 := Lib.hid hT5
      have HFR5 : Hid (∀ b, (Value.slice ta n4 tcap).ownBlock = some b → wB.heap.size ≤ b ∧ (b < w4.heap.size → ∀ o, w5.frozen? ⟨b, o, none⟩ = false)) := Lib.hid fun b hb => ⟨(HFR.out b hb).1, fun hlt o => (hb5.frozen (p := ⟨b, o, none⟩) hlt).trans ((HFR.out b hb).2 o)⟩
      clear hT5 hb5 HT4 HFR HS1 HS2 HK1
      have HEk : Hid (n4 ≤ k + 1) := Lib.hid (by have := HE.out; omega)
      by_cases h0 : n4 = 0
      · subst h0
        have d4 : decide ((0 : Int) < ((0 : Nat) : Int)) = false := rfl
        go_wp2
        go_roundw
        case rel => exact ⟨k + 1, by omega, by go_num, Lib.hid ⟨M4, HMS.out.symm, HT5.out.less (fun _ h => .inr h) (fun h => h.2), by rw [hn4]; exact HEk.out⟩⟩
        case measure => simp [intOf]; omega
      · have d4 : decide ((0 : Int) < (n4 : Int)) = true := decide_eq_true (by omega)
        have hne : M4.evs ≠ [] := fun e => h0 (by rw [← hn4, e]; rfl)
        obtain ⟨b, off, rfl, hblt, _⟩ := HT3.out hne
        have hc1 : ∃ u, w5.cell? ⟨b, off + 1, none⟩ = some u := by
          obtain ⟨a', c', e', _, _, h3⟩ := HT5.out.x.2
          simp only [Value.slice.injEq] at e'
          obtain ⟨rfl, _, rfl⟩ := e'
          obtain ⟨b', off', e2, _, hr⟩ := h3 hne
          cases e2
          obtain ⟨y, ys, hy⟩ := List.exists_cons_of_ne_nil hne
          exact ⟨_, hr 1 (.int .i64 y.2.1) (by rw [hy]; rfl)⟩
        obtain ⟨u, hc1⟩ := hc1
        obtain ⟨hge, hfz⟩ := HFR5.out b rfl
        have hf1 := hfz hblt 1
        have hf2 := hfz hblt (off + 1)
        have HT6 : Hid (OneR 108 w (w5.setCell ⟨b, off + 1, none⟩ (.int .i64 99)) p M4) := Lib.hid (HT5.out.turn (fun _ h => h.elim) ((MFrame.refl _ _).set (p := ⟨b, off + 1, none⟩) (.inl ⟨.inr ⟨rfl, hne⟩, Nat.le_trans HSZ.out hge⟩) _) trivial)
        clear hfz hge hblt hne HT5 HFR5 HT3
        go_wp2_with fail
        refine (one_trace keeps_true HT6.out (by rw [hn4]; have := HEk.out; omega)).mono ?_
        rintro e w7 ⟨v7, rfl, hT7, _, _⟩
        have HT7 := Lib.hid hT7
        clear hT7 HT6
        go_wp2
        go_roundw
        case rel => exact ⟨k + 1, by omega, by go_num, Lib.hid ⟨M4, HMS.out.symm, HT7.out.less (fun _ h => .inr h) (fun h => h.2), by rw [hn4]; exact HEk.out⟩⟩
        case measure => simp [intOf]; omega
    · have hkl : k = ls.length := by omega
      subst hkl
      obtain ⟨M, hM, hX, hE⟩ := HS.out
      rw [List.take_length] at hM
      have HX2 := Lib.hid hX.one
      have HRD : Hid (∀ r a : Nat, r < 2 → a < 4 - r → M.has (r : Int) (a : Int) = true ∧ M.read (r : Int) (a : Int) = wantL r a zeros ls) := Lib.hid fun r a hr ha => by
        obtain ⟨g1, g2⟩ := fresh_has43 hr ha
        exact ⟨by rw [hM, Mm.has_of_size (wrun_size ls (Mm.fresh [4, 3])), g1], by rw [hM, wrun_read ls _ _ _ g1, g2]⟩
      have HE := Lib.hid hE
      have hll : ls.length ≤ 80 := by omega
      clear hX HS HX
      go_wp2
      go_loopw [10] (fun i wr => ∃ r : Nat, r ≤ 2 ∧ i = .int .i64 r ∧ Hid (∃ N, OneR 108 w wr p N ∧ N.regs = M.regs ∧ N.evs.length ≤ 80 + 4 * r)) (fun i _ => 2 - (intOf i).toNat)
      case atStart => exact ⟨0, by omega, rfl, Lib.hid ⟨M, HX2.out, rfl, by have := HE.out; omega⟩⟩
      case round =>
        obtain ⟨r, hr, rfl, HN⟩ := hrel
        by_cases hr2 : r < 2
        · have d8 : decide ((r : Int) < 2) = true := decide_eq_true (by omega)
          go_wp2
          go_loopw [11] (fun i wr => ∃ a : Nat, a ≤ 4 - r ∧ i = .int .i64 a ∧ Hid (∃ N, OneR 108 w wr p N ∧ N.regs = M.regs ∧ N.evs.length ≤ 80 + 4 * r + a)) (fun i _ => 4 - (intOf i).toNat)
          case atStart =>
            obtain ⟨N, g1, g2, g3⟩ := HN.out
            exact ⟨0, by omega, rfl, Lib.hid ⟨N, g1, g2, by omega⟩⟩
          case round =>
            obtain ⟨a, ha, rfl, HN2⟩ := hrel
            by_cases ha2 : a < 4 - r
            · obtain ⟨N, g1, g2, g3⟩ := HN2.out
              have d5 : decide ((a : Int) < 4 - (r : Int)) = true := decide_eq_true (by omega)
              have HG1 := Lib.hid (OneX.box keeps_true g1 z12 44)
              have HBQ := Lib.hid g1.old.size
              have HG2 := Lib.hid g2
              have HG3 := Lib.hid g3
              clear g1 g2 g3 HN2 HN
              go_wp2
              obtain ⟨bq, hbq⟩ : ∃ x, wr.heap.size = x := ⟨_, rfl⟩
              rw [hbq] at HG1 HBQ ⊢
              clear hbq
              go_loopw [13] (fun i wr2 => ∃ j : Nat, j ≤ ls.length ∧ i = .int .i64 j ∧ Hid (OneX 108 w wr2 p N (fun i => False ∨ i = bq) (fun w' => True ∧ Blk w' bq (cw (wantL r a zeros (ls.take j))) 44))) (fun i _ => ls.length - (intOf i).toNat)
              case atStart => exact ⟨0, by omega, rfl, HG1⟩
              case round =>
                obtain ⟨j, hj, rfl, HY⟩ := hrel
                by_cases hjl : j < ls.length
                · obtain ⟨vb, voff, rfl, hvlt, hvr⟩ := V4.out (fun e => by rw [e] at hjl; simp at hjl)
                  have hld : wr.rangeAt vb (voff + j * 4) (lkV ls[j]) := fun y u hu => (HY.out.old.cell (p := ⟨vb, voff + j * 4 + y, none⟩) hvlt).trans (hvr j hjl y u hu)
                  have HWS := Lib.hid (wantL_snoc r a zeros ls j hjl)
                  have HWL := Lib.hid (wantL_ok r a (ls.take j) zeros rfl)
                  generalize wantL r a zeros (ls.take j) = want at *
                  generalize ls[j] = x at *
                  obtain ⟨xr, xa, xn, xb⟩ := x
                  obtain ⟨c0, c1, c2, c3⟩ := lk_at hld
                  simp only at c0 c1 c2 c3
                  clear hld hvr
                  by_cases e1 : xr = (r : Int)
                  · by_cases e2 : xa = (a : Int)
                    · subst e1 e2
                      have d6 : ((r : Int) == (r : Int)) = true := by simp
                      have d7 : ((a : Int) == (a : Int)) = true := by simp
                      have HK := Lib.hid (keeps_and keeps_true (keeps_blk bq (cw want) 44))
                      go_wp2_with fail
                      refine (cell3_any xn wr).mono ?_
                      rintro e wA ⟨rfl, hbA⟩
                      have HYA := Lib.hid (HY.out.below HK.out hbA)
                      have HIc : Hid ((Try.prog.info? 44).map (·.size) = some (cw (cellL xn)).size) := Lib.hid (by rw [cw_size, cellL_len]; kernel_rfl)
                      clear hbA c0 c1 c2 c3
                      go_wp2_with (first
                        | (refine wpList_store_row rfl 44 (.tmp 12) (.tmp 117) rfl bq (cw (cellL xn)) rfl rfl 44 _ HYA.out.x.2 HIc.out (by rw [cw_size, cw_size, cellL_len, HWL.out]) (cw_one _) ?_)
                        | fail)
                      go_roundw
                      case rel =>
                        refine ⟨j + 1, by omega, by go_num, Lib.hid (HYA.out.turn (fun _ h => h) (mframe_setRow (MFrame.refl _ _) ⟨.inr rfl, HBQ.out⟩ _) ⟨trivial, ?_⟩)⟩
                        rw [HWS.out, show wantStep r a want ((r : Int), (a : Int), xn, xb) = cellL xn from if_pos ⟨rfl, rfl⟩]
                        exact HYA.out.x.2.setRow _
                      case measure => simp [intOf]; omega
                    · subst e1
                      have d6 : ((r : Int) == (r : Int)) = true := by simp
                      have d7 : (xa == (a : Int)) = false := by simp [e2]
                      go_wp2
                      go_roundw
                      case rel =>
                        refine ⟨j + 1, by omega, by go_num, ?_⟩
                        rw [HWS.out, show wantStep r a want ((r : Int), xa, xn, xb) = want from if_neg (fun h => e2 h.2)]
                        exact HY
                      case measure => simp [intOf]; omega
                  · have d6 : (xr == (r : Int)) = false := by simp [e1]
                    go_wp2
                    go_roundw
                    case rel =>
                      refine ⟨j + 1, by omega, by go_num, ?_⟩
                      rw [HWS.out, show wantStep r a want (xr, xa, xn, xb) = want from if_neg (fun h => e1 h.1)]
                      exact HY
                    case measure => simp [intOf]; omega
                · have hjl2 : j = ls.length := by omega
                  have hy := HY.out
                  rw [hjl2, List.take_length] at hy
                  obtain ⟨q1, q2⟩ := HRD.out r a hr2 ha2
                  have hread : N.read (r : Int) (a : Int) = wantL r a zeros ls := by rw [read_of_regs HG2.out, q2]
                  have hlen := wantL_ok r a ls zeros rfl
                  have HK := Lib.hid (keeps_and keeps_true (keeps_blk bq (cw (wantL r a zeros ls)) 44))
                  have QR : ∀ w, (Op.equalIn 10000 44 (.agg (wv (wantL r a zeros ls)).toArray) (.agg (wv (wantL r a zeros ls)).toArray)).run Try.prog w = .ok true w := fun w => by
                    have := run_eqcell _ _ hlen hlen w
                    rw [decide_eq_true rfl, cw_eq] at this
                    exact this
                  have HI5 : (Try.prog.info? 44).map (·.size) = some (wv (wantL r a zeros ls)).length := by rw [wv_len, hlen]; kernel_rfl
                  have HRD2 : Hid (∀ w' N', OneX 108 w w' p N' (fun i => False ∨ i = bq) (fun w' => True ∧ Blk w' bq (cw (wantL r a zeros ls)) 44) → w'.rangeAt bq 0 (wv (wantL r a zeros ls))) := Lib.hid fun w' N' h => h.x.2.range
                  have KR := Lib.hid (fun w' (h : OneX 108 w w' p N (fun i => False ∨ i = bq) (fun w' => True ∧ Blk w' bq (cw (wantL r a zeros ls)) 44)) => one_read HK.out (r : Int) (a : Int) h (by have := HG3.out; omega))
                  rw [hread, cw_eq] at KR
                  have U44 := Try.underlying44
                  rw [cw_eq] at hy HK HRD2
                  have hT1 := hy.drew HK.out
                  have hR1 := HRD2.out _ _ hT1
                  clear hread hlen q1 q2 HY hy
                  generalize wv (wantL r a zeros ls) = wl at *
                  go_wp2_with fail
                  go_region_held3 (fun w' => w'.rangeAt bq 0 wl) (first | exact HRD2.out _ _ (by assumption)) (first
                    | (go_at_call 35; refine (KR.out _ hT1).mono ?_; rintro e wB ⟨rfl, hT2⟩))
                  all_goals
                    go_wp2
                    go_roundw
                    case rel => exact ⟨a + 1, by omega, by go_num, Lib.hid ⟨_, hT2.one, by rw [Mm.look_regs]; exact HG2.out, by have := HG3.out; have := look_evs_le N r a false; omega⟩⟩
                    case measure => simp [intOf]; omega
            · have d5 : decide ((a : Int) < 4 - (r : Int)) = false := decide_eq_false (by omega)
              obtain ⟨N, g1, g2, g3⟩ := HN2.out
              have HG : Hid (∃ N, OneR 108 w wr p N ∧ N.regs = M.regs ∧ N.evs.length ≤ 80 + 4 * (r + 1)) := Lib.hid ⟨N, g1, g2, by omega⟩
              clear g1 g2 g3 HN HN2
              go_wp2
              go_roundw
              case rel => exact ⟨r + 1, by omega, by go_num, HG⟩
              case measure => simp [intOf]; omega
        · obtain ⟨N, g1, g2, g3⟩ := HN.out
          have HO := Lib.hid g1.old
          clear g1 g2 g3 HN
          go_wp2
          go_ret
          exact ⟨rfl, HO.out⟩
end Go.Proofs.Ytngpaibppdehdaa
