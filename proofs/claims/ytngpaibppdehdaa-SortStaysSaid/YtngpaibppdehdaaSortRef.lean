/-
  The walk of shellgameref6.Run: the document's run.
-/
import Derived.Test.YtngpaibppdehdaaSortEvs
namespace Go.Sg
open Go Go.RowKit
/-- An operation that its guard strikes is passed by. -/
theorem qs_skipR {P : Program} {ops : Array Oper} {C : World → Prop} {o : Oper} {a : Act} {K : Act → Prop} (hw : Region.wanted o (yielded ops a.tmps) = false) (hK : K (a.put o.dst undef)) :
    if Region.wanted o (yielded ops a.tmps) = true then o.quiet P a C K else K (a.put o.dst undef) := by
  rw [if_neg (by rw [hw]; exact Bool.false_ne_true)]
  exact hK
end Go.Sg
namespace Go.Proofs.Ytngpaibppdehdaa
open Go Go.RowKit Go.Sg
variable {w0 w : World} {p : Nat} {M : Mm} {D : Nat → Prop} {X : World → Prop}

set_option maxRecDepth 100000 in
theorem one_rrun_no (n r key : Int) (hNum : Num n) (hbad : rightB n = false ∨ (M.size r : Int) < n ∨ key < 0 ∨ 12 ≤ key) (h : OneX 60 w0 w p M D X) :
    Calls Try.prog 74 #[.pointer (some ⟨p, 0, none⟩), .int .i64 r, .int .i64 n, .int .i64 key] w fun e w' => e = .returned (.int .i64 1) ∧ w' = w := by
  have HX := Lib.hid h
  have K := Lib.hid (fun w => ref5Right_any n hNum w)
  have KS := Lib.hid (one_rsize r h)
  clear h
  by_cases h0 : rightB n = false
  · rw [h0] at K
    clear h0 hbad
    go_enter Try.func74, Try.ntmps74
    go_wp2_with (first
      | (go_at_call 29; refine (K.out _).mono ?_; rintro e w' ⟨rfl, rfl⟩)
      | fail)
    go_ret
    exact ⟨rfl, rfl⟩
  have h0' : rightB n = true := by simpa using h0
  rw [h0'] at K
  have hs4 := Mm.size_le HX.out.ok r
  by_cases h1 : (M.size r : Int) < n
  · have d1 : decide ((M.size r : Int) < n) = true := decide_eq_true h1
    clear h0 h0' h1 hbad
    generalize M.size r = sz at *
    go_enter Try.func74, Try.ntmps74
    go_wp2_with (first
      | (go_at_call 29; refine (K.out _).mono ?_; rintro e w' ⟨rfl, rfl⟩)
      | (go_at_call 44; refine KS.out.mono ?_; rintro e w' ⟨rfl, rfl⟩)
      | fail)
    go_ret
    exact ⟨rfl, rfl⟩
  have d1 : decide ((M.size r : Int) < n) = false := decide_eq_false h1
  by_cases h2 : key < 0
  · have d2 : decide (key < 0) = true := decide_eq_true h2
    clear h0 h0' h1 hbad h2
    generalize M.size r = sz at *
    go_enter Try.func74, Try.ntmps74
    go_wp2_with (first
      | (go_at_call 29; refine (K.out _).mono ?_; rintro e w' ⟨rfl, rfl⟩)
      | (go_at_call 44; refine KS.out.mono ?_; rintro e w' ⟨rfl, rfl⟩)
      | fail)
    go_ret
    exact ⟨rfl, rfl⟩
  have d2 : decide (key < 0) = false := decide_eq_false h2
  have h3 : 11 < key := by
    rcases hbad with h | h | h | h
    · exact absurd h h0
    · exact absurd h h1
    · exact absurd h h2
    · omega
  have d3 : decide (11 < key) = true := decide_eq_true h3
  clear h0 h0' h1 hbad h2 h3
  generalize M.size r = sz at *
  go_enter Try.func74, Try.ntmps74
  go_wp2_with (first
    | (go_at_call 29; refine (K.out _).mono ?_; rintro e w' ⟨rfl, rfl⟩)
    | (go_at_call 44; refine KS.out.mono ?_; rintro e w' ⟨rfl, rfl⟩)
    | fail)
  go_ret
  exact ⟨rfl, rfl⟩

set_option maxHeartbeats 8000000 in
set_option maxRecDepth 100000 in
theorem one_rrun_yes (hK : Keeps D X) (t : Nat) (ht : t ≤ 10) (r : Int) (kn : Nat) (hkn : kn < 12) (hsz : 2 ^ t ≤ M.size r) (h : OneX 60 w0 w p M D X) (hN : M.evs.length ≤ 1099511000000) :
    Calls Try.prog 74 #[.pointer (some ⟨p, 0, none⟩), .int .i64 r, .int .i64 ((2 ^ t : Nat) : Int), .int .i64 (kn : Int)] w fun e w' => e = .returned (.int .i64 0) ∧ OneX 60 w0 w' p ((M.srt r kn (netP (2 ^ t) t)).noted (evsS r (netP (2 ^ t) t))) D X := by
  have hok := h.ok
  have hN1024 : 2 ^ t ≤ 1024 := Nat.le_trans (Nat.pow_le_pow_right (by omega) ht) (by decide)
  have hr : rightB ((2 ^ t : Nat) : Int) = true := by
    have := rightB_pow t ht
    rwa [show ((2 ^ t : Nat) : Int) = (2 : Int) ^ t by simp]
  have hNum : Num ((2 ^ t : Nat) : Int) := by
    generalize 2 ^ t = n at *
    exact ⟨by omega, by omega⟩
  have K := Lib.hid (fun w => ref5Right_any ((2 ^ t : Nat) : Int) hNum w)
  rw [hr] at K
  have KS := Lib.hid (one_rsize r h)
  have KP := Lib.hid (fun w => ref5Pairs_yes t ht w)
  have hpo : PrsOk (M.size r) (netP (2 ^ t) t) := fun q hq => by
    have := netP_ok t (Nat.le_refl t) q hq
    omega
  have HPO := Lib.hid hpo
  have hpl : (netP (2 ^ t) t).length ≤ 30000 := by
    rw [netP_cnt t ht]
    have h2 : ∀ t : Fin 11, cntI t.val ≤ 30000 := by decide +kernel
    exact h2 ⟨t, by omega⟩
  have hs4 := Mm.size_le hok r
  have HX := Lib.hid h
  have HOK := Lib.hid hok
  have d1 : decide (M.size r < 2 ^ t) = false := decide_eq_false (by omega)
  have d2 : decide ((kn : Int) < 0) = false := decide_eq_false (by omega)
  have d3 : decide ((11 : Int) < (kn : Int)) = false := decide_eq_false (by omega)
  have d4 : decide (11 < kn) = false := decide_eq_false (by omega)
  obtain ⟨n, hn⟩ : ∃ n, 2 ^ t = n := ⟨_, rfl⟩
  obtain ⟨ps, hps⟩ : ∃ ps, netP (2 ^ t) t = ps := ⟨_, rfl⟩
  rw [hps] at KP HPO hpl ⊢
  rw [hn] at K d1 KP ⊢
  clear hr hpo hn hps h hok hsz ht hN1024 hNum
  obtain ⟨sz, hsz⟩ : ∃ sz, M.size r = sz := ⟨_, rfl⟩
  rw [hsz] at KS d1 hs4 HPO
  go_enter Try.func74, Try.ntmps74
  go_wp2_with (first
    | (go_at_call 29; refine (K.out _).mono ?_; rintro e w' ⟨rfl, rfl⟩)
    | (go_at_call 44; refine KS.out.mono ?_; rintro e w' ⟨rfl, rfl⟩)
    | fail)
  refine (KP.out _).mono ?_
  rintro e w1 ⟨v, rfl, hown, hb1⟩
  have hq := SlQ.of_owns hown
  have hX1 := HX.out.ret (E := OwnP v ps) (Y := fun w' => SlQ w' v ps) hK hb1 (fun k hk => ⟨(hown.lt k hk.1).1, slQ_own_lt hq k hk⟩) hq
  have HK1 := Lib.hid (keeps_and hK (keeps_slQ v ps))
  have HX0 : Hid (OneX 60 w0 w1 p ((M.srt r kn (ps.take 0)).noted (evsS r (ps.take 0))) (fun i => D i ∨ OwnP v ps i) (fun w' => X w' ∧ SlQ w' v ps)) := Lib.hid (by
    rw [List.take_zero, Mm.srt_nil, evsS_nil, Mm.noted_nil]
    exact hX1)
  obtain ⟨va, vc, rfl, hc1, hc2, _⟩ := hq
  clear hX1 hown hb1 HX KP K KS
  unfold maxLen at hc2
  go_wp2_with fail
  go_loopw [10] (fun i wr => ∃ k : Nat, k ≤ ps.length ∧ i = .int .i64 k ∧ Hid (OneX 60 w0 wr p ((M.srt r kn (ps.take k)).noted (evsS r (ps.take k))) (fun i => D i ∨ OwnP (.slice va ps.length vc) ps i) (fun w' => X w' ∧ SlQ w' (.slice va ps.length vc) ps))) (fun i _ => ps.length - (intOf i).toNat)
  case atStart => exact ⟨0, by omega, rfl, HX0⟩
  case round =>
    obtain ⟨k, hk, rfl, HXr⟩ := hrel
    clear HX0
    by_cases hlt : k < ps.length
    · obtain ⟨b, off, cap, hvv, hblt, hrow⟩ := HXr.out.x.2.row hlt
      simp only [Value.slice.injEq, true_and] at hvv
      obtain ⟨rfl, rfl⟩ := hvv
      obtain ⟨q, hqk⟩ : ∃ q, ps[k] = q := ⟨_, rfl⟩
      rw [hqk] at hrow
      have hqo := HPO.out q (by rw [← hqk]; exact List.getElem_mem hlt)
      have htk : ps.take (k + 1) = ps.take k ++ [q] := by rw [List.take_succ_eq_append_getElem hlt, hqk]
      have hsl := Mm.srt_look HOK.out (r := r) (key := kn) (ps.take k) q hqo.1 (by rw [hsz]; exact hqo.2) (evsS r (ps.take k))
      rw [← htk, ← evsS_snoc, ← htk] at hsl
      have HSL := Lib.hid hsl
      have hev : ((M.srt r kn (ps.take k)).noted (evsS r (ps.take k))).evs.length ≤ 1099511200000 := by
        rw [Mm.noted_evs, Mm.srt_evs, List.length_append, evsS_len, List.length_take]
        omega
      have hokk := Mm.srt_ok HOK.out r kn (ps.take k)
      have HOKK := Lib.hid hokk
      have HQC : Hid (∀ w', SlQ w' (.slice (some ⟨b, off, none⟩) ps.length vc) ps → w'.cell? ⟨b, off + k * 3, none⟩ = some (.int .i64 (q.1 : Int)) ∧ w'.cell? ⟨b, off + k * 3 + 1, none⟩ = some (.int .i64 (q.2.1 : Int)) ∧ w'.cell? ⟨b, off + k * 3 + 2, none⟩ = some (.bool q.2.2)) := Lib.hid fun w' h => by
        obtain ⟨b', off', cap', hvv, _, hrow⟩ := h.row hlt
        simp only [Value.slice.injEq, Option.some.injEq, Addr.mk.injEq, and_true, true_and] at hvv
        obtain ⟨⟨rfl, rfl⟩, rfl⟩ := hvv
        rw [hqk] at hrow
        exact ⟨hrow 0 _ rfl, hrow 1 _ rfl, hrow 2 _ rfl⟩
      have HEND : Hid (∀ w' N, OneX 60 w0 w' p N (fun i => D i ∨ OwnP (.slice (some ⟨b, off, none⟩) ps.length vc) ps i) (fun w' => X w' ∧ SlQ w' (.slice (some ⟨b, off, none⟩) ps.length vc) ps) → SlQ w' (.slice (some ⟨b, off, none⟩) ps.length vc) ps) := Lib.hid fun w' N h => h.x.2
      have i0 : (0 : Int) ≤ (k : Int) := by omega
      have i1 : (k : Int) < (ps.length : Int) := by omega
      clear hqk htk hsl hokk hrow
      generalize M.srt r kn (ps.take k) = Mk at *
      generalize evsS r (ps.take k) = ek at *
      generalize hD2 : (fun i => D i ∨ OwnP (.slice (some ⟨b, off, none⟩) ps.length vc) ps i) = D2 at *
      generalize hX2d : (fun w' => X w' ∧ SlQ w' (.slice (some ⟨b, off, none⟩) ps.length vc) ps) = X2 at *
      have HQX : Hid (∀ w', X2 w' → w'.cell? ⟨b, off + k * 3, none⟩ = some (.int .i64 (q.1 : Int)) ∧ w'.cell? ⟨b, off + k * 3 + 1, none⟩ = some (.int .i64 (q.2.1 : Int)) ∧ w'.cell? ⟨b, off + k * 3 + 2, none⟩ = some (.bool q.2.2)) := Lib.hid fun w' h => by rw [← hX2d] at h; exact HQC.out w' h.2
      have HEND : Hid (∀ w', OneX 60 w0 w' p ((M.srt r kn (ps.take (k + 1))).noted (evsS r (ps.take (k + 1)))) D2 X2 → OneX 60 w0 w' p ((M.srt r kn (ps.take (k + 1))).noted (evsS r (ps.take (k + 1)))) (fun i => D i ∨ OwnP (.slice (some ⟨b, off, none⟩) ps.length vc) ps i) (fun w' => X w' ∧ SlQ w' (.slice (some ⟨b, off, none⟩) ps.length vc) ps)) := Lib.hid fun w' h => by
        subst hD2 hX2d
        exact h
      clear hD2 hX2d HQC
      have hl1 := look_evs_le (Mk.noted ek) r (q.1 : Int) false
      have hl2 := look_evs_le ((Mk.noted ek).look r (q.1 : Int) false) r (q.2.1 : Int) false
      have K1 := Lib.hid (one_rread HK1.out r (q.1 : Int) HXr.out (by omega))
      have K2 := Lib.hid (fun w' (D' : Nat → Prop) (X' : World → Prop) (hK' : Keeps D' X') (h' : OneX 60 w0 w' p ((Mk.noted ek).look r (q.1 : Int) false) D' X') => one_rread hK' r (q.2.1 : Int) h' (by omega))
      rw [Mm.noted_read] at K1
      rw [Mm.read_look, Mm.noted_read] at K2
      have hrx := Mm.read_ok HOKK.out r (q.1 : Int)
      have hry := Mm.read_ok HOKK.out r (q.2.1 : Int)
      have HTU : Hid (Mk.turn r kn q = decide (if q.2.2 then (Mk.read r (q.2.1 : Int)).getD kn 0 < (Mk.read r (q.1 : Int)).getD kn 0 else (Mk.read r (q.1 : Int)).getD kn 0 < (Mk.read r (q.2.1 : Int)).getD kn 0)) := Lib.hid rfl
      obtain ⟨tu, htu⟩ : ∃ tu, Mk.turn r kn q = tu := ⟨_, rfl⟩
      rw [htu] at HTU HSL
      clear htu
      generalize Mk.read r (q.1 : Int) = x at *
      generalize Mk.read r (q.2.1 : Int) = y at *
      obtain ⟨xs, hxs⟩ : ∃ xs, wv x = xs := ⟨_, rfl⟩
      obtain ⟨ys, hys⟩ : ∃ ys, wv y = ys := ⟨_, rfl⟩
      rw [cw_eq, hxs] at K1
      rw [cw_eq, hys] at K2
      have hlx : xs.length = 12 := by rw [← hxs, wv_len, hrx.1]
      have hly : ys.length = 12 := by rw [← hys, wv_len, hry.1]
      have hzx : xs.toArray.size = 12 := by rw [List.size_toArray, hlx]
      have hzy : ys.toArray.size = 12 := by rw [List.size_toArray, hly]
      have HOX := Lib.hid (all_oneCell_toArray (show ∀ v ∈ xs, v.oneCell' = true by rw [← hxs]; exact wv_one x))
      have HOY := Lib.hid (all_oneCell_toArray (show ∀ v ∈ ys, v.oneCell' = true by rw [← hys]; exact wv_one y))
      have hix : (Try.prog.info? 44).map (·.size) = some xs.length := by rw [← hxs]; exact info_cF x hrx.1
      have hiy : (Try.prog.info? 44).map (·.size) = some ys.length := by rw [← hys]; exact info_cF y hry.1
      have HIX : Hid ((Try.prog.info? 44).map (·.size) = some xs.toArray.size) := Lib.hid (by rw [List.size_toArray]; exact hix)
      have HIY : Hid ((Try.prog.info? 44).map (·.size) = some ys.toArray.size) := Lib.hid (by rw [List.size_toArray]; exact hiy)
      have U := Try.underlying44
      have hlk : (((Mk.noted ek).look r (q.1 : Int) false).look r (q.2.1 : Int) false).evs.length ≤ 1099511300000 := by omega
      obtain ⟨M3, hM3⟩ : ∃ M3, ((Mk.noted ek).look r (q.1 : Int) false).look r (q.2.1 : Int) false = M3 := ⟨_, rfl⟩
      rw [hM3] at K2 hlk HSL
      clear hl1 hl2 hM3
      generalize (Mk.noted ek).look r (q.1 : Int) false = M2 at *
      have hq0 := HQX.out _ HXr.out.x
      obtain ⟨c0, _, _⟩ := hq0
      go_wp2_with fail
      refine K1.out.mono ?_
      rintro e wA ⟨rfl, hA⟩
      obtain ⟨A, hAe⟩ : ∃ A, wA.heap.size = A := ⟨_, rfl⟩
      have hbx := hA.box HK1.out z12 44
      have hfl := hA.fillF HK1.out z12 xs.toArray 44
      have hgA := hA.old.size
      have hDA := hA.dltF
      rw [hAe] at hbx hfl hgA hDA
      have HDA := Lib.hid hDA
      have HBX := Lib.hid hbx
      have HFL := Lib.hid hfl
      clear hbx hfl hA K1 hDA
      go_upto_region 8 with (first
        | (refine wpList_store_row rfl 44 (.tmp 11) (.tmp 46) rfl A xs.toArray rfl rfl 44 _ HBX.out.x.2 HIX.out (by rw [hzx]; rfl) HOX.out ?_)
        | fail)
      refine at_world (fun w' => OneX 60 w0 w' p M2 (fun i => D2 i ∨ i = A) (fun w' => X2 w' ∧ Blk w' A xs.toArray 44)) HFL.out ?_
      intro w2 hX2
      have HK2 := Lib.hid (keeps_and HK1.out (keeps_blk A xs.toArray 44))
      have HX2 := Lib.hid hX2
      have c1 := (HQX.out _ hX2.x.1).2.1
      clear hX2 HBX HFL c0 hAe
      go_wp2_with fail
      refine (K2.out _ _ _ HK2.out HX2.out).mono ?_
      rintro e wB ⟨rfl, hB⟩
      obtain ⟨C, hCe⟩ : ∃ C, wB.heap.size = C := ⟨_, rfl⟩
      have hbx := hB.box HK2.out z12 44
      have hfl := hB.fillF HK2.out z12 ys.toArray 44
      have hgC := hB.old.size
      have hDC := hB.dltF
      rw [hCe] at hbx hfl hgC hDC
      have hAC : A ≠ C := Nat.ne_of_lt (hDC A (.inr rfl))
      have HNE : Hid (∀ k, D2 k → k ≠ A ∧ k ≠ C) := Lib.hid fun k hk => ⟨Nat.ne_of_lt (HDA.out k hk), Nat.ne_of_lt (hDC k (.inl hk))⟩
      have HGE : Hid (w0.heap.size ≤ A ∧ w0.heap.size ≤ C) := Lib.hid ⟨hgA, hgC⟩
      have HBX := Lib.hid hbx
      have HFL := Lib.hid hfl
      clear hbx hfl hB K2 hDC HDA HX2 c1
      go_upto_region 9 with (first
        | (refine wpList_store_row rfl 44 (.tmp 12) (.tmp 54) rfl C ys.toArray rfl rfl 44 _ HBX.out.x.2 HIY.out (by rw [hzy]; rfl) HOY.out ?_)
        | fail)
      refine at_world (fun w' => OneX 60 w0 w' p M3 (fun i => (D2 i ∨ i = A) ∨ i = C) (fun w' => (X2 w' ∧ Blk w' A xs.toArray 44) ∧ Blk w' C ys.toArray 44)) HFL.out ?_
      intro w3 hX3
      have HK3 := Lib.hid (keeps_and HK2.out (keeps_blk C ys.toArray 44))
      have HZ3 := Lib.hid hX3
      have bA := hX3.x.1.2
      have bC := hX3.x.2
      have cU := (HQX.out _ hX3.x.1.1).2.2
      have hkx : kn < x.length := by rw [hrx.1]; exact hkn
      have hky : kn < y.length := by rw [hry.1]; exact hkn
      have gx : x.getD kn 0 = x[kn] := by simp [hkx]
      have gy : y.getD kn 0 = y[kn] := by simp [hky]
      have cA : w3.cell? ⟨A, kn, none⟩ = some (.int .u64 (x.getD kn 0)) := by rw [bA.cell, ← hxs, gx]; simp [wv, hkx]
      have cC : w3.cell? ⟨C, kn, none⟩ = some (.int .u64 (y.getD kn 0)) := by rw [bC.cell, ← hys, gy]; simp [wv, hky]
      have k0 : (0 : Int) ≤ (kn : Int) := by omega
      have k1 : (kn : Int) < 12 := by omega
      clear gx gy hX3 HBX HFL hCe bA bC
      generalize x.getD kn 0 = xk at *
      generalize y.getD kn 0 = yk at *
      have HRX := Lib.hid hrx
      have HRY := Lib.hid hry
      have HXS := Lib.hid hxs
      have HYS := Lib.hid hys
      obtain ⟨up, hup⟩ : ∃ up, q.2.2 = up := ⟨_, rfl⟩
      rw [hup] at HTU cU
      clear hup hrx hry hxs hys
      cases up
      all_goals
        cases tu
        all_goals
          simp only [Bool.false_eq_true, if_false, if_true] at HTU HSL
      · have HW1 := Lib.hid (fun w' (D' : Nat → Prop) (X' : World → Prop) (hK' : Keeps D' X') (h' : OneX 60 w0 w' p M3 D' X') => one_rwrite hK' r (q.1 : Int) x HRX.out.1 HRX.out.2 h' (by omega))
        have hwe := write_evs_le M3 r (q.1 : Int) x
        have HW2 := Lib.hid (fun w' (D' : Nat → Prop) (X' : World → Prop) (hK' : Keeps D' X') (h' : OneX 60 w0 w' p (M3.write r (q.1 : Int) x) D' X') => one_rwrite hK' r (q.2.1 : Int) y HRY.out.1 HRY.out.2 h' (by omega))
        rw [HSL.out] at HW2
        simp only [cw_eq] at HW1 HW2
        rw [HXS.out] at HW1
        rw [HYS.out] at HW2
        clear hwe HSL
        generalize M3.write r (q.1 : Int) x = M4 at *
        have hd : decide (xk < yk) = false := HTU.out.symm
        clear HTU
        go_upto_region 9 with fail
        refine wp_region_cls (fun w' => ∃ n, w' = w3.drewN n) (by kernel_rfl) (by kernel_rfl) ⟨1, rfl⟩ ?_
        repeat (first
          | (with_reducible refine wpQuiet_step ?_
             intro K hK
             refine qs_skipR (by rfl) (hK _ ?_)
             clear hK K
             try simp only [Act.put, List.setIfInBounds_toArray, List.set_cons_zero, List.set_cons_succ])
          | (with_reducible refine wpQuiet_step ?_
             intro K hK
             refine qs_load_cell (by rfl) 4 _ rfl ⟨b, off + k * 3 + 2, none⟩ rfl (.bool false) (fun w ⟨n, hw⟩ => by subst hw; exact cU) Try.isAgg4 (hK _ ?_)
             clear hK K
             try simp only [Act.put, List.setIfInBounds_toArray, List.set_cons_zero, List.set_cons_succ])
          | (with_reducible refine wpQuiet_step ?_
             intro K hK
             refine qs_load_cell (by rfl) 39 _ rfl ⟨A, kn, none⟩ rfl (.int .u64 xk) (fun w ⟨n, hw⟩ => by subst hw; exact cA) Try.isAgg39 (hK _ ?_)
             clear hK K
             try simp only [Act.put, List.setIfInBounds_toArray, List.set_cons_zero, List.set_cons_succ])
          | (with_reducible refine wpQuiet_step ?_
             intro K hK
             refine qs_load_cell (by rfl) 39 _ rfl ⟨C, kn, none⟩ rfl (.int .u64 yk) (fun w ⟨n, hw⟩ => by subst hw; exact cC) Try.isAgg39 (hK _ ?_)
             clear hK K
             try simp only [Act.put, List.setIfInBounds_toArray, List.set_cons_zero, List.set_cons_succ])
          | (with_reducible refine wpQuiet_step ?_
             intro K hK
             go_simp
             first
               | (refine hK _ ?_; clear hK K)
               | (refine ⟨_, fun _ _ => rfl, hK _ ?_⟩; clear hK K)))
        refine wpQuiet_nil ?_
        rintro w3' ⟨nq, rfl⟩
        go_upto_region 11 with fail
        refine at_world (fun w' => OneX 60 w0 w' p M3 (fun i => (D2 i ∨ i = A) ∨ i = C) (fun w' => (X2 w' ∧ Blk w' A xs.toArray 44) ∧ Blk w' C ys.toArray 44)) (HZ3.out.drewN2 HK3.out _) ?_
        clear cA cC cU HZ3 hd
        intro w4 hX4
        have HK4 := Lib.hid (keeps_and (keeps_and HK1.out (keeps_blk A xs.toArray 44)) (keeps_blk C ys.toArray 44))
        have HS : Hid (∀ w' N, OneX 60 w0 w' p N (fun i => (D2 i ∨ i = A) ∨ i = C) (fun w' => (X2 w' ∧ Blk w' A xs.toArray 44) ∧ Blk w' C ys.toArray 44) → (w'.cell? ⟨b, off + k * 3, none⟩ = some (.int .i64 (q.1 : Int)) ∧ w'.rangeAt A 0 xs) ∧ (w'.cell? ⟨b, off + k * 3 + 1, none⟩ = some (.int .i64 (q.2.1 : Int)) ∧ w'.rangeAt C 0 ys)) := Lib.hid fun w' N h => ⟨⟨(HQX.out _ h.x.1.1).1, h.x.1.2.range⟩, (HQX.out _ h.x.1.1).2.1, h.x.2.range⟩
        have hx5 := hX4.drew HK4.out
        have hs5 := (HS.out _ _ hx5).1
        clear hX4
        go_region_held3 (fun w' => w'.cell? ⟨b, off + k * 3, none⟩ = some (.int .i64 (q.1 : Int)) ∧ w'.rangeAt A 0 xs) (first | exact (HS.out _ _ (by assumption)).1) (first
          | (go_at_call 41; (with_reducible refine (HW1.out _ _ _ HK4.out hx5).mono ?_); rintro e w6 ⟨rfl, hx6⟩))
        clear hx5 hs5
        have hx7 := hx6.drew HK4.out
        have hs7 := (HS.out _ _ hx7).2
        clear hx6
        go_wp2_with fail
        go_region_held3 (fun w' => w'.cell? ⟨b, off + k * 3 + 1, none⟩ = some (.int .i64 (q.2.1 : Int)) ∧ w'.rangeAt C 0 ys) (first | exact (HS.out _ _ (by assumption)).2) (first
          | (go_at_call 41; (with_reducible refine (HW2.out _ _ _ HK4.out hx7).mono ?_); rintro e w8 ⟨rfl, hx8⟩))
        clear hx7 hs7
        have HX8 := Lib.hid (hx8.less (E := D2) (Y := X2) (fun _ h => .inl (.inl h)) (fun h => h.1.1))
        clear hx8
        go_wp2
        go_roundw
        case rel => exact ⟨k + 1, by omega, by go_num, HX8⟩
        case measure => simp [intOf]; omega
      · have HW1 := Lib.hid (fun w' (D' : Nat → Prop) (X' : World → Prop) (hK' : Keeps D' X') (h' : OneX 60 w0 w' p M3 D' X') => one_rwrite hK' r (q.1 : Int) y HRY.out.1 HRY.out.2 h' (by omega))
        have hwe := write_evs_le M3 r (q.1 : Int) y
        have HW2 := Lib.hid (fun w' (D' : Nat → Prop) (X' : World → Prop) (hK' : Keeps D' X') (h' : OneX 60 w0 w' p (M3.write r (q.1 : Int) y) D' X') => one_rwrite hK' r (q.2.1 : Int) x HRX.out.1 HRX.out.2 h' (by omega))
        rw [HSL.out] at HW2
        simp only [cw_eq] at HW1 HW2
        rw [HYS.out] at HW1
        rw [HXS.out] at HW2
        clear hwe HSL
        generalize M3.write r (q.1 : Int) y = M4 at *
        have hd : decide (xk < yk) = true := HTU.out.symm
        clear HTU
        go_upto_region 9 with fail
        refine wp_region_cls (fun w' => ∃ n, w' = w3.drewN n) (by kernel_rfl) (by kernel_rfl) ⟨1, rfl⟩ ?_
        repeat (first
          | (with_reducible refine wpQuiet_step ?_
             intro K hK
             refine qs_skipR (by rfl) (hK _ ?_)
             clear hK K
             try simp only [Act.put, List.setIfInBounds_toArray, List.set_cons_zero, List.set_cons_succ])
          | (with_reducible refine wpQuiet_step ?_
             intro K hK
             refine qs_load_cell (by rfl) 4 _ rfl ⟨b, off + k * 3 + 2, none⟩ rfl (.bool false) (fun w ⟨n, hw⟩ => by subst hw; exact cU) Try.isAgg4 (hK _ ?_)
             clear hK K
             try simp only [Act.put, List.setIfInBounds_toArray, List.set_cons_zero, List.set_cons_succ])
          | (with_reducible refine wpQuiet_step ?_
             intro K hK
             refine qs_load_cell (by rfl) 39 _ rfl ⟨A, kn, none⟩ rfl (.int .u64 xk) (fun w ⟨n, hw⟩ => by subst hw; exact cA) Try.isAgg39 (hK _ ?_)
             clear hK K
             try simp only [Act.put, List.setIfInBounds_toArray, List.set_cons_zero, List.set_cons_succ])
          | (with_reducible refine wpQuiet_step ?_
             intro K hK
             refine qs_load_cell (by rfl) 39 _ rfl ⟨C, kn, none⟩ rfl (.int .u64 yk) (fun w ⟨n, hw⟩ => by subst hw; exact cC) Try.isAgg39 (hK _ ?_)
             clear hK K
             try simp only [Act.put, List.setIfInBounds_toArray, List.set_cons_zero, List.set_cons_succ])
          | (with_reducible refine wpQuiet_step ?_
             intro K hK
             go_simp
             first
               | (refine hK _ ?_; clear hK K)
               | (refine ⟨_, fun _ _ => rfl, hK _ ?_⟩; clear hK K)))
        refine wpQuiet_nil ?_
        rintro w3' ⟨nq, rfl⟩
        go_upto_region 10 with fail
        refine at_world (fun w' => OneX 60 w0 w' p M3 (fun i => (D2 i ∨ i = A) ∨ i = C) (fun w' => (X2 w' ∧ Blk w' A xs.toArray 44) ∧ Blk w' C ys.toArray 44)) (HZ3.out.drewN2 HK3.out _) ?_
        intro w3' hZ3'
        have HZ4 := Lib.hid hZ3'
        have HB5 := Lib.hid (HZ4.out.turn2 HK1.out HNE.out hAC HGE.out ys.toArray xs.toArray)
        clear cA cC cU hZ3' HZ3 hd
        go_upto_region 11 with (first
          | (refine wpList_load_row rfl 44 (.tmp 11) rfl A rfl 44 xs.toArray (0, 0) _ HZ4.out.x.1.2 Try.underlying44 rfl HIX.out ?_)
          | (refine wpList_load_row rfl 44 (.tmp 12) rfl C rfl 44 ys.toArray (0, 0) _ HZ4.out.x.2 Try.underlying44 rfl HIY.out ?_)
          | (refine wpList_store_row rfl 44 (.tmp 11) (.tmp 86) rfl A ys.toArray rfl rfl 44 _ HZ4.out.x.1.2 HIY.out (by rw [hzx, hzy]) HOY.out ?_)
          | (refine wpList_store_row rfl 44 (.tmp 12) (.tmp 87) rfl C xs.toArray rfl rfl 44 _ HB5.out.1 HIX.out (by rw [hzx, hzy]) HOX.out ?_)
          | fail)
        refine at_world (fun w' => OneX 60 w0 w' p M3 (fun i => (D2 i ∨ i = A) ∨ i = C) (fun w' => (X2 w' ∧ Blk w' A ys.toArray 44) ∧ Blk w' C xs.toArray 44)) HB5.out.2 ?_
        clear HB5 HZ4
        intro w4 hX4
        have HK4 := Lib.hid (keeps_and (keeps_and HK1.out (keeps_blk A ys.toArray 44)) (keeps_blk C xs.toArray 44))
        have HS : Hid (∀ w' N, OneX 60 w0 w' p N (fun i => (D2 i ∨ i = A) ∨ i = C) (fun w' => (X2 w' ∧ Blk w' A ys.toArray 44) ∧ Blk w' C xs.toArray 44) → (w'.cell? ⟨b, off + k * 3, none⟩ = some (.int .i64 (q.1 : Int)) ∧ w'.rangeAt A 0 ys) ∧ (w'.cell? ⟨b, off + k * 3 + 1, none⟩ = some (.int .i64 (q.2.1 : Int)) ∧ w'.rangeAt C 0 xs)) := Lib.hid fun w' N h => ⟨⟨(HQX.out _ h.x.1.1).1, h.x.1.2.range⟩, (HQX.out _ h.x.1.1).2.1, h.x.2.range⟩
        have hx5 := hX4.drew HK4.out
        have hs5 := (HS.out _ _ hx5).1
        clear hX4
        go_region_held3 (fun w' => w'.cell? ⟨b, off + k * 3, none⟩ = some (.int .i64 (q.1 : Int)) ∧ w'.rangeAt A 0 ys) (first | exact (HS.out _ _ (by assumption)).1) (first
          | (go_at_call 41; (with_reducible refine (HW1.out _ _ _ HK4.out hx5).mono ?_); rintro e w6 ⟨rfl, hx6⟩))
        clear hx5 hs5
        have hx7 := hx6.drew HK4.out
        have hs7 := (HS.out _ _ hx7).2
        clear hx6
        go_wp2_with fail
        go_region_held3 (fun w' => w'.cell? ⟨b, off + k * 3 + 1, none⟩ = some (.int .i64 (q.2.1 : Int)) ∧ w'.rangeAt C 0 xs) (first | exact (HS.out _ _ (by assumption)).2) (first
          | (go_at_call 41; (with_reducible refine (HW2.out _ _ _ HK4.out hx7).mono ?_); rintro e w8 ⟨rfl, hx8⟩))
        clear hx7 hs7
        have HX8 := Lib.hid (hx8.less (E := D2) (Y := X2) (fun _ h => .inl (.inl h)) (fun h => h.1.1))
        clear hx8
        go_wp2
        go_roundw
        case rel => exact ⟨k + 1, by omega, by go_num, HX8⟩
        case measure => simp [intOf]; omega
      · have HW1 := Lib.hid (fun w' (D' : Nat → Prop) (X' : World → Prop) (hK' : Keeps D' X') (h' : OneX 60 w0 w' p M3 D' X') => one_rwrite hK' r (q.1 : Int) x HRX.out.1 HRX.out.2 h' (by omega))
        have hwe := write_evs_le M3 r (q.1 : Int) x
        have HW2 := Lib.hid (fun w' (D' : Nat → Prop) (X' : World → Prop) (hK' : Keeps D' X') (h' : OneX 60 w0 w' p (M3.write r (q.1 : Int) x) D' X') => one_rwrite hK' r (q.2.1 : Int) y HRY.out.1 HRY.out.2 h' (by omega))
        rw [HSL.out] at HW2
        simp only [cw_eq] at HW1 HW2
        rw [HXS.out] at HW1
        rw [HYS.out] at HW2
        clear hwe HSL
        generalize M3.write r (q.1 : Int) x = M4 at *
        have hd : decide (yk < xk) = false := HTU.out.symm
        clear HTU
        go_upto_region 9 with fail
        refine wp_region_cls (fun w' => ∃ n, w' = w3.drewN n) (by kernel_rfl) (by kernel_rfl) ⟨1, rfl⟩ ?_
        repeat (first
          | (with_reducible refine wpQuiet_step ?_
             intro K hK
             refine qs_skipR (by rfl) (hK _ ?_)
             clear hK K
             try simp only [Act.put, List.setIfInBounds_toArray, List.set_cons_zero, List.set_cons_succ])
          | (with_reducible refine wpQuiet_step ?_
             intro K hK
             refine qs_load_cell (by rfl) 4 _ rfl ⟨b, off + k * 3 + 2, none⟩ rfl (.bool true) (fun w ⟨n, hw⟩ => by subst hw; exact cU) Try.isAgg4 (hK _ ?_)
             clear hK K
             try simp only [Act.put, List.setIfInBounds_toArray, List.set_cons_zero, List.set_cons_succ])
          | (with_reducible refine wpQuiet_step ?_
             intro K hK
             refine qs_load_cell (by rfl) 39 _ rfl ⟨A, kn, none⟩ rfl (.int .u64 xk) (fun w ⟨n, hw⟩ => by subst hw; exact cA) Try.isAgg39 (hK _ ?_)
             clear hK K
             try simp only [Act.put, List.setIfInBounds_toArray, List.set_cons_zero, List.set_cons_succ])
          | (with_reducible refine wpQuiet_step ?_
             intro K hK
             refine qs_load_cell (by rfl) 39 _ rfl ⟨C, kn, none⟩ rfl (.int .u64 yk) (fun w ⟨n, hw⟩ => by subst hw; exact cC) Try.isAgg39 (hK _ ?_)
             clear hK K
             try simp only [Act.put, List.setIfInBounds_toArray, List.set_cons_zero, List.set_cons_succ])
          | (with_reducible refine wpQuiet_step ?_
             intro K hK
             go_simp
             first
               | (refine hK _ ?_; clear hK K)
               | (refine ⟨_, fun _ _ => rfl, hK _ ?_⟩; clear hK K)))
        refine wpQuiet_nil ?_
        rintro w3' ⟨nq, rfl⟩
        go_upto_region 11 with fail
        refine at_world (fun w' => OneX 60 w0 w' p M3 (fun i => (D2 i ∨ i = A) ∨ i = C) (fun w' => (X2 w' ∧ Blk w' A xs.toArray 44) ∧ Blk w' C ys.toArray 44)) (HZ3.out.drewN2 HK3.out _) ?_
        clear cA cC cU HZ3 hd
        intro w4 hX4
        have HK4 := Lib.hid (keeps_and (keeps_and HK1.out (keeps_blk A xs.toArray 44)) (keeps_blk C ys.toArray 44))
        have HS : Hid (∀ w' N, OneX 60 w0 w' p N (fun i => (D2 i ∨ i = A) ∨ i = C) (fun w' => (X2 w' ∧ Blk w' A xs.toArray 44) ∧ Blk w' C ys.toArray 44) → (w'.cell? ⟨b, off + k * 3, none⟩ = some (.int .i64 (q.1 : Int)) ∧ w'.rangeAt A 0 xs) ∧ (w'.cell? ⟨b, off + k * 3 + 1, none⟩ = some (.int .i64 (q.2.1 : Int)) ∧ w'.rangeAt C 0 ys)) := Lib.hid fun w' N h => ⟨⟨(HQX.out _ h.x.1.1).1, h.x.1.2.range⟩, (HQX.out _ h.x.1.1).2.1, h.x.2.range⟩
        have hx5 := hX4.drew HK4.out
        have hs5 := (HS.out _ _ hx5).1
        clear hX4
        go_region_held3 (fun w' => w'.cell? ⟨b, off + k * 3, none⟩ = some (.int .i64 (q.1 : Int)) ∧ w'.rangeAt A 0 xs) (first | exact (HS.out _ _ (by assumption)).1) (first
          | (go_at_call 41; (with_reducible refine (HW1.out _ _ _ HK4.out hx5).mono ?_); rintro e w6 ⟨rfl, hx6⟩))
        clear hx5 hs5
        have hx7 := hx6.drew HK4.out
        have hs7 := (HS.out _ _ hx7).2
        clear hx6
        go_wp2_with fail
        go_region_held3 (fun w' => w'.cell? ⟨b, off + k * 3 + 1, none⟩ = some (.int .i64 (q.2.1 : Int)) ∧ w'.rangeAt C 0 ys) (first | exact (HS.out _ _ (by assumption)).2) (first
          | (go_at_call 41; (with_reducible refine (HW2.out _ _ _ HK4.out hx7).mono ?_); rintro e w8 ⟨rfl, hx8⟩))
        clear hx7 hs7
        have HX8 := Lib.hid (hx8.less (E := D2) (Y := X2) (fun _ h => .inl (.inl h)) (fun h => h.1.1))
        clear hx8
        go_wp2
        go_roundw
        case rel => exact ⟨k + 1, by omega, by go_num, HX8⟩
        case measure => simp [intOf]; omega
      · have HW1 := Lib.hid (fun w' (D' : Nat → Prop) (X' : World → Prop) (hK' : Keeps D' X') (h' : OneX 60 w0 w' p M3 D' X') => one_rwrite hK' r (q.1 : Int) y HRY.out.1 HRY.out.2 h' (by omega))
        have hwe := write_evs_le M3 r (q.1 : Int) y
        have HW2 := Lib.hid (fun w' (D' : Nat → Prop) (X' : World → Prop) (hK' : Keeps D' X') (h' : OneX 60 w0 w' p (M3.write r (q.1 : Int) y) D' X') => one_rwrite hK' r (q.2.1 : Int) x HRX.out.1 HRX.out.2 h' (by omega))
        rw [HSL.out] at HW2
        simp only [cw_eq] at HW1 HW2
        rw [HYS.out] at HW1
        rw [HXS.out] at HW2
        clear hwe HSL
        generalize M3.write r (q.1 : Int) y = M4 at *
        have hd : decide (yk < xk) = true := HTU.out.symm
        clear HTU
        go_upto_region 9 with fail
        refine wp_region_cls (fun w' => ∃ n, w' = w3.drewN n) (by kernel_rfl) (by kernel_rfl) ⟨1, rfl⟩ ?_
        repeat (first
          | (with_reducible refine wpQuiet_step ?_
             intro K hK
             refine qs_skipR (by rfl) (hK _ ?_)
             clear hK K
             try simp only [Act.put, List.setIfInBounds_toArray, List.set_cons_zero, List.set_cons_succ])
          | (with_reducible refine wpQuiet_step ?_
             intro K hK
             refine qs_load_cell (by rfl) 4 _ rfl ⟨b, off + k * 3 + 2, none⟩ rfl (.bool true) (fun w ⟨n, hw⟩ => by subst hw; exact cU) Try.isAgg4 (hK _ ?_)
             clear hK K
             try simp only [Act.put, List.setIfInBounds_toArray, List.set_cons_zero, List.set_cons_succ])
          | (with_reducible refine wpQuiet_step ?_
             intro K hK
             refine qs_load_cell (by rfl) 39 _ rfl ⟨A, kn, none⟩ rfl (.int .u64 xk) (fun w ⟨n, hw⟩ => by subst hw; exact cA) Try.isAgg39 (hK _ ?_)
             clear hK K
             try simp only [Act.put, List.setIfInBounds_toArray, List.set_cons_zero, List.set_cons_succ])
          | (with_reducible refine wpQuiet_step ?_
             intro K hK
             refine qs_load_cell (by rfl) 39 _ rfl ⟨C, kn, none⟩ rfl (.int .u64 yk) (fun w ⟨n, hw⟩ => by subst hw; exact cC) Try.isAgg39 (hK _ ?_)
             clear hK K
             try simp only [Act.put, List.setIfInBounds_toArray, List.set_cons_zero, List.set_cons_succ])
          | (with_reducible refine wpQuiet_step ?_
             intro K hK
             go_simp
             first
               | (refine hK _ ?_; clear hK K)
               | (refine ⟨_, fun _ _ => rfl, hK _ ?_⟩; clear hK K)))
        refine wpQuiet_nil ?_
        rintro w3' ⟨nq, rfl⟩
        go_upto_region 10 with fail
        refine at_world (fun w' => OneX 60 w0 w' p M3 (fun i => (D2 i ∨ i = A) ∨ i = C) (fun w' => (X2 w' ∧ Blk w' A xs.toArray 44) ∧ Blk w' C ys.toArray 44)) (HZ3.out.drewN2 HK3.out _) ?_
        intro w3' hZ3'
        have HZ4 := Lib.hid hZ3'
        have HB5 := Lib.hid (HZ4.out.turn2 HK1.out HNE.out hAC HGE.out ys.toArray xs.toArray)
        clear cA cC cU hZ3' HZ3 hd
        go_upto_region 11 with (first
          | (refine wpList_load_row rfl 44 (.tmp 11) rfl A rfl 44 xs.toArray (0, 0) _ HZ4.out.x.1.2 Try.underlying44 rfl HIX.out ?_)
          | (refine wpList_load_row rfl 44 (.tmp 12) rfl C rfl 44 ys.toArray (0, 0) _ HZ4.out.x.2 Try.underlying44 rfl HIY.out ?_)
          | (refine wpList_store_row rfl 44 (.tmp 11) (.tmp 86) rfl A ys.toArray rfl rfl 44 _ HZ4.out.x.1.2 HIY.out (by rw [hzx, hzy]) HOY.out ?_)
          | (refine wpList_store_row rfl 44 (.tmp 12) (.tmp 87) rfl C xs.toArray rfl rfl 44 _ HB5.out.1 HIX.out (by rw [hzx, hzy]) HOX.out ?_)
          | fail)
        refine at_world (fun w' => OneX 60 w0 w' p M3 (fun i => (D2 i ∨ i = A) ∨ i = C) (fun w' => (X2 w' ∧ Blk w' A ys.toArray 44) ∧ Blk w' C xs.toArray 44)) HB5.out.2 ?_
        clear HB5 HZ4
        intro w4 hX4
        have HK4 := Lib.hid (keeps_and (keeps_and HK1.out (keeps_blk A ys.toArray 44)) (keeps_blk C xs.toArray 44))
        have HS : Hid (∀ w' N, OneX 60 w0 w' p N (fun i => (D2 i ∨ i = A) ∨ i = C) (fun w' => (X2 w' ∧ Blk w' A ys.toArray 44) ∧ Blk w' C xs.toArray 44) → (w'.cell? ⟨b, off + k * 3, none⟩ = some (.int .i64 (q.1 : Int)) ∧ w'.rangeAt A 0 ys) ∧ (w'.cell? ⟨b, off + k * 3 + 1, none⟩ = some (.int .i64 (q.2.1 : Int)) ∧ w'.rangeAt C 0 xs)) := Lib.hid fun w' N h => ⟨⟨(HQX.out _ h.x.1.1).1, h.x.1.2.range⟩, (HQX.out _ h.x.1.1).2.1, h.x.2.range⟩
        have hx5 := hX4.drew HK4.out
        have hs5 := (HS.out _ _ hx5).1
        clear hX4
        go_region_held3 (fun w' => w'.cell? ⟨b, off + k * 3, none⟩ = some (.int .i64 (q.1 : Int)) ∧ w'.rangeAt A 0 ys) (first | exact (HS.out _ _ (by assumption)).1) (first
          | (go_at_call 41; (with_reducible refine (HW1.out _ _ _ HK4.out hx5).mono ?_); rintro e w6 ⟨rfl, hx6⟩))
        clear hx5 hs5
        have hx7 := hx6.drew HK4.out
        have hs7 := (HS.out _ _ hx7).2
        clear hx6
        go_wp2_with fail
        go_region_held3 (fun w' => w'.cell? ⟨b, off + k * 3 + 1, none⟩ = some (.int .i64 (q.2.1 : Int)) ∧ w'.rangeAt C 0 xs) (first | exact (HS.out _ _ (by assumption)).2) (first
          | (go_at_call 41; (with_reducible refine (HW2.out _ _ _ HK4.out hx7).mono ?_); rintro e w8 ⟨rfl, hx8⟩))
        clear hx7 hs7
        have HX8 := Lib.hid (hx8.less (E := D2) (Y := X2) (fun _ h => .inl (.inl h)) (fun h => h.1.1))
        clear hx8
        go_wp2
        go_roundw
        case rel => exact ⟨k + 1, by omega, by go_num, HX8⟩
        case measure => simp [intOf]; omega
    · obtain rfl : k = ps.length := by omega
      have HE : Hid (OneX 60 w0 wr p ((M.srt r kn ps).noted (evsS r ps)) D X) := Lib.hid (by
        have := HXr.out.less (E := D) (Y := X) (fun _ h => .inl h) (fun h => h.1)
        rwa [List.take_length] at this)
      clear HXr
      go_wp2
      go_ret
      exact ⟨rfl, HE.out⟩
end Go.Proofs.Ytngpaibppdehdaa
