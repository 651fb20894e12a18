/-
  Joined texts: SortRun, SortEvs, SortOne, SortRef, SortTwo.
-/
import Derived.Test.YthchfdobdghdoaaGreatHbl
import Derived.Test.YthchfdobdghdoaaGreatHbj
import Derived.Deep.DeepCutAuto
import Derived.Test.YthchfdobdghdoaaGreatHau
import Derived.Test.YthchfdobdghdoaaGreatHbk
import Derived.BigRegion
import Derived.Deep.RegionHeld3
import Derived.Test.YthchfdobdghdoaaGreatHav
set_option linter.unusedVariables false
set_option linter.unusedSimpArgs false
set_option linter.unusedSectionVars false
set_option linter.unnecessarySimpa false
section

/-
  The walk of sort.Run: a region's first cells are put in order, unseen.
-/
namespace Go.Proofs.YthchfdobdghdoaaGreat
open Go Go.RowKit Go.Sg
variable {w0 w : World} {p : Nat} {M : Mm} {D : Nat → Prop} {X : World → Prop}

theorem prc_all (q : Pr) : (prc q).toArray.all (·.oneCell') = true := by simp [prc, Value.oneCell']
theorem netP_few (t : Nat) (ht : t ≤ 10) : (netP (2 ^ t) t).length ≤ 30000 := by
  rw [netP_cnt t ht]
  have h2 : ∀ t : Fin 11, cntI t.val ≤ 30000 := by decide +kernel
  exact h2 ⟨t, by omega⟩

set_option maxRecDepth 100000 in
theorem one_run_no (n r key : Int) (hbad : rightB n = false ∨ (M.size r : Int) < n ∨ key < 0 ∨ 12 ≤ key) (h : OneX 88 w0 w p M D X) :
    Calls Tryz.prog 90 #[.pointer (some ⟨p, 0, none⟩), .int .i64 r, .int .i64 n, .int .i64 key] w fun e w' => e = .returned (.int .i64 1) ∧ w' = w := by
  have HX := Lib.hid h
  have K := Lib.hid (fun w => netRight_any n w)
  have KS := Lib.hid (one_size r h)
  clear h
  by_cases h0 : rightB n = false
  · rw [h0] at K
    clear h0 hbad
    go_enter Tryz.func90, Tryz.ntmps90
    go_wp2_with (first
      | (go_at_call 83; refine (K.out _).mono ?_; rintro e w' ⟨rfl, rfl⟩)
      | fail)
    go_ret
    exact ⟨rfl, rfl⟩
  have h0' : rightB n = true := by simpa using h0
  rw [h0'] at K
  have hs4 := Mm.size_le HX.out.ok r
  by_cases h1 : (M.size r : Int) < n
  · have d1 : decide ((M.size r : Int) < n) = true := decide_eq_true h1
    clear h0 h0' h1 hbad
    generalize M.size r = sz at *
    go_enter Tryz.func90, Tryz.ntmps90
    go_wp2_with (first
      | (go_at_call 83; refine (K.out _).mono ?_; rintro e w' ⟨rfl, rfl⟩)
      | (go_at_call 45; refine KS.out.mono ?_; rintro e w' ⟨rfl, rfl⟩)
      | fail)
    go_ret
    exact ⟨rfl, rfl⟩
  have d1 : decide ((M.size r : Int) < n) = false := decide_eq_false h1
  by_cases h2 : key < 0
  · have d2 : decide (key < 0) = true := decide_eq_true h2
    clear h0 h0' h1 hbad h2
    generalize M.size r = sz at *
    go_enter Tryz.func90, Tryz.ntmps90
    go_wp2_with (first
      | (go_at_call 83; refine (K.out _).mono ?_; rintro e w' ⟨rfl, rfl⟩)
      | (go_at_call 45; refine KS.out.mono ?_; rintro e w' ⟨rfl, rfl⟩)
      | fail)
    go_ret
    exact ⟨rfl, rfl⟩
  have d2 : decide (key < 0) = false := decide_eq_false h2
  have h3 : 12 ≤ key := by
    rcases hbad with h | h | h | h
    · exact absurd h h0
    · exact absurd h h1
    · exact absurd h h2
    · exact h
  have d3 : decide (12 ≤ key) = true := decide_eq_true h3
  clear h0 h0' h1 hbad h2 h3
  generalize M.size r = sz at *
  go_enter Tryz.func90, Tryz.ntmps90
  go_wp2_with (first
    | (go_at_call 83; refine (K.out _).mono ?_; rintro e w' ⟨rfl, rfl⟩)
    | (go_at_call 45; refine KS.out.mono ?_; rintro e w' ⟨rfl, rfl⟩)
    | fail)
  go_ret
  exact ⟨rfl, rfl⟩

set_option maxHeartbeats 4000000 in
set_option maxRecDepth 100000 in
theorem one_run_yes (hK : Keeps D X) (t : Nat) (ht : t ≤ 10) (r : Int) (kn : Nat) (hkn : kn < 12) (hsz : 2 ^ t ≤ M.size r) (h : OneX 88 w0 w p M D X) (hN : M.evs.length ≤ 1099511000000) :
    Calls Tryz.prog 90 #[.pointer (some ⟨p, 0, none⟩), .int .i64 r, .int .i64 ((2 ^ t : Nat) : Int), .int .i64 (kn : Int)] w fun e w' => e = .returned (.int .i64 0) ∧ OneX 88 w0 w' p ((M.srt r kn (netP (2 ^ t) t)).noted (evsS r (netP (2 ^ t) t))) D X := by
  have hok := h.ok
  have hr : rightB ((2 ^ t : Nat) : Int) = true := by
    have := rightB_pow t ht
    rwa [show ((2 ^ t : Nat) : Int) = (2 : Int) ^ t by simp]
  have K := Lib.hid (fun w => netRight_any ((2 ^ t : Nat) : Int) w)
  rw [hr] at K
  have KS := Lib.hid (one_size r h)
  have KP := Lib.hid (fun w => netPairs_yes t ht w)
  have hpo : PrsOk (M.size r) (netP (2 ^ t) t) := fun q hq => by
    have := netP_ok t (Nat.le_refl t) q hq
    omega
  have HPO := Lib.hid hpo
  have hpl : (netP (2 ^ t) t).length ≤ 30000 := netP_few t ht
  have hs4 := Mm.size_le hok r
  have HX := Lib.hid h
  have HOK := Lib.hid hok
  have d1 : decide (M.size r < 2 ^ t) = false := decide_eq_false (by omega)
  have d2 : decide ((kn : Int) < 0) = false := decide_eq_false (by omega)
  have d3 : decide ((12 : Int) ≤ (kn : Int)) = false := decide_eq_false (by omega)
  have d4 : decide (12 ≤ kn) = false := decide_eq_false (by omega)
  obtain ⟨n, hn⟩ : ∃ n, 2 ^ t = n := ⟨_, rfl⟩
  obtain ⟨ps, hps⟩ : ∃ ps, netP (2 ^ t) t = ps := ⟨_, rfl⟩
  rw [hps] at KP HPO hpl ⊢
  rw [hn] at K d1 KP ⊢
  clear hr hpo hn hps h hok hsz ht
  obtain ⟨sz, hsz⟩ : ∃ sz, M.size r = sz := ⟨_, rfl⟩
  rw [hsz] at KS d1 hs4 HPO
  go_enter Tryz.func90, Tryz.ntmps90
  go_wp2_with (first
    | (go_at_call 83; refine (K.out _).mono ?_; rintro e w' ⟨rfl, rfl⟩)
    | (go_at_call 45; refine KS.out.mono ?_; rintro e w' ⟨rfl, rfl⟩)
    | fail)
  refine (KP.out _).mono ?_
  rintro e w1 ⟨v, rfl, hown, hb1⟩
  have hq := SlQ.of_owns hown
  have hX1 := HX.out.ret (E := OwnP v ps) (Y := fun w' => SlQ w' v ps) hK hb1 (fun k hk => ⟨(hown.lt k hk.1).1, slQ_own_lt hq k hk⟩) hq
  have HK1 := Lib.hid (keeps_and hK (keeps_slQ v ps))
  have HX0 : Hid (OneX 88 w0 w1 p ((M.srt r kn (ps.take 0)).noted (evsS r (ps.take 0))) (fun i => D i ∨ OwnP v ps i) (fun w' => X w' ∧ SlQ w' v ps)) := Lib.hid (by
    rw [List.take_zero, Mm.srt_nil, evsS_nil, Mm.noted_nil]
    exact hX1)
  obtain ⟨va, vc, rfl, hc1, hc2, _⟩ := hq
  clear hX1 hown hb1 HX KP K KS
  unfold maxLen at hc2
  go_wp2_with fail
  go_loopw [35] (fun i wr => ∃ k : Nat, k ≤ ps.length ∧ i = .int .i64 k ∧ Hid (OneX 88 w0 wr p ((M.srt r kn (ps.take k)).noted (evsS r (ps.take k))) (fun i => D i ∨ OwnP (.slice va ps.length vc) ps i) (fun w' => X w' ∧ SlQ w' (.slice va ps.length vc) ps))) (fun i _ => ps.length - (intOf i).toNat)
  case atStart => exact ⟨0, by omega, rfl, HX0⟩
  case round =>
    obtain ⟨k, hk, rfl, HXr⟩ := hrel
    clear HX0
    by_cases hlt : k < ps.length
    · obtain ⟨b, off, cap, hvv, hblt, hrow⟩ := HXr.out.x.2.row hlt
      simp only [Value.slice.injEq, true_and] at hvv
      obtain ⟨rfl, rfl⟩ := hvv
      obtain ⟨q, hqk⟩ : ∃ q, ps[k] = q := ⟨_, rfl⟩
      rw [hqk] at hrow
      have hqo := HPO.out q (by rw [← hqk]; exact List.getElem_mem hlt)
      have htk : ps.take (k + 1) = ps.take k ++ [q] := by rw [List.take_succ_eq_append_getElem hlt, hqk]
      have HTK := Lib.hid htk
      have HROW := Lib.hid hrow
      have HIP : Hid ((Tryz.prog.info? 123).map (·.size) = some (prc q).length) := Lib.hid (by kernel_rfl)
      have HIP2 : Hid ((Tryz.prog.info? 123).map (·.size) = some (prc q).toArray.size) := Lib.hid (by kernel_rfl)
      have hsl := Mm.srt_look HOK.out (r := r) (key := kn) (ps.take k) q hqo.1 (by rw [hsz]; exact hqo.2) (evsS r (ps.take k))
      rw [← htk, ← evsS_snoc, ← htk] at hsl
      have HSL := Lib.hid hsl
      have hev : ((M.srt r kn (ps.take k)).noted (evsS r (ps.take k))).evs.length ≤ 1099511200000 := by
        rw [Mm.noted_evs, Mm.srt_evs, List.length_append, evsS_len, List.length_take]
        omega
      have hokk := Mm.srt_ok HOK.out r kn (ps.take k)
      have HOKK := Lib.hid hokk
      have i0 : (0 : Int) ≤ (k : Int) := by omega
      have i1 : (k : Int) < (ps.length : Int) := by omega
      clear hqk htk hsl hokk hrow
      generalize M.srt r kn (ps.take k) = Mk at *
      generalize evsS r (ps.take k) = ek at *
      obtain ⟨B, hB⟩ : ∃ B, wr.heap.size = B := ⟨_, rfl⟩
      have hbx := HXr.out.box HK1.out #[.int .i64 0, .int .i64 0, .bool false] 123
      have hfl := HXr.out.fillF HK1.out #[.int .i64 0, .int .i64 0, .bool false] (prc q).toArray 123
      rw [hB] at hbx hfl
      have HBX := Lib.hid hbx
      have HFL := Lib.hid hfl
      clear hbx hfl
      go_upto_region 6 with (first
        | (refine wpList_load_mid rfl 123 (.tmp 37) rfl b (off + k * 3) rfl (prc q) _ HROW.out Tryz.underlying123 rfl HIP.out ?_)
        | (refine wpList_store_row rfl 123 (.tmp 10) (.tmp 38) rfl B (prc q).toArray rfl rfl 123 _ HBX.out.x.2 HIP2.out rfl (prc_all q) ?_)
        | fail)
      refine at_world (fun w' => OneX 88 w0 w' p (Mk.noted ek) (fun i => (D i ∨ OwnP (.slice (some ⟨b, off, none⟩) ps.length vc) ps i) ∨ i = B) (fun w' => (X w' ∧ SlQ w' (.slice (some ⟨b, off, none⟩) ps.length vc) ps) ∧ Blk w' B (prc q).toArray 123)) HFL.out ?_
      intro w2 hX2
      have hK2 := keeps_and HK1.out (keeps_blk B (prc q).toArray 123)
      generalize hD2 : (fun i => (D i ∨ OwnP (.slice (some ⟨b, off, none⟩) ps.length vc) ps i) ∨ i = B) = D2 at *
      have HCB : Hid (∀ w' N, OneX 88 w0 w' p N D2 (fun w' => (X w' ∧ SlQ w' (.slice (some ⟨b, off, none⟩) ps.length vc) ps) ∧ Blk w' B (prc q).toArray 123) → w'.cell? ⟨B, 0, none⟩ = some (.int .i64 (q.1 : Int)) ∧ w'.cell? ⟨B, 1, none⟩ = some (.int .i64 (q.2.1 : Int)) ∧ w'.cell? ⟨B, 2, none⟩ = some (.bool q.2.2)) := Lib.hid fun w' N h => ⟨h.x.2.cell 0, h.x.2.cell 1, h.x.2.cell 2⟩
      generalize hX2d : (fun w' => (X w' ∧ SlQ w' (.slice (some ⟨b, off, none⟩) ps.length vc) ps) ∧ Blk w' B (prc q).toArray 123) = X2 at *
      have HK2 := Lib.hid hK2
      have hl1 := look_evs_le (Mk.noted ek) r (q.1 : Int) false
      have hl2 := look_evs_le ((Mk.noted ek).look r (q.1 : Int) false) r (q.2.1 : Int) false
      have K1 := Lib.hid (fun w' (D' : Nat → Prop) (X' : World → Prop) (hK' : Keeps D' X') (h' : OneX 88 w0 w' p (Mk.noted ek) D' X') => one_read hK' r (q.1 : Int) h' (by omega))
      have K2 := Lib.hid (fun w' (D' : Nat → Prop) (X' : World → Prop) (hK' : Keeps D' X') (h' : OneX 88 w0 w' p ((Mk.noted ek).look r (q.1 : Int) false) D' X') => one_read hK' r (q.2.1 : Int) h' (by omega))
      rw [Mm.noted_read] at K1
      rw [Mm.read_look, Mm.noted_read] at K2
      have hrx := Mm.read_ok HOKK.out r (q.1 : Int)
      have hry := Mm.read_ok HOKK.out r (q.2.1 : Int)
      have HTU : Hid (Mk.turn r kn q = decide (if q.2.2 then (Mk.read r (q.2.1 : Int)).getD kn 0 < (Mk.read r (q.1 : Int)).getD kn 0 else (Mk.read r (q.1 : Int)).getD kn 0 < (Mk.read r (q.2.1 : Int)).getD kn 0)) := Lib.hid rfl
      obtain ⟨tu, htu⟩ : ∃ tu, Mk.turn r kn q = tu := ⟨_, rfl⟩
      rw [htu] at HTU HSL
      clear htu HFL HBX
      generalize Mk.read r (q.1 : Int) = x at *
      generalize Mk.read r (q.2.1 : Int) = y at *
      obtain ⟨xs, hxs⟩ : ∃ xs, wv x = xs := ⟨_, rfl⟩
      obtain ⟨ys, hys⟩ : ∃ ys, wv y = ys := ⟨_, rfl⟩
      rw [cw_eq, hxs] at K1
      rw [cw_eq, hys] at K2
      have HXC : Hid (∀ w', X2 w' → w'.cell? ⟨B, 0, none⟩ = some (.int .i64 (q.1 : Int)) ∧ w'.cell? ⟨B, 1, none⟩ = some (.int .i64 (q.2.1 : Int))) := Lib.hid fun w' h => by rw [← hX2d] at h; exact ⟨h.2.cell 0, h.2.cell 1⟩
      have HCS : Hid (∀ (w' : World) (g : Nat) (l : List Value), B ≠ g → w'.cell? ⟨B, 0, none⟩ = some (.int .i64 (q.1 : Int)) ∧ w'.cell? ⟨B, 1, none⟩ = some (.int .i64 (q.2.1 : Int)) → (w'.setCells g 0 l).cell? ⟨B, 0, none⟩ = some (.int .i64 (q.1 : Int)) ∧ (w'.setCells g 0 l).cell? ⟨B, 1, none⟩ = some (.int .i64 (q.2.1 : Int))) := Lib.hid fun w' g l hg h => ⟨(cell_of_heap (heap_setCells_ne l 0 w' B hg)).trans h.1, (cell_of_heap (heap_setCells_ne l 0 w' B hg)).trans h.2⟩
      have HBL : Hid (∀ (a c : Nat), (∀ k, D2 k → k ≠ a ∧ k ≠ c) → B ≠ a ∧ B ≠ c) := Lib.hid fun a c h => h B (by rw [← hD2]; exact .inr rfl)
      have hlx : xs.length = 12 := by rw [← hxs, wv_len, hrx.1]
      have hly : ys.length = 12 := by rw [← hys, wv_len, hry.1]
      have hox : ∀ v ∈ xs, v.oneCell' = true := by rw [← hxs]; exact wv_one x
      have hoy : ∀ v ∈ ys, v.oneCell' = true := by rw [← hys]; exact wv_one y
      have hix : (Tryz.prog.info? 74).map (·.size) = some xs.length := by rw [← hxs]; exact info_cF x hrx.1
      have hiy : (Tryz.prog.info? 74).map (·.size) = some ys.length := by rw [← hys]; exact info_cF y hry.1
      have hlk : (((Mk.noted ek).look r (q.1 : Int) false).look r (q.2.1 : Int) false).evs.length ≤ 1099511300000 := by omega
      have z0 : Z0 88 w0 w2.drew p (Mk.noted ek) D2 X2 := ⟨HK2.out, hX2.drew HK2.out⟩
      obtain ⟨M3, hM3⟩ : ∃ M3, ((Mk.noted ek).look r (q.1 : Int) false).look r (q.2.1 : Int) false = M3 := ⟨_, rfl⟩
      rw [hM3] at K2 hlk HSL
      dsimp only [Act.put]
      go_cut [11, 12] (fun sa sb wx => ∃ A C : Nat, sa = .pointer (some ⟨A, 0, none⟩) ∧ sb = .pointer (some ⟨C, 0, none⟩) ∧ Hid (OneX 88 w0 wx p M3 (fun i => (D2 i ∨ i = A) ∨ i = C) (fun w' => (X2 w' ∧ Blk w' A xs.toArray 74) ∧ Blk w' C ys.toArray 74) ∧ A ≠ C ∧ (∀ k, D2 k → k ≠ A ∧ k ≠ C) ∧ w0.heap.size ≤ A ∧ w0.heap.size ≤ C))
      case first =>
        refine wp_region_held_drew (S := fun w' => w'.cell? ⟨B, 0, none⟩ = some (.int .i64 (q.1 : Int)) ∧ w'.cell? ⟨B, 1, none⟩ = some (.int .i64 (q.2.1 : Int))) (by kernel_rfl) (HXC.out _ z0.x) (fun hHeld => ?_)
        refine wpAnyH_take (i := 0) (oi := _) (v := ?_) rfl (by kernel_rfl) (by kernel_rfl) (by kernel_rfl) (fun _ _ _ h => h) (Or.inl ⟨by rfl, ?_⟩) (by assumption) ?_
        rotate_left
        · (intro wS hSw; (try dsimp only at hSw); go_simp; try with_reducible rfl)
        try simp only [Act.put, List.setIfInBounds_toArray, List.set_cons_zero, List.set_cons_succ]
        refine wpAnyH_take (i := 1) (oi := _) (v := ?_) rfl (by kernel_rfl) (by kernel_rfl) (by kernel_rfl) (fun _ _ _ h => h) (Or.inl ⟨by rfl, ?_⟩) (by assumption) ?_
        rotate_left
        · (intro wS hSw; (try dsimp only at hSw); go_simp; try with_reducible rfl)
        try simp only [Act.put, List.setIfInBounds_toArray, List.set_cons_zero, List.set_cons_succ]
        refine wpAnyH_take (i := 2) (oi := _) (v := ?_) rfl (by kernel_rfl) (by kernel_rfl) (by kernel_rfl) (fun _ _ _ h => h) (Or.inl ⟨by rfl, ?_⟩) (by assumption) ?_
        rotate_left
        · (intro wS hSw; (try dsimp only at hSw); go_simp; try with_reducible rfl)
        try simp only [Act.put, List.setIfInBounds_toArray, List.set_cons_zero, List.set_cons_succ]
        refine wpAnyH_take (i := 3) (oi := _) (v := ?_) rfl (by kernel_rfl) (by kernel_rfl) (by kernel_rfl) (fun _ _ _ h => h) (Or.inl ⟨by rfl, ?_⟩) (by assumption) ?_
        rotate_left
        · (intro wS hSw; (try dsimp only at hSw); go_simp; try with_reducible rfl)
        try simp only [Act.put, List.setIfInBounds_toArray, List.set_cons_zero, List.set_cons_succ]
        refine wpAnyH_take (i := 5) (oi := _) (v := ?_) rfl (by kernel_rfl) (by kernel_rfl) (by kernel_rfl) (fun _ _ _ h => h) (Or.inl ⟨by rfl, ?_⟩) (by assumption) ?_
        rotate_left
        · (intro wS hSw; (try dsimp only at hSw); go_simp; try with_reducible rfl)
        try simp only [Act.put, List.setIfInBounds_toArray, List.set_cons_zero, List.set_cons_succ]
        refine wpAnyH_take (i := 6) (oi := _) (v := ?_) rfl (by kernel_rfl) (by kernel_rfl) (by kernel_rfl) (fun _ _ _ h => h) (Or.inl ⟨by rfl, ?_⟩) (by assumption) ?_
        rotate_left
        · (intro wS hSw; (try dsimp only at hSw); go_simp; try with_reducible rfl)
        try simp only [Act.put, List.setIfInBounds_toArray, List.set_cons_zero, List.set_cons_succ]
        refine wpAnyH_take (i := 7) (oi := _) (v := ?_) rfl (by kernel_rfl) (by kernel_rfl) (by kernel_rfl) (fun _ _ _ h => h) (Or.inl ⟨by rfl, ?_⟩) (by assumption) ?_
        rotate_left
        · (intro wS hSw; (try dsimp only at hSw); go_simp; try with_reducible rfl)
        try simp only [Act.put, List.setIfInBounds_toArray, List.set_cons_zero, List.set_cons_succ]
        refine wpAnyH_take (i := 8) (oi := _) (v := ?_) rfl (by kernel_rfl) (by kernel_rfl) (by kernel_rfl) (fun _ _ _ h => h) (Or.inl ⟨by rfl, ?_⟩) (by assumption) ?_
        rotate_left
        · (intro wS hSw; (try dsimp only at hSw); go_simp; try with_reducible rfl)
        try simp only [Act.put, List.setIfInBounds_toArray, List.set_cons_zero, List.set_cons_succ]
        refine wpAnyH_ready (rs := [4, 10, 11]) (by kernel_rfl) (by simp) ?_
        refine (AllReadyH.cons (o := _) rfl (fun K hK => ?_) (AllReadyH.cons (o := _) rfl (fun K hK => ?_) (AllReadyH.cons (o := _) rfl (fun K hK => ?_) AllReadyH.nil)))
        focus
          go_simp
          refine (z0.call (fun D' X' hK' h' => K1.out _ D' X' hK' h')).mono ?_
          rintro e wz1 ⟨rfl, z1⟩
          refine hK.out _ _ (HXC.out _ z1.x) (fun hHeld => ?_)
          clear hK K
          try simp only [Act.put, List.setIfInBounds_toArray, List.set_cons_zero, List.set_cons_succ]
          refine wpAnyH_ready (rs := [9, 10, 11]) (by kernel_rfl) (by simp) ?_
          refine (AllReadyH.cons (o := _) rfl (fun K hK => ?_) (AllReadyH.cons (o := _) rfl (fun K hK => ?_) (AllReadyH.cons (o := _) rfl (fun K hK => ?_) AllReadyH.nil)))
          focus
            go_simp
            refine (z1.call (fun D' X' hK' h' => K2.out _ D' X' hK' h')).mono ?_
            rintro e wz2 ⟨rfl, z2⟩
            refine hK.out _ _ (HXC.out _ z2.x) (fun hHeld => ?_)
            clear hK K
            try simp only [Act.put, List.setIfInBounds_toArray, List.set_cons_zero, List.set_cons_succ]
            refine wpAnyH_ready (rs := [10, 11]) (by kernel_rfl) (by simp) ?_
            refine (AllReadyH.cons (o := _) rfl (fun K hK => ?_) (AllReadyH.cons (o := _) rfl (fun K hK => ?_) AllReadyH.nil))
            focus
              go_simp
              have z3 := z2.alloc (t := 74)
              try simp only [World.size_alloc] at z3
              refine hK.out _ _ (HXC.out _ z3.x) (fun hHeld => ?_)
              clear hK K
              try simp only [Act.put, List.setIfInBounds_toArray, List.set_cons_zero, List.set_cons_succ]
              refine wpAnyH_ready (rs := [11]) (by kernel_rfl) (by simp) ?_
              refine (AllReadyH.cons (o := _) rfl (fun K hK => ?_) AllReadyH.nil)
              focus
                go_simp
                have z4 := z3.alloc (t := 74)
                try simp only [World.size_alloc] at z4
                refine hK.out _ _ (HXC.out _ z4.x) (fun hHeld => ?_)
                clear hK K
                try simp only [Act.put, List.setIfInBounds_toArray, List.set_cons_zero, List.set_cons_succ]
                refine wpAnyH_ready (rs := [12]) (by kernel_rfl) (by simp) ?_
                refine (AllReadyH.cons (o := _) rfl (fun K hK => ?_) AllReadyH.nil)
                rw [if_pos (by rfl)]
                refine wp_store_mid _ _ _ rfl _ 0 xs.toArray rfl rfl (z4.there xs ys hlx hly).1 hix (all_oneCell_toArray hox) ?_
                refine hK.out _ _ (HCS.out _ _ _ (HBL.out _ _ z4.ne).1 (HXC.out _ z4.x)) (fun hHeld => ?_)
                clear hK K
                try simp only [Act.put, List.setIfInBounds_toArray, List.set_cons_zero, List.set_cons_succ]
                refine wpAnyH_ready (rs := [13]) (by kernel_rfl) (by simp) ?_
                refine (AllReadyH.cons (o := _) rfl (fun K hK => ?_) AllReadyH.nil)
                rw [if_pos (by rfl)]
                refine wp_store_mid _ _ _ rfl _ 0 ys.toArray rfl rfl (z4.there xs ys hlx hly).2.1 hiy (all_oneCell_toArray hoy) ?_
                refine hK.out _ _ (HCS.out _ _ _ (HBL.out _ _ z4.ne).2 (HCS.out _ _ _ (HBL.out _ _ z4.ne).1 (HXC.out _ z4.x))) (fun hHeld => ?_)
                clear hK K
                try simp only [Act.put, List.setIfInBounds_toArray, List.set_cons_zero, List.set_cons_succ]
                refine wpAnyH_done (by kernel_rfl) ?_ _
                go_wp2_with fail
                go_meet
                exact ⟨_, _, rfl, rfl, Lib.hid ⟨(z4.fill xs ys hlx hly).1, z4.ab, fun k hk => ⟨(z4.ne k hk).1, (z4.ne k hk).2⟩, z4.ge.1, z4.ge.2⟩⟩
            focus
              go_simp
              have z5 := z2.alloc (t := 74)
              try simp only [World.size_alloc] at z5
              refine hK.out _ _ (HXC.out _ z5.x) (fun hHeld => ?_)
              clear hK K
              try simp only [Act.put, List.setIfInBounds_toArray, List.set_cons_zero, List.set_cons_succ]
              refine wpAnyH_ready (rs := [10]) (by kernel_rfl) (by simp) ?_
              refine (AllReadyH.cons (o := _) rfl (fun K hK => ?_) AllReadyH.nil)
              focus
                go_simp
                have z6 := z5.alloc (t := 74)
                try simp only [World.size_alloc] at z6
                refine hK.out _ _ (HXC.out _ z6.x) (fun hHeld => ?_)
                clear hK K
                try simp only [Act.put, List.setIfInBounds_toArray, List.set_cons_zero, List.set_cons_succ]
                refine wpAnyH_ready (rs := [12]) (by kernel_rfl) (by simp) ?_
                refine (AllReadyH.cons (o := _) rfl (fun K hK => ?_) AllReadyH.nil)
                rw [if_pos (by rfl)]
                refine wp_store_mid _ _ _ rfl _ 0 xs.toArray rfl rfl (z6.there xs ys hlx hly).2.2.1 hix (all_oneCell_toArray hox) ?_
                refine hK.out _ _ (HCS.out _ _ _ (HBL.out _ _ z6.ne).2 (HXC.out _ z6.x)) (fun hHeld => ?_)
                clear hK K
                try simp only [Act.put, List.setIfInBounds_toArray, List.set_cons_zero, List.set_cons_succ]
                refine wpAnyH_ready (rs := [13]) (by kernel_rfl) (by simp) ?_
                refine (AllReadyH.cons (o := _) rfl (fun K hK => ?_) AllReadyH.nil)
                rw [if_pos (by rfl)]
                refine wp_store_mid _ _ _ rfl _ 0 ys.toArray rfl rfl (z6.there xs ys hlx hly).2.2.2 hiy (all_oneCell_toArray hoy) ?_
                refine hK.out _ _ (HCS.out _ _ _ (HBL.out _ _ z6.ne).1 (HCS.out _ _ _ (HBL.out _ _ z6.ne).2 (HXC.out _ z6.x))) (fun hHeld => ?_)
                clear hK K
                try simp only [Act.put, List.setIfInBounds_toArray, List.set_cons_zero, List.set_cons_succ]
                refine wpAnyH_done (by kernel_rfl) ?_ _
                go_wp2_with fail
                go_meet
                exact ⟨_, _, rfl, rfl, Lib.hid ⟨(z6.fill xs ys hlx hly).2, z6.ab.symm, fun k hk => ⟨(z6.ne k hk).2, (z6.ne k hk).1⟩, z6.ge.2, z6.ge.1⟩⟩
          focus
            go_simp
            have z7 := z1.alloc (t := 74)
            try simp only [World.size_alloc] at z7
            refine hK.out _ _ (HXC.out _ z7.x) (fun hHeld => ?_)
            clear hK K
            try simp only [Act.put, List.setIfInBounds_toArray, List.set_cons_zero, List.set_cons_succ]
            refine wpAnyH_ready (rs := [9, 11]) (by kernel_rfl) (by simp) ?_
            refine (AllReadyH.cons (o := _) rfl (fun K hK => ?_) (AllReadyH.cons (o := _) rfl (fun K hK => ?_) AllReadyH.nil))
            focus
              go_simp
              refine (z7.call (fun D' X' hK' h' => K2.out _ D' X' hK' h')).mono ?_
              rintro e wz8 ⟨rfl, z8⟩
              refine hK.out _ _ (HXC.out _ z8.x) (fun hHeld => ?_)
              clear hK K
              try simp only [Act.put, List.setIfInBounds_toArray, List.set_cons_zero, List.set_cons_succ]
              refine wpAnyH_ready (rs := [11]) (by kernel_rfl) (by simp) ?_
              refine (AllReadyH.cons (o := _) rfl (fun K hK => ?_) AllReadyH.nil)
              focus
                go_simp
                have z9 := z8.alloc (t := 74)
                try simp only [World.size_alloc] at z9
                refine hK.out _ _ (HXC.out _ z9.x) (fun hHeld => ?_)
                clear hK K
                try simp only [Act.put, List.setIfInBounds_toArray, List.set_cons_zero, List.set_cons_succ]
                refine wpAnyH_ready (rs := [12]) (by kernel_rfl) (by simp) ?_
                refine (AllReadyH.cons (o := _) rfl (fun K hK => ?_) AllReadyH.nil)
                rw [if_pos (by rfl)]
                refine wp_store_mid _ _ _ rfl _ 0 xs.toArray rfl rfl (z9.there xs ys hlx hly).1 hix (all_oneCell_toArray hox) ?_
                refine hK.out _ _ (HCS.out _ _ _ (HBL.out _ _ z9.ne).1 (HXC.out _ z9.x)) (fun hHeld => ?_)
                clear hK K
                try simp only [Act.put, List.setIfInBounds_toArray, List.set_cons_zero, List.set_cons_succ]
                refine wpAnyH_ready (rs := [13]) (by kernel_rfl) (by simp) ?_
                refine (AllReadyH.cons (o := _) rfl (fun K hK => ?_) AllReadyH.nil)
                rw [if_pos (by rfl)]
                refine wp_store_mid _ _ _ rfl _ 0 ys.toArray rfl rfl (z9.there xs ys hlx hly).2.1 hiy (all_oneCell_toArray hoy) ?_
                refine hK.out _ _ (HCS.out _ _ _ (HBL.out _ _ z9.ne).2 (HCS.out _ _ _ (HBL.out _ _ z9.ne).1 (HXC.out _ z9.x))) (fun hHeld => ?_)
                clear hK K
                try simp only [Act.put, List.setIfInBounds_toArray, List.set_cons_zero, List.set_cons_succ]
                refine wpAnyH_done (by kernel_rfl) ?_ _
                go_wp2_with fail
                go_meet
                exact ⟨_, _, rfl, rfl, Lib.hid ⟨(z9.fill xs ys hlx hly).1, z9.ab, fun k hk => ⟨(z9.ne k hk).1, (z9.ne k hk).2⟩, z9.ge.1, z9.ge.2⟩⟩
            focus
              go_simp
              have z10 := z7.alloc (t := 74)
              try simp only [World.size_alloc] at z10
              refine hK.out _ _ (HXC.out _ z10.x) (fun hHeld => ?_)
              clear hK K
              try simp only [Act.put, List.setIfInBounds_toArray, List.set_cons_zero, List.set_cons_succ]
              refine wpAnyH_ready (rs := [9]) (by kernel_rfl) (by simp) ?_
              refine (AllReadyH.cons (o := _) rfl (fun K hK => ?_) AllReadyH.nil)
              focus
                go_simp
                refine (z10.call (fun D' X' hK' h' => K2.out _ D' X' hK' h')).mono ?_
                rintro e wz11 ⟨rfl, z11⟩
                refine hK.out _ _ (HXC.out _ z11.x) (fun hHeld => ?_)
                clear hK K
                try simp only [Act.put, List.setIfInBounds_toArray, List.set_cons_zero, List.set_cons_succ]
                refine wpAnyH_ready (rs := [12]) (by kernel_rfl) (by simp) ?_
                refine (AllReadyH.cons (o := _) rfl (fun K hK => ?_) AllReadyH.nil)
                rw [if_pos (by rfl)]
                refine wp_store_mid _ _ _ rfl _ 0 xs.toArray rfl rfl (z11.there xs ys hlx hly).1 hix (all_oneCell_toArray hox) ?_
                refine hK.out _ _ (HCS.out _ _ _ (HBL.out _ _ z11.ne).1 (HXC.out _ z11.x)) (fun hHeld => ?_)
                clear hK K
                try simp only [Act.put, List.setIfInBounds_toArray, List.set_cons_zero, List.set_cons_succ]
                refine wpAnyH_ready (rs := [13]) (by kernel_rfl) (by simp) ?_
                refine (AllReadyH.cons (o := _) rfl (fun K hK => ?_) AllReadyH.nil)
                rw [if_pos (by rfl)]
                refine wp_store_mid _ _ _ rfl _ 0 ys.toArray rfl rfl (z11.there xs ys hlx hly).2.1 hiy (all_oneCell_toArray hoy) ?_
                refine hK.out _ _ (HCS.out _ _ _ (HBL.out _ _ z11.ne).2 (HCS.out _ _ _ (HBL.out _ _ z11.ne).1 (HXC.out _ z11.x))) (fun hHeld => ?_)
                clear hK K
                try simp only [Act.put, List.setIfInBounds_toArray, List.set_cons_zero, List.set_cons_succ]
                refine wpAnyH_done (by kernel_rfl) ?_ _
                go_wp2_with fail
                go_meet
                exact ⟨_, _, rfl, rfl, Lib.hid ⟨(z11.fill xs ys hlx hly).1, z11.ab, fun k hk => ⟨(z11.ne k hk).1, (z11.ne k hk).2⟩, z11.ge.1, z11.ge.2⟩⟩
          focus
            go_simp
            have z12 := z1.alloc (t := 74)
            try simp only [World.size_alloc] at z12
            refine hK.out _ _ (HXC.out _ z12.x) (fun hHeld => ?_)
            clear hK K
            try simp only [Act.put, List.setIfInBounds_toArray, List.set_cons_zero, List.set_cons_succ]
            refine wpAnyH_ready (rs := [9, 10]) (by kernel_rfl) (by simp) ?_
            refine (AllReadyH.cons (o := _) rfl (fun K hK => ?_) (AllReadyH.cons (o := _) rfl (fun K hK => ?_) AllReadyH.nil))
            focus
              go_simp
              refine (z12.call (fun D' X' hK' h' => K2.out _ D' X' hK' h')).mono ?_
              rintro e wz13 ⟨rfl, z13⟩
              refine hK.out _ _ (HXC.out _ z13.x) (fun hHeld => ?_)
              clear hK K
              try simp only [Act.put, List.setIfInBounds_toArray, List.set_cons_zero, List.set_cons_succ]
              refine wpAnyH_ready (rs := [10]) (by kernel_rfl) (by simp) ?_
              refine (AllReadyH.cons (o := _) rfl (fun K hK => ?_) AllReadyH.nil)
              focus
                go_simp
                have z14 := z13.alloc (t := 74)
                try simp only [World.size_alloc] at z14
                refine hK.out _ _ (HXC.out _ z14.x) (fun hHeld => ?_)
                clear hK K
                try simp only [Act.put, List.setIfInBounds_toArray, List.set_cons_zero, List.set_cons_succ]
                refine wpAnyH_ready (rs := [12]) (by kernel_rfl) (by simp) ?_
                refine (AllReadyH.cons (o := _) rfl (fun K hK => ?_) AllReadyH.nil)
                rw [if_pos (by rfl)]
                refine wp_store_mid _ _ _ rfl _ 0 xs.toArray rfl rfl (z14.there xs ys hlx hly).2.2.1 hix (all_oneCell_toArray hox) ?_
                refine hK.out _ _ (HCS.out _ _ _ (HBL.out _ _ z14.ne).2 (HXC.out _ z14.x)) (fun hHeld => ?_)
                clear hK K
                try simp only [Act.put, List.setIfInBounds_toArray, List.set_cons_zero, List.set_cons_succ]
                refine wpAnyH_ready (rs := [13]) (by kernel_rfl) (by simp) ?_
                refine (AllReadyH.cons (o := _) rfl (fun K hK => ?_) AllReadyH.nil)
                rw [if_pos (by rfl)]
                refine wp_store_mid _ _ _ rfl _ 0 ys.toArray rfl rfl (z14.there xs ys hlx hly).2.2.2 hiy (all_oneCell_toArray hoy) ?_
                refine hK.out _ _ (HCS.out _ _ _ (HBL.out _ _ z14.ne).1 (HCS.out _ _ _ (HBL.out _ _ z14.ne).2 (HXC.out _ z14.x))) (fun hHeld => ?_)
                clear hK K
                try simp only [Act.put, List.setIfInBounds_toArray, List.set_cons_zero, List.set_cons_succ]
                refine wpAnyH_done (by kernel_rfl) ?_ _
                go_wp2_with fail
                go_meet
                exact ⟨_, _, rfl, rfl, Lib.hid ⟨(z14.fill xs ys hlx hly).2, z14.ab.symm, fun k hk => ⟨(z14.ne k hk).2, (z14.ne k hk).1⟩, z14.ge.2, z14.ge.1⟩⟩
            focus
              go_simp
              have z15 := z12.alloc (t := 74)
              try simp only [World.size_alloc] at z15
              refine hK.out _ _ (HXC.out _ z15.x) (fun hHeld => ?_)
              clear hK K
              try simp only [Act.put, List.setIfInBounds_toArray, List.set_cons_zero, List.set_cons_succ]
              refine wpAnyH_ready (rs := [9]) (by kernel_rfl) (by simp) ?_
              refine (AllReadyH.cons (o := _) rfl (fun K hK => ?_) AllReadyH.nil)
              focus
                go_simp
                refine (z15.call (fun D' X' hK' h' => K2.out _ D' X' hK' h')).mono ?_
                rintro e wz16 ⟨rfl, z16⟩
                refine hK.out _ _ (HXC.out _ z16.x) (fun hHeld => ?_)
                clear hK K
                try simp only [Act.put, List.setIfInBounds_toArray, List.set_cons_zero, List.set_cons_succ]
                refine wpAnyH_ready (rs := [12]) (by kernel_rfl) (by simp) ?_
                refine (AllReadyH.cons (o := _) rfl (fun K hK => ?_) AllReadyH.nil)
                rw [if_pos (by rfl)]
                refine wp_store_mid _ _ _ rfl _ 0 xs.toArray rfl rfl (z16.there xs ys hlx hly).2.2.1 hix (all_oneCell_toArray hox) ?_
                refine hK.out _ _ (HCS.out _ _ _ (HBL.out _ _ z16.ne).2 (HXC.out _ z16.x)) (fun hHeld => ?_)
                clear hK K
                try simp only [Act.put, List.setIfInBounds_toArray, List.set_cons_zero, List.set_cons_succ]
                refine wpAnyH_ready (rs := [13]) (by kernel_rfl) (by simp) ?_
                refine (AllReadyH.cons (o := _) rfl (fun K hK => ?_) AllReadyH.nil)
                rw [if_pos (by rfl)]
                refine wp_store_mid _ _ _ rfl _ 0 ys.toArray rfl rfl (z16.there xs ys hlx hly).2.2.2 hiy (all_oneCell_toArray hoy) ?_
                refine hK.out _ _ (HCS.out _ _ _ (HBL.out _ _ z16.ne).1 (HCS.out _ _ _ (HBL.out _ _ z16.ne).2 (HXC.out _ z16.x))) (fun hHeld => ?_)
                clear hK K
                try simp only [Act.put, List.setIfInBounds_toArray, List.set_cons_zero, List.set_cons_succ]
                refine wpAnyH_done (by kernel_rfl) ?_ _
                go_wp2_with fail
                go_meet
                exact ⟨_, _, rfl, rfl, Lib.hid ⟨(z16.fill xs ys hlx hly).2, z16.ab.symm, fun k hk => ⟨(z16.ne k hk).2, (z16.ne k hk).1⟩, z16.ge.2, z16.ge.1⟩⟩
        focus
          go_simp
          have z17 := z0.alloc (t := 74)
          try simp only [World.size_alloc] at z17
          refine hK.out _ _ (HXC.out _ z17.x) (fun hHeld => ?_)
          clear hK K
          try simp only [Act.put, List.setIfInBounds_toArray, List.set_cons_zero, List.set_cons_succ]
          refine wpAnyH_ready (rs := [4, 11]) (by kernel_rfl) (by simp) ?_
          refine (AllReadyH.cons (o := _) rfl (fun K hK => ?_) (AllReadyH.cons (o := _) rfl (fun K hK => ?_) AllReadyH.nil))
          focus
            go_simp
            refine (z17.call (fun D' X' hK' h' => K1.out _ D' X' hK' h')).mono ?_
            rintro e wz18 ⟨rfl, z18⟩
            refine hK.out _ _ (HXC.out _ z18.x) (fun hHeld => ?_)
            clear hK K
            try simp only [Act.put, List.setIfInBounds_toArray, List.set_cons_zero, List.set_cons_succ]
            refine wpAnyH_ready (rs := [9, 11]) (by kernel_rfl) (by simp) ?_
            refine (AllReadyH.cons (o := _) rfl (fun K hK => ?_) (AllReadyH.cons (o := _) rfl (fun K hK => ?_) AllReadyH.nil))
            focus
              go_simp
              refine (z18.call (fun D' X' hK' h' => K2.out _ D' X' hK' h')).mono ?_
              rintro e wz19 ⟨rfl, z19⟩
              refine hK.out _ _ (HXC.out _ z19.x) (fun hHeld => ?_)
              clear hK K
              try simp only [Act.put, List.setIfInBounds_toArray, List.set_cons_zero, List.set_cons_succ]
              refine wpAnyH_ready (rs := [11]) (by kernel_rfl) (by simp) ?_
              refine (AllReadyH.cons (o := _) rfl (fun K hK => ?_) AllReadyH.nil)
              focus
                go_simp
                have z20 := z19.alloc (t := 74)
                try simp only [World.size_alloc] at z20
                refine hK.out _ _ (HXC.out _ z20.x) (fun hHeld => ?_)
                clear hK K
                try simp only [Act.put, List.setIfInBounds_toArray, List.set_cons_zero, List.set_cons_succ]
                refine wpAnyH_ready (rs := [12]) (by kernel_rfl) (by simp) ?_
                refine (AllReadyH.cons (o := _) rfl (fun K hK => ?_) AllReadyH.nil)
                rw [if_pos (by rfl)]
                refine wp_store_mid _ _ _ rfl _ 0 xs.toArray rfl rfl (z20.there xs ys hlx hly).1 hix (all_oneCell_toArray hox) ?_
                refine hK.out _ _ (HCS.out _ _ _ (HBL.out _ _ z20.ne).1 (HXC.out _ z20.x)) (fun hHeld => ?_)
                clear hK K
                try simp only [Act.put, List.setIfInBounds_toArray, List.set_cons_zero, List.set_cons_succ]
                refine wpAnyH_ready (rs := [13]) (by kernel_rfl) (by simp) ?_
                refine (AllReadyH.cons (o := _) rfl (fun K hK => ?_) AllReadyH.nil)
                rw [if_pos (by rfl)]
                refine wp_store_mid _ _ _ rfl _ 0 ys.toArray rfl rfl (z20.there xs ys hlx hly).2.1 hiy (all_oneCell_toArray hoy) ?_
                refine hK.out _ _ (HCS.out _ _ _ (HBL.out _ _ z20.ne).2 (HCS.out _ _ _ (HBL.out _ _ z20.ne).1 (HXC.out _ z20.x))) (fun hHeld => ?_)
                clear hK K
                try simp only [Act.put, List.setIfInBounds_toArray, List.set_cons_zero, List.set_cons_succ]
                refine wpAnyH_done (by kernel_rfl) ?_ _
                go_wp2_with fail
                go_meet
                exact ⟨_, _, rfl, rfl, Lib.hid ⟨(z20.fill xs ys hlx hly).1, z20.ab, fun k hk => ⟨(z20.ne k hk).1, (z20.ne k hk).2⟩, z20.ge.1, z20.ge.2⟩⟩
            focus
              go_simp
              have z21 := z18.alloc (t := 74)
              try simp only [World.size_alloc] at z21
              refine hK.out _ _ (HXC.out _ z21.x) (fun hHeld => ?_)
              clear hK K
              try simp only [Act.put, List.setIfInBounds_toArray, List.set_cons_zero, List.set_cons_succ]
              refine wpAnyH_ready (rs := [9]) (by kernel_rfl) (by simp) ?_
              refine (AllReadyH.cons (o := _) rfl (fun K hK => ?_) AllReadyH.nil)
              focus
                go_simp
                refine (z21.call (fun D' X' hK' h' => K2.out _ D' X' hK' h')).mono ?_
                rintro e wz22 ⟨rfl, z22⟩
                refine hK.out _ _ (HXC.out _ z22.x) (fun hHeld => ?_)
                clear hK K
                try simp only [Act.put, List.setIfInBounds_toArray, List.set_cons_zero, List.set_cons_succ]
                refine wpAnyH_ready (rs := [12]) (by kernel_rfl) (by simp) ?_
                refine (AllReadyH.cons (o := _) rfl (fun K hK => ?_) AllReadyH.nil)
                rw [if_pos (by rfl)]
                refine wp_store_mid _ _ _ rfl _ 0 xs.toArray rfl rfl (z22.there xs ys hlx hly).1 hix (all_oneCell_toArray hox) ?_
                refine hK.out _ _ (HCS.out _ _ _ (HBL.out _ _ z22.ne).1 (HXC.out _ z22.x)) (fun hHeld => ?_)
                clear hK K
                try simp only [Act.put, List.setIfInBounds_toArray, List.set_cons_zero, List.set_cons_succ]
                refine wpAnyH_ready (rs := [13]) (by kernel_rfl) (by simp) ?_
                refine (AllReadyH.cons (o := _) rfl (fun K hK => ?_) AllReadyH.nil)
                rw [if_pos (by rfl)]
                refine wp_store_mid _ _ _ rfl _ 0 ys.toArray rfl rfl (z22.there xs ys hlx hly).2.1 hiy (all_oneCell_toArray hoy) ?_
                refine hK.out _ _ (HCS.out _ _ _ (HBL.out _ _ z22.ne).2 (HCS.out _ _ _ (HBL.out _ _ z22.ne).1 (HXC.out _ z22.x))) (fun hHeld => ?_)
                clear hK K
                try simp only [Act.put, List.setIfInBounds_toArray, List.set_cons_zero, List.set_cons_succ]
                refine wpAnyH_done (by kernel_rfl) ?_ _
                go_wp2_with fail
                go_meet
                exact ⟨_, _, rfl, rfl, Lib.hid ⟨(z22.fill xs ys hlx hly).1, z22.ab, fun k hk => ⟨(z22.ne k hk).1, (z22.ne k hk).2⟩, z22.ge.1, z22.ge.2⟩⟩
          focus
            go_simp
            have z23 := z17.alloc (t := 74)
            try simp only [World.size_alloc] at z23
            refine hK.out _ _ (HXC.out _ z23.x) (fun hHeld => ?_)
            clear hK K
            try simp only [Act.put, List.setIfInBounds_toArray, List.set_cons_zero, List.set_cons_succ]
            refine wpAnyH_ready (rs := [4]) (by kernel_rfl) (by simp) ?_
            refine (AllReadyH.cons (o := _) rfl (fun K hK => ?_) AllReadyH.nil)
            focus
              go_simp
              refine (z23.call (fun D' X' hK' h' => K1.out _ D' X' hK' h')).mono ?_
              rintro e wz24 ⟨rfl, z24⟩
              refine hK.out _ _ (HXC.out _ z24.x) (fun hHeld => ?_)
              clear hK K
              try simp only [Act.put, List.setIfInBounds_toArray, List.set_cons_zero, List.set_cons_succ]
              refine wpAnyH_ready (rs := [9]) (by kernel_rfl) (by simp) ?_
              refine (AllReadyH.cons (o := _) rfl (fun K hK => ?_) AllReadyH.nil)
              focus
                go_simp
                refine (z24.call (fun D' X' hK' h' => K2.out _ D' X' hK' h')).mono ?_
                rintro e wz25 ⟨rfl, z25⟩
                refine hK.out _ _ (HXC.out _ z25.x) (fun hHeld => ?_)
                clear hK K
                try simp only [Act.put, List.setIfInBounds_toArray, List.set_cons_zero, List.set_cons_succ]
                refine wpAnyH_ready (rs := [12]) (by kernel_rfl) (by simp) ?_
                refine (AllReadyH.cons (o := _) rfl (fun K hK => ?_) AllReadyH.nil)
                rw [if_pos (by rfl)]
                refine wp_store_mid _ _ _ rfl _ 0 xs.toArray rfl rfl (z25.there xs ys hlx hly).1 hix (all_oneCell_toArray hox) ?_
                refine hK.out _ _ (HCS.out _ _ _ (HBL.out _ _ z25.ne).1 (HXC.out _ z25.x)) (fun hHeld => ?_)
                clear hK K
                try simp only [Act.put, List.setIfInBounds_toArray, List.set_cons_zero, List.set_cons_succ]
                refine wpAnyH_ready (rs := [13]) (by kernel_rfl) (by simp) ?_
                refine (AllReadyH.cons (o := _) rfl (fun K hK => ?_) AllReadyH.nil)
                rw [if_pos (by rfl)]
                refine wp_store_mid _ _ _ rfl _ 0 ys.toArray rfl rfl (z25.there xs ys hlx hly).2.1 hiy (all_oneCell_toArray hoy) ?_
                refine hK.out _ _ (HCS.out _ _ _ (HBL.out _ _ z25.ne).2 (HCS.out _ _ _ (HBL.out _ _ z25.ne).1 (HXC.out _ z25.x))) (fun hHeld => ?_)
                clear hK K
                try simp only [Act.put, List.setIfInBounds_toArray, List.set_cons_zero, List.set_cons_succ]
                refine wpAnyH_done (by kernel_rfl) ?_ _
                go_wp2_with fail
                go_meet
                exact ⟨_, _, rfl, rfl, Lib.hid ⟨(z25.fill xs ys hlx hly).1, z25.ab, fun k hk => ⟨(z25.ne k hk).1, (z25.ne k hk).2⟩, z25.ge.1, z25.ge.2⟩⟩
        focus
          go_simp
          have z26 := z0.alloc (t := 74)
          try simp only [World.size_alloc] at z26
          refine hK.out _ _ (HXC.out _ z26.x) (fun hHeld => ?_)
          clear hK K
          try simp only [Act.put, List.setIfInBounds_toArray, List.set_cons_zero, List.set_cons_succ]
          refine wpAnyH_ready (rs := [4, 10]) (by kernel_rfl) (by simp) ?_
          refine (AllReadyH.cons (o := _) rfl (fun K hK => ?_) (AllReadyH.cons (o := _) rfl (fun K hK => ?_) AllReadyH.nil))
          focus
            go_simp
            refine (z26.call (fun D' X' hK' h' => K1.out _ D' X' hK' h')).mono ?_
            rintro e wz27 ⟨rfl, z27⟩
            refine hK.out _ _ (HXC.out _ z27.x) (fun hHeld => ?_)
            clear hK K
            try simp only [Act.put, List.setIfInBounds_toArray, List.set_cons_zero, List.set_cons_succ]
            refine wpAnyH_ready (rs := [9, 10]) (by kernel_rfl) (by simp) ?_
            refine (AllReadyH.cons (o := _) rfl (fun K hK => ?_) (AllReadyH.cons (o := _) rfl (fun K hK => ?_) AllReadyH.nil))
            focus
              go_simp
              refine (z27.call (fun D' X' hK' h' => K2.out _ D' X' hK' h')).mono ?_
              rintro e wz28 ⟨rfl, z28⟩
              refine hK.out _ _ (HXC.out _ z28.x) (fun hHeld => ?_)
              clear hK K
              try simp only [Act.put, List.setIfInBounds_toArray, List.set_cons_zero, List.set_cons_succ]
              refine wpAnyH_ready (rs := [10]) (by kernel_rfl) (by simp) ?_
              refine (AllReadyH.cons (o := _) rfl (fun K hK => ?_) AllReadyH.nil)
              focus
                go_simp
                have z29 := z28.alloc (t := 74)
                try simp only [World.size_alloc] at z29
                refine hK.out _ _ (HXC.out _ z29.x) (fun hHeld => ?_)
                clear hK K
                try simp only [Act.put, List.setIfInBounds_toArray, List.set_cons_zero, List.set_cons_succ]
                refine wpAnyH_ready (rs := [12]) (by kernel_rfl) (by simp) ?_
                refine (AllReadyH.cons (o := _) rfl (fun K hK => ?_) AllReadyH.nil)
                rw [if_pos (by rfl)]
                refine wp_store_mid _ _ _ rfl _ 0 xs.toArray rfl rfl (z29.there xs ys hlx hly).2.2.1 hix (all_oneCell_toArray hox) ?_
                refine hK.out _ _ (HCS.out _ _ _ (HBL.out _ _ z29.ne).2 (HXC.out _ z29.x)) (fun hHeld => ?_)
                clear hK K
                try simp only [Act.put, List.setIfInBounds_toArray, List.set_cons_zero, List.set_cons_succ]
                refine wpAnyH_ready (rs := [13]) (by kernel_rfl) (by simp) ?_
                refine (AllReadyH.cons (o := _) rfl (fun K hK => ?_) AllReadyH.nil)
                rw [if_pos (by rfl)]
                refine wp_store_mid _ _ _ rfl _ 0 ys.toArray rfl rfl (z29.there xs ys hlx hly).2.2.2 hiy (all_oneCell_toArray hoy) ?_
                refine hK.out _ _ (HCS.out _ _ _ (HBL.out _ _ z29.ne).1 (HCS.out _ _ _ (HBL.out _ _ z29.ne).2 (HXC.out _ z29.x))) (fun hHeld => ?_)
                clear hK K
                try simp only [Act.put, List.setIfInBounds_toArray, List.set_cons_zero, List.set_cons_succ]
                refine wpAnyH_done (by kernel_rfl) ?_ _
                go_wp2_with fail
                go_meet
                exact ⟨_, _, rfl, rfl, Lib.hid ⟨(z29.fill xs ys hlx hly).2, z29.ab.symm, fun k hk => ⟨(z29.ne k hk).2, (z29.ne k hk).1⟩, z29.ge.2, z29.ge.1⟩⟩
            focus
              go_simp
              have z30 := z27.alloc (t := 74)
              try simp only [World.size_alloc] at z30
              refine hK.out _ _ (HXC.out _ z30.x) (fun hHeld => ?_)
              clear hK K
              try simp only [Act.put, List.setIfInBounds_toArray, List.set_cons_zero, List.set_cons_succ]
              refine wpAnyH_ready (rs := [9]) (by kernel_rfl) (by simp) ?_
              refine (AllReadyH.cons (o := _) rfl (fun K hK => ?_) AllReadyH.nil)
              focus
                go_simp
                refine (z30.call (fun D' X' hK' h' => K2.out _ D' X' hK' h')).mono ?_
                rintro e wz31 ⟨rfl, z31⟩
                refine hK.out _ _ (HXC.out _ z31.x) (fun hHeld => ?_)
                clear hK K
                try simp only [Act.put, List.setIfInBounds_toArray, List.set_cons_zero, List.set_cons_succ]
                refine wpAnyH_ready (rs := [12]) (by kernel_rfl) (by simp) ?_
                refine (AllReadyH.cons (o := _) rfl (fun K hK => ?_) AllReadyH.nil)
                rw [if_pos (by rfl)]
                refine wp_store_mid _ _ _ rfl _ 0 xs.toArray rfl rfl (z31.there xs ys hlx hly).2.2.1 hix (all_oneCell_toArray hox) ?_
                refine hK.out _ _ (HCS.out _ _ _ (HBL.out _ _ z31.ne).2 (HXC.out _ z31.x)) (fun hHeld => ?_)
                clear hK K
                try simp only [Act.put, List.setIfInBounds_toArray, List.set_cons_zero, List.set_cons_succ]
                refine wpAnyH_ready (rs := [13]) (by kernel_rfl) (by simp) ?_
                refine (AllReadyH.cons (o := _) rfl (fun K hK => ?_) AllReadyH.nil)
                rw [if_pos (by rfl)]
                refine wp_store_mid _ _ _ rfl _ 0 ys.toArray rfl rfl (z31.there xs ys hlx hly).2.2.2 hiy (all_oneCell_toArray hoy) ?_
                refine hK.out _ _ (HCS.out _ _ _ (HBL.out _ _ z31.ne).1 (HCS.out _ _ _ (HBL.out _ _ z31.ne).2 (HXC.out _ z31.x))) (fun hHeld => ?_)
                clear hK K
                try simp only [Act.put, List.setIfInBounds_toArray, List.set_cons_zero, List.set_cons_succ]
                refine wpAnyH_done (by kernel_rfl) ?_ _
                go_wp2_with fail
                go_meet
                exact ⟨_, _, rfl, rfl, Lib.hid ⟨(z31.fill xs ys hlx hly).2, z31.ab.symm, fun k hk => ⟨(z31.ne k hk).2, (z31.ne k hk).1⟩, z31.ge.2, z31.ge.1⟩⟩
          focus
            go_simp
            have z32 := z26.alloc (t := 74)
            try simp only [World.size_alloc] at z32
            refine hK.out _ _ (HXC.out _ z32.x) (fun hHeld => ?_)
            clear hK K
            try simp only [Act.put, List.setIfInBounds_toArray, List.set_cons_zero, List.set_cons_succ]
            refine wpAnyH_ready (rs := [4]) (by kernel_rfl) (by simp) ?_
            refine (AllReadyH.cons (o := _) rfl (fun K hK => ?_) AllReadyH.nil)
            focus
              go_simp
              refine (z32.call (fun D' X' hK' h' => K1.out _ D' X' hK' h')).mono ?_
              rintro e wz33 ⟨rfl, z33⟩
              refine hK.out _ _ (HXC.out _ z33.x) (fun hHeld => ?_)
              clear hK K
              try simp only [Act.put, List.setIfInBounds_toArray, List.set_cons_zero, List.set_cons_succ]
              refine wpAnyH_ready (rs := [9]) (by kernel_rfl) (by simp) ?_
              refine (AllReadyH.cons (o := _) rfl (fun K hK => ?_) AllReadyH.nil)
              focus
                go_simp
                refine (z33.call (fun D' X' hK' h' => K2.out _ D' X' hK' h')).mono ?_
                rintro e wz34 ⟨rfl, z34⟩
                refine hK.out _ _ (HXC.out _ z34.x) (fun hHeld => ?_)
                clear hK K
                try simp only [Act.put, List.setIfInBounds_toArray, List.set_cons_zero, List.set_cons_succ]
                refine wpAnyH_ready (rs := [12]) (by kernel_rfl) (by simp) ?_
                refine (AllReadyH.cons (o := _) rfl (fun K hK => ?_) AllReadyH.nil)
                rw [if_pos (by rfl)]
                refine wp_store_mid _ _ _ rfl _ 0 xs.toArray rfl rfl (z34.there xs ys hlx hly).2.2.1 hix (all_oneCell_toArray hox) ?_
                refine hK.out _ _ (HCS.out _ _ _ (HBL.out _ _ z34.ne).2 (HXC.out _ z34.x)) (fun hHeld => ?_)
                clear hK K
                try simp only [Act.put, List.setIfInBounds_toArray, List.set_cons_zero, List.set_cons_succ]
                refine wpAnyH_ready (rs := [13]) (by kernel_rfl) (by simp) ?_
                refine (AllReadyH.cons (o := _) rfl (fun K hK => ?_) AllReadyH.nil)
                rw [if_pos (by rfl)]
                refine wp_store_mid _ _ _ rfl _ 0 ys.toArray rfl rfl (z34.there xs ys hlx hly).2.2.2 hiy (all_oneCell_toArray hoy) ?_
                refine hK.out _ _ (HCS.out _ _ _ (HBL.out _ _ z34.ne).1 (HCS.out _ _ _ (HBL.out _ _ z34.ne).2 (HXC.out _ z34.x))) (fun hHeld => ?_)
                clear hK K
                try simp only [Act.put, List.setIfInBounds_toArray, List.set_cons_zero, List.set_cons_succ]
                refine wpAnyH_done (by kernel_rfl) ?_ _
                go_wp2_with fail
                go_meet
                exact ⟨_, _, rfl, rfl, Lib.hid ⟨(z34.fill xs ys hlx hly).2, z34.ab.symm, fun k hk => ⟨(z34.ne k hk).2, (z34.ne k hk).1⟩, z34.ge.2, z34.ge.1⟩⟩
      case rest =>
      obtain ⟨A, C, rfl, rfl, HZ⟩ := hcut
      generalize wc = w3 at *
      obtain ⟨hZ, hAC, hne, hge⟩ := HZ.out
      have HGE := Lib.hid hge
      have hK3 := keeps_and (keeps_and HK2.out (keeps_blk A xs.toArray 74)) (keeps_blk C ys.toArray 74)
      have bA := hZ.x.1.2
      have bC := hZ.x.2
      have cU : w3.cell? ⟨B, 2, none⟩ = some (.bool q.2.2) := by
        have h := hZ.x.1.1
        rw [← hX2d] at h
        exact h.2.cell 2
      have hkx : kn < x.length := by rw [hrx.1]; exact hkn
      have hky : kn < y.length := by rw [hry.1]; exact hkn
      have gx : x.getD kn 0 = x[kn] := by simp [hkx]
      have gy : y.getD kn 0 = y[kn] := by simp [hky]
      have cA : w3.cell? ⟨A, kn, none⟩ = some (.int .u64 (x.getD kn 0)) := by rw [bA.cell, ← hxs, gx]; simp [wv, hkx]
      have cC : w3.cell? ⟨C, kn, none⟩ = some (.int .u64 (y.getD kn 0)) := by rw [bC.cell, ← hys, gy]; simp [wv, hky]
      have wx := Mm.getD_word hrx.2 kn
      have wy := Mm.getD_word hry.2 kn
      have k0 : (0 : Int) ≤ (kn : Int) := by omega
      have k1 : (kn : Int) < 12 := by omega
      clear gx gy
      generalize x.getD kn 0 = xk at *
      generalize y.getD kn 0 = yk at *
      have KL1 := Lib.hid (fun w' => less_any yk xk wy wx w')
      have KL2 := Lib.hid (fun w' => less_any xk yk wx wy w')
      have KSW := Lib.hid (fun w' => swapCell_any (mk tu) x y (mk_word _) hrx.1 hry.1 hrx.2 hry.2 w')
      rw [zip_sw tu x y (by rw [hrx.1, hry.1]) hrx.2 hry.2, zip_mk2 tu x y (by rw [hrx.1, hry.1]) hrx.2 hry.2] at KSW
      simp only [cw_eq] at KSW
      rw [hxs, hys] at KSW
      have hnx : (if tu = true then y else x).length = 12 ∧ ∀ z ∈ (if tu = true then y else x), Word z := by split <;> assumption
      have hny : (if tu = true then x else y).length = 12 ∧ ∀ z ∈ (if tu = true then x else y), Word z := by split <;> assumption
      have HW1 := Lib.hid (fun w' (D' : Nat → Prop) (X' : World → Prop) (hK' : Keeps D' X') (h' : OneX 88 w0 w' p M3 D' X') => one_write hK' r (q.1 : Int) _ hnx.1 hnx.2 h' (by omega))
      have hwe := write_evs_le M3 r (q.1 : Int) (if tu = true then y else x)
      have HW2 := Lib.hid (fun w' (D' : Nat → Prop) (X' : World → Prop) (hK' : Keeps D' X') (h' : OneX 88 w0 w' p (M3.write r (q.1 : Int) (if tu = true then y else x)) D' X') => one_write hK' r (q.2.1 : Int) _ hny.1 hny.2 h' (by omega))
      rw [HSL.out] at HW2
      simp only [cw_eq] at HW1 HW2
      have HIX : Hid ((Tryz.prog.info? 74).map (·.size) = some xs.toArray.size) := Lib.hid (by rw [List.size_toArray]; exact hix)
      have HIY : Hid ((Tryz.prog.info? 74).map (·.size) = some ys.toArray.size) := Lib.hid (by rw [List.size_toArray]; exact hiy)
      have hlnx : (wv (if tu = true then y else x)).length = 12 := by rw [wv_len, hnx.1]
      have hlny : (wv (if tu = true then x else y)).length = 12 := by rw [wv_len, hny.1]
      have HONX := Lib.hid (all_oneCell_toArray (wv_one (if tu = true then y else x)))
      have HONY := Lib.hid (all_oneCell_toArray (wv_one (if tu = true then x else y)))
      have HINX : Hid ((Tryz.prog.info? 74).map (·.size) = some (wv (if tu = true then y else x)).toArray.size) := Lib.hid (by rw [List.size_toArray, wv_len, hnx.1]; kernel_rfl)
      have HINY : Hid ((Tryz.prog.info? 74).map (·.size) = some (wv (if tu = true then x else y)).toArray.size) := Lib.hid (by rw [List.size_toArray, wv_len, hny.1]; kernel_rfl)
      generalize M3.write r (q.1 : Int) (if tu = true then y else x) = M4 at *
      generalize wv (if tu = true then y else x) = nx at *
      generalize wv (if tu = true then x else y) = ny at *
      have HTK3 := Lib.hid hK3
      have HXC2 := Lib.hid HXC.out
      have HCELL : Hid (∀ w', OneX 88 w0 w' p M3 (fun i => (D2 i ∨ i = A) ∨ i = C) (fun w' => (X2 w' ∧ Blk w' A xs.toArray 74) ∧ Blk w' C ys.toArray 74) → w'.cell? ⟨A, kn, none⟩ = some (.int .u64 xk) ∧ w'.cell? ⟨C, kn, none⟩ = some (.int .u64 yk)) := Lib.hid fun w' h => ⟨by rw [h.x.1.2.cell, ← bA.cell]; exact cA, by rw [h.x.2.cell, ← bC.cell]; exact cC⟩
      have HEND : Hid (∀ w', OneX 88 w0 w' p ((M.srt r kn (ps.take (k + 1))).noted (evsS r (ps.take (k + 1)))) D2 X2 → OneX 88 w0 w' p ((M.srt r kn (ps.take (k + 1))).noted (evsS r (ps.take (k + 1)))) (fun i => D i ∨ OwnP (.slice (some ⟨b, off, none⟩) ps.length vc) ps i) (fun w' => X w' ∧ SlQ w' (.slice (some ⟨b, off, none⟩) ps.length vc) ps)) := Lib.hid fun w' h => by
        subst hD2 hX2d
        exact h.less (fun _ h => .inl h) (fun h => h.1)
      have HZ3 := Lib.hid hZ
      have HNE := Lib.hid hne
      have hzx : xs.toArray.size = 12 := by rw [List.size_toArray, hlx]
      have hzy : ys.toArray.size = 12 := by rw [List.size_toArray, hly]
      have hznx : nx.toArray.size = 12 := by rw [List.size_toArray, hlnx]
      have hzny : ny.toArray.size = 12 := by rw [List.size_toArray, hlny]
      clear hZ hK3 hne hge bA bC hwe HSL K1 K2 HXC HCS HBL hox hoy hix hiy hM3 hX2d hD2 hX2 z0 hnx hny hrx hry
      obtain ⟨up, hup⟩ : ∃ up, q.2.2 = up := ⟨_, rfl⟩
      rw [hup] at HTU cU
      clear hup
      cases up
      · have hlm : lm xk yk = mk tu := by rw [HTU.out]; simp [lm]
        clear HTU
        go_upto_region 7 with fail
        go_quiet ((go_at_call 101; exact Calls.quiet_of_same (KL1.out _)))
        go_upto_region 9 with fail
        refine at_world (fun w' => OneX 88 w0 w' p M3 (fun i => (D2 i ∨ i = A) ∨ i = C) (fun w' => (X2 w' ∧ Blk w' A xs.toArray 74) ∧ Blk w' C ys.toArray 74)) (HZ3.out.drewN2 HTK3.out _) ?_
        intro w3' hZ3'
        have cA' := (HCELL.out _ hZ3').1
        have cC' := (HCELL.out _ hZ3').2
        have HZ3' := Lib.hid hZ3'
        clear cA cC cU hZ3' HZ3 KL1
        go_quiet ((go_at_call 101; exact Calls.quiet_of_same (KL2.out _)))
        rw [hlm]
        go_upto_region 10 with fail
        refine at_world (fun w' => OneX 88 w0 w' p M3 (fun i => (D2 i ∨ i = A) ∨ i = C) (fun w' => (X2 w' ∧ Blk w' A xs.toArray 74) ∧ Blk w' C ys.toArray 74)) (HZ3'.out.drewN2 HTK3.out _) ?_
        intro w4 hZ4
        have HZ4 := Lib.hid hZ4
        clear cA' cC' hZ4 HZ3' KL2 hlm
        go_wp2_with (first
          | (refine wpList_load_row rfl 74 (.tmp 11) rfl A rfl 74 xs.toArray (0, 0) _ HZ4.out.x.1.2 Tryz.underlying74 rfl HIX.out ?_)
          | (refine wpList_load_row rfl 74 (.tmp 12) rfl C rfl 74 ys.toArray (0, 0) _ HZ4.out.x.2 Tryz.underlying74 rfl HIY.out ?_)
          | fail)
        refine (KSW.out _).mono ?_
        rintro e w5 ⟨rfl, hb5⟩
        have HZ5 := Lib.hid (HZ4.out.below HTK3.out hb5)
        have HB5 := Lib.hid (HZ5.out.turn2 HK2.out HNE.out hAC HGE.out nx.toArray ny.toArray)
        clear hb5 HZ4 KSW
        go_upto_region 11 with (first
          | (refine wpList_store_row rfl 74 (.tmp 11) (.tmp 71) rfl A nx.toArray rfl rfl 74 _ HZ5.out.x.1.2 HINX.out (by rw [hznx, hzx]) HONX.out ?_)
          | (refine wpList_store_row rfl 74 (.tmp 12) (.tmp 72) rfl C ny.toArray rfl rfl 74 _ HB5.out.1 HINY.out (by rw [hzny, hzy]) HONY.out ?_)
          | fail)
        refine at_world (fun w' => OneX 88 w0 w' p M3 (fun i => (D2 i ∨ i = A) ∨ i = C) (fun w' => (X2 w' ∧ Blk w' A nx.toArray 74) ∧ Blk w' C ny.toArray 74)) HB5.out.2 ?_
        intro w6 hX6
        have HK6 := Lib.hid (keeps_and (keeps_and HK2.out (keeps_blk A nx.toArray 74)) (keeps_blk C ny.toArray 74))
        have HX6 := Lib.hid hX6
        have c6 := (HXC2.out _ hX6.x.1.1).1
        clear hX6 HB5 HZ5
        go_wp2_with (first
          | (refine wpList_load_row rfl 74 (.tmp 11) rfl A rfl 74 nx.toArray (0, 0) _ HX6.out.x.1.2 Tryz.underlying74 rfl HINX.out ?_)
          | fail)
        refine (HW1.out _ _ _ HK6.out HX6.out).mono ?_
        rintro e w7 ⟨rfl, hX7⟩
        have HX7 := Lib.hid hX7
        have c7 := (HXC2.out _ hX7.x.1.1).2
        clear hX7 HX6 c6
        go_wp2_with (first
          | (refine wpList_load_row rfl 74 (.tmp 12) rfl C rfl 74 ny.toArray (0, 0) _ HX7.out.x.2 Tryz.underlying74 rfl HINY.out ?_)
          | fail)
        refine (HW2.out _ _ _ HK6.out HX7.out).mono ?_
        rintro e w8 ⟨rfl, hX8⟩
        have HX8 := Lib.hid (hX8.less (E := D2) (Y := X2) (fun _ h => .inl (.inl h)) (fun h => h.1.1))
        clear hX8 HX7 c7
        go_wp2
        go_roundw
        case rel => exact ⟨k + 1, by omega, by go_num, Lib.hid (HEND.out _ HX8.out)⟩
        case measure => simp [intOf]; omega
      · have hlm : lm yk xk = mk tu := by rw [HTU.out]; simp [lm]
        clear HTU
        go_upto_region 7 with fail
        go_quiet ((go_at_call 101; exact Calls.quiet_of_same (KL1.out _)))
        rw [hlm]
        go_upto_region 10 with fail
        refine at_world (fun w' => OneX 88 w0 w' p M3 (fun i => (D2 i ∨ i = A) ∨ i = C) (fun w' => (X2 w' ∧ Blk w' A xs.toArray 74) ∧ Blk w' C ys.toArray 74)) (HZ3.out.drewN2 HTK3.out _) ?_
        intro w4 hZ4
        have HZ4 := Lib.hid hZ4
        clear cA cC cU hZ4 HZ3 KL1 hlm
        go_wp2_with (first
          | (refine wpList_load_row rfl 74 (.tmp 11) rfl A rfl 74 xs.toArray (0, 0) _ HZ4.out.x.1.2 Tryz.underlying74 rfl HIX.out ?_)
          | (refine wpList_load_row rfl 74 (.tmp 12) rfl C rfl 74 ys.toArray (0, 0) _ HZ4.out.x.2 Tryz.underlying74 rfl HIY.out ?_)
          | fail)
        refine (KSW.out _).mono ?_
        rintro e w5 ⟨rfl, hb5⟩
        have HZ5 := Lib.hid (HZ4.out.below HTK3.out hb5)
        have HB5 := Lib.hid (HZ5.out.turn2 HK2.out HNE.out hAC HGE.out nx.toArray ny.toArray)
        clear hb5 HZ4 KSW
        go_upto_region 11 with (first
          | (refine wpList_store_row rfl 74 (.tmp 11) (.tmp 71) rfl A nx.toArray rfl rfl 74 _ HZ5.out.x.1.2 HINX.out (by rw [hznx, hzx]) HONX.out ?_)
          | (refine wpList_store_row rfl 74 (.tmp 12) (.tmp 72) rfl C ny.toArray rfl rfl 74 _ HB5.out.1 HINY.out (by rw [hzny, hzy]) HONY.out ?_)
          | fail)
        refine at_world (fun w' => OneX 88 w0 w' p M3 (fun i => (D2 i ∨ i = A) ∨ i = C) (fun w' => (X2 w' ∧ Blk w' A nx.toArray 74) ∧ Blk w' C ny.toArray 74)) HB5.out.2 ?_
        intro w6 hX6
        have HK6 := Lib.hid (keeps_and (keeps_and HK2.out (keeps_blk A nx.toArray 74)) (keeps_blk C ny.toArray 74))
        have HX6 := Lib.hid hX6
        have c6 := (HXC2.out _ hX6.x.1.1).1
        clear hX6 HB5 HZ5
        go_wp2_with (first
          | (refine wpList_load_row rfl 74 (.tmp 11) rfl A rfl 74 nx.toArray (0, 0) _ HX6.out.x.1.2 Tryz.underlying74 rfl HINX.out ?_)
          | fail)
        refine (HW1.out _ _ _ HK6.out HX6.out).mono ?_
        rintro e w7 ⟨rfl, hX7⟩
        have HX7 := Lib.hid hX7
        have c7 := (HXC2.out _ hX7.x.1.1).2
        clear hX7 HX6 c6
        go_wp2_with (first
          | (refine wpList_load_row rfl 74 (.tmp 12) rfl C rfl 74 ny.toArray (0, 0) _ HX7.out.x.2 Tryz.underlying74 rfl HINY.out ?_)
          | fail)
        refine (HW2.out _ _ _ HK6.out HX7.out).mono ?_
        rintro e w8 ⟨rfl, hX8⟩
        have HX8 := Lib.hid (hX8.less (E := D2) (Y := X2) (fun _ h => .inl (.inl h)) (fun h => h.1.1))
        clear hX8 HX7 c7
        go_wp2
        go_roundw
        case rel => exact ⟨k + 1, by omega, by go_num, Lib.hid (HEND.out _ HX8.out)⟩
        case measure => simp [intOf]; omega
    · obtain rfl : k = ps.length := by omega
      have HE : Hid (OneX 88 w0 wr p ((M.srt r kn ps).noted (evsS r ps)) D X) := Lib.hid (by
        have := HXr.out.less (E := D) (Y := X) (fun _ h => .inl h) (fun h => h.1)
        rwa [List.take_length] at this)
      clear HXr
      go_wp2
      go_ret
      exact ⟨rfl, HE.out⟩
end Go.Proofs.YthchfdobdghdoaaGreat
end
section

/-
  The walks of Events: of sort and of shellgameref6.
-/
namespace Go.Sg
open Go Go.RowKit
theorem evsN_cells (w : World) (es : List Ev) (t : TypeId) : ∀ j u, (evsV es)[j]? = some u → (w.alloc (.cells (evsV es).toArray t)).cell? ((⟨w.heap.size, 0, none⟩ : Addr).add j) = some u := by
  intro j u hu
  rw [addr_add, Nat.zero_add, cell_of_row _ _ _ _ _ (0, 0) (heap_alloc_new w _), List.getElem?_toArray]
  exact hu
theorem not_row {w : World} {base : Nat} {e t : TypeId} {size n : Nat} {v : Value} {xs : List Value} {g : Nat} {cs : Array Value} (h : w.ownsRow base e size v n xs) (hb : Blk w g cs t) (hne : t ≠ e) : some g ≠ v.ownBlock := by
  rcases h.2 with ⟨rfl, _⟩ | ⟨g', cap, cur, rfl, _, hg, _⟩
  · intro h; cases h
  · intro h
    cases h
    unfold Blk at hb
    rw [hg] at hb
    cases hb
    exact hne rfl
end Go.Sg
namespace Go.Proofs.YthchfdobdghdoaaGreat
open Go Go.RowKit Go.Sg

set_option maxHeartbeats 2000000 in
set_option maxRecDepth 100000 in
theorem sortEvents_no (r n : Int) (hn : rightB n = false) (w : World) : Calls Tryz.prog 48 #[.int .i64 r, .int .i64 n] w (RetE [] w) := by
  have KP := Lib.hid (netPairs_no n hn w)
  go_enter Tryz.func48, Tryz.ntmps48
  go_wp2_with fail
  refine KP.out.mono ?_
  rintro e w1 ⟨rfl, rfl⟩
  go_wp2_with fail
  go_loop [5, 13] (fun l i => l = .slice none 0 0 ∧ i = .int .i64 0) (fun _ _ => 0)
  case atStart => exact ⟨rfl, rfl⟩
  case round =>
    obtain ⟨rfl, rfl⟩ := hrel
    go_wp2
    go_ret
    exact ⟨_, rfl, ⟨none, 0, rfl, Nat.le_refl _, by simp, fun h => absurd rfl h⟩, Below.refl _ _, fun k hk => by simp [Value.ownBlock] at hk⟩

set_option maxHeartbeats 4000000 in
set_option maxRecDepth 100000 in
theorem sortEvents_yes (t : Nat) (ht : t ≤ 10) (r : Int) (w : World) : Calls Tryz.prog 48 #[.int .i64 r, .int .i64 ((2 ^ t : Nat) : Int)] w (RetE (evsS r (netP (2 ^ t) t)) w) := by
  have KP := Lib.hid (fun w => netPairs_yes t ht w)
  have hpl : (netP (2 ^ t) t).length ≤ 30000 := by
    rw [netP_cnt t ht]
    have h2 : ∀ t : Fin 11, cntI t.val ≤ 30000 := by decide +kernel
    exact h2 ⟨t, by omega⟩
  obtain ⟨i0, hi0, hz0, hz1, hz2⟩ := info_parts info_event
  have HI := Lib.hid hi0
  have HZ := Lib.hid hz0
  have HS := Lib.hid hz1
  have HY := Lib.hid hz2
  obtain ⟨n, hn⟩ : ∃ n, 2 ^ t = n := ⟨_, rfl⟩
  obtain ⟨ps, hps⟩ : ∃ ps, netP (2 ^ t) t = ps := ⟨_, rfl⟩
  rw [hps] at KP hpl ⊢
  rw [hn] at KP ⊢
  clear hi0 hz0 hz1 hz2 hn hps
  go_enter Tryz.func48, Tryz.ntmps48
  go_wp2_with fail
  refine (KP.out _).mono ?_
  rintro e w1 ⟨v, rfl, hown, hb1⟩
  have HQ := Lib.hid (SlQ.of_owns hown)
  have HB1 := Lib.hid hb1
  obtain ⟨va, vc, rfl, hc1, hc2, _⟩ := HQ.out
  clear hown hb1 KP
  unfold maxLen at hc2
  go_wp2_with fail
  go_loopw [5, 13] (fun sv i wr => ∃ k : Nat, k ≤ ps.length ∧ i = .int .i64 k ∧ Hid (wr.ownsRow w1.heap.size 94 3 sv (4 * k) (evsV (evsS r (ps.take k)))) ∧ Hid (Below w1.heap.size w1 wr)) (fun _ i _ => ps.length - (intOf i).toNat)
  case atStart => exact ⟨0, by omega, rfl, Lib.hid (World.ownsRow_nil _ _ _ _), Lib.hid (Below.refl _ _)⟩
  case round =>
    obtain ⟨k, hk, rfl, HO, HB⟩ := hrel
    by_cases hlt : k < ps.length
    · obtain ⟨b, off, cap, hvv, hblt, hrow⟩ := HQ.out.row hlt
      simp only [Value.slice.injEq, true_and] at hvv
      obtain ⟨rfl, rfl⟩ := hvv
      obtain ⟨q, hqk⟩ : ∃ q, ps[k] = q := ⟨_, rfl⟩
      rw [hqk] at hrow
      have HTK : Hid (ps.take (k + 1) = ps.take k ++ [q]) := Lib.hid (by rw [List.take_succ_eq_append_getElem hlt, hqk])
      have HROW : Hid (wr.rangeAt b (off + k * 3) (prc q)) := Lib.hid fun j u hu => (HB.out.cell (p := ⟨b, off + k * 3 + j, none⟩) hblt).trans (hrow j u hu)
      have HIP : Hid ((Tryz.prog.info? 123).map (·.size) = some (prc q).length) := Lib.hid (by kernel_rfl)
      have HIP2 : Hid ((Tryz.prog.info? 123).map (·.size) = some (prc q).toArray.size) := Lib.hid (by kernel_rfl)
      have i0' : (0 : Int) ≤ (k : Int) := by omega
      have i1 : (k : Int) < (ps.length : Int) := by omega
      clear hqk hrow
      obtain ⟨g, hg⟩ : ∃ g, wr.heap.size = g := ⟨_, rfl⟩
      have hge : Below g wr ((wr.alloc (.cells #[.int .i64 0, .int .i64 0, .bool false] 123)).setRow g (prc q).toArray) ∧ Blk ((wr.alloc (.cells #[.int .i64 0, .int .i64 0, .bool false] 123)).setRow g (prc q).toArray) g (prc q).toArray 123 := by
        rw [← hg]
        exact ⟨below_setRow ((Below.refl _ _).alloc (Nat.le_refl _) _) (Nat.le_refl _) _, (Blk.new _ _ _).setRow _⟩
      have HBN : Hid (Blk (wr.alloc (.cells #[.int .i64 0, .int .i64 0, .bool false] 123)) g #[.int .i64 0, .int .i64 0, .bool false] 123) := Lib.hid (by rw [← hg]; exact Blk.new _ _ _)
      go_upto_region 5 with (first
        | (refine wpList_load_mid rfl 123 (.tmp 15) rfl b (off + k * 3) rfl (prc q) _ HROW.out Tryz.underlying123 rfl HIP.out ?_)
        | (refine wpList_store_row rfl 123 (.tmp 7) (.tmp 16) rfl g (prc q).toArray rfl rfl 123 _ HBN.out HIP2.out rfl (by simp [prc, Value.oneCell']) ?_)
        | fail)
      refine at_world (fun w' => Below g wr w' ∧ Blk w' g (prc q).toArray 123) hge ?_
      rintro w3 ⟨hb3, hk3⟩
      have HK3 := Lib.hid hk3
      have HO3 := Lib.hid (ownsRow_below HO.out (by rw [hg]; exact hb3))
      have HB3 : Hid (Below w1.heap.size w1 w3) := Lib.hid (HB.out.trans (hb3.mono (by rw [← hg]; exact HB.out.size)))
      clear hb3 hk3 hge HBN HO HB hblt
      obtain ⟨g2, hg2⟩ : ∃ g2, w3.heap.size = g2 := ⟨_, rfl⟩
      have hgg : g < g2 := by rw [← hg2]; exact HK3.out.lt
      go_wp2_with fail
      have HG : Hid (Blk (w3.alloc (.cells #[.bool false, .bool true] 4)) g (prc q).toArray 123) := Lib.hid (HK3.out.alloc _)
      have HG2 : Hid (Blk (w3.alloc (.cells #[.bool false, .bool true] 4)) g2 #[.bool false, .bool true] 4) := Lib.hid (by rw [← hg2]; exact Blk.new _ _ _)
      have HBz : Hid (Below w1.heap.size w1 (w3.alloc (.cells #[.bool false, .bool true] 4))) := Lib.hid (HB3.out.alloc HB3.out.size _)
      obtain ⟨wo, rfl⟩ : ∃ wo : World, wo = wr := ⟨_, rfl⟩
      go_loopw [5, 9, 19] (fun sv _ i wr => ∃ j : Nat, j ≤ 2 ∧ i = .int .i64 j ∧ Hid (wr.ownsRow w1.heap.size 94 3 sv (4 * k + 2 * j) (evsV (evsS r (ps.take k) ++ (evs4 r q).take (2 * j)))) ∧ Hid (Blk wr g (prc q).toArray 123) ∧ Hid (Blk wr g2 #[.bool false, .bool true] 4) ∧ Hid (Below w1.heap.size w1 wr)) (fun _ _ i _ => 2 - (intOf i).toNat)
      case atStart => exact ⟨0, by omega, rfl, Lib.hid (by rw [Nat.mul_zero, Nat.add_zero, List.take_zero, List.append_nil]; exact HO3.out.alloc _), HG, HG2, HBz⟩
      case round =>
        clear HG HG2 HBz HO3 HB3 HK3
        obtain ⟨j, hj, rfl, HOj, HG, HG2, HBj⟩ := hrel
        have c1 : wr.cell? ⟨g, 0, none⟩ = some (.int .i64 (q.1 : Int)) := by rw [HG.out.cell]; rfl
        have c2 : wr.cell? ⟨g, 1, none⟩ = some (.int .i64 (q.2.1 : Int)) := by rw [HG.out.cell]; rfl
        rcases (show j = 0 ∨ j = 1 ∨ j = 2 by omega) with rfl | rfl | rfl
        · simp only [Nat.mul_zero] at HOj
          have c0 : wr.cell? ⟨g2, 0, none⟩ = some (.bool false) := by rw [HG2.out.cell]; rfl
          have HNR := Lib.hid (And.intro (not_row HOj.out HG.out (by decide)) (not_row HOj.out HG2.out (by decide)))
          have hgl := HG.out.lt
          have hgl2 := HG2.out.lt
          go_wp2_with (first
            | (at_builtin; go_loud (refine wpList_append_own_at _ rfl (.tmp 23) (.tmp 34) 48 rfl w1.heap.size 94 i0 (.agg #[.int .i64 0, .int .i64 0, .bool false]) 3 24 Tryz.underlying48 HI.out HZ.out HS.out HY.out rfl (by decide) _ (4 * k + 0) (evsV (evsS r (ps.take k) ++ (evs4 r q).take 0)) rfl (HOj.out.alloc _) ⟨wr.heap.size, 0, none⟩ 2 2 (evsV [(r, (q.1 : Int), false), (r, (q.2.1 : Int), false)]) rfl rfl (evsN_cells _ _ _) (evsV_one [(r, (q.1 : Int), false), (r, (q.2.1 : Int), false)]) (by unfold maxLen; omega) (by omega) (by have := HBj.out.size; simp; omega) ?_))
            | fail)
          intro v' w4 hown hgrow _ _
          have HO4 := Lib.hid hown
          have HG4 : Hid (Blk w4 g (prc q).toArray 123) := Lib.hid ((hgrow.block g (by rw [World.size_alloc]; omega) HNR.out.1).trans (HG.out.alloc _))
          have HG24 : Hid (Blk w4 g2 #[.bool false, .bool true] 4) := Lib.hid ((hgrow.block g2 (by rw [World.size_alloc]; omega) HNR.out.2).trans (HG2.out.alloc _))
          have HB4 : Hid (Below w1.heap.size w1 w4) := Lib.hid ((HBj.out.alloc HBj.out.size _).grown hgrow (by have := HBj.out.size; simp; omega) (fun j hj => (HOj.out.lt j hj).1))
          clear hown hgrow
          go_wp2
          go_roundw
          case rel => exact ⟨1, by omega, by go_num, Lib.hid (by have h := HO4.out; rw [← evsV_append] at h; (try rw [List.append_assoc] at h); exact h), HG4, HG24, HB4⟩
          case measure => simp [intOf]
        · simp only [Nat.mul_one] at HOj
          have c0 : wr.cell? ⟨g2, 1, none⟩ = some (.bool true) := by rw [HG2.out.cell]; rfl
          have HNR := Lib.hid (And.intro (not_row HOj.out HG.out (by decide)) (not_row HOj.out HG2.out (by decide)))
          have hgl := HG.out.lt
          have hgl2 := HG2.out.lt
          go_wp2_with (first
            | (at_builtin; go_loud (refine wpList_append_own_at _ rfl (.tmp 23) (.tmp 34) 48 rfl w1.heap.size 94 i0 (.agg #[.int .i64 0, .int .i64 0, .bool false]) 3 24 Tryz.underlying48 HI.out HZ.out HS.out HY.out rfl (by decide) _ (4 * k + 2) (evsV (evsS r (ps.take k) ++ (evs4 r q).take 2)) rfl (HOj.out.alloc _) ⟨wr.heap.size, 0, none⟩ 2 2 (evsV [(r, (q.1 : Int), true), (r, (q.2.1 : Int), true)]) rfl rfl (evsN_cells _ _ _) (evsV_one [(r, (q.1 : Int), true), (r, (q.2.1 : Int), true)]) (by unfold maxLen; omega) (by omega) (by have := HBj.out.size; simp; omega) ?_))
            | fail)
          intro v' w4 hown hgrow _ _
          have HO4 := Lib.hid hown
          have HG4 : Hid (Blk w4 g (prc q).toArray 123) := Lib.hid ((hgrow.block g (by rw [World.size_alloc]; omega) HNR.out.1).trans (HG.out.alloc _))
          have HG24 : Hid (Blk w4 g2 #[.bool false, .bool true] 4) := Lib.hid ((hgrow.block g2 (by rw [World.size_alloc]; omega) HNR.out.2).trans (HG2.out.alloc _))
          have HB4 : Hid (Below w1.heap.size w1 w4) := Lib.hid ((HBj.out.alloc HBj.out.size _).grown hgrow (by have := HBj.out.size; simp; omega) (fun j hj => (HOj.out.lt j hj).1))
          clear hown hgrow
          go_wp2
          go_roundw
          case rel => exact ⟨2, by omega, by go_num, Lib.hid (by have h := HO4.out; rw [← evsV_append] at h; (try rw [List.append_assoc] at h); exact h), HG4, HG24, HB4⟩
          case measure => simp [intOf]
        · have HOE : Hid (wr.ownsRow w1.heap.size 94 3 u5 (4 * (k + 1)) (evsV (evsS r (ps.take (k + 1))))) := Lib.hid (by
            have h := HOj.out
            rw [HTK.out, evsS_snoc, show 4 * (k + 1) = 4 * k + 2 * 2 by omega]
            exact h)
          clear HOj
          go_wp2
          go_roundw
          case rel => exact ⟨k + 1, by omega, by go_num, HOE, HBj⟩
          case measure => simp [intOf]; omega
    · obtain rfl : k = ps.length := by omega
      have HL : Hid (ps.take ps.length = ps) := Lib.hid List.take_length
      rw [HL.out] at HO
      go_wp2
      go_ret
      exact ⟨_, rfl, SlE.of_owns (by rw [evsS_len]; exact HO.out), HB1.out.trans (HB.out.mono HB1.out.size), fun j hj => Nat.le_trans HB1.out.size (owns_ge HO.out j hj)⟩

theorem ref5Pairs_no (n : Int) (hNum : Num n) (hn : rightB n = false) (w : World) : Calls Tryz.prog 71 #[.int .i64 n] w fun e w' => e = .returned (.slice none 0 0) ∧ w' = w := by
  have K := Lib.hid (ref5Right_any n hNum w)
  rw [hn] at K
  go_enter Tryz.func71, Tryz.ntmps71
  go_wp2_with (first
    | (go_at_call 86; refine K.out.mono ?_; rintro e w' ⟨rfl, rfl⟩)
    | fail)
  go_ret
  exact ⟨rfl, rfl⟩

set_option maxHeartbeats 2000000 in
set_option maxRecDepth 100000 in
theorem refEvents_no (r n : Int) (hNum : Num n) (hn : rightB n = false) (w : World) : Calls Tryz.prog 50 #[.int .i64 r, .int .i64 n] w (RetE [] w) := by
  have KP := Lib.hid (ref5Pairs_no n hNum hn w)
  go_enter Tryz.func50, Tryz.ntmps50
  go_wp2_with fail
  refine KP.out.mono ?_
  rintro e w1 ⟨rfl, rfl⟩
  go_wp2_with fail
  go_loop [6, 7] (fun l i => l = .slice none 0 0 ∧ i = .int .i64 0) (fun _ _ => 0)
  case atStart => exact ⟨rfl, rfl⟩
  case round =>
    obtain ⟨rfl, rfl⟩ := hrel
    go_wp2
    go_ret
    exact ⟨_, rfl, ⟨none, 0, rfl, Nat.le_refl _, by simp, fun h => absurd rfl h⟩, Below.refl _ _, fun k hk => by simp [Value.ownBlock] at hk⟩

set_option maxHeartbeats 4000000 in
set_option maxRecDepth 100000 in
theorem refEvents_yes (t : Nat) (ht : t ≤ 10) (r : Int) (w : World) : Calls Tryz.prog 50 #[.int .i64 r, .int .i64 ((2 ^ t : Nat) : Int)] w (RetE (evsS r (netP (2 ^ t) t)) w) := by
  have KP := Lib.hid (fun w => ref5Pairs_yes t ht w)
  have hpl : (netP (2 ^ t) t).length ≤ 30000 := by
    rw [netP_cnt t ht]
    have h2 : ∀ t : Fin 11, cntI t.val ≤ 30000 := by decide +kernel
    exact h2 ⟨t, by omega⟩
  obtain ⟨i0, hi0, hz0, hz1, hz2⟩ := info_parts info_event
  have HI := Lib.hid hi0
  have HZ := Lib.hid hz0
  have HS := Lib.hid hz1
  have HY := Lib.hid hz2
  obtain ⟨n, hn⟩ : ∃ n, 2 ^ t = n := ⟨_, rfl⟩
  obtain ⟨ps, hps⟩ : ∃ ps, netP (2 ^ t) t = ps := ⟨_, rfl⟩
  rw [hps] at KP hpl ⊢
  rw [hn] at KP ⊢
  clear hi0 hz0 hz1 hz2 hn hps
  go_enter Tryz.func50, Tryz.ntmps50
  go_wp2_with fail
  refine (KP.out _).mono ?_
  rintro e w1 ⟨v, rfl, hown, hb1⟩
  have HQ := Lib.hid (SlQ.of_owns hown)
  have HB1 := Lib.hid hb1
  obtain ⟨va, vc, rfl, hc1, hc2, _⟩ := HQ.out
  clear hown hb1 KP
  unfold maxLen at hc2
  go_wp2_with fail
  go_loopw [6, 7] (fun sv i wr => ∃ k : Nat, k ≤ ps.length ∧ i = .int .i64 k ∧ Hid (wr.ownsRow w1.heap.size 94 3 sv (4 * k) (evsV (evsS r (ps.take k)))) ∧ Hid (Below w1.heap.size w1 wr)) (fun _ i _ => ps.length - (intOf i).toNat)
  case atStart => exact ⟨0, by omega, rfl, Lib.hid (World.ownsRow_nil _ _ _ _), Lib.hid (Below.refl _ _)⟩
  case round =>
    obtain ⟨k, hk, rfl, HO, HB⟩ := hrel
    by_cases hlt : k < ps.length
    · obtain ⟨b, off, cap, hvv, hblt, hrow⟩ := HQ.out.row hlt
      simp only [Value.slice.injEq, true_and] at hvv
      obtain ⟨rfl, rfl⟩ := hvv
      obtain ⟨q, hqk⟩ : ∃ q, ps[k] = q := ⟨_, rfl⟩
      rw [hqk] at hrow
      have HTK : Hid (ps.take (k + 1) = ps.take k ++ [q]) := Lib.hid (by rw [List.take_succ_eq_append_getElem hlt, hqk])
      have HC : Hid (∀ w', Below w1.heap.size w1 w' → w'.cell? ⟨b, off + k * 3, none⟩ = some (.int .i64 (q.1 : Int)) ∧ w'.cell? ⟨b, off + k * 3 + 1, none⟩ = some (.int .i64 (q.2.1 : Int))) := Lib.hid fun w' hb => ⟨(hb.cell (p := ⟨b, off + k * 3, none⟩) hblt).trans (hrow 0 _ rfl), (hb.cell (p := ⟨b, off + k * 3 + 1, none⟩) hblt).trans (hrow 1 _ rfl)⟩
      have i0' : (0 : Int) ≤ (k : Int) := by omega
      have i1 : (k : Int) < (ps.length : Int) := by omega
      have hb0 := HB.out.drew
      have hc0 := HC.out _ hb0
      have HO0 := Lib.hid (ownsRow_below HO.out ((Below.refl _ _).drew))
      clear hqk hrow
      go_upto_region 6 with fail
      go_region_held3 (fun w' => Below w1.heap.size w1 w' ∧ w'.cell? ⟨b, off + k * 3, none⟩ = some (.int .i64 (q.1 : Int)) ∧ w'.cell? ⟨b, off + k * 3 + 1, none⟩ = some (.int .i64 (q.2.1 : Int))) (first | exact ⟨by assumption, HC.out _ (by assumption)⟩ | exact ⟨hb0.alloc hb0.size _, HC.out _ (hb0.alloc hb0.size _)⟩) (first
        | (go_loud (refine step_append_own_at rfl (.tmp 16) (.tmp 45) 48 rfl w1.heap.size 94 i0 (.agg #[.int .i64 0, .int .i64 0, .bool false]) 3 24 Tryz.underlying48 HI.out HZ.out HS.out HY.out rfl (by decide) _ (4 * k) (evsV (evsS r (ps.take k))) rfl (HO0.out.alloc _) ⟨wr.drew.heap.size, 0, none⟩ 4 4 (evsV (evs4 r q)) rfl rfl (evsN_cells _ _ _) (evsV_one (evs4 r q)) (by unfold maxLen; omega) (by omega) (by have := HB.out.size; simp; omega) ?_); intro v' w4 hown hgrow _; have hb4 : Below w1.heap.size w1 w4 := (hb0.alloc hb0.size _).grown hgrow (by have := HB.out.size; simp; omega) (fun j hj => (HO.out.lt j hj).1)))
      all_goals
        have HO4 := Lib.hid hown
        have HB4 := Lib.hid hb4
        clear hown hgrow hb4 hc0 hb0
        go_wp2
        go_roundw
        case rel => exact ⟨k + 1, by omega, by go_num, Lib.hid (by rw [HTK.out, evsS_snoc, evsV_append, show 4 * (k + 1) = 4 * k + 4 by omega]; exact HO4.out), HB4⟩
        case measure => simp [intOf]; omega
    · obtain rfl : k = ps.length := by omega
      have HL : Hid (ps.take ps.length = ps) := Lib.hid List.take_length
      rw [HL.out] at HO
      go_wp2
      go_ret
      exact ⟨_, rfl, SlE.of_owns (by rw [evsS_len]; exact HO.out), HB1.out.trans (HB.out.mono HB1.out.size), fun j hj => Nat.le_trans HB1.out.size (owns_ge HO.out j hj)⟩
end Go.Proofs.YthchfdobdghdoaaGreat
end
section

/-
  A run, right or not; its looks.
-/
namespace Go.Sg
open Go Go.RowKit
def lgN (n : Int) : Nat := Nat.log2 n.toNat
def netI (n : Int) : List Pr := if rightB n then netP (2 ^ lgN n) (lgN n) else []
theorem lgN_pow {t : Nat} : lgN ((2 ^ t : Nat) : Int) = t := by
  unfold lgN
  rw [Int.toNat_natCast, Nat.log2_two_pow]
theorem rightB_lg {n : Int} (h : rightB n = true) : ∃ t : Nat, t ≤ 10 ∧ n = ((2 ^ t : Nat) : Int) := by
  obtain ⟨t, ht, rfl⟩ := rightB_of h
  exact ⟨t, ht, by simp⟩
def evsR (r n : Int) : List Ev := evsS r (netI n)
def runOk (M : Mm) (r n key : Int) : Bool := rightB n && !decide ((M.size r : Int) < n) && !decide (key < 0) && decide (key < 12)
def runM (M : Mm) (r n key : Int) : Mm := if runOk M r n key then (M.srt r key.toNat (netI n)).noted (evsR r n) else M
theorem runOk_bad {M : Mm} {r n key : Int} (h : runOk M r n key = false) : rightB n = false ∨ (M.size r : Int) < n ∨ key < 0 ∨ 12 ≤ key := by
  unfold runOk at h
  simp only [Bool.and_eq_false_iff, Bool.not_eq_eq_eq_not, Bool.not_false, decide_eq_true_eq, decide_eq_false_iff_not] at h
  rcases h with ((h | h) | h) | h
  · exact .inl h
  · exact .inr (.inl h)
  · exact .inr (.inr (.inl h))
  · exact .inr (.inr (.inr (by omega)))
theorem runOk_good {M : Mm} {r n key : Int} (h : runOk M r n key = true) : ∃ (t kn : Nat), t ≤ 10 ∧ n = ((2 ^ t : Nat) : Int) ∧ 2 ^ t ≤ M.size r ∧ kn < 12 ∧ key = kn := by
  unfold runOk at h
  simp only [Bool.and_eq_true, Bool.not_eq_eq_eq_not, Bool.not_true, decide_eq_false_iff_not, decide_eq_true_eq] at h
  obtain ⟨⟨⟨h1, h2⟩, h3⟩, h4⟩ := h
  obtain ⟨t, ht, rfl⟩ := rightB_lg h1
  exact ⟨t, key.toNat, ht, rfl, by omega, by omega, by omega⟩
theorem netI_pow {t : Nat} (ht : t ≤ 10) : netI ((2 ^ t : Nat) : Int) = netP (2 ^ t) t := by
  unfold netI
  rw [if_pos (by have := rightB_pow t ht; rwa [show ((2 ^ t : Nat) : Int) = (2 : Int) ^ t by simp]), lgN_pow]
end Go.Sg
namespace Go.Proofs.YthchfdobdghdoaaGreat
open Go Go.RowKit Go.Sg
variable {w0 w : World} {p : Nat} {M : Mm} {D : Nat → Prop} {X : World → Prop}
theorem netI_few (n : Int) : (netI n).length ≤ 30000 := by
  unfold netI
  split
  · rename_i h
    obtain ⟨t, ht, rfl⟩ := rightB_lg h
    rw [lgN_pow]
    exact netP_few t ht
  · exact Nat.zero_le _
theorem evsR_len (r n : Int) : (evsR r n).length ≤ 120000 := by
  unfold evsR
  rw [evsS_len]
  have := netI_few n
  omega
theorem one_run (hK : Keeps D X) (r n key : Int) (h : OneX 88 w0 w p M D X) (hN : M.evs.length ≤ 1099511000000) :
    Calls Tryz.prog 90 #[.pointer (some ⟨p, 0, none⟩), .int .i64 r, .int .i64 n, .int .i64 key] w fun e w' => e = .returned (.int .i64 (if runOk M r n key then 0 else 1)) ∧ OneX 88 w0 w' p (runM M r n key) D X := by
  cases hb : runOk M r n key with
  | false =>
    have e : runM M r n key = M := by unfold runM; rw [if_neg (by rw [hb]; exact Bool.false_ne_true)]
    rw [e]
    exact (one_run_no n r key (runOk_bad hb) h).mono fun e w' ⟨he, hw⟩ => ⟨he, by rw [hw]; exact h⟩
  | true =>
    obtain ⟨t, kn, ht, rfl, hs, hk, rfl⟩ := runOk_good hb
    have e : runM M r ((2 ^ t : Nat) : Int) (kn : Int) = (M.srt r kn (netP (2 ^ t) t)).noted (evsS r (netP (2 ^ t) t)) := by
      unfold runM
      rw [if_pos hb]
      unfold evsR
      rw [netI_pow ht, Int.toNat_natCast]
    rw [e]
    exact one_run_yes hK t ht r kn hk hs h hN
theorem sortEvents_any (r n : Int) (w : World) : Calls Tryz.prog 48 #[.int .i64 r, .int .i64 n] w (RetE (evsR r n) w) := by
  cases hb : rightB n with
  | false =>
    have e : evsR r n = [] := by unfold evsR netI; rw [hb]; rfl
    rw [e]
    exact sortEvents_no r n hb w
  | true =>
    obtain ⟨t, ht, rfl⟩ := rightB_lg hb
    unfold evsR
    rw [netI_pow ht]
    exact sortEvents_yes t ht r w
end Go.Proofs.YthchfdobdghdoaaGreat
end
section

/-
  The walk of shellgameref6.Run: the document's run.
-/
namespace Go.Sg
open Go Go.RowKit
end Go.Sg
namespace Go.Proofs.YthchfdobdghdoaaGreat
open Go Go.RowKit Go.Sg
variable {w0 w : World} {p : Nat} {M : Mm} {D : Nat → Prop} {X : World → Prop}

end Go.Proofs.YthchfdobdghdoaaGreat
end
section
/-
  The document's Run and Events of chapter 6, beside level's.
-/
namespace Go.Proofs.YthchfdobdghdoaaGreat
open Go Go.RowKit Go.Sg
variable {w0 w : World} {p : Nat} {M : Mm} {D : Nat → Prop} {X : World → Prop}
theorem refEvents_any (r n : Int) (hn : Num n) (w : World) : Calls Tryz.prog 50 #[.int .i64 r, .int .i64 n] w (RetE (evsR r n) w) := by
  cases hb : rightB n with
  | false =>
    have e : evsR r n = [] := by unfold evsR netI; rw [hb]; rfl
    rw [e]
    exact refEvents_no r n hn hb w
  | true =>
    obtain ⟨t, ht, rfl⟩ := rightB_lg hb
    unfold evsR
    rw [netI_pow ht]
    exact refEvents_yes t ht r w
end Go.Proofs.YthchfdobdghdoaaGreat
end
