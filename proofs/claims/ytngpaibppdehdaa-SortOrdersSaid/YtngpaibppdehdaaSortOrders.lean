/-
  The walk of shellgamelaw6.SortOrders.
-/
import Derived.Test.YtngpaibppdehdaaSortedO
import Derived.Great.BuildSlice
namespace Go.Proofs.Ytngpaibppdehdaa
open Go Go.RowKit Go.Sg
theorem keeps_ownO (base : Nat) (e : TypeId) (size : Nat) (v : Value) (n : Nat) (xs : List Value) : Keeps (fun i => v.ownBlock = some i) (fun w => w.ownsRow base e size v n xs) :=
  fun _ _ _ hb hx => ownsRow_keep hx fun k hk => hb k hk
/-- what lies beside a memory turns, and new memory with it -/
theorem OneX.growO {T : Nat} {w0 w w' : World} {p : Nat} {M : Mm} {D E : Nat → Prop} {X Y : World → Prop} (h : OneX T w0 w p M D X) (hf : MFrame (fun k => D k ∧ w0.heap.size ≤ k) w w') (hE : ∀ k, E k → (D k ∨ w.heap.size ≤ k) ∧ k < w'.heap.size) (hy : Y w') : OneX T w0 w' p M E Y := by
  obtain ⟨F, h1, h2, h3, h4, h5, h6⟩ := h
  exact ⟨F, h1.frame hf (fun k hk hd => h4 k hd.1 hk), h2, h3.trans (hf.below (fun k hk => hk.2) h3.size), fun k hk hF => (hE k hk).1.elim (fun hd => h4 k hd hF) (fun hs => by have := h1.lt k hF; omega), fun k hk => (hE k hk).2, hy⟩
theorem own_words {w : World} {base : Nat} {e : TypeId} {v : Value} {n : Nat} {ys : List Int} (h : w.ownsRow base e 1 v n (ys.map (Value.int .u64))) (hn : 0 < n) : ∃ g cap, v = .slice (some ⟨g, 0, none⟩) n cap ∧ n ≤ cap ∧ cap ≤ maxLen := by
  rcases h.2 with ⟨_, h0⟩ | ⟨g, cap, cur, rfl, hb, hg, hn, hm, hsz, ht⟩
  · omega
  · exact ⟨g, cap, rfl, hn, hm⟩
theorem own_word {w : World} {base : Nat} {e : TypeId} {g cap n : Nat} {ys : List Int} (h : w.ownsRow base e 1 (.slice (some ⟨g, 0, none⟩) n cap) n (ys.map (Value.int .u64))) {i : Nat} {x : Int} (hx : ys[i]? = some x) (hi : i < n) : w.cell? ⟨g, i, none⟩ = some (.int .u64 x) := by
  rw [h.cellAt i (by omega)]
  simp [hx]
theorem first_word {x : List Int} (h : x.length = 12) : (cw x)[0]? = some (.int .u64 (x.getD 0 0)) := by
  have hh : 0 < x.length := by omega
  rw [cw_get hh, List.getD_eq_getElem?_getD, List.getElem?_eq_getElem hh]
  rfl

set_option maxHeartbeats 8000000 in
set_option maxRecDepth 100000 in
theorem SortOrders_walk (v : Value) (zs : List Int) (log : Int) (w : World) (hv : SlI .u64 w v zs) (_hl : Num log) :
    Calls Try.prog 17 #[v, .int .i64 log] w fun e w' => e = .returned (.bool true) ∧ Below w.heap.size w w' := by
  have HWZ := Lib.hid (slI_wordsO hv)
  have HV := Lib.hid (Sl1.of_SlI hv)
  have hlen : zs.length ≤ maxLen := by have := HV.out.len_le; rwa [List.length_map] at this
  obtain ⟨va, vc, rfl⟩ : ∃ a c, v = .slice a zs.length c := by have := HV.out.len; rwa [List.length_map] at this
  unfold maxLen at hlen
  obtain ⟨i0, hi0, hz0, hz1, hz2⟩ := info_parts info_u64
  have HI := Lib.hid hi0
  have HZ := Lib.hid hz0
  have HS := Lib.hid hz1
  have HY := Lib.hid hz2
  clear hi0 hz0 hz1 hz2
  clear hv
  go_enter Try.func17, Try.ntmps17
  go_wp2_with fail
  refine (shown6 w).mono ?_
  rintro e w1 ⟨rfl, hb1⟩
  have HB1 := Lib.hid hb1
  have HV1 := Lib.hid (HV.out.below hb1)
  clear hb1 HV
  by_cases h1 : log < 0
  · have d1 : decide (log < 0) = true := decide_eq_true h1
    go_wp2
    go_ret
    exact ⟨rfl, HB1.out⟩
  have d1 : decide (log < 0) = false := decide_eq_false h1
  by_cases h2 : 7 < log
  · have d2 : decide (7 < log) = true := decide_eq_true h2
    go_wp2
    go_ret
    exact ⟨rfl, HB1.out⟩
  have d2 : decide (7 < log) = false := decide_eq_false h2
  by_cases h3 : 130 < zs.length
  · have d3 : decide ((130 : Int) < (zs.length : Int)) = true := decide_eq_true (by omega)
    have d3' : decide (130 < zs.length) = true := decide_eq_true h3
    go_wp2
    go_ret
    exact ⟨rfl, HB1.out⟩
  have d3 : decide ((130 : Int) < (zs.length : Int)) = false := decide_eq_false (by omega)
  have d3' : decide (130 < zs.length) = false := decide_eq_false h3
  obtain ⟨t, rfl⟩ : ∃ t : Nat, log = t := ⟨log.toNat, by omega⟩
  have ht : t ≤ 7 := by omega
  have d1' : decide ((t : Int) < 0) = false := d1
  have d2' : decide (7 < t) = false := decide_eq_false (by omega)
  have hpw : 2 ^ t ≤ 128 := Nat.le_trans (Nat.pow_le_pow_right (by omega) ht) (by decide)
  have hp1 : 1 ≤ 2 ^ t := Nat.one_le_two_pow
  have HPL := Lib.hid (fun (M0 M1 : Mm) (es : List Ev) h0 hok hes h1 => orders_plain (M0 := M0) (M1 := M1) (es := es) HWZ.out ht h0 hok hes h1)
  have HPW0 := Lib.hid (pow_wrapO (t := t) (by omega))
  obtain ⟨NP, hNP⟩ : ∃ NP : Nat, 2 ^ t = NP := ⟨_, rfl⟩
  rw [hNP] at HPL HPW0 hpw hp1
  clear hNP
  go_wp2_with fail
  refine (laid6_any 1 130 (by decide) (by decide) (by decide) (by decide) _ zs HWZ.out _ HV1.out).mono ?_
  rintro e w2 ⟨p, q, rfl, hP⟩
  have hok0 := hP.left.ok
  have hsz0 : (laidM 1 130 zs).size 0 = 130 := (laid_f (r := 1) (c := 130) zs (by decide)).size 0
  have hev0 : (laidM 1 130 zs).evs.length ≤ 130 := (laid_f (r := 1) (c := 130) zs (by decide)).evs.2
  obtain ⟨M0, h0⟩ : ∃ M0, laidM 1 130 zs = M0 := ⟨_, rfl⟩
  rw [h0] at hP hok0 hsz0 hev0
  have HX0 := Lib.hid hP.left
  have HOK0 := Lib.hid hok0
  have HPL2 := Lib.hid (fun (M1 : Mm) (es : List Ev) hes h1 => HPL.out M0 M1 es h0 hok0 hes h1)
  clear HPL HWZ hP hok0 h0
  have HXS : Hid (∃ es : List Ev, es.length ≤ 0 ∧ OneX 108 w1 w2 p (M0.noted es) (fun i => (Value.slice none 0 0).ownBlock = some i) (fun w' => w'.ownsRow w1.heap.size 39 1 (.slice none 0 0) 0 ((wd0 M0 0).map (Value.int .u64)))) := Lib.hid ⟨[], by simp, by
    rw [Mm.noted_nil]
    exact HX0.out.growO (MFrame.refl _ _) (fun k hk => by simp [Value.ownBlock] at hk) (World.ownsRow_nil _ _ _ _)⟩
  clear HX0
  go_wp2_with fail
  try rw [HPW0.out]
  go_loopw [9, 10] (fun sv i wr => ∃ k : Nat, k ≤ NP ∧ i = .int .i64 k ∧ Hid (∃ es : List Ev, es.length ≤ k ∧ OneX 108 w1 wr p (M0.noted es) (fun i => sv.ownBlock = some i) (fun w' => w'.ownsRow w1.heap.size 39 1 sv k ((wd0 M0 k).map (Value.int .u64))))) (fun _ i _ => NP - (intOf i).toNat)
  case atStart => exact ⟨0, by omega, rfl, HXS⟩
  case round =>
    obtain ⟨k, hk, rfl, HX⟩ := hrel
    obtain ⟨es, hes, hX⟩ := HX.out
    have HXr := Lib.hid hX
    clear hX
    by_cases hlt : k < NP
    · have hd : decide ((k : Int) < (NP : Int)) = true := decide_eq_true (by omega)
      have hd' : decide (k < NP) = true := decide_eq_true hlt
      have hhas : M0.has 0 (k : Int) = true := Mm.has_lt (by omega)
      have hlo : (M0.noted es).look 0 (k : Int) false = M0.noted (es ++ [((0 : Int), (k : Int), false)]) := by
        rw [Mm.look_noted (by rw [Mm.noted_has]; exact hhas), Mm.noted_noted]
      have K1 := Lib.hid (one_read (keeps_ownO _ _ _ _ _ _) 0 (k : Int) HXr.out (by rw [Mm.noted_evs, List.length_append]; omega))
      rw [hlo, Mm.noted_read] at K1
      have hes2 : (es ++ [((0 : Int), (k : Int), false)]).length ≤ k + 1 := by simp; omega
      have hrl := (Mm.read_ok HOK0.out 0 (k : Int)).1
      have HWS := Lib.hid (wd0_succ M0 k)
      have hc0 := first_word hrl
      have hz1 : (cw (M0.read 0 (k : Int))).size = 12 := by rw [cw_size, hrl]
      have HALL : Hid ((cw (M0.read 0 (k : Int))).all (·.oneCell') = true) := Lib.hid (all_oneCell_toArray (wv_one (M0.read 0 (k : Int))))
      clear hhas hlo hrl HXr
      generalize (M0.read 0 (k : Int)).getD 0 0 = x0 at *
      generalize cw (M0.read 0 (k : Int)) = xs at *
      have HI1 : Hid ((Try.prog.info? 44).map (·.size) = some xs.size) := Lib.hid (by rw [hz1]; kernel_rfl)
      generalize es ++ [((0 : Int), (k : Int), false)] = es2 at *
      go_wp2_with fail
      refine K1.out.mono ?_
      rintro e wM ⟨rfl, hM⟩
      obtain ⟨Bc, hBc⟩ : ∃ g, wM.heap.size = g := ⟨_, rfl⟩
      have hbx := hM.box (keeps_ownO _ _ _ _ _ _) z12 44
      have hfl := hM.fillF (keeps_ownO _ _ _ _ _ _) z12 xs 44
      rw [hBc] at hbx hfl
      have HBX := Lib.hid hbx
      have HFL := Lib.hid hfl
      clear hbx hfl hM K1
      go_upto_region 13 with (first
        | (refine wpList_store_row rfl 44 (.tmp 11) (.tmp 48) rfl Bc xs rfl rfl 44 _ HBX.out.x.2 HI1.out (by rw [hz1]; rfl) HALL.out ?_)
        | fail)
      refine at_world (fun w' => OneX 108 w1 w' p (M0.noted es2) (fun i => u9.ownBlock = some i ∨ i = Bc) (fun w' => w'.ownsRow w1.heap.size 39 1 u9 k ((wd0 M0 k).map (Value.int .u64)) ∧ Blk w' Bc xs 44)) HFL.out ?_
      intro wA hA
      have HA := Lib.hid hA
      have c0 : wA.cell? ⟨Bc, 0, none⟩ = some (.int .u64 x0) := by rw [hA.x.2.cell]; exact hc0
      clear hA HBX HFL hBc
      have hsz1 := HA.out.old.size
      go_wp2_with (first
        | (at_builtin; go_loud (refine wpList_append_own_at _ rfl (.tmp 49) (.tmp 52) 34 rfl w1.heap.size 39 i0 (.int .u64 0) 1 8 Try.underlying34 HI.out HZ.out HS.out HY.out rfl (by decide) _ k ((wd0 M0 k).map (Value.int .u64)) rfl (HA.out.x.1.alloc _) ⟨wA.heap.size, 0, none⟩ 1 1 [.int .u64 x0] rfl rfl (cells_new wA [.int .u64 x0] _) (by simp [Value.oneCell']) (by unfold maxLen; omega) (by omega) (by simp; omega) ?_))
        | fail)
      intro v' w4 hown hgrow _ hat
      have HXN : Hid (OneX 108 w1 w4 p (M0.noted es2) (fun i => v'.ownBlock = some i) (fun w' => w'.ownsRow w1.heap.size 39 1 v' (k + 1) ((wd0 M0 (k + 1)).map (Value.int .u64)))) := Lib.hid (by
        have hsz2 : wA.heap.size + 1 ≤ w4.heap.size := by have := hgrow.size; rw [World.size_alloc] at this; exact this
        refine HA.out.growO ⟨hgrow.os, hgrow.tape, hgrow.output, by omega, fun k' hk' hn => ?_⟩ (fun k' hk' => ?_) (by rw [HWS.out, List.map_append]; exact hown)
        · exact (hgrow.block k' (by rw [World.size_alloc]; omega) (fun e => hn ⟨.inl e.symm, owns_ge HA.out.x.1 k' e.symm⟩)).trans (Below.heap_alloc wA _ k' hk')
        · have hlt := (hown.lt k' hk').2
          refine ⟨?_, hlt⟩
          rcases hat with h1 | h1
          · exact .inl (.inl (h1 ▸ hk'))
          · rw [h1] at hk'
            injection hk' with hk'
            exact .inr (by omega))
      clear hown hgrow hat HA c0
      go_wp2
      go_roundw
      case rel => exact ⟨k + 1, by omega, by go_num, Lib.hid ⟨es2, hes2, HXN.out⟩⟩
      case measure => simp [intOf]; omega
    · obtain rfl : k = NP := by omega
      have hd : decide ((k : Int) < (k : Int)) = false := by simp
      obtain ⟨M1, h1⟩ : ∃ M1, runM (M0.noted es) 0 (k : Int) ((0 : Nat) : Int) = M1 := ⟨_, rfl⟩
      obtain ⟨r1, e0, e1, ok1, hsz, hgood, hsort, hrest⟩ := HPL2.out M1 es (by omega) h1
      have K1 := Lib.hid (one_run (keeps_ownO _ _ _ _ _ _) 0 (k : Int) ((0 : Nat) : Int) HXr.out (by omega))
      rw [r1, h1] at K1
      simp only [if_true] at K1
      have K1 : Hid (Calls Try.prog 59 #[.pointer (some ⟨p, 0, none⟩), .int .i64 0, .int .i64 (k : Int), .int .i64 0] wr fun e w' => e = .returned (.int .i64 0) ∧ OneX 108 w1 w' p M1 (fun i => u9.ownBlock = some i) (fun w' => w'.ownsRow w1.heap.size 39 1 u9 k ((wd0 M0 k).map (Value.int .u64)))) := K1
      have HGOOD := Lib.hid hgood
      have HSORT := Lib.hid hsort
      have HREST := Lib.hid hrest
      have HOK1 := Lib.hid ok1
      have hwl := wd0_len M0 k
      clear HPL2 r1 h1 hgood hsort hrest ok1 HXr hes hev0 e0 HX hsz0 HOK0
      generalize wd0 M0 k = ws at *
      go_wp2_with fail
      try rw [HPW0.out]
      refine K1.out.mono ?_
      rintro e wA ⟨rfl, hA⟩
      have HA := Lib.hid hA
      have KS := Lib.hid (ref5SortedO_any u9 ws (fun e => by rw [e] at hwl; simp at hwl; omega) (by omega) wA (Sl1.of_owns hA.x))
      clear hA K1
      go_wp2_with fail
      refine KS.out.mono ?_
      rintro e wB ⟨v', ys, rfl, hso, hown, hbB⟩
      have hyl : ys.length = k := by rw [hso.2.length_eq, hwl]
      rw [hyl] at hown
      obtain ⟨g, cap, rfl, hnc, hcm⟩ := own_words hown (by omega)
      have HB : Hid (OneX 108 w1 wB p M1 (fun i => g = i) (fun w' => w'.ownsRow wA.heap.size 39 1 (.slice (some ⟨g, 0, none⟩) k cap) k (ys.map (Value.int .u64)))) := Lib.hid ((HA.out.ret (E := fun i => g = i) (Y := fun w' => w'.ownsRow wA.heap.size 39 1 (.slice (some ⟨g, 0, none⟩) k cap) k (ys.map (Value.int .u64))) (keeps_ownO _ _ _ _ _ _) hbB (fun j hj => hown.lt j (by subst hj; rfl)) hown).less (fun _ h => .inr h) (fun h => h.2))
      have HYS := Lib.hid (HSORT.out ys hso)
      clear hown hbB hso KS HA HSORT hyl hwl
      unfold maxLen at hcm
      obtain ⟨X, hKX, hXdef⟩ : ∃ X : World → Prop, Keeps (fun i => g = i) X ∧ X = (fun w' => w'.ownsRow wA.heap.size 39 1 (.slice (some ⟨g, 0, none⟩) k cap) k (ys.map (Value.int .u64))) := ⟨_, fun a b hs hb hx => ownsRow_keep hx fun j hj => hb j (by simpa [Value.ownBlock] using hj), rfl⟩
      rw [← hXdef] at HB
      have HKX := Lib.hid hKX
      have HXY : Hid (∀ w', X w' → ∀ (i : Nat) (x : Int), ys[i]? = some x → i < k → w'.cell? ⟨g, i, none⟩ = some (.int .u64 x)) := Lib.hid fun w' hx i x hy hi => by
        rw [hXdef] at hx
        exact own_word hx hy hi
      clear hKX hXdef
      go_wp2_with fail
      try rw [HPW0.out]
      go_loopw [13] (fun i wr => ∃ j : Nat, j ≤ 130 ∧ i = .int .i64 j ∧ Hid (∃ es : List Ev, es.length ≤ j ∧ OneX 108 w1 wr p (M1.noted es) (fun i => g = i) X)) (fun i _ => 130 - (intOf i).toNat)
      case atStart => exact ⟨0, by omega, rfl, Lib.hid ⟨[], by simp, by rw [Mm.noted_nil]; exact HB.out⟩⟩
      case round =>
        obtain ⟨j, hj, rfl, HX⟩ := hrel
        obtain ⟨es', hes', hX⟩ := HX.out
        have HXr := Lib.hid hX
        clear hX HB HX
        by_cases hjl : j < 130
        · have hdj : decide ((j : Int) < 130) = true := decide_eq_true (by omega)
          have hhas : M1.has 0 (j : Int) = true := Mm.has_lt (by omega)
          have hlo : (M1.noted es').look 0 (j : Int) false = M1.noted (es' ++ [((0 : Int), (j : Int), false)]) := by
            rw [Mm.look_noted (by rw [Mm.noted_has]; exact hhas), Mm.noted_noted]
          have K8 := Lib.hid (one_read HKX.out 0 (j : Int) HXr.out (by rw [Mm.noted_evs, List.length_append]; omega))
          rw [hlo, Mm.noted_read] at K8
          have hes2 : (es' ++ [((0 : Int), (j : Int), false)]).length ≤ j + 1 := by simp; omega
          have hrl := (Mm.read_ok HOK1.out 0 (j : Int)).1
          have hgd := HGOOD.out j hjl
          have hys := HYS.out j
          have hre : ∀ _ : k ≤ j, ∀ _ : j < zs.length, M1.read 0 (j : Int) = cellL (zs.getD j 0) := fun a b => HREST.out j a hjl b
          have HVR := Lib.hid (HV1.out.below HXr.out.old)
          have hol := HXr.out.old
          clear hhas hlo HXr
          obtain ⟨x, hx⟩ : ∃ x, M1.read 0 (j : Int) = x := ⟨_, rfl⟩
          rw [hx] at K8 hrl hgd hys hre
          clear hx
          have hc0 := first_word hrl
          have Q1 : ∀ w, (Op.equalIn 10000 44 (.agg (cw x)) (.agg #[.int .u64 0, .int .u64 0, .int .u64 0, .int .u64 0, .int .u64 0, .int .u64 0, .int .u64 0, .int .u64 0, .int .u64 0, .int .u64 0, .int .u64 0, .int .u64 0])).run Try.prog w = .ok (decide (x = zeros)) w := run_eqcell x zeros hrl rfl
          have Q2 := run_eqcell x (cellL (x.getD 0 0)) hrl (cellL_len _)
          have hdec : decide (x = zeros) = true ∨ (decide (x = zeros) = false ∧ decide (x = cellL (x.getD 0 0)) = true) := by
            by_cases hz : x = zeros
            · exact .inl (decide_eq_true hz)
            · exact .inr ⟨decide_eq_false hz, decide_eq_true (hgd.resolve_left hz)⟩
          have KC := Lib.hid (fun w' => cell6_any (x.getD 0 0) w')
          have KZ := Lib.hid (fun w' => cell6_any (zs.getD j 0) w')
          have Q3 := run_eqcell x (cellL (zs.getD j 0)) hrl (cellL_len _)
          have hz1 : (cw x).size = 12 := by rw [cw_size, hrl]
          have HALL : Hid ((cw x).all (·.oneCell') = true) := Lib.hid (all_oneCell_toArray (wv_one x))
          have hd3 : ∀ _ : k ≤ j, ∀ _ : j < zs.length, decide (x = cellL (zs.getD j 0)) = true := fun a b => decide_eq_true (hre a b)
          clear hgd hrl hre
          generalize decide (x = zeros) = bz at *
          generalize decide (x = cellL (x.getD 0 0)) = bc at *
          generalize decide (x = cellL (zs.getD j 0)) = bd at *
          generalize cw (cellL (x.getD 0 0)) = cc at *
          generalize cw (cellL (zs.getD j 0)) = cd at *
          generalize x.getD 0 0 = x0 at *
          generalize hz0 : zs.getD j 0 = z0 at *
          have HZ0 := Lib.hid hz0
          clear hz0
          generalize cw x = xs at *
          have HI1 : Hid ((Try.prog.info? 44).map (·.size) = some xs.size) := Lib.hid (by rw [hz1]; kernel_rfl)
          generalize es' ++ [((0 : Int), (j : Int), false)] = es2 at *
          go_wp2_with fail
          refine K8.out.mono ?_
          rintro e wM ⟨rfl, hM⟩
          obtain ⟨Bc, hBc⟩ : ∃ g, wM.heap.size = g := ⟨_, rfl⟩
          have hbx := hM.box HKX.out z12 44
          have hfl := hM.fillF HKX.out z12 xs 44
          rw [hBc] at hbx hfl
          have HBX := Lib.hid hbx
          have HFL := Lib.hid hfl
          clear hbx hfl hM K8
          go_upto_region 21 with (first
            | (refine wpList_store_row rfl 44 (.tmp 14) (.tmp 66) rfl Bc xs rfl rfl 44 _ HBX.out.x.2 HI1.out (by rw [hz1]; rfl) HALL.out ?_)
            | fail)
          refine at_world (fun w' => OneX 108 w1 w' p (M1.noted es2) (fun i => g = i ∨ i = Bc) (fun w' => X w' ∧ Blk w' Bc xs 44)) HFL.out ?_
          intro wN hN
          have HKN : Hid (Keeps (fun i => g = i ∨ i = Bc) (fun w' => X w' ∧ Blk w' Bc xs 44)) := Lib.hid (keeps_and HKX.out (keeps_blk _ _ _))
          have HXN := Lib.hid hN
          clear hN HBX HFL hBc
          obtain ⟨C, hCi, hCo, hCs, hCz⟩ : ∃ C : World → Prop, C wN.drew ∧ (∀ w', C w' → OneX 108 w1 w' p (M1.noted es2) (fun i => g = i ∨ i = Bc) (fun w' => X w' ∧ Blk w' Bc xs 44)) ∧ (∀ w', C w' → Calls Try.prog 61 #[.int .u64 x0] w' fun e w'' => e = .returned (.agg cc) ∧ C w'') ∧ (∀ w', C w' → Calls Try.prog 61 #[.int .u64 z0] w' fun e w'' => e = .returned (.agg cd) ∧ C w'') :=
            ⟨fun w' => OneX 108 w1 w' p (M1.noted es2) (fun i => g = i ∨ i = Bc) (fun w' => X w' ∧ Blk w' Bc xs 44), HXN.out.drew HKN.out, fun _ h => h, fun w' h => (KC.out w').mono fun e w'' ⟨he, hb⟩ => ⟨he, h.below HKN.out hb⟩, fun w' h => (KZ.out w').mono fun e w'' ⟨he, hb⟩ => ⟨he, h.below HKN.out hb⟩⟩
          have HCO := Lib.hid hCo
          have HCS := Lib.hid hCs
          have HCZ := Lib.hid hCz
          have HCB : Hid (∀ w', C w' → Blk w' Bc xs 44 ∧ w'.cell? ⟨Bc, 0, none⟩ = some (.int .u64 x0)) := Lib.hid fun w' h => by
            have hb := (hCo w' h).x.2
            exact ⟨hb, by rw [hb.cell]; exact hc0⟩
          have HCY : Hid (∀ _ : j < k, ∀ w', C w' → w'.cell? ⟨g, j, none⟩ = some (.int .u64 x0)) := Lib.hid fun hjk w' h => HXY.out w' (hCo w' h).x.1 j x0 (hys hjk) hjk
          have HCV : Hid (∀ w', C w' → Sl1 w' (.slice va zs.length vc) (zs.map (Value.int .u64))) := Lib.hid fun w' h => HV1.out.below (hCo w' h).old
          clear hCo hCs hCz KC KZ HXN hys HVR hol hc0
          have j0 : (0 : Int) ≤ (j : Int) := by omega
          have HCX := Lib.hid (fun w' (h : C w') => (HCO.out w' h).less (E := fun i => g = i) (Y := X) (fun _ h => .inl h) (fun h => h.1))
          by_cases hjk : j < k
          · have e1 : decide ((j : Int) < (k : Int)) = true := decide_eq_true (by omega)
            have e2 : decide ((k : Int) ≤ (j : Int)) = false := decide_eq_false (by omega)
            have e3 : decide (j < k) = true := decide_eq_true hjk
            have e4 : decide (k ≤ j) = false := decide_eq_false (by omega)
            have e5 : (j : Int) < (k : Int) := by omega
            rcases hdec with rfl | ⟨rfl, rfl⟩
            all_goals
              refine wp_region_cls C (by kernel_rfl) (by kernel_rfl) hCi ?_
              repeat (first
                | (with_reducible refine wpQuiet_step ?_
                   intro K hK
                   refine qs_skipR (by rfl) (hK _ ?_)
                   clear hK K
                   try simp only [Act.put, List.setIfInBounds_toArray, List.set_cons_zero, List.set_cons_succ])
                | (with_reducible refine wpQuiet_step ?_
                   intro K hK
                   refine qs_load_row (by rfl) 44 _ rfl Bc rfl 44 xs _ (fun w hw => (HCB.out w hw).1) Try.underlying44 rfl HI1.out (hK _ ?_)
                   clear hK K
                   try simp only [Act.put, List.setIfInBounds_toArray, List.set_cons_zero, List.set_cons_succ])
                | (with_reducible refine wpQuiet_step ?_
                   intro K hK
                   refine qs_load_cell (by rfl) 39 _ rfl ⟨Bc, 0, none⟩ rfl (.int .u64 x0) (fun w hw => (HCB.out w hw).2) Try.isAgg39 (hK _ ?_)
                   clear hK K
                   try simp only [Act.put, List.setIfInBounds_toArray, List.set_cons_zero, List.set_cons_succ])
                | (with_reducible refine wpQuiet_step ?_
                   intro K hK
                   refine qs_load_cell (by rfl) 39 _ rfl ⟨g, j, none⟩ rfl (.int .u64 x0) (fun w hw => HCY.out hjk w hw) Try.isAgg39 (hK _ ?_)
                   clear hK K
                   try simp only [Act.put, List.setIfInBounds_toArray, List.set_cons_zero, List.set_cons_succ])
                | (with_reducible refine wpQuiet_step ?_
                   intro K hK
                   go_simp
                   first
                     | (with_reducible refine hK _ ?_; clear hK K)
                     | (with_reducible refine ⟨_, fun _ _ => rfl, hK _ ?_⟩; clear hK K)
                     | (with_reducible apply Exists.intro
                        with_reducible refine ⟨fun _ hC => ?_, hK _ ?_⟩
                        (with_reducible exact HCS.out _ hC)
                        clear hK K
                        try simp only [Act.put, List.setIfInBounds_toArray, List.set_cons_zero, List.set_cons_succ])))
              refine wpQuiet_nil ?_
              intro w8 hC8
              have HXE := Lib.hid (HCX.out w8 hC8)
              clear hC8 hCi HCO HCS HCZ HCB HCY HCV HCX
              go_wp2
              go_roundw
              case rel => exact ⟨j + 1, by omega, by go_num, Lib.hid ⟨es2, hes2, HXE.out⟩⟩
              case measure => simp [intOf]; omega
          have e1 : decide ((j : Int) < (k : Int)) = false := decide_eq_false (by omega)
          have e2 : decide ((k : Int) ≤ (j : Int)) = true := decide_eq_true (by omega)
          have e3 : decide (j < k) = false := decide_eq_false hjk
          have e4 : decide (k ≤ j) = true := decide_eq_true (by omega)
          by_cases hjz : j < zs.length
          · have f1 : decide ((j : Int) < (zs.length : Int)) = true := decide_eq_true (by omega)
            have f2 : decide (j < zs.length) = true := decide_eq_true hjz
            have f3 : (j : Int) < (zs.length : Int) := by omega
            obtain rfl : bd = true := hd3 (by omega) hjz
            obtain ⟨zb, zo, rfl⟩ : ∃ zb zo, va = some ⟨zb, zo, none⟩ := by
              rcases HV1.out with ⟨e, _⟩ | ⟨_, b, off, cap, hvv, _⟩
              · rw [List.map_eq_nil_iff] at e; rw [e] at hjz; simp at hjz
              · simp only [Value.slice.injEq] at hvv; exact ⟨b, off, hvv.1⟩
            have HZC : Hid (∀ w', C w' → w'.cell? ⟨zb, zo + j, none⟩ = some (.int .u64 z0)) := Lib.hid fun w' h => by
              rcases HCV.out w' h with ⟨e, _⟩ | ⟨_, b, off, cap, hvv, _, _, _, hc⟩
              · rw [List.map_eq_nil_iff] at e; rw [e] at hjz; simp at hjz
              · simp only [Value.slice.injEq, Option.some.injEq, Addr.mk.injEq, and_true] at hvv
                obtain ⟨⟨rfl, rfl⟩, _⟩ := hvv
                rw [← HZ0.out, hc j (by rw [List.length_map]; exact hjz), List.getElem_map, List.getD_eq_getElem?_getD, List.getElem?_eq_getElem hjz]
                rfl
            clear hd3
            rcases hdec with rfl | ⟨rfl, rfl⟩
            all_goals
              refine wp_region_cls C (by kernel_rfl) (by kernel_rfl) hCi ?_
              repeat (first
                | (with_reducible refine wpQuiet_step ?_
                   intro K hK
                   refine qs_skipR (by rfl) (hK _ ?_)
                   clear hK K
                   try simp only [Act.put, List.setIfInBounds_toArray, List.set_cons_zero, List.set_cons_succ])
                | (with_reducible refine wpQuiet_step ?_
                   intro K hK
                   refine qs_load_row (by rfl) 44 _ rfl Bc rfl 44 xs _ (fun w hw => (HCB.out w hw).1) Try.underlying44 rfl HI1.out (hK _ ?_)
                   clear hK K
                   try simp only [Act.put, List.setIfInBounds_toArray, List.set_cons_zero, List.set_cons_succ])
                | (with_reducible refine wpQuiet_step ?_
                   intro K hK
                   refine qs_load_cell (by rfl) 39 _ rfl ⟨Bc, 0, none⟩ rfl (.int .u64 x0) (fun w hw => (HCB.out w hw).2) Try.isAgg39 (hK _ ?_)
                   clear hK K
                   try simp only [Act.put, List.setIfInBounds_toArray, List.set_cons_zero, List.set_cons_succ])
                | (with_reducible refine wpQuiet_step ?_
                   intro K hK
                   refine qs_load_cell (by rfl) 39 _ rfl ⟨zb, zo + j, none⟩ rfl (.int .u64 z0) (fun w hw => HZC.out w hw) Try.isAgg39 (hK _ ?_)
                   clear hK K
                   try simp only [Act.put, List.setIfInBounds_toArray, List.set_cons_zero, List.set_cons_succ])
                | (with_reducible refine wpQuiet_step ?_
                   intro K hK
                   go_simp
                   first
                     | (with_reducible refine hK _ ?_; clear hK K)
                     | (with_reducible refine ⟨_, fun _ _ => rfl, hK _ ?_⟩; clear hK K)
                     | (with_reducible apply Exists.intro
                        with_reducible refine ⟨fun _ hC => ?_, hK _ ?_⟩
                        (with_reducible exact HCS.out _ hC)
                        clear hK K
                        try simp only [Act.put, List.setIfInBounds_toArray, List.set_cons_zero, List.set_cons_succ])
                     | (with_reducible apply Exists.intro
                        with_reducible refine ⟨fun _ hC => ?_, hK _ ?_⟩
                        (with_reducible exact HCZ.out _ hC)
                        clear hK K
                        try simp only [Act.put, List.setIfInBounds_toArray, List.set_cons_zero, List.set_cons_succ])))
              refine wpQuiet_nil ?_
              intro w8 hC8
              have HXE := Lib.hid (HCX.out w8 hC8)
              clear hC8 hCi HCO HCS HCZ HCB HCY HCV HCX
              go_wp2
              go_roundw
              case rel => exact ⟨j + 1, by omega, by go_num, Lib.hid ⟨es2, hes2, HXE.out⟩⟩
              case measure => simp [intOf]; omega
          have f1 : decide ((j : Int) < (zs.length : Int)) = false := decide_eq_false (by omega)
          have f2 : decide (j < zs.length) = false := decide_eq_false hjz
          clear hd3
          rcases hdec with rfl | ⟨rfl, rfl⟩
          all_goals
            refine wp_region_cls C (by kernel_rfl) (by kernel_rfl) hCi ?_
            repeat (first
              | (with_reducible refine wpQuiet_step ?_
                 intro K hK
                 refine qs_skipR (by rfl) (hK _ ?_)
                 clear hK K
                 try simp only [Act.put, List.setIfInBounds_toArray, List.set_cons_zero, List.set_cons_succ])
              | (with_reducible refine wpQuiet_step ?_
                 intro K hK
                 refine qs_load_row (by rfl) 44 _ rfl Bc rfl 44 xs _ (fun w hw => (HCB.out w hw).1) Try.underlying44 rfl HI1.out (hK _ ?_)
                 clear hK K
                 try simp only [Act.put, List.setIfInBounds_toArray, List.set_cons_zero, List.set_cons_succ])
              | (with_reducible refine wpQuiet_step ?_
                 intro K hK
                 refine qs_load_cell (by rfl) 39 _ rfl ⟨Bc, 0, none⟩ rfl (.int .u64 x0) (fun w hw => (HCB.out w hw).2) Try.isAgg39 (hK _ ?_)
                 clear hK K
                 try simp only [Act.put, List.setIfInBounds_toArray, List.set_cons_zero, List.set_cons_succ])
              | (with_reducible refine wpQuiet_step ?_
                 intro K hK
                 go_simp
                 first
                   | (with_reducible refine hK _ ?_; clear hK K)
                   | (with_reducible refine ⟨_, fun _ _ => rfl, hK _ ?_⟩; clear hK K)
                   | (with_reducible apply Exists.intro
                      with_reducible refine ⟨fun _ hC => ?_, hK _ ?_⟩
                      (with_reducible exact HCS.out _ hC)
                      clear hK K
                      try simp only [Act.put, List.setIfInBounds_toArray, List.set_cons_zero, List.set_cons_succ])))
            refine wpQuiet_nil ?_
            intro w8 hC8
            have HXE := Lib.hid (HCX.out w8 hC8)
            clear hC8 hCi HCO HCS HCZ HCB HCY HCV HCX
            go_wp2
            go_roundw
            case rel => exact ⟨j + 1, by omega, by go_num, Lib.hid ⟨es2, hes2, HXE.out⟩⟩
            case measure => simp [intOf]; omega
        · obtain rfl : j = 130 := by omega
          have hdj : decide (((130 : Nat) : Int) < 130) = false := by decide
          have HB9 : Hid (Below w.heap.size w wr) := Lib.hid (HB1.out.trans (HXr.out.old.mono HB1.out.size))
          clear HXr
          go_wp2
          go_ret
          exact ⟨by first | rfl | simp, HB9.out⟩
end Go.Proofs.Ytngpaibppdehdaa
