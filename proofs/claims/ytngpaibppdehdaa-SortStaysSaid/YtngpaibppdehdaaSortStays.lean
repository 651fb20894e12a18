/-
  The walk of shellgamelaw6.SortStays.
-/
import Derived.Test.YtngpaibppdehdaaTwice6
import Derived.Test.YtngpaibppdehdaaSameE6
import Derived.Great.BuildSlice
import Derived.Laws.OwnMore
import Derived.Lib.SliceRun
namespace Go.Proofs.Ytngpaibppdehdaa
open Go Go.RowKit Go.Sg
theorem info_u64S : (Try.prog.info? 39).map (fun i => (i.zero, i.size, i.bytes)) = some (some (.int .u64 0), 1, 8) := by kernel_rfl
theorem words_oneS (xs : List Int) : ∀ u ∈ xs.map (Value.int .u64), u.oneCell' = true := by
  intro u hu; obtain ⟨_, _, rfl⟩ := List.mem_map.1 hu; rfl
theorem pair_onesS {T T' : Nat} {w0 w1 w2 : World} {p q : Nat} {M N : Mm} (h1 : OneX T w0 w1 p M (fun _ => False) (fun _ => True)) (h2 : OneX T' w1 w2 q N (fun _ => False) (fun _ => True)) : PairX T T' w0 w2 p q M N (fun _ => False) (fun _ => True) := by
  obtain ⟨F, m1, f1, b1, _, _, _⟩ := h1
  obtain ⟨G, m2, f2, b2, _, _, _⟩ := h2
  refine PairX.of_two ⟨F, G, m1.below b2, m2, f1, fun k hk => Nat.le_trans b1.size (f2 k hk), fun k hk hg => ?_, b1.trans (b2.mono b1.size)⟩
  have := m1.lt k hk
  have := f2 k hg
  omega
theorem pair_sinceS {T' : Nat} {w0 w : World} {p q : Nat} {M N : Mm} {D : Nat → Prop} {X : World → Prop} (hK : Keeps D X) (n : Int) (h : PairX 108 T' w0 w p q M N D X) (hN : M.evs.length ≤ 1099511627776) (k : Nat) (hk : max 0 (min n (M.evs.length : Int)) = k) :
    Calls Try.prog 45 #[.pointer (some ⟨p, 0, none⟩), .int .i64 n] w fun e w' => ∃ v, e = .returned v ∧ SlE w' v (M.evs.drop k) ∧ PairX 108 T' w0 w' p q M N D X := by
  have h0 := h
  obtain ⟨G, ⟨F, h1, _⟩, _⟩ := h
  exact (memSince_free n w h1 hN k hk).mono fun e w' ⟨v, he, hs, hb, ho⟩ => ⟨v, he, hs, h0.below hK hb⟩

theorem wpList_load_rowS {P : Program} {ops : Array Oper} {rest : List Oper} {o : Oper} {a : Act} {w : World} {Q : Exit → Act → World → Prop} (hw : Region.wanted o (yielded ops a.tmps) = true) (ty : TypeId) (x : Operand) (ho : o.op = .load ty x)
    (g : Nat) (hx : a.eval x = .pointer (some ⟨g, 0, none⟩)) (t : TypeId) (cs : Array Value) (fr : Nat × Nat) (d : TypeDesc) (hg : w.heap[g]? = some (.cells cs t fr))
    (hu : P.underlying ty = some d) (hd : (match d with | .struct _ | .array _ _ => true | _ => false) = true) (hi : (P.info? ty).map (·.size) = some cs.size)
    (h : wpList P ops Q rest (a.put o.dst (.agg cs)) w) : wpList P ops Q (o :: rest) a w :=
  wpList_step fun K hK => by
    rw [if_pos hw]
    exact wp_load_row ty x ho g hx t cs fr d hg hu hd hi (hK _ _ h)
theorem PairX.fillS {T T' : Nat} {w0 w : World} {p q : Nat} {M N : Mm} {D : Nat → Prop} {X : World → Prop} (hK : Keeps D X) (h : PairX T T' w0 w p q M N D X) (cs c2 : Array Value) (t : TypeId) :
    PairX T T' w0 ((w.alloc (.cells cs t)).setRow w.heap.size c2) p q M N (fun i => D i ∨ i = w.heap.size) (fun w' => X w' ∧ Blk w' w.heap.size c2 t) := by
  have hb := h.box hK cs t
  have hD : ∀ k, D k → k < w.heap.size := by
    obtain ⟨G, h1, _⟩ := h
    exact fun k hk => h1.dltF k (.inl hk)
  exact hb.turn (fun _ h => h) (mframe_setRow (MFrame.refl _ _) ⟨.inr rfl, h.old.size⟩ _) ⟨hK _ _ (by simp [World.setRow]) (fun i hi => setRow_other _ _ _ _ (Nat.ne_of_lt (hD i hi))) hb.x.1, hb.x.2.setRow _⟩
theorem own_wordsS {w : World} {base : Nat} {e : TypeId} {v : Value} {n : Nat} {ys : List Int} (h : w.ownsRow base e 1 v n (ys.map (Value.int .u64))) (hn : 0 < n) : ∃ g cap, v = .slice (some ⟨g, 0, none⟩) n cap ∧ n ≤ cap ∧ cap ≤ maxLen := by
  rcases h.2 with ⟨_, h0⟩ | ⟨g, cap, cur, rfl, hb, hg, hn, hm, hsz, ht⟩
  · omega
  · exact ⟨g, cap, rfl, hn, hm⟩

set_option maxHeartbeats 8000000 in
set_option maxRecDepth 100000 in
theorem SortStays_walk (v : Value) (zs : List Int) (log by' : Int) (w : World) (hv : SlI .u64 w v zs) (_hl : Num log) (_hb : Num by') :
    Calls Try.prog 23 #[v, .int .i64 log, .int .i64 by'] w fun e w' => e = .returned (.bool true) ∧ Below w.heap.size w w' := by
  have HWZ := Lib.hid (slI_wordsO hv)
  have HV := Lib.hid (Sl1.of_SlI hv)
  have hlen : zs.length ≤ maxLen := by have := HV.out.len_le; rwa [List.length_map] at this
  obtain ⟨va, vc, rfl⟩ : ∃ a c, v = .slice a zs.length c := by have := HV.out.len; rwa [List.length_map] at this
  unfold maxLen at hlen
  obtain ⟨i0, hi0, hz0, hz1, hz2⟩ := info_parts info_u64S
  have HI := Lib.hid hi0
  have HZ := Lib.hid hz0
  have HS := Lib.hid hz1
  have HY := Lib.hid hz2
  clear hi0 hz0 hz1 hz2
  clear hv
  go_enter Try.func23, Try.ntmps23
  go_wp2_with fail
  refine (shown6 w).mono ?_
  rintro e w1 ⟨rfl, hb1⟩
  have HB1 := Lib.hid hb1
  have HV1 := Lib.hid (HV.out.below hb1)
  clear hb1 HV
  by_cases h1 : log < 0
  · have d1 : decide (log < 0) = true := decide_eq_true h1
    go_wp2
    go_ret
    exact ⟨rfl, HB1.out⟩
  have d1 : decide (log < 0) = false := decide_eq_false h1
  by_cases h2 : 6 < log
  · have d2 : decide (6 < log) = true := decide_eq_true h2
    go_wp2
    go_ret
    exact ⟨rfl, HB1.out⟩
  have d2 : decide (6 < log) = false := decide_eq_false h2
  obtain ⟨t, rfl⟩ : ∃ t : Nat, log = t := ⟨log.toNat, by omega⟩
  have ht : t ≤ 6 := by omega
  have d1' : decide ((t : Int) < 0) = false := d1
  have d2' : decide (6 < t) = false := decide_eq_false (by omega)
  have hpw : 2 ^ t ≤ 64 := Nat.le_trans (Nat.pow_le_pow_right (by omega) ht) (by decide)
  have hp1 : 1 ≤ 2 ^ t := Nat.one_le_two_pow
  have HPL := Lib.hid (fun (xs ys : List Int) hl hw hp (M0 M1 M2 N0 N1 : Mm) h0 k0 ok0 ok0' h1 h2 k1 => stays_plain ht (xs := xs) (ys := ys) hl hw hp (M0 := M0) (M1 := M1) (M2 := M2) (N0 := N0) (N1 := N1) h0 k0 ok0 ok0' h1 h2 k1)
  have HPW0 := Lib.hid (pow_wrapO (t := t) (by omega))
  obtain ⟨NP, hNP⟩ : ∃ NP : Nat, 2 ^ t = NP := ⟨_, rfl⟩
  rw [hNP] at HPL HPW0 hpw hp1
  clear hNP
  go_wp2_with fail
  try rw [HPW0.out]
  go_loopw [9, 10] (fun sv i wr => ∃ k : Nat, k ≤ NP ∧ i = .int .i64 k ∧ ∃ xs : List Int, xs.length = k ∧ Hid (∀ x ∈ xs, Word x) ∧ Hid (wr.ownsRow w1.heap.size 39 1 sv k (xs.map (Value.int .u64))) ∧ Hid (Below w1.heap.size w1 wr)) (fun _ i _ => NP - (intOf i).toNat)
  case atStart => exact ⟨0, by omega, rfl, [], rfl, Lib.hid (fun x hx => by cases hx), Lib.hid (World.ownsRow_nil _ _ _ _), Lib.hid (Below.refl _ _)⟩
  case round =>
    obtain ⟨k, hk, rfl, xs, hxl, HXW, HO, HB⟩ := hrel
    by_cases hlt : k < NP
    · have hd : decide ((k : Int) < (NP : Int)) = true := decide_eq_true (by omega)
      have hd' : decide (k < NP) = true := decide_eq_true hlt
      have hwk : IntKind.u64.wrap (k : Int) = (k : Int) := Go.Sg.wrap_small (by omega) (by omega)
      have hsz1 := HB.out.size
      by_cases hkz : k < zs.length
      · have f1 : decide ((k : Int) < (zs.length : Int)) = true := decide_eq_true (by omega)
        have f2 : decide (k < zs.length) = true := decide_eq_true hkz
        have f3 : (k : Int) < (zs.length : Int) := by omega
        have f4 : (0 : Int) ≤ (k : Int) := by omega
        obtain ⟨zb, zo, rfl⟩ : ∃ zb zo, va = some ⟨zb, zo, none⟩ := by
          rcases HV1.out with ⟨e, _⟩ | ⟨_, b, off, cap, hvv, _⟩
          · rw [List.map_eq_nil_iff] at e; rw [e] at hkz; simp at hkz
          · simp only [Value.slice.injEq] at hvv; exact ⟨b, off, hvv.1⟩
        obtain ⟨z, hz⟩ : ∃ z, zs[k] = z := ⟨_, rfl⟩
        have cz : wr.cell? ⟨zb, zo + k, none⟩ = some (.int .u64 z) := by
          rcases HV1.out.below HB.out with ⟨e, _⟩ | ⟨_, b, off, cap, hvv, _, _, _, hc⟩
          · rw [List.map_eq_nil_iff] at e; rw [e] at hkz; simp at hkz
          · simp only [Value.slice.injEq, Option.some.injEq, Addr.mk.injEq, and_true] at hvv
            obtain ⟨⟨rfl, rfl⟩, _⟩ := hvv
            rw [hc k (by rw [List.length_map]; exact hkz), List.getElem_map, hz]
        go_wp2_with (first
          | (at_builtin; go_loud (refine wpList_append_own_at _ rfl (.tmp 54) (.tmp 56) 34 rfl w1.heap.size 39 i0 (.int .u64 0) 1 8 Try.underlying34 HI.out HZ.out HS.out HY.out rfl (by decide) _ k (xs.map (Value.int .u64)) rfl (HO.out.alloc _) ⟨wr.heap.size, 0, none⟩ 1 1 [.int .u64 (IntKind.u64.wrap (IntKind.u64.wrap (z * 256) + (k : Int)))] rfl rfl (cells_new wr [.int .u64 (IntKind.u64.wrap (IntKind.u64.wrap (z * 256) + (k : Int)))] _) (by simp [Value.oneCell']) (by unfold maxLen; omega) (by omega) (by simp; omega) ?_))
          | fail)
        intro v' w4 hown hgrow _ _
        have HO4 : Hid (w4.ownsRow w1.heap.size 39 1 v' (k + 1) ((xs ++ [IntKind.u64.wrap (IntKind.u64.wrap (z * 256) + (k : Int))]).map (Value.int .u64))) := Lib.hid (by rw [List.map_append]; exact hown)
        have HB4 : Hid (Below w1.heap.size w1 w4) := Lib.hid ((HB.out.alloc HB.out.size _).grown hgrow (by have := HB.out.size; simp; omega) (fun j hj => (HO.out.lt j hj).1))
        have HXW4 : Hid (∀ x ∈ xs ++ [IntKind.u64.wrap (IntKind.u64.wrap (z * 256) + (k : Int))], Word x) := Lib.hid fun x hx => by
          rcases List.mem_append.1 hx with hx | hx
          · exact HXW.out x hx
          · obtain rfl := List.mem_singleton.1 hx
            exact ⟨by rw [IntKind.wrap_u64]; omega, by rw [IntKind.wrap_u64]; omega⟩
        clear hown hgrow HO HB
        go_wp2
        go_roundw
        case rel => exact ⟨k + 1, by omega, by go_num, _, by simp [hxl], HXW4, HO4, HB4⟩
        case measure => simp [intOf]; omega
      · have f1 : decide ((k : Int) < (zs.length : Int)) = false := decide_eq_false (by omega)
        have f2 : decide (k < zs.length) = false := decide_eq_false hkz
        go_wp2_with (first
          | (at_builtin; go_loud (refine wpList_append_own_at _ rfl (.tmp 54) (.tmp 56) 34 rfl w1.heap.size 39 i0 (.int .u64 0) 1 8 Try.underlying34 HI.out HZ.out HS.out HY.out rfl (by decide) _ k (xs.map (Value.int .u64)) rfl (HO.out.alloc _) ⟨wr.heap.size, 0, none⟩ 1 1 [.int .u64 ((k : Int))] rfl rfl (cells_new wr [.int .u64 ((k : Int))] _) (by simp [Value.oneCell']) (by unfold maxLen; omega) (by omega) (by simp; omega) ?_))
          | fail)
        intro v' w4 hown hgrow _ _
        have HO4 : Hid (w4.ownsRow w1.heap.size 39 1 v' (k + 1) ((xs ++ [(k : Int)]).map (Value.int .u64))) := Lib.hid (by rw [List.map_append]; exact hown)
        have HB4 : Hid (Below w1.heap.size w1 w4) := Lib.hid ((HB.out.alloc HB.out.size _).grown hgrow (by have := HB.out.size; simp; omega) (fun j hj => (HO.out.lt j hj).1))
        have HXW4 : Hid (∀ x ∈ xs ++ [(k : Int)], Word x) := Lib.hid fun x hx => by
          rcases List.mem_append.1 hx with hx | hx
          · exact HXW.out x hx
          · obtain rfl := List.mem_singleton.1 hx
            exact ⟨by omega, by omega⟩
        clear hown hgrow HO HB
        go_wp2
        go_roundw
        case rel => exact ⟨k + 1, by omega, by go_num, _, by simp [hxl], HXW4, HO4, HB4⟩
        case measure => simp [intOf]; omega
    · obtain rfl : k = NP := by omega
      have hd : decide ((k : Int) < (k : Int)) = false := by simp
      obtain ⟨wo, rfl⟩ : ∃ wo : World, wo = wr := ⟨_, rfl⟩
      obtain ⟨g, cap, rfl, hnc, hcm⟩ := own_wordsS HO.out (by omega)
      unfold maxLen at hcm
      obtain ⟨kk, hkk, hkn⟩ : ∃ kk : Nat, max 0 (min by' (k : Int)) = kk ∧ kk ≤ k := ⟨(max 0 (min by' (k : Int))).toNat, by omega, by omega⟩
      obtain ⟨x, hx⟩ : ∃ x : Int, (if (k : Int) < by' then (k : Int) else by') = x := ⟨_, rfl⟩
      have hx2 : (if 0 < x then x else 0) = (kk : Int) := by
        rw [← hkk, ← hx]
        split <;> split <;> omega
      go_wp2_with fail
      refine (laid6_any 1 k (by decide) (by decide) hp1 (by omega) _ xs HXW.out _ (Sl1.of_owns HO.out)).mono ?_
      rintro e w2 ⟨p, q, rfl, hP⟩
      have HX0 := Lib.hid hP.left
      have HO2 := Lib.hid (ownsRow_below HO.out hP.old)
      have hg2 : g < w2.heap.size := (HO2.out.lt g rfl).2
      clear hP
      have HC1 : Hid (∀ w', Below w2.heap.size w2 w' → ∀ j u, ((xs.drop kk).map (Value.int .u64))[j]? = some u → w'.cell? ((⟨g, kk, none⟩ : Addr).add j) = some u) := Lib.hid fun w' hb j u hu => by
        rw [addr_add]
        rw [hb.cell (p := ⟨g, kk + j, none⟩) hg2]
        have := HO2.out.cells rfl (kk + j) u (by rw [List.map_drop, List.getElem?_drop] at hu; exact hu)
        rwa [addr_add, Nat.zero_add] at this
      have HC2 : Hid (∀ w', Below w2.heap.size w2 w' → ∀ j u, ((xs.take kk).map (Value.int .u64))[j]? = some u → w'.cell? ((⟨g, 0, none⟩ : Addr).add j) = some u) := Lib.hid fun w' hb j u hu => by
        rw [addr_add]
        rw [hb.cell (p := ⟨g, 0 + j, none⟩) hg2, ← addr_add]
        refine HO2.out.cells rfl j u ?_
        rw [List.map_take, List.getElem?_take] at hu
        split at hu
        · exact hu
        · cases hu
      have HE0 : Hid ((w2.drew.alloc (.cells #[] 39)).ownsRow w2.heap.size 39 1 (.slice (some ⟨w2.heap.size, 0, none⟩) 0 0) 0 []) :=
        Lib.hid ⟨rfl, .inr ⟨w2.heap.size, 0, #[], rfl, Nat.le_refl _, heap_alloc_new w2.drew _, Nat.le_refl _, by simp, rfl, rfl⟩⟩
      have hl1 : ((xs.drop kk).map (Value.int .u64)).length = (k - kk) * 1 := by simp [hxl]
      have hl2 : ((xs.take kk).map (Value.int .u64)).length = kk * 1 := by simp [hxl]; omega
      have ho1 := words_oneS (xs.drop kk)
      have ho2 := words_oneS (xs.take kk)
      have HYP : Hid ((xs.drop kk ++ xs.take kk).Perm xs) := Lib.hid (by
        have := List.perm_append_comm (l₁ := xs.drop kk) (l₂ := xs.take kk)
        rwa [List.take_append_drop] at this)
      have HYW : Hid (∀ x ∈ xs.drop kk ++ xs.take kk, Word x) := Lib.hid fun x hx => HXW.out x (HYP.out.mem_iff.1 hx)
      have HAP : Hid (∀ (w : World) (base : Nat) (e : TypeId) (v : Value) (m : Nat), w.ownsRow base e 1 v m ([] ++ (xs.drop kk).map (Value.int .u64) ++ (xs.take kk).map (Value.int .u64)) → Sl1 w v ((xs.drop kk ++ xs.take kk).map (Value.int .u64))) := Lib.hid fun w base e v m h => by
        have := Sl1.of_owns h
        simpa using this
      have hyl : (xs.drop kk ++ xs.take kk).length = k := by rw [HYP.out.length_eq, hxl]
      generalize xs.drop kk ++ xs.take kk = ys at *
      generalize (xs.drop kk).map (Value.int .u64) = n1 at *
      generalize (xs.take kk).map (Value.int .u64) = n2 at *
      have g0 : (0 : Int) ≤ (kk : Int) := by omega
      have g1 : (kk : Int) ≤ (k : Int) := by omega
      have g2 : (kk : Int) ≤ (cap : Int) := by omega
      have g3 : (k : Int) ≤ (cap : Int) := by omega
      have g4 : kk ≤ cap := by omega
      go_wp2_with fail
      obtain ⟨M0, hM0⟩ : ∃ M0, laidM 1 k xs = M0 := ⟨_, rfl⟩
      obtain ⟨N0, hN0⟩ : ∃ N0, laidM 1 k ys = N0 := ⟨_, rfl⟩
      rw [hM0] at HX0
      have HM0 := Lib.hid hM0
      have HN0 := Lib.hid hN0
      clear hM0 hN0
      have HXB : Hid (∀ w', Below w2.heap.size w2 w' → OneX 108 wo w' p M0 (fun _ => False) (fun _ => True)) := Lib.hid fun w' hb => HX0.out.below keeps_true hb
      have HKL : Hid (∀ w' v m, w'.ownsRow w2.heap.size 39 1 v m ([] ++ n1 ++ n2) → Below w2.heap.size w2 w' → Calls Try.prog 58 #[.int .i64 1, .int .i64 (k : Int), v] w' fun e w'' => ∃ p2 q2, e = .returned (.tuple #[.pointer (some ⟨p2, 0, none⟩), .pointer (some ⟨q2, 0, none⟩)]) ∧ PairX 108 108 wo w'' p p2 M0 N0 (fun _ => False) (fun _ => True) ∧ Below w2.heap.size w2 w'') := Lib.hid fun w' v m h hb => by
        refine (laid6_any 1 k (by decide) (by decide) hp1 (by omega) v ys HYW.out w' (HAP.out _ _ _ _ _ h)).mono ?_
        rintro e w'' ⟨p2, q2, rfl, hP⟩
        rw [HN0.out] at hP
        exact ⟨p2, q2, rfl, pair_onesS (HXB.out w' hb) hP.left, hb.trans (hP.old.mono hb.size)⟩
      go_cut [15] (fun o wx => ∃ p2, o = .pointer (some ⟨p2, 0, none⟩) ∧ PairX 108 108 wo wx p p2 M0 N0 (fun _ => False) (fun _ => True))
      case first =>
        by_cases hcc : cap = kk
        focus
          subst hcc
          have hkc : k = cap := by omega
          have hn1 : n1 = [] := List.length_eq_zero_iff.1 (by omega)
          subst hkc
        all_goals
          go_region_held3 (fun w' => Below w2.heap.size w2 w') (first | assumption | exact (Below.refl _ _).drew | exact Below.alloc (by assumption) (by simp) _) (first
            | (go_loud (refine step_append_own_at rfl (.tmp 70) (.tmp 73) 34 rfl w2.heap.size 39 i0 (.int .u64 0) 1 8 Try.underlying34 HI.out HZ.out HS.out HY.out rfl (by decide) _ 0 [] rfl HE0.out ⟨g, kk, none⟩ (k - kk) _ n1 rfl hl1 (HC1.out _ (by assumption)) ho1 (by unfold maxLen; omega) (by omega) (by simp) ?_); intro v1 w6 hown6 hgrow6 _; have hb6 : Below w2.heap.size w2 w6 := Below.grown (show Below w2.heap.size w2 _ from by assumption) hgrow6 (by simp) (fun k hk => Nat.le_of_eq (Option.some.inj hk)))
            | (go_loud (refine step_append_own_at rfl (.tmp 70) (.tmp 73) 34 rfl w2.heap.size 39 i0 (.int .u64 0) 1 8 Try.underlying34 HI.out HZ.out HS.out HY.out rfl (by decide) _ 0 [] rfl HE0.out ⟨g, 0, none⟩ 0 _ [] rfl rfl (fun _ _ h => by cases h) (fun _ h => by cases h) (by unfold maxLen; omega) (by omega) (by simp) ?_); intro v1 w6 hown6 hgrow6 _; have hown6 : w6.ownsRow w2.heap.size 39 1 v1 (0 + 0) ([] ++ n1) := (by rw [hn1]; exact hown6); have hb6 : Below w2.heap.size w2 w6 := Below.grown (show Below w2.heap.size w2 _ from by assumption) hgrow6 (by simp) (fun k hk => Nat.le_of_eq (Option.some.inj hk)))
            | (go_loud (refine step_append_own_at rfl (.tmp 74) (.tmp 77) 34 rfl w2.heap.size 39 i0 (.int .u64 0) 1 8 Try.underlying34 HI.out HZ.out HS.out HY.out rfl (by decide) _ _ _ rfl hown6 ⟨g, 0, none⟩ kk _ n2 rfl hl2 (HC2.out _ (by assumption)) ho2 (by unfold maxLen; omega) (by omega) hb6.size ?_); intro v2 w7 hown7 hgrow7 _; have hb7 : Below w2.heap.size w2 w7 := Below.grown hb6 hgrow7 hb6.size (fun k hk => (hown6.lt k hk).1))
            | (go_loud (refine step_append_own_at rfl (.tmp 74) (.tmp 77) 34 rfl w2.heap.size 39 i0 (.int .u64 0) 1 8 Try.underlying34 HI.out HZ.out HS.out HY.out rfl (by decide) _ _ _ rfl hown6 ⟨g, 0, none⟩ k _ n2 rfl hl2 (HC2.out _ (by assumption)) ho2 (by unfold maxLen; omega) (by omega) hb6.size ?_); intro v2 w7 hown7 hgrow7 _; have hb7 : Below w2.heap.size w2 w7 := Below.grown hb6 hgrow7 hb6.size (fun k hk => (hown6.lt k hk).1))
            | (go_at_call 58; refine (HKL.out _ _ _ hown7 hb7).mono ?_; rintro e w8 ⟨p2, q2, rfl, hP8, hb8⟩))
        all_goals
          go_wp2_with fail
          go_meet
          exact ⟨p2, rfl, hP8⟩
      case rest =>
      obtain ⟨p2, rfl, hP⟩ := hcut
      have HP := Lib.hid hP
      have hoks := hP.ok
      obtain ⟨M1, h1⟩ : ∃ M1, runM M0 0 (k : Int) ((0 : Nat) : Int) = M1 := ⟨_, rfl⟩
      obtain ⟨M2, h2⟩ : ∃ M2, runM M1 0 (k : Int) ((0 : Nat) : Int) = M2 := ⟨_, rfl⟩
      obtain ⟨N1, k1⟩ : ∃ N1, runM N0 0 (k : Int) ((0 : Nat) : Int) = N1 := ⟨_, rfl⟩
      obtain ⟨⟨r0, r1, r2⟩, ⟨e0, e1, e2, e3, e4⟩, ⟨ok2, okn⟩, ⟨s2, sn⟩, hdr, hge, hrd⟩ := HPL.out xs ys hxl HXW.out HYP.out M0 M1 M2 N0 N1 HM0.out HN0.out hoks.1 hoks.2 h1 h2 k1
      have K1 : Hid (Calls Try.prog 59 #[.pointer (some ⟨p, 0, none⟩), .int .i64 0, .int .i64 (k : Int), .int .i64 0] _ fun e w' => e = .returned (.int .i64 0) ∧ PairX 108 108 wo w' p p2 M1 N0 (fun _ => False) (fun _ => True)) := Lib.hid (by
        have := HP.out.call keeps_true fun D' X' hK' h' => one_run hK' 0 (k : Int) ((0 : Nat) : Int) h' (by omega)
        rw [r0, h1] at this
        exact this)
      have K2 : Hid (∀ w', PairX 108 108 wo w' p p2 M1 N0 (fun _ => False) (fun _ => True) → Calls Try.prog 59 #[.pointer (some ⟨p2, 0, none⟩), .int .i64 0, .int .i64 (k : Int), .int .i64 0] w' fun e w' => e = .returned (.int .i64 0) ∧ PairX 108 108 wo w' p p2 M1 N1 (fun _ => False) (fun _ => True)) := Lib.hid fun w' h => by
        have := h.call2 keeps_true fun D' X' hK' h' => one_run hK' 0 (k : Int) ((0 : Nat) : Int) h' (by omega)
        rw [r2, k1] at this
        exact this
      have K3 : Hid (∀ w', PairX 108 108 wo w' p p2 M1 N1 (fun _ => False) (fun _ => True) → Calls Try.prog 59 #[.pointer (some ⟨p, 0, none⟩), .int .i64 0, .int .i64 (k : Int), .int .i64 0] w' fun e w' => e = .returned (.int .i64 0) ∧ PairX 108 108 wo w' p p2 M2 N1 (fun _ => False) (fun _ => True)) := Lib.hid fun w' h => by
        have := h.call keeps_true fun D' X' hK' h' => one_run hK' 0 (k : Int) ((0 : Nat) : Int) h' (by omega)
        rw [r1, h2] at this
        exact this
      have K4 := Lib.hid (fun w' (h' : PairX 108 108 wo w' p p2 M2 N1 (fun _ => False) (fun _ => True)) => pair_sinceS keeps_true (M1.evs.length : Int) h' (by omega) M1.evs.length (by omega))
      rw [hdr] at K4
      have KE := Lib.hid (fun w' => sortEvents_any 0 (k : Int) w')
      generalize evsR 0 (k : Int) = ev at *
      have HRD := Lib.hid hrd
      have HOK2 := Lib.hid ok2
      clear hP hoks r0 r1 r2 h1 h2 k1 hdr hge hrd ok2 okn HPL HM0 HN0 HXB HKL HX0 HE0 HC1 HC2
      go_wp2_with fail
      refine K1.out.mono ?_
      rintro e wA ⟨rfl, hA⟩
      go_wp2_with fail
      refine (K2.out _ hA).mono ?_
      rintro e wB ⟨rfl, hB⟩
      have KM := Lib.hid (one_many hB.left)
      have HB' := Lib.hid hB
      clear hA hB K1 K2
      go_wp2_with fail
      refine KM.out.mono ?_
      rintro e wS ⟨rfl, rfl⟩
      go_wp2_with fail
      refine (K3.out _ HB'.out).mono ?_
      rintro e wC ⟨rfl, hC⟩
      clear KM HB' K3
      go_wp2_with fail
      refine (K4.out _ hC).mono ?_
      rintro e wD ⟨v1, rfl, hs1, hD⟩
      have HD := Lib.hid hD
      have HS1 := Lib.hid hs1
      clear hC hD hs1 K4
      go_wp2_with fail
      refine (KE.out _).mono ?_
      rintro e wE ⟨v2, rfl, hs2, hb2, _⟩
      have HDE := Lib.hid (HD.out.below keeps_true hb2)
      have KS := Lib.hid (sameE6_any v1 v2 ev ev _ (HS1.out.below hb2) hs2)
      rw [decide_eq_true rfl] at KS
      clear hs2 hb2 HD HS1 KE
      go_wp2_with fail
      refine KS.out.mono ?_
      rintro e wF ⟨rfl, hbF⟩
      have HF := Lib.hid (HDE.out.below keeps_true hbF)
      clear hbF KS HDE
      go_wp2_with fail
      go_loopw [18] (fun i wr => ∃ j : Nat, j ≤ k ∧ i = .int .i64 j ∧ Hid (∃ es es' : List Ev, es.length ≤ j ∧ es'.length ≤ j ∧ PairX 108 108 wo wr p p2 (M2.noted es) (N1.noted es') (fun _ => False) (fun _ => True))) (fun i _ => k - (intOf i).toNat)
      case atStart => exact ⟨0, by omega, rfl, Lib.hid ⟨[], [], by simp, by simp, by rw [Mm.noted_nil, Mm.noted_nil]; exact HF.out⟩⟩
      case round =>
        obtain ⟨j, hj, rfl, HX⟩ := hrel
        obtain ⟨es, es', hes, hes', hX⟩ := HX.out
        have HXr := Lib.hid hX
        clear hX HX HF
        by_cases hjl : j < k
        · have hdj : decide ((j : Int) < (k : Int)) = true := decide_eq_true (by omega)
          have hdj' : decide (j < k) = true := decide_eq_true hjl
          have hhas1 : M2.has 0 (j : Int) = true := Mm.has_lt (by omega)
          have hhas2 : N1.has 0 (j : Int) = true := Mm.has_lt (by omega)
          have hlo1 : (M2.noted es).look 0 (j : Int) false = M2.noted (es ++ [((0 : Int), (j : Int), false)]) := by
            rw [Mm.look_noted (by rw [Mm.noted_has]; exact hhas1), Mm.noted_noted]
          have hlo2 : (N1.noted es').look 0 (j : Int) false = N1.noted (es' ++ [((0 : Int), (j : Int), false)]) := by
            rw [Mm.look_noted (by rw [Mm.noted_has]; exact hhas2), Mm.noted_noted]
          have hl1 : (M2.noted es).evs.length ≤ 500000 := by rw [Mm.noted_evs, List.length_append]; omega
          have hl2 : (N1.noted es').evs.length ≤ 500000 := by rw [Mm.noted_evs, List.length_append]; omega
          have K8 := Lib.hid (HXr.out.call keeps_true fun D' X' hK' h' => one_read hK' 0 (j : Int) h' (by omega))
          rw [hlo1, Mm.noted_read] at K8
          have K9 : Hid (∀ w' (D : Nat → Prop) (X : World → Prop), Keeps D X → PairX 108 108 wo w' p p2 (M2.noted (es ++ [((0 : Int), (j : Int), false)])) (N1.noted es') D X → Calls Try.prog 35 #[.pointer (some ⟨p2, 0, none⟩), .int .i64 0, .int .i64 (j : Int)] w' fun e w'' => e = .returned (.agg (cw (M2.read 0 (j : Int)))) ∧ PairX 108 108 wo w'' p p2 (M2.noted (es ++ [((0 : Int), (j : Int), false)])) (N1.noted (es' ++ [((0 : Int), (j : Int), false)])) D X) := Lib.hid fun w' D X hK h => by
            have := h.call2 hK fun D' X' hK' h' => one_read hK' 0 (j : Int) h' (by omega)
            rw [hlo2, Mm.noted_read, ← HRD.out j hjl] at this
            exact this
          have hes2 : (es ++ [((0 : Int), (j : Int), false)]).length ≤ j + 1 := by simp; omega
          have hes3 : (es' ++ [((0 : Int), (j : Int), false)]).length ≤ j + 1 := by simp; omega
          have hrl := (Mm.read_ok HOK2.out 0 (j : Int)).1
          have hol := HXr.out.old
          clear hhas1 hhas2 hlo1 hlo2 hl1 hl2 HXr
          generalize M2.read 0 (j : Int) = x at *
          generalize es ++ [((0 : Int), (j : Int), false)] = es2 at *
          generalize es' ++ [((0 : Int), (j : Int), false)] = es3 at *
          have hh0 : 0 < x.length := by omega
          have hc0 : (cw x)[0]? = some (.int .u64 (x.getD 0 0)) := by
            rw [cw_get hh0, List.getD_eq_getElem?_getD, List.getElem?_eq_getElem hh0]
            rfl
          have QX := run_eqcell x x hrl hrl
          rw [decide_eq_true rfl] at QX
          have hz1 : (cw x).size = 12 := by rw [cw_size, hrl]
          have HALL : Hid ((cw x).all (·.oneCell') = true) := Lib.hid (all_oneCell_toArray (wv_one x))
          generalize x.getD 0 0 = x0 at *
          generalize cw x = rs at *
          have HI1 : Hid ((Try.prog.info? 44).map (·.size) = some rs.size) := Lib.hid (by rw [hz1]; kernel_rfl)
          have KT : Hid (∀ w', Below wo.heap.size wo w' → Calls Try.prog 73 #[.slice (some ⟨g, 0, none⟩) k cap] w' fun e w'' => ∃ b, e = .returned (.bool b) ∧ Below w'.heap.size w' w'') := Lib.hid fun w' hb => twice6_any _ xs (fun e => by rw [e] at hxl; simp at hxl; omega) (by omega) w' (Sl1.of_owns (ownsRow_below HO.out hb))
          clear hrl hol hh0
          go_wp2_with fail
          refine K8.out.mono ?_
          rintro e wM ⟨rfl, hM⟩
          obtain ⟨A, hAe⟩ : ∃ A, wM.heap.size = A := ⟨_, rfl⟩
          have hbx := hM.box keeps_true z12 44
          have hfl := hM.fillS keeps_true z12 rs 44
          rw [hAe] at hbx hfl
          have HBX := Lib.hid hbx
          have HFL := Lib.hid hfl
          clear hbx hfl hM K8
          go_upto_region 25 with (first
            | (refine wpList_store_row rfl 44 (.tmp 19) (.tmp 122) rfl A rs rfl rfl 44 _ HBX.out.x.2 HI1.out (by rw [hz1]; rfl) HALL.out ?_)
            | fail)
          refine at_world (fun w' => PairX 108 108 wo w' p p2 (M2.noted es2) (N1.noted es') (fun i => False ∨ i = A) (fun w' => True ∧ Blk w' A rs 44)) HFL.out ?_
          intro wN hN
          have HKN : Hid (Keeps (fun i => False ∨ i = A) (fun w' => True ∧ Blk w' A rs 44)) := Lib.hid (keeps_and keeps_true (keeps_blk _ _ _))
          have HN := Lib.hid hN
          clear hN HBX HFL hAe
          go_wp2_with fail
          refine (K9.out _ _ _ HKN.out HN.out).mono ?_
          rintro e wP ⟨rfl, hP3⟩
          obtain ⟨E, hEe⟩ : ∃ E, wP.heap.size = E := ⟨_, rfl⟩
          have hbx := hP3.box HKN.out z12 44
          have hfl := hP3.fillS HKN.out z12 rs 44
          rw [hEe] at hbx hfl
          have HBX := Lib.hid hbx
          have HFL := Lib.hid hfl
          clear hbx hfl hP3 K9 HN
          go_upto_region 26 with (first
            | (refine wpList_store_row rfl 44 (.tmp 20) (.tmp 125) rfl E rs rfl rfl 44 _ HBX.out.x.2 HI1.out (by rw [hz1]; rfl) HALL.out ?_)
            | fail)
          refine at_world (fun w' => PairX 108 108 wo w' p p2 (M2.noted es2) (N1.noted es3) (fun i => (False ∨ i = A) ∨ i = E) (fun w' => (True ∧ Blk w' A rs 44) ∧ Blk w' E rs 44)) HFL.out ?_
          intro wQ hQ
          have HKQ : Hid (Keeps (fun i => (False ∨ i = A) ∨ i = E) (fun w' => (True ∧ Blk w' A rs 44) ∧ Blk w' E rs 44)) := Lib.hid (keeps_and HKN.out (keeps_blk _ _ _))
          have HQ := Lib.hid hQ
          clear hQ HBX HFL hEe
          go_wp2_with fail
          refine (KT.out _ HQ.out.old).mono ?_
          rintro e wT ⟨b, rfl, hbT⟩
          have HT := Lib.hid (HQ.out.below HKQ.out hbT)
          have HA := Lib.hid HT.out.x.1.2
          have HE := Lib.hid HT.out.x.2
          have cA : wT.cell? ⟨A, 0, none⟩ = some (.int .u64 x0) := by rw [HA.out.cell]; exact hc0
          have cE : wT.cell? ⟨E, 0, none⟩ = some (.int .u64 x0) := by rw [HE.out.cell]; exact hc0
          have HTN := Lib.hid (HT.out.less (E := fun _ => False) (Y := fun _ => True) (fun _ h => h.elim) (fun _ => trivial))
          clear hbT HQ HT KT hc0
          cases b
          all_goals
            go_wp2_with (first
              | (refine wpList_load_rowS (by rfl) 44 (.tmp 19) rfl A rfl 44 rs (0, 0) _ HA.out Try.underlying44 rfl HI1.out ?_)
              | (refine wpList_load_rowS (by rfl) 44 (.tmp 20) rfl E rfl 44 rs (0, 0) _ HE.out Try.underlying44 rfl HI1.out ?_)
              | fail)
            go_roundw
            case rel => exact ⟨j + 1, by omega, by go_num, Lib.hid ⟨es2, es3, hes2, hes3, HTN.out⟩⟩
            case measure => simp [intOf]; omega
        · obtain rfl : j = k := by omega
          have hdj : decide ((j : Int) < (j : Int)) = false := by simp
          have HBZ := Lib.hid (HB1.out.trans ((HB.out.trans (HXr.out.old.mono HB.out.size)).mono HB1.out.size))
          clear HXr
          go_wp2
          go_ret
          exact ⟨by first | rfl | simp, HBZ.out⟩
end Go.Proofs.Ytngpaibppdehdaa
