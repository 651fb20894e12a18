/-
  The walk of shellgameref9.Deal.
-/
import Derived.Test.YtiimdgdimjjboaaDealRB
import Derived.Test.YtiimdgdimjjboaaDealRP
import Derived.Test.YtiimdgdimjjboaaDealG
namespace Go.Sg
open Go Go.RowKit
theorem own_cells {w : World} {B : Nat} {e : TypeId} {v : Value} {m : Nat} {xs : List Value} (h : w.ownsRow B e 1 v m xs) (hm : 0 < m) :
    ∃ O cap, v = .slice (some ⟨O, 0, none⟩) m cap ∧ m ≤ cap ∧ cap ≤ maxLen ∧ B ≤ O ∧ O < w.heap.size ∧ ∀ t u, xs[t]? = some u → w.cell? ⟨O, t, none⟩ = some u := by
  rcases h.2 with ⟨-, h0⟩ | ⟨g, cap, cur, rfl, hb, hg, hn, hmx, hsz, ht⟩
  · omega
  · refine ⟨g, cap, rfl, hn, hmx, hb, lt_of_block hg, fun j u hu => ?_⟩
    rw [cell_of_row w g j cur e (0, 0) hg]
    rw [← ht, List.getElem?_take] at hu
    split at hu
    · simpa using hu
    · simp at hu
/-- the memory of the reference's dealing -/
structure XW (TS T TB : TypeId) (n S0 P L O base : Nat) (s : Sh) (st : St) (ord : List Int) (wo : World) (lv : Value) (w : World) : Prop where
  d : Blk w S0 #[.int .i64 s.1, .int .i64 s.2.1, .int .i64 s.2.2] TS
  p : w.rowIs P T n (fun r => .int .i64 (st.pl r))
  f : w.rowIs L TB n (fun r => .bool (decide (st.lf r < 0)))
  o : ∀ t u, (ord.map (Value.int .i64))[t]? = some u → w.cell? ⟨O, t, none⟩ = some u
  lost : w.ownsRow base T 1 lv st.lost.length (st.lost.map (Value.int .i64))
  fr : Below wo.heap.size wo w
  old : wo.heap.size ≤ S0 ∧ wo.heap.size ≤ P ∧ wo.heap.size ≤ L ∧ wo.heap.size ≤ O ∧ S0 < base ∧ P < base ∧ L < base ∧ O < base ∧ base ≤ w.heap.size
  ne : S0 ≠ P ∧ S0 ≠ L ∧ P ≠ L ∧ O ≠ P ∧ O ≠ L
section
variable {TS T TB : TypeId} {n S0 P L O base : Nat} {s : Sh} {st : St} {ord : List Int} {wo w w' : World} {lv : Value}
theorem XW.below (h : XW TS T TB n S0 P L O base s st ord wo lv w) (hb : Below w.heap.size w w') : XW TS T TB n S0 P L O base s st ord wo lv w' := by
  obtain ⟨o1, o2, o3, o4, o5, o6, o7, o8, o9⟩ := h.old
  have hk : ∀ k, k < w.heap.size → w'.heap[k]? = w.heap[k]? := fun k h1 => hb.block k h1
  exact ⟨h.d.below hb (by omega), h.p.of_block (hk P (by omega)), h.f.of_block (hk L (by omega)), fun t u hu => (hb.cell (p := ⟨O, t, none⟩) (show O < w.heap.size by omega)).trans (h.o t u hu), own_of h.lost (fun k hkk => hk k (h.lost.lt k hkk).2), h.fr.trans (hb.mono h.fr.size), ⟨o1, o2, o3, o4, o5, o6, o7, o8, Nat.le_trans o9 hb.size⟩, h.ne⟩
theorem st0_free (s : Sh) (r : Nat) : Value.bool false = Value.bool (decide ((st0 s).lf r < 0)) := by
  have h : ¬ ((r : Int) < 0) := by omega
  simp [st0, h]
/-- one is placed -/
theorem XW.place {ds : Ds} {i q : Nat} {z : Int} (h : XW TS T TB n S0 P L O base s st ord wo lv w) : XW TS T TB n S0 P L O base s ⟨ds, upd st.pl i z, upd st.lf q (-1), st.lost⟩ ord wo lv ((w.setCell ⟨P, i, none⟩ (.int .i64 z)).setCell ⟨L, q, none⟩ (.bool true)) := by
  obtain ⟨o1, o2, o3, o4, o5, o6, o7, o8, o9⟩ := h.old
  obtain ⟨n1, n2, n3, n4, n5⟩ := h.ne
  have hO : ((w.setCell ⟨P, i, none⟩ (.int .i64 z)).setCell ⟨L, q, none⟩ (.bool true)).heap[O]? = w.heap[O]? := by
    rw [Go.Deep.blk_setCell_other _ _ _ _ (show O ≠ L by omega), Go.Deep.blk_setCell_other _ _ _ _ (show O ≠ P by omega)]
  refine ⟨(h.d.other _ _ n1).other _ _ n2, ((h.p.set i (.int .i64 z)).setOther n3 _).congr (fun r _ => by unfold upd; by_cases e : r = i <;> simp [e]), ((h.f.setOther (Ne.symm n3) _).set q (.bool true)).congr (fun r _ => by unfold upd; by_cases e : r = q <;> simp [e]), fun t u hu => (World.cell?_of_block (w := w) hO).trans (h.o t u hu),
    own_of h.lost (fun k hkk => ?_), below_setD (below_setD h.fr _ _ _ o2) _ _ _ o3, ⟨o1, o2, o3, o4, o5, o6, o7, o8, ?_⟩, h.ne⟩
  · have := (h.lost.lt k hkk).1
    rw [Go.Deep.blk_setCell_other _ _ _ _ (show k ≠ L by omega), Go.Deep.blk_setCell_other _ _ _ _ (show k ≠ P by omega)]
  · have hb := below_setD (below_setD (Below.refl wo.heap.size w) P i (.int .i64 z) o2) L q (.bool true) o3
    exact Nat.le_trans o9 hb.size
/-- one is lost -/
theorem XW.lose {ds : Ds} {i : Int} {v' : Value} {w1 : World} (h : XW TS T TB n S0 P L O base s st ord wo lv w) (hw1 : Below w.heap.size w w1) (hown : w'.ownsRow base T 1 v' (st.lost.length + 1) (st.lost.map (Value.int .i64) ++ [.int .i64 i])) (hg : w1.grownBy w' lv.ownBlock) : XW TS T TB n S0 P L O base s ⟨ds, st.pl, st.lf, st.lost ++ [i]⟩ ord wo v' w' := by
  have h1 := h.below hw1
  obtain ⟨o1, o2, o3, o4, o5, o6, o7, o8, o9⟩ := h1.old
  have hb : Below base w1 w' := (Below.refl base w1).grown hg o9 (fun k hk => (h.lost.lt k hk).1)
  exact ⟨blk_of h1.d (hb.block S0 o5), h1.p.of_block (hb.block P o6), h1.f.of_block (hb.block L o7), fun t u hu => (World.cell?_of_block (w := w1) (hb.block O o8)).trans (h1.o t u hu), by rw [List.length_append, List.length_singleton, List.map_append]; exact hown, h1.fr.trans (hb.mono (by omega)), ⟨o1, o2, o3, o4, o5, o6, o7, o8, Nat.le_trans o9 hb.size⟩, h1.ne⟩
end
end Go.Sg
namespace Go.Proofs.Ytiimdgdimjjboaa
open Go Go.RowKit Go.Sg
set_option maxHeartbeats 8000000 in
set_option maxRecDepth 100000 in
theorem rdeal_fit (s : Sh) (hs : rightD s = true) (l : List Di) (hl : (l.length : Int) = placesD s) (v : Value) (w : World) (hv : SlK diV w v l) :
    Calls Try.prog 20 #[.agg #[.int .i64 s.1, .int .i64 s.2.1, .int .i64 s.2.2], v] w fun e w' => ∃ v1 v2, e = .returned (.tuple #[v1, v2]) ∧ Sl1 w' v1 ((dealP s l).map (Value.int .i64)) ∧ Sl1 w' v2 ((dealLost s l).map (Value.int .i64)) ∧ Below w.heap.size w w' := by
  have hfit : fitD s l = true := by unfold fitD; rw [hs, decide_eq_true hl]; rfl
  have hpd : placesD s = levelsD s + s.2.2 + 1 := by unfold placesD; rw [if_pos hs]
  have hpb := placesD_bd s
  have hlb := levelsD_bd hs
  have hs' := rightD_iff.1 hs
  have KR := Lib.hid (fun w' => rright_any s w')
  have KP := Lib.hid (fun w' => rplaces_any s w')
  rw [hs] at KR
  rw [← hl] at KP
  have HRES : Hid (dealP s l = fillL ((List.range l.length).map (endSt s l).pl) (keptD (endSt s l).lf l.length) ∧ dealLost s l = (endSt s l).lost) := Lib.hid (by unfold dealP dealLost; rw [hfit]; exact ⟨rfl, rfl⟩)
  rw [HRES.out.1, HRES.out.2]
  clear HRES hfit
  have HV := Lib.hid hv
  obtain ⟨a, cap, rfl, h1, h2, h3⟩ := hv
  have H3 := Lib.hid h3
  unfold maxLen at h2
  clear h3
  obtain ⟨n, hn⟩ : ∃ n, l.length = n := ⟨_, rfl⟩
  have HN := Lib.hid hn
  rw [hn] at hl h1 KP ⊢
  clear hn
  have hn1 : 3 ≤ n ∧ n ≤ 153 := by omega
  have HNL : Hid ((n : Int) = levelsD s + s.2.2 + 1) := Lib.hid (by omega)
  have HSR := Lib.hid hs
  have HS' := Lib.hid hs'
  have HBW : Hid (Below w.heap.size w (w.alloc (.cells #[.int .i64 s.1, .int .i64 s.2.1, .int .i64 s.2.2] 26))) := Lib.hid ((Below.refl _ _).alloc (Nat.le_refl _) _)
  have HBK : Hid (Blk (w.alloc (.cells #[.int .i64 s.1, .int .i64 s.2.1, .int .i64 s.2.2] 26)) w.heap.size #[.int .i64 s.1, .int .i64 s.2.1, .int .i64 s.2.2] 26) := Lib.hid (Blk.new w _ _)
  obtain ⟨i0, hi0, hz0, hz1, hz2⟩ := info_parts info_intR9
  have HI := Lib.hid hi0
  have HZ := Lib.hid hz0
  have HS := Lib.hid hz1
  have HY := Lib.hid hz2
  obtain ⟨j0, hj0, jz0, jz1, jz2⟩ := info_parts info_boolR9
  have JI := Lib.hid hj0
  have JZ := Lib.hid jz0
  have JS := Lib.hid jz1
  have JY := Lib.hid jz2
  clear hi0 hz0 hz1 hz2 hj0 jz0 jz1 jz2 hpd hpb hlb hl hs hs'
  go_enter Try.func20, Try.ntmps20
  go_wp2_with fail
  refine (KR.out _).mono ?_
  rintro e w2 ⟨rfl, hb2⟩
  have HB2 : Hid (Below w.heap.size w w2) := Lib.hid (HBW.out.trans (hb2.mono HBW.out.size))
  have HK2 := Lib.hid (HBK.out.below hb2 HBK.out.lt)
  have c0 : w2.cell? ⟨w.heap.size, 0, none⟩ = some (.int .i64 s.1) := HK2.out.cell 0
  have c1 : w2.cell? ⟨w.heap.size, 1, none⟩ = some (.int .i64 s.2.1) := HK2.out.cell 1
  have c2 : w2.cell? ⟨w.heap.size, 2, none⟩ = some (.int .i64 s.2.2) := HK2.out.cell 2
  have q1 : ((n : Int) != (n : Int)) = false := by simp
  clear hb2 HBW HBK KR
  go_wp2_with fail
  refine (KP.out _).mono ?_
  rintro e w3 ⟨rfl, hb3⟩
  have HB3 : Hid (Below w.heap.size w w3) := Lib.hid (HB2.out.trans (hb3.mono HB2.out.size))
  have HK3 := Lib.hid (HK2.out.below hb3 HK2.out.lt)
  clear hb3 c0 c1 c2 HB2 HK2 KP
  go_wp2_with (first
    | (at_make; first
        | (refine wpList_make_row _ rfl (.tmp 29) (.tmp 29) 30 rfl 3 i0 (.int .i64 0) Try.underlying30 HI.out HZ.out HS.out rfl .i64 .i64 n rfl rfl (by rw [HY.out]; omega) (by omega) ?_)
        | (refine wpList_make_row _ rfl (.tmp 32) (.tmp 32) 48 rfl 4 j0 (.bool false) Try.underlying48 JI.out JZ.out JS.out rfl .i64 .i64 n rfl rfl (by rw [JY.out]; omega) (by omega) ?_))
    | fail)
  obtain ⟨P, hP⟩ : ∃ P, w3.heap.size = P := ⟨_, rfl⟩
  obtain ⟨w6, hw6⟩ : ∃ w6, (w3.alloc (.cells (madeCells #[.int .i64 0] n) 3)).alloc (.cells (madeCells #[.bool false] n) 4) = w6 := ⟨_, rfl⟩
  have hz1 : (w3.alloc (.cells (madeCells #[.int .i64 0] n) 3)).heap.size = P + 1 := by rw [← hP]; simp
  have hz6 : w6.heap.size = P + 2 := by rw [← hw6, ← hP]; simp
  have hb6 : Below w3.heap.size w3 w6 := by rw [← hw6]; exact ((Below.refl _ _).alloc (Nat.le_refl _) _).alloc (by simp) _
  have hr1 : w6.rowIs P 3 n (fun _ => .int .i64 0) := by
    have h := World.rowIs_made w3 (.int .i64 0) n 3
    have hb : Below (P + 1) (w3.alloc (.cells (madeCells #[.int .i64 0] n) 3)) w6 := by rw [← hw6]; exact (Below.refl _ _).alloc (Nat.le_of_eq hz1.symm) _
    rw [hP] at h
    exact h.of_block (hb.block P (by omega))
  have hr2 : w6.rowIs (P + 1) 4 n (fun _ => .bool false) := by
    have h := World.rowIs_made (w3.alloc (.cells (madeCells #[.int .i64 0] n) 3)) (.bool false) n 4
    rw [hz1, hw6] at h
    exact h
  have HP3 : Hid (w.heap.size < P) := Lib.hid (by rw [← hP]; exact Nat.lt_of_lt_of_le HK3.out.lt (Nat.le_refl _))
  have HB6 : Hid (Below w.heap.size w w6) := Lib.hid (HB3.out.trans (hb6.mono HB3.out.size))
  have HK6 : Hid (Blk w6 w.heap.size #[.int .i64 s.1, .int .i64 s.2.1, .int .i64 s.2.2] 26) := Lib.hid (HK3.out.below hb6 HK3.out.lt)
  have HR1 := Lib.hid hr1
  have HR2 := Lib.hid hr2
  have HZ6 := Lib.hid hz6
  have KO := Lib.hid (rorder_any l (by rw [HN.out]; omega) _ w6 (HV.out.below HB6.out))
  rw [HN.out] at KO
  rw [hP, hw6]
  clear hz1 hb6 hr1 hr2 hz6 hP hw6 HB3 HK3
  refine KO.out.mono ?_
  rintro e w8 ⟨ov, rfl, hown, hb8⟩
  obtain ⟨O, ocap, rfl, ho1, ho2, ho3, ho4, ho5⟩ := own_cells hown (by omega)
  unfold maxLen at ho2
  have hK8 : Blk w8 w.heap.size #[.int .i64 s.1, .int .i64 s.2.1, .int .i64 s.2.2] 26 := HK6.out.below hb8 HK6.out.lt
  have HB8 : Hid (Below w.heap.size w w8) := Lib.hid (HB6.out.trans (hb8.mono HB6.out.size))
  have HR81 := Lib.hid (HR1.out.of_block (hb8.block P (by rw [HZ6.out]; omega)))
  have HR82 := Lib.hid (HR2.out.of_block (hb8.block (P + 1) (by rw [HZ6.out]; omega)))
  have HO5 := Lib.hid ho5
  have HOB : Hid (P + 2 ≤ O ∧ O < w8.heap.size) := Lib.hid ⟨by have := HZ6.out; omega, ho4⟩
  have HK8 := Lib.hid hK8
  have c0 : w8.cell? ⟨w.heap.size, 0, none⟩ = some (.int .i64 s.1) := hK8.cell 0
  clear hown hb8 ho3 ho4 ho5 hK8 KO HR1 HR2 HB6 HK6 HZ6
  go_wp2_with fail
  clear c0
  go_loopw [13] (fun iv wr => ∃ k : Nat, k ≤ n ∧ iv = .int .i64 k ∧ Hid (wr.rowIs P 3 n (fun r => .int .i64 (if r < k then -1 else 0))) ∧ Hid (MFrame (fun x => x = P) w8 wr)) (fun iv _ => n - (intOf iv).toNat)
  case atStart => exact ⟨0, by omega, rfl, Lib.hid (HR81.out.congr (fun i _ => by simp)), Lib.hid (MFrame.refl _ _)⟩
  case round =>
    obtain ⟨k, hk, rfl, HRK, HFK⟩ := hrel
    by_cases hlt : k < n
    · have hd : decide ((k : Int) < (n : Int)) = true := decide_eq_true (by omega)
      have hd' : decide (k < n) = true := decide_eq_true hlt
      have k0 : (0 : Int) ≤ (k : Int) := by omega
      have k1 : (k : Int) < (n : Int) := by omega
      have c0 := HRK.out.cell hlt
      have f0 := HRK.out.frozen k
      rw [if_neg (Nat.lt_irrefl k)] at c0
      have HR4 : Hid ((wr.setCell ⟨P, k, none⟩ (.int .i64 (-1))).rowIs P 3 n (fun j => .int .i64 (if j < k + 1 then -1 else 0))) := Lib.hid ((HRK.out.set k (.int .i64 (-1))).congr (fun j _ => by
        by_cases hj : j = k
        · subst hj; simp
        · by_cases hj2 : j < k
          · simp [hj, hj2, show j < k + 1 by omega]
          · simp [hj, hj2, show ¬ j < k + 1 by omega]))
      have HF4 : Hid (MFrame (fun x => x = P) w8 (wr.setCell ⟨P, k, none⟩ (.int .i64 (-1)))) := Lib.hid (HFK.out.setCells [.int .i64 (-1)] k (.inl rfl))
      go_wp2
      go_roundw
      case rel => exact ⟨k + 1, by omega, by go_num, HR4, HF4⟩
      case measure => simp [intOf]; omega
    · obtain rfl : k = n := by omega
      have hd : decide ((k : Int) < (k : Int)) = false := by simp
      obtain ⟨w9, rfl⟩ : ∃ w9 : World, w9 = wr := ⟨_, rfl⟩
      obtain ⟨base, hbase⟩ : ∃ base, w9.heap.size = base := ⟨_, rfl⟩
      have HXW : Hid (XW 26 3 4 k w.heap.size P (P + 1) O base s (st0 s) (ordD l) w (.slice none 0 0) w9) := Lib.hid (by
        have h1 := HP3.out
        have h2 := HOB.out
        have h3 := HFK.out.size
        have hbk : ∀ j, j < w8.heap.size → j ≠ P → w9.heap[j]? = w8.heap[j]? := fun j a b => HFK.out.block j a b
        refine ⟨blk_of HK8.out (hbk _ (by omega) (by omega)), HRK.out.congr (fun r hr => by rw [if_pos hr]; rfl), (HR82.out.of_block (hbk _ (by omega) (by omega))).congr (fun r _ => st0_free s r), fun t u hu => (World.cell?_of_block (w := w8) (hbk O (by omega) (by omega))).trans (HO5.out t u hu), World.ownsRow_nil _ _ _ _, HB8.out.trans (HFK.out.below (fun x hx => by rw [hx]; omega) HB8.out.size), ⟨by omega, by omega, by omega, by omega, by omega, by omega, by omega, by omega, by omega⟩, ⟨by omega, by omega, by omega, by omega, by omega⟩⟩)
      clear HRK HFK HB8 HR81 HR82 HO5 HK8 hbase HOB
      obtain ⟨d, sl, st'⟩ := s
      have hs2 := HS'.out
      simp only at hs2
      go_wp2_with fail
      go_loopw [9, 10, 11, 12, 14, 15] (fun a1 a2 a3 lv iv _ wr => ∃ (t : Nat) (st : St), t ≤ k ∧ iv = .int .i64 t ∧ a1 = .int .i64 st.ds.1 ∧ a2 = .int .i64 st.ds.2.1 ∧ a3 = .int .i64 st.ds.2.2 ∧ Hid (st = runSt (d, sl, st') l ((ordD l).take t)) ∧ Hid (XW 26 3 4 k w.heap.size P (P + 1) O base (d, sl, st') st (ordD l) w lv wr) ∧ Hid (DInv (d, sl, st') k ((ordD l).take t) st) ∧ Hid (∀ x ∈ (ordD l).take t, 0 ≤ (getD' l x).2)) (fun _ _ _ _ iv _ _ => k - (intOf iv).toNat)
      case atStart => exact ⟨0, st0 (d, sl, st'), by omega, rfl, rfl, rfl, rfl, Lib.hid rfl, HXW, Lib.hid (DInv.start _ HSR.out k), Lib.hid (by simp)⟩
      case round =>
        obtain ⟨t, st, ht, rfl, rfl, rfl, rfl, HST, HDW, HDI, HRE⟩ := hrel
        have HOL : Hid ((ordD l).length = k) := Lib.hid (by rw [ordD_len, HN.out])
        have t0 : (0 : Int) ≤ (t : Int) := by omega
        by_cases hgo : t < k ∧ ∀ x, (ordD l)[t]? = some x → 0 ≤ (getD' l x).2
        · obtain ⟨hlt, hreal⟩ := hgo
          have hd : decide ((t : Int) < (k : Int)) = true := decide_eq_true (by omega)
          have hd' : decide (t < k) = true := decide_eq_true hlt
          have t1 : (t : Int) < (k : Int) := by omega
          have hto : t < (ordD l).length := by rw [HOL.out]; exact hlt
          have hmem := (ordD_perm l).mem_iff.1 (List.getElem_mem hto)
          rw [idx_mem, HN.out] at hmem
          have hnot := take_notmem hto
          have hre2 := hreal _ (List.getElem?_eq_getElem hto)
          have htk : (ordD l).take (t + 1) = (ordD l).take t ++ [(ordD l)[t]] := List.take_succ_eq_append_getElem hto
          have hco : wr.cell? ⟨O, t, none⟩ = some (.int .i64 (ordD l)[t]) := HDW.out.o t _ (by rw [List.getElem?_map, List.getElem?_eq_getElem hto]; rfl)
          have hst := HDI.out.step HSR.out HNL.out hmem.1 hmem.2 hnot hre2
          obtain ⟨j, hj⟩ : ∃ j : Nat, (ordD l)[t] = j := ⟨(ordD l)[t].toNat, by omega⟩
          rw [hj] at hmem hre2 htk hco hst
          have hjk : j < k := by omega
          have hjl : j < l.length := by rw [HN.out]; exact hjk
          obtain ⟨lb, lo, rfl, hblt, hrl⟩ := H3.out (fun e => by rw [e] at hjl; simp at hjl)
          have hgd : getD' l (j : Int) = l[j] := by unfold getD'; simp [List.getD_eq_getElem?_getD, List.getElem?_eq_getElem hjl]
          have HCL : Hid (∀ w', Below w.heap.size w w' → w'.cell? ⟨lb, lo + j * 2 + 1, none⟩ = some (.int .i64 (getD' l (j : Int)).2)) := Lib.hid fun w' h => by
            rw [hgd]
            exact (h.cell (p := ⟨lb, lo + j * 2 + 1, none⟩) hblt).trans (range_flat diV_k hrl hjl 1 _ rfl)
          have ccl := HCL.out wr HDW.out.fr
          have HTK : Hid (stepSt (d, sl, st') l st (j : Int) = runSt (d, sl, st') l ((ordD l).take (t + 1))) := Lib.hid (by rw [htk, runSt_snoc, HST.out])
          have HTI : Hid (DInv (d, sl, st') k ((ordD l).take (t + 1)) (stepSt (d, sl, st') l st (j : Int))) := Lib.hid (by rw [htk]; exact hst.1)
          have HTR : Hid (∀ x ∈ (ordD l).take (t + 1), 0 ≤ (getD' l x).2) := Lib.hid fun x hx => by
            rw [htk] at hx
            rcases List.mem_append.1 hx with h1 | h1
            · exact HRE.out x h1
            · rw [List.mem_singleton] at h1; rw [h1]; exact hre2
          have HQ := Lib.hid hst.2
          have hll : st.lost.length ≤ t := by
            have := runSt_lost (d, sl, st') l ((ordD l).take t)
            rw [List.length_take, ← HST.out] at this
            omega
          have hok := HDI.out.ok
          have hse : stepSt (d, sl, st') l st (j : Int) = if (nextD (d, sl, st') st.ds (getD' l (j : Int)).2).1 < 0 then ⟨(nextD (d, sl, st') st.ds (getD' l (j : Int)).2).2, st.pl, st.lf, st.lost ++ [(j : Int)]⟩ else ⟨(nextD (d, sl, st') st.ds (getD' l (j : Int)).2).2, upd st.pl ((j : Int)).toNat (nextD (d, sl, st') st.ds (getD' l (j : Int)).2).1, upd st.lf (nextD (d, sl, st') st.ds (getD' l (j : Int)).2).1.toNat (-1), st.lost⟩ := rfl
          rw [hse] at HTK HTI
          have hre3 : decide (0 ≤ (getD' l (j : Int)).2) = true := decide_eq_true hre2
          have hlv : levelsD (d, sl, st') = sl * (d + 1) := rfl
          generalize (getD' l (j : Int)).2 = deep at *
          obtain ⟨⟨lv, on, sh⟩, pl, lf, lost⟩ := st
          have hnc := next_cases (d, sl, st') lv on sh deep hre2
          simp only [Int.toNat_natCast] at HTK HTI HQ hok hnc hll
          obtain ⟨o1, o2, o3, o4, o5, o6⟩ := hok
          simp only at o1 o2 o3 o4 o5 o6
          rw [hlv] at hnc
          have j0 : (0 : Int) ≤ (j : Int) := by omega
          have j1 : (j : Int) < (k : Int) := by omega
          have hkd := HDW.out.d
          have cd0 : wr.cell? ⟨w.heap.size, 0, none⟩ = some (.int .i64 d) := hkd.cell 0
          have cd1 : wr.cell? ⟨w.heap.size, 1, none⟩ = some (.int .i64 sl) := hkd.cell 1
          have cd2 : wr.cell? ⟨w.heap.size, 2, none⟩ = some (.int .i64 st') := hkd.cell 2
          clear hmem hnot hst hse hgd htk hreal HRE HDI hjl hj hto HST hkd hlv
          simp only
          have hmul : 0 ≤ sl * (d + 1) ∧ sl * (d + 1) ≤ 8 * 11 := ⟨Int.mul_nonneg (by omega) (by omega), Int.mul_le_mul (by omega) (by omega) (by omega) (by omega)⟩
          by_cases c1 : lv < 0
          · have dl : decide (0 ≤ lv) = false := decide_eq_false (by omega)
            have dd : decide (deep < lv) = false := decide_eq_false (by omega)
            rw [if_pos c1] at hnc
            by_cases c2 : sh = st'
            · have ds' : decide (sh < st') = false := decide_eq_false (by omega)
              rw [if_pos c2] at hnc
              rw [hnc] at HTK HTI HQ
              rw [if_pos (by simp only; omega)] at HTK HTI
              clear hnc HQ
              go_wp2_with (first
                | (at_builtin; go_loud (refine wpList_append_own_at _ rfl (.tmp 112) (.tmp 117) 30 rfl base 3 i0 (.int .i64 0) 1 8 Try.underlying30 HI.out HZ.out HS.out HY.out rfl (by decide) _ lost.length (lost.map (Value.int .i64)) rfl (HDW.out.lost.alloc _) ⟨wr.heap.size, 0, none⟩ 1 1 [.int .i64 (j : Int)] rfl rfl (cells_litD _ [.int .i64 (j : Int)] _) (by simp [Value.oneCell']) (by unfold maxLen; omega) (by omega) (by have := HDW.out.old.2.2.2.2.2.2.2.2; simp; omega) ?_))
                | fail)
              intro v' w10 hown hgrow _ _
              have HLO := Lib.hid (HDW.out.lose (ds := (lv, on, sh)) (i := (j : Int)) ((Below.refl _ _).alloc (Nat.le_refl _) _) hown hgrow)
              clear hown hgrow HDW
              go_wp2
              go_roundw
              case rel => exact ⟨t + 1, _, by omega, by go_num, rfl, rfl, by show Value.int .i64 st' = Value.int .i64 sh; rw [c2], HTK, HLO, HTI, HTR⟩
              case measure => simp [intOf]; omega
            · have ds' : decide (sh < st') = true := decide_eq_true (by omega)
              rw [if_neg c2] at hnc
              rw [hnc] at HTK HTI HQ
              rw [if_neg (by simp only; omega)] at HTK HTI
              obtain ⟨q, hq⟩ : ∃ q : Nat, sl * (d + 1) + sh = q := ⟨(sl * (d + 1) + sh).toNat, by omega⟩
              have hqk := HQ.out (by simp only; omega)
              simp only [hq, Int.toNat_natCast] at HTK HTI hqk
              have q0 : (0 : Int) ≤ (q : Int) := by omega
              have q1 : (q : Int) < (k : Int) := by omega
              have dq : decide ((0 : Int) ≤ (q : Int)) = true := decide_eq_true q0
              have hd1' : IntKind.i64.wrap (d + 1) = d + 1 := by rw [IntKind.wrap_i64]; omega
              have m1 : IntKind.i64.wrap (sl * (d + 1)) = sl * (d + 1) := by rw [IntKind.wrap_i64]; omega
              have m2 : IntKind.i64.wrap (sl * (d + 1) + sh) = (q : Int) := by rw [hq, IntKind.wrap_i64]; omega
              have m3 : IntKind.i64.wrap (sh + 1) = sh + 1 := by rw [IntKind.wrap_i64]; omega
              have cp := HDW.out.p.cell hjk
              have fp := HDW.out.p.frozen j
              have cf := HDW.out.f.cell hqk
              have ff := HDW.out.f.frozen q
              have hne := HDW.out.ne.2.2.1
              simp only at cp cf
              have HPL := Lib.hid (HDW.out.place (ds := (lv, on, sh + 1)) (i := j) (q := q) (z := (q : Int)))
              clear HDW HQ hnc
              clear hq
              go_wp2
              go_roundw
              case rel => exact ⟨t + 1, _, by omega, by go_num, rfl, rfl, rfl, HTK, HPL, HTI, HTR⟩
              case measure => simp [intOf]; omega

          · rw [if_neg c1] at hnc
            by_cases c2 : deep < lv
            · have dd : decide (deep < lv) = true := decide_eq_true c2
              have dl : decide (0 ≤ deep) = true := decide_eq_true hre2
              rw [if_pos c2, Int.add_zero, Int.zero_add] at hnc
              have hm2 : 0 ≤ deep * sl ∧ deep * sl ≤ 10 * 8 := ⟨Int.mul_nonneg (by omega) (by omega), Int.mul_le_mul (by omega) (by omega) (by omega) (by omega)⟩
              have m0 : IntKind.i64.wrap (deep * sl) = deep * sl := by rw [IntKind.wrap_i64]; omega
              by_cases c3 : 1 = sl
              · have ql : ((1 : Int) == sl) = true := by simp [c3]
                rw [if_pos c3] at hnc
                have HC3 := Lib.hid c3
                clear c3
                rw [hnc] at HTK HTI HQ
                rw [if_neg (by simp only; omega)] at HTK HTI
                obtain ⟨q, hq⟩ : ∃ q : Nat, deep * sl = q := ⟨(deep * sl).toNat, by omega⟩
                have hqk := HQ.out (by simp only; omega)
                simp only [hq, Int.toNat_natCast] at HTK HTI hqk
                have q0 : (0 : Int) ≤ (q : Int) := by omega
                have q1 : (q : Int) < (k : Int) := by omega
                have dq : decide ((0 : Int) ≤ (q : Int)) = true := decide_eq_true q0
                have m3 : IntKind.i64.wrap (deep - 1) = deep - 1 := by rw [IntKind.wrap_i64]; omega
                have cp := HDW.out.p.cell hjk
                have fp := HDW.out.p.frozen j
                have cf := HDW.out.f.cell hqk
                have ff := HDW.out.f.frozen q
                have hne := HDW.out.ne.2.2.1
                simp only at cp cf
                have HPL := Lib.hid (HDW.out.place (ds := (deep - 1, 0, sh)) (i := j) (q := q) (z := (q : Int)))
                clear HDW HQ hnc
                go_upto_region 24 with fail
                clear hq
                go_wp2
                go_roundw
                case rel => exact ⟨t + 1, _, by omega, by go_num, rfl, rfl, rfl, HTK, HPL, HTI, HTR⟩
                case measure => simp [intOf]; omega

              · have ql : ((1 : Int) == sl) = false := by simpa using c3
                rw [if_neg c3] at hnc
                have HC3 := Lib.hid c3
                clear c3
                rw [hnc] at HTK HTI HQ
                rw [if_neg (by simp only; omega)] at HTK HTI
                obtain ⟨q, hq⟩ : ∃ q : Nat, deep * sl = q := ⟨(deep * sl).toNat, by omega⟩
                have hqk := HQ.out (by simp only; omega)
                simp only [hq, Int.toNat_natCast] at HTK HTI hqk
                have q0 : (0 : Int) ≤ (q : Int) := by omega
                have q1 : (q : Int) < (k : Int) := by omega
                have dq : decide ((0 : Int) ≤ (q : Int)) = true := decide_eq_true q0
                have cp := HDW.out.p.cell hjk
                have fp := HDW.out.p.frozen j
                have cf := HDW.out.f.cell hqk
                have ff := HDW.out.f.frozen q
                have hne := HDW.out.ne.2.2.1
                simp only at cp cf
                have HPL := Lib.hid (HDW.out.place (ds := (deep, 1, sh)) (i := j) (q := q) (z := (q : Int)))
                clear HDW HQ hnc
                go_upto_region 24 with fail
                clear hq
                go_wp2
                go_roundw
                case rel => exact ⟨t + 1, _, by omega, by go_num, rfl, rfl, rfl, HTK, HPL, HTI, HTR⟩
                case measure => simp [intOf]; omega

            · have dd : decide (deep < lv) = false := decide_eq_false c2
              have dl : decide (0 ≤ lv) = true := decide_eq_true (by omega)
              rw [if_neg c2] at hnc
              have hm2 : 0 ≤ lv * sl ∧ lv * sl ≤ 10 * 8 := ⟨Int.mul_nonneg (by omega) (by omega), Int.mul_le_mul (by omega) (by omega) (by omega) (by omega)⟩
              have m0 : IntKind.i64.wrap (lv * sl) = lv * sl := by rw [IntKind.wrap_i64]; omega
              have m3 : IntKind.i64.wrap (on + 1) = on + 1 := by rw [IntKind.wrap_i64]; omega
              by_cases c3 : on + 1 = sl
              · have ql : (on + 1 == sl) = true := by simp [c3]
                rw [if_pos c3] at hnc
                rw [hnc] at HTK HTI HQ
                rw [if_neg (by simp only; omega)] at HTK HTI
                obtain ⟨q, hq⟩ : ∃ q : Nat, lv * sl + on = q := ⟨(lv * sl + on).toNat, by omega⟩
                have hqk := HQ.out (by simp only; omega)
                simp only [hq, Int.toNat_natCast] at HTK HTI hqk
                have q0 : (0 : Int) ≤ (q : Int) := by omega
                have q1 : (q : Int) < (k : Int) := by omega
                have dq : decide ((0 : Int) ≤ (q : Int)) = true := decide_eq_true q0
                have m2 : IntKind.i64.wrap (lv * sl + on) = (q : Int) := by rw [hq, IntKind.wrap_i64]; omega
                have m4 : IntKind.i64.wrap (lv - 1) = lv - 1 := by rw [IntKind.wrap_i64]; omega
                have cp := HDW.out.p.cell hjk
                have fp := HDW.out.p.frozen j
                have cf := HDW.out.f.cell hqk
                have ff := HDW.out.f.frozen q
                have hne := HDW.out.ne.2.2.1
                simp only at cp cf
                have HPL := Lib.hid (HDW.out.place (ds := (lv - 1, 0, sh)) (i := j) (q := q) (z := (q : Int)))
                clear HDW HQ hnc
                clear hq
                go_wp2
                go_roundw
                case rel => exact ⟨t + 1, _, by omega, by go_num, rfl, rfl, rfl, HTK, HPL, HTI, HTR⟩
                case measure => simp [intOf]; omega

              · have ql : (on + 1 == sl) = false := by simpa using c3
                rw [if_neg c3] at hnc
                rw [hnc] at HTK HTI HQ
                rw [if_neg (by simp only; omega)] at HTK HTI
                obtain ⟨q, hq⟩ : ∃ q : Nat, lv * sl + on = q := ⟨(lv * sl + on).toNat, by omega⟩
                have hqk := HQ.out (by simp only; omega)
                simp only [hq, Int.toNat_natCast] at HTK HTI hqk
                have q0 : (0 : Int) ≤ (q : Int) := by omega
                have q1 : (q : Int) < (k : Int) := by omega
                have dq : decide ((0 : Int) ≤ (q : Int)) = true := decide_eq_true q0
                have m2 : IntKind.i64.wrap (lv * sl + on) = (q : Int) := by rw [hq, IntKind.wrap_i64]; omega
                have cp := HDW.out.p.cell hjk
                have fp := HDW.out.p.frozen j
                have cf := HDW.out.f.cell hqk
                have ff := HDW.out.f.frozen q
                have hne := HDW.out.ne.2.2.1
                simp only at cp cf
                have HPL := Lib.hid (HDW.out.place (ds := (lv, on + 1, sh)) (i := j) (q := q) (z := (q : Int)))
                clear HDW HQ hnc
                clear hq
                go_wp2
                go_roundw
                case rel => exact ⟨t + 1, _, by omega, by go_num, rfl, rfl, rfl, HTK, HPL, HTI, HTR⟩
                case measure => simp [intOf]; omega

        · have hex : t = k ∨ (t < k ∧ ∃ x, (ordD l)[t]? = some x ∧ (getD' l x).2 < 0) := by
            rcases Nat.lt_or_ge t k with h | h
            · right
              refine ⟨h, ?_⟩
              have hto : t < (ordD l).length := by rw [HOL.out]; exact h
              refine ⟨_, List.getElem?_eq_getElem hto, ?_⟩
              rcases Int.lt_or_le (getD' l (ordD l)[t]).2 0 with h2 | h2
              · exact h2
              · exact absurd ⟨h, fun x hx => by rw [List.getElem?_eq_getElem hto] at hx; simp only [Option.some.injEq] at hx; rw [← hx]; exact h2⟩ hgo
            · left; omega
          have hro : realO l = (ordD l).take t := realO_of HRE.out (fun x hx => by
            rcases hex with h | ⟨_, y, h1, h2⟩
            · rw [List.getElem?_eq_none (by rw [HOL.out]; omega)] at hx; cases hx
            · rw [h1] at hx; simp only [Option.some.injEq] at hx; rw [← hx]; exact h2)
          have hes : endSt (d, sl, st') l = st := by unfold endSt; rw [hro, HST.out]
          have HCN : Hid (cntN st.lf k + cntN st.pl k = k) := Lib.hid HDI.out.cnt
          have HPV : Hid (∀ i : Nat, st.pl i = -1 ∨ 0 ≤ st.pl i) := Lib.hid (fun i => (HDI.out.plv i).imp id (fun h => h.1))
          have HLF := Lib.hid HDI.out.lfv
          have HED := Lib.hid HDW.out
          obtain ⟨es, hese⟩ : ∃ es, st = es := ⟨_, rfl⟩
          rw [hese] at HED HCN HPV HDW HLF hes
          have HES := Lib.hid hes
          have hex2 : t = k ∨ (t < k ∧ ∃ (j : Nat) (x : Int) (lb lo : Nat), j < k ∧ a = some ⟨lb, lo, none⟩ ∧ wr.cell? ⟨O, t, none⟩ = some (.int .i64 (j : Int)) ∧ wr.cell? ⟨lb, lo + j * 2 + 1, none⟩ = some (.int .i64 x) ∧ x < 0) := by
            rcases hex with h | ⟨h, x, hx1, hx2⟩
            · exact .inl h
            · right
              refine ⟨h, ?_⟩
              obtain ⟨hto, hx3⟩ := List.getElem?_eq_some_iff.1 hx1
              have hmem := (ordD_perm l).mem_iff.1 (List.getElem_mem hto)
              rw [hx3, idx_mem, HN.out] at hmem
              have hjl : x.toNat < l.length := by rw [HN.out]; omega
              obtain ⟨lb, lo, rfl, hblt, hrl⟩ := H3.out (fun e => by rw [e] at hjl; simp at hjl)
              refine ⟨x.toNat, (getD' l x).2, lb, lo, by omega, rfl, ?_, ?_, hx2⟩
              · rw [HDW.out.o t _ (by rw [List.getElem?_map, hx1]; rfl)]
                congr 2
                omega
              · have := (HDW.out.fr.cell (p := ⟨lb, lo + x.toNat * 2 + 1, none⟩) hblt).trans (range_flat diV_k hrl hjl 1 _ rfl)
                rw [this]
                congr 2
                unfold getD'
                simp [List.getD_eq_getElem?_getD, List.getElem?_eq_getElem hjl]
          obtain ⟨kp, hkp⟩ : ∃ kp, keptD es.lf k = kp := ⟨_, rfl⟩
          have hmc : kp.length = cntN es.pl k := by rw [← hkp]; have := kept_cnt es.lf k; have := HCN.out; omega
          have HKP := Lib.hid hkp
          have HMC := Lib.hid hmc
          have HFL := Lib.hid (fun i (hi : i < k) => fill_get es.pl kp hi)
          have HTF : Hid (∀ o nx, o < kp.length → (∀ p, p < nx → tkD es.lf kp o p = true) → ∃ u : Nat, kp.getD o 0 = u ∧ u < k ∧ nx ≤ u ∧ (tkD es.lf kp o nx = false → nx = u) ∧ (nx = u → tkD es.lf kp o nx = false)) := Lib.hid (fun o nx h1 h2 => by
            rw [← hkp] at h1 h2 ⊢
            exact tk_find HLF.out h1 h2)
          obtain ⟨fl, hfl⟩ : ∃ fl, fillL ((List.range k).map es.pl) kp = fl := ⟨_, rfl⟩
          have HFLL : Hid (fl.length = k) := Lib.hid (by rw [← hfl, fillL_len]; simp)
          simp only [hfl] at HFL
          have HFE := Lib.hid hfl
          have HP9 := Lib.hid HED.out.p
          have HL9 := Lib.hid HED.out.f
          have HNE := Lib.hid (And.intro HED.out.ne.2.2.1 (And.intro HED.out.old.2.1 (And.intro HED.out.old.2.2.1 HED.out.lost)))
          have HB9 := Lib.hid HED.out.fr
          have HPS9 := Lib.hid (And.intro HED.out.old.2.2.2.2.2.1 (And.intro HED.out.old.2.2.2.2.2.2.1 HED.out.old.2.2.2.2.2.2.2.2))
          obtain ⟨w9', hw9'⟩ : ∃ w9' : World, w9' = wr := ⟨_, rfl⟩
          rw [← hw9'] at HP9 HL9 HB9 HNE HPS9
          have HW9 := Lib.hid hw9'
          have HLF2 := HLF
          clear hkp hmc hfl hex hro hes hese hgo HDI HRE HST HDW HED HCN HLF hw9'
          rcases hex2 with htk | ⟨hlt, j, x, lb, lo, hjk, rfl, hco, hcx, hx0⟩
          focus
            have hd2 : decide ((t : Int) < (k : Int)) = false := decide_eq_false (by omega)
            have hd2' : decide (t < k) = false := decide_eq_false (by omega)
            go_wp2_with fail
          rotate_left
          focus
            have hd2 : decide ((t : Int) < (k : Int)) = true := decide_eq_true (by omega)
            have hd2' : decide (t < k) = true := decide_eq_true hlt
            have t1 : (t : Int) < (k : Int) := by omega
            have j0 : (0 : Int) ≤ (j : Int) := by omega
            have j1 : (j : Int) < (k : Int) := by omega
            have dx : decide (0 ≤ x) = false := decide_eq_false (by omega)
            go_wp2_with fail
          all_goals
            go_loopw [16, 17] (fun nv iv wz => ∃ i nx : Nat, i ≤ k ∧ iv = .int .i64 i ∧ nv = .int .i64 nx ∧ nx ≤ k ∧ Hid (wz.rowIs P 3 k (fun r => .int .i64 (if r < i then fl.getD r 0 else es.pl r))) ∧ Hid (wz.rowIs (P + 1) 4 k (fun r => .bool (tkD es.lf kp (cntN es.pl i) r))) ∧ Hid (∀ p, p < nx → tkD es.lf kp (cntN es.pl i) p = true) ∧ Hid (MFrame (fun x => x = P ∨ x = P + 1) w9' wz)) (fun _ iv _ => k - (intOf iv).toNat)
            case atStart =>
              have hwe := HW9.out
              rw [← hwe]
              exact ⟨0, 0, by omega, rfl, rfl, by omega, Lib.hid (HP9.out.congr (fun r _ => by simp)), Lib.hid (HL9.out.congr (fun r _ => by rw [show cntN es.pl 0 = 0 from rfl, tk_zero])), Lib.hid (fun p h => by omega), Lib.hid (MFrame.refl _ _)⟩
            case round =>
              obtain ⟨i, nx, hi, rfl, rfl, hnx, HPR, HLR, HTB, HFR⟩ := hrel
              have HCS := Lib.hid (cntN_succ es.pl i)
              by_cases hik : i < k
              · have hd3 : decide ((i : Int) < (k : Int)) = true := decide_eq_true (by omega)
                have hd3' : decide (i < k) = true := decide_eq_true hik
                have i0' : (0 : Int) ≤ (i : Int) := by omega
                have i1' : (i : Int) < (k : Int) := by omega
                have cpi := HPR.out.cell hik
                have fpi := HPR.out.frozen i
                rw [if_neg (Nat.lt_irrefl i)] at cpi
                have hfi := HFL.out i hik
                have hmono := cntN_mono es.pl (show i + 1 ≤ k by omega)
                rw [← HMC.out] at hmono
                have HPVI := Lib.hid (HPV.out i)
                obtain ⟨o, hu⟩ : ∃ o, cntN es.pl i = o := ⟨_, rfl⟩
                rw [hu] at HCS hfi HLR HTB
                obtain ⟨z, hz⟩ : ∃ z, es.pl i = z := ⟨_, rfl⟩
                rw [hz] at cpi HCS hfi HPVI
                have HZ := Lib.hid hz
                have HU := Lib.hid hu
                clear hu hz
                by_cases hzn : z < 0
                · have dz : decide (0 ≤ z) = false := decide_eq_false (by omega)
                  rw [if_pos hzn] at hfi
                  have hcs := HCS.out
                  rw [if_pos hzn] at hcs
                  have HC1 := Lib.hid hcs
                  rw [hcs] at hmono
                  have hol : o < kp.length := by omega
                  obtain ⟨u, hu1, hu2, hu3, hu4, hu5⟩ := HTF.out o nx hol HTB.out
                  have HUF : Hid (tkD es.lf kp o u = false) := Lib.hid (keptD_up_free HLF2.out HKP.out hol hu1)
                  have HU1 := Lib.hid hu1
                  have HOL := Lib.hid hol
                  rw [hu1] at hfi
                  clear hcs hmono hol hu1 hu4 hu5
                  obtain ⟨wy, hwy⟩ : ∃ wy : World, wy = wr := ⟨_, rfl⟩
                  rw [← hwy] at HPR HLR HFR fpi
                  have cpi' : wy.cell? ⟨P, i, none⟩ = some (.int .i64 z) := by rw [hwy]; exact cpi
                  have HWY := Lib.hid hwy
                  clear hwy
                  go_wp2_with fail
                  go_loopw [16] (fun nv wz => ∃ m : Nat, m ≤ u ∧ nv = .int .i64 m ∧ Hid (wz = wy) ∧ Hid (∀ p, p < m → tkD es.lf kp o p = true)) (fun nv _ => u - (intOf nv).toNat)
                  case atStart => exact ⟨nx, hu3, rfl, Lib.hid HWY.out.symm, HTB⟩
                  case round =>
                    obtain ⟨m, hm, rfl, HWZ, HTM⟩ := hrel
                    have m0 : (0 : Int) ≤ (m : Int) := by omega
                    have m1 : (m : Int) < (k : Int) := by omega
                    have cm : wr.cell? ⟨P + 1, m, none⟩ = some (.bool (tkD es.lf kp o m)) := by rw [HWZ.out]; exact HLR.out.cell (show m < k by omega)
                    rcases hb : tkD es.lf kp o m with _ | _
                    · rw [hb] at cm
                      obtain ⟨u', h1, h2, h3, h4, h5⟩ := HTF.out o m HOL.out HTM.out
                      have hmu : m = u := by have := h4 hb; have := HU1.out.symm.trans h1; omega
                      subst hmu
                      have cpi : wr.cell? ⟨P, i, none⟩ = some (.int .i64 z) := by rw [HWZ.out]; exact cpi'
                      have fpi : wr.frozen? ⟨P, i, none⟩ = false := by rw [HWZ.out]; exact fpi
                      have fm : wr.frozen? ⟨P + 1, m, none⟩ = false := by rw [HWZ.out]; exact HLR.out.frozen m
                      have hne : P ≠ P + 1 := by omega
                      have HPN : Hid (((wr.setCell ⟨P, i, none⟩ (.int .i64 (m : Int))).setCell ⟨P + 1, m, none⟩ (.bool true)).rowIs P 3 k (fun r => .int .i64 (if r < i + 1 then fl.getD r 0 else es.pl r))) := Lib.hid (by
                        rw [HWZ.out]
                        exact ((HPR.out.set i (.int .i64 (m : Int))).setOther hne _).congr (fun r _ => by
                          by_cases h : r = i
                          · subst h
                            rw [if_pos rfl, if_pos (by omega), List.getD_eq_getElem?_getD, hfi]
                            rfl
                          · rw [if_neg h]
                            by_cases h2 : r < i
                            · rw [if_pos h2, if_pos (by omega)]
                            · rw [if_neg h2, if_neg (by omega)]))
                      have HLN : Hid (((wr.setCell ⟨P, i, none⟩ (.int .i64 (m : Int))).setCell ⟨P + 1, m, none⟩ (.bool true)).rowIs (P + 1) 4 k (fun r => .bool (tkD es.lf kp (cntN es.pl (i + 1)) r))) := Lib.hid (by
                        rw [HWZ.out]
                        exact ((HLR.out.setOther (Ne.symm hne) _).set m (.bool true)).congr (fun r _ => by
                          rw [HC1.out, tk_next HOL.out HU1.out]
                          by_cases h : r = m
                          · rw [if_pos h, if_pos h]
                          · rw [if_neg h, if_neg h]))
                      have HTN : Hid (∀ p, p < m → tkD es.lf kp (cntN es.pl (i + 1)) p = true) := Lib.hid (fun p hp => by
                        rw [HC1.out, tk_next HOL.out HU1.out]
                        split
                        · rfl
                        · exact HTM.out p hp)
                      have HFN : Hid (MFrame (fun x => x = P ∨ x = P + 1) w9' ((wr.setCell ⟨P, i, none⟩ (.int .i64 (m : Int))).setCell ⟨P + 1, m, none⟩ (.bool true))) := Lib.hid (by
                        rw [HWZ.out]
                        exact (HFR.out.setCells [.int .i64 (m : Int)] i (.inl (.inl rfl))).setCells [.bool true] m (.inl (.inr rfl)))
                      clear HPR HLR HFR HTM
                      go_wp2
                      go_roundw
                      case rel => exact ⟨i + 1, m, by omega, by go_num, rfl, by omega, HPN, HLN, HTN, HFN⟩
                      case measure => simp [intOf]; omega
                    · rw [hb] at cm
                      have hmu : m < u := by
                        rcases Nat.lt_or_ge m u with h | h
                        · exact h
                        · exfalso
                          have e : m = u := by omega
                          rw [e, HUF.out] at hb
                          cases hb
                      have HTM2 : Hid (∀ p, p < m + 1 → tkD es.lf kp o p = true) := Lib.hid (fun p hp => by
                        by_cases h : p = m
                        · rw [h]; exact hb
                        · exact HTM.out p (by omega))
                      go_wp2
                      go_roundw
                      case rel => exact ⟨m + 1, by omega, by go_num, HWZ, HTM2⟩
                      case measure => simp [intOf]; omega
                · have dz : decide (0 ≤ z) = true := decide_eq_true (by omega)
                  rw [if_neg hzn] at hfi
                  have HC1 : Hid (cntN es.pl (i + 1) = o) := Lib.hid (by rw [HCS.out, if_neg hzn]; rfl)
                  have HPN : Hid (wr.rowIs P 3 k (fun r => .int .i64 (if r < i + 1 then fl.getD r 0 else es.pl r))) := Lib.hid (HPR.out.congr (fun r _ => by
                    by_cases h : r = i
                    · subst h
                      rw [if_neg (Nat.lt_irrefl _), if_pos (by omega), List.getD_eq_getElem?_getD, hfi, HZ.out]
                      rfl
                    · by_cases h2 : r < i
                      · rw [if_pos h2, if_pos (by omega)]
                      · rw [if_neg h2, if_neg (by omega)]))
                  go_wp2
                  go_roundw
                  case rel => exact ⟨i + 1, nx, by omega, by go_num, rfl, hnx, HPN, by rw [HC1.out]; exact HLR, by rw [HC1.out]; exact HTB, HFR⟩
                  case measure => simp [intOf]; omega
              · obtain rfl : i = k := by omega
                have hd3 : decide ((i : Int) < (i : Int)) = false := by simp
                have HB10 : Hid (Below w.heap.size w wr) := Lib.hid (HB9.out.trans (HFR.out.below (fun x hx => by rcases hx with hx | hx <;> rw [hx] <;> first | exact HNE.out.2.1 | exact HNE.out.2.2.1) HB9.out.size))
                have HLS : Hid (Sl1 wr u12 (es.lost.map (Value.int .i64))) := Lib.hid (Sl1.of_owns (own_of HNE.out.2.2.2 (fun kk hkk => HFR.out.block kk (HNE.out.2.2.2.lt kk hkk).2 (by have h1 := (HNE.out.2.2.2.lt kk hkk).1; have h2 := HPS9.out.1; have h3 := HPS9.out.2.1; rintro (h | h) <;> omega))))
                have HPS : Hid (Sl1 wr (.slice (some ⟨P, 0, none⟩) i i) (fl.map (Value.int .i64))) := Lib.hid (by
                  refine .inr ⟨fun e => ?_, P, 0, i, by rw [List.length_map, HFLL.out], by rw [List.length_map, HFLL.out]; omega, by unfold maxLen; omega, HPR.out.lt, fun r hr => ?_⟩
                  · have h0 := List.map_eq_nil_iff.1 e
                    have := HFLL.out
                    rw [h0] at this
                    simp at this
                    omega
                  · rw [List.length_map, HFLL.out] at hr
                    rw [Nat.zero_add, HPR.out.cell hr, if_pos hr, List.getElem_map, List.getD_eq_getElem?_getD, List.getElem?_eq_getElem (by rw [HFLL.out]; exact hr)]
                    rfl)
                go_wp2
                go_ret2
                exact ⟨_, _, rfl, by rw [HES.out, HKP.out, HFE.out]; exact HPS.out, by rw [HES.out]; exact HLS.out, HB10.out⟩

set_option maxHeartbeats 2000000 in
set_option maxRecDepth 100000 in
theorem rdeal_no (s : Sh) (l : List Di) (h : fitD s l = false) (v : Value) (w : World) (hv : SlK diV w v l) :
    Calls Try.prog 20 #[.agg #[.int .i64 s.1, .int .i64 s.2.1, .int .i64 s.2.2], v] w fun e w' => e = .returned (.tuple #[.slice none 0 0, .slice none 0 0]) ∧ Below w.heap.size w w' := by
  have KR := Lib.hid (fun w' => rright_any s w')
  have KP := Lib.hid (fun w' => rplaces_any s w')
  obtain ⟨a, cap, rfl, h1, h2, _⟩ := hv
  unfold maxLen at h2
  have HBW : Hid (Below w.heap.size w (w.alloc (.cells #[.int .i64 s.1, .int .i64 s.2.1, .int .i64 s.2.2] 26))) := Lib.hid ((Below.refl _ _).alloc (Nat.le_refl _) _)
  have HBK : Hid (Blk (w.alloc (.cells #[.int .i64 s.1, .int .i64 s.2.1, .int .i64 s.2.2] 26)) w.heap.size #[.int .i64 s.1, .int .i64 s.2.1, .int .i64 s.2.2] 26) := Lib.hid (Blk.new w _ _)
  have hc : rightD s = false ∨ (rightD s = true ∧ ((l.length : Int) != placesD s) = true) := by
    unfold fitD at h
    rcases hr : rightD s with _ | _
    · exact .inl rfl
    · right
      rw [hr] at h
      refine ⟨rfl, ?_⟩
      simpa using h
  clear h
  rcases hc with hr | ⟨hr, q1⟩
  · rw [hr] at KR
    go_enter Try.func20, Try.ntmps20
    go_wp2_with fail
    refine (KR.out _).mono ?_
    rintro e w2 ⟨rfl, hb2⟩
    have HB2 : Hid (Below w.heap.size w w2) := Lib.hid (HBW.out.trans (hb2.mono HBW.out.size))
    clear hb2
    go_wp2
    go_ret2
    exact ⟨rfl, HB2.out⟩
  · rw [hr] at KR
    go_enter Try.func20, Try.ntmps20
    go_wp2_with fail
    refine (KR.out _).mono ?_
    rintro e w2 ⟨rfl, hb2⟩
    have HB2 : Hid (Below w.heap.size w w2) := Lib.hid (HBW.out.trans (hb2.mono HBW.out.size))
    have HK2 := Lib.hid (HBK.out.below hb2 HBK.out.lt)
    have c0 : w2.cell? ⟨w.heap.size, 0, none⟩ = some (.int .i64 s.1) := HK2.out.cell 0
    have c1 : w2.cell? ⟨w.heap.size, 1, none⟩ = some (.int .i64 s.2.1) := HK2.out.cell 1
    have c2 : w2.cell? ⟨w.heap.size, 2, none⟩ = some (.int .i64 s.2.2) := HK2.out.cell 2
    clear hb2
    go_wp2_with fail
    refine (KP.out _).mono ?_
    rintro e w3 ⟨rfl, hb3⟩
    have HB3 : Hid (Below w.heap.size w w3) := Lib.hid (HB2.out.trans (hb3.mono HB2.out.size))
    clear hb3
    go_wp2
    go_ret2
    exact ⟨rfl, HB3.out⟩
theorem rdeal_any (s : Sh) (l : List Di) (v : Value) (w : World) (hv : SlK diV w v l) :
    Calls Try.prog 20 #[.agg #[.int .i64 s.1, .int .i64 s.2.1, .int .i64 s.2.2], v] w fun e w' => ∃ v1 v2, e = .returned (.tuple #[v1, v2]) ∧ Sl1 w' v1 ((dealP s l).map (Value.int .i64)) ∧ Sl1 w' v2 ((dealLost s l).map (Value.int .i64)) ∧ Below w.heap.size w w' := by
  rcases h : fitD s l with _ | _
  · refine (rdeal_no s l h v w hv).mono ?_
    rintro e w' ⟨rfl, hb⟩
    have h1 : dealP s l = [] := by unfold dealP; rw [h]; rfl
    have h2 : dealLost s l = [] := by unfold dealLost; rw [h]; rfl
    rw [h1, h2]
    exact ⟨_, _, rfl, .inl ⟨rfl, none, 0, rfl⟩, .inl ⟨rfl, none, 0, rfl⟩, hb⟩
  · have h' := h
    unfold fitD at h'
    rw [Bool.and_eq_true, decide_eq_true_eq] at h'
    exact rdeal_fit s h'.1 l h'.2 v w hv
end Go.Proofs.Ytiimdgdimjjboaa
