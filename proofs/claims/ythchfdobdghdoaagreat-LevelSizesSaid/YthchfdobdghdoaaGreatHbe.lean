/-
  Joined texts: DealW, DealX, DealY, DealG, DealH, As9, DealRA, DealRB, DealRP, DealRC.
-/
import Derived.Test.YthchfdobdghdoaaGreatHbb
import Derived.Test.YthchfdobdghdoaaGreatHbd
import Derived.Deep.DeepCutAuto
import Derived.Maps.AppendAt
import Derived.Test.YthchfdobdghdoaaGreatHar
import Derived.Test.YthchfdobdghdoaaGreatHad
import Derived.Deep.OwnRows
set_option linter.unusedVariables false
set_option linter.unusedSimpArgs false
set_option linter.unusedSectionVars false
set_option linter.unnecessarySimpa false
section

/-
  The walk of deal.Deal.
-/
namespace Go.Sg
open Go Go.RowKit
/-- the memory of a dealing -/
structure DW (TD T : TypeId) (n D P L O base : Nat) (s : Sh) (st : St) (ord : List Int) (wo : World) (lv : Value) (w : World) : Prop where
  d : Blk w D #[.int .i64 s.1, .int .i64 s.2.1, .int .i64 s.2.2, .int .i64 st.ds.1, .int .i64 st.ds.2.1, .int .i64 st.ds.2.2] TD
  p : w.rowIs P T n (fun r => .int .i64 (st.pl r))
  f : w.rowIs L T n (fun r => .int .i64 (st.lf r))
  o : Blk w O (ord.map (Value.int .i64)).toArray T
  lost : w.ownsRow base T 1 lv st.lost.length (st.lost.map (Value.int .i64))
  fr : Below wo.heap.size wo w
  old : wo.heap.size ≤ D ∧ wo.heap.size ≤ P ∧ wo.heap.size ≤ L ∧ wo.heap.size ≤ O ∧ D < base ∧ P < base ∧ L < base ∧ O < base ∧ base ≤ w.heap.size
  ne : D ≠ P ∧ D ≠ L ∧ P ≠ L ∧ O ≠ D ∧ O ≠ P ∧ O ≠ L
section
variable {TD T : TypeId} {n D P L O base : Nat} {s : Sh} {st : St} {ord : List Int} {wo w w' : World} {lv : Value}
theorem blk_of {b : Nat} {cs : Array Value} {t : TypeId} (h : Blk w b cs t) (e : w'.heap[b]? = w.heap[b]?) : Blk w' b cs t := by unfold Blk at *; rw [e]; exact h
theorem own_of {B : Nat} {e : TypeId} {size : Nat} {v : Value} {m : Nat} {xs : List Value} (h : w.ownsRow B e size v m xs) (hb : ∀ k, v.ownBlock = some k → w'.heap[k]? = w.heap[k]?) : w'.ownsRow B e size v m xs := by
  refine ⟨h.1, ?_⟩
  rcases h.2 with h2 | ⟨g, cap, cur, rfl, hbg, hg, h3⟩
  · exact .inl h2
  · exact .inr ⟨g, cap, cur, rfl, hbg, by rw [hb g rfl]; exact hg, h3⟩
/-- the dealer turns -/
theorem DW.turn {ds : Ds} (h : DW TD T n D P L O base s st ord wo lv w) (hx : NX TD w D #[.int .i64 s.1, .int .i64 s.2.1, .int .i64 s.2.2, .int .i64 ds.1, .int .i64 ds.2.1, .int .i64 ds.2.2] w') : DW TD T n D P L O base s ⟨ds, st.pl, st.lf, st.lost⟩ ord wo lv w' := by
  have hk : ∀ k, k < w.heap.size → k ≠ D → w'.heap[k]? = w.heap[k]? := fun k h1 h2 => hx.2.block k h1 h2
  obtain ⟨o1, o2, o3, o4, o5, o6, o7, o8, o9⟩ := h.old
  obtain ⟨n1, n2, n3, n4, n5, n6⟩ := h.ne
  refine ⟨hx.1, h.p.of_block (hk P (by omega) (Ne.symm n1)), h.f.of_block (hk L (by omega) (Ne.symm n2)), blk_of h.o (hk O (by omega) n4), own_of h.lost (fun k hkk => hk k (h.lost.lt k hkk).2 (by have := (h.lost.lt k hkk).1; omega)), ?_, ⟨o1, o2, o3, o4, o5, o6, o7, o8, Nat.le_trans o9 hx.2.size⟩, h.ne⟩
  exact h.fr.trans (hx.2.below (fun k hk => by rw [hk]; exact o1) h.fr.size)
theorem DW.below (h : DW TD T n D P L O base s st ord wo lv w) (hb : Below w.heap.size w w') : DW TD T n D P L O base s st ord wo lv w' := by
  obtain ⟨o1, o2, o3, o4, o5, o6, o7, o8, o9⟩ := h.old
  have hk : ∀ k, k < w.heap.size → w'.heap[k]? = w.heap[k]? := fun k h1 => hb.block k h1
  exact ⟨h.d.below hb (by omega), h.p.of_block (hk P (by omega)), h.f.of_block (hk L (by omega)), blk_of h.o (hk O (by omega)), own_of h.lost (fun k hkk => hk k (h.lost.lt k hkk).2), h.fr.trans (hb.mono h.fr.size), ⟨o1, o2, o3, o4, o5, o6, o7, o8, Nat.le_trans o9 hb.size⟩, h.ne⟩
/-- one is placed -/
theorem DW.place {i q : Nat} {z : Int} (h : DW TD T n D P L O base s st ord wo lv w) : DW TD T n D P L O base s ⟨st.ds, upd st.pl i z, upd st.lf q (-1), st.lost⟩ ord wo lv ((w.setCell ⟨P, i, none⟩ (.int .i64 z)).setCell ⟨L, q, none⟩ (.int .i64 (-1))) := by
  obtain ⟨o1, o2, o3, o4, o5, o6, o7, o8, o9⟩ := h.old
  obtain ⟨n1, n2, n3, n4, n5, n6⟩ := h.ne
  refine ⟨(h.d.other _ _ n1).other _ _ n2, ((h.p.set i (.int .i64 z)).setOther n3 _).congr (fun r _ => by unfold upd; by_cases e : r = i <;> simp [e]), ((h.f.setOther (Ne.symm n3) _).set q (.int .i64 (-1))).congr (fun r _ => by unfold upd; by_cases e : r = q <;> simp [e]), (h.o.other _ _ n5).other _ _ n6,
    own_of h.lost (fun k hkk => ?_), below_setD (below_setD h.fr _ _ _ o2) _ _ _ o3, ⟨o1, o2, o3, o4, o5, o6, o7, o8, ?_⟩, h.ne⟩
  · have := (h.lost.lt k hkk).1
    rw [Go.Deep.blk_setCell_other _ _ _ _ (show k ≠ L by omega), Go.Deep.blk_setCell_other _ _ _ _ (show k ≠ P by omega)]
  · have hb := below_setD (below_setD (Below.refl wo.heap.size w) P i (.int .i64 z) o2) L q (.int .i64 (-1)) o3
    exact Nat.le_trans o9 hb.size
/-- one is lost -/
theorem DW.lose {i : Int} {v' : Value} {w1 : World} (h : DW TD T n D P L O base s st ord wo lv w) (hw1 : Below w.heap.size w w1) (hown : w'.ownsRow base T 1 v' (st.lost.length + 1) (st.lost.map (Value.int .i64) ++ [.int .i64 i])) (hg : w1.grownBy w' lv.ownBlock) : DW TD T n D P L O base s ⟨st.ds, st.pl, st.lf, st.lost ++ [i]⟩ ord wo v' w' := by
  have h1 := h.below hw1
  obtain ⟨o1, o2, o3, o4, o5, o6, o7, o8, o9⟩ := h1.old
  have hb : Below base w1 w' := (Below.refl base w1).grown hg o9 (fun k hk => (h.lost.lt k hk).1)
  exact ⟨blk_of h1.d (hb.block D o5), h1.p.of_block (hb.block P o6), h1.f.of_block (hb.block L o7), blk_of h1.o (hb.block O o8), by rw [List.length_append, List.length_singleton, List.map_append]; exact hown, h1.fr.trans (hb.mono (by omega)), ⟨o1, o2, o3, o4, o5, o6, o7, o8, Nat.le_trans o9 hb.size⟩, h1.ne⟩
end
/-- where items go -/
def endSt (s : Sh) (l : List Di) : St := runSt s l (realO l)
def fitD (s : Sh) (l : List Di) : Bool := rightD s && decide ((l.length : Int) = placesD s)
def dealP (s : Sh) (l : List Di) : List Int := if fitD s l then fillL ((List.range l.length).map (endSt s l).pl) (keptD (endSt s l).lf l.length) else []
def dealLost (s : Sh) (l : List Di) : List Int := if fitD s l then (endSt s l).lost else []
theorem realO_of {l : List Di} {t : Nat} (h1 : ∀ x ∈ (ordD l).take t, 0 ≤ (getD' l x).2) (h2 : ∀ x, (ordD l)[t]? = some x → (getD' l x).2 < 0) : realO l = (ordD l).take t := by
  unfold realO
  generalize ordD l = o at *
  induction o generalizing t with
  | nil => simp
  | cons a o ih =>
    cases t with
    | zero =>
      have := h2 a rfl
      rw [List.takeWhile_cons, if_neg (by simp; omega)]
      rfl
    | succ t =>
      rw [List.take_succ_cons] at h1 ⊢
      rw [List.takeWhile_cons, if_pos (by simpa using h1 a List.mem_cons_self), ih (fun x hx => h1 x (List.mem_cons_of_mem _ hx)) (fun x hx => h2 x (by simpa using hx))]
theorem foldl_lost (s : Sh) (l : List Di) : ∀ (is : List Int) (x : St), (is.foldl (stepSt s l) x).lost.length ≤ x.lost.length + is.length
  | [], x => by simp
  | i :: is, x => by
    rw [List.foldl_cons]
    have h1 := foldl_lost s l is (stepSt s l x i)
    have h2 : (stepSt s l x i).lost.length ≤ x.lost.length + 1 := by
      unfold stepSt
      split <;> simp
    rw [List.length_cons]
    omega
theorem runSt_lost (s : Sh) (l : List Di) (is : List Int) : (runSt s l is).lost.length ≤ is.length := by
  have := foldl_lost s l is (st0 s)
  simpa [st0, runSt] using this
theorem slice_eqD {p : Option Addr} {a b c d : Nat} (h1 : a = b) (h2 : c = d) : Value.slice p a c = Value.slice p b d := by rw [h1, h2]
theorem cells_litD (w : World) (us : List Value) (e : TypeId) : ∀ (j : Nat) u, us[j]? = some u → (w.alloc (.cells us.toArray e)).cell? ((⟨w.heap.size, 0, none⟩ : Addr).add j) = some u := fun j u hu => by
  rw [addr_add, Nat.zero_add]
  exact ((Blk.new w us.toArray e).cell j).trans (by simpa using hu)
def negs (ps : List Int) (i : Nat) : Nat := (ps.take i).countP (fun x => decide (x < 0))
theorem fillL_at : ∀ (ps lf : List Int) (i : Nat) (h : i < ps.length), (fillL ps lf)[i]'(by rw [fillL_len]; exact h) = if ps[i] < 0 then lf.getD (negs ps i) 0 else ps[i]
  | p :: ps, lf, 0, h => by
    by_cases hp : p < 0
    · simp [fillL, hp, negs, List.getD_eq_getElem?_getD, List.head?_eq_getElem?, List.headD_eq_head?_getD]
    · simp [fillL, hp]
  | p :: ps, lf, i + 1, h => by
    have h2 : i < ps.length := by simpa using h
    by_cases hp : p < 0
    · have ih := fillL_at ps lf.tail i h2
      have e : negs (p :: ps) (i + 1) = negs ps i + 1 := by simp [negs, hp]
      simp only [fillL, hp, if_true, List.getElem_cons_succ, ih, e]
      cases lf <;> simp [List.getD_eq_getElem?_getD]
    · have ih := fillL_at ps lf i h2
      have e : negs (p :: ps) (i + 1) = negs ps i := by simp [negs, hp]
      simp only [fillL, hp, if_false, List.getElem_cons_succ, ih, e]
theorem negs_map (f : Nat → Int) {n i : Nat} (h : i ≤ n) : negs ((List.range n).map f) i = cntN f i := by
  unfold negs cntN
  rw [← List.map_take, List.take_range, Nat.min_eq_left h, List.countP_map]
  rfl
theorem fill_get (f : Nat → Int) (lf : List Int) {n i : Nat} (h : i < n) : (fillL ((List.range n).map f) lf)[i]? = some (if f i < 0 then lf.getD (cntN f i) 0 else f i) := by
  have h1 : i < (fillL ((List.range n).map f) lf).length := by rw [fillL_len]; simpa using h
  rw [List.getElem?_eq_getElem h1, fillL_at _ _ _ (by simpa using h), negs_map f (by omega)]
  simp
theorem cntN_mono (f : Nat → Int) {i n : Nat} (h : i ≤ n) : cntN f i ≤ cntN f n := by
  induction n with
  | zero => have : i = 0 := by omega
            rw [this]; exact Nat.le_refl _
  | succ n ih =>
    rcases Nat.lt_or_ge n i with h1 | h1
    · have : i = n + 1 := by omega
      rw [this]; exact Nat.le_refl _
    · rw [cntN_succ]
      have := ih h1
      omega
theorem take_notmem {l : List Di} {t : Nat} (h : t < (ordD l).length) : (ordD l)[t] ∉ (ordD l).take t := by
  intro hm
  have hn : (ordD l).Nodup := (ordD_perm l).nodup_iff.2 (idx_nodup _)
  rw [← List.take_append_drop t (ordD l), List.nodup_append] at hn
  refine hn.2.2 _ hm _ ?_ rfl
  rw [List.drop_eq_getElem_cons h]
  exact List.mem_cons_self
end Go.Sg
end
section

/-
  The walk of deal.Deal.
-/
namespace Go.Proofs.YthchfdobdghdoaaGreat
open Go Go.RowKit Go.Sg
set_option maxHeartbeats 4000000 in
set_option maxRecDepth 100000 in
theorem deal_fitN (s : Sh) (hs : rightD s = true) (l : List Di) (hl : (l.length : Int) = placesD s) (v : Value) (w : World) (hv : SlK diV w v l) :
    Calls Tryz.prog 94 #[.agg #[.int .i64 s.1, .int .i64 s.2.1, .int .i64 s.2.2], v] w fun e w' => ∃ v1 v2, e = .returned (.tuple #[v1, v2]) ∧ Sl1 w' v1 ((dealP s l).map (Value.int .i64)) ∧ Sl1 w' v2 ((dealLost s l).map (Value.int .i64)) ∧ Below w.heap.size w w' ∧ (∀ k, v1.ownBlock = some k → w.heap.size ≤ k) ∧ ∀ k, v2.ownBlock = some k → w.heap.size ≤ k := by
  have hfit : fitD s l = true := by unfold fitD; rw [hs, decide_eq_true hl]; rfl
  have hpd : placesD s = levelsD s + s.2.2 + 1 := by unfold placesD; rw [if_pos hs]
  have hpb := placesD_bd s
  have hlb := levelsD_bd hs
  have hs' := rightD_iff.1 hs
  have KR := Lib.hid (fun w' => right_any s w')
  have KP := Lib.hid (fun w' => places_any s w')
  rw [hs] at KR
  rw [← hl] at KP
  have HRES : Hid (dealP s l = fillL ((List.range l.length).map (endSt s l).pl) (keptD (endSt s l).lf l.length) ∧ dealLost s l = (endSt s l).lost) := Lib.hid (by unfold dealP dealLost; rw [hfit]; exact ⟨rfl, rfl⟩)
  rw [HRES.out.1, HRES.out.2]
  clear HRES hfit
  have HV := Lib.hid hv
  obtain ⟨a, cap, rfl, h1, h2, h3⟩ := hv
  have H3 := Lib.hid h3
  unfold maxLen at h2
  clear h3
  obtain ⟨n, hn⟩ : ∃ n, l.length = n := ⟨_, rfl⟩
  have HN := Lib.hid hn
  rw [hn] at hl h1 KP ⊢
  clear hn
  have hn1 : 3 ≤ n ∧ n ≤ 153 := by omega
  have HNL : Hid ((n : Int) = levelsD s + s.2.2 + 1) := Lib.hid (by omega)
  have HSR := Lib.hid hs
  have HBW : Hid (Below w.heap.size w (w.alloc (.cells #[.int .i64 s.1, .int .i64 s.2.1, .int .i64 s.2.2] 83))) := Lib.hid ((Below.refl _ _).alloc (Nat.le_refl _) _)
  have HBK : Hid (Blk (w.alloc (.cells #[.int .i64 s.1, .int .i64 s.2.1, .int .i64 s.2.2] 83)) w.heap.size #[.int .i64 s.1, .int .i64 s.2.1, .int .i64 s.2.2] 83) := Lib.hid (Blk.new w _ _)
  obtain ⟨i0, hi0, hz0, hz1, hz2⟩ := info_parts info_intD
  have HI := Lib.hid hi0
  have HZ := Lib.hid hz0
  have HS := Lib.hid hz1
  have HY := Lib.hid hz2
  clear hi0 hz0 hz1 hz2 hpd hpb hlb hl hs hs'
  go_enter Tryz.func94, Tryz.ntmps94
  go_wp2_with fail
  refine (KR.out _).mono ?_
  rintro e w2 ⟨rfl, hb2⟩
  have HB2 : Hid (Below w.heap.size w w2) := Lib.hid (HBW.out.trans (hb2.mono HBW.out.size))
  have HK2 := Lib.hid (HBK.out.below hb2 HBK.out.lt)
  have c0 : w2.cell? ⟨w.heap.size, 0, none⟩ = some (.int .i64 s.1) := HK2.out.cell 0
  have c1 : w2.cell? ⟨w.heap.size, 1, none⟩ = some (.int .i64 s.2.1) := HK2.out.cell 1
  have c2 : w2.cell? ⟨w.heap.size, 2, none⟩ = some (.int .i64 s.2.2) := HK2.out.cell 2
  have q1 : ((n : Int) != (n : Int)) = false := by simp
  clear hb2 HBW HBK KR
  go_wp2_with fail
  refine (KP.out _).mono ?_
  rintro e w3 ⟨rfl, hb3⟩
  have HB3 : Hid (Below w.heap.size w w3) := Lib.hid (HB2.out.trans (hb3.mono HB2.out.size))
  have HK3 := Lib.hid (HK2.out.below hb3 HK2.out.lt)
  have c0' : w3.cell? ⟨w.heap.size, 0, none⟩ = some (.int .i64 s.1) := HK3.out.cell 0
  have c1' : w3.cell? ⟨w.heap.size, 1, none⟩ = some (.int .i64 s.2.1) := HK3.out.cell 1
  have c2' : w3.cell? ⟨w.heap.size, 2, none⟩ = some (.int .i64 s.2.2) := HK3.out.cell 2
  clear hb3 c0 c1 c2 HB2 HK2 KP
  go_wp2_with fail
  obtain ⟨w4, hw4⟩ : ∃ w4, (w3.alloc (.cells #[.int .i64 s.1, .int .i64 s.2.1, .int .i64 s.2.2, .int .i64 s.1, .int .i64 0, .int .i64 0] 167)).alloc (.cells #[.int .i64 (-1)] 3) = w4 := ⟨_, rfl⟩
  have hd4 : Blk w4 w3.heap.size #[.int .i64 s.1, .int .i64 s.2.1, .int .i64 s.2.2, .int .i64 s.1, .int .i64 0, .int .i64 0] 167 := by rw [← hw4]; exact (Blk.new w3 _ _).alloc _
  have hm4 : Blk w4 (w3.heap.size + 1) #[.int .i64 (-1)] 3 := by
    rw [← hw4]
    have := Blk.new (w3.alloc (.cells #[.int .i64 s.1, .int .i64 s.2.1, .int .i64 s.2.2, .int .i64 s.1, .int .i64 0, .int .i64 0] 167)) #[.int .i64 (-1)] 3
    simpa using this
  have hb4 : Below w3.heap.size w3 w4 := by rw [← hw4]; exact ((Below.refl _ _).alloc (Nat.le_refl _) _).alloc (by simp) _
  have hz4 : w4.heap.size = w3.heap.size + 2 := by rw [← hw4]; simp
  have KRP := Lib.hid (repeat_any (-1) (w3.heap.size + 1) n (by omega) (by omega) w4 (hm4.cell 0) (by omega))
  obtain ⟨D, hD⟩ : ∃ D, w3.heap.size = D := ⟨_, rfl⟩
  have HD3 : Hid (w.heap.size ≤ D) := Lib.hid (by rw [← hD]; exact HB3.out.size)
  have HB4 : Hid (Below w.heap.size w w4) := Lib.hid (HB3.out.trans (hb4.mono HB3.out.size))
  rw [hD] at hd4 hz4 KRP
  rw [hw4, hD]
  have HD4 := Lib.hid hd4
  have HZ4 := Lib.hid hz4
  clear hd4 hm4 hb4 hz4 hw4 hD c0' c1' c2' HB3 HK3
  refine KRP.out.mono ?_
  rintro e w5 ⟨P, rfl, hP, hrp, hb5⟩
  have HRP := Lib.hid hrp
  have HP := Lib.hid hP
  have HB5 := Lib.hid hb5
  clear hrp hP hb5 KRP
  go_wp2_with (first
    | (at_make; go_loud (refine wpList_make_row _ rfl (.tmp 36) (.tmp 36) 36 rfl 3 i0 (.int .i64 0) Tryz.underlying36 HI.out HZ.out HS.out rfl .i64 .i64 n rfl rfl (by rw [HY.out]; omega) (by omega) ?_))
    | fail)
  obtain ⟨L, hL⟩ : ∃ L, w5.heap.size = L := ⟨_, rfl⟩
  have hrow := World.rowIs_made w5 (.int .i64 0) n 3
  have hb6 : Below w5.heap.size w5 (w5.alloc (.cells (madeCells #[.int .i64 0] n) 3)) := (Below.refl _ _).alloc (Nat.le_refl _) _
  rw [hL] at hrow ⊢
  have HL := Lib.hid hL
  have HR := Lib.hid hrow
  have HB6 := Lib.hid hb6
  clear hrow hb6 hL
  generalize w5.alloc (.cells (madeCells #[.int .i64 0] n) 3) = w6 at *
  go_wp2_with fail
  go_loopw [9, 40] (fun _ i wr => ∃ k : Nat, k ≤ n ∧ i = .int .i64 k ∧ Hid (wr.rowIs L 3 n (fun j => .int .i64 (if j < k then (j : Int) else 0))) ∧ Hid (Below w5.heap.size w5 wr)) (fun _ i _ => n - (intOf i).toNat)
  case atStart => exact ⟨0, by omega, rfl, Lib.hid (HR.out.congr (fun i _ => by simp)), HB6⟩
  case round =>
    obtain ⟨k, hk, rfl, HRK, HBK⟩ := hrel
    by_cases hlt : k < n
    · have hd : decide ((k : Int) < (n : Int)) = true := decide_eq_true (by omega)
      have hd' : decide (k < n) = true := decide_eq_true hlt
      have k0 : (0 : Int) ≤ (k : Int) := by omega
      have k1 : (k : Int) < (n : Int) := by omega
      have c0 := HRK.out.cell hlt
      have f0 := HRK.out.frozen k
      rw [if_neg (Nat.lt_irrefl k)] at c0
      have HR4 : Hid ((wr.setCell ⟨L, k, none⟩ (.int .i64 (k : Int))).rowIs L 3 n (fun j => .int .i64 (if j < k + 1 then (j : Int) else 0))) := Lib.hid ((HRK.out.set k (.int .i64 (k : Int))).congr (fun j _ => by
        by_cases hj : j = k
        · subst hj; simp
        · by_cases hj2 : j < k
          · simp [hj, hj2, show j < k + 1 by omega]
          · simp [hj, hj2, show ¬ j < k + 1 by omega]))
      have HB7 : Hid (Below w5.heap.size w5 (wr.setCell ⟨L, k, none⟩ (.int .i64 (k : Int)))) := Lib.hid (below_setD HBK.out _ _ _ (Nat.le_of_eq HL.out))
      go_wp2
      go_roundw
      case rel => exact ⟨k + 1, by omega, by go_num, HR4, HB7⟩
      case measure => simp [intOf]; omega
    · obtain rfl : k = n := by omega
      have hd : decide ((k : Int) < (k : Int)) = false := by simp
      obtain ⟨w7, rfl⟩ : ∃ w7 : World, w7 = wr := ⟨_, rfl⟩
      have HB57 : Hid (Below w4.heap.size w4 w7) := Lib.hid (HB5.out.trans (HBK.out.mono HB5.out.size))
      have HB7 : Hid (Below w.heap.size w w7) := Lib.hid (HB4.out.trans (HB57.out.mono HB4.out.size))
      have KO := Lib.hid (order_any l (by rw [HN.out]; omega) _ w7 (HV.out.below HB7.out))
      rw [HN.out] at KO
      go_wp2_with fail
      refine KO.out.mono ?_
      rintro e w8 ⟨O, rfl, hO, hbo, hb8⟩
      have hDW : DW 167 3 k D P L O w8.heap.size s (st0 s) (ordD l) w (.slice none 0 0) w8 := by
        have hz4 := HZ4.out
        have hP := HP.out
        have hLl := HL.out
        have h5 := HRP.out.lt
        have h57 := HBK.out.size
        have h78 := hb8.size
        have hDw := HD3.out
        have h45 := HB5.out.size
        have hOlt := hbo.lt
        have hL7 := HRK.out.lt
        refine ⟨(HD4.out.below HB57.out (by omega)).below hb8 (by omega), (HRP.out.of_block (HBK.out.block P (by omega))).of_block (hb8.block P (by omega)), (HRK.out.congr (fun r hr => by rw [if_pos hr]; rfl)).of_block (hb8.block L (by omega)), hbo, World.ownsRow_nil _ _ _ _, HB7.out.trans (hb8.mono HB7.out.size), ⟨by omega, by omega, by omega, by omega, by omega, by omega, by omega, by omega, Nat.le_refl _⟩, ⟨by omega, by omega, by omega, by omega, by omega, by omega⟩⟩
      have HDW := Lib.hid hDW
      clear hO hbo hb8 hDW KO HRK HBK HB57 HB7 HD4 HRP HR HB6 HB5 HL HP HZ4
      go_wp2_with fail
      obtain ⟨base, hbase⟩ : ∃ base, w8.heap.size = base := ⟨_, rfl⟩
      rw [hbase] at HDW
      clear hbase
      have HNR := Lib.hid (fun (st : St) (hok : DsOk s st.ds) (deep : Int) (h0 : 0 ≤ deep) (w' : World) hb => next_any s HSR.out st.ds hok deep h0 D w' hb)
      go_loopw [10, 12, 13, 51] (fun lv _ _ iv wr => ∃ t : Nat, t ≤ k ∧ iv = .int .i64 t ∧ Hid (DW 167 3 k D P L O base s (runSt s l ((ordD l).take t)) (ordD l) w lv wr) ∧ Hid (DInv s k ((ordD l).take t) (runSt s l ((ordD l).take t))) ∧ Hid (∀ x ∈ (ordD l).take t, 0 ≤ (getD' l x).2)) (fun _ _ _ iv _ => k - (intOf iv).toNat)
      case atStart => exact ⟨0, by omega, rfl, HDW, Lib.hid (DInv.start s HSR.out k), Lib.hid (by simp)⟩
      case round =>
        obtain ⟨t, ht, rfl, HDW, HDI, HRE⟩ := hrel
        have HOL : Hid ((ordD l).length = k) := Lib.hid (by rw [ordD_len, HN.out])
        have t0 : (0 : Int) ≤ (t : Int) := by omega
        by_cases hgo : t < k ∧ ∀ x, (ordD l)[t]? = some x → 0 ≤ (getD' l x).2
        · obtain ⟨hlt, hreal⟩ := hgo
          have hd : decide ((t : Int) < (k : Int)) = true := decide_eq_true (by omega)
          have hd' : decide (t < k) = true := decide_eq_true hlt
          have t1 : (t : Int) < (k : Int) := by omega
          have hto : t < (ordD l).length := by rw [HOL.out]; exact hlt
          have hmem := (ordD_perm l).mem_iff.1 (List.getElem_mem hto)
          rw [idx_mem, HN.out] at hmem
          have hnot := take_notmem hto
          have hre2 := hreal _ (List.getElem?_eq_getElem hto)
          have htk : (ordD l).take (t + 1) = (ordD l).take t ++ [(ordD l)[t]] := List.take_succ_eq_append_getElem hto
          have hco : wr.cell? ⟨O, t, none⟩ = some (.int .i64 (ordD l)[t]) := by
            rw [HDW.out.o.cell, List.getElem?_toArray, List.getElem?_map, List.getElem?_eq_getElem hto]
            rfl
          have hst := HDI.out.step HSR.out HNL.out hmem.1 hmem.2 hnot hre2
          obtain ⟨j, hj⟩ : ∃ j : Nat, (ordD l)[t] = j := ⟨(ordD l)[t].toNat, by omega⟩
          rw [hj] at hmem hre2 htk hco hst
          have hjk : j < k := by omega
          have hjl : j < l.length := by rw [HN.out]; exact hjk
          obtain ⟨lb, lo, rfl, hblt, hrl⟩ := H3.out (fun e => by rw [e] at hjl; simp at hjl)
          have hgd : getD' l (j : Int) = l[j] := by unfold getD'; simp [List.getD_eq_getElem?_getD, List.getElem?_eq_getElem hjl]
          have HCL : Hid (∀ w', Below w.heap.size w w' → w'.cell? ⟨lb, lo + j * 2 + 1, none⟩ = some (.int .i64 (getD' l (j : Int)).2)) := Lib.hid fun w' h => by
            rw [hgd]
            exact (h.cell (p := ⟨lb, lo + j * 2 + 1, none⟩) hblt).trans (range_flat diV_k hrl hjl 1 _ rfl)
          have ccl := HCL.out wr HDW.out.fr
          have KN := Lib.hid (HNR.out (runSt s l ((ordD l).take t)) HDI.out.ok (getD' l (j : Int)).2 hre2 wr HDW.out.d)
          have HTK : Hid (runSt s l ((ordD l).take (t + 1)) = stepSt s l (runSt s l ((ordD l).take t)) (j : Int)) := Lib.hid (by rw [htk, runSt_snoc])
          have HTI : Hid (DInv s k ((ordD l).take (t + 1)) (stepSt s l (runSt s l ((ordD l).take t)) (j : Int))) := Lib.hid (by rw [htk]; exact hst.1)
          have HTR : Hid (∀ x ∈ (ordD l).take (t + 1), 0 ≤ (getD' l x).2) := Lib.hid fun x hx => by
            rw [htk] at hx
            rcases List.mem_append.1 hx with h1 | h1
            · exact HRE.out x h1
            · rw [List.mem_singleton] at h1; rw [h1]; exact hre2
          have HQ := Lib.hid hst.2
          have hll : (runSt s l ((ordD l).take t)).lost.length ≤ t := by
            have := runSt_lost s l ((ordD l).take t)
            rw [List.length_take] at this
            omega
          obtain ⟨st, hstd⟩ : ∃ st, runSt s l ((ordD l).take t) = st := ⟨_, rfl⟩
          rw [hstd] at HDW HTK HTI HQ KN hll
          have hse : stepSt s l st (j : Int) = if (nextD s st.ds (getD' l (j : Int)).2).1 < 0 then ⟨(nextD s st.ds (getD' l (j : Int)).2).2, st.pl, st.lf, st.lost ++ [(j : Int)]⟩ else ⟨(nextD s st.ds (getD' l (j : Int)).2).2, upd st.pl ((j : Int)).toNat (nextD s st.ds (getD' l (j : Int)).2).1, upd st.lf (nextD s st.ds (getD' l (j : Int)).2).1.toNat (-1), st.lost⟩ := rfl
          rw [hse] at HTK HTI
          have hre3 : decide ((getD' l (j : Int)).2 < 0) = false := decide_eq_false (by omega)
          generalize (getD' l (j : Int)).2 = deep at *
          generalize nextD s st.ds deep = r at *
          obtain ⟨r1, ds2⟩ := r
          simp only [Int.toNat_natCast] at KN HTK HTI HQ
          have j0 : (0 : Int) ≤ (j : Int) := by omega
          have j1 : (j : Int) < (k : Int) := by omega
          clear hmem hnot hst hse hgd hstd htk hreal HRE HDI hjl hj hto hre2
          go_wp2_with fail
          refine KN.out.mono ?_
          rintro e w9 ⟨rfl, hnx⟩
          have HT := Lib.hid (HDW.out.turn hnx)
          clear hnx KN HCL ccl
          by_cases hneg : r1 < 0
          · have dn : decide (r1 < 0) = true := decide_eq_true hneg
            rw [if_pos hneg] at HTK HTI
            go_wp2_with (first
              | (at_builtin; go_loud (refine wpList_append_own_at _ rfl (.tmp 70) (.tmp 72) 36 rfl base 3 i0 (.int .i64 0) 1 8 Tryz.underlying36 HI.out HZ.out HS.out HY.out rfl (by decide) _ st.lost.length (st.lost.map (Value.int .i64)) rfl (HT.out.lost.alloc _) ⟨w9.heap.size, 0, none⟩ 1 1 [.int .i64 (j : Int)] rfl rfl (cells_litD _ [.int .i64 (j : Int)] _) (by simp [Value.oneCell']) (by unfold maxLen; omega) (by omega) (by have := HT.out.old.2.2.2.2.2.2.2.2; simp; omega) ?_))
              | fail)
            intro v' w10 hown hgrow _ _
            have HLO := Lib.hid (HT.out.lose (i := (j : Int)) ((Below.refl _ _).alloc (Nat.le_refl _) _) hown hgrow)
            clear hown hgrow HDW HT HQ
            go_wp2
            go_roundw
            case rel => exact ⟨t + 1, by omega, by go_num, by rw [HTK.out]; exact HLO, by rw [HTK.out]; exact HTI, HTR⟩
            case measure => simp [intOf]; omega
          · have dn : decide (r1 < 0) = false := decide_eq_false hneg
            rw [if_neg hneg] at HTK HTI
            have hq := HQ.out (by omega)
            obtain ⟨q, rfl⟩ : ∃ q : Nat, r1 = q := ⟨r1.toNat, by omega⟩
            rw [Int.toNat_natCast] at hq HTK HTI
            have q0 : (0 : Int) ≤ (q : Int) := by omega
            have q1 : (q : Int) < (k : Int) := by omega
            have cp := HT.out.p.cell (show j < k by omega)
            have fp := HT.out.p.frozen j
            have cf := HT.out.f.cell hq
            have ff := HT.out.f.frozen q
            have hne := HT.out.ne.2.2.1
            simp only at cp cf
            have HPL := Lib.hid (HT.out.place (i := j) (q := q) (z := (q : Int)))
            clear HDW HQ
            go_wp2
            go_roundw
            case rel => exact ⟨t + 1, by omega, by go_num, by rw [HTK.out]; exact HPL, by rw [HTK.out]; exact HTI, HTR⟩
            case measure => simp [intOf]; omega
        · have hex : t = k ∨ (t < k ∧ ∃ x, (ordD l)[t]? = some x ∧ (getD' l x).2 < 0) := by
            rcases Nat.lt_or_ge t k with h | h
            · right
              refine ⟨h, ?_⟩
              have hto : t < (ordD l).length := by rw [HOL.out]; exact h
              refine ⟨_, List.getElem?_eq_getElem hto, ?_⟩
              rcases Int.lt_or_le (getD' l (ordD l)[t]).2 0 with h2 | h2
              · exact h2
              · exact absurd ⟨h, fun x hx => by rw [List.getElem?_eq_getElem hto] at hx; simp only [Option.some.injEq] at hx; rw [← hx]; exact h2⟩ hgo
            · left; omega
          have hro : realO l = (ordD l).take t := realO_of HRE.out (fun x hx => by
            rcases hex with h | ⟨_, y, h1, h2⟩
            · rw [List.getElem?_eq_none (by rw [HOL.out]; omega)] at hx; cases hx
            · rw [h1] at hx; simp only [Option.some.injEq] at hx; rw [← hx]; exact h2)
          have hes : endSt s l = runSt s l ((ordD l).take t) := by unfold endSt; rw [hro]
          have HCN : Hid (cntN (endSt s l).lf k + cntN (endSt s l).pl k = k) := Lib.hid (by rw [hes]; exact HDI.out.cnt)
          have HPV : Hid (∀ i : Nat, (endSt s l).pl i = -1 ∨ 0 ≤ (endSt s l).pl i) := Lib.hid (fun i => by rw [hes]; exact (HDI.out.plv i).imp id (fun h => h.1))
          rw [← hes] at HDW
          have HED := Lib.hid HDW.out
          obtain ⟨es, hese⟩ : ∃ es, endSt s l = es := ⟨_, rfl⟩
          rw [hese] at HED HCN HPV HDW
          have HES := Lib.hid hese
          clear hro hes hgo HDI HRE hese
          have KD := Lib.hid (delete_any es.lf k k L (by omega) (Nat.le_refl _) (by unfold maxLen; omega) wr HDW.out.f)
          have hex2 : t = k ∨ (t < k ∧ ∃ (j : Nat) (x : Int) (lb lo : Nat), j < k ∧ a = some ⟨lb, lo, none⟩ ∧ wr.cell? ⟨O, t, none⟩ = some (.int .i64 (j : Int)) ∧ wr.cell? ⟨lb, lo + j * 2 + 1, none⟩ = some (.int .i64 x) ∧ x < 0) := by
            rcases hex with h | ⟨h, x, hx1, hx2⟩
            · exact .inl h
            · right
              refine ⟨h, ?_⟩
              obtain ⟨hto, hx3⟩ := List.getElem?_eq_some_iff.1 hx1
              have hmem := (ordD_perm l).mem_iff.1 (List.getElem_mem hto)
              rw [hx3, idx_mem, HN.out] at hmem
              have hjl : x.toNat < l.length := by rw [HN.out]; omega
              obtain ⟨lb, lo, rfl, hblt, hrl⟩ := H3.out (fun e => by rw [e] at hjl; simp at hjl)
              refine ⟨x.toNat, (getD' l x).2, lb, lo, by omega, rfl, ?_, ?_, hx2⟩
              · rw [HDW.out.o.cell, List.getElem?_toArray, List.getElem?_map, hx1]
                simp only [Option.map_some]
                congr 2
                omega
              · have := (HDW.out.fr.cell (p := ⟨lb, lo + x.toNat * 2 + 1, none⟩) hblt).trans (range_flat diV_k hrl hjl 1 _ rfl)
                rw [this]
                congr 2
                unfold getD'
                simp [List.getD_eq_getElem?_getD, List.getElem?_eq_getElem hjl]
          clear hex
          rcases hex2 with htk | ⟨hlt, j, x, lb, lo, hjk, rfl, hco, hcx, hx0⟩
          focus
            have hd2 : decide ((t : Int) < (k : Int)) = false := decide_eq_false (by omega)
            have hd2' : decide (t < k) = false := decide_eq_false (by omega)
            go_wp2_with fail
          rotate_left
          focus
            have hd2 : decide ((t : Int) < (k : Int)) = true := decide_eq_true (by omega)
            have hd2' : decide (t < k) = true := decide_eq_true hlt
            have t1 : (t : Int) < (k : Int) := by omega
            have j0 : (0 : Int) ≤ (j : Int) := by omega
            have j1 : (j : Int) < (k : Int) := by omega
            have dx : decide (x < 0) = true := decide_eq_true hx0
            go_wp2_with fail
          all_goals
            refine KD.out.mono ?_
            rintro e w9 ⟨rfl, ⟨g, hg1, hg2⟩, hfr⟩
            have hmc : (keptD es.lf k).length = cntN es.pl k := by have := kept_cnt es.lf k; have := HCN.out; omega
            obtain ⟨kp, hkp⟩ : ∃ kp, keptD es.lf k = kp := ⟨_, rfl⟩
            have hg2' : ∀ r (hr : r < kp.length), g r = .int .i64 (kp.getD r 0) := by
              subst hkp
              intro r hr
              rw [hg2 r hr, List.getD_eq_getElem?_getD, List.getElem?_eq_getElem hr]
              rfl
            have HKP := Lib.hid hkp
            rw [hkp] at hmc
            rw [hkp]
            obtain ⟨m, hm⟩ : ∃ m, kp.length = m := ⟨_, rfl⟩
            rw [hm] at hmc hg2'
            rw [hm]
            have HG2 := Lib.hid hg2'
            have HMC := Lib.hid hmc
            have HP9 : Hid (w9.rowIs P 3 k (fun r => .int .i64 (es.pl r))) := Lib.hid (HED.out.p.of_block (hfr.block P (HED.out.p.lt) HED.out.ne.2.2.1))
            have HLW : Hid (w9.ownsRow base 3 1 u10 es.lost.length (es.lost.map (Value.int .i64))) := Lib.hid (own_of HED.out.lost (fun kk hkk => hfr.block kk (HED.out.lost.lt kk hkk).2 (by have h1 := (HED.out.lost.lt kk hkk).1; have h2 := HED.out.old.2.2.2.2.2.2.1; omega)))
            have HB9 : Hid (Below w.heap.size w w9) := Lib.hid (HED.out.fr.trans (hfr.below (fun kk hkk => by rw [hkk]; exact HED.out.old.2.2.1) HED.out.fr.size))
            have HG1 := Lib.hid hg1
            have HNE := Lib.hid (And.intro HED.out.ne.2.2.1 (And.intro HED.out.old.2.1 (And.intro HED.out.old.2.2.2.2.2.1 hg1.lt)))
            have HFL := Lib.hid (fun i (hi : i < k) => fill_get es.pl kp hi)
            have hmk : m ≤ k := by rw [hmc]; exact cntN_le _ _
            obtain ⟨fl, hfl⟩ : ∃ fl, fillL ((List.range k).map es.pl) kp = fl := ⟨_, rfl⟩
            have HFLL : Hid (fl.length = k) := Lib.hid (by rw [← hfl, fillL_len]; simp)
            simp only [hfl] at HFL
            have HFE := Lib.hid hfl
            clear hmc hkp hg1 hg2 hg2' hfr hm HDW HED hfl KD HCN
            go_wp2_with fail
            go_loopw [8, 14, 15, 86] (fun sv _ _ iv wr => ∃ i o : Nat, i ≤ k ∧ iv = .int .i64 i ∧ sv = .slice (some ⟨L, o, none⟩) (m - cntN es.pl i) (k - cntN es.pl i) ∧ (cntN es.pl i < m → o = cntN es.pl i) ∧ Hid (wr.rowIs P 3 k (fun r => .int .i64 (if r < i then fl.getD r 0 else es.pl r))) ∧ Hid (MFrame (fun x => x = P) w9 wr)) (fun _ _ _ iv _ => k - (intOf iv).toNat)
            case atStart => exact ⟨0, 0, by omega, rfl, rfl, fun _ => rfl, Lib.hid (HP9.out.congr (fun r _ => by simp)), Lib.hid (MFrame.refl _ _)⟩
            case round =>
              obtain ⟨i, o, hi, rfl, rfl, ho, HPR, HFR⟩ := hrel
              have HCS := Lib.hid (cntN_succ es.pl i)
              by_cases hik : i < k
              · have hd3 : decide ((i : Int) < (k : Int)) = true := decide_eq_true (by omega)
                have hd3' : decide (i < k) = true := decide_eq_true hik
                have i0' : (0 : Int) ≤ (i : Int) := by omega
                have i1' : (i : Int) < (k : Int) := by omega
                have cpi := HPR.out.cell hik
                rw [if_neg (Nat.lt_irrefl i)] at cpi
                have hfi := HFL.out i hik
                have hmono := cntN_mono es.pl (show i + 1 ≤ k by omega)
                rw [← HMC.out] at hmono
                have HPVI := Lib.hid (HPV.out i)
                obtain ⟨u, hu⟩ : ∃ u, cntN es.pl i = u := ⟨_, rfl⟩
                rw [hu] at ho HCS hfi ⊢
                obtain ⟨z, hz⟩ : ∃ z, es.pl i = z := ⟨_, rfl⟩
                rw [hz] at cpi HCS hfi HPVI
                have HZ := Lib.hid hz
                have HU := Lib.hid hu
                clear hu hz
                by_cases hzn : z < 0
                · have dz : decide (z < 0) = true := decide_eq_true hzn
                  rw [if_pos hzn] at hfi
                  have hcs := HCS.out
                  rw [if_pos hzn] at hcs
                  have HC1 := Lib.hid hcs
                  rw [hcs] at hmono
                  obtain rfl := ho (by omega)
                  have hum : o < m := by omega
                  obtain ⟨x, hx⟩ : ∃ x, kp.getD o 0 = x := ⟨_, rfl⟩
                  rw [hx] at hfi
                  have hL := (HG1.out.of_block (HFR.out.block L HNE.out.2.2.2 (Ne.symm HNE.out.1)))
                  have cL : wr.cell? ⟨L, o, none⟩ = some (.int .i64 x) := by rw [hL.cell (by omega), HG2.out o hum, hx]
                  have fpi := HPR.out.frozen i
                  have HPN : Hid ((wr.drew.setCell ⟨P, i, none⟩ (.int .i64 x)).rowIs P 3 k (fun r => .int .i64 (if r < i + 1 then fl.getD r 0 else es.pl r))) := Lib.hid ((HPR.out.drew.set i (.int .i64 x)).congr (fun r _ => by
                    by_cases h : r = i
                    · subst h
                      rw [if_pos rfl, if_pos (by omega), List.getD_eq_getElem?_getD, hfi]
                      rfl
                    · rw [if_neg h]
                      by_cases h2 : r < i
                      · rw [if_pos h2, if_pos (by omega)]
                      · rw [if_neg h2, if_neg (by omega)]))
                  have HFN : Hid (MFrame (fun x => x = P) w9 (wr.drew.setCell ⟨P, i, none⟩ (.int .i64 x))) := Lib.hid ((HFR.out.trans (MFrame.of_below (Below.refl _ _).drew)).setCells [.int .i64 x] i (.inl rfl))
                  obtain ⟨M, hM⟩ : ∃ M, m - o = M := ⟨_, rfl⟩
                  obtain ⟨C, hC⟩ : ∃ C, k - o = C := ⟨_, rfl⟩
                  have hM1 : 1 ≤ M ∧ M ≤ C := by omega
                  have HMO := Lib.hid (And.intro hM hC)
                  rw [hM, hC]
                  have M0 : (0 : Int) < (M : Int) := by omega
                  have M1 : (1 : Int) ≤ (M : Int) := by omega
                  have M2 : (M : Int) ≤ (C : Int) := by omega
                  have M3 : (1 : Int) ≤ (C : Int) := by omega
                  clear hM hC hL hcs hmono hx hfi
                  by_cases hC1 : C = 1
                  focus
                    subst hC1
                    have hMe : M = 1 := by omega
                    subst hMe
                    go_upto_region 26 with fail
                    go_region
                  rotate_left
                  focus
                    have hC1' : 1 ≠ C := fun e => hC1 e.symm
                    go_upto_region 26 with fail
                    go_region
                  all_goals
                    go_wp2
                    go_roundw
                    case rel => exact ⟨i + 1, _, by omega, by go_num, slice_eqD (by have h1 := HMO.out.1; rw [HC1.out]; omega) (by have h2 := HMO.out.2; rw [HC1.out]; omega), fun h => by have e := HC1.out; have h1 := HMO.out.1; omega, HPN, HFN⟩
                    case measure => simp [intOf]; omega
                · have dz : decide (z < 0) = false := decide_eq_false hzn
                  rw [if_neg hzn] at hfi
                  have HC1 : Hid (cntN es.pl (i + 1) = u) := Lib.hid (by rw [HCS.out, if_neg hzn]; rfl)
                  have HPN : Hid (wr.rowIs P 3 k (fun r => .int .i64 (if r < i + 1 then fl.getD r 0 else es.pl r))) := Lib.hid (HPR.out.congr (fun r _ => by
                    by_cases h : r = i
                    · subst h
                      rw [if_neg (Nat.lt_irrefl _), if_pos (by omega), List.getD_eq_getElem?_getD, hfi, HZ.out]
                      rfl
                    · by_cases h2 : r < i
                      · rw [if_pos h2, if_pos (by omega)]
                      · rw [if_neg h2, if_neg (by omega)]))
                  go_wp2
                  go_roundw
                  case rel => exact ⟨i + 1, o, by omega, by go_num, by rw [HC1.out], by rw [HC1.out]; exact ho, HPN, HFR⟩
                  case measure => simp [intOf]; omega
              · obtain rfl : i = k := by omega
                have hd3 : decide ((i : Int) < (i : Int)) = false := by simp
                have HB10 : Hid (Below w.heap.size w wr) := Lib.hid (HB9.out.trans (HFR.out.below (fun x hx => by rw [hx]; exact HNE.out.2.1) HB9.out.size))
                have HLS : Hid (Sl1 wr u10 (es.lost.map (Value.int .i64))) := Lib.hid (Sl1.of_owns (own_of HLW.out (fun kk hkk => HFR.out.block kk (HLW.out.lt kk hkk).2 (by have h1 := (HLW.out.lt kk hkk).1; have h2 := HNE.out.2.2.1; omega))))
                have HPS : Hid (Sl1 wr (.slice (some ⟨P, 0, none⟩) i i) (fl.map (Value.int .i64))) := Lib.hid (by
                  refine .inr ⟨fun e => ?_, P, 0, i, by rw [List.length_map, HFLL.out], by rw [List.length_map, HFLL.out]; omega, by unfold maxLen; omega, HPR.out.lt, fun r hr => ?_⟩
                  · have h0 := List.map_eq_nil_iff.1 e
                    have := HFLL.out
                    rw [h0] at this
                    simp at this
                    omega
                  · rw [List.length_map, HFLL.out] at hr
                    rw [Nat.zero_add, HPR.out.cell hr, if_pos hr, List.getElem_map, List.getD_eq_getElem?_getD, List.getElem?_eq_getElem (by rw [HFLL.out]; exact hr)]
                    rfl)
                go_wp2
                go_ret2
                exact ⟨_, _, rfl, by rw [HES.out, HKP.out, HFE.out]; exact HPS.out, by rw [HES.out]; exact HLS.out, HB10.out, fun kk hkk => by simp [Value.ownBlock] at hkk; have := HNE.out.2.1; omega, fun kk hkk => by have h1 := (HLW.out.lt kk hkk).1; have h2 := HNE.out.2.2.1; have h3 := HNE.out.2.1; omega⟩
end Go.Proofs.YthchfdobdghdoaaGreat
end
section

/-
  The walk of deal.Deal at whatever it is given; the head of chapter 9's laws.
-/
namespace Go.Sg
open Go Go.RowKit
end Go.Sg
namespace Go.Proofs.YthchfdobdghdoaaGreat
open Go Go.RowKit Go.Sg
end Go.Proofs.YthchfdobdghdoaaGreat
end
section

/-
  What a dealing has made, in plain Lean: who lies where, how many lie in the stash or are lost.
-/
namespace Go.Sg
open Go Go.RowKit
theorem takeWhile_filter {α : Type} {p : α → Bool} : ∀ {l : List α}, l.Pairwise (fun a b => p b = true → p a = true) → l.takeWhile p = l.filter p
  | [], _ => rfl
  | a :: l, h => by
    rw [List.pairwise_cons] at h
    by_cases ha : p a = true
    · rw [List.takeWhile_cons, if_pos ha, List.filter_cons, if_pos ha, takeWhile_filter h.2]
    · rw [List.takeWhile_cons, if_neg ha, List.filter_cons, if_neg ha]
      symm
      rw [List.filter_eq_nil_iff]
      exact fun b hb hp => ha (h.1 b hb hp)
theorem realO_filter (l : List Di) : realO l = (ordD l).filter (fun i => decide (0 ≤ (getD' l i).2)) := by
  refine takeWhile_filter ((ordD_sorted l).imp fun {a b} h hb => ?_)
  rw [decide_eq_true_eq] at *
  rw [leO_iff] at h
  omega
theorem realO_mem {l : List Di} {i : Int} : i ∈ realO l ↔ (0 ≤ i ∧ i < l.length) ∧ 0 ≤ (getD' l i).2 := by
  rw [realO_filter, List.mem_filter, (ordD_perm l).mem_iff, idx_mem, decide_eq_true_eq]
theorem realO_nodup (l : List Di) : (realO l).Nodup := by
  rw [realO_filter]
  exact ((ordD_perm l).nodup_iff.2 (idx_nodup _)).sublist List.filter_sublist
theorem realO_desc (l : List Di) : (realO l).Pairwise (fun a b => (getD' l b).2 ≤ (getD' l a).2) := by
  have h : (realO l).Pairwise (leO l) := by
    rw [realO_filter]
    exact (ordD_sorted l).sublist List.filter_sublist
  refine h.imp_of_mem fun {a b} ha hb hab => ?_
  have h1 := (realO_mem.1 ha).2
  have h2 := (realO_mem.1 hb).2
  rw [leO_iff] at hab
  omega
theorem realO_count (l : List Di) (Q : Int → Bool) : (realO l).countP Q = (List.range l.length).countP (fun i : Nat => Q (i : Int) && decide (0 ≤ (getD' l (i : Int)).2)) := by
  rw [realO_filter, List.countP_filter, (ordD_perm l).countP_eq, idx, List.countP_map]
  rfl
theorem pair_take {α : Type} {R : α → α → Prop} {L : List α} (h : L.Pairwise R) {t : Nat} (ht : t < L.length) : ∀ j ∈ L.take t, R j L[t] := by
  intro j hj
  rw [← List.take_append_drop t L, List.pairwise_append] at h
  refine h.2.2 _ hj _ ?_
  rw [List.drop_eq_getElem_cons ht]
  exact List.mem_cons_self
theorem snoc_ind {α : Type} {P : List α → Prop} (L : List α) (h0 : P []) (h : ∀ t (ht : t < L.length), P (L.take t) → P (L.take t ++ [L[t]])) : P L := by
  have : ∀ t, t ≤ L.length → P (L.take t) := by
    intro t
    induction t with
    | zero => intro _; exact h0
    | succ t ih => intro ht; rw [List.take_succ_eq_append_getElem (by omega)]; exact h t (by omega) (ih (by omega))
  have := this L.length (Nat.le_refl _)
  rwa [List.take_length] at this
theorem place_deep {s : Sh} {x : Ds} {deep : Int} (hs : rightD s = true) (hx : DsOk s x) (_hd : 0 ≤ deep) (h0 : 0 ≤ (nextD s x deep).1) (hl : (nextD s x deep).1 < levelsD s) : (nextD s x deep).1 / s.2.1 ≤ deep := by
  rw [rightD_iff] at hs
  have hy : (sinkD x deep).1 ≤ deep ∧ 0 ≤ (sinkD x deep).2.1 ∧ (sinkD x deep).2.1 < s.2.1 ∧ 0 ≤ (sinkD x deep).2.2 := by
    obtain ⟨_, _, h1, h2, h3, _⟩ := hx
    unfold sinkD
    split
    · simp only; omega
    · omega
  unfold nextD at *
  generalize sinkD x deep = y at *
  unfold takeD at *
  by_cases hn : y.1 < 0
  · rw [if_pos hn] at h0 hl
    by_cases h2 : y.2.2 = s.2.2
    · rw [if_pos h2] at h0; simp only at h0; omega
    · rw [if_neg h2] at hl; simp only at hl; omega
  · rw [if_neg hn]
    simp only
    have := ((Int.ediv_emod_unique (a := y.1 * s.2.1 + y.2.1) (b := s.2.1) (r := y.2.1) (q := y.1) (by omega)).2 ⟨by rw [Int.mul_comm]; omega, hy.2.1, hy.2.2.1⟩).1
    omega
/-- where those lie that are dealt -/
structure PInv (s : Sh) (l : List Di) (done : List Int) (x : St) : Prop where
  ok : DsOk s x.ds
  pos : ∀ i : Nat, 0 ≤ x.pl i → (i : Int) ∈ done ∧ x.pl i < levelsD s + s.2.2 ∧ usedD s x.ds (x.pl i) ∧ (x.pl i < levelsD s → x.pl i / s.2.1 ≤ (getD' l (i : Int)).2)
  inj : ∀ i j : Nat, 0 ≤ x.pl i → x.pl i = x.pl j → i = j
  lf : ∀ p : Nat, x.lf p = p ∨ x.lf p = -1
  off : ∀ i : Nat, 0 ≤ x.pl i → x.lf (x.pl i).toNat = -1
  all : ∀ i ∈ done, i ∈ x.lost ∨ 0 ≤ x.pl i.toNat
theorem PInv.start (s : Sh) (hs : rightD s = true) (l : List Di) : PInv s l [] (st0 s) := by
  have hn : ∀ i : Nat, ¬ 0 ≤ (st0 s).pl i := fun i h => by have : (0 : Int) ≤ -1 := h; omega
  exact ⟨(DInv.start s hs 0).ok, fun i h => absurd h (hn i), fun i _ h => absurd h (hn i), fun p => .inl rfl, fun i h => absurd h (hn i), fun i h => by simp at h⟩
theorem PInv.step {s : Sh} {done : List Int} {x : St} {l : List Di} {i : Int} (hs : rightD s = true) (h : PInv s l done x) (hi0 : 0 ≤ i) (hdn : ∀ j ∈ done, 0 ≤ j) (hid : i ∉ done) (hd : 0 ≤ (getD' l i).2) :
    PInv s l (done ++ [i]) (stepSt s l x i) := by
  obtain ⟨h1, h2, h3⟩ := next_spec hs h.ok hd
  have h4 := place_deep hs h.ok hd
  unfold stepSt
  obtain ⟨e, he⟩ : ∃ e, (getD' l i).2 = e := ⟨_, rfl⟩
  rw [he] at h1 h2 h3 h4 ⊢
  generalize nextD s x.ds e = r at *
  have hap : ∀ j ∈ done ++ [i], j ∈ done ∨ j = i := fun j hj => by
    rcases List.mem_append.1 hj with h | h
    · exact .inl h
    · exact .inr (List.mem_singleton.1 h)
  by_cases hneg : r.1 < 0
  · rw [if_pos hneg]
    refine ⟨h1, fun j hj => ?_, h.inj, h.lf, h.off, fun j hj => ?_⟩
    · obtain ⟨p0, p1, p2, p3⟩ := h.pos j hj
      exact ⟨List.mem_append_left _ p0, p1, h2 _ p2, p3⟩
    · rcases hap j hj with h5 | h5
      · rcases h.all j h5 with h6 | h6
        · exact .inl (List.mem_append_left _ h6)
        · exact .inr h6
      · exact .inl (List.mem_append_right _ (by rw [h5]; exact List.mem_cons_self))
  · rw [if_neg hneg]
    obtain ⟨g1, g2, g3⟩ := h3 (by omega)
    have hi : ((i.toNat : Nat) : Int) = i := by omega
    refine ⟨h1, fun j hj => ?_, fun j k hj hjk => ?_, fun p => ?_, fun j hj => ?_, fun j hj => ?_⟩
    · simp only [upd] at hj ⊢
      by_cases hji : j = i.toNat
      · rw [if_pos hji]
        have : (j : Int) = i := by omega
        rw [this, he]
        exact ⟨List.mem_append_right _ List.mem_cons_self, g1, g3, h4 (by omega)⟩
      · rw [if_neg hji] at hj ⊢
        obtain ⟨p0, p1, p2, p3⟩ := h.pos j hj
        exact ⟨List.mem_append_left _ p0, p1, h2 _ p2, p3⟩
    · simp only [upd] at hj hjk
      by_cases hji : j = i.toNat
      · rw [if_pos hji] at hj hjk
        by_cases hki : k = i.toNat
        · omega
        · rw [if_neg hki] at hjk
          exact absurd (hjk ▸ (h.pos k (by omega)).2.2.1) g2
      · rw [if_neg hji] at hj hjk
        by_cases hki : k = i.toNat
        · rw [if_pos hki] at hjk
          exact absurd (hjk ▸ (h.pos j hj).2.2.1) g2
        · rw [if_neg hki] at hjk
          exact h.inj j k hj hjk
    · simp only [upd]
      by_cases hp : p = r.1.toNat
      · rw [if_pos hp]; exact .inr rfl
      · rw [if_neg hp]; exact h.lf p
    · show upd x.lf r.1.toNat (-1) (upd x.pl i.toNat r.1 j).toNat = -1
      by_cases hji : j = i.toNat
      · have e1 : upd x.pl i.toNat r.1 j = r.1 := by unfold upd; rw [if_pos hji]
        rw [e1]
        unfold upd
        rw [if_pos rfl]
      · have e1 : upd x.pl i.toNat r.1 j = x.pl j := by unfold upd; rw [if_neg hji]
        have hj' : 0 ≤ x.pl j := by rw [← e1]; exact hj
        rw [e1]
        unfold upd
        by_cases hp : (x.pl j).toNat = r.1.toNat
        · rw [if_pos hp]
        · rw [if_neg hp]; exact h.off j hj'
    · simp only [upd]
      by_cases hji : j.toNat = i.toNat
      · rw [if_pos hji]; exact .inr (by omega)
      · rw [if_neg hji]
        rcases hap j hj with h5 | h5
        · exact h.all j h5
        · rw [h5] at hji; exact absurd rfl hji
/-- how many may lie no deeper -/
def inC (s : Sh) (l : List Di) (done : List Int) (d : Int) : Int := (done.countP (fun i => decide (min (getD' l i).2 s.1 ≤ d)) : Nat)
theorem inC_snoc (s : Sh) (l : List Di) (done : List Int) (i d : Int) : inC s l (done ++ [i]) d = inC s l done d + if min (getD' l i).2 s.1 ≤ d then 1 else 0 := by
  unfold inC
  rw [List.countP_append, List.countP_singleton]
  by_cases h : min (getD' l i).2 s.1 ≤ d <;> simp [h]
theorem inC_zero {s : Sh} {l : List Di} {done : List Int} {d : Int} (h : ∀ i ∈ done, d < min (getD' l i).2 s.1) : inC s l done d = 0 := by
  unfold inC
  have : done.countP (fun i => decide (min (getD' l i).2 s.1 ≤ d)) = 0 := List.countP_eq_zero.2 fun i hi => by have := h i hi; simp; omega
  rw [this]; rfl
theorem next_cases (s : Sh) (lv on sh e : Int) (he : 0 ≤ e) :
    nextD s (lv, on, sh) e = if lv < 0 then (if sh = s.2.2 then (-1, (lv, on, sh)) else (levelsD s + sh, (lv, on, sh + 1)))
      else if e < lv then (e * s.2.1 + 0, if 0 + 1 = s.2.1 then (e - 1, 0, sh) else (e, 0 + 1, sh)) else (lv * s.2.1 + on, if on + 1 = s.2.1 then (lv - 1, 0, sh) else (lv, on + 1, sh)) := by
  unfold nextD sinkD takeD
  by_cases h1 : lv < 0
  · rw [if_pos h1, if_neg (show ¬ e < lv by omega), if_pos (show (lv, on, sh).1 < 0 from h1)]
  · rw [if_neg h1]
    by_cases h2 : e < lv
    · rw [if_pos (show e < (lv, on, sh).1 from h2), if_pos h2, if_neg (by simp only; omega)]
    · rw [if_neg (show ¬ e < (lv, on, sh).1 from h2), if_neg h2, if_neg (by simp only; omega)]
/-- how many lie in the stash, or are lost -/
structure CInv (s : Sh) (l : List Di) (done : List Int) (x : St) : Prop where
  ok : DsOk s x.ds
  full : x.lost ≠ [] → x.ds.1 < 0 ∧ x.ds.2.2 = s.2.2
  cnt : x.ds.2.2 + x.lost.length ≤ done.length
  sh : ((done.countP (fun i => decide (levelsD s ≤ x.pl i.toNat)) : Nat) : Int) = x.ds.2.2
  top : x.ds.1 < 0 ∨ (x.ds.2.2 = 0 ∧ x.lost = [])
  col : x.ds.1 < 0 → x.ds.2.1 = 0
  lev : ∀ i ∈ done, x.ds.1 ≤ (getD' l i).2
  up : ∀ d, 0 ≤ d → d ≤ s.1 → inC s l done d ≤ (if d < x.ds.1 then 0 else (d - x.ds.1) * s.2.1 + x.ds.2.1) + x.ds.2.2 + x.lost.length
  eq : ∃ R, 0 ≤ R ∧ R ≤ s.1 ∧ x.ds.1 ≤ R ∧ (R = s.1 ∨ ∃ j ∈ done, (getD' l j).2 = R) ∧ inC s l done R = (R - x.ds.1) * s.2.1 + x.ds.2.1 + x.ds.2.2 + x.lost.length
theorem CInv.start (s : Sh) (hs : rightD s = true) (l : List Di) : CInv s l [] (st0 s) := by
  have hs' := rightD_iff.1 hs
  refine ⟨(DInv.start s hs 0).ok, fun h => absurd rfl h, by simp [st0], by simp [st0], .inr ⟨rfl, rfl⟩, fun h => by have : s.1 < 0 := h; omega, fun i h => by simp at h, fun d h1 h2 => ?_, ⟨s.1, by omega, by omega, by show s.1 ≤ s.1; omega, .inl rfl, ?_⟩⟩
  · have : inC s l [] d = 0 := inC_zero (by simp)
    rw [this]
    show (0 : Int) ≤ (if d < s.1 then 0 else (d - s.1) * s.2.1 + 0) + 0 + 0
    by_cases h : d < s.1
    · rw [if_pos h]; omega
    · rw [if_neg h, show d - s.1 = 0 by omega]; omega
  · have : inC s l [] s.1 = 0 := inC_zero (by simp)
    rw [this]
    show (0 : Int) = (s.1 - s.1) * s.2.1 + 0 + 0 + 0
    rw [show s.1 - s.1 = 0 by omega]; omega
theorem CInv.step {s : Sh} {done : List Int} {x : St} {l : List Di} {i : Int} (hs : rightD s = true) (h : CInv s l done x) (hpn : x.pl i.toNat < 0) (hi0 : 0 ≤ i) (hdn : ∀ j ∈ done, 0 ≤ j) (hid : i ∉ done) (hd : 0 ≤ (getD' l i).2) (hde : ∀ j ∈ done, (getD' l i).2 ≤ (getD' l j).2) :
    CInv s l (done ++ [i]) (stepSt s l x i) := by
  have hok := (next_spec hs h.ok hd).1
  have hlb := levelsD_bd hs
  have hlm := levels_mul s
  rw [rightD_iff] at hs
  obtain ⟨⟨lv, on, sh⟩, pl, lf, lost⟩ := x
  obtain ⟨ho, hf, hc, hsh, ht, hcl, hlv, hu, R, r1, r2, r3, r4, r5⟩ := h
  simp only at ho hf hc hsh ht hcl hlv hu r3 r5 hpn hok
  obtain ⟨o1, o2, o3, o4, o5, o6⟩ := ho
  simp only at o1 o2 o3 o4 o5 o6
  have hR : ∀ e, (getD' l i).2 = e → min e s.1 ≤ R := fun e he => by
    rcases r4 with r4 | ⟨j, hj, r4⟩
    · omega
    · have := hde j hj; omega
  have hmem : ∀ Q : Int → Prop, (∀ j ∈ done, Q j) → Q i → ∀ j ∈ done ++ [i], Q j := fun Q h1 h2 j hj => by
    rcases List.mem_append.1 hj with h | h
    · exact h1 j h
    · rw [List.mem_singleton.1 h]; exact h2
  have hcnt : ∀ v : Int, (done.countP (fun j => decide (levelsD s ≤ upd pl i.toNat v j.toNat))) = done.countP (fun j => decide (levelsD s ≤ pl j.toNat)) := fun v => by
    refine List.countP_congr fun j hj => ?_
    have : j.toNat ≠ i.toNat := fun e => hid (by have := hdn j hj; rwa [show i = j by omega])
    simp [upd, this]
  unfold stepSt
  simp only
  have hnc := next_cases s lv on sh _ hd
  have hsn := inC_snoc s l done i
  obtain ⟨e, he⟩ : ∃ e, (getD' l i).2 = e := ⟨_, rfl⟩
  have hR' := hR e he
  have hle : ∀ j ∈ done, e ≤ (getD' l j).2 := fun j hj => by have := hde j hj; omega
  rw [he] at hnc hd hsn hok ⊢
  have hll : ∀ a b : List Int, (a ++ b).length = a.length + b.length := fun a b => List.length_append
  by_cases c1 : lv < 0
  · have hm1 : lv = -1 := by omega
    have hon := hcl c1
    rw [if_pos c1] at hnc
    by_cases c2 : sh = s.2.2
    · rw [if_pos c2] at hnc
      rw [hnc, if_pos (by simp only; omega)]
      refine ⟨⟨o1, o2, o3, o4, o5, o6⟩, fun _ => ⟨c1, c2⟩, ?_, ?_, .inl c1, hcl, hmem _ hlv (by simp only; omega), fun d d1 d2 => ?_, ⟨R, r1, r2, r3, r4.imp id (fun ⟨j, hj, hj2⟩ => ⟨j, List.mem_append_left _ hj, hj2⟩), ?_⟩⟩
      · simp only [List.length_append, List.length_singleton]; omega
      · simp only
        rw [List.countP_append, List.countP_singleton, if_neg (by simp; omega)]
        exact hsh
      · have := hu d d1 d2
        rw [hsn d]
        simp only [List.length_append, List.length_singleton]
        split <;> omega
      · rw [hsn R, if_pos hR']
        simp only [List.length_append, List.length_singleton]
        omega
    · rw [if_neg c2] at hnc
      rw [hnc] at hok ⊢
      rw [if_neg (by simp only; omega)]
      have hlost : lost = [] := by
        rcases Classical.em (lost = []) with h | h
        · exact h
        · exact absurd (hf h).2 c2
      refine ⟨hok, fun h => absurd hlost h, ?_, ?_, .inl c1, hcl, hmem _ hlv (by simp only; omega), fun d d1 d2 => ?_, ⟨R, r1, r2, r3, r4.imp id (fun ⟨j, hj, hj2⟩ => ⟨j, List.mem_append_left _ hj, hj2⟩), ?_⟩⟩
      · simp only [List.length_append, List.length_singleton]; omega
      · simp only
        rw [List.countP_append, List.countP_singleton, hcnt, if_pos (by simp [upd]; omega)]
        omega
      · have := hu d d1 d2
        rw [hsn d]
        simp only
        split <;> omega
      · rw [hsn R, if_pos hR']
        simp only
        omega
  · rw [if_neg c1] at hnc
    obtain ⟨hsh0, hlost⟩ : sh = 0 ∧ lost = [] := ht.resolve_left c1
    have hll0 : (lost.length : Int) = 0 := by rw [hlost]; rfl
    have hz : ∀ (a : Int), 0 ≤ a → a ≤ lv → a * s.2.1 ≤ lv * s.2.1 ∧ 0 ≤ a * s.2.1 := fun a h1 h2 => ⟨mulS h2 (by omega), Int.mul_nonneg h1 (by omega)⟩
    have hlD : lv * s.2.1 ≤ s.1 * s.2.1 := mulS o2 (by omega)
    by_cases c2 : e < lv
    · rw [if_pos c2] at hnc
      rw [hnc] at hok ⊢
      obtain ⟨z1, z2⟩ := hz e hd (by omega)
      rw [if_neg (by simp only; omega)]
      have h0 : ∀ d, d < lv → inC s l done d = 0 := fun d hd => inC_zero fun j hj => by have := hlv j hj; omega
      have key : ∀ d, 0 ≤ d → d ≤ s.1 → ∀ U : Int, (d < e → 0 ≤ U) → (e ≤ d → (d - e) * s.2.1 + 1 ≤ U) → inC s l (done ++ [i]) d ≤ U + sh + lost.length := fun d d1 d2 U u1 u2 => by
        have := hu d d1 d2
        rw [hsn d]
        by_cases a1 : d < lv
        · rw [h0 d a1]
          by_cases a2 : d < e
          · have := u1 a2
            rw [if_neg (by omega)]; omega
          · have := u2 (by omega)
            have : 0 ≤ (d - e) * s.2.1 := Int.mul_nonneg (by omega) (by omega)
            split <;> omega
        · rw [if_neg a1] at this
          have := u2 (by omega)
          have a3 : (d - lv + 1) * s.2.1 ≤ (d - e) * s.2.1 := mulS (by omega) (by omega)
          rw [Int.add_mul, Int.one_mul] at a3
          split <;> omega
      by_cases c3 : 0 + 1 = s.2.1
      · rw [if_pos c3] at hok ⊢
        have a4 : ∀ d, (d - (e - 1)) * s.2.1 = (d - e) * s.2.1 + s.2.1 := fun d => by rw [show d - (e - 1) = d - e + 1 by omega, Int.add_mul, Int.one_mul]
        refine ⟨hok, fun h => absurd hlost h, ?_, ?_, .inr ⟨hsh0, hlost⟩, fun _ => rfl, hmem _ (fun j hj => by simp only; have := hle j hj; omega) (by simp only; omega), fun d d1 d2 => ?_, ⟨e, hd, by omega, by simp only; omega, .inr ⟨i, List.mem_append_right _ List.mem_cons_self, he⟩, ?_⟩⟩
        · simp only [List.length_append, List.length_singleton]; omega
        · simp only
          rw [List.countP_append, List.countP_singleton, hcnt, if_neg (by simp [upd]; omega)]
          omega
        · simp only
          refine key d d1 d2 _ (fun h => ?_) (fun h => ?_)
          · by_cases h2 : d < e - 1
            · rw [if_pos h2]; omega
            · rw [if_neg h2, show d - (e - 1) = 0 by omega]; omega
          · rw [if_neg (by omega), a4]; omega
        · rw [hsn e, h0 e c2, if_pos (by omega)]
          simp only
          rw [a4, show e - e = 0 by omega]
          omega
      · rw [if_neg c3] at hok ⊢
        refine ⟨hok, fun h => absurd hlost h, ?_, ?_, .inr ⟨hsh0, hlost⟩, fun h => by simp only at h; omega, hmem _ (fun j hj => by simp only; have := hle j hj; omega) (by simp only; omega), fun d d1 d2 => ?_, ⟨e, hd, by omega, by simp only; omega, .inr ⟨i, List.mem_append_right _ List.mem_cons_self, he⟩, ?_⟩⟩
        · simp only [List.length_append, List.length_singleton]; omega
        · simp only
          rw [List.countP_append, List.countP_singleton, hcnt, if_neg (by simp [upd]; omega)]
          omega
        · simp only
          refine key d d1 d2 _ (fun h => ?_) (fun h => ?_)
          · rw [if_pos h]; omega
          · rw [if_neg (by omega)]; omega
        · rw [hsn e, h0 e c2, if_pos (by omega)]
          simp only
          rw [show e - e = 0 by omega]
          omega
    · rw [if_neg c2] at hnc
      rw [hnc] at hok ⊢
      obtain ⟨z1, z2⟩ := hz lv (by omega) (by omega)
      rw [if_neg (by simp only; omega)]
      have key : ∀ d, 0 ≤ d → d ≤ s.1 → ∀ U : Int, (d < lv → 0 ≤ U) → (lv ≤ d → (d - lv) * s.2.1 + on + 1 ≤ U) → inC s l (done ++ [i]) d ≤ U + sh + lost.length := fun d d1 d2 U u1 u2 => by
        have := hu d d1 d2
        rw [hsn d]
        by_cases a1 : d < lv
        · rw [if_pos a1] at this
          have := u1 a1
          rw [if_neg (by omega)]; omega
        · rw [if_neg a1] at this
          have := u2 (by omega)
          split <;> omega
      by_cases c3 : on + 1 = s.2.1
      · rw [if_pos c3] at hok ⊢
        have a4 : ∀ d, (d - (lv - 1)) * s.2.1 = (d - lv) * s.2.1 + s.2.1 := fun d => by rw [show d - (lv - 1) = d - lv + 1 by omega, Int.add_mul, Int.one_mul]
        refine ⟨hok, fun h => absurd hlost h, ?_, ?_, .inr ⟨hsh0, hlost⟩, fun _ => rfl, hmem _ (fun j hj => by simp only; have := hlv j hj; omega) (by simp only; omega), fun d d1 d2 => ?_, ⟨R, r1, r2, by simp only; omega, r4.imp id (fun ⟨j, hj, hj2⟩ => ⟨j, List.mem_append_left _ hj, hj2⟩), ?_⟩⟩
        · simp only [List.length_append, List.length_singleton]; omega
        · simp only
          rw [List.countP_append, List.countP_singleton, hcnt, if_neg (by simp [upd]; omega)]
          omega
        · simp only
          refine key d d1 d2 _ (fun h => ?_) (fun h => ?_)
          · by_cases h2 : d < lv - 1
            · rw [if_pos h2]; omega
            · rw [if_neg h2, show d - (lv - 1) = 0 by omega]; omega
          · rw [if_neg (by omega), a4]; omega
        · rw [hsn R, if_pos hR']
          simp only
          rw [a4]
          omega
      · rw [if_neg c3] at hok ⊢
        refine ⟨hok, fun h => absurd hlost h, ?_, ?_, .inr ⟨hsh0, hlost⟩, fun h => by simp only at h; omega, hmem _ (fun j hj => by simp only; have := hlv j hj; omega) (by simp only; omega), fun d d1 d2 => ?_, ⟨R, r1, r2, by simp only; omega, r4.imp id (fun ⟨j, hj, hj2⟩ => ⟨j, List.mem_append_left _ hj, hj2⟩), ?_⟩⟩
        · simp only [List.length_append, List.length_singleton]; omega
        · simp only
          rw [List.countP_append, List.countP_singleton, hcnt, if_neg (by simp [upd]; omega)]
          omega
        · simp only
          refine key d d1 d2 _ (fun h => ?_) (fun h => ?_)
          · rw [if_pos h]; omega
          · rw [if_neg (by omega)]; omega
        · rw [hsn R, if_pos hR']
          simp only
          omega
end Go.Sg
end
section

/-
  What a dealing has made, in plain Lean: each place is dealt once; who lies deeper than it may is lost; how many are lost.
-/
namespace Go.Sg
open Go Go.RowKit
theorem end_inv {s : Sh} (hs : rightD s = true) (l : List Di) : PInv s l (realO l) (endSt s l) ∧ CInv s l (realO l) (endSt s l) := by
  unfold endSt
  refine snoc_ind (P := fun L => PInv s l L (runSt s l L) ∧ CInv s l L (runSt s l L)) (realO l) ⟨PInv.start s hs l, CInv.start s hs l⟩ (fun t ht h => ?_)
  have hm := realO_mem.1 (List.getElem_mem ht)
  have hni : (realO l)[t] ∉ (realO l).take t := fun hj => pair_take (realO_nodup l) ht _ hj rfl
  have hnn : ∀ j ∈ (realO l).take t, 0 ≤ j := fun j hj => (realO_mem.1 (List.mem_of_mem_take hj)).1.1
  rw [runSt_snoc]
  refine ⟨h.1.step hs hm.1.1 hnn hni hm.2, h.2.step hs ?_ hm.1.1 hnn hni hm.2 (fun j hj => pair_take (realO_desc l) ht j hj)⟩
  rcases Int.lt_or_le ((runSt s l ((realO l).take t)).pl (realO l)[t].toNat) 0 with h1 | h1
  · exact h1
  · have := (h.1.pos _ h1).1
    rw [Int.toNat_of_nonneg hm.1.1] at this
    exact absurd this hni
theorem nodup_le {α : Type} [DecidableEq α] : ∀ {L M : List α}, L.Nodup → (∀ x ∈ L, x ∈ M) → L.length ≤ M.length
  | [], _, _, _ => by simp
  | a :: L, M, hn, hs => by
    rw [List.nodup_cons] at hn
    have ha := hs a List.mem_cons_self
    have := nodup_le (M := M.erase a) hn.2 (fun x hx => (List.mem_erase_of_ne (fun (e : x = a) => hn.1 (by rw [← e]; exact hx))).2 (hs x (List.mem_cons_of_mem _ hx)))
    rw [List.length_erase_of_mem ha] at this
    have h2 := List.length_pos_of_mem ha
    rw [List.length_cons]
    omega
theorem nodup_perm {α : Type} [DecidableEq α] : ∀ {L M : List α}, L.Nodup → (∀ x ∈ L, x ∈ M) → M.length ≤ L.length → L.Perm M
  | [], M, _, _, h => by
    have : M = [] := List.length_eq_zero_iff.1 (by simpa using h)
    rw [this]
  | a :: L, M, hn, hs, h => by
    rw [List.nodup_cons] at hn
    have ha := hs a List.mem_cons_self
    have hl := List.length_erase_of_mem ha
    have h2 := List.length_pos_of_mem ha
    rw [List.length_cons] at h
    exact ((nodup_perm (M := M.erase a) hn.2 (fun x hx => (List.mem_erase_of_ne (fun (e : x = a) => hn.1 (by rw [← e]; exact hx))).2 (hs x (List.mem_cons_of_mem _ hx))) (by omega)).cons a).trans (List.perm_cons_erase ha).symm
theorem kept_eq {f : Nat → Int} (h : ∀ p : Nat, f p = p ∨ f p = -1) (n : Nat) : keptD f n = ((List.range n).filter (fun p => decide (0 ≤ f p))).map (fun p : Nat => (p : Int)) := by
  unfold keptD
  rw [List.filter_map]
  refine List.map_congr_left fun p hp => ?_
  have := (List.mem_filter.1 hp).2
  simp only [Function.comp, decide_eq_true_eq] at this
  rcases h p with h1 | h1 <;> omega
theorem kept_nodup {f : Nat → Int} (h : ∀ p : Nat, f p = p ∨ f p = -1) (n : Nat) : (keptD f n).Nodup := by
  rw [kept_eq h]
  exact List.Pairwise.map (R := (· ≠ ·)) _ (fun a b h => fun e => h (by omega)) (List.nodup_range.sublist List.filter_sublist)
theorem kept_in {f : Nat → Int} (h : ∀ p : Nat, f p = p ∨ f p = -1) {n : Nat} {v : Int} (hv : v ∈ keptD f n) : 0 ≤ v ∧ v < n ∧ f v.toNat = v := by
  rw [kept_eq h, List.mem_map] at hv
  obtain ⟨p, hp, rfl⟩ := hv
  rw [List.mem_filter, List.mem_range, decide_eq_true_eq] at hp
  refine ⟨by omega, by omega, ?_⟩
  rcases h p with h1 | h1
  · simpa using h1
  · omega
theorem cntN_lt {f : Nat → Int} {i n : Nat} (h : i < n) (hf : f i < 0) : cntN f i < cntN f n := by
  have := cntN_mono f (show i + 1 ≤ n from h)
  rw [cntN_succ, if_pos hf] at this
  omega
/-- where all lie at the end -/
def endG (s : Sh) (l : List Di) (i : Nat) : Int := if (endSt s l).pl i < 0 then (keptD (endSt s l).lf l.length).getD (cntN (endSt s l).pl i) 0 else (endSt s l).pl i
theorem dealP_eq {s : Sh} (hs : rightD s = true) {l : List Di} {n : Nat} (hn : (n : Int) = placesD s) (hl : l.length = n) : dealP s l = (List.range n).map (endG s l) := by
  have hfit : fitD s l = true := by unfold fitD; rw [hs, hl, decide_eq_true hn]; rfl
  unfold dealP
  rw [hfit, if_pos rfl]
  refine List.ext_getElem? fun i => ?_
  by_cases hi : i < l.length
  · rw [fill_get _ _ hi, List.getElem?_map, List.getElem?_range (by omega)]
    rfl
  · rw [List.getElem?_eq_none (by rw [fillL_len]; simp; omega), List.getElem?_eq_none (by simp; omega)]
theorem dealLost_eq {s : Sh} (hs : rightD s = true) {l : List Di} {n : Nat} (hn : (n : Int) = placesD s) (hl : l.length = n) : dealLost s l = (endSt s l).lost := by
  have hfit : fitD s l = true := by unfold fitD; rw [hs, hl, decide_eq_true hn]; rfl
  unfold dealLost
  rw [hfit, if_pos rfl]
/-- the counts of places taken and left -/
theorem end_cnt {s : Sh} (hs : rightD s = true) {l : List Di} {n : Nat} (hn : (n : Int) = levelsD s + s.2.2 + 1) (hl : l.length = n) : cntN (endSt s l).lf n + cntN (endSt s l).pl n = n := by
  have h : DInv s n (realO l) (endSt s l) := by
    unfold endSt
    refine snoc_ind (P := fun L => DInv s n L (runSt s l L)) (realO l) (DInv.start s hs n) (fun t ht h => ?_)
    have hm := realO_mem.1 (List.getElem_mem ht)
    rw [runSt_snoc]
    exact (h.step hs hn hm.1.1 (by omega) (fun hj => pair_take (realO_nodup l) ht _ hj rfl) hm.2).1
  exact h.cnt
theorem endG_in {s : Sh} (hs : rightD s = true) {l : List Di} {n : Nat} (hn : (n : Int) = levelsD s + s.2.2 + 1) (hl : l.length = n) {i : Nat} (hi : i < n) :
    (0 ≤ (endSt s l).pl i ∧ endG s l i = (endSt s l).pl i) ∨ ((endSt s l).pl i < 0 ∧ ∃ h : cntN (endSt s l).pl i < (keptD (endSt s l).lf n).length, endG s l i = (keptD (endSt s l).lf n)[cntN (endSt s l).pl i]) := by
  have hc := end_cnt hs hn hl
  have hk := kept_cnt (endSt s l).lf n
  unfold endG
  rw [hl]
  by_cases h : (endSt s l).pl i < 0
  · right
    have h1 := cntN_lt hi h
    have h2 : cntN (endSt s l).pl i < (keptD (endSt s l).lf n).length := by omega
    refine ⟨h, h2, ?_⟩
    rw [if_pos h, List.getD_eq_getElem?_getD, List.getElem?_eq_getElem h2]
    rfl
  · exact .inl ⟨by omega, by rw [if_neg h]⟩
theorem deal_perm {s : Sh} (hs : rightD s = true) {l : List Di} {n : Nat} (hn : (n : Int) = placesD s) (hl : l.length = n) : (dealP s l).Perm (idx n) := by
  have hn' : (n : Int) = levelsD s + s.2.2 + 1 := by rw [hn]; unfold placesD; rw [if_pos hs]
  obtain ⟨hp, -⟩ := end_inv hs l
  have hlb := levelsD_bd hs
  rw [dealP_eq hs hn hl]
  refine nodup_perm ?_ (fun x hx => ?_) (by rw [idx_len]; simp)
  · rw [List.Nodup, List.pairwise_map]
    refine List.pairwise_lt_range.imp_of_mem fun {a b} ha hb hab => ?_
    rw [List.mem_range] at ha hb
    rcases endG_in hs hn' hl ha with ⟨a1, a2⟩ | ⟨a1, a3, a2⟩ <;> rcases endG_in hs hn' hl hb with ⟨b1, b2⟩ | ⟨b1, b3, b2⟩ <;> rw [a2, b2]
    · exact fun e => by have := hp.inj a b a1 e; omega
    · intro e
      have h1 := kept_in hp.lf (List.getElem_mem b3)
      rw [← e] at h1
      have := hp.off a a1
      omega
    · intro e
      have h1 := kept_in hp.lf (List.getElem_mem a3)
      rw [e] at h1
      have := hp.off b b1
      omega
    · intro e
      have h1 := cntN_lt hab a1
      have h2 := kept_nodup hp.lf n
      rw [List.Nodup, List.pairwise_iff_getElem] at h2
      exact h2 _ _ a3 b3 h1 e
  · rw [List.mem_map] at hx
    obtain ⟨i, hi, rfl⟩ := hx
    rw [List.mem_range] at hi
    rw [idx_mem]
    rcases endG_in hs hn' hl hi with ⟨a1, a2⟩ | ⟨a1, a3, a2⟩ <;> rw [a2]
    · have := (hp.pos i a1).2.1
      omega
    · have h1 := kept_in hp.lf (List.getElem_mem a3)
      omega
/-- an item that is not lost -/
theorem deal_kept {s : Sh} (hs : rightD s = true) {l : List Di} {n : Nat} (hn : (n : Int) = placesD s) (hl : l.length = n) {i : Nat} (hi : i < n) (hd : 0 ≤ (getD' l (i : Int)).2) :
    (i : Int) ∈ (endSt s l).lost ∨ (0 ≤ (endSt s l).pl i ∧ endG s l i = (endSt s l).pl i ∧ endG s l i < (n : Int) - 1 ∧ (endG s l i < levelsD s → endG s l i / s.2.1 ≤ (getD' l (i : Int)).2)) := by
  have hn' : (n : Int) = levelsD s + s.2.2 + 1 := by rw [hn]; unfold placesD; rw [if_pos hs]
  obtain ⟨hp, -⟩ := end_inv hs l
  rcases hp.all (i : Int) (realO_mem.2 ⟨by omega, hd⟩) with h | h
  · exact .inl h
  · right
    rw [Int.toNat_natCast] at h
    obtain ⟨-, h1, -, h2⟩ := hp.pos i h
    have e : endG s l i = (endSt s l).pl i := by unfold endG; rw [if_neg (by omega)]
    rw [e]
    exact ⟨h, rfl, by omega, h2⟩
def realN (l : List Di) (i : Nat) : Bool := decide (0 ≤ (getD' l (i : Int)).2)
def badN (s : Sh) (l : List Di) (n : Nat) (i : Nat) : Bool := realN l i && (decide (endG s l i = (n : Int) - 1) || (decide (endG s l i < levelsD s) && decide ((getD' l (i : Int)).2 < endG s l i / s.2.1)))
theorem once_facts {s : Sh} (hs : rightD s = true) {l : List Di} {n : Nat} (hn : (n : Int) = placesD s) (hl : l.length = n) :
    (List.range n).countP (badN s l n) ≤ (dealLost s l).length ∧ ((dealLost s l).length : Int) ≤ max 0 (((List.range n).countP (realN l) : Nat) - s.2.2) := by
  have hs' := rightD_iff.1 hs
  rw [dealLost_eq hs hn hl]
  constructor
  · have h1 : (((List.range n).filter (badN s l n)).map (fun i : Nat => (i : Int))).length ≤ (endSt s l).lost.length := by
      refine nodup_le (List.Pairwise.map (R := (· ≠ ·)) _ (fun a b h => fun e => h (by omega)) (List.nodup_range.sublist List.filter_sublist)) fun x hx => ?_
      rw [List.mem_map] at hx
      obtain ⟨i, hi, rfl⟩ := hx
      rw [List.mem_filter, List.mem_range] at hi
      obtain ⟨hi, hb⟩ := hi
      unfold badN realN at hb
      simp only [Bool.and_eq_true, Bool.or_eq_true, decide_eq_true_eq] at hb
      rcases deal_kept hs hn hl hi hb.1 with h | ⟨-, -, h2, h3⟩
      · exact h
      · exfalso
        rcases hb.2 with h4 | ⟨h4, h5⟩
        · omega
        · have := h3 h4; omega
    rw [List.length_map] at h1
    rw [List.countP_eq_length_filter]
    exact h1
  · obtain ⟨-, hc⟩ := end_inv hs l
    have h1 : (realO l).length = (List.range n).countP (realN l) := by
      have := realO_count l (fun _ => true)
      rw [List.countP_true] at this
      rw [this, hl]
      exact List.countP_congr fun i _ => by simp [realN]
    rw [← h1]
    have h2 := hc.cnt
    rcases Classical.em ((endSt s l).lost = []) with h | h
    · rw [h]; simp only [List.length_nil]; omega
    · have := (hc.full h).2
      omega
/-- the most that must be left over -/
def inN (s : Sh) (l : List Di) (d : Int) (i : Nat) : Bool := realN l i && decide (min (getD' l (i : Int)).2 s.1 ≤ d)
def mostD (s : Sh) (l : List Di) (n : Nat) : Nat → Int
  | 0 => 0
  | d + 1 => max (mostD s l n d) (((List.range n).countP (inN s l d) : Nat) - s.2.1 * ((d : Int) + 1))
def overN (s : Sh) (l : List Di) (n : Nat) (i : Nat) : Bool := (realN l i && decide (levelsD s ≤ endG s l i)) && decide (endG s l i < (n : Int) - 1)
end Go.Sg
end
section

/-
  The walks of shellgamelaw9.filled, as, and pick.
-/
namespace Go.Sg
open Go Go.RowKit
def pickD (c n : Int) : Int := (if c < 0 then -(c + 1) else c) % n
theorem ret_i64' {a b : Int} (h : a = b) : Ending.returned (.int .i64 a) = .returned (.int .i64 b) := by rw [h]
theorem pickD_bd {c n : Int} (h : 0 < n) : 0 ≤ pickD c n ∧ pickD c n < n := ⟨Int.emod_nonneg _ (by omega), Int.emod_lt_of_pos _ h⟩
def mkD (f : Nat → Di) (n : Nat) : List Di := (List.range n).map f
def fillF (l : List Di) (i : Nat) : Di := l.getD i (0, -1)
section
variable {P : Program}
/-- append to a slice of one's own, as one step of a region that draws. -/
theorem step_append_own_at {ops : Array Oper} {o : Oper} {a : Act} {w : World} {K : Act → World → Prop} {Q : Exit → Act → World → Prop} {E : Prop} (hgd : o.guard = none) (s x : Operand) (t : TypeId)
    (ho : o.op = .call { callee := .builtin .append, args := #[s, x], argTypes := #[t, t] })
    (base : Nat) (e : TypeId) (i : TypeInfo) (z : Value) (size bytes : Nat) (ht : P.underlying t = some (.slice e)) (hi : P.info? e = some i) (hz : i.zero = some z)
    (hsize : i.size = size) (hby : i.bytes = bytes) (hzs : z.cells.size = size) (hsz : 0 < size)
    (v : Value) (n : Nat) (xs : List Value) (hs : a.eval s = v) (hown : w.ownsRow base e size v n xs)
    (ad : Addr) (m c : Nat) (news : List Value) (hx : a.eval x = .slice (some ad) m c) (hl : news.length = m * size) (hnews : ∀ j u, news[j]? = some u → w.cell? (ad.add j) = some u) (h1 : ∀ u ∈ news, u.oneCell' = true)
    (h63 : n + m ≤ maxLen) (hbytes : (n + m) * bytes ≤ 140737488355328) (hbase : base ≤ w.heap.size)
    (hK : ∀ v' w', w'.ownsRow base e size v' (n + m) (xs ++ news) → w.grownBy w' v.ownBlock → (v'.ownBlock = v.ownBlock ∨ v'.ownBlock = some w.heap.size) → K (a.put o.dst v') w') :
    if Region.wanted o (yielded ops a.tmps) = true then Oper.wp P o a w K Q else E := by
  have hw : Region.wanted o (yielded ops a.tmps) = true := by simp [Region.wanted, hgd]
  rw [if_pos hw]
  obtain ⟨v', w', hr, h2, h3, _, h5⟩ := run_append_own_at (P := P) w base t o.type e i z size bytes ht hi hz hsize hby hzs hsz v n xs hown ad m c news hl hnews h1 h63 hbytes hbase
  unfold Oper.wp execOp
  simp only [ho, resolve, invoke, builtin, Sem.run_bind, Sem.run_pure, Result.andThen_ok, List.map_toArray, List.map_cons, List.map_nil, hs, hx, hr]
  exact hK v' w' h2 h3 h5
end
end Go.Sg
namespace Go.Proofs.YthchfdobdghdoaaGreat
open Go Go.RowKit Go.Sg
end Go.Proofs.YthchfdobdghdoaaGreat
end
section

/-
  The order as the document says it: the first of those that are left, again and again: plain facts, and the walk of shellgameref9.ahead.
-/
namespace Go.Sg
open Go Go.RowKit
def aheadD (x y : Di) : Bool := decide (y.2 < x.2) || (decide (x.2 = y.2) && decide (x.1 < y.1))
theorem ahead_lt {l : List Di} {i k : Int} (hi : 0 ≤ (getD' l i).2) (_hk : 0 ≤ (getD' l k).2) : aheadD (getD' l i) (getD' l k) = ltO l i k := by
  unfold ltO aheadD
  rcases h : ltD (getD' l i) (getD' l k) with _ | _
  · rw [ltD_false] at h
    rw [Bool.or_eq_false_iff, Bool.and_eq_false_iff, decide_eq_false_iff_not, decide_eq_false_iff_not, decide_eq_false_iff_not]
    omega
  · rw [ltD_iff] at h
    rw [Bool.or_eq_true, Bool.and_eq_true, decide_eq_true_eq, decide_eq_true_eq, decide_eq_true_eq]
    omega
/-- those that were picked, by their places -/
structure KD (l : List Di) (pk : List Nat) : Prop where
  nd : pk.Nodup
  lt : ∀ i ∈ pk, i < l.length ∧ 0 ≤ (getD' l (i : Int)).2
  up : (pk.map (fun i : Nat => (i : Int))).Pairwise (leO l)
  le : ∀ i ∈ pk, ∀ k : Nat, k < l.length → k ∉ pk → 0 ≤ (getD' l (k : Int)).2 → leO l i k
theorem KD.nil (l : List Di) : KD l [] := ⟨List.nodup_nil, by simp, by simp, by simp⟩
/-- the search for the first of those that are left -/
def IND (l : List Di) (pk : List Nat) (i : Nat) (z : Int) : Prop :=
  (z = -1 ∧ ∀ k : Nat, k < i → k ∉ pk → (getD' l (k : Int)).2 < 0) ∨ ∃ a : Nat, z = a ∧ a < i ∧ a ∉ pk ∧ 0 ≤ (getD' l (a : Int)).2 ∧ ∀ k : Nat, k < i → k ∉ pk → 0 ≤ (getD' l (k : Int)).2 → leO l a k
theorem IND.zero (l : List Di) (pk : List Nat) : IND l pk 0 (-1) := .inl ⟨rfl, fun k h => by omega⟩
theorem IND.take {l : List Di} {pk : List Nat} {i : Nat} {z : Int} (h : IND l pk i z) (hn : i ∉ pk) (hd : 0 ≤ (getD' l (i : Int)).2) (hz : ∀ a : Nat, z = a → aheadD (getD' l (i : Int)) (getD' l (a : Int)) = true) : IND l pk (i + 1) i := by
  refine .inr ⟨i, rfl, by omega, hn, hd, fun k hk hkn hkd => ?_⟩
  have hrefl : leO l (i : Int) (i : Int) := by
    rcases leO_total l (i : Int) (i : Int) with h | h <;> exact h
  by_cases hki : k = i
  · rw [hki]; exact hrefl
  · rcases h with ⟨h1, h2⟩ | ⟨a, h1, h2, h3, h4, h5⟩
    · have := h2 k (by omega) hkn; omega
    · have h6 := hz a h1
      rw [ahead_lt hd h4] at h6
      exact leO_trans l _ _ _ (Or.inl h6) (h5 k (by omega) hkn hkd)
theorem IND.keep {l : List Di} {pk : List Nat} {i a : Nat} (h : IND l pk i a) (hd : 0 ≤ (getD' l (i : Int)).2) (hz : aheadD (getD' l (i : Int)) (getD' l (a : Int)) = false) : IND l pk (i + 1) a := by
  rcases h with ⟨h1, h2⟩ | ⟨a', h1, h2, h3, h4, h5⟩
  · omega
  · obtain rfl : a = a' := by omega
    refine .inr ⟨a, rfl, by omega, h3, h4, fun k hk hn hkd => ?_⟩
    by_cases hki : k = i
    · subst hki
      rw [ahead_lt hd h4] at hz
      exact Or.inr ⟨hz, by omega⟩
    · exact h5 k (by omega) hn hkd
theorem IND.bd {l : List Di} {pk : List Nat} {i : Nat} {z : Int} (h : IND l pk i z) : z = -1 ∨ (0 ≤ z ∧ z < i) := by
  rcases h with ⟨h1, -⟩ | ⟨a, h1, h2, -⟩
  · exact .inl h1
  · exact .inr ⟨by omega, by omega⟩
theorem KD.snoc {l : List Di} {pk : List Nat} {a : Nat} (h : KD l pk) (hi : IND l pk l.length a) : KD l (pk ++ [a]) := by
  rcases hi with ⟨h1, -⟩ | ⟨a', h1, h2, h3, h4, h5⟩
  · omega
  obtain rfl : a = a' := by omega
  refine ⟨?_, ?_, ?_, ?_⟩
  · rw [List.nodup_append]
    exact ⟨h.nd, List.nodup_cons.2 ⟨by simp, List.nodup_nil⟩, fun x hx y hy e => by rw [List.mem_singleton] at hy; subst hy; subst e; exact h3 hx⟩
  · intro i hi
    rcases List.mem_append.1 hi with h6 | h6
    · exact h.lt i h6
    · rw [List.mem_singleton] at h6; rw [h6]; exact ⟨h2, h4⟩
  · rw [List.map_append, List.pairwise_append]
    refine ⟨h.up, by simp, fun x hx y hy => ?_⟩
    obtain ⟨i, hi, rfl⟩ := List.mem_map.1 hx
    simp at hy
    subst hy
    exact h.le i hi a h2 h3 h4
  · intro i hi k hk hkn hkd
    rw [List.mem_append, List.mem_singleton, not_or] at hkn
    rcases List.mem_append.1 hi with h6 | h6
    · exact h.le i h6 k hk hkn.1 hkd
    · rw [List.mem_singleton] at h6; rw [h6]; exact h5 k hk hkn.1 hkd
def restD (n : Nat) (pk : List Nat) : List Nat := (List.range n).filter (fun i => decide (i ∉ pk))
theorem KD.perm {l : List Di} {pk : List Nat} (h : KD l pk) : (pk ++ restD l.length pk).Perm (List.range l.length) := by
  have hnd : (pk ++ restD l.length pk).Nodup := by
    rw [List.nodup_append]
    refine ⟨h.nd, (List.nodup_range).filter _, fun x hx y hy e => ?_⟩
    subst e
    have := (List.mem_filter.1 hy).2
    simp at this
    exact this hx
  refine (List.perm_ext_iff_of_nodup hnd List.nodup_range).2 fun a => ?_
  rw [List.mem_append, restD, List.mem_filter, List.mem_range]
  constructor
  · rintro (h1 | h1)
    · exact (h.lt a h1).1
    · exact h1.1
  · intro h1
    by_cases h2 : a ∈ pk
    · exact .inl h2
    · exact .inr ⟨h1, by simpa using h2⟩
theorem KD.len {l : List Di} {pk : List Nat} (h : KD l pk) : pk.length ≤ l.length := by
  have := h.perm.length_eq
  rw [List.length_append, List.length_range] at this
  omega
/-- none that is left is dealt -/
def NoR (l : List Di) (pk : List Nat) : Prop := ∀ k : Nat, k < l.length → k ∉ pk → (getD' l (k : Int)).2 < 0
theorem KD.all {l : List Di} {pk : List Nat} (h : KD l pk) (hl : pk.length = l.length) : NoR l pk := fun k hk hn => by
  have h1 := h.perm.length_eq
  rw [List.length_append, List.length_range] at h1
  have h2 : k ∈ restD l.length pk := List.mem_filter.2 ⟨List.mem_range.2 hk, by simpa using hn⟩
  have h3 := List.length_pos_of_mem h2
  omega
theorem IND.none {l : List Di} {pk : List Nat} {z : Int} (h : IND l pk l.length z) (hz : z < 0) : NoR l pk := by
  rcases h with ⟨-, h2⟩ | ⟨a, h1, -⟩
  · exact h2
  · omega
theorem KD.done {l : List Di} {pk : List Nat} (h : KD l pk) (hr : NoR l pk) : ordD l = pk.map (fun i : Nat => (i : Int)) ++ (restD l.length pk).map (fun i : Nat => (i : Int)) := by
  symm
  refine ordD_of ?_ ?_
  · have := h.perm.map (fun i : Nat => (i : Int))
    rwa [List.map_append] at this
  · rw [List.pairwise_append]
    refine ⟨h.up, ?_, fun x hx y hy => ?_⟩
    · rw [List.pairwise_map]
      refine (List.pairwise_lt_range.sublist List.filter_sublist).imp_of_mem fun {a b} ha hb hab => ?_
      have h1 := List.mem_filter.1 ha
      have h2 := List.mem_filter.1 hb
      have h3 := hr a (List.mem_range.1 h1.1) (by simpa using h1.2)
      have h4 := hr b (List.mem_range.1 h2.1) (by simpa using h2.2)
      rw [leO_iff]
      exact .inr (.inl ⟨h3, h4, by omega⟩)
    · obtain ⟨i, hi, rfl⟩ := List.mem_map.1 hx
      obtain ⟨k, hk, rfl⟩ := List.mem_map.1 hy
      have h1 := List.mem_filter.1 hk
      rw [leO_iff]
      exact .inl ⟨hr k (List.mem_range.1 h1.1) (by simpa using h1.2), (h.lt i hi).2⟩
end Go.Sg
namespace Go.Proofs.YthchfdobdghdoaaGreat
open Go Go.RowKit Go.Sg
end Go.Proofs.YthchfdobdghdoaaGreat
end
section

/-
  The walk of shellgameref9.Order.
-/
namespace Go.Sg
open Go Go.RowKit
end Go.Sg
namespace Go.Proofs.YthchfdobdghdoaaGreat
open Go Go.RowKit Go.Sg
end Go.Proofs.YthchfdobdghdoaaGreat
end
section

/-
  The dealing as the document says it: the places that are left, found one behind the other: plain facts.
-/
namespace Go.Sg
open Go Go.RowKit
/-- which places are taken, when o that were left are given -/
def tkD (f : Nat → Int) (U : List Int) (o p : Nat) : Bool := decide (f p < 0) || decide ((p : Int) ∈ U.take o)
end Go.Sg
end
section
/-
  The walk of shellgameref9.Deal.
-/
namespace Go.Sg
open Go Go.RowKit
/-- the memory of the reference's dealing -/
structure XW (TS T TB : TypeId) (n S0 P L O base : Nat) (s : Sh) (st : St) (ord : List Int) (wo : World) (lv : Value) (w : World) : Prop where
  d : Blk w S0 #[.int .i64 s.1, .int .i64 s.2.1, .int .i64 s.2.2] TS
  p : w.rowIs P T n (fun r => .int .i64 (st.pl r))
  f : w.rowIs L TB n (fun r => .bool (decide (st.lf r < 0)))
  o : ∀ t u, (ord.map (Value.int .i64))[t]? = some u → w.cell? ⟨O, t, none⟩ = some u
  lost : w.ownsRow base T 1 lv st.lost.length (st.lost.map (Value.int .i64))
  fr : Below wo.heap.size wo w
  old : wo.heap.size ≤ S0 ∧ wo.heap.size ≤ P ∧ wo.heap.size ≤ L ∧ wo.heap.size ≤ O ∧ S0 < base ∧ P < base ∧ L < base ∧ O < base ∧ base ≤ w.heap.size
  ne : S0 ≠ P ∧ S0 ≠ L ∧ P ≠ L ∧ O ≠ P ∧ O ≠ L
section
variable {TS T TB : TypeId} {n S0 P L O base : Nat} {s : Sh} {st : St} {ord : List Int} {wo w w' : World} {lv : Value}
theorem XW.below (h : XW TS T TB n S0 P L O base s st ord wo lv w) (hb : Below w.heap.size w w') : XW TS T TB n S0 P L O base s st ord wo lv w' := by
  obtain ⟨o1, o2, o3, o4, o5, o6, o7, o8, o9⟩ := h.old
  have hk : ∀ k, k < w.heap.size → w'.heap[k]? = w.heap[k]? := fun k h1 => hb.block k h1
  exact ⟨h.d.below hb (by omega), h.p.of_block (hk P (by omega)), h.f.of_block (hk L (by omega)), fun t u hu => (hb.cell (p := ⟨O, t, none⟩) (show O < w.heap.size by omega)).trans (h.o t u hu), own_of h.lost (fun k hkk => hk k (h.lost.lt k hkk).2), h.fr.trans (hb.mono h.fr.size), ⟨o1, o2, o3, o4, o5, o6, o7, o8, Nat.le_trans o9 hb.size⟩, h.ne⟩
/-- one is placed -/
theorem XW.place {ds : Ds} {i q : Nat} {z : Int} (h : XW TS T TB n S0 P L O base s st ord wo lv w) : XW TS T TB n S0 P L O base s ⟨ds, upd st.pl i z, upd st.lf q (-1), st.lost⟩ ord wo lv ((w.setCell ⟨P, i, none⟩ (.int .i64 z)).setCell ⟨L, q, none⟩ (.bool true)) := by
  obtain ⟨o1, o2, o3, o4, o5, o6, o7, o8, o9⟩ := h.old
  obtain ⟨n1, n2, n3, n4, n5⟩ := h.ne
  have hO : ((w.setCell ⟨P, i, none⟩ (.int .i64 z)).setCell ⟨L, q, none⟩ (.bool true)).heap[O]? = w.heap[O]? := by
    rw [Go.Deep.blk_setCell_other _ _ _ _ (show O ≠ L by omega), Go.Deep.blk_setCell_other _ _ _ _ (show O ≠ P by omega)]
  refine ⟨(h.d.other _ _ n1).other _ _ n2, ((h.p.set i (.int .i64 z)).setOther n3 _).congr (fun r _ => by unfold upd; by_cases e : r = i <;> simp [e]), ((h.f.setOther (Ne.symm n3) _).set q (.bool true)).congr (fun r _ => by unfold upd; by_cases e : r = q <;> simp [e]), fun t u hu => (World.cell?_of_block (w := w) hO).trans (h.o t u hu),
    own_of h.lost (fun k hkk => ?_), below_setD (below_setD h.fr _ _ _ o2) _ _ _ o3, ⟨o1, o2, o3, o4, o5, o6, o7, o8, ?_⟩, h.ne⟩
  · have := (h.lost.lt k hkk).1
    rw [Go.Deep.blk_setCell_other _ _ _ _ (show k ≠ L by omega), Go.Deep.blk_setCell_other _ _ _ _ (show k ≠ P by omega)]
  · have hb := below_setD (below_setD (Below.refl wo.heap.size w) P i (.int .i64 z) o2) L q (.bool true) o3
    exact Nat.le_trans o9 hb.size
/-- one is lost -/
theorem XW.lose {ds : Ds} {i : Int} {v' : Value} {w1 : World} (h : XW TS T TB n S0 P L O base s st ord wo lv w) (hw1 : Below w.heap.size w w1) (hown : w'.ownsRow base T 1 v' (st.lost.length + 1) (st.lost.map (Value.int .i64) ++ [.int .i64 i])) (hg : w1.grownBy w' lv.ownBlock) : XW TS T TB n S0 P L O base s ⟨ds, st.pl, st.lf, st.lost ++ [i]⟩ ord wo v' w' := by
  have h1 := h.below hw1
  obtain ⟨o1, o2, o3, o4, o5, o6, o7, o8, o9⟩ := h1.old
  have hb : Below base w1 w' := (Below.refl base w1).grown hg o9 (fun k hk => (h.lost.lt k hk).1)
  exact ⟨blk_of h1.d (hb.block S0 o5), h1.p.of_block (hb.block P o6), h1.f.of_block (hb.block L o7), fun t u hu => (World.cell?_of_block (w := w1) (hb.block O o8)).trans (h1.o t u hu), by rw [List.length_append, List.length_singleton, List.map_append]; exact hown, h1.fr.trans (hb.mono (by omega)), ⟨o1, o2, o3, o4, o5, o6, o7, o8, Nat.le_trans o9 hb.size⟩, h1.ne⟩
end
end Go.Sg
namespace Go.Proofs.YthchfdobdghdoaaGreat
open Go Go.RowKit Go.Sg
end Go.Proofs.YthchfdobdghdoaaGreat
end
