/-
  The walk of deal.Deal.
-/
import Derived.Test.YtiimdgdimjjboaaDealP
import Derived.Test.YtiimdgdimjjboaaDealR
import Derived.Test.YtiimdgdimjjboaaDealM
import Derived.Deep.DeepCutAuto
import Derived.Maps.AppendAt
namespace Go.Sg
open Go Go.RowKit
/-- the memory of a dealing -/
structure DW (TD T : TypeId) (n D P L O base : Nat) (s : Sh) (st : St) (ord : List Int) (wo : World) (lv : Value) (w : World) : Prop where
  d : Blk w D #[.int .i64 s.1, .int .i64 s.2.1, .int .i64 s.2.2, .int .i64 st.ds.1, .int .i64 st.ds.2.1, .int .i64 st.ds.2.2] TD
  p : w.rowIs P T n (fun r => .int .i64 (st.pl r))
  f : w.rowIs L T n (fun r => .int .i64 (st.lf r))
  o : Blk w O (ord.map (Value.int .i64)).toArray T
  lost : w.ownsRow base T 1 lv st.lost.length (st.lost.map (Value.int .i64))
  fr : Below wo.heap.size wo w
  old : wo.heap.size ≤ D ∧ wo.heap.size ≤ P ∧ wo.heap.size ≤ L ∧ wo.heap.size ≤ O ∧ D < base ∧ P < base ∧ L < base ∧ O < base ∧ base ≤ w.heap.size
  ne : D ≠ P ∧ D ≠ L ∧ P ≠ L ∧ O ≠ D ∧ O ≠ P ∧ O ≠ L
section
variable {TD T : TypeId} {n D P L O base : Nat} {s : Sh} {st : St} {ord : List Int} {wo w w' : World} {lv : Value}
theorem blk_of {b : Nat} {cs : Array Value} {t : TypeId} (h : Blk w b cs t) (e : w'.heap[b]? = w.heap[b]?) : Blk w' b cs t := by unfold Blk at *; rw [e]; exact h
theorem own_of {B : Nat} {e : TypeId} {size : Nat} {v : Value} {m : Nat} {xs : List Value} (h : w.ownsRow B e size v m xs) (hb : ∀ k, v.ownBlock = some k → w'.heap[k]? = w.heap[k]?) : w'.ownsRow B e size v m xs := by
  refine ⟨h.1, ?_⟩
  rcases h.2 with h2 | ⟨g, cap, cur, rfl, hbg, hg, h3⟩
  · exact .inl h2
  · exact .inr ⟨g, cap, cur, rfl, hbg, by rw [hb g rfl]; exact hg, h3⟩
/-- the dealer turns -/
theorem DW.turn {ds : Ds} (h : DW TD T n D P L O base s st ord wo lv w) (hx : NX TD w D #[.int .i64 s.1, .int .i64 s.2.1, .int .i64 s.2.2, .int .i64 ds.1, .int .i64 ds.2.1, .int .i64 ds.2.2] w') : DW TD T n D P L O base s ⟨ds, st.pl, st.lf, st.lost⟩ ord wo lv w' := by
  have hk : ∀ k, k < w.heap.size → k ≠ D → w'.heap[k]? = w.heap[k]? := fun k h1 h2 => hx.2.block k h1 h2
  obtain ⟨o1, o2, o3, o4, o5, o6, o7, o8, o9⟩ := h.old
  obtain ⟨n1, n2, n3, n4, n5, n6⟩ := h.ne
  refine ⟨hx.1, h.p.of_block (hk P (by omega) (Ne.symm n1)), h.f.of_block (hk L (by omega) (Ne.symm n2)), blk_of h.o (hk O (by omega) n4), own_of h.lost (fun k hkk => hk k (h.lost.lt k hkk).2 (by have := (h.lost.lt k hkk).1; omega)), ?_, ⟨o1, o2, o3, o4, o5, o6, o7, o8, Nat.le_trans o9 hx.2.size⟩, h.ne⟩
  exact h.fr.trans (hx.2.below (fun k hk => by rw [hk]; exact o1) h.fr.size)
theorem DW.below (h : DW TD T n D P L O base s st ord wo lv w) (hb : Below w.heap.size w w') : DW TD T n D P L O base s st ord wo lv w' := by
  obtain ⟨o1, o2, o3, o4, o5, o6, o7, o8, o9⟩ := h.old
  have hk : ∀ k, k < w.heap.size → w'.heap[k]? = w.heap[k]? := fun k h1 => hb.block k h1
  exact ⟨h.d.below hb (by omega), h.p.of_block (hk P (by omega)), h.f.of_block (hk L (by omega)), blk_of h.o (hk O (by omega)), own_of h.lost (fun k hkk => hk k (h.lost.lt k hkk).2), h.fr.trans (hb.mono h.fr.size), ⟨o1, o2, o3, o4, o5, o6, o7, o8, Nat.le_trans o9 hb.size⟩, h.ne⟩
/-- one is placed -/
theorem DW.place {i q : Nat} {z : Int} (h : DW TD T n D P L O base s st ord wo lv w) : DW TD T n D P L O base s ⟨st.ds, upd st.pl i z, upd st.lf q (-1), st.lost⟩ ord wo lv ((w.setCell ⟨P, i, none⟩ (.int .i64 z)).setCell ⟨L, q, none⟩ (.int .i64 (-1))) := by
  obtain ⟨o1, o2, o3, o4, o5, o6, o7, o8, o9⟩ := h.old
  obtain ⟨n1, n2, n3, n4, n5, n6⟩ := h.ne
  refine ⟨(h.d.other _ _ n1).other _ _ n2, ((h.p.set i (.int .i64 z)).setOther n3 _).congr (fun r _ => by unfold upd; by_cases e : r = i <;> simp [e]), ((h.f.setOther (Ne.symm n3) _).set q (.int .i64 (-1))).congr (fun r _ => by unfold upd; by_cases e : r = q <;> simp [e]), (h.o.other _ _ n5).other _ _ n6,
    own_of h.lost (fun k hkk => ?_), below_setD (below_setD h.fr _ _ _ o2) _ _ _ o3, ⟨o1, o2, o3, o4, o5, o6, o7, o8, ?_⟩, h.ne⟩
  · have := (h.lost.lt k hkk).1
    rw [Go.Deep.blk_setCell_other _ _ _ _ (show k ≠ L by omega), Go.Deep.blk_setCell_other _ _ _ _ (show k ≠ P by omega)]
  · have hb := below_setD (below_setD (Below.refl wo.heap.size w) P i (.int .i64 z) o2) L q (.int .i64 (-1)) o3
    exact Nat.le_trans o9 hb.size
/-- one is lost -/
theorem DW.lose {i : Int} {v' : Value} {w1 : World} (h : DW TD T n D P L O base s st ord wo lv w) (hw1 : Below w.heap.size w w1) (hown : w'.ownsRow base T 1 v' (st.lost.length + 1) (st.lost.map (Value.int .i64) ++ [.int .i64 i])) (hg : w1.grownBy w' lv.ownBlock) : DW TD T n D P L O base s ⟨st.ds, st.pl, st.lf, st.lost ++ [i]⟩ ord wo v' w' := by
  have h1 := h.below hw1
  obtain ⟨o1, o2, o3, o4, o5, o6, o7, o8, o9⟩ := h1.old
  have hb : Below base w1 w' := (Below.refl base w1).grown hg o9 (fun k hk => (h.lost.lt k hk).1)
  exact ⟨blk_of h1.d (hb.block D o5), h1.p.of_block (hb.block P o6), h1.f.of_block (hb.block L o7), blk_of h1.o (hb.block O o8), by rw [List.length_append, List.length_singleton, List.map_append]; exact hown, h1.fr.trans (hb.mono (by omega)), ⟨o1, o2, o3, o4, o5, o6, o7, o8, Nat.le_trans o9 hb.size⟩, h1.ne⟩
end
/-- where items go -/
def endSt (s : Sh) (l : List Di) : St := runSt s l (realO l)
def fitD (s : Sh) (l : List Di) : Bool := rightD s && decide ((l.length : Int) = placesD s)
def dealP (s : Sh) (l : List Di) : List Int := if fitD s l then fillL ((List.range l.length).map (endSt s l).pl) (keptD (endSt s l).lf l.length) else []
def dealLost (s : Sh) (l : List Di) : List Int := if fitD s l then (endSt s l).lost else []
theorem realO_of {l : List Di} {t : Nat} (h1 : ∀ x ∈ (ordD l).take t, 0 ≤ (getD' l x).2) (h2 : ∀ x, (ordD l)[t]? = some x → (getD' l x).2 < 0) : realO l = (ordD l).take t := by
  unfold realO
  generalize ordD l = o at *
  induction o generalizing t with
  | nil => simp
  | cons a o ih =>
    cases t with
    | zero =>
      have := h2 a rfl
      rw [List.takeWhile_cons, if_neg (by simp; omega)]
      rfl
    | succ t =>
      rw [List.take_succ_cons] at h1 ⊢
      rw [List.takeWhile_cons, if_pos (by simpa using h1 a List.mem_cons_self), ih (fun x hx => h1 x (List.mem_cons_of_mem _ hx)) (fun x hx => h2 x (by simpa using hx))]
theorem foldl_lost (s : Sh) (l : List Di) : ∀ (is : List Int) (x : St), (is.foldl (stepSt s l) x).lost.length ≤ x.lost.length + is.length
  | [], x => by simp
  | i :: is, x => by
    rw [List.foldl_cons]
    have h1 := foldl_lost s l is (stepSt s l x i)
    have h2 : (stepSt s l x i).lost.length ≤ x.lost.length + 1 := by
      unfold stepSt
      split <;> simp
    rw [List.length_cons]
    omega
theorem runSt_lost (s : Sh) (l : List Di) (is : List Int) : (runSt s l is).lost.length ≤ is.length := by
  have := foldl_lost s l is (st0 s)
  simpa [st0, runSt] using this
theorem below_rowD {B : Nat} {a w : World} (h : Below B a w) (g : Nat) (cs : Array Value) (hg : B ≤ g) : Below B a (w.setRow g cs) := by
  refine ⟨h.os, h.tape, h.output, ?_, fun k hk => ?_⟩
  · have := h.size
    simpa [World.setRow] using this
  · rw [← h.block k hk]
    have : g ≠ k := by omega
    simp [World.setRow, Array.getElem?_modify, this]
theorem slice_eqD {p : Option Addr} {a b c d : Nat} (h1 : a = b) (h2 : c = d) : Value.slice p a c = Value.slice p b d := by rw [h1, h2]
theorem cells_litD (w : World) (us : List Value) (e : TypeId) : ∀ (j : Nat) u, us[j]? = some u → (w.alloc (.cells us.toArray e)).cell? ((⟨w.heap.size, 0, none⟩ : Addr).add j) = some u := fun j u hu => by
  rw [addr_add, Nat.zero_add]
  exact ((Blk.new w us.toArray e).cell j).trans (by simpa using hu)
def negs (ps : List Int) (i : Nat) : Nat := (ps.take i).countP (fun x => decide (x < 0))
theorem fillL_at : ∀ (ps lf : List Int) (i : Nat) (h : i < ps.length), (fillL ps lf)[i]'(by rw [fillL_len]; exact h) = if ps[i] < 0 then lf.getD (negs ps i) 0 else ps[i]
  | p :: ps, lf, 0, h => by
    by_cases hp : p < 0
    · simp [fillL, hp, negs, List.getD_eq_getElem?_getD, List.head?_eq_getElem?, List.headD_eq_head?_getD]
    · simp [fillL, hp]
  | p :: ps, lf, i + 1, h => by
    have h2 : i < ps.length := by simpa using h
    by_cases hp : p < 0
    · have ih := fillL_at ps lf.tail i h2
      have e : negs (p :: ps) (i + 1) = negs ps i + 1 := by simp [negs, hp]
      simp only [fillL, hp, if_true, List.getElem_cons_succ, ih, e]
      cases lf <;> simp [List.getD_eq_getElem?_getD]
    · have ih := fillL_at ps lf i h2
      have e : negs (p :: ps) (i + 1) = negs ps i := by simp [negs, hp]
      simp only [fillL, hp, if_false, List.getElem_cons_succ, ih, e]
theorem negs_map (f : Nat → Int) {n i : Nat} (h : i ≤ n) : negs ((List.range n).map f) i = cntN f i := by
  unfold negs cntN
  rw [← List.map_take, List.take_range, Nat.min_eq_left h, List.countP_map]
  rfl
theorem fill_get (f : Nat → Int) (lf : List Int) {n i : Nat} (h : i < n) : (fillL ((List.range n).map f) lf)[i]? = some (if f i < 0 then lf.getD (cntN f i) 0 else f i) := by
  have h1 : i < (fillL ((List.range n).map f) lf).length := by rw [fillL_len]; simpa using h
  rw [List.getElem?_eq_getElem h1, fillL_at _ _ _ (by simpa using h), negs_map f (by omega)]
  simp
theorem cntN_mono (f : Nat → Int) {i n : Nat} (h : i ≤ n) : cntN f i ≤ cntN f n := by
  induction n with
  | zero => have : i = 0 := by omega
            rw [this]; exact Nat.le_refl _
  | succ n ih =>
    rcases Nat.lt_or_ge n i with h1 | h1
    · have : i = n + 1 := by omega
      rw [this]; exact Nat.le_refl _
    · rw [cntN_succ]
      have := ih h1
      omega
theorem take_notmem {l : List Di} {t : Nat} (h : t < (ordD l).length) : (ordD l)[t] ∉ (ordD l).take t := by
  intro hm
  have hn : (ordD l).Nodup := (ordD_perm l).nodup_iff.2 (idx_nodup _)
  rw [← List.take_append_drop t (ordD l), List.nodup_append] at hn
  refine hn.2.2 _ hm _ ?_ rfl
  rw [List.drop_eq_getElem_cons h]
  exact List.mem_cons_self
end Go.Sg
