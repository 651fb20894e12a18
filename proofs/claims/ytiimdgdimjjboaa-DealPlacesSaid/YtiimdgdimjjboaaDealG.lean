/-
  What a dealing has made, in plain Lean: who lies where, how many lie in the stash or are lost.
-/
import Derived.Test.YtiimdgdimjjboaaDealW
namespace Go.Sg
open Go Go.RowKit
theorem takeWhile_filter {α : Type} {p : α → Bool} : ∀ {l : List α}, l.Pairwise (fun a b => p b = true → p a = true) → l.takeWhile p = l.filter p
  | [], _ => rfl
  | a :: l, h => by
    rw [List.pairwise_cons] at h
    by_cases ha : p a = true
    · rw [List.takeWhile_cons, if_pos ha, List.filter_cons, if_pos ha, takeWhile_filter h.2]
    · rw [List.takeWhile_cons, if_neg ha, List.filter_cons, if_neg ha]
      symm
      rw [List.filter_eq_nil_iff]
      exact fun b hb hp => ha (h.1 b hb hp)
theorem realO_filter (l : List Di) : realO l = (ordD l).filter (fun i => decide (0 ≤ (getD' l i).2)) := by
  refine takeWhile_filter ((ordD_sorted l).imp fun {a b} h hb => ?_)
  rw [decide_eq_true_eq] at *
  rw [leO_iff] at h
  omega
theorem realO_mem {l : List Di} {i : Int} : i ∈ realO l ↔ (0 ≤ i ∧ i < l.length) ∧ 0 ≤ (getD' l i).2 := by
  rw [realO_filter, List.mem_filter, (ordD_perm l).mem_iff, idx_mem, decide_eq_true_eq]
theorem realO_nodup (l : List Di) : (realO l).Nodup := by
  rw [realO_filter]
  exact ((ordD_perm l).nodup_iff.2 (idx_nodup _)).sublist List.filter_sublist
theorem realO_desc (l : List Di) : (realO l).Pairwise (fun a b => (getD' l b).2 ≤ (getD' l a).2) := by
  have h : (realO l).Pairwise (leO l) := by
    rw [realO_filter]
    exact (ordD_sorted l).sublist List.filter_sublist
  refine h.imp_of_mem fun {a b} ha hb hab => ?_
  have h1 := (realO_mem.1 ha).2
  have h2 := (realO_mem.1 hb).2
  rw [leO_iff] at hab
  omega
theorem realO_count (l : List Di) (Q : Int → Bool) : (realO l).countP Q = (List.range l.length).countP (fun i : Nat => Q (i : Int) && decide (0 ≤ (getD' l (i : Int)).2)) := by
  rw [realO_filter, List.countP_filter, (ordD_perm l).countP_eq, idx, List.countP_map]
  rfl
theorem pair_take {α : Type} {R : α → α → Prop} {L : List α} (h : L.Pairwise R) {t : Nat} (ht : t < L.length) : ∀ j ∈ L.take t, R j L[t] := by
  intro j hj
  rw [← List.take_append_drop t L, List.pairwise_append] at h
  refine h.2.2 _ hj _ ?_
  rw [List.drop_eq_getElem_cons ht]
  exact List.mem_cons_self
theorem snoc_ind {α : Type} {P : List α → Prop} (L : List α) (h0 : P []) (h : ∀ t (ht : t < L.length), P (L.take t) → P (L.take t ++ [L[t]])) : P L := by
  have : ∀ t, t ≤ L.length → P (L.take t) := by
    intro t
    induction t with
    | zero => intro _; exact h0
    | succ t ih => intro ht; rw [List.take_succ_eq_append_getElem (by omega)]; exact h t (by omega) (ih (by omega))
  have := this L.length (Nat.le_refl _)
  rwa [List.take_length] at this
theorem place_deep {s : Sh} {x : Ds} {deep : Int} (hs : rightD s = true) (hx : DsOk s x) (_hd : 0 ≤ deep) (h0 : 0 ≤ (nextD s x deep).1) (hl : (nextD s x deep).1 < levelsD s) : (nextD s x deep).1 / s.2.1 ≤ deep := by
  rw [rightD_iff] at hs
  have hy : (sinkD x deep).1 ≤ deep ∧ 0 ≤ (sinkD x deep).2.1 ∧ (sinkD x deep).2.1 < s.2.1 ∧ 0 ≤ (sinkD x deep).2.2 := by
    obtain ⟨_, _, h1, h2, h3, _⟩ := hx
    unfold sinkD
    split
    · simp only; omega
    · omega
  unfold nextD at *
  generalize sinkD x deep = y at *
  unfold takeD at *
  by_cases hn : y.1 < 0
  · rw [if_pos hn] at h0 hl
    by_cases h2 : y.2.2 = s.2.2
    · rw [if_pos h2] at h0; simp only at h0; omega
    · rw [if_neg h2] at hl; simp only at hl; omega
  · rw [if_neg hn]
    simp only
    have := ((Int.ediv_emod_unique (a := y.1 * s.2.1 + y.2.1) (b := s.2.1) (r := y.2.1) (q := y.1) (by omega)).2 ⟨by rw [Int.mul_comm]; omega, hy.2.1, hy.2.2.1⟩).1
    omega
/-- where those lie that are dealt -/
structure PInv (s : Sh) (l : List Di) (done : List Int) (x : St) : Prop where
  ok : DsOk s x.ds
  pos : ∀ i : Nat, 0 ≤ x.pl i → (i : Int) ∈ done ∧ x.pl i < levelsD s + s.2.2 ∧ usedD s x.ds (x.pl i) ∧ (x.pl i < levelsD s → x.pl i / s.2.1 ≤ (getD' l (i : Int)).2)
  inj : ∀ i j : Nat, 0 ≤ x.pl i → x.pl i = x.pl j → i = j
  lf : ∀ p : Nat, x.lf p = p ∨ x.lf p = -1
  off : ∀ i : Nat, 0 ≤ x.pl i → x.lf (x.pl i).toNat = -1
  all : ∀ i ∈ done, i ∈ x.lost ∨ 0 ≤ x.pl i.toNat
theorem PInv.start (s : Sh) (hs : rightD s = true) (l : List Di) : PInv s l [] (st0 s) := by
  have hn : ∀ i : Nat, ¬ 0 ≤ (st0 s).pl i := fun i h => by have : (0 : Int) ≤ -1 := h; omega
  exact ⟨(DInv.start s hs 0).ok, fun i h => absurd h (hn i), fun i _ h => absurd h (hn i), fun p => .inl rfl, fun i h => absurd h (hn i), fun i h => by simp at h⟩
theorem PInv.step {s : Sh} {done : List Int} {x : St} {l : List Di} {i : Int} (hs : rightD s = true) (h : PInv s l done x) (hi0 : 0 ≤ i) (hdn : ∀ j ∈ done, 0 ≤ j) (hid : i ∉ done) (hd : 0 ≤ (getD' l i).2) :
    PInv s l (done ++ [i]) (stepSt s l x i) := by
  obtain ⟨h1, h2, h3⟩ := next_spec hs h.ok hd
  have h4 := place_deep hs h.ok hd
  unfold stepSt
  obtain ⟨e, he⟩ : ∃ e, (getD' l i).2 = e := ⟨_, rfl⟩
  rw [he] at h1 h2 h3 h4 ⊢
  generalize nextD s x.ds e = r at *
  have hap : ∀ j ∈ done ++ [i], j ∈ done ∨ j = i := fun j hj => by
    rcases List.mem_append.1 hj with h | h
    · exact .inl h
    · exact .inr (List.mem_singleton.1 h)
  by_cases hneg : r.1 < 0
  · rw [if_pos hneg]
    refine ⟨h1, fun j hj => ?_, h.inj, h.lf, h.off, fun j hj => ?_⟩
    · obtain ⟨p0, p1, p2, p3⟩ := h.pos j hj
      exact ⟨List.mem_append_left _ p0, p1, h2 _ p2, p3⟩
    · rcases hap j hj with h5 | h5
      · rcases h.all j h5 with h6 | h6
        · exact .inl (List.mem_append_left _ h6)
        · exact .inr h6
      · exact .inl (List.mem_append_right _ (by rw [h5]; exact List.mem_cons_self))
  · rw [if_neg hneg]
    obtain ⟨g1, g2, g3⟩ := h3 (by omega)
    have hi : ((i.toNat : Nat) : Int) = i := by omega
    refine ⟨h1, fun j hj => ?_, fun j k hj hjk => ?_, fun p => ?_, fun j hj => ?_, fun j hj => ?_⟩
    · simp only [upd] at hj ⊢
      by_cases hji : j = i.toNat
      · rw [if_pos hji]
        have : (j : Int) = i := by omega
        rw [this, he]
        exact ⟨List.mem_append_right _ List.mem_cons_self, g1, g3, h4 (by omega)⟩
      · rw [if_neg hji] at hj ⊢
        obtain ⟨p0, p1, p2, p3⟩ := h.pos j hj
        exact ⟨List.mem_append_left _ p0, p1, h2 _ p2, p3⟩
    · simp only [upd] at hj hjk
      by_cases hji : j = i.toNat
      · rw [if_pos hji] at hj hjk
        by_cases hki : k = i.toNat
        · omega
        · rw [if_neg hki] at hjk
          exact absurd (hjk ▸ (h.pos k (by omega)).2.2.1) g2
      · rw [if_neg hji] at hj hjk
        by_cases hki : k = i.toNat
        · rw [if_pos hki] at hjk
          exact absurd (hjk ▸ (h.pos j hj).2.2.1) g2
        · rw [if_neg hki] at hjk
          exact h.inj j k hj hjk
    · simp only [upd]
      by_cases hp : p = r.1.toNat
      · rw [if_pos hp]; exact .inr rfl
      · rw [if_neg hp]; exact h.lf p
    · show upd x.lf r.1.toNat (-1) (upd x.pl i.toNat r.1 j).toNat = -1
      by_cases hji : j = i.toNat
      · have e1 : upd x.pl i.toNat r.1 j = r.1 := by unfold upd; rw [if_pos hji]
        rw [e1]
        unfold upd
        rw [if_pos rfl]
      · have e1 : upd x.pl i.toNat r.1 j = x.pl j := by unfold upd; rw [if_neg hji]
        have hj' : 0 ≤ x.pl j := by rw [← e1]; exact hj
        rw [e1]
        unfold upd
        by_cases hp : (x.pl j).toNat = r.1.toNat
        · rw [if_pos hp]
        · rw [if_neg hp]; exact h.off j hj'
    · simp only [upd]
      by_cases hji : j.toNat = i.toNat
      · rw [if_pos hji]; exact .inr (by omega)
      · rw [if_neg hji]
        rcases hap j hj with h5 | h5
        · exact h.all j h5
        · rw [h5] at hji; exact absurd rfl hji
theorem end_pinv {s : Sh} (hs : rightD s = true) (l : List Di) : PInv s l (realO l) (endSt s l) := by
  unfold endSt
  refine snoc_ind (P := fun L => PInv s l L (runSt s l L)) (realO l) (PInv.start s hs l) (fun t ht h => ?_)
  have hm := realO_mem.1 (List.getElem_mem ht)
  rw [runSt_snoc]
  exact h.step hs hm.1.1 (fun j hj => (realO_mem.1 (List.mem_of_mem_take hj)).1.1) (fun hj => pair_take (realO_nodup l) ht _ hj rfl) hm.2
/-- how many may lie no deeper -/
def inC (s : Sh) (l : List Di) (done : List Int) (d : Int) : Int := (done.countP (fun i => decide (min (getD' l i).2 s.1 ≤ d)) : Nat)
theorem inC_snoc (s : Sh) (l : List Di) (done : List Int) (i d : Int) : inC s l (done ++ [i]) d = inC s l done d + if min (getD' l i).2 s.1 ≤ d then 1 else 0 := by
  unfold inC
  rw [List.countP_append, List.countP_singleton]
  by_cases h : min (getD' l i).2 s.1 ≤ d <;> simp [h]
theorem inC_zero {s : Sh} {l : List Di} {done : List Int} {d : Int} (h : ∀ i ∈ done, d < min (getD' l i).2 s.1) : inC s l done d = 0 := by
  unfold inC
  have : done.countP (fun i => decide (min (getD' l i).2 s.1 ≤ d)) = 0 := List.countP_eq_zero.2 fun i hi => by have := h i hi; simp; omega
  rw [this]; rfl
theorem inC_nn (s : Sh) (l : List Di) (done : List Int) (d : Int) : 0 ≤ inC s l done d := by unfold inC; omega
theorem next_cases (s : Sh) (lv on sh e : Int) (he : 0 ≤ e) :
    nextD s (lv, on, sh) e = if lv < 0 then (if sh = s.2.2 then (-1, (lv, on, sh)) else (levelsD s + sh, (lv, on, sh + 1)))
      else if e < lv then (e * s.2.1 + 0, if 0 + 1 = s.2.1 then (e - 1, 0, sh) else (e, 0 + 1, sh)) else (lv * s.2.1 + on, if on + 1 = s.2.1 then (lv - 1, 0, sh) else (lv, on + 1, sh)) := by
  unfold nextD sinkD takeD
  by_cases h1 : lv < 0
  · rw [if_pos h1, if_neg (show ¬ e < lv by omega), if_pos (show (lv, on, sh).1 < 0 from h1)]
  · rw [if_neg h1]
    by_cases h2 : e < lv
    · rw [if_pos (show e < (lv, on, sh).1 from h2), if_pos h2, if_neg (by simp only; omega)]
    · rw [if_neg (show ¬ e < (lv, on, sh).1 from h2), if_neg h2, if_neg (by simp only; omega)]
/-- how many lie in the stash, or are lost -/
structure CInv (s : Sh) (l : List Di) (done : List Int) (x : St) : Prop where
  ok : DsOk s x.ds
  full : x.lost ≠ [] → x.ds.1 < 0 ∧ x.ds.2.2 = s.2.2
  cnt : x.ds.2.2 + x.lost.length ≤ done.length
  sh : ((done.countP (fun i => decide (levelsD s ≤ x.pl i.toNat)) : Nat) : Int) = x.ds.2.2
  top : x.ds.1 < 0 ∨ (x.ds.2.2 = 0 ∧ x.lost = [])
  col : x.ds.1 < 0 → x.ds.2.1 = 0
  lev : ∀ i ∈ done, x.ds.1 ≤ (getD' l i).2
  up : ∀ d, 0 ≤ d → d ≤ s.1 → inC s l done d ≤ (if d < x.ds.1 then 0 else (d - x.ds.1) * s.2.1 + x.ds.2.1) + x.ds.2.2 + x.lost.length
  eq : ∃ R, 0 ≤ R ∧ R ≤ s.1 ∧ x.ds.1 ≤ R ∧ (R = s.1 ∨ ∃ j ∈ done, (getD' l j).2 = R) ∧ inC s l done R = (R - x.ds.1) * s.2.1 + x.ds.2.1 + x.ds.2.2 + x.lost.length
theorem CInv.start (s : Sh) (hs : rightD s = true) (l : List Di) : CInv s l [] (st0 s) := by
  have hs' := rightD_iff.1 hs
  refine ⟨(DInv.start s hs 0).ok, fun h => absurd rfl h, by simp [st0], by simp [st0], .inr ⟨rfl, rfl⟩, fun h => by have : s.1 < 0 := h; omega, fun i h => by simp at h, fun d h1 h2 => ?_, ⟨s.1, by omega, by omega, by show s.1 ≤ s.1; omega, .inl rfl, ?_⟩⟩
  · have : inC s l [] d = 0 := inC_zero (by simp)
    rw [this]
    show (0 : Int) ≤ (if d < s.1 then 0 else (d - s.1) * s.2.1 + 0) + 0 + 0
    by_cases h : d < s.1
    · rw [if_pos h]; omega
    · rw [if_neg h, show d - s.1 = 0 by omega]; omega
  · have : inC s l [] s.1 = 0 := inC_zero (by simp)
    rw [this]
    show (0 : Int) = (s.1 - s.1) * s.2.1 + 0 + 0 + 0
    rw [show s.1 - s.1 = 0 by omega]; omega
theorem CInv.step {s : Sh} {done : List Int} {x : St} {l : List Di} {i : Int} (hs : rightD s = true) (h : CInv s l done x) (hpn : x.pl i.toNat < 0) (hi0 : 0 ≤ i) (hdn : ∀ j ∈ done, 0 ≤ j) (hid : i ∉ done) (hd : 0 ≤ (getD' l i).2) (hde : ∀ j ∈ done, (getD' l i).2 ≤ (getD' l j).2) :
    CInv s l (done ++ [i]) (stepSt s l x i) := by
  have hok := (next_spec hs h.ok hd).1
  have hlb := levelsD_bd hs
  have hlm := levels_mul s
  rw [rightD_iff] at hs
  obtain ⟨⟨lv, on, sh⟩, pl, lf, lost⟩ := x
  obtain ⟨ho, hf, hc, hsh, ht, hcl, hlv, hu, R, r1, r2, r3, r4, r5⟩ := h
  simp only at ho hf hc hsh ht hcl hlv hu r3 r5 hpn hok
  obtain ⟨o1, o2, o3, o4, o5, o6⟩ := ho
  simp only at o1 o2 o3 o4 o5 o6
  have hR : ∀ e, (getD' l i).2 = e → min e s.1 ≤ R := fun e he => by
    rcases r4 with r4 | ⟨j, hj, r4⟩
    · omega
    · have := hde j hj; omega
  have hmem : ∀ Q : Int → Prop, (∀ j ∈ done, Q j) → Q i → ∀ j ∈ done ++ [i], Q j := fun Q h1 h2 j hj => by
    rcases List.mem_append.1 hj with h | h
    · exact h1 j h
    · rw [List.mem_singleton.1 h]; exact h2
  have hcnt : ∀ v : Int, (done.countP (fun j => decide (levelsD s ≤ upd pl i.toNat v j.toNat))) = done.countP (fun j => decide (levelsD s ≤ pl j.toNat)) := fun v => by
    refine List.countP_congr fun j hj => ?_
    have : j.toNat ≠ i.toNat := fun e => hid (by have := hdn j hj; rwa [show i = j by omega])
    simp [upd, this]
  unfold stepSt
  simp only
  have hnc := next_cases s lv on sh _ hd
  have hsn := inC_snoc s l done i
  obtain ⟨e, he⟩ : ∃ e, (getD' l i).2 = e := ⟨_, rfl⟩
  have hR' := hR e he
  have hle : ∀ j ∈ done, e ≤ (getD' l j).2 := fun j hj => by have := hde j hj; omega
  rw [he] at hnc hd hsn hok ⊢
  have hll : ∀ a b : List Int, (a ++ b).length = a.length + b.length := fun a b => List.length_append
  by_cases c1 : lv < 0
  · have hm1 : lv = -1 := by omega
    have hon := hcl c1
    rw [if_pos c1] at hnc
    by_cases c2 : sh = s.2.2
    · rw [if_pos c2] at hnc
      rw [hnc, if_pos (by simp only; omega)]
      refine ⟨⟨o1, o2, o3, o4, o5, o6⟩, fun _ => ⟨c1, c2⟩, ?_, ?_, .inl c1, hcl, hmem _ hlv (by simp only; omega), fun d d1 d2 => ?_, ⟨R, r1, r2, r3, r4.imp id (fun ⟨j, hj, hj2⟩ => ⟨j, List.mem_append_left _ hj, hj2⟩), ?_⟩⟩
      · simp only [List.length_append, List.length_singleton]; omega
      · simp only
        rw [List.countP_append, List.countP_singleton, if_neg (by simp; omega)]
        exact hsh
      · have := hu d d1 d2
        rw [hsn d]
        simp only [List.length_append, List.length_singleton]
        split <;> omega
      · rw [hsn R, if_pos hR']
        simp only [List.length_append, List.length_singleton]
        omega
    · rw [if_neg c2] at hnc
      rw [hnc] at hok ⊢
      rw [if_neg (by simp only; omega)]
      have hlost : lost = [] := by
        rcases Classical.em (lost = []) with h | h
        · exact h
        · exact absurd (hf h).2 c2
      refine ⟨hok, fun h => absurd hlost h, ?_, ?_, .inl c1, hcl, hmem _ hlv (by simp only; omega), fun d d1 d2 => ?_, ⟨R, r1, r2, r3, r4.imp id (fun ⟨j, hj, hj2⟩ => ⟨j, List.mem_append_left _ hj, hj2⟩), ?_⟩⟩
      · simp only [List.length_append, List.length_singleton]; omega
      · simp only
        rw [List.countP_append, List.countP_singleton, hcnt, if_pos (by simp [upd]; omega)]
        omega
      · have := hu d d1 d2
        rw [hsn d]
        simp only
        split <;> omega
      · rw [hsn R, if_pos hR']
        simp only
        omega
  · rw [if_neg c1] at hnc
    obtain ⟨hsh0, hlost⟩ : sh = 0 ∧ lost = [] := ht.resolve_left c1
    have hll0 : (lost.length : Int) = 0 := by rw [hlost]; rfl
    have hz : ∀ (a : Int), 0 ≤ a → a ≤ lv → a * s.2.1 ≤ lv * s.2.1 ∧ 0 ≤ a * s.2.1 := fun a h1 h2 => ⟨mulS h2 (by omega), Int.mul_nonneg h1 (by omega)⟩
    have hlD : lv * s.2.1 ≤ s.1 * s.2.1 := mulS o2 (by omega)
    by_cases c2 : e < lv
    · rw [if_pos c2] at hnc
      rw [hnc] at hok ⊢
      obtain ⟨z1, z2⟩ := hz e hd (by omega)
      rw [if_neg (by simp only; omega)]
      have h0 : ∀ d, d < lv → inC s l done d = 0 := fun d hd => inC_zero fun j hj => by have := hlv j hj; omega
      have key : ∀ d, 0 ≤ d → d ≤ s.1 → ∀ U : Int, (d < e → 0 ≤ U) → (e ≤ d → (d - e) * s.2.1 + 1 ≤ U) → inC s l (done ++ [i]) d ≤ U + sh + lost.length := fun d d1 d2 U u1 u2 => by
        have := hu d d1 d2
        rw [hsn d]
        by_cases a1 : d < lv
        · rw [h0 d a1]
          by_cases a2 : d < e
          · have := u1 a2
            rw [if_neg (by omega)]; omega
          · have := u2 (by omega)
            have : 0 ≤ (d - e) * s.2.1 := Int.mul_nonneg (by omega) (by omega)
            split <;> omega
        · rw [if_neg a1] at this
          have := u2 (by omega)
          have a3 : (d - lv + 1) * s.2.1 ≤ (d - e) * s.2.1 := mulS (by omega) (by omega)
          rw [Int.add_mul, Int.one_mul] at a3
          split <;> omega
      by_cases c3 : 0 + 1 = s.2.1
      · rw [if_pos c3] at hok ⊢
        have a4 : ∀ d, (d - (e - 1)) * s.2.1 = (d - e) * s.2.1 + s.2.1 := fun d => by rw [show d - (e - 1) = d - e + 1 by omega, Int.add_mul, Int.one_mul]
        refine ⟨hok, fun h => absurd hlost h, ?_, ?_, .inr ⟨hsh0, hlost⟩, fun _ => rfl, hmem _ (fun j hj => by simp only; have := hle j hj; omega) (by simp only; omega), fun d d1 d2 => ?_, ⟨e, hd, by omega, by simp only; omega, .inr ⟨i, List.mem_append_right _ List.mem_cons_self, he⟩, ?_⟩⟩
        · simp only [List.length_append, List.length_singleton]; omega
        · simp only
          rw [List.countP_append, List.countP_singleton, hcnt, if_neg (by simp [upd]; omega)]
          omega
        · simp only
          refine key d d1 d2 _ (fun h => ?_) (fun h => ?_)
          · by_cases h2 : d < e - 1
            · rw [if_pos h2]; omega
            · rw [if_neg h2, show d - (e - 1) = 0 by omega]; omega
          · rw [if_neg (by omega), a4]; omega
        · rw [hsn e, h0 e c2, if_pos (by omega)]
          simp only
          rw [a4, show e - e = 0 by omega]
          omega
      · rw [if_neg c3] at hok ⊢
        refine ⟨hok, fun h => absurd hlost h, ?_, ?_, .inr ⟨hsh0, hlost⟩, fun h => by simp only at h; omega, hmem _ (fun j hj => by simp only; have := hle j hj; omega) (by simp only; omega), fun d d1 d2 => ?_, ⟨e, hd, by omega, by simp only; omega, .inr ⟨i, List.mem_append_right _ List.mem_cons_self, he⟩, ?_⟩⟩
        · simp only [List.length_append, List.length_singleton]; omega
        · simp only
          rw [List.countP_append, List.countP_singleton, hcnt, if_neg (by simp [upd]; omega)]
          omega
        · simp only
          refine key d d1 d2 _ (fun h => ?_) (fun h => ?_)
          · rw [if_pos h]; omega
          · rw [if_neg (by omega)]; omega
        · rw [hsn e, h0 e c2, if_pos (by omega)]
          simp only
          rw [show e - e = 0 by omega]
          omega
    · rw [if_neg c2] at hnc
      rw [hnc] at hok ⊢
      obtain ⟨z1, z2⟩ := hz lv (by omega) (by omega)
      rw [if_neg (by simp only; omega)]
      have key : ∀ d, 0 ≤ d → d ≤ s.1 → ∀ U : Int, (d < lv → 0 ≤ U) → (lv ≤ d → (d - lv) * s.2.1 + on + 1 ≤ U) → inC s l (done ++ [i]) d ≤ U + sh + lost.length := fun d d1 d2 U u1 u2 => by
        have := hu d d1 d2
        rw [hsn d]
        by_cases a1 : d < lv
        · rw [if_pos a1] at this
          have := u1 a1
          rw [if_neg (by omega)]; omega
        · rw [if_neg a1] at this
          have := u2 (by omega)
          split <;> omega
      by_cases c3 : on + 1 = s.2.1
      · rw [if_pos c3] at hok ⊢
        have a4 : ∀ d, (d - (lv - 1)) * s.2.1 = (d - lv) * s.2.1 + s.2.1 := fun d => by rw [show d - (lv - 1) = d - lv + 1 by omega, Int.add_mul, Int.one_mul]
        refine ⟨hok, fun h => absurd hlost h, ?_, ?_, .inr ⟨hsh0, hlost⟩, fun _ => rfl, hmem _ (fun j hj => by simp only; have := hlv j hj; omega) (by simp only; omega), fun d d1 d2 => ?_, ⟨R, r1, r2, by simp only; omega, r4.imp id (fun ⟨j, hj, hj2⟩ => ⟨j, List.mem_append_left _ hj, hj2⟩), ?_⟩⟩
        · simp only [List.length_append, List.length_singleton]; omega
        · simp only
          rw [List.countP_append, List.countP_singleton, hcnt, if_neg (by simp [upd]; omega)]
          omega
        · simp only
          refine key d d1 d2 _ (fun h => ?_) (fun h => ?_)
          · by_cases h2 : d < lv - 1
            · rw [if_pos h2]; omega
            · rw [if_neg h2, show d - (lv - 1) = 0 by omega]; omega
          · rw [if_neg (by omega), a4]; omega
        · rw [hsn R, if_pos hR']
          simp only
          rw [a4]
          omega
      · rw [if_neg c3] at hok ⊢
        refine ⟨hok, fun h => absurd hlost h, ?_, ?_, .inr ⟨hsh0, hlost⟩, fun h => by simp only at h; omega, hmem _ (fun j hj => by simp only; have := hlv j hj; omega) (by simp only; omega), fun d d1 d2 => ?_, ⟨R, r1, r2, by simp only; omega, r4.imp id (fun ⟨j, hj, hj2⟩ => ⟨j, List.mem_append_left _ hj, hj2⟩), ?_⟩⟩
        · simp only [List.length_append, List.length_singleton]; omega
        · simp only
          rw [List.countP_append, List.countP_singleton, hcnt, if_neg (by simp [upd]; omega)]
          omega
        · simp only
          refine key d d1 d2 _ (fun h => ?_) (fun h => ?_)
          · rw [if_pos h]; omega
          · rw [if_neg (by omega)]; omega
        · rw [hsn R, if_pos hR']
          simp only
          omega
end Go.Sg
